/-
  From the reading of a handed graph to the values of the abstract machine.
-/
import Derived.Test.YtjkmhjjfipnbbaaBr
import Derived.Test.YtjkmhjjfipnbbaaTa
import Derived.Test.YtjkmhjjfipnbbaaRows
import Derived.WalkKit
import Derived.ProofKit
import Derived.OpenShut
import Derived.ChangeOld
import Derived.Below
namespace Go.Proofs.Ytjkmhjjfipnbbaa
open Go.Abs Go.Sand Go.ChangeShapes Go.WideShapes Go.ChangeAt Go.RowKit

theorem own : ownKnob Try.prog.godebug = none := by kernel_rfl
theorem laidOut : laidOutB Try.prog = true := by kernel_rfl
section
variable {H : Type} {enc : TypeId × Value → H} {w : World} {base : Nat} {spare : Nat → Bool} {held : Bool} {fuel : Nat} {cs : List Value} {x : DataW H × List MemPlace}
theorem cells_int : Try.prog.cellsOf 3 = 1 := by kernel_rfl
theorem cells_edges : Try.prog.cellsOf 22 = 1 := by kernel_rfl
theorem cells_edge : Try.prog.cellsOf 99 = 3 := by kernel_rfl
theorem cells_graph : Try.prog.cellsOf 24 = 2 := by kernel_rfl
theorem one3 {cs : List Value} (h : cs.length = 3) : ∃ a b c, cs = [a, b, c] := by
  match cs, h with
  | [a, b, c], _ => exact ⟨a, b, c, rfl⟩
theorem one2 {cs : List Value} (h : cs.length = 2) : ∃ a b, cs = [a, b] := by
  match cs, h with
  | [a, b], _ => exact ⟨a, b, rfl⟩
set_option maxRecDepth 100000 in
theorem open_edge (h : DataW.trod enc Try.prog w base spare held fuel 99 cs = some x) : ∃ b : Ed, ∀ i (h : i < (edP b).flat.length) (h' : i < cs.length), RP (Here w) w (edP b).flat[i] cs[i] := by
  obtain ⟨y0, y1, y2, n, -, hl, h0, h1, h2⟩ := Go.Deep.trod_struct3 Try.underlying99 h
  rw [cells_edge] at hl
  obtain ⟨a, b, c, rfl⟩ := one3 hl
  dsimp only at h0 h1 h2
  rw [cells_int] at h0 h1 h2
  obtain ⟨p, e0, r0⟩ := open_int (t := 3) Try.underlying3 h0
  obtain ⟨q, e1, r1⟩ := open_int (t := 3) Try.underlying3 h1
  obtain ⟨m, e2, r2⟩ := open_int (t := 3) Try.underlying3 h2
  simp at e0 e1 e2
  subst e0 e1 e2
  refine ⟨⟨p, q, m⟩, fun i hi hi' => ?_⟩
  match i, hi' with
  | 0, _ => exact r0
  | 1, _ => exact r1
  | 2, _ => exact r2
set_option maxRecDepth 100000 in
theorem open_graph (h : DataW.trod enc Try.prog w base spare held fuel 24 cs = some x) : ∃ (N : Int) (es : List Ed) (v : Value), cs = [.int .i64 N, v] ∧ RP (Here w) w (.sl (es.map edP)) v := by
  obtain ⟨y0, y1, n, -, hl, h0, h1⟩ := trod_struct2 Try.underlying24 h
  rw [cells_graph] at hl
  obtain ⟨a, b, rfl⟩ := one2 hl
  dsimp only at h0 h1
  rw [cells_int] at h0
  rw [cells_edges] at h1
  obtain ⟨N, e0, r0⟩ := open_int (t := 3) Try.underlying3 h0
  obtain ⟨es, v, e1, r1⟩ := open_sl edP 3 (by decide) Try.underlying22 cells_edge (fun b => ⟨rfl, fun q hq => by
    simp [PV.flat] at hq
    rcases hq with rfl | rfl | rfl <;> rfl⟩) open_edge h1
  simp at e0 e1
  subst e0 e1
  exact ⟨N, es, _, rfl, r1⟩
theorem RP_graph {N : Int} {es : List Ed} {v : Value} {cs : Array Value} (h : cs.toList = [.int .i64 N, v]) (hr : RP (Here w) w (.sl (es.map edP)) v) : RP (Here w) w (G N es) (.agg cs) := by
  obtain rfl : cs = #[.int .i64 N, v] := by cases cs; simp_all
  refine .agg _ _ rfl (fun e he => by simp at he; rcases he with rfl | rfl <;> rfl) fun i hi hi' => ?_
  match i, hi' with
  | 0, _ => exact .v _ rfl
  | 1, _ => exact hr
end
/-- A contract that leaves true serves as the walk. -/
theorem walk_of {f : FuncId} {ps : List PV} {vs : List Value} {w : World} (h : PC Try.prog f ps (.b true) []) (hr : RPs (Here w) w ps vs) : Calls Try.prog f vs.toArray w fun e w' => e = .returned (.bool true) ∧ Below w.heap.size w w' := by
  refine (h w (fun _ => True) vs ⟨hr.1, fun i hi hi' => (hr.2 i hi hi').mono fun b hb => ⟨⟨hb, trivial⟩, rfl⟩⟩).mono ?_
  rintro e w' ⟨v, φ, rfl, -, hv, hb⟩
  refine ⟨?_, hb⟩
  have := hv.lit
  rw [this.1]
end Go.Proofs.Ytjkmhjjfipnbbaa

