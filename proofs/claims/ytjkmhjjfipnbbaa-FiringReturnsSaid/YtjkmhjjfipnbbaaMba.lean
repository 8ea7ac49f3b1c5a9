/-
  From the reading of a handed argument to the values of the abstract machine.
-/
import Derived.Test.YtjkmhjjfipnbbaaMac
import Derived.Deep.Strs
import Derived.ChangeArms
import Derived.Test.YtjkmhjjfipnbbaaMra
import Derived.Test.YtjkmhjjfipnbbaaRows
import Derived.WalkKit
import Derived.ProofKit
import Derived.OpenShut
import Derived.ChangeOld
import Derived.Below
namespace Go
namespace Abs
open Go.RowKit

section
variable {H : Type} {enc : TypeId × Value → H} {P : Program} {w : World} {base : Nat} {spare : Nat → Bool} {held : Bool} {fuel : Nat} {cs : List Value} {x : DataW H × List MemPlace} {t : TypeId}
/-- What stands in memory now. -/
abbrev Here (w : World) : Nat → Prop := fun b => b < w.heap.size
theorem open_int (ht : P.underlying t = some (.int .i64)) (h : DataW.trod enc P w base spare held fuel t cs = some x) : ∃ n : Int, cs = [.int .i64 n] ∧ RP (Here w) w (.i n) (.int .i64 n) := by
  obtain ⟨n, h1, -, -⟩ := DataW.trod_int ht h
  exact ⟨n, h1, .v _ rfl⟩
theorem addr_plus {a : Addr} (h : a.spot = none) (n : Nat) : a.add n = ⟨a.block, a.off + n, none⟩ := by
  unfold Addr.add
  split
  · rename_i e; subst e; cases a; cases h; rfl
  · rfl
theorem cell_spot {a : Addr} {v : Value} (h : w.cell? a = some v) : a.spot = none ∧ a.block < w.heap.size := by
  unfold World.cell? at h
  split at h
  · rename_i c t' z hb
    split at h
    · cases h
    · rename_i hs
      exact ⟨by cases ha : a.spot; rfl; rw [ha] at hs; exact absurd rfl hs, (Array.getElem?_eq_some_iff.1 hb).1⟩
  · cases h
theorem open_sl {e : TypeId} {β : Type} (g : β → PV) (sz : Nat) (hpos : 0 < sz) (ht : P.underlying t = some (.slice e)) (hc : P.cellsOf e = sz) (hg : ∀ b, (g b).flat.length = sz ∧ ∀ q ∈ (g b).flat, q.one = true)
    (hel : ∀ {fuel : Nat} {cs : List Value} {x : DataW H × List MemPlace}, DataW.trod enc P w base spare held fuel e cs = some x → ∃ b, ∀ i (h : i < (g b).flat.length) (h' : i < cs.length), RP (Here w) w (g b).flat[i] cs[i])
    (h : DataW.trod enc P w base spare held fuel t cs = some x) : ∃ (bs : List β) (v : Value), cs = [v] ∧ RP (Here w) w (.sl (bs.map g)) v := by
  rcases DataW.trod_slice ht h with ⟨h0, -⟩ | ⟨a, len, cap, elems, rest, n, -, rfl, -, -, hl, hm, hlen, hels, -, -⟩
  · refine ⟨[], _, h0, ?_⟩
    exact .sl [] none 0 0 (fun _ _ => undef) (by simp) (by simp) (fun i h => by simp at h) (.inl rfl) (fun i h => by simp at h)
  have each : ∀ i : _root_.Fin len, ∃ p : List Value × β, w.cells? base (a.add (i.1 * P.cellsOf e)) (P.cellsOf e) = some p.1 ∧ ∀ j (h : j < (g p.2).flat.length) (h' : j < p.1.length), RP (Here w) w (g p.2).flat[j] p.1[j] := by
    intro i
    have hb := hels i.1 i.2
    rw [List.getElem?_eq_getElem (by omega), Option.bind_eq_some_iff] at hb
    obtain ⟨cs', h1, h2⟩ := hb
    obtain ⟨b, hb⟩ := hel h2
    exact ⟨⟨cs', b⟩, h1, hb⟩
  obtain ⟨F, hF⟩ : ∃ F : _root_.Fin len → List Value × β, ∀ i, w.cells? base (a.add (i.1 * P.cellsOf e)) (P.cellsOf e) = some (F i).1 ∧ ∀ j (h : j < (g (F i).2).flat.length) (h' : j < (F i).1.length), RP (Here w) w (g (F i).2).flat[j] (F i).1[j] :=
    ⟨fun i => (each i).choose, fun i => (each i).choose_spec⟩
  refine ⟨List.ofFn fun i => (F i).2, _, rfl, ?_⟩
  have hlen' : ((List.ofFn fun i => (F i).2).map g).length = len := by simp
  have hsz : ∀ i, (F i).1.length = sz := fun i => by rw [(World.cells?_some (hF i).1).2.1, hc]
  have hcell : ∀ i : _root_.Fin len, ∀ j (hj : j < sz), w.cell? ((a.add (i.1 * sz)).add j) = some ((F i).1[j]'(by rw [hsz]; exact hj)) := by
    intro i j hj
    have := (World.cells?_some (hF i).1).2.2 j (by rw [hc]; exact hj)
    rw [hc] at this
    rw [this, List.getElem?_eq_getElem]
  have main := RP.sl (S := Here w) (w := w) ((List.ofFn fun i => (F i).2).map g) (some a) cap sz (fun i j => if h : i < len then (F ⟨i, h⟩).1.getD j undef else undef) (by rw [hlen']; exact hl) hm (fun i hi => by
      rw [List.getElem_map]; exact hg _) ?_ ?_
  · rw [hlen'] at main
    exact main
  · rcases Nat.eq_zero_or_pos len with h0 | h0
    · left
      exact List.eq_nil_of_length_eq_zero (by rw [hlen', h0])
    · right
      have h1 := hcell ⟨0, h0⟩ 0 hpos
      simp only [Nat.zero_mul] at h1
      have h2 : a.add 0 = a := rfl
      rw [h2, h2] at h1
      obtain ⟨s1, s2⟩ := cell_spot h1
      refine ⟨a.block, a.off, by cases a; cases s1; rfl, s2, fun i j hi hj => ?_⟩
      rw [hlen'] at hi
      have h3 := hcell ⟨i, hi⟩ j hj
      rw [addr_plus s1, addr_plus rfl] at h3
      rw [dif_pos hi]
      refine h3.trans ?_
      rw [List.getD_eq_getElem?_getD, List.getElem?_eq_getElem]
      rfl
  · intro i hi j hj
    rw [hlen'] at hi
    simp only [List.getElem_map, List.getElem_ofFn] at hj ⊢
    rw [dif_pos hi, List.getD_eq_getElem?_getD, List.getElem?_eq_getElem (by rw [hsz, ← (hg (F ⟨i, hi⟩).2).1]; exact hj)]
    exact (hF ⟨i, hi⟩).2 j hj _
/-- A list of numbers. -/
theorem open_is {e : TypeId} (ht : P.underlying t = some (.slice e)) (he : P.underlying e = some (.int .i64)) (hc : P.cellsOf e = 1) (h : DataW.trod enc P w base spare held fuel t cs = some x) :
    ∃ (l : List Int) (v : Value), cs = [v] ∧ RP (Here w) w (.is l) v :=
  open_sl PV.i 1 (by decide) ht hc (fun b => ⟨rfl, fun q hq => by simp [PV.flat] at hq; subst hq; rfl⟩) (fun h => by
    obtain ⟨n, rfl, hr⟩ := open_int he h
    exact ⟨n, fun i hi hi' => by
      have : i = 0 := by simp at hi'; omega
      subst this; exact hr⟩) h
end
end Abs
end Go
/-
  From the reading of a handed graph to the values of the abstract machine.
-/
namespace Go.Proofs.Ytjkmhjjfipnbbaa
open Go.Abs Go.Sand Go.ChangeShapes Go.WideShapes Go.ChangeAt Go.RowKit

theorem own : ownKnob Try.prog.godebug = none := by kernel_rfl
theorem laidOut : laidOutB Try.prog = true := by kernel_rfl
section
variable {H : Type} {enc : TypeId × Value → H} {w : World} {base : Nat} {spare : Nat → Bool} {held : Bool} {fuel : Nat} {cs : List Value} {x : DataW H × List MemPlace}
theorem cells_int : Try.prog.cellsOf 3 = 1 := by kernel_rfl
theorem cells_edges : Try.prog.cellsOf 22 = 1 := by kernel_rfl
theorem cells_edge : Try.prog.cellsOf 99 = 3 := by kernel_rfl
theorem cells_graph : Try.prog.cellsOf 24 = 2 := by kernel_rfl
theorem one3 {cs : List Value} (h : cs.length = 3) : ∃ a b c, cs = [a, b, c] := by
  match cs, h with
  | [a, b, c], _ => exact ⟨a, b, c, rfl⟩
theorem one2 {cs : List Value} (h : cs.length = 2) : ∃ a b, cs = [a, b] := by
  match cs, h with
  | [a, b], _ => exact ⟨a, b, rfl⟩
set_option maxRecDepth 100000 in
theorem open_edge (h : DataW.trod enc Try.prog w base spare held fuel 99 cs = some x) : ∃ b : Ed, ∀ i (h : i < (edP b).flat.length) (h' : i < cs.length), RP (Here w) w (edP b).flat[i] cs[i] := by
  obtain ⟨y0, y1, y2, n, -, hl, h0, h1, h2⟩ := Go.Deep.trod_struct3 Try.underlying99 h
  rw [cells_edge] at hl
  obtain ⟨a, b, c, rfl⟩ := one3 hl
  dsimp only at h0 h1 h2
  rw [cells_int] at h0 h1 h2
  obtain ⟨p, e0, r0⟩ := open_int (t := 3) Try.underlying3 h0
  obtain ⟨q, e1, r1⟩ := open_int (t := 3) Try.underlying3 h1
  obtain ⟨m, e2, r2⟩ := open_int (t := 3) Try.underlying3 h2
  simp at e0 e1 e2
  subst e0 e1 e2
  refine ⟨⟨p, q, m⟩, fun i hi hi' => ?_⟩
  match i, hi' with
  | 0, _ => exact r0
  | 1, _ => exact r1
  | 2, _ => exact r2
set_option maxRecDepth 100000 in
theorem open_graph (h : DataW.trod enc Try.prog w base spare held fuel 24 cs = some x) : ∃ (N : Int) (es : List Ed) (v : Value), cs = [.int .i64 N, v] ∧ RP (Here w) w (.sl (es.map edP)) v := by
  obtain ⟨y0, y1, n, -, hl, h0, h1⟩ := trod_struct2 Try.underlying24 h
  rw [cells_graph] at hl
  obtain ⟨a, b, rfl⟩ := one2 hl
  dsimp only at h0 h1
  rw [cells_int] at h0
  rw [cells_edges] at h1
  obtain ⟨N, e0, r0⟩ := open_int (t := 3) Try.underlying3 h0
  obtain ⟨es, v, e1, r1⟩ := open_sl edP 3 (by decide) Try.underlying22 cells_edge (fun b => ⟨rfl, fun q hq => by
    simp [PV.flat] at hq
    rcases hq with rfl | rfl | rfl <;> rfl⟩) open_edge h1
  simp at e0 e1
  subst e0 e1
  exact ⟨N, es, _, rfl, r1⟩
theorem RP_graph {N : Int} {es : List Ed} {v : Value} {cs : Array Value} (h : cs.toList = [.int .i64 N, v]) (hr : RP (Here w) w (.sl (es.map edP)) v) : RP (Here w) w (G N es) (.agg cs) := by
  obtain rfl : cs = #[.int .i64 N, v] := by cases cs; simp_all
  refine .agg _ _ rfl (fun e he => by simp at he; rcases he with rfl | rfl <;> rfl) fun i hi hi' => ?_
  match i, hi' with
  | 0, _ => exact .v _ rfl
  | 1, _ => exact hr
end
/-- A contract that leaves true serves as the walk. -/
theorem walk_of {f : FuncId} {ps : List PV} {vs : List Value} {w : World} (h : PC Try.prog f ps (.b true) []) (hr : RPs (Here w) w ps vs) : Calls Try.prog f vs.toArray w fun e w' => e = .returned (.bool true) ∧ Below w.heap.size w w' := by
  refine (h w (fun _ => True) vs ⟨hr.1, fun i hi hi' => (hr.2 i hi hi').mono fun b hb => ⟨⟨hb, trivial⟩, rfl⟩⟩).mono ?_
  rintro e w' ⟨v, φ, rfl, -, hv, hb⟩
  refine ⟨?_, hb⟩
  have := hv.lit
  rw [this.1]
end Go.Proofs.Ytjkmhjjfipnbbaa
