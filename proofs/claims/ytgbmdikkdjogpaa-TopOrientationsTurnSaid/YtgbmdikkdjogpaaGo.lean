/-
  The kinds of arguments that are handed here: graphs, orientations, lists.
-/
import Derived.Test.YtgbmdikkdjogpaaMoa
import Derived.Test.YtgbmdikkdjogpaaNb
import Derived.Test.YtgbmdikkdjogpaaRows
namespace Go.Proofs.Ytgbmdikkdjogpaa
open Go.Abs Go.Sand Go.ChangeShapes Go.WideShapes Go.ChangeAt Go.RowKit

theorem own : ownKnob Try.prog.godebug = none := by kernel_rfl
theorem laidOut : laidOutB Try.prog = true := by kernel_rfl
theorem cells_int : Try.prog.cellsOf 3 = 1 := by kernel_rfl
theorem cells_bool : Try.prog.cellsOf 4 = 1 := by kernel_rfl
theorem cells_ints : Try.prog.cellsOf 29 = 1 := by kernel_rfl
theorem cells_bools : Try.prog.cellsOf 25 = 1 := by kernel_rfl
theorem cells_edges : Try.prog.cellsOf 22 = 1 := by kernel_rfl
theorem cells_edge : Try.prog.cellsOf 47 = 3 := by kernel_rfl
theorem cells_graph : Try.prog.cellsOf 24 = 2 := by kernel_rfl
theorem o_int : Opens Try.prog 3 PV.i := opens_int Try.underlying3 cells_int
theorem o_bool : Opens Try.prog 4 PV.b := opens_bool Try.underlying4 cells_bool
theorem o_ints : Opens Try.prog 29 PV.is := opens_slice o_int Try.underlying29 (by rw [cells_int]; decide) cells_ints
theorem o_bools : Opens Try.prog 25 PV.bo := opens_slice o_bool Try.underlying25 (by rw [cells_bool]; decide) cells_bools
theorem o_edge : Opens Try.prog 47 edP :=
  (opens_struct3 o_int o_int o_int Try.underlying47 rfl cells_int.symm (by rw [cells_int]) (by rw [cells_int, cells_edge])).to (fun p => ⟨p.1, p.2.1, p.2.2⟩) (fun e => (e.a, e.b, e.m)) (fun _ => rfl) (fun _ => rfl)
theorem o_edges : Opens Try.prog 22 (fun l : List Ed => PV.sl (l.map edP)) := opens_slice o_edge Try.underlying22 (by rw [cells_edge]; decide) cells_edges
theorem o_graph : Opens Try.prog 24 (fun p : Int × List Ed => G p.1 p.2) :=
  opens_struct2 o_int o_edges Try.underlying24 rfl cells_int.symm (by rw [cells_int, cells_edges, cells_graph])
/-- A contract that leaves true serves as the walk. -/
theorem walk_of {f : FuncId} {ps : List PV} {vs : List Value} {w : World} (h : PC Try.prog f ps (.b true) []) (hr : RPs (Here w) w ps vs) : Calls Try.prog f vs.toArray w fun e w' => e = .returned (.bool true) ∧ Below w.heap.size w w' := by
  refine (h w (fun _ => True) vs ⟨hr.1, fun i hi hi' => (hr.2 i hi hi').mono fun b hb => ⟨⟨hb, trivial⟩, rfl⟩⟩).mono ?_
  rintro e w' ⟨v, φ, rfl, -, hv, hb⟩
  refine ⟨?_, hb⟩
  have := hv.lit
  rw [this.1]
end Go.Proofs.Ytgbmdikkdjogpaa
