/-
  The kinds of arguments that are handed here: graphs, maps, pairs of maps, divisors, scripts.
-/
import Derived.Test.YtddgepjmfnodhaaMoa
import Derived.Test.YtddgepjmfnodhaaMkd
import Derived.Test.YtddgepjmfnodhaaRows
namespace Go.Proofs.Ytddgepjmfnodhaa
open Go.Abs Go.Sand Go.ChangeShapes Go.WideShapes Go.ChangeAt Go.RowKit

theorem own : ownKnob Try.prog.godebug = none := by kernel_rfl
theorem laidOut : laidOutB Try.prog = true := by kernel_rfl
theorem cells_int : Try.prog.cellsOf 3 = 1 := by kernel_rfl
theorem cells_ints : Try.prog.cellsOf 27 = 1 := by kernel_rfl
theorem cells_div : Try.prog.cellsOf 30 = 1 := by kernel_rfl
theorem cells_scr : Try.prog.cellsOf 54 = 1 := by kernel_rfl
theorem cells_edges : Try.prog.cellsOf 22 = 1 := by kernel_rfl
theorem cells_edge : Try.prog.cellsOf 70 = 3 := by kernel_rfl
theorem cells_graph : Try.prog.cellsOf 24 = 2 := by kernel_rfl
theorem cells_map : Try.prog.cellsOf 29 = 2 := by kernel_rfl
theorem cells_ends : Try.prog.cellsOf 26 = 4 := by kernel_rfl
theorem cells_three : Try.prog.cellsOf 60 = 6 := by kernel_rfl
theorem cells_both : Try.prog.cellsOf 62 = 4 := by kernel_rfl
theorem o_int : Opens Try.prog 3 PV.i := opens_int Try.underlying3 cells_int
theorem o_ints : Opens Try.prog 27 PV.is := opens_slice o_int Try.underlying27 (by rw [cells_int]; decide) cells_ints
theorem o_div : Opens Try.prog 30 PV.is := opens_slice o_int Try.underlying30 (by rw [cells_int]; decide) cells_div
theorem o_scr : Opens Try.prog 54 PV.is := opens_slice o_int Try.underlying54 (by rw [cells_int]; decide) cells_scr
theorem o_edge : Opens Try.prog 70 edP :=
  (opens_struct3 o_int o_int o_int Try.underlying70 rfl cells_int.symm (by rw [cells_int]) (by rw [cells_int, cells_edge])).to (fun p => ⟨p.1, p.2.1, p.2.2⟩) (fun e => (e.a, e.b, e.m)) (fun _ => rfl) (fun _ => rfl)
theorem o_edges : Opens Try.prog 22 (fun l : List Ed => PV.sl (l.map edP)) := opens_slice o_edge Try.underlying22 (by rw [cells_edge]; decide) cells_edges
theorem o_graph : Opens Try.prog 24 GrP :=
  (opens_struct2 o_int o_edges Try.underlying24 rfl cells_int.symm (by rw [cells_int, cells_edges, cells_graph])).to (fun p => p) (fun p => p) (fun _ => rfl) (fun _ => rfl)
theorem o_map : Opens Try.prog 29 MoP :=
  (opens_struct2 o_ints o_ints Try.underlying29 rfl cells_ints.symm (by rw [cells_ints, cells_map])).to (fun p => ⟨p.1, p.2⟩) (fun m => (m.v, m.e)) (fun _ => rfl) (fun _ => rfl)
theorem o_ends : Opens Try.prog 26 (fun p : Gr × Gr => EnP p.1 p.2) :=
  (opens_struct2 o_graph o_graph Try.underlying26 rfl cells_graph.symm (by rw [cells_graph, cells_ends])).to (fun p => p) (fun p => p) (fun _ => rfl) (fun _ => rfl)
abbrev ThP (g h k : Gr) : PV := .agg [.i g.1, .sl (g.2.map edP), .i h.1, .sl (h.2.map edP), .i k.1, .sl (k.2.map edP)]
theorem o_three : Opens Try.prog 60 (fun p : Gr × Gr × Gr => ThP p.1 p.2.1 p.2.2) :=
  (opens_struct3 o_graph o_graph o_graph Try.underlying60 rfl cells_graph.symm (by rw [cells_graph]) (by rw [cells_graph, cells_three])).to (fun p => p) (fun p => p) (fun _ => rfl) (fun _ => rfl)
abbrev BoP (m o : Mo) : PV := .agg [.is m.v, .is m.e, .is o.v, .is o.e]
theorem o_both : Opens Try.prog 62 (fun p : Mo × Mo => BoP p.1 p.2) :=
  (opens_struct2 o_map o_map Try.underlying62 rfl cells_map.symm (by rw [cells_map, cells_both])).to (fun p => p) (fun p => p) (fun _ => rfl) (fun _ => rfl)
/-- A contract that leaves true serves as the walk. -/
theorem walk_of {f : FuncId} {ps : List PV} {vs : List Value} {w : World} (h : PC Try.prog f ps (.b true) []) (hr : RPs (Here w) w ps vs) : Calls Try.prog f vs.toArray w fun e w' => e = .returned (.bool true) ∧ Below w.heap.size w w' := by
  refine (h w (fun _ => True) vs ⟨hr.1, fun i hi hi' => (hr.2 i hi hi').mono fun b hb => ⟨⟨hb, trivial⟩, rfl⟩⟩).mono ?_
  rintro e w' ⟨v, φ, rfl, -, hv, hb⟩
  refine ⟨?_, hb⟩
  have := hv.lit
  rw [this.1]
end Go.Proofs.Ytddgepjmfnodhaa
