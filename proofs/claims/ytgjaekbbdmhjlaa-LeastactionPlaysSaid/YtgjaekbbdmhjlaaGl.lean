/-
  The kinds of arguments of the laws of the least action.
-/
import Derived.Test.YtgjaekbbdmhjlaaGb
namespace Go.Proofs.Ytgjaekbbdmhjlaa
open Go.Abs Go.Sand Go.ChangeShapes Go.WideShapes Go.ChangeAt Go.RowKit

theorem cells_claim : Try.prog.cellsOf 29 = 2 := by kernel_rfl
theorem cells_claim2 : Try.prog.cellsOf 60 = 4 := by kernel_rfl
theorem o_claim : Opens Try.prog 29 (fun p : Int × List Int => PV.agg [.i p.1, .is p.2]) :=
  opens_struct2 o_int o_scr Try.underlying29 rfl cells_int.symm (by rw [cells_int, cells_scr, cells_claim])
theorem o_claim2 : Opens Try.prog 60 (fun p : (Int × List Int) × (Int × List Int) => PV.agg [.i p.1.1, .is p.1.2, .i p.2.1, .is p.2.2]) :=
  (opens_array2 o_claim Try.underlying60 (by rw [cells_claim, cells_claim2])).to (fun p => p) (fun p => p) (fun _ => rfl) (fun _ => rfl)
end Go.Proofs.Ytgjaekbbdmhjlaa
