/-
  The kinds of arguments of the laws of stabilizing.
-/
import Derived.Test.YthdbmoflbnggpaaGb
namespace Go.Proofs.Ythdbmoflbnggpaa
open Go.Abs Go.Sand Go.ChangeShapes Go.WideShapes Go.ChangeAt Go.RowKit

theorem cells_place : Try.prog.cellsOf 48 = 2 := by kernel_rfl
theorem cells_div2 : Try.prog.cellsOf 64 = 2 := by kernel_rfl
theorem o_place : Opens Try.prog 48 (fun p : Int × Int => PV.agg [.i p.1, .i p.2]) :=
  opens_struct2 o_int o_int Try.underlying48 rfl cells_int.symm (by rw [cells_int, cells_place])
theorem o_div2 : Opens Try.prog 64 (fun p : List Int × List Int => PV.agg [.is p.1, .is p.2]) :=
  opens_array2 o_div Try.underlying64 (by rw [cells_div, cells_div2])
end Go.Proofs.Ythdbmoflbnggpaa
