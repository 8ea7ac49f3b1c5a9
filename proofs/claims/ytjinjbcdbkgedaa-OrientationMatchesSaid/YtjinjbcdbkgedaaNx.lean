/-
  Contracts: the example of the layer.
-/
import Derived.Test.YtjinjbcdbkgedaaNw
set_option linter.unusedSimpArgs false
set_option linter.unusedVariables false
namespace Go.Proofs.Ytjinjbcdbkgedaa
open Go.Abs Go.Sand

def tri14 : List Ed := [⟨0, 1, 1⟩, ⟨0, 2, 1⟩, ⟨1, 2, 1⟩]
theorem tri14_ok : PC Try.prog 55 [] (.agg [.p (.i 3), .p (.sl (tri14.map edP))]) [] := by
  refine PC_of_W cfn55 ?_
  simp -implicitDefEqProofs (disch := omega) [c55, List.getElem?_cons_zero, List.getElem?_cons_succ, wrap_id]
  (refine fin0 trivial rfl ?_; simp -implicitDefEqProofs (disch := omega) [List.getElem?_cons_zero, List.getElem?_cons_succ, idx, wrap_id, tri14])
theorem a14_1 : PC Try.prog 28 [G 3 tri14, .bo [true, true, true]] (.tup [.os 0 0 3, .i 0]) [rowZ [-1, 0, 1]] := by
  have h := adivisor_ok 3 tri14 [true, true, true] (by decide) (by decide) (by decide +kernel)
  rwa [show divL 3 tri14 [true, true, true] = [-1, 0, 1] by decide +kernel] at h
theorem a14_2 : PC Try.prog 41 [G 3 tri14, .bo [true, true, true]] (.tup [.b true, .os 0 0 3, .i 0]) [rowZ [0, 1, 2]] := by
  have h := aacyclic_ok 3 tri14 [true, true, true] (by decide) (by decide) (by decide +kernel) (by decide +kernel)
  rwa [show sortL 3 (arwsL tri14 [true, true, true]) = [0, 1, 2] by decide +kernel] at h
theorem a14_3 : PC Try.prog 14 [G 3 tri14, .bo [true, false, true], .bo [false, true, false]] (.tup [.b true, .i 0]) [] :=
  aequiv_same 3 tri14 [true, false, true] [false, true, false] (by decide) (by decide +kernel) (by decide +kernel) (by decide) (by decide +kernel)
theorem a14_4 : PC Try.prog 20 [G 3 tri14, .i 0] (.tup [.os 0 0 2, .i 0]) [.tab ([[true, true, false], [true, true, true]].map fun o => .p (.bo o)) 25 false] := by
  have h := auniq_ok 3 tri14 0 (by decide) (by decide +kernel)
  rwa [show pickL (uniB 3 tri14 0) (endsL tri14).length = [[true, true, false], [true, true, true]] by decide +kernel] at h
theorem a14_5 : PC Try.prog 36 [G 3 tri14, .bo [true, true, true], .is [0]] (.tup [.i 1, .i 0]) [] := by
  have h := adirected_ok 3 tri14 [true, true, true] [0] (by decide) (by decide) (by decide)
  rwa [show dirE 3 tri14 [true, true, true] [0] = 0 by decide +kernel, if_pos rfl, show wayP (memB [0]) tri14 [true, true, true] = 1 by decide +kernel] at h
theorem a14_6 {r0 r1 r2 r3 r4 r5 r7 r8 r9 : AO} {K : AV → List AO → Prop}
    (hK : K (.b true) [r0, r1, r2, r3, r4, r5, .tab [.p (.bo [true, true, false]), .p (.bo [true, true, true])] 25 false, r7, r8, r9, rowB [true, true, false], rowB [true, true, true], .tab [.os 10 0 3, .os 11 0 3] 25 false]) :
    HC Try.prog false 22 [.os 6 0 2, .os 12 0 2] [r0, r1, r2, r3, r4, r5, .tab [.p (.bo [true, true, false]), .p (.bo [true, true, true])] 25 false, r7, r8, r9, rowB [true, true, false], rowB [true, true, true], .tab [.os 10 0 3, .os 11 0 3] 25 false] K := by
  refine HC_of_W (af := _) ((by exact cfn22 : cfn _ _ _ = some _)) ?_
  simp -implicitDefEqProofs (disch := omega) [c22, List.getElem?_cons_zero, List.getElem?_cons_succ, wrap_id]
  refine loopW 2 (fun k s => s = ⟨[(5, .i k), (0, .os 6 0 2), (1, .os 12 0 2)], [r0, r1, r2, r3, r4, r5, .tab [.p (.bo [true, true, false]), .p (.bo [true, true, true])] 25 false, r7, r8, r9, rowB [true, true, false], rowB [true, true, true], .tab [.os 10 0 3, .os 11 0 3] 25 false]⟩) (Wk_keep [5, 0, 1]) rfl ?_
  rintro k s hk rfl
  by_cases hlt : k < 2
  · rcases (by omega : k = 0 ∨ k = 1) with rfl | rfl
    · simp -implicitDefEqProofs (disch := omega) [List.getElem?_cons_zero, List.getElem?_cons_succ, wrap_id]
      refine HC_of_PC rfl (sameB_ok [true, true, false] [true, true, false] (by decide)) ?_
      simp -implicitDefEqProofs (disch := omega) [List.getElem?_cons_zero, List.getElem?_cons_succ, wrap_id]
      exact round_keep [5, 0, 1] hlt rfl
    · simp -implicitDefEqProofs (disch := omega) [List.getElem?_cons_zero, List.getElem?_cons_succ, wrap_id]
      refine HC_of_PC rfl (sameB_ok [true, true, true] [true, true, true] (by decide)) ?_
      simp -implicitDefEqProofs (disch := omega) [List.getElem?_cons_zero, List.getElem?_cons_succ, wrap_id]
      exact round_keep [5, 0, 1] hlt rfl
  · have hk2 : k = 2 := by omega
    subst hk2
    simp -implicitDefEqProofs (disch := omega) [List.getElem?_cons_zero, List.getElem?_cons_succ, wrap_id]
    exact finH trivial rfl hK
set_option maxRecDepth 100000 in
theorem awake14_ok : PC Try.prog 13 [] (.b true) [] := by
  refine PC_of_W cfn13 ?_
  simp -implicitDefEqProofs (disch := omega) [c13, List.getElem?_cons_zero, List.getElem?_cons_succ, wrap_id]
  refine HC_of_PC rfl (tri14_ok) ?_
  simp -implicitDefEqProofs (disch := omega) [List.getElem?_cons_zero, List.getElem?_cons_succ, wrap_id]
  refine HC_of_PC rfl (a14_1) ?_
  simp -implicitDefEqProofs (disch := omega) [List.getElem?_cons_zero, List.getElem?_cons_succ, wrap_id]
  refine HC_of_PC rfl (a14_2) ?_
  simp -implicitDefEqProofs (disch := omega) [List.getElem?_cons_zero, List.getElem?_cons_succ, wrap_id]
  refine HC_of_PC rfl (a14_3) ?_
  simp -implicitDefEqProofs (disch := omega) [List.getElem?_cons_zero, List.getElem?_cons_succ, wrap_id]
  refine HC_of_PC rfl (a14_4) ?_
  simp -implicitDefEqProofs (disch := omega) [List.getElem?_cons_zero, List.getElem?_cons_succ, wrap_id]
  refine HC_of_PC rfl (a14_5) ?_
  simp -implicitDefEqProofs (disch := omega) [List.getElem?_cons_zero, List.getElem?_cons_succ, wrap_id]
  refine HC_of_PC rfl (equalDv_ok [-1, 0, 1] [-1, 0, 1] (by decide)) ?_
  simp -implicitDefEqProofs (disch := omega) [List.getElem?_cons_zero, List.getElem?_cons_succ, wrap_id]
  refine HC_of_PC rfl (equalZ_ok [0, 1, 2] [0, 1, 2] (by decide)) ?_
  simp -implicitDefEqProofs (disch := omega) [List.getElem?_cons_zero, List.getElem?_cons_succ, wrap_id]
  refine a14_6 ?_
  simp -implicitDefEqProofs (disch := omega) [List.getElem?_cons_zero, List.getElem?_cons_succ, wrap_id]
  (refine fin0 trivial rfl ?_; simp -implicitDefEqProofs (disch := omega) [List.getElem?_cons_zero, List.getElem?_cons_succ, idx, wrap_id])
end Go.Proofs.Ytjinjbcdbkgedaa
