/-
  Contracts: the examples of the chapter; what the laws compare.
-/
import Derived.Test.YthdbmoflbnggpaaZo
import Derived.Test.YthdbmoflbnggpaaMrc
set_option linter.unusedSimpArgs false
set_option linter.unusedVariables false
namespace Go.Proofs.Ythdbmoflbnggpaa
open Go.Abs Go.Sand

def tri19 : List Ed := [⟨0, 1, 1⟩, ⟨0, 2, 1⟩, ⟨1, 2, 1⟩]
theorem triangle_ok : PC Try.prog 43 [] (.agg [.p (.i 3), .p (.sl (tri19.map edP))]) [] := by
  refine PC_of_W cfn43 ?_
  simp -implicitDefEqProofs (disch := omega) [c43, List.getElem?_cons_zero, List.getElem?_cons_succ, wrap_id]
  refine fin0 trivial rfl rfl
theorem PC_eq {f : FuncId} {ps : List PV} {r r' : AV} {HR : List AO} (h : PC Try.prog f ps r HR) (e : r = r') : PC Try.prog f ps r' HR := e ▸ h
theorem same17_refl (l : List Int) (h : l.length ≤ 1000) : PC Try.prog 21 [.is l, .is l] (.b true) [] := PC_eq (same_ok l l (by omega)) (by simp)
theorem scripts_refl (l : List Int) (h : l.length ≤ 1000) : PC Try.prog 35 [.is l, .is l] (.b true) [] := by
  refine PC_of_W cfn35 ?_
  simp -implicitDefEqProofs (disch := omega) [c35, List.getElem?_cons_zero, List.getElem?_cons_succ, wrap_id]
  refine HC_of_PC rfl (same17_refl l h) ?_
  simp -implicitDefEqProofs (disch := omega) [List.getElem?_cons_zero, List.getElem?_cons_succ, wrap_id]
  (refine fin0 trivial rfl ?_; simp -implicitDefEqProofs (disch := omega) [List.getElem?_cons_zero, List.getElem?_cons_succ, idx, wrap_id])
theorem same19_refl (a s : List Int) (ha : a.length ≤ 1000) (hs : s.length ≤ 1000) : PC Try.prog 15 [.is a, .is a, .is s, .is s] (.b true) [] := by
  refine PC_of_W cfn15 ?_
  simp -implicitDefEqProofs (disch := omega) [c15, List.getElem?_cons_zero, List.getElem?_cons_succ, wrap_id]
  refine HC_of_PC rfl (same17_refl a ha) ?_
  simp -implicitDefEqProofs (disch := omega) [List.getElem?_cons_zero, List.getElem?_cons_succ, wrap_id]
  refine HC_of_PC rfl (scripts_refl s hs) ?_
  simp -implicitDefEqProofs (disch := omega) [List.getElem?_cons_zero, List.getElem?_cons_succ, wrap_id]
  (refine fin0 trivial rfl ?_; simp -implicitDefEqProofs (disch := omega) [List.getElem?_cons_zero, List.getElem?_cons_succ, idx, wrap_id])
theorem equal19_refl (xs : List Int) (hx : xs.length ≤ 4611686018427387904) : PC Try.prog 20 [.is xs, .is xs] (.b true) [] := by
  refine PC_of_W cfn20 ?_
  simp -implicitDefEqProofs (disch := omega) [c20, List.getElem?_cons_zero, List.getElem?_cons_succ, wrap_id]
  refine loopW xs.length (fun k s => s = ⟨[(13, .i k), (12, .i xs.length), (0, .p (.is xs)), (1, .p (.is xs))], []⟩) (wk_norm [] [13, 12, 0, 1] rfl rfl) rfl ?_
  rintro k s hk rfl
  by_cases hlt : k < xs.length
  · simp -implicitDefEqProofs (disch := omega) [List.getElem?_cons_zero, List.getElem?_cons_succ, wrap_id, hlt]
    exact round_end [] [13, 12, 0, 1] hlt rfl rfl
  · simp -implicitDefEqProofs (disch := omega) [List.getElem?_cons_zero, List.getElem?_cons_succ, wrap_id, hlt]
    (refine fin0 trivial rfl ?_; simp -implicitDefEqProofs (disch := omega) [List.getElem?_cons_zero, List.getElem?_cons_succ, idx, wrap_id])
theorem a19_1 : PC Try.prog 13 [G 3 tri19, .i 0, .is [0, 2, 1]] (.tup [.p (.is [2, 1, 0]), .p (.is [0, 1, 1]), .i 0]) [] := PC_eq (stabilize_ok 3 tri19 0 [0, 2, 1] (by decide) (by decide)) (by kernel_rfl)
theorem a19_2 : PC Try.prog 18 [G 3 tri19, .i 0] (.tup [.p (.is [0, 1, 1]), .i 0]) [] := PC_eq (maximal_ok 3 tri19 0 (by decide)) (by kernel_rfl)
theorem a19_3 : PC Try.prog 22 [G 3 tri19, .i 0, .is [0, 1, 1], .i 1] (.tup [.p (.is [2, 1, 0]), .p (.is [0, 1, 1]), .i 2, .i 0]) [] := PC_eq (avalanche_ok 3 tri19 0 [0, 1, 1] 1 (by decide) (by decide)) (by kernel_rfl)
theorem a19_4 : PC Try.prog 16 [G 3 tri19, .i 0, .is [0, 2, 1]] (.tup [.p (.is [1, 2]), .i 0]) [] := by
  have h := topple_ok 3 tri19 0 [0, 2, 1] (by decide) (by decide)
  have e1 : stE 3 tri19 0 [0, 2, 1] = 0 := by kernel_rfl
  have e2 : topR 3 tri19 0 [0, 2, 1] = ([1, 2], 0) := by
    have : ¬ live 3 tri19 0 [0, 2, 1] 2 := by
      unfold live
      have : nxtF 3 tri19 0 (movedE tri19 (stp 3 tri19 0 [0, 2, 1] 2) [0, 2, 1]) = none := by kernel_rfl
      rw [this]; simp
    have e3 : (mvs 3 tri19 0 [0, 2, 1] 2, (0 : Int)) = ([1, 2], 0) := by kernel_rfl
    rw [topR_at (by omega) this, e3]
  rw [if_pos e1, if_pos e1, show ((3 : Int).toNat) = 3 from rfl, e2] at h
  exact h
theorem a19_5 : PC Try.prog 24 [G 3 tri19, .i 0, .is [0, 1, 0]] (.tup [.i 1, .i 1, .i 0]) [] := PC_eq (largest_ok 3 tri19 0 [0, 1, 0] (by decide) (by decide)) (by kernel_rfl)
set_option maxRecDepth 10000 in
theorem awake19_ok : PC Try.prog 12 [] (.b true) [] := by
  refine PC_of_W cfn12 ?_
  simp -implicitDefEqProofs (disch := omega) [c12, List.getElem?_cons_zero, List.getElem?_cons_succ, wrap_id]
  refine HC_of_PC rfl (triangle_ok) ?_
  simp -implicitDefEqProofs (disch := omega) [List.getElem?_cons_zero, List.getElem?_cons_succ, wrap_id]
  refine HC_of_PC rfl (a19_1) ?_
  simp -implicitDefEqProofs (disch := omega) [List.getElem?_cons_zero, List.getElem?_cons_succ, wrap_id]
  refine HC_of_PC rfl (a19_2) ?_
  simp -implicitDefEqProofs (disch := omega) [List.getElem?_cons_zero, List.getElem?_cons_succ, wrap_id]
  refine HC_of_PC rfl (a19_3) ?_
  simp -implicitDefEqProofs (disch := omega) [List.getElem?_cons_zero, List.getElem?_cons_succ, wrap_id]
  refine HC_of_PC rfl (same19_refl [2, 1, 0] [0, 1, 1] (by decide) (by decide)) ?_
  simp -implicitDefEqProofs (disch := omega) [List.getElem?_cons_zero, List.getElem?_cons_succ, wrap_id]
  refine HC_of_PC rfl (same17_refl [0, 1, 1] (by decide)) ?_
  simp -implicitDefEqProofs (disch := omega) [List.getElem?_cons_zero, List.getElem?_cons_succ, wrap_id]
  refine HC_of_PC rfl (same19_refl [2, 1, 0] [0, 1, 1] (by decide) (by decide)) ?_
  simp -implicitDefEqProofs (disch := omega) [List.getElem?_cons_zero, List.getElem?_cons_succ, wrap_id]
  refine HC_of_PC rfl (a19_4) ?_
  simp -implicitDefEqProofs (disch := omega) [List.getElem?_cons_zero, List.getElem?_cons_succ, wrap_id]
  refine HC_of_PC rfl (a19_5) ?_
  simp -implicitDefEqProofs (disch := omega) [List.getElem?_cons_zero, List.getElem?_cons_succ, wrap_id]
  refine HC_of_PC rfl (equal19_refl [1, 2] (by decide)) ?_
  simp -implicitDefEqProofs (disch := omega) [List.getElem?_cons_zero, List.getElem?_cons_succ, wrap_id]
  (refine fin0 trivial rfl ?_; simp -implicitDefEqProofs (disch := omega) [List.getElem?_cons_zero, List.getElem?_cons_succ, idx, wrap_id])
end Go.Proofs.Ythdbmoflbnggpaa
