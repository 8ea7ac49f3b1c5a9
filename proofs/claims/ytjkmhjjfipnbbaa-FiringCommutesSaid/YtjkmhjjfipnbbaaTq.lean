/-
  The laws, over the abstract machine.
-/
import Derived.Test.YtjkmhjjfipnbbaaTp
set_option linter.unusedSimpArgs false
namespace Go.Proofs.Ytjkmhjjfipnbbaa
open Go.Abs Go.Sand

theorem few_len {N : Int} {es : List Ed} {d : List Int} (h : few18 N es d = true) : es.length ≤ 40 ∧ d.length ≤ 24 := by
  simp only [few18, smallG, Bool.and_eq_true, decide_eq_true_eq] at h
  exact ⟨h.1.1, h.2⟩
theorem chg_len {N : Int} {es : List Ed} {s : List Int} : (Sand.resL (givenE N es s) (chgM es N s)).length ≤ 1000 := by
  unfold Sand.resL
  split
  · rename_i h
    obtain ⟨n, rfl, -, -, -, -, hn⟩ := given_ok h.1
    simp [chgM, movedE_length]
    omega
  · simp
theorem scripts_ok (N : Int) (es : List Ed) (s : List Int) : PC Try.prog 3 [G N es, .is s] (.b true) [] := by
  refine PC_of_W cfn3 ?_
  simp -implicitDefEqProofs (disch := omega) [c3, List.getElem?_cons_zero, List.getElem?_cons_succ, wrap_id]
  refine HC_of_PC rfl (rfew_ok N es s) ?_
  cases hf : few18 N es s
  · simp -implicitDefEqProofs (disch := omega) [List.getElem?_cons_zero, List.getElem?_cons_succ, wrap_id]
    refine HC_of_PC rfl (awake_ok) ?_
    simp -implicitDefEqProofs (disch := omega) [List.getElem?_cons_zero, List.getElem?_cons_succ, wrap_id]
    (refine fin0 trivial rfl ?_; simp -implicitDefEqProofs (disch := omega) [List.getElem?_cons_zero, List.getElem?_cons_succ, idx, wrap_id])
  have hl := few_len hf
  simp -implicitDefEqProofs (disch := omega) [List.getElem?_cons_zero, List.getElem?_cons_succ, wrap_id]
  refine HC_of_PC rfl (change_ok N es s (by omega) (by omega)) ?_
  simp -implicitDefEqProofs (disch := omega) [List.getElem?_cons_zero, List.getElem?_cons_succ, wrap_id]
  refine HC_of_PC rfl (rchange_ok N es s (by omega) (by omega)) ?_
  simp -implicitDefEqProofs (disch := omega) [List.getElem?_cons_zero, List.getElem?_cons_succ, wrap_id]
  refine HC_of_PC rfl (fcheck_ok N es s (by omega) (by omega)) ?_
  simp -implicitDefEqProofs (disch := omega) [List.getElem?_cons_zero, List.getElem?_cons_succ, wrap_id]
  refine HC_of_PC rfl (rscheck_ok N es s (by omega) (by omega)) ?_
  simp -implicitDefEqProofs (disch := omega) [List.getElem?_cons_zero, List.getElem?_cons_succ, wrap_id]
  refine HC_of_PC rfl (aws _ chg_len) ?_
  simp -implicitDefEqProofs (disch := omega) [List.getElem?_cons_zero, List.getElem?_cons_succ, wrap_id]
  refine HC_of_PC rfl (awake_ok) ?_
  simp -implicitDefEqProofs (disch := omega) [List.getElem?_cons_zero, List.getElem?_cons_succ, wrap_id]
  (refine fin0 trivial rfl ?_; simp -implicitDefEqProofs (disch := omega) [List.getElem?_cons_zero, List.getElem?_cons_succ, idx, wrap_id])
end Go.Proofs.Ytjkmhjjfipnbbaa
