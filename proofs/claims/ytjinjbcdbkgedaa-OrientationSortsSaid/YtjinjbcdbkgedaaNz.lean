/-
  The law Sorts.
-/
import Derived.Test.YtjinjbcdbkgedaaNy
set_option linter.unusedSimpArgs false
set_option linter.unusedVariables false
namespace Go.Proofs.Ytjinjbcdbkgedaa
open Go.Abs Go.Sand

set_option maxRecDepth 100000 in
theorem sorts14_law (N : Int) (es : List Ed) (o : List Bool) (order : List Int) : PC Try.prog 8 [G N es, .bo o, .is order] (.b true) [] := by
  refine PC_of_W cfn8 ?_
  simp -implicitDefEqProofs (disch := omega) [c8, List.getElem?_cons_zero, List.getElem?_cons_succ, wrap_id]
  refine HC_of_PC rfl (few8_ok N es) ?_
  cases hf : smallG N es 6 9
  · simp -implicitDefEqProofs (disch := omega) [List.getElem?_cons_zero, List.getElem?_cons_succ, wrap_id]
    refine HC_of_PC rfl (awake14_ok) ?_
    simp -implicitDefEqProofs (disch := omega) [List.getElem?_cons_zero, List.getElem?_cons_succ, wrap_id]
    (refine fin0 trivial rfl ?_; simp -implicitDefEqProofs (disch := omega) [List.getElem?_cons_zero, List.getElem?_cons_succ, idx, wrap_id])
  have hel := small_len14 hf (by decide)
  by_cases ho : (100 : Int) < o.length
  · simp -implicitDefEqProofs (disch := omega) [List.getElem?_cons_zero, List.getElem?_cons_succ, wrap_id, ho]
    refine HC_of_PC rfl (awake14_ok) ?_
    simp -implicitDefEqProofs (disch := omega) [List.getElem?_cons_zero, List.getElem?_cons_succ, wrap_id]
    (refine fin0 trivial rfl ?_; simp -implicitDefEqProofs (disch := omega) [List.getElem?_cons_zero, List.getElem?_cons_succ, idx, wrap_id])
  by_cases hs : (100 : Int) < order.length
  · simp -implicitDefEqProofs (disch := omega) [List.getElem?_cons_zero, List.getElem?_cons_succ, wrap_id, ho, hs]
    refine HC_of_PC rfl (awake14_ok) ?_
    simp -implicitDefEqProofs (disch := omega) [List.getElem?_cons_zero, List.getElem?_cons_succ, wrap_id]
    (refine fin0 trivial rfl ?_; simp -implicitDefEqProofs (disch := omega) [List.getElem?_cons_zero, List.getElem?_cons_succ, idx, wrap_id])
  have ho1 : o.length ≤ 100 := by omega
  have hs1 : order.length ≤ 1000 := by omega
  simp -implicitDefEqProofs (disch := omega) [List.getElem?_cons_zero, List.getElem?_cons_succ, wrap_id, ho, hs]
  by_cases h : oE N es o = 0
  · obtain ⟨n, rfl⟩ := oE_nat h
    have hn12 := (gcheck_ok (oE_ok h).1).n12
    by_cases hd : (sortL n (arwsL es o)).length = n
    · refine HC_of_PC rfl (aacyclic_ok n es o hel ho1 h hd) ?_
      simp -implicitDefEqProofs (disch := omega) [List.getElem?_cons_zero, List.getElem?_cons_succ, wrap_id]
      refine HC_of_PC rfl (racyclic_ok n es o hel ho1 h hd) ?_
      simp -implicitDefEqProofs (disch := omega) [List.getElem?_cons_zero, List.getElem?_cons_succ, wrap_id]
      by_cases h2 : ordE (n : Int) es order = 0
      · obtain ⟨n', hn'⟩ : ∃ k : Nat, (n : Int) = k := ord_nat h2
        rw [hn'] at h2 ⊢
        have hal : (alongL es order).length = (endsL es).length := by simp [alongL]
        have hml : (endsL es).length ≤ 50000 := ord_len h2 hel
        refine HC_of_PC rfl (aorder_ok n' es order hel hs1 h2) ?_
        simp -implicitDefEqProofs (disch := omega) [List.getElem?_cons_zero, List.getElem?_cons_succ, wrap_id]
        refine HC_of_PC rfl (rorder_ok n' es order hel hs1 h2) ?_
        simp -implicitDefEqProofs (disch := omega) [List.getElem?_cons_zero, List.getElem?_cons_succ, wrap_id]
        refine HC_of_PC rfl (awake14_ok) ?_
        simp -implicitDefEqProofs (disch := omega) [List.getElem?_cons_zero, List.getElem?_cons_succ, wrap_id]
        refine HC_of_PC (by simp [views, view, viewC, ownEls, hd]) (sameInts_ok (sortL n (arwsL es o)) (sortL n (arwsL es o)) (by omega)) ?_
        simp -implicitDefEqProofs (disch := omega) [List.getElem?_cons_zero, List.getElem?_cons_succ, wrap_id]
        refine HC_of_PC (by simp [views, view, viewC, ownEls, hal]) (sameB_ok (alongL es order) (alongL es order) (by omega)) ?_
        simp -implicitDefEqProofs (disch := omega) [List.getElem?_cons_zero, List.getElem?_cons_succ, wrap_id]
        (refine fin0 trivial rfl ?_; simp -implicitDefEqProofs (disch := omega) [List.getElem?_cons_zero, List.getElem?_cons_succ, idx, wrap_id])
      · refine HC_of_PC rfl (aorder_err (n : Int) es order hel hs1 h2) ?_
        simp -implicitDefEqProofs (disch := omega) [List.getElem?_cons_zero, List.getElem?_cons_succ, wrap_id]
        refine HC_of_PC rfl (rorder_err (n : Int) es order hel hs1 h2) ?_
        simp -implicitDefEqProofs (disch := omega) [List.getElem?_cons_zero, List.getElem?_cons_succ, wrap_id]
        refine HC_of_PC rfl (awake14_ok) ?_
        simp -implicitDefEqProofs (disch := omega) [List.getElem?_cons_zero, List.getElem?_cons_succ, wrap_id]
        refine HC_of_PC (by simp [views, view, viewC, ownEls, hd]) (sameInts_ok (sortL n (arwsL es o)) (sortL n (arwsL es o)) (by omega)) ?_
        simp -implicitDefEqProofs (disch := omega) [List.getElem?_cons_zero, List.getElem?_cons_succ, wrap_id]
        refine HC_of_PC rfl (sameB_ok [] [] (by decide)) ?_
        simp -implicitDefEqProofs (disch := omega) [List.getElem?_cons_zero, List.getElem?_cons_succ, wrap_id]
        (refine fin0 trivial rfl ?_; simp -implicitDefEqProofs (disch := omega) [List.getElem?_cons_zero, List.getElem?_cons_succ, idx, wrap_id])
    · refine HC_of_PC rfl (aacyclic_no n es o hel ho1 h hd) ?_
      simp -implicitDefEqProofs (disch := omega) [List.getElem?_cons_zero, List.getElem?_cons_succ, wrap_id]
      refine HC_of_PC rfl (racyclic_no n es o hel ho1 h hd) ?_
      simp -implicitDefEqProofs (disch := omega) [List.getElem?_cons_zero, List.getElem?_cons_succ, wrap_id]
      by_cases h2 : ordE (n : Int) es order = 0
      · obtain ⟨n', hn'⟩ : ∃ k : Nat, (n : Int) = k := ord_nat h2
        rw [hn'] at h2 ⊢
        have hal : (alongL es order).length = (endsL es).length := by simp [alongL]
        have hml : (endsL es).length ≤ 50000 := ord_len h2 hel
        refine HC_of_PC rfl (aorder_ok n' es order hel hs1 h2) ?_
        simp -implicitDefEqProofs (disch := omega) [List.getElem?_cons_zero, List.getElem?_cons_succ, wrap_id]
        refine HC_of_PC rfl (rorder_ok n' es order hel hs1 h2) ?_
        simp -implicitDefEqProofs (disch := omega) [List.getElem?_cons_zero, List.getElem?_cons_succ, wrap_id]
        refine HC_of_PC rfl (awake14_ok) ?_
        simp -implicitDefEqProofs (disch := omega) [List.getElem?_cons_zero, List.getElem?_cons_succ, wrap_id]
        refine HC_of_PC rfl (sameInts_ok [] [] (by decide)) ?_
        simp -implicitDefEqProofs (disch := omega) [List.getElem?_cons_zero, List.getElem?_cons_succ, wrap_id]
        refine HC_of_PC (by simp [views, view, viewC, ownEls, hal]) (sameB_ok (alongL es order) (alongL es order) (by omega)) ?_
        simp -implicitDefEqProofs (disch := omega) [List.getElem?_cons_zero, List.getElem?_cons_succ, wrap_id]
        (refine fin0 trivial rfl ?_; simp -implicitDefEqProofs (disch := omega) [List.getElem?_cons_zero, List.getElem?_cons_succ, idx, wrap_id])
      · refine HC_of_PC rfl (aorder_err (n : Int) es order hel hs1 h2) ?_
        simp -implicitDefEqProofs (disch := omega) [List.getElem?_cons_zero, List.getElem?_cons_succ, wrap_id]
        refine HC_of_PC rfl (rorder_err (n : Int) es order hel hs1 h2) ?_
        simp -implicitDefEqProofs (disch := omega) [List.getElem?_cons_zero, List.getElem?_cons_succ, wrap_id]
        refine HC_of_PC rfl (awake14_ok) ?_
        simp -implicitDefEqProofs (disch := omega) [List.getElem?_cons_zero, List.getElem?_cons_succ, wrap_id]
        refine HC_of_PC rfl (sameInts_ok [] [] (by decide)) ?_
        simp -implicitDefEqProofs (disch := omega) [List.getElem?_cons_zero, List.getElem?_cons_succ, wrap_id]
        refine HC_of_PC rfl (sameB_ok [] [] (by decide)) ?_
        simp -implicitDefEqProofs (disch := omega) [List.getElem?_cons_zero, List.getElem?_cons_succ, wrap_id]
        (refine fin0 trivial rfl ?_; simp -implicitDefEqProofs (disch := omega) [List.getElem?_cons_zero, List.getElem?_cons_succ, idx, wrap_id])
  · refine HC_of_PC rfl (aacyclic_err N es o hel ho1 h) ?_
    simp -implicitDefEqProofs (disch := omega) [List.getElem?_cons_zero, List.getElem?_cons_succ, wrap_id]
    refine HC_of_PC rfl (racyclic_err N es o hel ho1 h) ?_
    simp -implicitDefEqProofs (disch := omega) [List.getElem?_cons_zero, List.getElem?_cons_succ, wrap_id]
    by_cases h2 : ordE N es order = 0
    · obtain ⟨n', hn'⟩ : ∃ k : Nat, N = k := ord_nat h2
      rw [hn'] at h2 ⊢
      have hal : (alongL es order).length = (endsL es).length := by simp [alongL]
      have hml : (endsL es).length ≤ 50000 := ord_len h2 hel
      refine HC_of_PC rfl (aorder_ok n' es order hel hs1 h2) ?_
      simp -implicitDefEqProofs (disch := omega) [List.getElem?_cons_zero, List.getElem?_cons_succ, wrap_id]
      refine HC_of_PC rfl (rorder_ok n' es order hel hs1 h2) ?_
      simp -implicitDefEqProofs (disch := omega) [List.getElem?_cons_zero, List.getElem?_cons_succ, wrap_id]
      refine HC_of_PC rfl (awake14_ok) ?_
      simp -implicitDefEqProofs (disch := omega) [List.getElem?_cons_zero, List.getElem?_cons_succ, wrap_id]
      refine HC_of_PC rfl (sameInts_ok [] [] (by decide)) ?_
      simp -implicitDefEqProofs (disch := omega) [List.getElem?_cons_zero, List.getElem?_cons_succ, wrap_id]
      refine HC_of_PC (by simp [views, view, viewC, ownEls, hal]) (sameB_ok (alongL es order) (alongL es order) (by omega)) ?_
      simp -implicitDefEqProofs (disch := omega) [List.getElem?_cons_zero, List.getElem?_cons_succ, wrap_id]
      (refine fin0 trivial rfl ?_; simp -implicitDefEqProofs (disch := omega) [List.getElem?_cons_zero, List.getElem?_cons_succ, idx, wrap_id])
    · refine HC_of_PC rfl (aorder_err N es order hel hs1 h2) ?_
      simp -implicitDefEqProofs (disch := omega) [List.getElem?_cons_zero, List.getElem?_cons_succ, wrap_id]
      refine HC_of_PC rfl (rorder_err N es order hel hs1 h2) ?_
      simp -implicitDefEqProofs (disch := omega) [List.getElem?_cons_zero, List.getElem?_cons_succ, wrap_id]
      refine HC_of_PC rfl (awake14_ok) ?_
      simp -implicitDefEqProofs (disch := omega) [List.getElem?_cons_zero, List.getElem?_cons_succ, wrap_id]
      refine HC_of_PC rfl (sameInts_ok [] [] (by decide)) ?_
      simp -implicitDefEqProofs (disch := omega) [List.getElem?_cons_zero, List.getElem?_cons_succ, wrap_id]
      refine HC_of_PC rfl (sameB_ok [] [] (by decide)) ?_
      simp -implicitDefEqProofs (disch := omega) [List.getElem?_cons_zero, List.getElem?_cons_succ, wrap_id]
      (refine fin0 trivial rfl ?_; simp -implicitDefEqProofs (disch := omega) [List.getElem?_cons_zero, List.getElem?_cons_succ, idx, wrap_id])
end Go.Proofs.Ytjinjbcdbkgedaa
