/-
  Contracts: orientations, in the reference: indegrees, divisors, sources.
-/
import Derived.Test.YtgbmdikkdjogpaaNc
set_option linter.unusedSimpArgs false
set_option linter.unusedVariables false
namespace Go.Sand
theorem arw_not (p : Int × Int) (d : Bool) : (arw p !d).2 = (arw p d).1 := by cases d <;> rfl
end Go.Sand
namespace Go.Proofs.Ytgbmdikkdjogpaa
open Go.Abs Go.Sand

theorem rocheck_ok (N : Int) (es : List Ed) (o : List Bool) (hel : es.length ≤ 1000) (hol : o.length ≤ 4611686018427387904) : PC Try.prog 6 [G N es, .bo o] (.i (oE N es o)) [] := by
  refine PC_of_W cfn6 ?_
  simp -implicitDefEqProofs (disch := omega) [c6, List.getElem?_cons_zero, List.getElem?_cons_succ, wrap_id]
  refine HC_of_PC rfl (rcheck_ok N es (by omega)) ?_
  by_cases h : gcheck N es = 0
  · have hgood := gcheck_ok h
    simp -implicitDefEqProofs (disch := omega) [List.getElem?_cons_zero, List.getElem?_cons_succ, wrap_id, h]
    refine HC_of_PC rfl (size_ok N es hgood.right hel) ?_
    by_cases h2 : o.length = (endsL es).length
    · have h2' : (o.length : Int) = (endsL es).length := by omega
      simp -implicitDefEqProofs (disch := omega) [List.getElem?_cons_zero, List.getElem?_cons_succ, wrap_id, h2']
      (refine fin0 trivial rfl ?_; simp -implicitDefEqProofs (disch := omega) [List.getElem?_cons_zero, List.getElem?_cons_succ, idx, wrap_id, oE, h, h2])
    · have h2' : ¬ (o.length : Int) = (endsL es).length := by omega
      simp -implicitDefEqProofs (disch := omega) [List.getElem?_cons_zero, List.getElem?_cons_succ, wrap_id, h2']
      (refine fin0 trivial rfl ?_; simp -implicitDefEqProofs (disch := omega) [List.getElem?_cons_zero, List.getElem?_cons_succ, idx, wrap_id, oE, h, h2])
  · simp -implicitDefEqProofs (disch := omega) [List.getElem?_cons_zero, List.getElem?_cons_succ, wrap_id, h]
    (refine fin0 trivial rfl ?_; simp -implicitDefEqProofs (disch := omega) [List.getElem?_cons_zero, List.getElem?_cons_succ, idx, wrap_id, oE, h])
abbrev _root_.Go.Abs.PV.bos (l : List (List Bool)) : PV := .sl (l.map PV.bo)
end Go.Proofs.Ytgbmdikkdjogpaa
