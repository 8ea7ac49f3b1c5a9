/-
  Contracts: the greatest number of a list.
-/
import Derived.Test.YtgbmdikkdjogpaaYk
set_option linter.unusedSimpArgs false
set_option linter.unusedVariables false
namespace Go.Proofs.Ytgbmdikkdjogpaa
open Go.Abs Go.Sand

/-- The greatest of the first k+1. -/
def maxK (xs : List Int) : Nat → Int
  | 0 => xs.getD 0 0
  | k + 1 => max (maxK xs k) (xs.getD (k + 1) 0)
theorem maxK_ge (xs : List Int) : ∀ k i, i ≤ k → xs.getD i 0 ≤ maxK xs k
  | 0, i, h => by have e : i = 0 := by omega
                  subst e; exact Int.le_refl _
  | k + 1, i, h => by
    rw [maxK]
    rcases Nat.lt_or_ge i (k + 1) with h1 | h1
    · have := maxK_ge xs k i (by omega); omega
    · have e : i = k + 1 := by omega
      subst e; omega
theorem maxK_le (xs : List Int) {B : Int} : ∀ k, (∀ i, i ≤ k → xs.getD i 0 ≤ B) → maxK xs k ≤ B
  | 0, h => h 0 (Nat.le_refl _)
  | k + 1, h => by
    rw [maxK]
    have h1 := maxK_le xs k fun i hi => h i (by omega)
    have h2 := h (k + 1) (Nat.le_refl _)
    omega
theorem max_ok (xs : List Int) (h0 : 0 < xs.length) (hx : xs.length ≤ 1000) : PC Try.prog 71 [.is xs] (.i (maxK xs (xs.length - 1))) [] := by
  have h1 : ¬ xs.length < 1 := by omega
  have h1' : ¬ (xs.length : Int) < 1 := by omega
  have e0 : maxK xs 0 = xs[0] := getD_get h0
  refine PC_of_W cfn71 ?_
  simp -implicitDefEqProofs (disch := omega) [c71, List.getElem?_cons_zero, List.getElem?_cons_succ, wrap_id, h0, h1, h1']
  refine loopW (xs.length - 1) (fun k st => st = ⟨[(4, .i (k + 1 : Nat)), (3, .i (maxK xs k)), (0, .p (.is xs))], []⟩) (wk_norm [] [4, 3, 0] rfl rfl) (by show _ = _; rw [e0]; rfl) ?_
  rintro k st hk rfl
  by_cases hkt : k + 1 < xs.length
  · have hkt' : (k : Int) + 1 < xs.length := by omega
    have e1 : maxK xs (k + 1) = max (maxK xs k) xs[k + 1] := by rw [maxK, getD_get hkt]
    simp -implicitDefEqProofs (disch := omega) [List.getElem?_cons_zero, List.getElem?_cons_succ, wrap_id, hkt, hkt']
    exact round_end [] [4, 3, 0] (by omega) rfl (by show _ = _; rw [e1]; rfl)
  · have hkt' : ¬ (k : Int) + 1 < xs.length := by omega
    have hke : k = xs.length - 1 := by omega
    simp -implicitDefEqProofs (disch := omega) [List.getElem?_cons_zero, List.getElem?_cons_succ, wrap_id, hkt, hkt']
    (refine fin0 trivial rfl ?_; simp -implicitDefEqProofs (disch := omega) [List.getElem?_cons_zero, List.getElem?_cons_succ, idx, wrap_id, hke])
end Go.Proofs.Ytgbmdikkdjogpaa
