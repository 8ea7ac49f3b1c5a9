/-
  Contracts: the law MorphismCovers.
-/
import Derived.Test.YtddgepjmfnodhaaSa
set_option linter.unusedSimpArgs false
set_option linter.unusedVariables false
namespace Go.Proofs.Ytddgepjmfnodhaa
open Go.Abs Go.Sand

theorem fib_sum (m : Mo) (w : Int) (f : Nat → Int) : ∀ k, sumI ((fibL m.v w k).map fun v => f v.toNat) = sm (fun v => if vI m v = w then f v else 0) k
  | 0 => rfl
  | k + 1 => by
    rw [fibL_succ, sm, ← fib_sum m w f k]
    by_cases hv : m.v.getD k 0 = w
    · rw [if_pos hv, if_pos hv, List.map_append, sumI_append]
      simp [sumI]
    · rw [if_neg hv, if_neg hv]; omega
theorem fib_mem {vs : List Int} {w : Int} {k : Nat} {v : Int} (h : v ∈ fibL vs w k) : 0 ≤ v ∧ v < k := by
  simp only [fibL, List.mem_map, List.mem_filter, List.mem_range] at h
  obtain ⟨i, ⟨hi, _⟩, rfl⟩ := h
  omega
theorem sm_bd {f : Nat → Int} {B : Int} : ∀ {k : Nat}, (∀ i, i < k → 0 ≤ f i ∧ f i ≤ B) → 0 ≤ sm f k ∧ sm f k ≤ k * B
  | 0, _ => by simp [sm]
  | k + 1, h => by
    have := sm_bd (k := k) fun i hi => h i (by omega)
    have := h k (by omega)
    have e : ((k + 1 : Nat) : Int) * B = k * B + B := by rw [Int.natCast_succ, Int.add_mul, Int.one_mul]
    rw [sm, e]; omega
/-- The partial sums over a list of vertices. -/
def fsum (f : Nat → Int) (L : List Int) (i : Nat) : Int := sm (fun j => f (L.getD j 0).toNat) i
theorem fsum_succ {f : Nat → Int} {L : List Int} {i u : Nat} (h : i < L.length) (hu : L[i] = u) : fsum f L (i + 1) = fsum f L i + f u := by
  have hgd : L.getD i 0 = L[i] := by rw [List.getD_eq_getElem?_getD, List.getElem?_eq_getElem h]; rfl
  rw [fsum, sm, hgd, hu]; rfl
end Go.Proofs.Ytddgepjmfnodhaa
