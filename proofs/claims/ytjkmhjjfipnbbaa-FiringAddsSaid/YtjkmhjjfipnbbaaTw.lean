/-
  The law of the sets: plain part.
-/
import Derived.Test.YtjkmhjjfipnbbaaTv
import Derived.Test.YtjkmhjjfipnbbaaMla
set_option linter.unusedSimpArgs false
namespace Go.Proofs.Ytjkmhjjfipnbbaa
open Go.Abs Go.Sand

theorem minT_le (s : List Int) : ∀ k, k ≤ s.length → ∀ i, i < k → minT s k ≤ s.getD i 0
  | 0, _, i, h => by omega
  | k + 1, hk, i, h => by
    rw [minT]
    by_cases e : i = k
    · subst e; omega
    · have := minT_le s k (by omega) i (by omega); omega
theorem le_maxT (s : List Int) : ∀ k, k ≤ s.length → ∀ i, i < k → s.getD i 0 ≤ maxT s k
  | 0, _, i, h => by omega
  | k + 1, hk, i, h => by
    rw [maxT]
    by_cases e : i = k
    · subst e; omega
    · have := le_maxT s k (by omega) i (by omega); omega
theorem lo_hi (s : List Int) (i : Nat) (h : i < s.length) : loT s ≤ s.getD i 0 ∧ s.getD i 0 ≤ hiT s := ⟨minT_le s _ (Nat.le_refl _) i h, le_maxT s _ (Nat.le_refl _) i h⟩
/-- The script of the first k sets. -/
def scrT (s : List Int) (k : Nat) : List Int := s.map fun x => max 0 ((k : Int) - (hiT s - x))
theorem scrT_getD (s : List Int) (k i : Nat) (h : i < s.length) : (scrT s k).getD i 0 = max 0 ((k : Int) - (hiT s - s.getD i 0)) := by
  rw [getD_get (by simp [scrT, h]), getD_get h]
  simp [scrT]
theorem mem_upTo (s : List Int) (c : Int) (k : Nat) (v : Int) : v ∈ upTo s c k ↔ ∃ i : Nat, i < k ∧ c < s.getD i 0 ∧ v = i := by
  unfold upTo
  simp only [List.mem_map, List.mem_filter, List.mem_range, decide_eq_true_eq]
  exact ⟨fun ⟨i, ⟨h1, h2⟩, h3⟩ => ⟨i, h1, h2, h3.symm⟩, fun ⟨i, h1, h2, h3⟩ => ⟨i, ⟨h1, h2⟩, h3.symm⟩⟩
theorem upTo_pair (s : List Int) (c : Int) (k : Nat) : (upTo s c k).Pairwise (· < ·) := by
  unfold upTo
  rw [List.pairwise_map]
  refine List.Pairwise.imp ?_ (List.Pairwise.filter _ List.pairwise_lt_range)
  intro a b h
  omega
theorem subErr_asc {N : Int} : ∀ {l : List Int} {last : Int}, (∀ x ∈ l, 0 ≤ x ∧ x < N) → (∀ x ∈ l, last < x) → l.Pairwise (· < ·) → subErr N last l = 0
  | [], _, _, _, _ => rfl
  | x :: l, last, h1, h2, h3 => by
    rw [subErr, if_neg (by rw [vtx_iff.2 (h1 x (by simp))]; simp), if_neg (by have := h2 x (by simp); omega)]
    rw [List.pairwise_cons] at h3
    exact subErr_asc (fun y hy => h1 y (by simp [hy])) h3.1 h3.2
theorem ofL_getD (n : Nat) (t : Int) : ∀ (l : List Int) (d : List Int), (∀ x ∈ l, 0 ≤ x ∧ x < (n : Int)) → d.length = n → ∀ i, i < n → (l.foldl (fun s v => s.set v.toNat t) d).getD i 0 = if (i : Int) ∈ l then t else d.getD i 0
  | [], d, _, _, i, _ => by simp
  | x :: l, d, h, hd, i, hi => by
    rw [List.foldl_cons, ofL_getD n t l _ (fun y hy => h y (by simp [hy])) (by rw [List.length_set, hd]) i hi, getD_set]
    have hx := h x (by simp)
    by_cases h1 : (i : Int) ∈ l
    · simp [h1]
    · by_cases h2 : x.toNat = i
      · have : (i : Int) = x := by omega
        simp [h1, h2, this, hd]
        omega
      · have : ¬ (i : Int) = x := by omega
        simp [h1, h2, this]
/-- The step: one set more. -/
theorem scrT_step (s : List Int) (k i : Nat) (h : i < s.length) : (scrT s (k + 1)).getD i 0 = (scrT s k).getD i 0 + (ofL s.length (upTo s (hiT s - (k + 1)) s.length) 1).getD i 0 + 0 := by
  have h1 := lo_hi s i h
  have h2 : (ofL s.length (upTo s (hiT s - (k + 1)) s.length) 1).getD i 0 = if (i : Int) ∈ upTo s (hiT s - (k + 1)) s.length then 1 else (List.replicate s.length (0 : Int)).getD i 0 :=
    ofL_getD s.length 1 _ _ (fun x hx => by obtain ⟨j, h1, -, rfl⟩ := (mem_upTo _ _ _ _).1 hx; omega) (by simp) i h
  rw [scrT_getD s _ i h, scrT_getD s _ i h, h2]
  by_cases hm : hiT s - (k + 1) < s.getD i 0
  · rw [if_pos ((mem_upTo _ _ _ _).2 ⟨i, h, hm, rfl⟩)]
    push_cast
    omega
  · rw [if_neg fun hh => by
      obtain ⟨j, -, h4, h5⟩ := (mem_upTo _ _ _ _).1 hh
      have : j = i := by omega
      subst this
      exact hm h4]
    have : (List.replicate s.length (0 : Int)).getD i 0 = 0 := by simp [List.getD_eq_getElem?_getD, h]
    rw [this]
    push_cast
    omega
theorem scrT_zero (s : List Int) (i : Nat) (h : i < s.length) : (scrT s 0).getD i 0 = 0 := by
  have := lo_hi s i h
  rw [scrT_getD s _ i h]
  push_cast
  omega
theorem scrT_end (s : List Int) (i : Nat) (h : i < s.length) : (scrT s (hiT s - loT s).toNat).getD i 0 = s.getD i 0 + ([] : List Int).getD i 0 + (-(loT s)) := by
  have := lo_hi s i h
  rw [scrT_getD s _ i h]
  simp only [List.getD_nil]
  omega
end Go.Proofs.Ytjkmhjjfipnbbaa
