/-
  Plain laws: numbers as lists of truths. No program.
-/
import Derived.Test.YtjinjbcdbkgedaaNh
set_option linter.unusedVariables false
set_option linter.unusedSimpArgs false
namespace Go.Sand
/-- The binary digits of a number, the first one counts most. -/
def numB : Nat → Nat → List Bool
  | 0, _ => []
  | m + 1, n => numB m (n / 2) ++ [n % 2 == 1]
theorem numB_len : ∀ m n, (numB m n).length = m
  | 0, _ => rfl
  | m + 1, n => by rw [numB, List.length_append, numB_len m]; rfl
theorem numB_zero : ∀ m, numB m 0 = List.replicate m false
  | 0 => rfl
  | m + 1 => by rw [numB, Nat.zero_div, numB_zero m, List.replicate_succ']; rfl
theorem getElem?_snoc_lt {α : Type} (l : List α) (x : α) {i : Nat} (h : i < l.length) : (l ++ [x])[i]? = l[i]? := List.getElem?_append_left h
/-- One more: the last truths become false, the one ahead of them true. -/
theorem numB_inc : ∀ (m n j : Nat), j < m → (∀ i, m - j ≤ i → i < m → (numB m n)[i]? = some true) → (numB m n)[m - 1 - j]? = some false → numB m (n + 1) = (numB m n).take (m - 1 - j) ++ true :: List.replicate j false
  | 0, n, j, hj, _, _ => by omega
  | m + 1, n, 0, hj, h1, h0 => by
    rw [numB, numB]
    have hl := numB_len m (n / 2)
    rw [numB, show m + 1 - 1 - 0 = m by omega, List.getElem?_append_right (by omega), hl, Nat.sub_self] at h0
    simp only [List.getElem?_cons_zero, Option.some.injEq, beq_eq_false_iff_ne, ne_eq] at h0
    have e1 : (n + 1) / 2 = n / 2 := by omega
    have e2 : (n + 1) % 2 = 1 := by omega
    rw [e1, e2, show m + 1 - 1 - 0 = m by omega, List.take_append_of_le_length (by omega), List.take_of_length_le (by omega)]
    rfl
  | m + 1, n, j + 1, hj, h1, h0 => by
    have hl := numB_len m (n / 2)
    have hlast := h1 m (by omega) (by omega)
    rw [numB, List.getElem?_append_right (by omega), hl, Nat.sub_self] at hlast
    simp only [List.getElem?_cons_zero, Option.some.injEq, beq_iff_eq] at hlast
    have e1 : (n + 1) / 2 = n / 2 + 1 := by omega
    have e2 : (n + 1) % 2 = 0 := by omega
    have ih := numB_inc m (n / 2) j (by omega) (fun i hi1 hi2 => by
      have := h1 i (by omega) (by omega)
      rw [numB, List.getElem?_append_left (by omega)] at this
      exact this) (by
      rw [numB, List.getElem?_append_left (by omega)] at h0
      rw [← h0]
      congr 1
      omega)
    rw [numB, e1, e2, ih, numB, show m + 1 - 1 - (j + 1) = m - 1 - j by omega, List.take_append_of_le_length (by omega), List.append_assoc, List.cons_append, List.replicate_succ']
    rfl
theorem numB_full : ∀ (m n : Nat), n < 2 ^ m → (∀ i, i < m → (numB m n)[i]? = some true) → n + 1 = 2 ^ m
  | 0, n, hn, _ => by simp at hn; omega
  | m + 1, n, hn, h => by
    have hl := numB_len m (n / 2)
    have hlast := h m (by omega)
    rw [numB, List.getElem?_append_right (by omega), hl, Nat.sub_self] at hlast
    simp only [List.getElem?_cons_zero, Option.some.injEq, beq_iff_eq] at hlast
    rw [Nat.pow_succ] at hn ⊢
    have := numB_full m (n / 2) (by omega) fun i hi => by
      have := h i (by omega)
      rw [numB, List.getElem?_append_left (by omega)] at this
      exact this
    omega
/-- All lists of m truths. -/
def wholeL (m : Nat) : List (List Bool) := (List.range (2 ^ m)).map (numB m)
theorem wholeL_len (m : Nat) : (wholeL m).length = 2 ^ m := by simp [wholeL]
theorem wholeL_at {m k : Nat} (h : k < (wholeL m).length) : (wholeL m)[k] = numB m k := by simp [wholeL]
/-- The number of a list of truths. -/
def codeB (l : List Bool) : Nat := l.foldl (fun n b => 2 * n + if b then 1 else 0) 0
theorem codeB_snoc (l : List Bool) (b : Bool) : codeB (l ++ [b]) = 2 * codeB l + if b then 1 else 0 := by unfold codeB; rw [List.foldl_append]; rfl
theorem code_num : ∀ (m n : Nat), n < 2 ^ m → codeB (numB m n) = n
  | 0, n, h => by simp at h; subst h; rfl
  | m + 1, n, h => by
    rw [Nat.pow_succ] at h
    rw [numB, codeB_snoc, code_num m (n / 2) (by omega)]
    by_cases e : n % 2 = 1
    · simp [e]; omega
    · have : n % 2 = 0 := by omega
      simp [this]; omega
theorem list_snoc {α : Type} : ∀ (l : List α) (m : Nat), l.length = m + 1 → ∃ t x, l = t ++ [x] ∧ t.length = m := fun l m h => by
  refine ⟨l.take m, l[m], ?_, by rw [List.length_take]; omega⟩
  rw [← List.take_succ_eq_append_getElem, List.take_of_length_le (by omega)]
theorem num_code : ∀ (m : Nat) (l : List Bool), l.length = m → numB m (codeB l) = l ∧ codeB l < 2 ^ m
  | 0, l, h => by
    have : l = [] := List.length_eq_zero_iff.1 h
    subst this
    exact ⟨rfl, by decide⟩
  | m + 1, l, h => by
    obtain ⟨t, x, rfl, ht⟩ := list_snoc l m h
    obtain ⟨h1, h2⟩ := num_code m t ht
    rw [codeB_snoc, numB, Nat.pow_succ]
    cases x
    · have e1 : (2 * codeB t + 0) / 2 = codeB t := by omega
      have e2 : (2 * codeB t + 0) % 2 = 0 := by omega
      simp only [Bool.false_eq_true, if_false]
      rw [e1, e2, h1]
      exact ⟨rfl, by omega⟩
    · have e1 : (2 * codeB t + 1) / 2 = codeB t := by omega
      have e2 : (2 * codeB t + 1) % 2 = 1 := by omega
      simp only [if_true]
      rw [e1, e2, h1]
      exact ⟨rfl, by omega⟩
theorem wholeL_mem {m : Nat} {l : List Bool} : l ∈ wholeL m ↔ l.length = m := by
  unfold wholeL
  rw [List.mem_map]
  constructor
  · rintro ⟨n, _, rfl⟩; exact numB_len m n
  · intro h
    obtain ⟨h1, h2⟩ := num_code m l h
    exact ⟨codeB l, List.mem_range.2 h2, h1⟩
end Go.Sand
