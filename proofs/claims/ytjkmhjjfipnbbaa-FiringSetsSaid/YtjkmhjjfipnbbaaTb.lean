/-
  Contracts: graphs, in the reference.
-/
import Derived.Test.YtjkmhjjfipnbbaaTa
set_option linter.unusedSimpArgs false
namespace Go.Proofs.Ytjkmhjjfipnbbaa
open Go.Abs Go.Sand

theorem rvertex_ok (N v : Int) (es : List Ed) : PC Try.prog 61 [G N es, .i v] (.b (vtx N v)) [] := by
  refine PC_of_W cfn61 ?_
  by_cases h1 : 0 ≤ v <;> by_cases h2 : v < N
  all_goals
    simp -implicitDefEqProofs (disch := omega) [c61, List.getElem?_cons_zero, List.getElem?_cons_succ, wrap_id, h1, h2]
    (refine fin0 trivial rfl ?_; simp -implicitDefEqProofs (disch := omega) [List.getElem?_cons_zero, List.getElem?_cons_succ, idx, wrap_id, vtx, h1, h2])
theorem betw_drop (es : List Ed) (lo hi : Int) (k : Nat) (h : k < es.length) : betw (es.drop k) lo hi = if es[k].a = lo ∧ es[k].b = hi then es[k].m else betw (es.drop (k + 1)) lo hi := by
  rw [List.drop_eq_getElem_cons h, betw]
theorem rbetw_ok (N a b : Int) (es : List Ed) (hel : es.length ≤ 4611686018427387904) : PC Try.prog 87 [G N es, .i a, .i b] (.i (betw es (min a b) (max a b))) [] := by
  refine PC_of_W cfn87 ?_
  simp -implicitDefEqProofs (disch := omega) [c87, List.getElem?_cons_zero, List.getElem?_cons_succ, wrap_id]
  refine loopW es.length (fun k s => s = ⟨[(7, .i k), (3, .ptr 0 1 0 0), (1, .i a), (2, .i b)], [.box (.p (G N es))]⟩ ∧ betw es (min a b) (max a b) = betw (es.drop k) (min a b) (max a b)) (wk_norm [0] [7, 3, 1, 2] rfl rfl) ⟨rfl, rfl⟩ ?_
  rintro k s hk ⟨rfl, hI⟩
  by_cases hlt : k < es.length
  · have hd := betw_drop es (min a b) (max a b) k hlt
    by_cases h1 : es[k].a = min a b <;> by_cases h2 : es[k].b = max a b
    · simp -implicitDefEqProofs (disch := omega) [List.getElem?_cons_zero, List.getElem?_cons_succ, wrap_id, hlt, h1, h2]
      (refine fin0 trivial rfl ?_; simp -implicitDefEqProofs (disch := omega) [List.getElem?_cons_zero, List.getElem?_cons_succ, idx, wrap_id, hI, hd, h1, h2])
    all_goals
      simp -implicitDefEqProofs (disch := omega) [List.getElem?_cons_zero, List.getElem?_cons_succ, wrap_id, hlt, h1, h2]
      exact round_end [0] [7, 3, 1, 2] hlt rfl ⟨rfl, by rw [hI, hd]; simp [h1, h2]⟩
  · simp -implicitDefEqProofs (disch := omega) [List.getElem?_cons_zero, List.getElem?_cons_succ, wrap_id, hlt]
    (refine fin0 trivial rfl ?_; simp -implicitDefEqProofs (disch := omega) [List.getElem?_cons_zero, List.getElem?_cons_succ, idx, wrap_id, hI, betw, List.drop_of_length_le (Nat.le_of_not_lt hlt)])

theorem holds_ok (xs : List Int) (v : Int) (hx : xs.length ≤ 4611686018427387904) : PC Try.prog 103 [.is xs, .i v] (.b (decide (v ∈ xs))) [] := by
  refine PC_of_W cfn103 ?_
  simp -implicitDefEqProofs (disch := omega) [c103, List.getElem?_cons_zero, List.getElem?_cons_succ, wrap_id]
  refine loopW xs.length (fun k s => s = ⟨[(5, .i k), (0, .p (.is xs)), (1, .i v)], []⟩ ∧ (v ∈ xs ↔ v ∈ xs.drop k)) (wk_norm [] [5, 0, 1] rfl rfl) ⟨rfl, Iff.rfl⟩ ?_
  rintro k s hk ⟨rfl, hI⟩
  by_cases hlt : k < xs.length
  · have hd : v ∈ xs.drop k ↔ v = xs[k] ∨ v ∈ xs.drop (k + 1) := by rw [List.drop_eq_getElem_cons hlt, List.mem_cons]
    by_cases h1 : xs[k] = v
    · simp -implicitDefEqProofs (disch := omega) [List.getElem?_cons_zero, List.getElem?_cons_succ, wrap_id, hlt, h1]
      (refine fin0 trivial rfl ?_; simp -implicitDefEqProofs (disch := omega) [List.getElem?_cons_zero, List.getElem?_cons_succ, idx, wrap_id, hI, hd, h1])
    · simp -implicitDefEqProofs (disch := omega) [List.getElem?_cons_zero, List.getElem?_cons_succ, wrap_id, hlt, h1]
      exact round_end [] [5, 0, 1] hlt rfl ⟨rfl, by rw [hI, hd]; exact ⟨fun h => h.resolve_left (fun e => h1 e.symm), .inr⟩⟩
  · simp -implicitDefEqProofs (disch := omega) [List.getElem?_cons_zero, List.getElem?_cons_succ, wrap_id, hlt]
    (refine fin0 trivial rfl ?_; simp -implicitDefEqProofs (disch := omega) [List.getElem?_cons_zero, List.getElem?_cons_succ, idx, wrap_id, hI, List.drop_of_length_le (Nat.le_of_not_lt hlt)])
theorem sameInts_ok (xs ys : List Int) (hx : xs.length ≤ 4611686018427387904) : PC Try.prog 68 [.is xs, .is ys] (.b (decide (xs = ys))) [] := by
  refine PC_of_W cfn68 ?_
  by_cases hl : xs.length = ys.length
  rotate_left
  · have hne : xs ≠ ys := fun e => hl (by rw [e])
    have hl' : ¬ (xs.length : Int) = ys.length := by omega
    simp -implicitDefEqProofs (disch := omega) [c68, List.getElem?_cons_zero, List.getElem?_cons_succ, wrap_id, hl']
    (refine fin0 trivial rfl ?_; simp -implicitDefEqProofs (disch := omega) [List.getElem?_cons_zero, List.getElem?_cons_succ, idx, wrap_id, hne])
  simp -implicitDefEqProofs (disch := omega) [c68, List.getElem?_cons_zero, List.getElem?_cons_succ, wrap_id, hl]
  refine loopW xs.length (fun k s => s = ⟨[(5, .i k), (0, .p (.is xs)), (1, .p (.is ys))], []⟩ ∧ xs.take k = ys.take k) (wk_norm [] [5, 0, 1] rfl rfl) ⟨rfl, rfl⟩ ?_
  rintro k s hk ⟨rfl, hI⟩
  by_cases hlt : k < xs.length
  · have hlt' : k < ys.length := by omega
    by_cases h1 : xs[k] = ys[k]
    · simp -implicitDefEqProofs (disch := omega) [List.getElem?_cons_zero, List.getElem?_cons_succ, wrap_id, hlt, hlt', h1]
      exact round_end [] [5, 0, 1] hlt rfl ⟨rfl, by rw [List.take_succ_eq_append_getElem hlt, List.take_succ_eq_append_getElem hlt', hI, h1]⟩
    · have hne : xs ≠ ys := fun e => h1 (by subst e; rfl)
      simp -implicitDefEqProofs (disch := omega) [List.getElem?_cons_zero, List.getElem?_cons_succ, wrap_id, hlt, hlt', h1]
      (refine fin0 trivial rfl ?_; simp -implicitDefEqProofs (disch := omega) [List.getElem?_cons_zero, List.getElem?_cons_succ, idx, wrap_id, hne])
  · have heq : xs = ys := by rwa [List.take_of_length_le (by omega), List.take_of_length_le (by omega)] at hI
    simp -implicitDefEqProofs (disch := omega) [List.getElem?_cons_zero, List.getElem?_cons_succ, wrap_id, hlt]
    (refine fin0 trivial rfl ?_; simp -implicitDefEqProofs (disch := omega) [List.getElem?_cons_zero, List.getElem?_cons_succ, idx, wrap_id, heq])
theorem order_ok (xs ys : List Int) (hl : xs.length = ys.length) (hx : xs.length ≤ 4611686018427387904) : PC Try.prog 57 [.is xs, .is ys] (.i (orderI xs ys)) [] := by
  refine PC_of_W cfn57 ?_
  simp -implicitDefEqProofs (disch := omega) [c57, List.getElem?_cons_zero, List.getElem?_cons_succ, wrap_id]
  refine loopW xs.length (fun k s => s = ⟨[(5, .i k), (0, .p (.is xs)), (1, .p (.is ys))], []⟩ ∧ orderI xs ys = orderI (xs.drop k) (ys.drop k)) (wk_norm [] [5, 0, 1] rfl rfl) ⟨rfl, rfl⟩ ?_
  rintro k s hk ⟨rfl, hI⟩
  by_cases hlt : k < xs.length
  · have hlt' : k < ys.length := by omega
    rw [List.drop_eq_getElem_cons hlt, List.drop_eq_getElem_cons hlt', orderI] at hI
    by_cases h1 : xs[k] < ys[k]
    · simp -implicitDefEqProofs (disch := omega) [List.getElem?_cons_zero, List.getElem?_cons_succ, wrap_id, hlt, hlt', h1]
      (refine fin0 trivial rfl ?_; simp -implicitDefEqProofs (disch := omega) [List.getElem?_cons_zero, List.getElem?_cons_succ, idx, wrap_id, hI, h1])
    by_cases h2 : ys[k] < xs[k]
    · simp -implicitDefEqProofs (disch := omega) [List.getElem?_cons_zero, List.getElem?_cons_succ, wrap_id, hlt, hlt', h1, h2]
      (refine fin0 trivial rfl ?_; simp -implicitDefEqProofs (disch := omega) [List.getElem?_cons_zero, List.getElem?_cons_succ, idx, wrap_id, hI, h1, h2])
    · simp -implicitDefEqProofs (disch := omega) [List.getElem?_cons_zero, List.getElem?_cons_succ, wrap_id, hlt, hlt', h1, h2]
      exact round_end [] [5, 0, 1] hlt rfl ⟨rfl, by rw [hI, if_neg h1, if_neg h2]⟩
  · simp -implicitDefEqProofs (disch := omega) [List.getElem?_cons_zero, List.getElem?_cons_succ, wrap_id, hlt]
    (refine fin0 trivial rfl ?_; simp -implicitDefEqProofs (disch := omega) [List.getElem?_cons_zero, List.getElem?_cons_succ, idx, wrap_id, hI, orderI, List.drop_of_length_le (Nat.le_of_not_lt hlt)])
theorem orderI_zero : ∀ {xs ys : List Int}, xs.length = ys.length → (orderI xs ys = 0 ↔ xs = ys)
  | [], [], _ => by simp [orderI]
  | x :: xs, y :: ys, h => by
    rw [orderI]
    by_cases h1 : x < y
    · rw [if_pos h1]; simp; omega
    by_cases h2 : y < x
    · rw [if_neg h1, if_pos h2]; simp; omega
    · rw [if_neg h1, if_neg h2, orderI_zero (by simpa using h)]
      have : x = y := by omega
      simp [this]
theorem same_ok (xs ys : List Int) (hx : xs.length ≤ 4611686018427387904) : PC Try.prog 18 [.is xs, .is ys] (.b (decide (xs = ys))) [] := by
  refine PC_of_W cfn18 ?_
  by_cases hl : xs.length = ys.length
  rotate_left
  · have hne : xs ≠ ys := fun e => hl (by rw [e])
    have hl' : ¬ (xs.length : Int) = ys.length := by omega
    simp -implicitDefEqProofs (disch := omega) [c18, List.getElem?_cons_zero, List.getElem?_cons_succ, wrap_id, hl']
    (refine fin0 trivial rfl ?_; simp -implicitDefEqProofs (disch := omega) [List.getElem?_cons_zero, List.getElem?_cons_succ, idx, wrap_id, hne])
  simp -implicitDefEqProofs (disch := omega) [c18, List.getElem?_cons_zero, List.getElem?_cons_succ, wrap_id, hl]
  refine HC_of_PC rfl (order_ok xs ys hl hx) ?_
  simp -implicitDefEqProofs (disch := omega) [List.getElem?_cons_zero, List.getElem?_cons_succ, wrap_id]
  (refine fin0 trivial rfl ?_; simp -implicitDefEqProofs (disch := omega) [List.getElem?_cons_zero, List.getElem?_cons_succ, idx, wrap_id, orderI_zero hl])
theorem dfew_ok (xs : List Int) : PC Try.prog 36 [.is xs] (.b (decide (xs.length ≤ 24))) [] := by
  refine PC_of_W cfn36 ?_
  simp -implicitDefEqProofs (disch := omega) [c36, List.getElem?_cons_zero, List.getElem?_cons_succ, wrap_id]
  (refine fin0 trivial rfl ?_; simp -implicitDefEqProofs (disch := omega) [List.getElem?_cons_zero, List.getElem?_cons_succ, idx, wrap_id])
  omega
def in60 (x : Int) : Bool := decide (-60 ≤ x ∧ x ≤ 60)
theorem dsmall_ok (xs : List Int) (hx : xs.length ≤ 4611686018427387904) : PC Try.prog 28 [.is xs] (.b (xs.all in60)) [] := by
  refine PC_of_W cfn28 ?_
  simp -implicitDefEqProofs (disch := omega) [c28, List.getElem?_cons_zero, List.getElem?_cons_succ, wrap_id]
  refine loopW xs.length (fun k s => s = ⟨[(3, .i k), (0, .p (.is xs))], []⟩ ∧ xs.all in60 = (xs.drop k).all in60) (wk_norm [] [3, 0] rfl rfl) ⟨rfl, rfl⟩ ?_
  rintro k s hk ⟨rfl, hI⟩
  by_cases hlt : k < xs.length
  · rw [drop_all in60 xs k hlt] at hI
    by_cases h1 : xs[k] < -60
    · have hv : in60 xs[k] = false := by simp [in60]; omega
      simp -implicitDefEqProofs (disch := omega) [List.getElem?_cons_zero, List.getElem?_cons_succ, wrap_id, hlt, h1]
      (refine fin0 trivial rfl ?_; simp -implicitDefEqProofs (disch := omega) [List.getElem?_cons_zero, List.getElem?_cons_succ, idx, wrap_id, hI, hv])
    by_cases h2 : 60 < xs[k]
    · have hv : in60 xs[k] = false := by simp [in60]; omega
      simp -implicitDefEqProofs (disch := omega) [List.getElem?_cons_zero, List.getElem?_cons_succ, wrap_id, hlt, h1, h2]
      (refine fin0 trivial rfl ?_; simp -implicitDefEqProofs (disch := omega) [List.getElem?_cons_zero, List.getElem?_cons_succ, idx, wrap_id, hI, hv])
    · have hv : in60 xs[k] = true := by simp [in60]; omega
      simp -implicitDefEqProofs (disch := omega) [List.getElem?_cons_zero, List.getElem?_cons_succ, wrap_id, hlt, h1, h2]
      exact round_end [] [3, 0] hlt rfl ⟨rfl, by rw [hI, hv]; rfl⟩
  · simp -implicitDefEqProofs (disch := omega) [List.getElem?_cons_zero, List.getElem?_cons_succ, wrap_id, hlt]
    (refine fin0 trivial rfl ?_; simp -implicitDefEqProofs (disch := omega) [List.getElem?_cons_zero, List.getElem?_cons_succ, idx, wrap_id, hI, List.drop_of_length_le (Nat.le_of_not_lt hlt)])
theorem total_ok (xs : List Int) (hx : xs.length ≤ 1000) (hb : Bd 4611686018427 xs) : PC Try.prog 39 [.is xs] (.i (sumI xs)) [] := by
  refine PC_of_W cfn39 ?_
  simp -implicitDefEqProofs (disch := omega) [c39, List.getElem?_cons_zero, List.getElem?_cons_succ, wrap_id]
  have hs : ∀ k, k ≤ xs.length → -(4611686018427 * (k : Int)) ≤ sumI (xs.take k) ∧ sumI (xs.take k) ≤ 4611686018427 * (k : Int) := by
    intro k
    induction k with
    | zero => intro _; simp [sumI]
    | succ k ih =>
      intro h
      have := ih (by omega)
      have h2 := hb k
      rw [List.getD_eq_getElem?_getD, List.getElem?_eq_getElem (by omega)] at h2
      simp only [Option.getD_some] at h2
      rw [sumI_snoc xs k (by omega)]
      push_cast
      omega
  refine loopW xs.length (fun k s => s = ⟨[(4, .i k), (3, .i (sumI (xs.take k))), (0, .p (.is xs))], []⟩) (wk_norm [] [4, 3, 0] rfl rfl) rfl ?_
  rintro k s hk rfl
  by_cases hlt : k < xs.length
  · have h1 := hs (k + 1) hlt
    rw [sumI_snoc xs k hlt] at h1
    push_cast at h1
    simp -implicitDefEqProofs (disch := omega) [List.getElem?_cons_zero, List.getElem?_cons_succ, wrap_id, hlt]
    exact round_end [] [4, 3, 0] hlt rfl (by rw [sumI_snoc xs k hlt]; rfl)
  · simp -implicitDefEqProofs (disch := omega) [List.getElem?_cons_zero, List.getElem?_cons_succ, wrap_id, hlt]
    (refine fin0 trivial rfl ?_; simp -implicitDefEqProofs (disch := omega) [List.getElem?_cons_zero, List.getElem?_cons_succ, idx, wrap_id, List.take_of_length_le (Nat.le_of_not_lt hlt)])
end Go.Proofs.Ytjkmhjjfipnbbaa
