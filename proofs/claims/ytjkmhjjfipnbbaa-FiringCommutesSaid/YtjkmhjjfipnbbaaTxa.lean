/-
  The law's small divisors.
-/
import Derived.Test.YtjkmhjjfipnbbaaTu
import Derived.Test.YtjkmhjjfipnbbaaMla
set_option linter.unusedSimpArgs false
set_option linter.unusedVariables false
namespace Go.Proofs.Ytjkmhjjfipnbbaa
open Go.Abs Go.Sand

def smallB (N : Int) (es : List Ed) (d : List Int) : Bool := few18 N es d && decide (givenE N es d = 0) && d.all in60
theorem small18_ok (N : Int) (es : List Ed) (d : List Int) : PC Try.prog 29 [G N es, .is d] (.b (smallB N es d)) [] := by
  refine PC_of_W cfn29 ?_
  simp -implicitDefEqProofs (disch := omega) [c29, List.getElem?_cons_zero, List.getElem?_cons_succ, wrap_id]
  refine HC_of_PC rfl (rfew_ok N es d) ?_
  cases hf : few18 N es d
  · simp -implicitDefEqProofs (disch := omega) [List.getElem?_cons_zero, List.getElem?_cons_succ, wrap_id]
    (refine fin0 trivial rfl ?_; simp -implicitDefEqProofs (disch := omega) [List.getElem?_cons_zero, List.getElem?_cons_succ, idx, wrap_id, smallB, hf])
  have hl := few_len hf
  simp -implicitDefEqProofs (disch := omega) [List.getElem?_cons_zero, List.getElem?_cons_succ, wrap_id]
  refine HC_of_PC rfl (rgiven_ok N es d (by omega) (by omega)) ?_
  by_cases h0 : givenE N es d = 0
  · simp -implicitDefEqProofs (disch := omega) [List.getElem?_cons_zero, List.getElem?_cons_succ, wrap_id, h0]
    refine HC_of_PC rfl (dsmall_ok d (by omega)) ?_
    simp -implicitDefEqProofs (disch := omega) [List.getElem?_cons_zero, List.getElem?_cons_succ, wrap_id]
    (refine fin0 trivial rfl ?_; simp -implicitDefEqProofs (disch := omega) [List.getElem?_cons_zero, List.getElem?_cons_succ, idx, wrap_id, smallB, hf, h0])
  · simp -implicitDefEqProofs (disch := omega) [List.getElem?_cons_zero, List.getElem?_cons_succ, wrap_id, h0]
    (refine fin0 trivial rfl ?_; simp -implicitDefEqProofs (disch := omega) [List.getElem?_cons_zero, List.getElem?_cons_succ, idx, wrap_id, smallB, hf, h0])
theorem ofL_getD (n : Nat) (t : Int) : ∀ (l : List Int) (d : List Int), (∀ x ∈ l, 0 ≤ x ∧ x < (n : Int)) → d.length = n → ∀ i, i < n → (l.foldl (fun s v => s.set v.toNat t) d).getD i 0 = if (i : Int) ∈ l then t else d.getD i 0
  | [], d, _, _, i, _ => by simp
  | x :: l, d, h, hd, i, hi => by
    rw [List.foldl_cons, ofL_getD n t l _ (fun y hy => h y (by simp [hy])) (by rw [List.length_set, hd]) i hi, getD_set]
    have hx := h x (by simp)
    by_cases h1 : (i : Int) ∈ l
    · simp [h1]
    · by_cases h2 : x.toNat = i
      · have : (i : Int) = x := by omega
        simp [h1, h2, this, hd]
        omega
      · have : ¬ (i : Int) = x := by omega
        simp [h1, h2, this]
theorem few_ends {N : Int} {es : List Ed} {d : List Int} (h : few18 N es d = true) (hg : gcheck N es = 0) : sumI (es.map (·.m)) ≤ 9 := by
  have h1 := ends_sum (gcheck_ok hg).right
  simp only [few18, smallG, Bool.and_eq_true, Bool.or_eq_true, decide_eq_true_eq] at h
  rcases h.1.2 with h2 | h2
  · exact absurd hg h2
  · omega
theorem all_inB {m : List Int} (h : ∀ i, i < m.length → -1048576 ≤ m.getD i 0 ∧ m.getD i 0 ≤ 1048576) : m.all inB = true := by
  rw [List.all_eq_true]
  intro x hx
  obtain ⟨i, hi, rfl⟩ := List.getElem_of_mem hx
  have := h i hi
  rw [getD_get hi] at this
  exact inB_iff.2 this
theorem zero_getD (n i : Nat) : (List.replicate n (0 : Int)).getD i 0 = 0 := by
  by_cases h : i < n <;> simp [List.getD_eq_getElem?_getD, h]
theorem moved_small {n : Nat} {es : List Ed} (hg : ∀ x ∈ es, Right n x) (hw : sumI (es.map (·.m)) ≤ 9) {s d : List Int} (hd : d.length = n) (h : ∀ i j, i < n → j < n → s.getD i 0 - s.getD j 0 ≤ 120) (hb : ∀ i, -100000 ≤ d.getD i 0 ∧ d.getD i 0 ≤ 100000) : (movedE es s d).all inB = true := by
  refine all_inB fun i hi => ?_
  have h1 := moved_dif hg s d hd i
  have h2 := dif_bd hg (B := 120) (by omega) h i
  have h3 := hb i
  omega
theorem small_get {s : List Int} (h : s.all in60 = true) (i : Nat) : -60 ≤ s.getD i 0 ∧ s.getD i 0 ≤ 60 := by
  by_cases hi : i < s.length
  · have := List.all_eq_true.1 h _ (List.getElem_mem hi)
    rw [getD_get hi]
    simpa [in60] using this
  · simp [List.getD_eq_getElem?_getD, List.getElem?_eq_none (Nat.le_of_not_lt hi)]
theorem res_in {m : List Int} (h : m.all inB = true) : resE 0 m = 0 ∧ Sand.resL 0 m = m := ⟨by rw [Sand.res_ok, bndE, if_pos h], by rw [Sand.resL, if_pos ⟨rfl, h⟩]⟩
theorem smallB_ok {N : Int} {es : List Ed} {d : List Int} (h : smallB N es d = true) : few18 N es d = true ∧ givenE N es d = 0 ∧ d.all in60 = true := by
  simpa [smallB, Bool.and_eq_true, decide_eq_true_eq, and_assoc] using h
theorem given_mk {N : Int} {es : List Ed} {d m : List Int} (h : givenE N es d = 0) (hl : m.length = d.length) (hb : m.all inB = true) : givenE N es m = 0 := by
  have hg := given_gcheck h
  obtain ⟨n, rfl, -, h1, -⟩ := given_ok h
  rw [givenE, if_neg (by simp [hg]), dcheck] at h ⊢
  split at h
  · cases h
  · split at h
    · rename_i h2; exact absurd (by rw [h1]) h2
    · rename_i h2 h3
      rw [if_neg h2, if_neg (by omega), if_pos hb]
theorem ofL_at {n : Nat} {l : List Int} (t : Int) (h : ∀ x ∈ l, 0 ≤ x ∧ x < (n : Int)) (i : Nat) (hi : i < n) : (ofL n l t).getD i 0 = if (i : Int) ∈ l then t else 0 := by
  rw [ofL, ofL_getD n t l _ h (by simp) i hi, zero_getD]
end Go.Proofs.Ytjkmhjjfipnbbaa
