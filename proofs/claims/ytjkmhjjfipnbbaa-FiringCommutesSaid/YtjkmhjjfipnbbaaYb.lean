/-
  The law FiringCommutes.
-/
import Derived.Test.YtjkmhjjfipnbbaaYa
set_option linter.unusedSimpArgs false
set_option linter.unusedVariables false
namespace Go.Proofs.Ytjkmhjjfipnbbaa
open Go.Abs Go.Sand

/-- A list of which the first k and the last k numbers have changed places. -/
def revL (xs : List Int) (k : Nat) : List Int := (List.range xs.length).map fun p => if p < k ∨ xs.length - 1 - p < k then xs.getD (xs.length - 1 - p) 0 else xs.getD p 0
theorem revL_len (xs : List Int) (k : Nat) : (revL xs k).length = xs.length := by simp [revL]
theorem revL_get (xs : List Int) (k p : Nat) (h : p < (revL xs k).length) : (revL xs k)[p] = if p < k ∨ xs.length - 1 - p < k then xs.getD (xs.length - 1 - p) 0 else xs.getD p 0 := by simp [revL]
theorem revL_zero (xs : List Int) : revL xs 0 = xs := by
  refine List.ext_getElem (revL_len _ _) fun i hi hi' => ?_
  rw [revL_get, if_neg (by omega), getD_get hi']
theorem revL_step (xs : List Int) (k j : Nat) (hj : k + j + 1 = xs.length) (hk : k < j) (h1 : k < (revL xs k).length) (h2 : j < (revL xs k).length) : ((revL xs k).set k (revL xs k)[j]).set j (revL xs k)[k] = revL xs (k + 1) := by
  have hl := revL_len xs k
  rw [revL_get xs k j h2, revL_get xs k k h1]
  refine List.ext_getElem (by rw [List.length_set, List.length_set, revL_len, revL_len]) fun i hi hi' => ?_
  rw [List.length_set, List.length_set] at hi
  rw [revL_get xs (k + 1) i hi', List.getElem_set, List.getElem_set, revL_get xs k i hi]
  by_cases a1 : j = i
  · subst a1
    rw [if_pos rfl, if_neg (by omega), if_pos (by omega)]
    congr 1; omega
  · rw [if_neg a1]
    by_cases a2 : k = i
    · subst a2
      rw [if_pos rfl, if_neg (by omega), if_pos (by omega)]
      congr 1; omega
    · rw [if_neg a2]
      by_cases a3 : i < k ∨ xs.length - 1 - i < k
      · rw [if_pos a3, if_pos (by omega)]
      · rw [if_neg a3, if_neg (by omega)]
theorem revL_end (xs : List Int) : revL xs (xs.length / 2) = xs.reverse := by
  refine List.ext_getElem (by rw [revL_len, List.length_reverse]) fun i hi hi' => ?_
  rw [revL_len] at hi
  rw [revL_get, List.getElem_reverse]
  split
  · rw [getD_get (by omega)]
  · have : xs.length - 1 - i = i := by omega
    rw [getD_get hi]
    congr 1; omega
theorem reverse_ok (b : AV) (xs : List Int) (hx : xs.length ≤ 1000000) {R : AV → List AO → Prop} (hR : R (.tup []) [.box b, .row (xs.reverse.map .i) 1 3 false]) :
    HC Try.prog false 47 [.os 1 0 xs.length] [.box b, .row (xs.map .i) 1 3 false] R := by
  refine HC_of_W (af := _) ((by exact cfn47 : cfn _ _ _ = some _)) ?_
  simp -implicitDefEqProofs (disch := omega) [c47, List.getElem?_cons_zero, List.getElem?_cons_succ, wrap_id]
  refine loopW (xs.length / 2) (fun k s => ∃ j : Int, j = (xs.length : Int) - 1 - k ∧ s = ⟨[(2, .i k), (3, .i j), (0, .os 1 0 xs.length)], [.box b, .row ((revL xs k).map .i) 1 3 false]⟩)
    (Wk_keep [2, 3, 0]) ⟨_, rfl, by rw [revL_zero]; simp⟩ ?_
  rintro k s hk ⟨j, hj, rfl⟩
  have hl := revL_len xs k
  by_cases hlt : k < xs.length / 2
  · obtain ⟨i, rfl⟩ : ∃ i : Nat, j = i := ⟨j.toNat, by omega⟩
    have hki : (k : Int) < i := by omega
    have hk1 : k < xs.length := by omega
    have hi1 : i < xs.length := by omega
    have hst := revL_step xs k i (by omega) (by omega) (by omega) (by omega)
    simp -implicitDefEqProofs (disch := omega) [List.getElem?_cons_zero, List.getElem?_cons_succ, wrap_id, hki, hk1, hi1, hl]
    have e1 : (i : Int) - 1 = (xs.length : Int) - 1 - ((k + 1 : Nat) : Int) := by omega
    refine round_end' hlt (Wk_keep [2, 3, 0]) ?_
    rw [← hst, List.map_set, List.map_set, ← e1]
    rfl
  · have hkn : k = xs.length / 2 := by omega
    have hki : ¬ (k : Int) < j := by omega
    simp -implicitDefEqProofs (disch := omega) [List.getElem?_cons_zero, List.getElem?_cons_succ, wrap_id, hki]
    subst hkn
    rw [revL_end]
    exact finH trivial rfl hR
theorem commutes_at (N : Int) (es : List Ed) (d ms : List Int) : PC Try.prog 11 [G N es, .is d, .is ms] (.b true) [] := by
  refine PC_of_W cfn11 ?_
  simp -implicitDefEqProofs (disch := omega) [c11, List.getElem?_cons_zero, List.getElem?_cons_succ, wrap_id]
  refine HC_of_PC rfl (small18_ok N es d) ?_
  cases hsm : smallB N es d
  · simp -implicitDefEqProofs (disch := omega) [List.getElem?_cons_zero, List.getElem?_cons_succ, wrap_id]
    refine HC_of_PC rfl (awake_ok) ?_
    simp -implicitDefEqProofs (disch := omega) [List.getElem?_cons_zero, List.getElem?_cons_succ, wrap_id]
    (refine fin0 trivial rfl ?_; simp -implicitDefEqProofs (disch := omega) [List.getElem?_cons_zero, List.getElem?_cons_succ, idx, wrap_id])
  by_cases h60 : 60 < (ms.length : Int)
  · simp -implicitDefEqProofs (disch := omega) [List.getElem?_cons_zero, List.getElem?_cons_succ, wrap_id, h60]
    refine HC_of_PC rfl (awake_ok) ?_
    simp -implicitDefEqProofs (disch := omega) [List.getElem?_cons_zero, List.getElem?_cons_succ, wrap_id]
    (refine fin0 trivial rfl ?_; simp -implicitDefEqProofs (disch := omega) [List.getElem?_cons_zero, List.getElem?_cons_succ, idx, wrap_id])
  obtain ⟨hf, h0, h60d⟩ := smallB_ok hsm
  have hl := few_len hf
  have he : es.length ≤ 1000 := by omega
  have hgc := given_gcheck h0
  have hw := few_ends hf hgc
  obtain ⟨n, rfl, hg, hn0, hb, hn1, hn⟩ := given_ok h0
  have hpl := playE_len (N := n) (es := es) (d := d) (ms := ms) (by omega)
  simp -implicitDefEqProofs (disch := omega) [List.getElem?_cons_zero, List.getElem?_cons_succ, wrap_id, h60]
  refine HC_of_PC rfl (play_ok n es d ms he (by omega) (by omega)) ?_
  by_cases hle : listE n ms = 0
  rotate_left
  · have hpe : (playE n es d ms).2.2 = listE n ms := by rw [playE, if_neg (by simp [h0]), if_pos hle]
    simp -implicitDefEqProofs (disch := omega) [List.getElem?_cons_zero, List.getElem?_cons_succ, wrap_id, hpe, hle]
    refine HC_of_PC rfl (awake_ok) ?_
    simp -implicitDefEqProofs (disch := omega) [List.getElem?_cons_zero, List.getElem?_cons_succ, wrap_id]
    (refine fin0 trivial rfl ?_; simp -implicitDefEqProofs (disch := omega) [List.getElem?_cons_zero, List.getElem?_cons_succ, idx, wrap_id])
  obtain ⟨hms, -⟩ := list_ok hle
  have hpl : playE n es d ms = playL n es d ms 0 := by rw [playE, if_neg (by simp [h0]), if_neg (by simp [hle])]; rfl
  have hbd : ∀ x : List Int, x.length ≤ 60 → ∀ j, -(1000 - 9 * (x.length : Int)) ≤ d.getD j 0 ∧ d.getD j 0 ≤ 1000 - 9 * x.length := fun x hx j => by
    have := small_get h60d j; omega
  rcases play_end hg.right hw ms d 0 hms hn0 (hbd ms (by omega)) with he18 | hend
  · have hpe : (playE n es d ms).2.2 = 18 := by rw [hpl, he18]
    simp -implicitDefEqProofs (disch := omega) [List.getElem?_cons_zero, List.getElem?_cons_succ, wrap_id, hpe]
    refine HC_of_PC rfl (awake_ok) ?_
    simp -implicitDefEqProofs (disch := omega) [List.getElem?_cons_zero, List.getElem?_cons_succ, wrap_id]
    (refine fin0 trivial rfl ?_; simp -implicitDefEqProofs (disch := omega) [List.getElem?_cons_zero, List.getElem?_cons_succ, idx, wrap_id])
  have hpe : playE n es d ms = (movedE es (cntL n ms) d, ms.length, 0) := by rw [hpl, hend, Nat.zero_add]
  simp -implicitDefEqProofs (disch := omega) [List.getElem?_cons_zero, List.getElem?_cons_succ, wrap_id, hpe]
  refine HC_of_PC rfl (fcount_ok n es ms he (by omega)) ?_
  have hcl := cntL_get hms
  have hcE : cntE n es ms = 0 := by rw [cntE, if_neg (by simp [hgc]), hle]
  have hcR : cntR n es ms = cntL n ms := if_pos hcE
  have hcb : ∀ i, 0 ≤ (cntL n ms).getD i 0 ∧ (cntL n ms).getD i 0 ≤ 60 := fun i => by
    have := (cntL_len n ms ms.length (Nat.le_refl _)).2 i
    rw [List.take_length] at this
    omega
  have hcin : (cntL n ms).all inB = true := all_inB fun i _ => by have := hcb i; omega
  have hgc2 : givenE n es (cntL n ms) = 0 := given_mk h0 (by rw [hcl.1, hn0]) hcin
  have hg2 : giv2E n es d (cntL n ms) = 0 := by rw [giv2E, if_neg (by simp [h0]), hgc2]
  have hsp : ∀ i j, i < n → j < n → (cntL n ms).getD i 0 - (cntL n ms).getD j 0 ≤ 120 := fun i j _ _ => by have := hcb i; have := hcb j; omega
  have hmv := moved_small hg.right hw hn0 hsp (fun i => by have := small_get h60d i; omega)
  have hres := res_in hmv
  rw [hcE, hcR]
  simp -implicitDefEqProofs (disch := omega) [List.getElem?_cons_zero, List.getElem?_cons_succ, wrap_id]
  refine HC_of_PC rfl (PC_is (apply_ok n es d (cntL n ms) he (by omega) (by rw [hcl.1]; omega)) (r' := .tup [.p (.is (movedE es (cntL n ms) d)), .i 0]) (by rw [resT2, hg2, hres.1, hres.2])) ?_
  simp -implicitDefEqProofs (disch := omega) [List.getElem?_cons_zero, List.getElem?_cons_succ, wrap_id]
  refine HC_of_PC rfl (aws (movedE es (cntL n ms) d) (by rw [movedE_length]; omega)) ?_
  simp -implicitDefEqProofs (disch := omega) [List.getElem?_cons_zero, List.getElem?_cons_succ, wrap_id]
  refine HC_of_PC rfl (cloneI_ok ms (by omega)) ?_
  simp -implicitDefEqProofs (disch := omega) [List.getElem?_cons_zero, List.getElem?_cons_succ, wrap_id]
  refine reverse_ok _ ms (by omega) ?_
  simp -implicitDefEqProofs (disch := omega) [List.getElem?_cons_zero, List.getElem?_cons_succ, wrap_id]
  have hrv : ∀ x ∈ ms.reverse, 0 ≤ x ∧ x < (n : Int) := fun x hx => hms x (by simpa using hx)
  have hlr : listE n ms.reverse = 0 := by
    have hlen : ¬ 4096 < ms.reverse.length := by rw [List.length_reverse]; omega
    rw [listE, if_neg hlen, if_pos (List.all_eq_true.2 fun x hx => vtx_iff.2 (hrv x hx))]
  have hpr : playE n es d ms.reverse = playL n es d ms.reverse 0 := by rw [playE, if_neg (by simp [h0]), if_neg (by simp [hlr])]; rfl
  refine HC_of_PC (by simp [views, view, viewC]) (play_ok n es d ms.reverse he (by omega) (by rw [List.length_reverse]; omega)) ?_
  rcases play_end hg.right hw ms.reverse d 0 hrv hn0 (hbd ms.reverse (by rw [List.length_reverse]; omega)) with hr18 | hre
  · have hpe2 : (playE n es d ms.reverse).2.2 = 18 := by rw [hpr, hr18]
    simp -implicitDefEqProofs (disch := omega) [List.getElem?_cons_zero, List.getElem?_cons_succ, wrap_id, hpe2]
    refine HC_of_PC rfl (awake_ok) ?_
    simp -implicitDefEqProofs (disch := omega) [List.getElem?_cons_zero, List.getElem?_cons_succ, wrap_id]
    (refine fin0 trivial rfl ?_; simp -implicitDefEqProofs (disch := omega) [List.getElem?_cons_zero, List.getElem?_cons_succ, idx, wrap_id])
  · have hpe2 : playE n es d ms.reverse = (movedE es (cntL n ms) d, ms.length, 0) := by rw [hpr, hre, cntL_rev hms, Nat.zero_add, List.length_reverse]
    simp -implicitDefEqProofs (disch := omega) [List.getElem?_cons_zero, List.getElem?_cons_succ, wrap_id, hpe2]
    refine HC_of_PC rfl (aws (movedE es (cntL n ms) d) (by rw [movedE_length]; omega)) ?_
    simp -implicitDefEqProofs (disch := omega) [List.getElem?_cons_zero, List.getElem?_cons_succ, wrap_id]
    refine HC_of_PC rfl (awake_ok) ?_
    simp -implicitDefEqProofs (disch := omega) [List.getElem?_cons_zero, List.getElem?_cons_succ, wrap_id]
    (refine fin0 trivial rfl ?_; simp -implicitDefEqProofs (disch := omega) [List.getElem?_cons_zero, List.getElem?_cons_succ, idx, wrap_id])
end Go.Proofs.Ytjkmhjjfipnbbaa
