/-
  Contracts: playing, in the reference; the law of it.
-/
import Derived.Test.YtjkmhjjfipnbbaaTt
set_option linter.unusedSimpArgs false
namespace Go.Proofs.Ytjkmhjjfipnbbaa
open Go.Abs Go.Sand

theorem rplay_ok (N : Int) (es : List Ed) (d ms : List Int) (he : es.length ≤ 1000) (hd : d.length ≤ 4611686018427387904) (hm : ms.length ≤ 4611686018427387904) :
    PC Try.prog 42 [G N es, .is d, .is ms] (.tup [.p (.is (playE N es d ms).1), .i (playE N es d ms).2.1, .i (playE N es d ms).2.2]) [] := by
  refine PC_of_W cfn42 ?_
  simp -implicitDefEqProofs (disch := omega) [c42, List.getElem?_cons_zero, List.getElem?_cons_succ, wrap_id]
  refine HC_of_PC rfl (rgiven_ok N es d (by omega) hd) ?_
  by_cases h0 : givenE N es d = 0
  rotate_left
  · have hp : playE N es d ms = ([], 0, givenE N es d) := by rw [playE, if_pos h0]
    simp -implicitDefEqProofs (disch := omega) [List.getElem?_cons_zero, List.getElem?_cons_succ, wrap_id, h0]
    refine finW (Wk_nil0 6 rfl) ?_
    (refine fin0 trivial rfl ?_; simp -implicitDefEqProofs (disch := omega) [List.getElem?_cons_zero, List.getElem?_cons_succ, idx, wrap_id, hp])
  simp -implicitDefEqProofs (disch := omega) [List.getElem?_cons_zero, List.getElem?_cons_succ, wrap_id, h0]
  refine HC_of_PC rfl (moves_ok N es ms hm) ?_
  by_cases h1 : listE N ms = 0
  rotate_left
  · have hp : playE N es d ms = ([], 0, listE N ms) := by rw [playE, if_neg (by simp [h0]), if_pos h1]
    simp -implicitDefEqProofs (disch := omega) [List.getElem?_cons_zero, List.getElem?_cons_succ, wrap_id, h1]
    refine finW (Wk_nil0 6 rfl) ?_
    (refine fin0 trivial rfl ?_; simp -implicitDefEqProofs (disch := omega) [List.getElem?_cons_zero, List.getElem?_cons_succ, idx, wrap_id, hp])
  have hp : playE N es d ms = playL N.toNat es d ms 0 := by rw [playE, if_neg (by simp [h0]), if_neg (by simp [h1])]
  obtain ⟨n, rfl, hg, hl, hb, hn1, hn⟩ := given_ok h0
  have hms := (list_ok h1).1
  have hd' : d.length ≤ 1048576 := by omega
  simp -implicitDefEqProofs (disch := omega) [List.getElem?_cons_zero, List.getElem?_cons_succ, wrap_id, h1, hd']
  refine loopW ms.length (fun k s => ∃ d' : List Int, s = ⟨[(12, .i k), (11, .p (.is d')), (3, .ptr 0 1 0 0), (2, .p (.is ms))], [.box (.p (G n es))]⟩ ∧ d'.length = n ∧ Bd 1048576 d' ∧ playL n es d ms 0 = playL n es d' (ms.drop k) k) (wk_norm [0] [12, 11, 3, 2] rfl (by simp [norm, renH, Abs.get, AV.ren, AO.ren, idx])) ⟨d, rfl, hl, hb, rfl⟩ ?_
  rintro k s hk ⟨d', rfl, hl', hb', hI⟩
  by_cases hlt : k < ms.length
  rotate_left
  · rw [List.drop_of_length_le (Nat.le_of_not_lt hlt)] at hI
    have hk' : (k : Int) = ms.length := by omega
    simp -implicitDefEqProofs (disch := omega) [List.getElem?_cons_zero, List.getElem?_cons_succ, wrap_id, hlt]
    (refine fin0 trivial rfl ?_; simp -implicitDefEqProofs (disch := omega) [List.getElem?_cons_zero, List.getElem?_cons_succ, idx, wrap_id, hp, hI, playL, hk'])
  obtain ⟨v, hv⟩ : ∃ v : Nat, ms[k] = v := ⟨ms[k].toNat, by have := hms _ (List.getElem_mem hlt); omega⟩
  have hvn : v < n := by have := hms _ (List.getElem_mem hlt); omega
  rw [List.drop_eq_getElem_cons hlt, hv] at hI
  simp -implicitDefEqProofs (disch := omega) [List.getElem?_cons_zero, List.getElem?_cons_succ, wrap_id, hlt, hv]
  refine HC_of_PC rfl (rmay_ok n v es d' hg hvn hl' he) ?_
  cases h2 : mayB es d' v
  · rw [playL_no h2] at hI
    simp -implicitDefEqProofs (disch := omega) [List.getElem?_cons_zero, List.getElem?_cons_succ, wrap_id]
    refine finW (Wk_nil0 6 rfl) ?_
    (refine fin0 trivial rfl ?_; simp -implicitDefEqProofs (disch := omega) [List.getElem?_cons_zero, List.getElem?_cons_succ, idx, wrap_id, hp, hI])
  simp -implicitDefEqProofs (disch := omega) [List.getElem?_cons_zero, List.getElem?_cons_succ, wrap_id, hlt, hv]
  refine HC_of_PC rfl (one_ok n v es 1 (by omega) hvn) ?_
  simp -implicitDefEqProofs (disch := omega) [List.getElem?_cons_zero, List.getElem?_cons_succ, wrap_id]
  refine HC_of_PC rfl (rmoved_ok n es _ d' hg (ofL_length _ _ _) hl' he (ofL_bd _ _ _ (by omega)) (hb'.more (by omega))) ?_
  simp -implicitDefEqProofs (disch := omega) [List.getElem?_cons_zero, List.getElem?_cons_succ, wrap_id]
  refine HC_of_PC rfl (r18right_ok _ (by rw [movedE_length]; omega)) ?_
  by_cases h3 : bndE (movedE es (ofL n [(v : Int)] 1) d') = 0
  · rw [playL_go h2 h3] at hI
    have hr : Sand.resL 0 (movedE es (ofL n [(v : Int)] 1) d') = movedE es (ofL n [(v : Int)] 1) d' := by rw [Sand.resL, if_pos ⟨rfl, (bnd_ok h3).2⟩]
    simp -implicitDefEqProofs (disch := omega) [List.getElem?_cons_zero, List.getElem?_cons_succ, wrap_id, Sand.res_ok, h3, hr]
    exact round_end [0] [12, 11, 3, 2] hlt rfl ⟨_, rfl, by rw [movedE_length, hl'], (bnd_ok h3).1, hI⟩
  · rw [playL_large h2 h3] at hI
    simp -implicitDefEqProofs (disch := omega) [List.getElem?_cons_zero, List.getElem?_cons_succ, wrap_id, Sand.res_ok, h3]
    refine finW (Wk_nil0 6 rfl) ?_
    (refine fin0 trivial rfl ?_; simp -implicitDefEqProofs (disch := omega) [List.getElem?_cons_zero, List.getElem?_cons_succ, idx, wrap_id, hp, hI])
theorem fewMoves_ok (ms : List Int) : ∃ b : Bool, (b = true → ms.length ≤ 8192) ∧ PC Try.prog 40 [.is ms] (.b b) [] := by
  by_cases h1 : (ms.length : Int) ≤ 80
  · have h1' : ms.length ≤ 80 := by omega
    refine ⟨true, fun _ => by omega, ?_⟩
    refine PC_of_W cfn40 ?_
    simp -implicitDefEqProofs (disch := omega) [c40, List.getElem?_cons_zero, List.getElem?_cons_succ, wrap_id, h1]
    (refine fin0 trivial rfl ?_; simp -implicitDefEqProofs (disch := omega) [List.getElem?_cons_zero, List.getElem?_cons_succ, idx, wrap_id])
  by_cases h2 : (4096 : Int) < ms.length
  · by_cases h3 : (ms.length : Int) ≤ 8192
    · refine ⟨true, fun _ => by omega, ?_⟩
      refine PC_of_W cfn40 ?_
      simp -implicitDefEqProofs (disch := omega) [c40, List.getElem?_cons_zero, List.getElem?_cons_succ, wrap_id, h1, h2, h3]
      (refine fin0 trivial rfl ?_; simp -implicitDefEqProofs (disch := omega) [List.getElem?_cons_zero, List.getElem?_cons_succ, idx, wrap_id])
    · refine ⟨false, fun h => by simp at h, ?_⟩
      refine PC_of_W cfn40 ?_
      simp -implicitDefEqProofs (disch := omega) [c40, List.getElem?_cons_zero, List.getElem?_cons_succ, wrap_id, h1, h2, h3]
      (refine fin0 trivial rfl ?_; simp -implicitDefEqProofs (disch := omega) [List.getElem?_cons_zero, List.getElem?_cons_succ, idx, wrap_id])
  · refine ⟨false, fun h => by simp at h, ?_⟩
    refine PC_of_W cfn40 ?_
    simp -implicitDefEqProofs (disch := omega) [c40, List.getElem?_cons_zero, List.getElem?_cons_succ, wrap_id, h1, h2]
    (refine fin0 trivial rfl ?_; simp -implicitDefEqProofs (disch := omega) [List.getElem?_cons_zero, List.getElem?_cons_succ, idx, wrap_id])
theorem sameScripts_ok (l : List Int) (h : l.length ≤ 1000) : PC Try.prog 45 [.is l, .is l] (.b true) [] := by
  refine PC_of_W cfn45 ?_
  simp -implicitDefEqProofs (disch := omega) [c45, List.getElem?_cons_zero, List.getElem?_cons_succ, wrap_id]
  refine HC_of_PC rfl (aws l h) ?_
  simp -implicitDefEqProofs (disch := omega) [List.getElem?_cons_zero, List.getElem?_cons_succ, wrap_id]
  (refine fin0 trivial rfl ?_; simp -implicitDefEqProofs (disch := omega) [List.getElem?_cons_zero, List.getElem?_cons_succ, idx, wrap_id])
theorem playL_len (n : Nat) (es : List Ed) : ∀ (ms d : List Int) (i : Nat), d.length ≤ 1000 → (playL n es d ms i).1.length ≤ 1000
  | [], d, i, h => h
  | v :: ms, d, i, h => by
    rw [playL]
    split
    · split
      · exact playL_len n es ms _ _ (by rw [movedE_length]; exact h)
      · simp
    · simp
theorem playE_len {N : Int} {es : List Ed} {d ms : List Int} (h : d.length ≤ 1000) : (playE N es d ms).1.length ≤ 1000 := by
  unfold playE
  split
  · simp
  · split
    · simp
    · exact playL_len _ _ _ _ _ h
theorem cntR_len {N : Int} {es : List Ed} {ms : List Int} : (cntR N es ms).length ≤ 1000 := by
  unfold cntR
  split
  · rename_i h
    have hg : gcheck N es = 0 := by
      unfold cntE at h
      split at h
      · rename_i h1; exact absurd h h1
      · rename_i h1; simpa using h1
    have h2 := (gcheck_ok hg).n12
    have := (cntL_len N.toNat ms ms.length (Nat.le_refl _)).1
    rw [List.take_length] at this
    omega
  · simp
theorem plays_at (N : Int) (es : List Ed) (d ms : List Int) : PC Try.prog 10 [G N es, .is d, .is ms] (.b true) [] := by
  refine PC_of_W cfn10 ?_
  simp -implicitDefEqProofs (disch := omega) [c10, List.getElem?_cons_zero, List.getElem?_cons_succ, wrap_id]
  refine HC_of_PC rfl (rfew_ok N es d) ?_
  cases hf : few18 N es d
  · simp -implicitDefEqProofs (disch := omega) [List.getElem?_cons_zero, List.getElem?_cons_succ, wrap_id]
    refine HC_of_PC rfl (awake_ok) ?_
    simp -implicitDefEqProofs (disch := omega) [List.getElem?_cons_zero, List.getElem?_cons_succ, wrap_id]
    (refine fin0 trivial rfl ?_; simp -implicitDefEqProofs (disch := omega) [List.getElem?_cons_zero, List.getElem?_cons_succ, idx, wrap_id])
  have hl := few_len hf
  have hd : d.length ≤ 4611686018427387904 := by omega
  have he : es.length ≤ 1000 := by omega
  obtain ⟨b, hb, hc⟩ := fewMoves_ok ms
  simp -implicitDefEqProofs (disch := omega) [List.getElem?_cons_zero, List.getElem?_cons_succ, wrap_id]
  refine HC_of_PC rfl (hc) ?_
  cases b
  · simp -implicitDefEqProofs (disch := omega) [List.getElem?_cons_zero, List.getElem?_cons_succ, wrap_id]
    refine HC_of_PC rfl (awake_ok) ?_
    simp -implicitDefEqProofs (disch := omega) [List.getElem?_cons_zero, List.getElem?_cons_succ, wrap_id]
    (refine fin0 trivial rfl ?_; simp -implicitDefEqProofs (disch := omega) [List.getElem?_cons_zero, List.getElem?_cons_succ, idx, wrap_id])
  have hms := hb rfl
  have hm : ms.length ≤ 4611686018427387904 := by omega
  simp -implicitDefEqProofs (disch := omega) [List.getElem?_cons_zero, List.getElem?_cons_succ, wrap_id]
  refine HC_of_PC rfl (play_ok N es d ms he hd hm) ?_
  simp -implicitDefEqProofs (disch := omega) [List.getElem?_cons_zero, List.getElem?_cons_succ, wrap_id]
  refine HC_of_PC rfl (rplay_ok N es d ms he hd hm) ?_
  simp -implicitDefEqProofs (disch := omega) [List.getElem?_cons_zero, List.getElem?_cons_succ, wrap_id]
  refine HC_of_PC rfl (fcount_ok N es ms he hm) ?_
  simp -implicitDefEqProofs (disch := omega) [List.getElem?_cons_zero, List.getElem?_cons_succ, wrap_id]
  refine HC_of_PC rfl (rcount_ok N es ms he hm) ?_
  simp -implicitDefEqProofs (disch := omega) [List.getElem?_cons_zero, List.getElem?_cons_succ, wrap_id]
  refine HC_of_PC rfl (aws _ (playE_len (by omega))) ?_
  simp -implicitDefEqProofs (disch := omega) [List.getElem?_cons_zero, List.getElem?_cons_succ, wrap_id]
  refine HC_of_PC rfl (sameScripts_ok _ cntR_len) ?_
  simp -implicitDefEqProofs (disch := omega) [List.getElem?_cons_zero, List.getElem?_cons_succ, wrap_id]
  refine HC_of_PC rfl (awake_ok) ?_
  simp -implicitDefEqProofs (disch := omega) [List.getElem?_cons_zero, List.getElem?_cons_succ, wrap_id]
  (refine fin0 trivial rfl ?_; simp -implicitDefEqProofs (disch := omega) [List.getElem?_cons_zero, List.getElem?_cons_succ, idx, wrap_id])
end Go.Proofs.Ytjkmhjjfipnbbaa
