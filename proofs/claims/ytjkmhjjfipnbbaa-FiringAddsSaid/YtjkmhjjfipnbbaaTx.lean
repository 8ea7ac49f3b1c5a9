/-
  The law of the sets.
-/
import Derived.Test.YtjkmhjjfipnbbaaTw
set_option linter.unusedSimpArgs false
namespace Go.Proofs.Ytjkmhjjfipnbbaa
open Go.Abs Go.Sand

theorem few_ends {N : Int} {es : List Ed} {d : List Int} (h : few18 N es d = true) (hg : gcheck N es = 0) : sumI (es.map (·.m)) ≤ 9 := by
  have h1 := ends_sum (gcheck_ok hg).right
  simp only [few18, smallG, Bool.and_eq_true, Bool.or_eq_true, decide_eq_true_eq] at h
  rcases h.1.2 with h2 | h2
  · exact absurd hg h2
  · omega
theorem all_inB {m : List Int} (h : ∀ i, i < m.length → -1048576 ≤ m.getD i 0 ∧ m.getD i 0 ≤ 1048576) : m.all inB = true := by
  rw [List.all_eq_true]
  intro x hx
  obtain ⟨i, hi, rfl⟩ := List.getElem_of_mem hx
  have := h i hi
  rw [getD_get hi] at this
  exact inB_iff.2 this
theorem zero_getD (n i : Nat) : (List.replicate n (0 : Int)).getD i 0 = 0 := by
  by_cases h : i < n <;> simp [List.getD_eq_getElem?_getD, h]
theorem moved_small {n : Nat} {es : List Ed} (hg : ∀ x ∈ es, Right n x) (hw : sumI (es.map (·.m)) ≤ 9) {s d : List Int} (hd : d.length = n) (h : ∀ i j, i < n → j < n → s.getD i 0 - s.getD j 0 ≤ 120) (hb : ∀ i, -100000 ≤ d.getD i 0 ∧ d.getD i 0 ≤ 100000) : (movedE es s d).all inB = true := by
  refine all_inB fun i hi => ?_
  have h1 := moved_dif hg s d hd i
  have h2 := dif_bd hg (B := 120) (by omega) h i
  have h3 := hb i
  omega
theorem small_get {s : List Int} (h : s.all in60 = true) (i : Nat) : -60 ≤ s.getD i 0 ∧ s.getD i 0 ≤ 60 := by
  by_cases hi : i < s.length
  · have := List.all_eq_true.1 h _ (List.getElem_mem hi)
    rw [getD_get hi]
    simpa [in60] using this
  · simp [List.getD_eq_getElem?_getD, List.getElem?_eq_none (Nat.le_of_not_lt hi)]
theorem res_in {m : List Int} (h : m.all inB = true) : resE 0 m = 0 ∧ Sand.resL 0 m = m := ⟨by rw [Sand.res_ok, bndE, if_pos h], by rw [Sand.resL, if_pos ⟨rfl, h⟩]⟩
theorem setsR_len {N : Int} {es : List Ed} {s : List Int} (hs : s.length ≤ 1000) : (setsR N es s).length ≤ 1000 ∧ ∀ x ∈ setsR N es s, x.length ≤ 1000 := by
  unfold setsR
  split
  · rename_i h
    have h3 : ¬ 256 < hiT s - loT s := by
      unfold setsE at h
      split at h
      · rename_i h1; exact absurd h h1
      · split at h
        · cases h
        · assumption
    refine ⟨by simp [setsL]; omega, fun x hx => ?_⟩
    obtain ⟨i, -, rfl⟩ := List.mem_map.1 hx
    exact Nat.le_trans (upTo_len _ _ _) hs
  · simp
theorem sets_at (N : Int) (es : List Ed) (s : List Int) : PC Try.prog 5 [G N es, .is s] (.b true) [] := by
  refine PC_of_W cfn5 ?_
  simp -implicitDefEqProofs (disch := omega) [c5, List.getElem?_cons_zero, List.getElem?_cons_succ, wrap_id]
  refine HC_of_PC rfl (rfew_ok N es s) ?_
  cases hf : few18 N es s
  · simp -implicitDefEqProofs (disch := omega) [List.getElem?_cons_zero, List.getElem?_cons_succ, wrap_id]
    refine HC_of_PC rfl (awake_ok) ?_
    simp -implicitDefEqProofs (disch := omega) [List.getElem?_cons_zero, List.getElem?_cons_succ, wrap_id]
    (refine fin0 trivial rfl ?_; simp -implicitDefEqProofs (disch := omega) [List.getElem?_cons_zero, List.getElem?_cons_succ, idx, wrap_id])
  have hl := few_len hf
  have hd : s.length ≤ 4611686018427387904 := by omega
  have he : es.length ≤ 1000 := by omega
  have hsl := setsR_len (N := N) (es := es) (s := s) (by omega)
  simp -implicitDefEqProofs (disch := omega) [List.getElem?_cons_zero, List.getElem?_cons_succ, wrap_id]
  refine HC_of_PC rfl (sets_ok N es s he hd) ?_
  simp -implicitDefEqProofs (disch := omega) [List.getElem?_cons_zero, List.getElem?_cons_succ, wrap_id]
  refine HC_of_PC rfl (rsets_ok N es s he hd) ?_
  simp -implicitDefEqProofs (disch := omega) [List.getElem?_cons_zero, List.getElem?_cons_succ, wrap_id]
  refine HC_of_PC rfl (PC_is (sameSets_ok (setsR N es s) (setsR N es s) (by omega) (fun x hx => by have := hsl.2 x hx; omega)) (r' := .b true) (by simp)) ?_
  by_cases hE : setsE N es s = 0
  rotate_left
  · simp -implicitDefEqProofs (disch := omega) [List.getElem?_cons_zero, List.getElem?_cons_succ, wrap_id, hE]
    refine HC_of_PC rfl (awake_ok) ?_
    simp -implicitDefEqProofs (disch := omega) [List.getElem?_cons_zero, List.getElem?_cons_succ, wrap_id]
    (refine fin0 trivial rfl ?_; simp -implicitDefEqProofs (disch := omega) [List.getElem?_cons_zero, List.getElem?_cons_succ, idx, wrap_id])
  simp -implicitDefEqProofs (disch := omega) [List.getElem?_cons_zero, List.getElem?_cons_succ, wrap_id, hE]
  refine HC_of_PC rfl (dsmall_ok s (by omega)) ?_
  cases h60 : s.all in60
  · simp -implicitDefEqProofs (disch := omega) [List.getElem?_cons_zero, List.getElem?_cons_succ, wrap_id]
    refine HC_of_PC rfl (awake_ok) ?_
    simp -implicitDefEqProofs (disch := omega) [List.getElem?_cons_zero, List.getElem?_cons_succ, wrap_id]
    (refine fin0 trivial rfl ?_; simp -implicitDefEqProofs (disch := omega) [List.getElem?_cons_zero, List.getElem?_cons_succ, idx, wrap_id])
  have h0 : givenE N es s = 0 := by
    unfold setsE at hE
    split at hE
    · rename_i h1; exact absurd hE h1
    · rename_i h1; simpa using h1
  have hR : setsR N es s = setsL s := by rw [setsR, if_pos hE]
  have hgc := given_gcheck h0
  have hw := few_ends hf hgc
  obtain ⟨n, rfl, hg, hn0, hb, hn1, hn⟩ := given_ok h0
  have hn' : n ≤ 1048576 := by omega
  have hzl : (List.replicate n (0 : Int)).length = n := by simp
  have hz : ∀ i, -100000 ≤ (List.replicate n (0 : Int)).getD i 0 ∧ (List.replicate n (0 : Int)).getD i 0 ≤ 100000 := fun i => by rw [zero_getD]; omega
  have hch := res_in (moved_small hg.right hw hzl (s := s) (fun i j _ _ => by have := small_get h60 i; have := small_get h60 j; omega) hz)
  have hcm : chgM es n s = movedE es s (List.replicate n 0) := by rw [chgM, Int.toNat_natCast]
  simp -implicitDefEqProofs (disch := omega) [List.getElem?_cons_zero, List.getElem?_cons_succ, wrap_id]
  refine HC_of_PC rfl (PC_is (change_ok n es s he hd) (r' := .tup [.p (.is (movedE es s (List.replicate n 0))), .i 0]) (by rw [resT2, h0, hcm, hch.1, hch.2])) ?_
  rw [hR]
  simp -implicitDefEqProofs (disch := omega) [List.getElem?_cons_zero, List.getElem?_cons_succ, wrap_id, hn']
  have hD : (setsL s).length = (hiT s - loT s).toNat := by simp [setsL]
  have hend : movedE es (scrT s (hiT s - loT s).toNat) (List.replicate n 0) = movedE es s (List.replicate n 0) := by
    have h1 := moved_two hg.right (s := s) (t := []) (u := scrT s (hiT s - loT s).toNat) (d := List.replicate n 0) (-(loT s)) hzl (fun i hi => scrT_end s i (by omega))
    rw [← h1]
    exact moved_same_all (u := []) (d := movedE es s (List.replicate n 0)) hg.right 0 (by rw [movedE_length, hzl]) (fun i _ => by simp)
  have hbeg : movedE es (scrT s 0) (List.replicate n 0) = List.replicate n 0 := moved_same_all hg.right 0 hzl (fun i hi => scrT_zero s i (by omega))
  refine loopW (s' := ⟨[(60, .i 0), (59, .i (setsL s).length), (58, .p (.iss (setsL s))), (10, .p (.is (List.replicate n 0))), (9, .p (.is (movedE es s (List.replicate n 0)))), (2, .ptr 0 1 0 0)], [.box (.p (G n es))]⟩) (setsL s).length (fun k st => st = ⟨[(60, .i k), (59, .i (setsL s).length), (58, .p (.iss (setsL s))), (10, .p (.is (movedE es (scrT s k) (List.replicate n 0)))), (9, .p (.is (movedE es s (List.replicate n 0)))), (2, .ptr 0 1 0 0)], [.box (.p (G n es))]⟩) (wk_norm [0] [60, 59, 58, 10, 9, 2] rfl (by simp [norm, renH, Abs.get, AV.ren, AO.ren, idx])) (by rw [hbeg]; rfl) ?_
  rintro k st hk rfl
  have hkl : ((movedE es (scrT s k) (List.replicate n 0))).length = n := by rw [movedE_length, hzl]
  by_cases hlt : k < (setsL s).length
  rotate_left
  · have : k = (setsL s).length := by omega
    subst this
    rw [hD, hend]
    simp -implicitDefEqProofs (disch := omega) [List.getElem?_cons_zero, List.getElem?_cons_succ, wrap_id]
    refine HC_of_PC rfl (aws _ (by rw [movedE_length, hzl]; omega)) ?_
    simp -implicitDefEqProofs (disch := omega) [List.getElem?_cons_zero, List.getElem?_cons_succ, wrap_id]
    refine HC_of_PC rfl (awake_ok) ?_
    simp -implicitDefEqProofs (disch := omega) [List.getElem?_cons_zero, List.getElem?_cons_succ, wrap_id]
    (refine fin0 trivial rfl ?_; simp -implicitDefEqProofs (disch := omega) [List.getElem?_cons_zero, List.getElem?_cons_succ, idx, wrap_id])
  have hget : (setsL s)[k] = upTo s (hiT s - (k + 1)) s.length := by simp [setsL]
  have hkD : (k : Int) + 1 ≤ hiT s - loT s := by omega
  have hsp : ∀ j : Nat, j ≤ k + 1 → ∀ a b, a < n → b < n → (scrT s j).getD a 0 - (scrT s j).getD b 0 ≤ 120 := by
    intro j hj a b ha hb2
    rw [scrT_getD s j a (by omega), scrT_getD s j b (by omega)]
    have q1 := lo_hi s a (by omega)
    have q2 := small_get h60 a
    have q3 := small_get h60 b
    omega
  have hin1 := moved_small hg.right hw hzl (hsp k (by omega)) hz
  have hin2 := moved_small hg.right hw hzl (hsp (k + 1) (by omega)) hz
  have hstep : movedE es (ofL n (upTo s (hiT s - (k + 1)) s.length) 1) (movedE es (scrT s k) (List.replicate n 0)) = movedE es (scrT s (k + 1)) (List.replicate n 0) := by
    refine moved_two hg.right 0 hzl fun i hi => ?_
    have := scrT_step s k i (by omega)
    rw [hn0] at this ⊢
    exact this
  have hfm : fireM es n (upTo s (hiT s - (k + 1)) s.length) 1 (movedE es (scrT s k) (List.replicate n 0)) = movedE es (scrT s (k + 1)) (List.replicate n 0) := by rw [fireM, Int.toNat_natCast]; exact hstep
  have hsub : subE n es (movedE es (scrT s k) (List.replicate n 0)) (upTo s (hiT s - (k + 1)) s.length) = 0 := by
    have g1 : givenE n es (movedE es (scrT s k) (List.replicate n 0)) = 0 := by
      rw [givenE, if_neg (by simp [hgc]), dcheck, if_neg (by omega), if_neg (by simp [hkl]), if_pos hin1]
    rw [subE, if_neg (by simp [g1])]
    refine subErr_asc (fun x hx => ?_) (fun x hx => ?_) (upTo_pair _ _ _)
    · obtain ⟨j, h1, -, rfl⟩ := (mem_upTo _ _ _ _).1 hx; omega
    · obtain ⟨j, h1, -, rfl⟩ := (mem_upTo _ _ _ _).1 hx; omega
  have hr2 := res_in hin2
  have hk3 : (setsL s).length ≤ 1000 := by rw [← hR]; exact hsl.1
  have hul := upTo_len s (hiT s - (k + 1)) s.length
  simp -implicitDefEqProofs (disch := omega) [List.getElem?_cons_zero, List.getElem?_cons_succ, wrap_id, hlt, hget]
  refine HC_of_PC rfl (PC_is (fireset_ok n es (movedE es (scrT s k) (List.replicate n 0)) (upTo s (hiT s - (k + 1)) s.length) he (by omega) (by omega)) (r' := .tup [.p (.is (movedE es (scrT s (k + 1)) (List.replicate n 0))), .i 0]) (by rw [resT2, hsub, hfm, hr2.1, hr2.2])) ?_
  simp -implicitDefEqProofs (disch := omega) [List.getElem?_cons_zero, List.getElem?_cons_succ, wrap_id]
  exact round_end [0] [60, 59, 58, 10, 9, 2] hlt rfl rfl
end Go.Proofs.Ytjkmhjjfipnbbaa
