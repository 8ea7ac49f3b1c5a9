/-
  Texts joined: Nmi Nmj Mza Ra.
-/
import Derived.Test.YtgbmdikkdjogpaaKb18

section
set_option linter.unusedSimpArgs false
set_option linter.unusedVariables false
namespace Go.Sand
/-- What has been found (S), what has been looked at (P). -/
structure BfD (n m : Nat) (es : List Ed) (da db : List Int) (P S : List (List Int)) : Prop where
  nd : S.Nodup
  st : da ∈ S
  re : ∀ d ∈ S, ReachD n m es da d
  cl : ∀ d ∈ P, ∀ d', StepD n m es d d' → d' ∈ S
  ne : ∀ d ∈ P, d ≠ db
theorem BfD.start (n m : Nat) (es : List Ed) (da db : List Int) : BfD n m es da db [] ([] ++ [da]) := ⟨by simp, by simp, fun d hd => by simp at hd; subst hd; exact .refl, by simp, by simp⟩
theorem BfD.not_in {n m : Nat} {es : List Ed} {da db : List Int} {P : List (List Int)} (h : BfD n m es da db P P) : ¬ ReachD n m es da db := by
  have key : ∀ d, ReachD n m es da d → d ∈ P := by
    intro d hd
    induction hd with
    | refl => exact h.st
    | step _ s ih => exact h.cl _ ih _ s
  exact fun hr => h.ne _ (key _ hr) rfl
theorem BfD.add {n m : Nat} {es : List Ed} {da db : List Int} {P S : List (List Int)} (h : BfD n m es da db P S) {d : List Int} (hd : d ∉ S) (hr : ReachD n m es da d) : BfD n m es da db P (S ++ [d]) :=
  ⟨List.nodup_append.2 ⟨h.nd, by simp, fun a ha b hb => by simp only [List.mem_singleton] at hb; subst hb; rintro rfl; exact hd ha⟩, List.mem_append_left _ h.st, fun x hx => by
    rcases List.mem_append.1 hx with hx | hx
    · exact h.re x hx
    · simp only [List.mem_singleton] at hx; subst hx; exact hr, fun x hx y hy => List.mem_append_left _ (h.cl x hx y hy), h.ne⟩
theorem reach_ex {n : Nat} {es : List Ed} {a : List Bool} (ha : a.length = (endsL es).length) {d : List Int} (h : ReachD n a.length es (inL n es a) d) : ∃ o : List Bool, o.length = a.length ∧ inL n es o = d := by
  induction h with
  | refl => exact ⟨a, rfl, rfl⟩
  | step _ s _ =>
    obtain ⟨o, ho, _, j, _, _, hd⟩ := s
    exact ⟨turnL es (setM n j) o, by rw [turnL_len (by omega)]; omega, hd⟩
theorem BfD.len {n : Nat} {es : List Ed} {a : List Bool} (ha : a.length = (endsL es).length) {db : List Int} {P S : List (List Int)} (h : BfD n a.length es (inL n es a) db P S) : S.length ≤ 2 ^ a.length := by
  have := nodup_len h.nd (m := (wholeL a.length).map (inL n es)) fun d hd => by
    obtain ⟨o, ho, hod⟩ := reach_ex ha (h.re d hd)
    exact List.mem_map.2 ⟨o, wholeL_mem.2 ho, hod⟩
  rw [List.length_map, wholeL_len] at this
  exact this
/-- Of the orientations os, with the first j sets of the next one, all steps are found. -/
def DoneI (n : Nat) (es : List Ed) (os : List (List Bool)) (i : Nat) (S : List (List Int)) : Prop := ∀ o ∈ os.take i, ∀ j, j < 2 ^ n → wayP (mkB (setM n j)) es o ≠ 0 → inL n es (turnL es (setM n j) o) ∈ S
def DoneJ (n : Nat) (es : List Ed) (o : List Bool) (j : Nat) (S : List (List Int)) : Prop := ∀ k, k < j → wayP (mkB (setM n k)) es o ≠ 0 → inL n es (turnL es (setM n k) o) ∈ S
end Go.Sand
end
section
set_option linter.unusedSimpArgs false
set_option linter.unusedVariables false
namespace Go.Proofs.Ytgbmdikkdjogpaa
open Go.Abs Go.Sand
attribute [local simp] app_0 app_i
attribute [local simp ↓ 10000] lit_shl lit_shr lit_and
/-- The state while classes are looked through. -/
def bfS (n : Nat) (es : List Ed) (b : List Bool) (AL : Cls) (SK : List (List Bool)) (T : List (Nat × AV)) (pre work S : List (List Int)) : St :=
  ⟨T ++ [(15, .os 3 pre.length work.length), (14, .p (.st (inL n es b))), (16, .mp 4), (17, .p (.bos SK)), (11, .ptr 2 1 0 0), (3, .ptr 0 1 0 0), (21, .b false)], bfH n es AL (pre ++ work) S⟩
def BfI (n : Nat) (es : List Ed) (a b : List Bool) (AL : Cls) (SK : List (List Bool)) (k : Nat) (s : St) : Prop :=
  ∃ P pre work, P.length = k ∧ pre.length ≤ P.length ∧ BfD n a.length es (inL n es a) (inL n es b) P (P ++ work) ∧ s = bfS n es b AL SK [] pre work (P ++ work)
def BfJ (n : Nat) (es : List Ed) (a b : List Bool) (AL : Cls) (SK : List (List Bool)) (P : List (List Int)) (d : List Int) (os : List (List Bool)) (i : Nat) (s : St) : Prop :=
  ∃ pre work, pre.length ≤ P.length + 1 ∧ BfD n a.length es (inL n es a) (inL n es b) P (P ++ d :: work) ∧ DoneI n es os i (P ++ d :: work) ∧
    s = bfS n es b AL SK [(121, .i i), (120, .i os.length), (119, .p (.bos os))] pre work (P ++ d :: work)
def BfK (n : Nat) (es : List Ed) (a b : List Bool) (AL : Cls) (SK : List (List Bool)) (P : List (List Int)) (d : List Int) (os : List (List Bool)) (i : Nat) (o : List Bool) (j : Nat) (s : St) : Prop :=
  ∃ pre work, pre.length ≤ P.length + 1 ∧ BfD n a.length es (inL n es a) (inL n es b) P (P ++ d :: work) ∧ DoneI n es os i (P ++ d :: work) ∧ DoneJ n es o j (P ++ d :: work) ∧
    s = bfS n es b AL SK [(127, .i j), (126, .i (powN n : Nat)), (125, .p (.bos SK)), (24, .p (.bo o)), (121, .i i), (120, .i os.length), (119, .p (.bos os))] pre work (P ++ d :: work)
set_option maxRecDepth 100000 in
theorem aequiv_ok (n : Nat) (es : List Ed) (a b : List Bool) (hel : es.length ≤ 1000) (ha : oE n es a = 0) (hb : oE n es b = 0) (hm : a.length ≤ 12) (r : Bool) (hr : r = true ↔ ReachD n a.length es (inL n es a) (inL n es b)) :
    PC Try.prog 11 [G n es, .bo a, .bo b] (.tup [.b r, .i 0]) [] := by
  obtain ⟨hg, hla⟩ := oE_ok ha
  obtain ⟨_, hlb⟩ := oE_ok hb
  have hgood := gcheck_ok hg
  have hn := hgood.n12
  have hl12 : ¬ (12 : Int) < a.length := by omega
  refine PC_of_W cfn11 ?_
  simp -implicitDefEqProofs (disch := omega) [c11, List.getElem?_cons_zero, List.getElem?_cons_succ, wrap_id]
  refine loopW 2 (fun k s => s = ⟨[(32, .i k), (31, .i 2), (30, .p (.bos [a, b])), (3, .ptr 0 1 0 0), (1, .p (.bo a)), (2, .p (.bo b))], [.box (.p (G n es))]⟩) (wk_norm [0] [32, 31, 30, 3, 1, 2] rfl rfl) rfl ?_
  rintro k s hk rfl
  by_cases hlt : k < 2
  · rcases (by omega : k = 0 ∨ k = 1) with rfl | rfl
    · simp -implicitDefEqProofs (disch := omega) [List.getElem?_cons_zero, List.getElem?_cons_succ, wrap_id]
      refine HC_of_PC rfl (ocheck_ok n es a hel (by omega)) ?_
      simp -implicitDefEqProofs (disch := omega) [List.getElem?_cons_zero, List.getElem?_cons_succ, wrap_id, ha]
      exact round_end [0] [32, 31, 30, 3, 1, 2] hlt rfl rfl
    · simp -implicitDefEqProofs (disch := omega) [List.getElem?_cons_zero, List.getElem?_cons_succ, wrap_id]
      refine HC_of_PC rfl (ocheck_ok n es b hel (by omega)) ?_
      simp -implicitDefEqProofs (disch := omega) [List.getElem?_cons_zero, List.getElem?_cons_succ, wrap_id, hb]
      exact round_end [0] [32, 31, 30, 3, 1, 2] hlt rfl rfl
  · have hk2 : k = 2 := by omega
    subst hk2
    simp -implicitDefEqProofs (disch := omega) [List.getElem?_cons_zero, List.getElem?_cons_succ, wrap_id, hl12]
    refine HC_of_PC rfl (orientations_ok a.length) ?_
    simp -implicitDefEqProofs (disch := omega) [List.getElem?_cons_zero, List.getElem?_cons_succ, wrap_id]
    refine ⟨by kernel_rfl, al_range hg hel hla.symm hm (fun c hc => by simp [loT, loA, loL]; omega) rfl rfl fun r0 b0 => ?_⟩
    refine AfterR_ready rfl ?_
    dsimp only [alH, alB]
    obtain ⟨AL, hAL⟩ : ∃ AL, AL = alK n es a.length (2 ^ a.length) := ⟨_, rfl⟩
    rw [← hAL]
    generalize hLP : AO.lp 156 _ _ _ _ _ = LP
    simp -implicitDefEqProofs (disch := omega) [List.getElem?_cons_zero, List.getElem?_cons_succ, wrap_id]
    have hca := calm_rowZ (inL n es a)
    have hcb := calm_rowZ (inL n es b)
    have hda := inL_len n es a
    have hdb := inL_len n es b
    have hba : ∀ x ∈ inL n es a, 0 ≤ x ∧ x < 256 := fun x hx => by have := inL_mem_bd hgood.right hla hx; omega
    have hbb : ∀ x ∈ inL n es b, 0 ≤ x ∧ x < 256 := fun x hx => by have := inL_mem_bd hgood.right hlb hx; omega
    have hft : (strN (inL n es a)).size ≤ maxLen := by rw [strN_size, hda]; unfold maxLen; omega
    have hn62 : n ≤ 62 := by omega
    have e0 : ∀ k, List.replicate n (PV.v (Value.bool false)) = (setJ n k 0).map PV.b := fun k => by rw [setJ_zero, List.map_replicate]
    have hn20 : n ≤ 1048576 := by omega
    refine HC_of_PC rfl (indegrees_ok n es b hg hel hlb) ?_
    simp -implicitDefEqProofs (disch := omega) [List.getElem?_cons_zero, List.getElem?_cons_succ, wrap_id, hcb]
    refine HC_of_PC (by simp [views, view, viewC, ownEls, hdb]) (key_ok (inL n es b) (by omega) hbb) ?_
    simp -implicitDefEqProofs (disch := omega) [List.getElem?_cons_zero, List.getElem?_cons_succ, wrap_id]
    refine HC_of_PC rfl (indegrees_ok n es a hg hel hla) ?_
    simp -implicitDefEqProofs (disch := omega) [List.getElem?_cons_zero, List.getElem?_cons_succ, wrap_id, hca]
    refine HC_of_PC (by simp [views, view, viewC, ownEls, hda]) (key_ok (inL n es a) (by omega) hba) ?_
    simp -implicitDefEqProofs (disch := omega) [List.getElem?_cons_zero, List.getElem?_cons_succ, wrap_id, hft, hn62]
    refine loopW (powN n) (fun k s => s = ⟨[(81, .i k), (80, .i (powN n : Nat)), (17, .os 5 0 k), (16, .mp 4), (15, .os 3 0 1), (14, .p (.st (inL n es b))), (11, .ptr 2 1 0 0), (3, .ptr 0 1 0 0)], bfH n es AL [inL n es a] [inL n es a] ++ [.tab ((setsK n k).map fun o => .p (.bo o)) 25 false]⟩)
      (Wk.trans (b := ⟨[(81, .i (0 : Nat)), (80, .i (powN n : Nat)), (17, .p .nil), (16, .mp 4), (15, .os 3 0 1), (14, .p (.st (inL n es b))), (11, .ptr 2 1 0 0), (3, .ptr 0 1 0 0)], bfH n es AL [inL n es a] [inL n es a]⟩) (wk_al (w := [inL n es a]) (sn := [inL n es a]) rfl rfl rfl rfl rfl rfl rfl rfl) ((Wk_nilT 17 25 rfl).trans (Wk_keep [81, 80, 17, 16, 15, 14, 11, 3]))) rfl ?_
    rintro k s hk rfl
    obtain ⟨SK, hSK⟩ : ∃ SK, SK = setsK n k := ⟨_, rfl⟩
    have hSl : SK.length = k := by rw [hSK, setsK_len]
    by_cases hlk : k < powN n
    · have hk63 : k < 9223372036854775808 := by have := Nat.pow_le_pow_right (n := 2) (by omega) hn62; unfold powN at hlk; omega
      have hk1m : k + 1 ≤ 1048576 := by have := Nat.pow_le_pow_right (n := 2) (by omega) (show n ≤ 12 by omega); unfold powN at hlk; omega
      rw [← hSK]
      simp -implicitDefEqProofs (disch := omega) [List.getElem?_cons_zero, List.getElem?_cons_succ, wrap_id, hn62, hlk, hn20]
      rw [e0 k]
      refine loopW n (fun j s => s = ⟨[(89, .i j), (88, .i n), (19, .os 6 0 n), (18, .i k), (81, .i k), (80, .i (powN n : Nat)), (17, .os 5 0 k), (16, .mp 4), (15, .os 3 0 1), (14, .p (.st (inL n es b))), (11, .ptr 2 1 0 0), (3, .ptr 0 1 0 0)], bfH n es AL [inL n es a] [inL n es a] ++ [.tab (SK.map fun o => .p (.bo o)) 25 false, rowB (setJ n k j)]⟩) (Wk_keep [89, 88, 19, 18, 81, 80, 17, 16, 15, 14, 11, 3]) rfl ?_
      rintro j s hj rfl
      have hJl := setJ_len n k j
      by_cases hlj : j < n
      · have hj63 : j ≤ 63 := by omega
        have hj0 : ¬ (j : Int) < 0 := by omega
        have hjJ : j < (setJ n k j).length := by omega
        have hst := setJ_set (k := k) hlj
        have hms : ((setJ n k j).map PV.b).set j (PV.v (Value.bool (decide (bitN k j = 1)))) = (setJ n k (j + 1)).map PV.b := by rw [← hst, List.map_set]
        have hi1 : ((bitN k j : Nat) : Int) = 1 ↔ bitN k j = 1 := by omega
        simp -implicitDefEqProofs (disch := omega) [List.getElem?_cons_zero, List.getElem?_cons_succ, wrap_id, hlj, hJl, hj63, hk63, hj0, hjJ, hms, hi1]
        exact round_keep [89, 88, 19, 18, 81, 80, 17, 16, 15, 14, 11, 3] hlj rfl
      · have hjn : j = n := by omega
        rw [hjn, setJ_end]
        have hMl := setM_len n k
        simp -implicitDefEqProofs (disch := omega) [List.getElem?_cons_zero, List.getElem?_cons_succ, wrap_id, hMl, hSl, hk1m]
        refine round_end [0, 1, 2, 3, 4, 5] [81, 80, 17, 16, 15, 14, 11, 3] hlk rfl ?_
        rw [norm_bfU hMl, hSK, ← setsK_succ]
        simp [Abs.get, AV.ren, Abs.idx, AO.ren]
    · have hkn : k = powN n := by omega
      subst hkn
      rw [← hSK]
      simp -implicitDefEqProofs (disch := omega) [List.getElem?_cons_zero, List.getElem?_cons_succ, wrap_id]
      have hSKl : SK.length = powN n := hSl
      have hSKa : ∀ j, (hj : j < SK.length) → SK[j] = setM n j := fun j hj => by subst hSK; exact setsK_at _
      refine loopW (2 ^ a.length) (BfI n es a b AL SK) (wk_norm [0, 1, 2, 3, 4] [15, 14, 16, 17, 11, 3, 21] rfl ?_) ⟨[], [], [inL n es a], rfl, Nat.le_refl _, BfD.start _ _ _ _ _, rfl⟩ ?_
      · refine norm_bf.trans ?_
        have hrd := fun H ρ hH hρ => read_at (l := SK) (t := 25) (fz := false) (n := SK.length) (o := 5) (H := H) (ρ := ρ) hH hρ rfl
        rw [hSKl] at hrd
        simp [bfS, Abs.get, AV.ren, Abs.idx, hrd]
      rintro k s hk ⟨P, pre, work, hPk, hpP, hB, rfl⟩
      dsimp only [bfS, List.nil_append]
      cases work with
      | nil =>
        have hrf : r = false := by
          cases hrr : r
          · rfl
          · exact absurd (hr.1 hrr) (by rw [List.append_nil] at hB; exact hB.not_in)
        subst hrf
        simp -implicitDefEqProofs (disch := omega) [List.getElem?_cons_zero, List.getElem?_cons_succ, wrap_id]
        exact fin0 trivial rfl rfl
      | cons d W =>
        obtain ⟨R, hR⟩ : ∃ R, R = pre ++ d :: W := ⟨_, rfl⟩
        have hRl : R.length = pre.length + (W.length + 1) := by rw [hR]; simp
        have hpR : pre.length < R.length := by omega
        have hRa : R[pre.length] = d := by simp [hR]
        have hSl2 := hB.len hla
        have h4096 : 2 ^ a.length ≤ 4096 := Nat.pow_le_pow_right (n := 2) (by omega) hm
        have hd := hB.re d (by simp)
        obtain ⟨o0, ho0, hod⟩ := reach_ex hla hd
        have hdl : d.length = n := by rw [← hod, inL_len]
        have hdb2 : ∀ x ∈ d, 0 ≤ x ∧ x < 256 := fun x hx => by rw [← hod] at hx; have := inL_mem_bd hgood.right (by omega) hx; omega
        rw [← hR]
        by_cases hdw : d = inL n es b
        · have hrt : r = true := hr.2 (hdw ▸ hd)
          subst hrt
          rw [hdw] at hRa
          simp -implicitDefEqProofs (disch := omega) [List.getElem?_cons_zero, List.getElem?_cons_succ, wrap_id, hRl, hpR, hRa]
          exact fin0 trivial rfl rfl
        · have hsk : ((strN d).data == (strN (inL n es b)).data) = false := beq_eq_false_iff_ne.2 fun e => hdw (dk_inj hdb2 hbb (by unfold dk; rw [e]))
          have hC : OkC n a.length AL := by rw [hAL]; exact alK_ok hg hla.symm hm _
          have hmem : o0 ∈ alGet AL d := by rw [hAL]; exact (alK_get d o0).2 ⟨ho0, hod⟩
          obtain ⟨ix, os, hix0, hLi⟩ : ∃ ix os, alIdx d AL = some ix ∧ AL[ix]? = some (d, os) := by
            cases hi : alIdx d AL with
            | none => unfold alGet at hmem; rw [hi] at hmem; simp at hmem
            | some ix => obtain ⟨os, hos⟩ := alIdx_some hi; exact ⟨ix, os, rfl, hos⟩
          have hosg : alGet AL d = os := by unfold alGet; rw [hix0]; dsimp only; rw [hLi]; rfl
          have hix : dIdx (.ks (strN d).data.toList) (alF AL) = some ix := (alF_idx hC hdb2).trans hix0
          have hDi := alF_get hLi
          have hdft : (strN d).size ≤ maxLen := by rw [strN_size, hdl]; unfold maxLen; omega
          have hosl : os.length ≤ 4096 := by
            have := alK_cls n es a.length (2 ^ a.length) (d, os) (by rw [← hAL]; exact List.mem_of_getElem? hLi)
            dsimp only at this
            omega
          have hoso : ∀ o ∈ os, o.length = a.length ∧ inL n es o = d := fun o ho => by
            rw [← hosg, hAL] at ho
            exact (alK_get d o).1 ho
          have hRS : R = (pre ++ [d]) ++ W := by rw [hR]; simp
          simp -implicitDefEqProofs (disch := omega) [List.getElem?_cons_zero, List.getElem?_cons_succ, wrap_id, hRl, hpR, hRa, hsk, hix, hDi, hdft]
          refine loopW os.length (BfJ n es a b AL SK P d os) (Wk_keep [121, 120, 119, 15, 14, 16, 17, 11, 3, 21]) ⟨pre ++ [d], W, by simp; omega, hB, fun o ho => by simp at ho, by rw [hRS]; simp [bfS, Abs.get]⟩ ?_
          rintro i s hi ⟨pre1, W1, hp1, hB1, hD1, rfl⟩
          dsimp only [bfS, List.cons_append, List.nil_append]
          by_cases hil : i < os.length
          rotate_left
          · have hie : i = os.length := by omega
            have hB2 : BfD n a.length es (inL n es a) (inL n es b) (P ++ [d]) (P ++ [d] ++ W1) := by
              rw [List.append_assoc, List.singleton_append]
              refine ⟨hB1.nd, hB1.st, hB1.re, fun x hx y hy => ?_, fun x hx => ?_⟩
              · rcases List.mem_append.1 hx with hx | hx
                · exact hB1.cl x hx y hy
                · simp only [List.mem_singleton] at hx
                  subst hx
                  obtain ⟨o, ho1, ho2, j, hj, hw, hyy⟩ := hy
                  have hoos : o ∈ os := by rw [← hosg, hAL]; exact (alK_get x o).2 ⟨ho1, ho2⟩
                  rw [← hyy]
                  exact hD1 o (by rw [hie, List.take_length]; exact hoos) j hj hw
              · rcases List.mem_append.1 hx with hx | hx
                · exact hB1.ne x hx
                · simp only [List.mem_singleton] at hx
                  subst hx; exact hdw
            have hk1 : k + 1 ≤ 2 ^ a.length := by have := hB2.len hla; simp at this; omega
            simp -implicitDefEqProofs (disch := omega) [List.getElem?_cons_zero, List.getElem?_cons_succ, wrap_id, hil]
            refine round_keep [15, 14, 16, 17, 11, 3, 21] hk1 ⟨P ++ [d], pre1, W1, by simp [hPk], by simp; omega, hB2, ?_⟩
            simp [bfS, Abs.get]
          have hoi := hoso _ (List.getElem_mem hil)
          obtain ⟨o, ho⟩ : ∃ o, o = os[i] := ⟨_, rfl⟩
          rw [← ho] at hoi
          have ho' := ho.symm
          simp -implicitDefEqProofs (disch := omega) [List.getElem?_cons_zero, List.getElem?_cons_succ, wrap_id, hil, ho', hSKl]
          refine loopW (powN n) (BfK n es a b AL SK P d os i o) (Wk_keep [127, 126, 125, 24, 121, 120, 119, 15, 14, 16, 17, 11, 3, 21]) ⟨pre1, W1, hp1, hB1, hD1, fun k hk => by omega, by simp [bfS, Abs.get, hSKl]⟩ ?_
          rintro j s hj ⟨pre2, W2, hp2, hB2, hD2, hJ2, rfl⟩
          dsimp only [bfS, List.cons_append, List.nil_append]
          by_cases hjl : j < powN n
          rotate_left
          · have hje : j = powN n := by omega
            have hD3 : DoneI n es os (i + 1) (P ++ d :: W2) := fun q hq t ht hw => by
              rw [List.take_succ_eq_append_getElem hil] at hq
              rcases List.mem_append.1 hq with hq | hq
              · exact hD2 q hq t ht hw
              · simp only [List.mem_singleton] at hq
                rw [hq, ← ho] at hw ⊢
                exact hJ2 t (by rw [hje]; exact ht) hw
            simp -implicitDefEqProofs (disch := omega) [List.getElem?_cons_zero, List.getElem?_cons_succ, wrap_id, hjl]
            refine round_keep [121, 120, 119, 15, 14, 16, 17, 11, 3, 21] hil ⟨pre2, W2, hp2, hB2, hD3, ?_⟩
            simp [bfS, Abs.get]
          have hjS : j < SK.length := by omega
          have hSj := hSKa j hjS
          have hpw : powN n ≤ 4096 := Nat.pow_le_pow_right (n := 2) (by omega) (show n ≤ 12 by omega)
          have hol : o.length = (endsL es).length := by omega
          have hMl := setM_len n j
          simp -implicitDefEqProofs (disch := omega) [List.getElem?_cons_zero, List.getElem?_cons_succ, wrap_id, hjl, hjS, hSj, hSKl]
          refine HC_of_PC rfl (directed_ok n es o (setM n j) hg hel hol hMl) ?_
          by_cases hw : wayP (mkB (setM n j)) es o = 0
          · simp -implicitDefEqProofs (disch := omega) [List.getElem?_cons_zero, List.getElem?_cons_succ, wrap_id, hw]
            refine round_keep [127, 126, 125, 24, 121, 120, 119, 15, 14, 16, 17, 11, 3, 21] hjl ⟨pre2, W2, hp2, hB2, hD2, fun t ht hwt => ?_, ?_⟩
            · by_cases e : t = j
              · subst e; exact absurd hw hwt
              · exact hJ2 t (by omega) hwt
            · simp [bfS, Abs.get]
          obtain ⟨tl, htl⟩ : ∃ tl, tl = turnL es (setM n j) o := ⟨_, rfl⟩
          have htll : tl.length = (endsL es).length := by rw [htl]; exact turnL_len hol
          obtain ⟨e, he⟩ : ∃ e, e = inL n es tl := ⟨_, rfl⟩
          have hell : e.length = n := by rw [he, inL_len]
          have heb : ∀ x ∈ e, 0 ≤ x ∧ x < 256 := fun x hx => by rw [he] at hx; have := inL_mem_bd hgood.right htll hx; omega
          have hez := calm_rowZ e
          have c1 := turned_ok n es o (setM n j) hg hel hol hMl
          rw [← htl] at c1
          have c2 := indegrees_ok n es tl hg hel htll
          rw [← he] at c2
          have c3 := key_ok e (by omega) heb
          have heft : (strN e).size ≤ maxLen := by rw [strN_size, hell]; unfold maxLen; omega
          have hre : ReachD n a.length es (inL n es a) e := .step hd ⟨o, hoi.1, hoi.2, j, hjl, hw, by rw [he, htl]⟩
          have hSb : ∀ x ∈ P ++ d :: W2, ∀ y ∈ x, 0 ≤ y ∧ y < 256 := fun x hx y hy => by
            obtain ⟨q, hq1, hq2⟩ := reach_ex hla (hB2.re x hx)
            rw [← hq2] at hy
            have := inL_mem_bd hgood.right (by omega) hy
            omega
          have hS4 := hB2.len hla
          have hdone : ∀ S', (∀ x ∈ P ++ d :: W2, x ∈ S') → e ∈ S' → DoneJ n es o (j + 1) S' := fun S' hsub heS t ht hwt => by
            by_cases e1 : t = j
            · subst e1; rw [← htl, ← he]; exact heS
            · exact hsub _ (hJ2 t (by omega) hwt)
          obtain ⟨R2, hR2⟩ : ∃ R2, R2 = pre2 ++ W2 := ⟨_, rfl⟩
          have hR2l : pre2.length + W2.length = R2.length := by rw [hR2]; simp
          rw [← hR2]
          simp -implicitDefEqProofs (disch := omega) [List.getElem?_cons_zero, List.getElem?_cons_succ, wrap_id, hw]
          refine HC_of_PC rfl (c1) ?_
          simp -implicitDefEqProofs (disch := omega) [List.getElem?_cons_zero, List.getElem?_cons_succ, wrap_id]
          refine HC_of_PC (by simp [views, view, viewC, ownEls, htll]) (c2) ?_
          simp -implicitDefEqProofs (disch := omega) [List.getElem?_cons_zero, List.getElem?_cons_succ, wrap_id, hez]
          refine HC_of_PC (by simp [views, view, viewC, ownEls, hell]) (c3) ?_
          simp -implicitDefEqProofs (disch := omega) [List.getElem?_cons_zero, List.getElem?_cons_succ, wrap_id]
          by_cases hin : e ∈ P ++ d :: W2
          · obtain ⟨iz, hz1, x, hz2⟩ := seenD_some hSb heb hin
            have hz1' : dIdx (.ks (strN e).data.toList) (seenD (P ++ d :: W2)) = some iz := hz1
            simp -implicitDefEqProofs (disch := omega) [List.getElem?_cons_zero, List.getElem?_cons_succ, wrap_id, heft, hz1', hz2]
            refine round_end [0, 1, 2, 3, 4] [127, 126, 125, 24, 121, 120, 119, 15, 14, 16, 17, 11, 3, 21] hjl rfl ⟨pre2, W2, hp2, hB2, hD2, hdone _ (fun x hx => hx) hin, ?_⟩
            rw [norm_bf]
            simp [bfS, Abs.get, AV.ren, Abs.idx, hR2]
          · have hz1 := seenD_none hSb heb hin
            have hz1' : dIdx (.ks (strN e).data.toList) (seenD (P ++ d :: W2)) = none := hz1
            simp -implicitDefEqProofs (disch := omega) [List.getElem?_cons_zero, List.getElem?_cons_succ, wrap_id, heft, hz1', hR2l]
            have hSe : (P ++ d :: W2) ++ [e] = P ++ d :: (W2 ++ [e]) := by simp
            have hsn : seenD (P ++ d :: W2) ++ [(KV.ks (strN e).data.toList, AV.p (PV.v (Value.bool true)))] = seenD (P ++ d :: (W2 ++ [e])) := by rw [← hSe, seenD_snoc]; rfl
            have hrow : R2.map PV.st ++ [PV.st e] = (pre2 ++ (W2 ++ [e])).map PV.st := by rw [hR2]; simp
            have hrow2 : (R2.map PV.st).drop pre2.length ++ [PV.st e] = (W2 ++ [e]).map PV.st := by rw [hR2]; simp
            have hB3 := hB2.add hin hre
            rw [hSe] at hB3
            have hsub : ∀ x ∈ P ++ d :: W2, x ∈ P ++ d :: (W2 ++ [e]) := fun x hx => by rw [← hSe]; exact List.mem_append_left _ hx
            have heS : e ∈ P ++ d :: (W2 ++ [e]) := by rw [← hSe]; simp
            have hD3 : DoneI n es os i (P ++ d :: (W2 ++ [e])) := fun q hq t ht hwt => hsub _ (hD2 q hq t ht hwt)
            have hJ3 := hdone _ hsub heS
            have hS5 : R2.length + 1 ≤ 1048576 := by
              rw [hR2, List.length_append]
              simp at hS4
              omega
            rw [hsn]
            simp only [appQP, List.getElem?_cons_zero, List.getElem?_cons_succ, List.length_cons, List.length_nil]
            refine ⟨⟨by rw [List.length_map]; exact hR2l, trivial, trivial, by omega, ones_S _, by simp, by rw [List.length_map]; exact hS5⟩, ?_, ?_⟩
            · rw [hrow]
              simp -implicitDefEqProofs (disch := omega) [List.getElem?_cons_zero, List.getElem?_cons_succ, wrap_id]
              refine round_end [0, 1, 2, 3, 4] [127, 126, 125, 24, 121, 120, 119, 15, 14, 16, 17, 11, 3, 21] hjl rfl ⟨pre2, W2 ++ [e], hp2, hB3, hD3, hJ3, ?_⟩
              simp [norm, AO.ren, alF_ren, seenD_ren, AV.ren, Abs.idx, bfS, Abs.get]
            · rw [hrow2]
              simp -implicitDefEqProofs (disch := omega) [List.getElem?_cons_zero, List.getElem?_cons_succ, wrap_id]
              refine round_end [0, 1, 2, 8, 4] [127, 126, 125, 24, 121, 120, 119, 15, 14, 16, 17, 11, 3, 21] hjl rfl ⟨[], W2 ++ [e], by simp, hB3, hD3, hJ3, ?_⟩
              simp [norm, AO.ren, alF_ren, seenD_ren, AV.ren, Abs.idx, bfS, Abs.get]
end Go.Proofs.Ytgbmdikkdjogpaa
end
section
namespace Go
namespace Sand
/-- How often two vertices are joined. -/
def joinE (es : List Ed) (v u : Nat) : Int := if u = v then 0 else betw es (min (u : Int) v) (max (u : Int) v)
/-- A sum over the first k vertices. -/
def sumN (f : Nat → Int) : Nat → Int
  | 0 => 0
  | k + 1 => sumN f k + f k
theorem sumN_add (f g : Nat → Int) (k : Nat) : sumN (fun u => f u + g u) k = sumN f k + sumN g k := by
  induction k with
  | zero => rfl
  | succ k ih => simp only [sumN, ih]; omega
theorem sumN_congr {f g : Nat → Int} {k : Nat} (h : ∀ u, u < k → f u = g u) : sumN f k = sumN g k := by
  induction k with
  | zero => rfl
  | succ k ih => simp only [sumN]; rw [ih fun u hu => h u (by omega), h k (by omega)]
theorem sumN_nonneg {f : Nat → Int} {k : Nat} (h : ∀ u, u < k → 0 ≤ f u) : 0 ≤ sumN f k := by
  induction k with
  | zero => exact Int.le_refl 0
  | succ k ih => simp only [sumN]; have := ih fun u hu => h u (by omega); have := h k (by omega); omega
theorem sumN_le {f g : Nat → Int} {k : Nat} (h : ∀ u, u < k → f u ≤ g u) : sumN f k ≤ sumN g k := by
  induction k with
  | zero => exact Int.le_refl 0
  | succ k ih => simp only [sumN]; have := ih fun u hu => h u (by omega); have := h k (by omega); omega
theorem sumN_zero (k : Nat) : sumN (fun _ => 0) k = 0 := by
  induction k with
  | zero => rfl
  | succ k ih => simp only [sumN, ih]; rfl
theorem sumN_one (v k : Nat) (c : Int) : sumN (fun u => if u = v then c else 0) k = if v < k then c else 0 := by
  induction k with
  | zero => rfl
  | succ k ih =>
    simp only [sumN, ih]
    by_cases h : k = v
    · subst h; simp
    · by_cases h2 : v < k
      · rw [if_pos h2, if_neg h, if_pos (by omega)]; omega
      · rw [if_neg h2, if_neg h, if_neg (by omega)]; omega
theorem sumN_mul (f : Nat → Int) (c : Int) (k : Nat) : sumN (fun u => c * f u) k = c * sumN f k := by
  induction k with
  | zero => simp [sumN]
  | succ k ih => simp only [sumN, ih, Int.mul_add]
theorem sumN_swap (f : Nat → Nat → Int) (n : Nat) : ∀ k, sumN (fun u => sumN (fun v => f u v) n) k = sumN (fun v => sumN (fun u => f u v) k) n
  | 0 => by simp only [sumN]; rw [sumN_zero]
  | k + 1 => by
    simp only [sumN]
    rw [sumN_add, sumN_swap f n k]
theorem sumN_sumI (l : List Int) : ∀ k, k ≤ l.length → sumN (fun u => l.getD u 0) k = sumI (l.take k)
  | 0, _ => rfl
  | k + 1, h => by
    simp only [sumN]
    rw [sumN_sumI l k (by omega), sumI_snoc l k (by omega), getD_get (by omega)]
theorem sumI_sumN (l : List Int) : sumI l = sumN (fun u => l.getD u 0) l.length := by rw [sumN_sumI l _ (Nat.le_refl _), List.take_length]
section
variable {n : Nat} {es : List Ed} (hg : GoodG n es)
include hg
theorem joinE_bd (v u : Nat) : 0 ≤ joinE es v u ∧ joinE es v u ≤ 50 := by
  unfold joinE
  split
  · omega
  · exact betw_bd hg.right _ _
omit hg in
theorem joinE_sym (v u : Nat) : joinE es v u = joinE es u v := by
  unfold joinE
  by_cases h : u = v
  · subst h; rfl
  · rw [if_neg h, if_neg (fun e => h e.symm), Int.min_comm, Int.max_comm]
omit hg in
theorem joinE_self (v : Nat) : joinE es v v = 0 := by simp [joinE]
/-- Script s with vertex v firing k times more. -/
def moreS (s : List Int) (v : Nat) (k : Int) : List Int := s.set v (s.getD v 0 + k)
omit hg in
theorem moreS_len (s : List Int) (v : Nat) (k : Int) : (moreS s v k).length = s.length := by simp [moreS]
omit hg in
theorem moreS_get (s : List Int) (v : Nat) (k : Int) (hv : v < s.length) (i : Nat) : (moreS s v k).getD i 0 = s.getD i 0 + if i = v then k else 0 := by
  rw [moreS, getD_set]
  by_cases h : i = v
  · subst h; simp [hv]
  · rw [if_neg (by omega), if_neg h]; omega
omit hg in
theorem zeros_get (i : Nat) : (List.replicate n (0 : Int)).getD i 0 = 0 := by
  by_cases h : i < n <;> simp [List.getD_eq_getElem?_getD, h]
/-- Vertex v may fire k times. -/
structure May (n : Nat) (es : List Ed) (q : Int) (d : List Int) (v : Nat) (k : Int) : Prop where
  lt : v < n
  ne : (v : Int) ≠ q
  k1 : 1 ≤ k
  le : k * valTo es v n ≤ d.getD v 0
/-- A script that can be fired legally, without the sink. -/
inductive Leg (n : Nat) (es : List Ed) (q : Int) (d : List Int) : List Int → Prop
  | nil : Leg n es q d (List.replicate n 0)
  | more {s : List Int} {v : Nat} {k : Int} (h : Leg n es q d s) (m : May n es q (movedE es s d) v k) : Leg n es q d (moreS s v k)
omit hg in
theorem Leg.len {q : Int} {d s : List Int} (h : Leg n es q d s) : s.length = n := by
  induction h with
  | nil => simp
  | more _ _ ih => rw [moreS_len, ih]
omit hg in
theorem Leg.nn {q : Int} {d s : List Int} (h : Leg n es q d s) (i : Nat) : 0 ≤ s.getD i 0 := by
  induction h with
  | nil => rw [zeros_get]; exact Int.le_refl 0
  | more h m ih =>
    rw [moreS_get _ _ _ (by rw [h.len]; exact m.lt)]
    have := m.k1
    split <;> omega
end
end Sand
end Go
/-
  Plain laws: what stabilizing computes, some firings at once, and one after the other. No program.
-/
namespace Go
namespace Sand
section
variable (n : Nat) (es : List Ed) (q : Int) (d : List Int)
end
section
variable {n : Nat} {es : List Ed} {q : Int} {d : List Int}
theorem Leg.sum {s : List Int} (h : Leg n es q d s) : 0 ≤ sumI s := by
  rw [sumI_sumN]; exact sumN_nonneg fun u _ => h.nn u
end
end Sand
end Go
end
section
namespace Go
namespace Sand
/-- A connected graph, by how often its vertices are joined. -/
structure MG (n : Nat) (J : Nat → Nat → Int) : Prop where
  sym : ∀ u v, J u v = J v u
  nn : ∀ u v, 0 ≤ J u v
  self : ∀ v, J v v = 0
  conn : ∀ (A : Nat → Bool) (a b : Nat), a < n → b < n → A a = true → A b = false → ∃ u w, u < n ∧ w < n ∧ A u = true ∧ A w = false ∧ 1 ≤ J u w
/-- What a script adds. -/
def lapF (n : Nat) (J : Nat → Nat → Int) (s : Nat → Int) (v : Nat) : Int := sumN (fun u => J v u * (s u - s v)) n
/-- How many edges lead from a vertex out of a set. -/
def outF (n : Nat) (J : Nat → Nat → Int) (A : Nat → Bool) (v : Nat) : Int := sumN (fun u => if A u = true then 0 else J v u) n
def Equi (n : Nat) (J : Nat → Nat → Int) (D E : Nat → Int) : Prop := ∃ s : Nat → Int, ∀ v, v < n → E v = D v + lapF n J s v
def RedF (n : Nat) (J : Nat → Nat → Int) (q : Nat) (D : Nat → Int) : Prop :=
  (∀ v, v < n → v ≠ q → 0 ≤ D v) ∧ ∀ A : Nat → Bool, A q = false → (∃ v, v < n ∧ A v = true) → ∃ v, v < n ∧ A v = true ∧ D v < outF n J A v
def EffF (n : Nat) (D : Nat → Int) : Prop := ∀ v, v < n → 0 ≤ D v
def WinF (n : Nat) (J : Nat → Nat → Int) (D : Nat → Int) : Prop := ∃ E, EffF n E ∧ Equi n J D E
theorem sumN_sub' (f g : Nat → Int) (k : Nat) : sumN (fun u => f u - g u) k = sumN f k - sumN g k := by
  induction k with
  | zero => rfl
  | succ k ih => simp only [sumN, ih]; omega
theorem sumN_neg' (f : Nat → Int) (k : Nat) : sumN (fun u => - f u) k = - sumN f k := by
  induction k with
  | zero => rfl
  | succ k ih => simp only [sumN, ih]; omega
theorem sumN_term {f : Nat → Int} {k v : Nat} (h : ∀ u, u < k → 0 ≤ f u) (hv : v < k) : f v ≤ sumN f k := by
  induction k with
  | zero => omega
  | succ k ih =>
    simp only [sumN]
    by_cases e : v = k
    · subst e
      have := sumN_nonneg (f := f) (k := v) fun u hu => h u (by omega)
      omega
    · have h1 := ih (fun u hu => h u (by omega)) (by omega)
      have h2 := h k (by omega)
      omega
section
variable {n : Nat} {J : Nat → Nat → Int}
theorem lapF_add (s t : Nat → Int) (v : Nat) : lapF n J (fun u => s u + t u) v = lapF n J s v + lapF n J t v := by
  unfold lapF
  rw [← sumN_add]
  refine sumN_congr fun u _ => ?_
  rw [← Int.mul_add]
  exact congrArg (J v u * ·) (by dsimp only; omega)
theorem lapF_mul (c : Int) (s : Nat → Int) (v : Nat) : lapF n J (fun u => c * s u) v = c * lapF n J s v := by
  unfold lapF
  rw [← sumN_mul]
  refine sumN_congr fun u _ => ?_
  rw [← Int.mul_sub, ← Int.mul_assoc, ← Int.mul_assoc, Int.mul_comm (J v u) c]
theorem lapF_neg (s : Nat → Int) (v : Nat) : lapF n J (fun u => - s u) v = - lapF n J s v := by
  have := lapF_mul (n := n) (J := J) (-1) s v
  simp only [Int.neg_one_mul] at this
  exact this
theorem lapF_congr {s t : Nat → Int} {c : Int} {v : Nat} (hv : v < n) (h : ∀ u, u < n → s u = t u + c) : lapF n J s v = lapF n J t v := by
  unfold lapF
  refine sumN_congr fun u hu => ?_
  rw [h u hu, h v hv]
  congr 1
  omega
theorem lapF_zero (c : Int) (v : Nat) : lapF n J (fun _ => c) v = 0 := by
  unfold lapF
  rw [show sumN (fun u => J v u * (c - c)) n = sumN (fun _ => 0) n from sumN_congr fun u _ => by rw [Int.sub_self, Int.mul_zero], sumN_zero]
theorem Equi.refl (D : Nat → Int) : Equi n J D D := ⟨fun _ => 0, fun v _ => by rw [lapF_zero]; omega⟩
theorem Equi.symm {D E : Nat → Int} (h : Equi n J D E) : Equi n J E D := by
  obtain ⟨s, hs⟩ := h
  exact ⟨fun u => - s u, fun v hv => by rw [lapF_neg, hs v hv]; omega⟩
theorem Equi.trans {D E F : Nat → Int} (h : Equi n J D E) (k : Equi n J E F) : Equi n J D F := by
  obtain ⟨s, hs⟩ := h
  obtain ⟨t, ht⟩ := k
  exact ⟨fun u => s u + t u, fun v hv => by rw [lapF_add, ht v hv, hs v hv]; omega⟩
theorem Equi.of_eq {D E : Nat → Int} (h : ∀ v, v < n → E v = D v) : Equi n J D E := ⟨fun _ => 0, fun v hv => by rw [lapF_zero, h v hv]; omega⟩
theorem Equi.add {D E : Nat → Int} (h : Equi n J D E) (F : Nat → Int) : Equi n J (fun v => D v + F v) (fun v => E v + F v) := by
  obtain ⟨s, hs⟩ := h
  exact ⟨s, fun v hv => by dsimp only; rw [hs v hv]; omega⟩
theorem Equi.sub {D E : Nat → Int} (h : Equi n J D E) (F : Nat → Int) : Equi n J (fun v => D v - F v) (fun v => E v - F v) := by
  obtain ⟨s, hs⟩ := h
  exact ⟨s, fun v hv => by dsimp only; rw [hs v hv]; omega⟩
theorem Equi.from {D E : Nat → Int} (h : Equi n J D E) (F : Nat → Int) : Equi n J (fun v => F v - D v) (fun v => F v - E v) := by
  obtain ⟨s, hs⟩ := h
  exact ⟨fun u => - s u, fun v hv => by dsimp only; rw [lapF_neg, hs v hv]; omega⟩
theorem WinF.equi {D E : Nat → Int} (h : Equi n J D E) : WinF n J D ↔ WinF n J E :=
  ⟨fun ⟨F, h1, h2⟩ => ⟨F, h1, h.symm.trans h2⟩, fun ⟨F, h1, h2⟩ => ⟨F, h1, h.trans h2⟩⟩
theorem WinF.add {D E : Nat → Int} (h : WinF n J D) (hE : EffF n E) : WinF n J (fun v => D v + E v) := by
  obtain ⟨F, h1, h2⟩ := h
  exact ⟨fun v => F v + E v, fun v hv => by have := h1 v hv; have := hE v hv; dsimp only; omega, h2.add E⟩
/-- There is a greatest one. -/
theorem exists_max (s : Nat → Int) : ∀ k, 0 < k → ∃ m, m < k ∧ ∀ u, u < k → s u ≤ s m
  | 0, h => by omega
  | 1, _ => ⟨0, by omega, fun u hu => by rw [show u = 0 by omega]; omega⟩
  | k + 2, _ => by
    obtain ⟨m, h1, h2⟩ := exists_max s (k + 1) (by omega)
    by_cases h : s m ≤ s (k + 1)
    · refine ⟨k + 1, by omega, fun u hu => ?_⟩
      by_cases e : u = k + 1
      · subst e; omega
      · have := h2 u (by omega); omega
    · refine ⟨m, by omega, fun u hu => ?_⟩
      by_cases e : u = k + 1
      · subst e; omega
      · exact h2 u (by omega)
variable (hM : MG n J)
include hM
theorem lap_deg (s : Nat → Int) : sumN (lapF n J s) n = 0 := by
  have h := sumN_swap (fun v u => J v u * (s u - s v)) n n
  have h2 : sumN (fun v => sumN (fun u => J u v * (s v - s u)) n) n = - sumN (fun v => sumN (fun u => J v u * (s u - s v)) n) n := by
    rw [← sumN_neg']
    refine sumN_congr fun v _ => ?_
    rw [← sumN_neg']
    refine sumN_congr fun u _ => ?_
    rw [hM.sym u v, ← Int.mul_neg]
    congr 1
    omega
  have e : sumN (lapF n J s) n = sumN (fun v => sumN (fun u => J v u * (s u - s v)) n) n := rfl
  omega
theorem Equi.deg {D E : Nat → Int} (h : Equi n J D E) : sumN E n = sumN D n := by
  obtain ⟨s, hs⟩ := h
  rw [show sumN E n = sumN (fun v => D v + lapF n J s v) n from sumN_congr fun v hv => hs v hv, sumN_add, show sumN (fun v => lapF n J s v) n = 0 from lap_deg hM s]
  omega
/-- Where a script is greatest, its vertices lose what leads out of them. -/
theorem lap_top {s : Nat → Int} {m : Int} (hm : ∀ u, u < n → s u ≤ m) {v : Nat} (hv : s v = m) : lapF n J s v ≤ - outF n J (fun u => decide (s u = m)) v := by
  unfold lapF outF
  rw [← sumN_neg']
  refine sumN_le fun u hu => ?_
  have h1 := hm u hu
  have h2 := hM.nn v u
  rw [hv]
  by_cases h : s u = m
  · rw [if_pos (decide_eq_true h), h, Int.sub_self, Int.mul_zero]; omega
  · simp only [h, decide_false, Bool.false_eq_true, if_false]
    have := Int.mul_le_mul_of_nonneg_left (show s u - m ≤ -1 by omega) h2
    omega
/-- A script that leads from a reduced divisor to one without debts away from q is greatest at q. -/
theorem red_top {q : Nat} (hq : q < n) {D E : Nat → Int} (hD : RedF n J q D) (hE : ∀ v, v < n → v ≠ q → 0 ≤ E v) {s : Nat → Int} (hs : ∀ v, v < n → E v = D v + lapF n J s v) : ∀ u, u < n → s u ≤ s q := by
  obtain ⟨m, hm, hmax⟩ := exists_max s n (by omega)
  by_cases h : s q = s m
  · exact fun u hu => by have := hmax u hu; omega
  · exfalso
    obtain ⟨v, hv, hA, hlt⟩ := hD.2 (fun u => decide (s u = s m)) (by simpa using h) ⟨m, hm, by simp⟩
    simp only [decide_eq_true_eq] at hA
    have h1 := lap_top hM (s := s) (m := s m) hmax hA
    have h2 := hE v hv (fun e => h (by rw [← e]; exact hA))
    have h3 := hs v hv
    omega
/-- Reduced divisors that are equivalent are one. -/
theorem red_unique {q : Nat} (hq : q < n) {D E : Nat → Int} (hD : RedF n J q D) (hE : RedF n J q E) (h : Equi n J D E) : ∀ v, v < n → E v = D v := by
  obtain ⟨s, hs⟩ := h
  have h1 := red_top hM hq hD hE.1 hs
  have h2 := red_top hM hq hE hD.1 (s := fun u => - s u) fun v hv => by rw [lapF_neg, hs v hv]; omega
  intro v hv
  rw [hs v hv, lapF_congr (t := fun _ => 0) (c := s q) hv (fun u hu => by have := h1 u hu; have := h2 u hu; omega), lapF_zero]
  omega
end
end Sand
end Go
end
