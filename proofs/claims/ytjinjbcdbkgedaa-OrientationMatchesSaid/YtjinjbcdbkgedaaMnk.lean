/-
  Plain laws: what is reached by reversing cuts. No program.
-/
import Derived.Test.YtjinjbcdbkgedaaNw
import Derived.Test.YtjinjbcdbkgedaaNmf
import Derived.Test.YtjinjbcdbkgedaaNmb
import Derived.Test.YtjinjbcdbkgedaaNla
set_option linter.unusedSimpArgs false
set_option linter.unusedVariables false
namespace Go.Sand
/-- What has been found (S), what has been looked at (P). -/
structure BfD (n m : Nat) (es : List Ed) (da db : List Int) (P S : List (List Int)) : Prop where
  nd : S.Nodup
  st : da ∈ S
  re : ∀ d ∈ S, ReachD n m es da d
  cl : ∀ d ∈ P, ∀ d', StepD n m es d d' → d' ∈ S
  ne : ∀ d ∈ P, d ≠ db
theorem BfD.start (n m : Nat) (es : List Ed) (da db : List Int) : BfD n m es da db [] ([] ++ [da]) := ⟨by simp, by simp, fun d hd => by simp at hd; subst hd; exact .refl, by simp, by simp⟩
theorem BfD.not_in {n m : Nat} {es : List Ed} {da db : List Int} {P : List (List Int)} (h : BfD n m es da db P P) : ¬ ReachD n m es da db := by
  have key : ∀ d, ReachD n m es da d → d ∈ P := by
    intro d hd
    induction hd with
    | refl => exact h.st
    | step _ s ih => exact h.cl _ ih _ s
  exact fun hr => h.ne _ (key _ hr) rfl
theorem BfD.add {n m : Nat} {es : List Ed} {da db : List Int} {P S : List (List Int)} (h : BfD n m es da db P S) {d : List Int} (hd : d ∉ S) (hr : ReachD n m es da d) : BfD n m es da db P (S ++ [d]) :=
  ⟨List.nodup_append.2 ⟨h.nd, by simp, fun a ha b hb => by simp only [List.mem_singleton] at hb; subst hb; rintro rfl; exact hd ha⟩, List.mem_append_left _ h.st, fun x hx => by
    rcases List.mem_append.1 hx with hx | hx
    · exact h.re x hx
    · simp only [List.mem_singleton] at hx; subst hx; exact hr, fun x hx y hy => List.mem_append_left _ (h.cl x hx y hy), h.ne⟩
theorem reach_ex {n : Nat} {es : List Ed} {a : List Bool} (ha : a.length = (endsL es).length) {d : List Int} (h : ReachD n a.length es (inL n es a) d) : ∃ o : List Bool, o.length = a.length ∧ inL n es o = d := by
  induction h with
  | refl => exact ⟨a, rfl, rfl⟩
  | step _ s _ =>
    obtain ⟨o, ho, _, j, _, _, hd⟩ := s
    exact ⟨turnL es (setM n j) o, by rw [turnL_len (by omega)]; omega, hd⟩
theorem BfD.len {n : Nat} {es : List Ed} {a : List Bool} (ha : a.length = (endsL es).length) {db : List Int} {P S : List (List Int)} (h : BfD n a.length es (inL n es a) db P S) : S.length ≤ 2 ^ a.length := by
  have := nodup_len h.nd (m := (wholeL a.length).map (inL n es)) fun d hd => by
    obtain ⟨o, ho, hod⟩ := reach_ex ha (h.re d hd)
    exact List.mem_map.2 ⟨o, wholeL_mem.2 ho, hod⟩
  rw [List.length_map, wholeL_len] at this
  exact this
/-- Of the orientations os, with the first j sets of the next one, all steps are found. -/
def DoneI (n : Nat) (es : List Ed) (os : List (List Bool)) (i : Nat) (S : List (List Int)) : Prop := ∀ o ∈ os.take i, ∀ j, j < 2 ^ n → wayP (mkB (setM n j)) es o ≠ 0 → inL n es (turnL es (setM n j) o) ∈ S
def DoneJ (n : Nat) (es : List Ed) (o : List Bool) (j : Nat) (S : List (List Int)) : Prop := ∀ k, k < j → wayP (mkB (setM n k)) es o ≠ 0 → inL n es (turnL es (setM n k) o) ∈ S
end Go.Sand
/-
  Contracts: equivalent orientations: all that can be reached is looked through.
-/
set_option linter.unusedSimpArgs false
set_option linter.unusedVariables false
namespace Go.Proofs.Ytjinjbcdbkgedaa
open Go.Abs Go.Sand

attribute [local simp] app_0 app_i set_0 set_i
attribute [local simp ↓ 10000] lit_shl lit_shr lit_and
/-- The state while classes are looked through. -/
def bfS (n : Nat) (es : List Ed) (b : List Bool) (AL : Cls) (SK : List (List Bool)) (T : List (Nat × AV)) (pre work S : List (List Int)) : St :=
  ⟨T ++ [(15, .os 3 pre.length work.length), (14, .p (.st (inL n es b))), (16, .mp 4), (17, .p (.bos SK)), (11, .ptr 2 1 0 0), (3, .ptr 0 1 0 0), (21, .b false)], bfH n es AL (pre ++ work) S⟩
def BfI (n : Nat) (es : List Ed) (a b : List Bool) (AL : Cls) (SK : List (List Bool)) (k : Nat) (s : St) : Prop :=
  ∃ P pre work, P.length = k ∧ pre.length ≤ P.length ∧ BfD n a.length es (inL n es a) (inL n es b) P (P ++ work) ∧ s = bfS n es b AL SK [] pre work (P ++ work)
def BfJ (n : Nat) (es : List Ed) (a b : List Bool) (AL : Cls) (SK : List (List Bool)) (P : List (List Int)) (d : List Int) (os : List (List Bool)) (i : Nat) (s : St) : Prop :=
  ∃ pre work, pre.length ≤ P.length + 1 ∧ BfD n a.length es (inL n es a) (inL n es b) P (P ++ d :: work) ∧ DoneI n es os i (P ++ d :: work) ∧
    s = bfS n es b AL SK [(121, .i i), (120, .i os.length), (119, .p (.bos os))] pre work (P ++ d :: work)
def BfK (n : Nat) (es : List Ed) (a b : List Bool) (AL : Cls) (SK : List (List Bool)) (P : List (List Int)) (d : List Int) (os : List (List Bool)) (i : Nat) (o : List Bool) (j : Nat) (s : St) : Prop :=
  ∃ pre work, pre.length ≤ P.length + 1 ∧ BfD n a.length es (inL n es a) (inL n es b) P (P ++ d :: work) ∧ DoneI n es os i (P ++ d :: work) ∧ DoneJ n es o j (P ++ d :: work) ∧
    s = bfS n es b AL SK [(127, .i j), (126, .i (powN n : Nat)), (125, .p (.bos SK)), (24, .p (.bo o)), (121, .i i), (120, .i os.length), (119, .p (.bos os))] pre work (P ++ d :: work)
set_option maxRecDepth 100000 in
theorem aequiv_ok (n : Nat) (es : List Ed) (a b : List Bool) (hel : es.length ≤ 1000) (ha : oE n es a = 0) (hb : oE n es b = 0) (hm : a.length ≤ 12) (r : Bool) (hr : r = true ↔ ReachD n a.length es (inL n es a) (inL n es b)) :
    PC Try.prog 14 [G n es, .bo a, .bo b] (.tup [.b r, .i 0]) [] := by
  obtain ⟨hg, hla⟩ := oE_ok ha
  obtain ⟨_, hlb⟩ := oE_ok hb
  have hgood := gcheck_ok hg
  have hn := hgood.n12
  have hl12 : ¬ (12 : Int) < a.length := by omega
  refine PC_of_W cfn14 ?_
  simp -implicitDefEqProofs (disch := omega) [c14, List.getElem?_cons_zero, List.getElem?_cons_succ, wrap_id]
  refine loopW 2 (fun k s => s = ⟨[(32, .i k), (31, .i 2), (30, .p (.bos [a, b])), (3, .ptr 0 1 0 0), (1, .p (.bo a)), (2, .p (.bo b))], [.box (.p (G n es))]⟩) (wk_norm [0] [32, 31, 30, 3, 1, 2] rfl rfl) rfl ?_
  rintro k s hk rfl
  by_cases hlt : k < 2
  · rcases (by omega : k = 0 ∨ k = 1) with rfl | rfl
    · simp -implicitDefEqProofs (disch := omega) [List.getElem?_cons_zero, List.getElem?_cons_succ, wrap_id]
      refine HC_of_PC rfl (ocheck_ok n es a hel (by omega)) ?_
      simp -implicitDefEqProofs (disch := omega) [List.getElem?_cons_zero, List.getElem?_cons_succ, wrap_id, ha]
      exact round_end [0] [32, 31, 30, 3, 1, 2] hlt rfl rfl
    · simp -implicitDefEqProofs (disch := omega) [List.getElem?_cons_zero, List.getElem?_cons_succ, wrap_id]
      refine HC_of_PC rfl (ocheck_ok n es b hel (by omega)) ?_
      simp -implicitDefEqProofs (disch := omega) [List.getElem?_cons_zero, List.getElem?_cons_succ, wrap_id, hb]
      exact round_end [0] [32, 31, 30, 3, 1, 2] hlt rfl rfl
  · have hk2 : k = 2 := by omega
    subst hk2
    simp -implicitDefEqProofs (disch := omega) [List.getElem?_cons_zero, List.getElem?_cons_succ, wrap_id, hl12]
    refine HC_of_PC rfl (orientations_ok a.length) ?_
    simp -implicitDefEqProofs (disch := omega) [List.getElem?_cons_zero, List.getElem?_cons_succ, wrap_id]
    refine ⟨by kernel_rfl, al_range hg hel hla.symm hm (fun c hc => by simp [loT, loA, loL]; omega) rfl rfl fun r0 b0 => ?_⟩
    refine AfterR_ready rfl ?_
    dsimp only [alH, alB]
    obtain ⟨AL, hAL⟩ : ∃ AL, AL = alK n es a.length (2 ^ a.length) := ⟨_, rfl⟩
    rw [← hAL]
    generalize hLP : AO.lp 156 _ _ _ _ _ = LP
    simp -implicitDefEqProofs (disch := omega) [List.getElem?_cons_zero, List.getElem?_cons_succ, wrap_id]
    have hca := calm_rowZ (inL n es a)
    have hcb := calm_rowZ (inL n es b)
    have hda := inL_len n es a
    have hdb := inL_len n es b
    have hba : ∀ x ∈ inL n es a, 0 ≤ x ∧ x < 256 := fun x hx => by have := inL_mem_bd hgood.right hla hx; omega
    have hbb : ∀ x ∈ inL n es b, 0 ≤ x ∧ x < 256 := fun x hx => by have := inL_mem_bd hgood.right hlb hx; omega
    have hft : (strN (inL n es a)).size ≤ maxLen := by rw [strN_size, hda]; unfold maxLen; omega
    have hn62 : n ≤ 62 := by omega
    have e0 : ∀ k, List.replicate n (PV.v (Value.bool false)) = (setJ n k 0).map PV.b := fun k => by rw [setJ_zero, List.map_replicate]
    have hn20 : n ≤ 1048576 := by omega
    refine HC_of_PC rfl (indegrees_ok n es b hg hel hlb) ?_
    simp -implicitDefEqProofs (disch := omega) [List.getElem?_cons_zero, List.getElem?_cons_succ, wrap_id, hcb]
    refine HC_of_PC (by simp [views, view, viewC, ownEls, hdb]) (key_ok (inL n es b) (by omega) hbb) ?_
    simp -implicitDefEqProofs (disch := omega) [List.getElem?_cons_zero, List.getElem?_cons_succ, wrap_id]
    refine HC_of_PC rfl (indegrees_ok n es a hg hel hla) ?_
    simp -implicitDefEqProofs (disch := omega) [List.getElem?_cons_zero, List.getElem?_cons_succ, wrap_id, hca]
    refine HC_of_PC (by simp [views, view, viewC, ownEls, hda]) (key_ok (inL n es a) (by omega) hba) ?_
    simp -implicitDefEqProofs (disch := omega) [List.getElem?_cons_zero, List.getElem?_cons_succ, wrap_id, hft, hn62]
    refine loopW (powN n) (fun k s => s = ⟨[(81, .i k), (80, .i (powN n : Nat)), (17, .os 5 0 k), (16, .mp 4), (15, .os 3 0 1), (14, .p (.st (inL n es b))), (11, .ptr 2 1 0 0), (3, .ptr 0 1 0 0)], bfH n es AL [inL n es a] [inL n es a] ++ [.tab ((setsK n k).map fun o => .p (.bo o)) 25 false]⟩)
      (Wk.trans (b := ⟨[(81, .i (0 : Nat)), (80, .i (powN n : Nat)), (17, .p .nil), (16, .mp 4), (15, .os 3 0 1), (14, .p (.st (inL n es b))), (11, .ptr 2 1 0 0), (3, .ptr 0 1 0 0)], bfH n es AL [inL n es a] [inL n es a]⟩) (wk_al (w := [inL n es a]) (sn := [inL n es a]) rfl rfl rfl rfl rfl rfl rfl rfl) ((Wk_nilT 17 25 rfl).trans (Wk_keep [81, 80, 17, 16, 15, 14, 11, 3]))) rfl ?_
    rintro k s hk rfl
    obtain ⟨SK, hSK⟩ : ∃ SK, SK = setsK n k := ⟨_, rfl⟩
    have hSl : SK.length = k := by rw [hSK, setsK_len]
    by_cases hlk : k < powN n
    · have hk63 : k < 9223372036854775808 := by have := Nat.pow_le_pow_right (n := 2) (by omega) hn62; unfold powN at hlk; omega
      have hk1m : k + 1 ≤ 1048576 := by have := Nat.pow_le_pow_right (n := 2) (by omega) (show n ≤ 12 by omega); unfold powN at hlk; omega
      rw [← hSK]
      simp -implicitDefEqProofs (disch := omega) [List.getElem?_cons_zero, List.getElem?_cons_succ, wrap_id, hn62, hlk, hn20]
      rw [e0 k]
      refine loopW n (fun j s => s = ⟨[(89, .i j), (88, .i n), (19, .os 6 0 n), (18, .i k), (81, .i k), (80, .i (powN n : Nat)), (17, .os 5 0 k), (16, .mp 4), (15, .os 3 0 1), (14, .p (.st (inL n es b))), (11, .ptr 2 1 0 0), (3, .ptr 0 1 0 0)], bfH n es AL [inL n es a] [inL n es a] ++ [.tab (SK.map fun o => .p (.bo o)) 25 false, rowB (setJ n k j)]⟩) (Wk_keep [89, 88, 19, 18, 81, 80, 17, 16, 15, 14, 11, 3]) rfl ?_
      rintro j s hj rfl
      have hJl := setJ_len n k j
      by_cases hlj : j < n
      · have hj63 : j ≤ 63 := by omega
        have hj0 : ¬ (j : Int) < 0 := by omega
        have hjJ : j < (setJ n k j).length := by omega
        have hst := setJ_set (k := k) hlj
        have hms : ((setJ n k j).map PV.b).set j (PV.v (Value.bool (decide (bitN k j = 1)))) = (setJ n k (j + 1)).map PV.b := by rw [← hst, List.map_set]
        have hi1 : ((bitN k j : Nat) : Int) = 1 ↔ bitN k j = 1 := by omega
        simp -implicitDefEqProofs (disch := omega) [List.getElem?_cons_zero, List.getElem?_cons_succ, wrap_id, hlj, hJl, hj63, hk63, hj0, hjJ, hms, hi1]
        exact round_keep [89, 88, 19, 18, 81, 80, 17, 16, 15, 14, 11, 3] hlj rfl
      · have hjn : j = n := by omega
        rw [hjn, setJ_end]
        have hMl := setM_len n k
        simp -implicitDefEqProofs (disch := omega) [List.getElem?_cons_zero, List.getElem?_cons_succ, wrap_id, hMl, hSl, hk1m]
        refine round_end [0, 1, 2, 3, 4, 5] [81, 80, 17, 16, 15, 14, 11, 3] hlk rfl ?_
        rw [norm_bfU hMl, hSK, ← setsK_succ]
        simp [Abs.get, AV.ren, Abs.idx, AO.ren]
    · have hkn : k = powN n := by omega
      subst hkn
      rw [← hSK]
      simp -implicitDefEqProofs (disch := omega) [List.getElem?_cons_zero, List.getElem?_cons_succ, wrap_id]
      have hSKl : SK.length = powN n := hSl
      have hSKa : ∀ j, (hj : j < SK.length) → SK[j] = setM n j := fun j hj => by subst hSK; exact setsK_at _
      refine loopW (2 ^ a.length) (BfI n es a b AL SK) (wk_norm [0, 1, 2, 3, 4] [15, 14, 16, 17, 11, 3, 21] rfl ?_) ⟨[], [], [inL n es a], rfl, Nat.le_refl _, BfD.start _ _ _ _ _, rfl⟩ ?_
      · refine norm_bf.trans ?_
        have hrd := fun H ρ hH hρ => read_at (l := SK) (t := 25) (fz := false) (n := SK.length) (o := 5) (H := H) (ρ := ρ) hH hρ rfl
        rw [hSKl] at hrd
        simp [bfS, Abs.get, AV.ren, Abs.idx, hrd]
      rintro k s hk ⟨P, pre, work, hPk, hpP, hB, rfl⟩
      dsimp only [bfS, List.nil_append]
      cases work with
      | nil =>
        have hrf : r = false := by
          cases hrr : r
          · rfl
          · exact absurd (hr.1 hrr) (by rw [List.append_nil] at hB; exact hB.not_in)
        subst hrf
        simp -implicitDefEqProofs (disch := omega) [List.getElem?_cons_zero, List.getElem?_cons_succ, wrap_id]
        exact fin0 trivial rfl rfl
      | cons d W =>
        obtain ⟨R, hR⟩ : ∃ R, R = pre ++ d :: W := ⟨_, rfl⟩
        have hRl : R.length = pre.length + (W.length + 1) := by rw [hR]; simp
        have hpR : pre.length < R.length := by omega
        have hRa : R[pre.length] = d := by simp [hR]
        have hSl2 := hB.len hla
        have h4096 : 2 ^ a.length ≤ 4096 := Nat.pow_le_pow_right (n := 2) (by omega) hm
        have hd := hB.re d (by simp)
        obtain ⟨o0, ho0, hod⟩ := reach_ex hla hd
        have hdl : d.length = n := by rw [← hod, inL_len]
        have hdb2 : ∀ x ∈ d, 0 ≤ x ∧ x < 256 := fun x hx => by rw [← hod] at hx; have := inL_mem_bd hgood.right (by omega) hx; omega
        rw [← hR]
        by_cases hdw : d = inL n es b
        · have hrt : r = true := hr.2 (hdw ▸ hd)
          subst hrt
          rw [hdw] at hRa
          simp -implicitDefEqProofs (disch := omega) [List.getElem?_cons_zero, List.getElem?_cons_succ, wrap_id, hRl, hpR, hRa]
          exact fin0 trivial rfl rfl
        · have hsk : ((strN d).data == (strN (inL n es b)).data) = false := beq_eq_false_iff_ne.2 fun e => hdw (dk_inj hdb2 hbb (by unfold dk; rw [e]))
          have hC : OkC n a.length AL := by rw [hAL]; exact alK_ok hg hla.symm hm _
          have hmem : o0 ∈ alGet AL d := by rw [hAL]; exact (alK_get d o0).2 ⟨ho0, hod⟩
          obtain ⟨ix, os, hix0, hLi⟩ : ∃ ix os, alIdx d AL = some ix ∧ AL[ix]? = some (d, os) := by
            cases hi : alIdx d AL with
            | none => unfold alGet at hmem; rw [hi] at hmem; simp at hmem
            | some ix => obtain ⟨os, hos⟩ := alIdx_some hi; exact ⟨ix, os, rfl, hos⟩
          have hosg : alGet AL d = os := by unfold alGet; rw [hix0]; dsimp only; rw [hLi]; rfl
          have hix : dIdx (.ks (strN d).data.toList) (alF AL) = some ix := (alF_idx hC hdb2).trans hix0
          have hDi := alF_get hLi
          have hdft : (strN d).size ≤ maxLen := by rw [strN_size, hdl]; unfold maxLen; omega
          have hosl : os.length ≤ 4096 := by
            have := alK_cls n es a.length (2 ^ a.length) (d, os) (by rw [← hAL]; exact List.mem_of_getElem? hLi)
            dsimp only at this
            omega
          have hoso : ∀ o ∈ os, o.length = a.length ∧ inL n es o = d := fun o ho => by
            rw [← hosg, hAL] at ho
            exact (alK_get d o).1 ho
          have hRS : R = (pre ++ [d]) ++ W := by rw [hR]; simp
          simp -implicitDefEqProofs (disch := omega) [List.getElem?_cons_zero, List.getElem?_cons_succ, wrap_id, hRl, hpR, hRa, hsk, hix, hDi, hdft]
          refine loopW os.length (BfJ n es a b AL SK P d os) (Wk_keep [121, 120, 119, 15, 14, 16, 17, 11, 3, 21]) ⟨pre ++ [d], W, by simp; omega, hB, fun o ho => by simp at ho, by rw [hRS]; simp [bfS, Abs.get]⟩ ?_
          rintro i s hi ⟨pre1, W1, hp1, hB1, hD1, rfl⟩
          dsimp only [bfS, List.cons_append, List.nil_append]
          by_cases hil : i < os.length
          rotate_left
          · have hie : i = os.length := by omega
            have hB2 : BfD n a.length es (inL n es a) (inL n es b) (P ++ [d]) (P ++ [d] ++ W1) := by
              rw [List.append_assoc, List.singleton_append]
              refine ⟨hB1.nd, hB1.st, hB1.re, fun x hx y hy => ?_, fun x hx => ?_⟩
              · rcases List.mem_append.1 hx with hx | hx
                · exact hB1.cl x hx y hy
                · simp only [List.mem_singleton] at hx
                  subst hx
                  obtain ⟨o, ho1, ho2, j, hj, hw, hyy⟩ := hy
                  have hoos : o ∈ os := by rw [← hosg, hAL]; exact (alK_get x o).2 ⟨ho1, ho2⟩
                  rw [← hyy]
                  exact hD1 o (by rw [hie, List.take_length]; exact hoos) j hj hw
              · rcases List.mem_append.1 hx with hx | hx
                · exact hB1.ne x hx
                · simp only [List.mem_singleton] at hx
                  subst hx; exact hdw
            have hk1 : k + 1 ≤ 2 ^ a.length := by have := hB2.len hla; simp at this; omega
            simp -implicitDefEqProofs (disch := omega) [List.getElem?_cons_zero, List.getElem?_cons_succ, wrap_id, hil]
            refine round_keep [15, 14, 16, 17, 11, 3, 21] hk1 ⟨P ++ [d], pre1, W1, by simp [hPk], by simp; omega, hB2, ?_⟩
            simp [bfS, Abs.get]
          have hoi := hoso _ (List.getElem_mem hil)
          obtain ⟨o, ho⟩ : ∃ o, o = os[i] := ⟨_, rfl⟩
          rw [← ho] at hoi
          have ho' := ho.symm
          simp -implicitDefEqProofs (disch := omega) [List.getElem?_cons_zero, List.getElem?_cons_succ, wrap_id, hil, ho', hSKl]
          refine loopW (powN n) (BfK n es a b AL SK P d os i o) (Wk_keep [127, 126, 125, 24, 121, 120, 119, 15, 14, 16, 17, 11, 3, 21]) ⟨pre1, W1, hp1, hB1, hD1, fun k hk => by omega, by simp [bfS, Abs.get, hSKl]⟩ ?_
          rintro j s hj ⟨pre2, W2, hp2, hB2, hD2, hJ2, rfl⟩
          dsimp only [bfS, List.cons_append, List.nil_append]
          by_cases hjl : j < powN n
          rotate_left
          · have hje : j = powN n := by omega
            have hD3 : DoneI n es os (i + 1) (P ++ d :: W2) := fun q hq t ht hw => by
              rw [List.take_succ_eq_append_getElem hil] at hq
              rcases List.mem_append.1 hq with hq | hq
              · exact hD2 q hq t ht hw
              · simp only [List.mem_singleton] at hq
                rw [hq, ← ho] at hw ⊢
                exact hJ2 t (by rw [hje]; exact ht) hw
            simp -implicitDefEqProofs (disch := omega) [List.getElem?_cons_zero, List.getElem?_cons_succ, wrap_id, hjl]
            refine round_keep [121, 120, 119, 15, 14, 16, 17, 11, 3, 21] hil ⟨pre2, W2, hp2, hB2, hD3, ?_⟩
            simp [bfS, Abs.get]
          have hjS : j < SK.length := by omega
          have hSj := hSKa j hjS
          have hpw : powN n ≤ 4096 := Nat.pow_le_pow_right (n := 2) (by omega) (show n ≤ 12 by omega)
          have hol : o.length = (endsL es).length := by omega
          have hMl := setM_len n j
          simp -implicitDefEqProofs (disch := omega) [List.getElem?_cons_zero, List.getElem?_cons_succ, wrap_id, hjl, hjS, hSj, hSKl]
          refine HC_of_PC rfl (directed_ok n es o (setM n j) hg hel hol hMl) ?_
          by_cases hw : wayP (mkB (setM n j)) es o = 0
          · simp -implicitDefEqProofs (disch := omega) [List.getElem?_cons_zero, List.getElem?_cons_succ, wrap_id, hw]
            refine round_keep [127, 126, 125, 24, 121, 120, 119, 15, 14, 16, 17, 11, 3, 21] hjl ⟨pre2, W2, hp2, hB2, hD2, fun t ht hwt => ?_, ?_⟩
            · by_cases e : t = j
              · subst e; exact absurd hw hwt
              · exact hJ2 t (by omega) hwt
            · simp [bfS, Abs.get]
          obtain ⟨tl, htl⟩ : ∃ tl, tl = turnL es (setM n j) o := ⟨_, rfl⟩
          have htll : tl.length = (endsL es).length := by rw [htl]; exact turnL_len hol
          obtain ⟨e, he⟩ : ∃ e, e = inL n es tl := ⟨_, rfl⟩
          have hell : e.length = n := by rw [he, inL_len]
          have heb : ∀ x ∈ e, 0 ≤ x ∧ x < 256 := fun x hx => by rw [he] at hx; have := inL_mem_bd hgood.right htll hx; omega
          have hez := calm_rowZ e
          have c1 := turned_ok n es o (setM n j) hg hel hol hMl
          rw [← htl] at c1
          have c2 := indegrees_ok n es tl hg hel htll
          rw [← he] at c2
          have c3 := key_ok e (by omega) heb
          have heft : (strN e).size ≤ maxLen := by rw [strN_size, hell]; unfold maxLen; omega
          have hre : ReachD n a.length es (inL n es a) e := .step hd ⟨o, hoi.1, hoi.2, j, hjl, hw, by rw [he, htl]⟩
          have hSb : ∀ x ∈ P ++ d :: W2, ∀ y ∈ x, 0 ≤ y ∧ y < 256 := fun x hx y hy => by
            obtain ⟨q, hq1, hq2⟩ := reach_ex hla (hB2.re x hx)
            rw [← hq2] at hy
            have := inL_mem_bd hgood.right (by omega) hy
            omega
          have hS4 := hB2.len hla
          have hdone : ∀ S', (∀ x ∈ P ++ d :: W2, x ∈ S') → e ∈ S' → DoneJ n es o (j + 1) S' := fun S' hsub heS t ht hwt => by
            by_cases e1 : t = j
            · subst e1; rw [← htl, ← he]; exact heS
            · exact hsub _ (hJ2 t (by omega) hwt)
          obtain ⟨R2, hR2⟩ : ∃ R2, R2 = pre2 ++ W2 := ⟨_, rfl⟩
          have hR2l : pre2.length + W2.length = R2.length := by rw [hR2]; simp
          rw [← hR2]
          simp -implicitDefEqProofs (disch := omega) [List.getElem?_cons_zero, List.getElem?_cons_succ, wrap_id, hw]
          refine HC_of_PC rfl (c1) ?_
          simp -implicitDefEqProofs (disch := omega) [List.getElem?_cons_zero, List.getElem?_cons_succ, wrap_id]
          refine HC_of_PC (by simp [views, view, viewC, ownEls, htll]) (c2) ?_
          simp -implicitDefEqProofs (disch := omega) [List.getElem?_cons_zero, List.getElem?_cons_succ, wrap_id, hez]
          refine HC_of_PC (by simp [views, view, viewC, ownEls, hell]) (c3) ?_
          simp -implicitDefEqProofs (disch := omega) [List.getElem?_cons_zero, List.getElem?_cons_succ, wrap_id]
          by_cases hin : e ∈ P ++ d :: W2
          · obtain ⟨iz, hz1, x, hz2⟩ := seenD_some hSb heb hin
            have hz1' : dIdx (.ks (strN e).data.toList) (seenD (P ++ d :: W2)) = some iz := hz1
            simp -implicitDefEqProofs (disch := omega) [List.getElem?_cons_zero, List.getElem?_cons_succ, wrap_id, heft, hz1', hz2]
            refine round_end [0, 1, 2, 3, 4] [127, 126, 125, 24, 121, 120, 119, 15, 14, 16, 17, 11, 3, 21] hjl rfl ⟨pre2, W2, hp2, hB2, hD2, hdone _ (fun x hx => hx) hin, ?_⟩
            rw [norm_bf]
            simp [bfS, Abs.get, AV.ren, Abs.idx, hR2]
          · have hz1 := seenD_none hSb heb hin
            have hz1' : dIdx (.ks (strN e).data.toList) (seenD (P ++ d :: W2)) = none := hz1
            simp -implicitDefEqProofs (disch := omega) [List.getElem?_cons_zero, List.getElem?_cons_succ, wrap_id, heft, hz1', hR2l]
            have hSe : (P ++ d :: W2) ++ [e] = P ++ d :: (W2 ++ [e]) := by simp
            have hsn : seenD (P ++ d :: W2) ++ [(KV.ks (strN e).data.toList, AV.p (PV.v (Value.bool true)))] = seenD (P ++ d :: (W2 ++ [e])) := by rw [← hSe, seenD_snoc]; rfl
            have hrow : R2.map PV.st ++ [PV.st e] = (pre2 ++ (W2 ++ [e])).map PV.st := by rw [hR2]; simp
            have hrow2 : (R2.map PV.st).drop pre2.length ++ [PV.st e] = (W2 ++ [e]).map PV.st := by rw [hR2]; simp
            have hB3 := hB2.add hin hre
            rw [hSe] at hB3
            have hsub : ∀ x ∈ P ++ d :: W2, x ∈ P ++ d :: (W2 ++ [e]) := fun x hx => by rw [← hSe]; exact List.mem_append_left _ hx
            have heS : e ∈ P ++ d :: (W2 ++ [e]) := by rw [← hSe]; simp
            have hD3 : DoneI n es os i (P ++ d :: (W2 ++ [e])) := fun q hq t ht hwt => hsub _ (hD2 q hq t ht hwt)
            have hJ3 := hdone _ hsub heS
            have hS5 : R2.length + 1 ≤ 1048576 := by
              rw [hR2, List.length_append]
              simp at hS4
              omega
            rw [hsn]
            simp only [appQP, List.getElem?_cons_zero, List.getElem?_cons_succ, List.length_cons, List.length_nil]
            refine ⟨⟨by rw [List.length_map]; exact hR2l, trivial, trivial, by omega, ones_S _, by simp, by rw [List.length_map]; exact hS5⟩, ?_, ?_⟩
            · rw [hrow]
              simp -implicitDefEqProofs (disch := omega) [List.getElem?_cons_zero, List.getElem?_cons_succ, wrap_id]
              refine round_end [0, 1, 2, 3, 4] [127, 126, 125, 24, 121, 120, 119, 15, 14, 16, 17, 11, 3, 21] hjl rfl ⟨pre2, W2 ++ [e], hp2, hB3, hD3, hJ3, ?_⟩
              simp [norm, AO.ren, alF_ren, seenD_ren, AV.ren, Abs.idx, bfS, Abs.get]
            · rw [hrow2]
              simp -implicitDefEqProofs (disch := omega) [List.getElem?_cons_zero, List.getElem?_cons_succ, wrap_id]
              refine round_end [0, 1, 2, 8, 4] [127, 126, 125, 24, 121, 120, 119, 15, 14, 16, 17, 11, 3, 21] hjl rfl ⟨[], W2 ++ [e], by simp, hB3, hD3, hJ3, ?_⟩
              simp [norm, AO.ren, alF_ren, seenD_ren, AV.ren, Abs.idx, bfS, Abs.get]
end Go.Proofs.Ytjinjbcdbkgedaa
/-
  The law Shares: equal indegrees, and symmetry.
-/
set_option linter.unusedSimpArgs false
set_option linter.unusedVariables false
namespace Go.Sand
theorem turn_back {es : List Ed} {S o : List Bool} (h : o.length = (endsL es).length) : turnL es S (turnL es S o) = o := by
  have hl := turnL_len (ins := S) h
  apply List.ext_getElem (by rw [turnL_len hl]; exact h.symm)
  intro i h1 h2
  rw [turnL_at hl i (by omega), turnL_at h i (by omega)]
  unfold turn1
  split <;> simp
/-- Turned, if it is in the cut. -/
def swpF (f : Int → Bool) (q : Int × Int) : Int × Int := if (f q.1 != f q.2) = true then (q.2, q.1) else q
theorem arws_turn {es : List Ed} {S o : List Bool} (h : o.length = (endsL es).length) : arwsL es (turnL es S o) = (arwsL es o).map (swpF (mkB S)) := by
  have hl := turnL_len (ins := S) h
  apply List.ext_getElem (by rw [arwsL_len hl, List.length_map, arwsL_len h])
  intro i h1 h2
  have hi : i < (endsL es).length := by rw [arwsL_len hl] at h1; exact h1
  rw [List.getElem_map, arwsL_at hl i hi, arwsL_at h i hi, turnL_at h i hi]
  generalize (endsL es)[i] = p
  generalize o[i]'(by omega) = d
  unfold turn1 swpF
  cases d <;> simp only [arw, Bool.false_eq_true, if_false, if_true] <;> cases mkB S p.1 <;> cases mkB S p.2 <;> simp
theorem way_turn {es : List Ed} {S o : List Bool} (h : o.length = (endsL es).length) : wayP (mkB S) es (turnL es S o) = -wayP (mkB S) es o := by
  have h1 : outN (mkB S) (arwsL es (turnL es S o)) = intN (mkB S) (arwsL es o) := by
    unfold outN intN
    rw [arws_turn h, List.countP_map]
    refine List.countP_congr fun q _ => ?_
    simp only [Function.comp, outB, intB, swpF]
    cases h1 : mkB S q.1 <;> cases h2 : mkB S q.2 <;> simp [h1, h2]
  have h2 : intN (mkB S) (arwsL es (turnL es S o)) = outN (mkB S) (arwsL es o) := by
    unfold outN intN
    rw [arws_turn h, List.countP_map]
    refine List.countP_congr fun q _ => ?_
    simp only [Function.comp, outB, intB, swpF]
    cases h1 : mkB S q.1 <;> cases h2 : mkB S q.2 <;> simp [h1, h2]
  unfold wayP wayN
  rw [h1, h2]
  split <;> split <;> (try split) <;> (try split) <;> omega
theorem StepD.symm {n m : Nat} {es : List Ed} (hm : m = (endsL es).length) {d d' : List Int} (h : StepD n m es d d') : StepD n m es d' d := by
  obtain ⟨o, ho, hod, j, hj, hw, hd⟩ := h
  have hol : o.length = (endsL es).length := by omega
  refine ⟨turnL es (setM n j) o, by rw [turnL_len hol, hm], hd, j, hj, ?_, ?_⟩
  · rw [way_turn hol]; omega
  · rw [turn_back hol]; exact hod
theorem ReachD.trans {n m : Nat} {es : List Ed} {a b c : List Int} (h : ReachD n m es a b) (k : ReachD n m es b c) : ReachD n m es a c := by
  induction k with
  | refl => exact h
  | step _ s ih => exact .step ih s
theorem ReachD.symm {n m : Nat} {es : List Ed} (hm : m = (endsL es).length) {a b : List Int} (h : ReachD n m es a b) : ReachD n m es b a := by
  induction h with
  | refl => exact .refl
  | step _ s ih => exact ReachD.trans (.step .refl (s.symm hm)) ih
/-- Is it reached? -/
noncomputable def reachB (n m : Nat) (es : List Ed) (a b : List Int) : Bool := @decide (ReachD n m es a b) (Classical.propDecidable _)
theorem reachB_iff {n m : Nat} {es : List Ed} {a b : List Int} : reachB n m es a b = true ↔ ReachD n m es a b := @decide_eq_true_iff _ (Classical.propDecidable _)
theorem reachB_symm {n m : Nat} {es : List Ed} (hm : m = (endsL es).length) (a b : List Int) : reachB n m es a b = reachB n m es b a := by
  rw [Bool.eq_iff_iff, reachB_iff, reachB_iff]
  exact ⟨fun h => h.symm hm, fun h => h.symm hm⟩
end Go.Sand
namespace Go.Proofs.Ytjinjbcdbkgedaa
open Go.Abs Go.Sand

set_option maxRecDepth 100000 in
theorem shares14_law (N : Int) (es : List Ed) (a b : List Bool) : PC Try.prog 5 [G N es, .bo a, .bo b] (.b true) [] := by
  refine PC_of_W cfn5 ?_
  simp -implicitDefEqProofs (disch := omega) [c5, List.getElem?_cons_zero, List.getElem?_cons_succ, wrap_id]
  refine HC_of_PC rfl (right14_ok N es a) ?_
  cases hra : rightB N es a
  · simp -implicitDefEqProofs (disch := omega) [List.getElem?_cons_zero, List.getElem?_cons_succ, wrap_id]
    refine HC_of_PC rfl (awake14_ok) ?_
    simp -implicitDefEqProofs (disch := omega) [List.getElem?_cons_zero, List.getElem?_cons_succ, wrap_id]
    (refine fin0 trivial rfl ?_; simp -implicitDefEqProofs (disch := omega) [List.getElem?_cons_zero, List.getElem?_cons_succ, idx, wrap_id])
  simp -implicitDefEqProofs (disch := omega) [List.getElem?_cons_zero, List.getElem?_cons_succ, wrap_id]
  refine HC_of_PC rfl (right14_ok N es b) ?_
  cases hrb : rightB N es b
  · simp -implicitDefEqProofs (disch := omega) [List.getElem?_cons_zero, List.getElem?_cons_succ, wrap_id]
    refine HC_of_PC rfl (awake14_ok) ?_
    simp -implicitDefEqProofs (disch := omega) [List.getElem?_cons_zero, List.getElem?_cons_succ, wrap_id]
    (refine fin0 trivial rfl ?_; simp -implicitDefEqProofs (disch := omega) [List.getElem?_cons_zero, List.getElem?_cons_succ, idx, wrap_id])
  simp -implicitDefEqProofs (disch := omega) [List.getElem?_cons_zero, List.getElem?_cons_succ, wrap_id]
  refine HC_of_PC rfl (fewT_ok N es) ?_
  cases hf : smallG N es 5 8
  · simp -implicitDefEqProofs (disch := omega) [List.getElem?_cons_zero, List.getElem?_cons_succ, wrap_id]
    refine HC_of_PC rfl (awake14_ok) ?_
    simp -implicitDefEqProofs (disch := omega) [List.getElem?_cons_zero, List.getElem?_cons_succ, wrap_id]
    (refine fin0 trivial rfl ?_; simp -implicitDefEqProofs (disch := omega) [List.getElem?_cons_zero, List.getElem?_cons_succ, idx, wrap_id])
  obtain ⟨n, rfl, ha, hel, ha9, hn1, hn6⟩ := right_ok hra
  obtain ⟨_, _, hb, _, hb9, _, _⟩ := right_ok hrb
  rename_i hnn _ _
  have hb' : oE n es b = 0 := by simp only [rightB, Bool.and_eq_true, decide_eq_true_eq] at hrb; exact hrb.2
  obtain ⟨hg, hla⟩ := oE_ok ha
  obtain ⟨_, hlb⟩ := oE_ok hb'
  have hgood := gcheck_ok hg
  have c1 := aequiv_ok n es a b hel ha hb' (by omega) _ reachB_iff
  have c2 := aequiv_ok n es b a hel hb' ha (by omega) _ reachB_iff
  have hsy := reachB_symm (n := n) hlb (inL n es b) (inL n es a)
  rw [show reachB n b.length es (inL n es b) (inL n es a) = reachB n a.length es (inL n es a) (inL n es b) from by rw [hsy, hlb, hla]] at c2
  obtain ⟨r, hr⟩ : ∃ r, r = reachB n a.length es (inL n es a) (inL n es b) := ⟨_, rfl⟩
  rw [← hr] at c1 c2
  have hrr : inL n es a = inL n es b → r = true := fun e => by rw [hr]; exact reachB_iff.2 (e ▸ .refl)
  have hda := inL_len n es a
  have hdb := inL_len n es b
  simp -implicitDefEqProofs (disch := omega) [List.getElem?_cons_zero, List.getElem?_cons_succ, wrap_id]
  refine HC_of_PC rfl (c1) ?_
  simp -implicitDefEqProofs (disch := omega) [List.getElem?_cons_zero, List.getElem?_cons_succ, wrap_id]
  refine HC_of_PC rfl (c2) ?_
  simp -implicitDefEqProofs (disch := omega) [List.getElem?_cons_zero, List.getElem?_cons_succ, wrap_id]
  refine HC_of_PC rfl (aindegrees_ok n es a hel (by omega) ha) ?_
  simp -implicitDefEqProofs (disch := omega) [List.getElem?_cons_zero, List.getElem?_cons_succ, wrap_id]
  refine HC_of_PC rfl (aindegrees_ok n es b hel (by omega) hb') ?_
  simp -implicitDefEqProofs (disch := omega) [List.getElem?_cons_zero, List.getElem?_cons_succ, wrap_id]
  refine HC_of_PC (by simp [views, view, viewC, ownEls, hda, hdb]) (equalZ_ok (inL n es a) (inL n es b) (by omega)) ?_
  by_cases he : inL n es a = inL n es b
  · have hrt := hrr he
    subst hrt
    simp -implicitDefEqProofs (disch := omega) [List.getElem?_cons_zero, List.getElem?_cons_succ, wrap_id, he]
    refine HC_of_PC rfl (awake14_ok) ?_
    simp -implicitDefEqProofs (disch := omega) [List.getElem?_cons_zero, List.getElem?_cons_succ, wrap_id]
    (refine fin0 trivial rfl ?_; simp -implicitDefEqProofs (disch := omega) [List.getElem?_cons_zero, List.getElem?_cons_succ, idx, wrap_id])
  · simp -implicitDefEqProofs (disch := omega) [List.getElem?_cons_zero, List.getElem?_cons_succ, wrap_id, he]
    refine HC_of_PC rfl (awake14_ok) ?_
    simp -implicitDefEqProofs (disch := omega) [List.getElem?_cons_zero, List.getElem?_cons_succ, wrap_id]
    (refine fin0 trivial rfl ?_; simp -implicitDefEqProofs (disch := omega) [List.getElem?_cons_zero, List.getElem?_cons_succ, idx, wrap_id])
end Go.Proofs.Ytjinjbcdbkgedaa
