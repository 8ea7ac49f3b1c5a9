/-
  The law Plays: a legal order is legal, move by move; and what it says of the odometer.
-/
import Derived.Test.YtgjaekbbdmhjlaaJp
set_option linter.unusedSimpArgs false
set_option linter.unusedVariables false
namespace Go.Proofs.Ytgjaekbbdmhjlaa
open Go.Abs Go.Sand

theorem play_snoc {n : Nat} {es : List Ed} {v : Int} : ∀ (ms d : List Int) (i : Nat) {c : List Int} {j : Nat}, playL n es d ms i = (c, j, 0) → mayB es c v = true → bndE (movedE es (ofL n [v] 1) c) = 0 → playL n es d (ms ++ [v]) i = (movedE es (ofL n [v] 1) c, j + 1, 0)
  | [], d, i, c, j, h, h1, h2 => by
    simp only [playL, Prod.mk.injEq] at h
    obtain ⟨rfl, rfl, -⟩ := h
    rw [List.nil_append, playL_go h1 h2, playL]
  | u :: ms, d, i, c, j, h, h1, h2 => by
    by_cases h3 : mayB es d u = true
    · by_cases h4 : bndE (movedE es (ofL n [u] 1) d) = 0
      · rw [playL_go h3 h4] at h
        rw [List.cons_append, playL_go h3 h4]
        exact play_snoc ms _ _ h h1 h2
      · rw [playL_large h3 h4] at h
        simp only [Prod.mk.injEq] at h
        exact absurd h.2.2 h4
    · have h3' : mayB es d u = false := by simpa using h3
      rw [playL_no h3'] at h
      simp at h
section
variable {n : Nat} {es : List Ed} {q : Int} {d s : List Int}
theorem ordM_vtx : ∀ k, ∀ x ∈ ordM n es q d s k, 0 ≤ x ∧ x < n ∧ x ≠ q
  | 0, x, hx => by simp [ordM] at hx
  | k + 1, x, hx => by
    unfold ordM at hx
    split at hx
    · exact ordM_vtx k x hx
    · rename_i v hv
      rcases List.mem_append.1 hx with h | h
      · exact ordM_vtx k x h
      · rw [List.mem_singleton.1 h]
        obtain ⟨h1, -, h2, -⟩ := pckF_some hv
        exact ⟨by omega, by omega, h2⟩
theorem cnt_ordM : ∀ k, cntL n (ordM n es q d s k) = ordS n es q d s k
  | 0 => rfl
  | k + 1 => by
    have ih := cnt_ordM k
    cases hv : pckF n es q d s (ordS n es q d s k) with
    | none => simp only [ordM, ordS, hv]; exact ih
    | some v =>
      obtain ⟨e1, e2⟩ := ord_succ hv
      rw [e1, e2]
      unfold cntL at ih ⊢
      rw [List.foldl_append, ih]
      rfl
theorem play_ordM (h : StOk n es q d) (hd : ∀ i, -60 ≤ d.getD i 0 ∧ d.getD i 0 ≤ 60) : ∀ k, playL n es d (ordM n es q d s k) 0 = (movedE es (ordS n es q d s k) d, (ordM n es q d s k).length, 0)
  | 0 => by
    simp only [ordM, ordS, playL]
    rw [aft_zero h.g h.c.len]; rfl
  | k + 1 => by
    have ih := play_ordM h hd k
    cases hv : pckF n es q d s (ordS n es q d s k) with
    | none =>
      have e1 : ordS n es q d s (k + 1) = ordS n es q d s k := by simp only [ordS, hv]
      have e2 : ordM n es q d s (k + 1) = ordM n es q d s k := by simp only [ordM, hv]
      rw [e1, e2, ih]
    | some v =>
      obtain ⟨hvn, hvne, hvq, hvd⟩ := pckF_some hv
      obtain ⟨e1, e2⟩ := ord_succ hv
      have hl := ord_leg (n := n) (es := es) (q := q) (d := d) (s := s) k
      have hl2 := ord_leg (n := n) (es := es) (q := q) (d := d) (s := s) (k + 1)
      have hm : movedE es (ofL n [(v : Int)] 1) (movedE es (ordS n es q d s k) d) = movedE es (ordS n es q d s (k + 1)) d := moved_two h.g.right 0 h.c.len fun i hi => by
        rw [e1, moreS_get _ _ _ (by rw [hl.len]; exact hvn), one_add hvn]
        omega
      have hb := chips_small h (B := 60) (by omega) hd hl2
      have h1 : mayB es (movedE es (ordS n es q d s k) d) v = true := by
        have hv1 := h.v v hvn hvq
        have hv2 := valTo_all h.g.right h.g.asc v ⟨by omega, by omega⟩
        rw [mayB, decide_eq_true_eq, ← hv2, Int.toNat_natCast]
        exact ⟨by omega, hvd⟩
      have h2 : bndE (movedE es (ofL n [(v : Int)] 1) (movedE es (ordS n es q d s k) d)) = 0 := by
        rw [hm, bndE, if_pos]
        exact inB_all fun i _ => by have := hb i; omega
      rw [e2, play_snoc _ _ _ ih h1 h2, hm, List.length_append]
      rfl
end
set_option maxRecDepth 10000 in
theorem plays22_law (N : Int) (es : List Ed) (q : Int) (d x : List Int) : PC Try.prog 10 [G N es, .is d, .agg [.i q, .is x]] (.b true) [] := by
  refine PC_of_W cfn10 ?_
  simp -implicitDefEqProofs (disch := omega) [c10, List.getElem?_cons_zero, List.getElem?_cons_succ, wrap_id]
  refine HC_of_PC rfl (small19_ok N es q d) ?_
  cases hf : small19 N es q d
  · simp -implicitDefEqProofs (disch := omega) [List.getElem?_cons_zero, List.getElem?_cons_succ, wrap_id]
    refine HC_of_PC rfl (awake22_ok) ?_
    simp -implicitDefEqProofs (disch := omega) [List.getElem?_cons_zero, List.getElem?_cons_succ, wrap_id]
    (refine fin0 trivial rfl ?_; simp -implicitDefEqProofs (disch := omega) [List.getElem?_cons_zero, List.getElem?_cons_succ, idx, wrap_id])
  obtain ⟨hf1, h0, h60⟩ := small19_at hf
  obtain ⟨he, hd⟩ := few22_len hf1
  obtain ⟨n, rfl, h⟩ := st_ok h0
  have hn := h.n12
  have hg := h.g
  have hdl := h.c.len
  simp -implicitDefEqProofs (disch := omega) [List.getElem?_cons_zero, List.getElem?_cons_succ, wrap_id]
  by_cases hxL : x.length ≤ 1000
  rotate_left
  · refine HC_of_PC rfl (rscheck_long n es x h.gc h.n1 hn he hxL) ?_
    simp -implicitDefEqProofs (disch := omega) [List.getElem?_cons_zero, List.getElem?_cons_succ, wrap_id]
    refine HC_of_PC rfl (awake22_ok) ?_
    simp -implicitDefEqProofs (disch := omega) [List.getElem?_cons_zero, List.getElem?_cons_succ, wrap_id]
    (refine fin0 trivial rfl ?_; simp -implicitDefEqProofs (disch := omega) [List.getElem?_cons_zero, List.getElem?_cons_succ, idx, wrap_id])
  refine HC_of_PC rfl (rscheck_ok n es x (by omega) (by omega)) ?_
  by_cases h1 : givenE n es x = 0
  rotate_left
  · simp -implicitDefEqProofs (disch := omega) [List.getElem?_cons_zero, List.getElem?_cons_succ, wrap_id, h1]
    refine HC_of_PC rfl (awake22_ok) ?_
    simp -implicitDefEqProofs (disch := omega) [List.getElem?_cons_zero, List.getElem?_cons_succ, wrap_id]
    (refine fin0 trivial rfl ?_; simp -implicitDefEqProofs (disch := omega) [List.getElem?_cons_zero, List.getElem?_cons_succ, idx, wrap_id])
  obtain ⟨hxl, hxb⟩ := given_in h1
  simp -implicitDefEqProofs (disch := omega) [List.getElem?_cons_zero, List.getElem?_cons_succ, wrap_id, h1]
  refine HC_of_PC rfl (dsmall_ok x (by omega)) ?_
  cases hx60 : x.all in60
  · simp -implicitDefEqProofs (disch := omega) [List.getElem?_cons_zero, List.getElem?_cons_succ, wrap_id]
    refine HC_of_PC rfl (awake22_ok) ?_
    simp -implicitDefEqProofs (disch := omega) [List.getElem?_cons_zero, List.getElem?_cons_succ, wrap_id]
    (refine fin0 trivial rfl ?_; simp -implicitDefEqProofs (disch := omega) [List.getElem?_cons_zero, List.getElem?_cons_succ, idx, wrap_id])
  have gx : gvE n es q d x = 0 := gv_mk h0 h hxl hxb
  simp -implicitDefEqProofs (disch := omega) [List.getElem?_cons_zero, List.getElem?_cons_succ, wrap_id]
  refine HC_of_PC rfl (legal22_ok n es q d x he hd (by omega)) ?_
  by_cases hl0 : lgE n es q d x = 0
  rotate_left
  · simp -implicitDefEqProofs (disch := omega) [List.getElem?_cons_zero, List.getElem?_cons_succ, wrap_id, hl0]
    refine HC_of_PC rfl (awake22_ok) ?_
    simp -implicitDefEqProofs (disch := omega) [List.getElem?_cons_zero, List.getElem?_cons_succ, wrap_id]
    (refine fin0 trivial rfl ?_; simp -implicitDefEqProofs (disch := omega) [List.getElem?_cons_zero, List.getElem?_cons_succ, idx, wrap_id])
  cases hok : (lgR n es q d x).2
  · simp -implicitDefEqProofs (disch := omega) [List.getElem?_cons_zero, List.getElem?_cons_succ, wrap_id, hl0, hok]
    refine HC_of_PC rfl (awake22_ok) ?_
    simp -implicitDefEqProofs (disch := omega) [List.getElem?_cons_zero, List.getElem?_cons_succ, wrap_id]
    (refine fin0 trivial rfl ?_; simp -implicitDefEqProofs (disch := omega) [List.getElem?_cons_zero, List.getElem?_cons_succ, idx, wrap_id])
  -- the script is fired, in a legal order
  have hbad : badB n q x = false := by
    unfold lgE at hl0
    rw [if_neg (by simp [gx]), Int.toNat_natCast] at hl0
    split at hl0
    · cases hl0
    · rename_i h2; simpa using h2
  have hT4 : sumI x ≤ 4096 := by
    unfold lgE at hl0
    rw [if_neg (by simp [gx]), Int.toNat_natCast] at hl0
    split at hl0
    · cases hl0
    · split at hl0
      · cases hl0
      · omega
  have hxo := badB_ok hbad
  have hnn : ∀ i, 0 ≤ x.getD i 0 := fun i => by
    by_cases hi : i < n
    · exact (hxo i hi).1
    · rw [List.getD_eq_getElem?_getD, List.getElem?_eq_none (by omega)]; simp
  have hs0 : 0 ≤ sumI x := by rw [sumI_sumN]; exact sumN_nonneg fun u _ => hnn u
  obtain ⟨T, hTe⟩ : ∃ T : Nat, sumI x = T := ⟨(sumI x).toNat, by omega⟩
  have hR : lgR n es q d x = ordR n es q d x T := by rw [lgR, if_pos hl0, Int.toNat_natCast, hTe, Int.toNat_natCast]
  have hTl : (ordM n es q d x T).length = T := by
    refine Decidable.byContradiction fun hne => ?_
    rw [hR, ordR, if_neg hne] at hok
    cases hok
  rw [ordR_yes hTl] at hR
  have hall := ord_all hxl hnn hTe hTl
  have hleg := ord_leg (n := n) (es := es) (q := q) (d := d) (s := x) T
  rw [hall] at hleg
  have hvtx := ordM_vtx (n := n) (es := es) (q := q) (d := d) (s := x) T
  have hcnt := cnt_ordM (n := n) (es := es) (q := q) (d := d) (s := x) T
  have hpl0 := play_ordM (s := x) h (in60_get h60) T
  rw [hall, hTl] at hpl0
  rw [hall] at hcnt
  obtain ⟨l, hl⟩ : ∃ l, l = ordM n es q d x T := ⟨_, rfl⟩
  rw [← hl] at hR hTl hvtx hcnt hpl0
  have hle : listE n l = 0 := by
    rw [listE, if_neg (by omega), if_pos]
    refine List.all_eq_true.2 fun y hy => ?_
    have := hvtx y hy
    simp [vtx]; omega
  have hdb : d.all inB = true := inB_all fun i _ => by have := in60_get h60 i; omega
  have hpl : playE n es d l = (movedE es x d, T, 0) := by
    rw [playE, if_neg (by simp [given19 h hdl hdb]), if_neg (by simp [hle]), Int.toNat_natCast, hpl0]
  have hcE : cntE n es l = 0 := by rw [cntE, if_neg (by simp [h.gc]), hle]
  have hcR : cntR n es l = x := by rw [cntR, if_pos hcE, Int.toNat_natCast, hcnt]
  obtain ⟨e0, e1, e2, o⟩ := small_odo h0 h (in60_get h60)
  obtain ⟨S, hS⟩ : ∃ S, S = (stabF n es q d).1 := ⟨_, rfl⟩
  rw [← hS] at e1 e2 o
  have hSl := o.stl.st.len
  have hle2 := hleg.least hg hdl o.stl.st
  have hst : stlR n es q d x = decide (x = S) := by
    rw [stlR, gx, Int.toNat_natCast, decide_eq_true rfl, Bool.true_and, Bool.eq_iff_iff, stlB_iff hxl, decide_eq_true_eq]
    constructor
    · intro h2
      refine ext_getD (by omega) fun i hi => ?_
      have := hle2 i (by omega)
      have := o.least x h2 i (by omega)
      omega
    · rintro rfl; exact o.stl
  simp -implicitDefEqProofs (disch := omega) [List.getElem?_cons_zero, List.getElem?_cons_succ, wrap_id, hl0, hR]
  refine HC_of_PC rfl (stabilize_ok n es q d he hd) ?_
  simp -implicitDefEqProofs (disch := omega) [List.getElem?_cons_zero, List.getElem?_cons_succ, wrap_id, e0, e1, e2]
  refine HC_of_PC rfl (play_ok n es d l (by omega) (by omega) (by omega)) ?_
  simp -implicitDefEqProofs (disch := omega) [List.getElem?_cons_zero, List.getElem?_cons_succ, wrap_id, hpl]
  refine HC_of_PC rfl (fcount_ok n es l (by omega) (by omega)) ?_
  simp -implicitDefEqProofs (disch := omega) [List.getElem?_cons_zero, List.getElem?_cons_succ, wrap_id, hcE, hcR]
  refine HC_of_PC rfl (stabilizing_ok n es q d x he hd (by omega)) ?_
  simp -implicitDefEqProofs (disch := omega) [List.getElem?_cons_zero, List.getElem?_cons_succ, wrap_id, gx, hst, hTl, hSl]
  refine HC_of_PC rfl (same22_ok x x (by omega)) ?_
  simp -implicitDefEqProofs (disch := omega) [List.getElem?_cons_zero, List.getElem?_cons_succ, wrap_id, hSl]
  refine loopW n (fun k st => st = ⟨[(122, .i k), (121, .i n), (11, .p (.is S)), (18, .b (decide (x = S))), (3, .ptr 0 1 0 0), (5, .ptr 1 1 0 0)], [.box (.p (G n es)), .box (.p (.agg [.i q, .is x]))]⟩) (wk_norm [0, 1] [122, 121, 11, 18, 3, 5] rfl rfl) rfl ?_
  rintro k st hk rfl
  by_cases hlt : k < n
  · have hkS : k < S.length := by omega
    have hkx : k < x.length := by omega
    have hlek := hle2 k hlt
    rw [getD_get hkS, getD_get hkx] at hlek
    have hgt : ¬ S[k] < x[k] := by omega
    simp -implicitDefEqProofs (disch := omega) [List.getElem?_cons_zero, List.getElem?_cons_succ, wrap_id, hlt, hkS, hkx, hgt]
    exact round_end [0, 1] [122, 121, 11, 18, 3, 5] hlt rfl rfl
  · simp -implicitDefEqProofs (disch := omega) [List.getElem?_cons_zero, List.getElem?_cons_succ, wrap_id, hlt]
    refine HC_of_PC rfl (same22_ok x S (by omega)) ?_
    simp -implicitDefEqProofs (disch := omega) [List.getElem?_cons_zero, List.getElem?_cons_succ, wrap_id]
    refine HC_of_PC rfl (awake22_ok) ?_
    simp -implicitDefEqProofs (disch := omega) [List.getElem?_cons_zero, List.getElem?_cons_succ, wrap_id]
    (refine fin0 trivial rfl ?_; simp -implicitDefEqProofs (disch := omega) [List.getElem?_cons_zero, List.getElem?_cons_succ, idx, wrap_id])
end Go.Proofs.Ytgjaekbbdmhjlaa
