/-
  The law Plays: what is toppled is played, move by move.
-/
import Derived.Test.YthdbmoflbnggpaaZr
import Derived.Test.YthdbmoflbnggpaaTta
import Derived.Test.YthdbmoflbnggpaaMrc
set_option linter.unusedSimpArgs false
set_option linter.unusedVariables false
namespace Go.Proofs.Ythdbmoflbnggpaa
open Go.Abs Go.Sand

theorem play_snoc {n : Nat} {es : List Ed} {v : Int} : ∀ (ms d : List Int) (i : Nat) {c : List Int} {j : Nat}, playL n es d ms i = (c, j, 0) → mayB es c v = true → bndE (movedE es (ofL n [v] 1) c) = 0 → playL n es d (ms ++ [v]) i = (movedE es (ofL n [v] 1) c, j + 1, 0)
  | [], d, i, c, j, h, h1, h2 => by
    simp only [playL, Prod.mk.injEq] at h
    obtain ⟨rfl, rfl, -⟩ := h
    rw [List.nil_append, playL_go h1 h2, playL]
  | u :: ms, d, i, c, j, h, h1, h2 => by
    by_cases h3 : mayB es d u = true
    · by_cases h4 : bndE (movedE es (ofL n [u] 1) d) = 0
      · rw [playL_go h3 h4] at h
        rw [List.cons_append, playL_go h3 h4]
        exact play_snoc ms _ _ h h1 h2
      · rw [playL_large h3 h4] at h
        simp only [Prod.mk.injEq] at h
        exact absurd h.2.2 h4
    · have h3' : mayB es d u = false := by simpa using h3
      rw [playL_no h3'] at h
      simp at h
theorem one_get {n v : Nat} (hv : v < n) (i : Nat) : (ofL n [(v : Int)] 1).getD i 0 = if i = v then 1 else 0 := by
  show ((List.replicate n 0).set (v : Int).toNat 1).getD i 0 = _
  rw [Int.toNat_natCast, getD_set, zeros_get]
  by_cases h : i = v
  · subst h; simp [hv]
  · rw [if_neg (by omega), if_neg h]
section
variable {n : Nat} {es : List Ed} {q : Int} {d : List Int}
theorem mvs_vtx : ∀ k, ∀ x ∈ mvs n es q d k, 0 ≤ x ∧ x < n ∧ x ≠ q
  | 0, x, hx => by simp [mvs] at hx
  | k + 1, x, hx => by
    unfold mvs at hx
    split at hx
    · exact mvs_vtx k x hx
    · rename_i v hv
      rcases List.mem_append.1 hx with h | h
      · exact mvs_vtx k x h
      · rw [List.mem_singleton.1 h]
        obtain ⟨h1, h2, -⟩ := nxtF_some hv
        exact ⟨by omega, by omega, h2⟩
theorem cnt_mvs : ∀ k, cntL n (mvs n es q d k) = stp n es q d k
  | 0 => rfl
  | k + 1 => by
    have ih := cnt_mvs k
    cases hv : nxtF n es q (movedE es (stp n es q d k) d) with
    | none => simp only [mvs, stp, hv]; exact ih
    | some v =>
      obtain ⟨e1, e2⟩ := stp_succ hv
      rw [e1, e2]
      unfold cntL at ih ⊢
      rw [List.foldl_append, ih]
      rfl
theorem play_mvs (h : StOk n es q d) (hd : ∀ i, -60 ≤ d.getD i 0 ∧ d.getD i 0 ≤ 60) : ∀ k, (∀ j, j < k → live n es q d j) → playL n es d (mvs n es q d k) 0 = (movedE es (stp n es q d k) d, k, 0)
  | 0, _ => by
    simp only [mvs, stp, playL]
    rw [aft_zero h.g h.c.len]
  | k + 1, hall => by
    have ih := play_mvs h hd k fun j hj => hall j (by omega)
    obtain ⟨v, hv⟩ := live_some (hall k (by omega))
    obtain ⟨hvn, hvq, hvd⟩ := nxtF_some hv
    obtain ⟨e1, e2⟩ := stp_succ hv
    have hl := stp_leg (n := n) (es := es) (q := q) (d := d) k
    have hl2 := stp_leg (n := n) (es := es) (q := q) (d := d) (k + 1)
    have hm : movedE es (ofL n [(v : Int)] 1) (movedE es (stp n es q d k) d) = movedE es (stp n es q d (k + 1)) d := moved_two h.g.right 0 h.c.len fun i hi => by
      rw [e1, moreS_get _ _ _ (by rw [hl.len]; exact hvn), one_get hvn]
      omega
    have hb := chips_small h (B := 60) (by omega) hd hl2
    have h1 : mayB es (movedE es (stp n es q d k) d) v = true := by
      have hv1 := h.v v hvn hvq
      have hv2 := valTo_all h.g.right h.g.asc v ⟨by omega, by omega⟩
      rw [mayB, decide_eq_true_eq, ← hv2, Int.toNat_natCast]
      exact ⟨by omega, hvd⟩
    have h2 : bndE (movedE es (ofL n [(v : Int)] 1) (movedE es (stp n es q d k) d)) = 0 := by
      rw [hm, bndE, if_pos]
      exact inB_all fun i _ => by have := hb i; omega
    rw [e2, play_snoc _ _ _ ih h1 h2, hm]
end
set_option maxRecDepth 10000 in
theorem plays19_law (N : Int) (es : List Ed) (q : Int) (d : List Int) : PC Try.prog 10 [G N es, .i q, .is d] (.b true) [] := by
  refine PC_of_W cfn10 ?_
  simp -implicitDefEqProofs (disch := omega) [c10, List.getElem?_cons_zero, List.getElem?_cons_succ, wrap_id]
  refine HC_of_PC rfl (small19_ok N es q d) ?_
  cases hf : small19 N es q d
  · simp -implicitDefEqProofs (disch := omega) [List.getElem?_cons_zero, List.getElem?_cons_succ, wrap_id]
    refine HC_of_PC rfl (awake19_ok) ?_
    simp -implicitDefEqProofs (disch := omega) [List.getElem?_cons_zero, List.getElem?_cons_succ, wrap_id]
    (refine fin0 trivial rfl ?_; simp -implicitDefEqProofs (disch := omega) [List.getElem?_cons_zero, List.getElem?_cons_succ, idx, wrap_id])
  obtain ⟨hf1, h0, h60⟩ := small19_at hf
  obtain ⟨he, hd⟩ := few19_len hf1
  obtain ⟨n, rfl, h⟩ := st_ok h0
  have hn := h.n12
  have hdl := h.c.len
  obtain ⟨k, over, hfl⟩ := exists_falls n es q d
  have hr := falls_top hfl
  simp -implicitDefEqProofs (disch := omega) [List.getElem?_cons_zero, List.getElem?_cons_succ, wrap_id]
  refine HC_of_PC rfl (topple_ok n es q d he hd) ?_
  by_cases ho : 4096 < k ∨ over = true
  · rw [if_pos ho] at hr
    simp -implicitDefEqProofs (disch := omega) [List.getElem?_cons_zero, List.getElem?_cons_succ, wrap_id, h0, hr]
    refine HC_of_PC rfl (awake19_ok) ?_
    simp -implicitDefEqProofs (disch := omega) [List.getElem?_cons_zero, List.getElem?_cons_succ, wrap_id]
    (refine fin0 trivial rfl ?_; simp -implicitDefEqProofs (disch := omega) [List.getElem?_cons_zero, List.getElem?_cons_succ, idx, wrap_id])
  rw [if_neg ho] at hr
  have hk4 : k ≤ 4096 := by omega
  have hov : over = false := by cases over; rfl; exact absurd (.inr rfl) ho
  obtain ⟨ms, hms⟩ : ∃ ms, ms = mvs n es q d k := ⟨_, rfl⟩
  have hml : ms.length = k := by rw [hms]; exact (stp_sum k hfl.all).2
  have hmv : ∀ x ∈ ms, 0 ≤ x ∧ x < n ∧ x ≠ q := by rw [hms]; exact mvs_vtx k
  have hle : listE n ms = 0 := by
    rw [listE, if_neg (by omega), if_pos]
    refine List.all_eq_true.2 fun x hx => ?_
    have := hmv x hx
    simp [vtx]; omega
  have hdb : d.all inB = true := inB_all fun i _ => by have := in60_get h60 i; omega
  have hpl : playE n es d ms = (movedE es (stp n es q d k) d, k, 0) := by
    rw [playE, if_neg (by simp [given19 h hdl hdb]), if_neg (by simp [hle]), Int.toNat_natCast, hms, play_mvs h (in60_get h60) k hfl.all]
  have hcE : cntE n es ms = 0 := by rw [cntE, if_neg (by simp [h.gc]), hle]
  have hcR : cntR n es ms = stp n es q d k := by rw [cntR, if_pos hcE, Int.toNat_natCast, hms, cnt_mvs]
  obtain ⟨g1, g2⟩ := (falls_same h.g h.v hdl hfl).2 hov
  have hq : q ∉ ms := fun hh => (hmv q hh).2.2 rfl
  rcases small_fall (B := 60) h0 h (by omega) (in60_get h60) with h12 | ⟨e0, e1, e2, hg⟩
  · exfalso
    have : fallE n es q d = settledE n es q d := by rw [fallE, if_neg (by simp [h0]), Int.toNat_natCast]
    rw [this, settledE, g1] at h12
    simp only [ne_eq, not_true_eq_false, if_false] at h12
    split at h12 <;> omega
  rw [g2] at e1 e2
  have hsl : (stp n es q d k).length ≤ 1000 := by rw [(stp_leg k).len]; omega
  rw [← hms] at hr
  simp -implicitDefEqProofs (disch := omega) [List.getElem?_cons_zero, List.getElem?_cons_succ, wrap_id, h0, hr]
  refine HC_of_PC rfl (play_ok n es d ms (by omega) (by omega) (by omega)) ?_
  simp -implicitDefEqProofs (disch := omega) [List.getElem?_cons_zero, List.getElem?_cons_succ, wrap_id, hpl]
  refine HC_of_PC rfl (stabilize_ok n es q d he hd) ?_
  simp -implicitDefEqProofs (disch := omega) [List.getElem?_cons_zero, List.getElem?_cons_succ, wrap_id, e0, e1, e2]
  refine HC_of_PC rfl (fcount_ok n es ms (by omega) (by omega)) ?_
  simp -implicitDefEqProofs (disch := omega) [List.getElem?_cons_zero, List.getElem?_cons_succ, wrap_id, hcE, hcR, hml]
  refine HC_of_PC rfl (same19_refl (movedE es (stp n es q d k) d) (stp n es q d k) (by rw [movedE_length]; omega) hsl) ?_
  simp -implicitDefEqProofs (disch := omega) [List.getElem?_cons_zero, List.getElem?_cons_succ, wrap_id]
  refine HC_of_PC rfl (contains_ok ms q (by omega)) ?_
  simp -implicitDefEqProofs (disch := omega) [List.getElem?_cons_zero, List.getElem?_cons_succ, wrap_id, hq]
  refine HC_of_PC rfl (awake19_ok) ?_
  simp -implicitDefEqProofs (disch := omega) [List.getElem?_cons_zero, List.getElem?_cons_succ, wrap_id]
  (refine fin0 trivial rfl ?_; simp -implicitDefEqProofs (disch := omega) [List.getElem?_cons_zero, List.getElem?_cons_succ, idx, wrap_id])
end Go.Proofs.Ythdbmoflbnggpaa
