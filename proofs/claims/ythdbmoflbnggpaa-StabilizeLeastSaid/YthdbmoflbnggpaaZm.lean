/-
  Contracts: the reference's results: unstable, stable, stabilized, toppled.
-/
import Derived.Test.YthdbmoflbnggpaaZl
set_option linter.unusedSimpArgs false
set_option linter.unusedVariables false
namespace Go.Proofs.Ythdbmoflbnggpaa
open Go.Abs Go.Sand

theorem unsK_nil {n : Nat} {es : List Ed} {q : Int} {d : List Int} : unsK n es q d n = [] ↔ nxtF n es q d = none := by
  unfold unsK nxtF
  rw [List.map_eq_nil_iff, List.filter_eq_nil_iff, List.find?_eq_none]
section
variable (n : Nat) (es : List Ed) (q : Int) (d : List Int) (hel : es.length ≤ 900) (hg : GoodG n es) (hd : d.length = n)
include hel hg hd
theorem calmR_ok : PC Try.prog 58 [G n es, .i q, .is d] (.b (decide (nxtF n es q d = none))) [] := by
  refine PC_of_W cfn58 ?_
  simp -implicitDefEqProofs (disch := omega) [c58, List.getElem?_cons_zero, List.getElem?_cons_succ, wrap_id]
  refine HC_of_PC rfl (waiting_ok n es q d hel hg hd) ?_
  by_cases h : nxtF n es q d = none
  · have h1 := unsK_nil.2 h
    simp -implicitDefEqProofs (disch := omega) [List.getElem?_cons_zero, List.getElem?_cons_succ, wrap_id, h1]
    (refine fin0 trivial rfl ?_; simp -implicitDefEqProofs (disch := omega) [List.getElem?_cons_zero, List.getElem?_cons_succ, idx, wrap_id, h])
  · have h1 : ¬ unsK n es q d n = [] := fun e => h (unsK_nil.1 e)
    simp -implicitDefEqProofs (disch := omega) [List.getElem?_cons_zero, List.getElem?_cons_succ, wrap_id, h1]
    (refine fin0 trivial rfl ?_; simp -implicitDefEqProofs (disch := omega) [List.getElem?_cons_zero, List.getElem?_cons_succ, idx, wrap_id, h])
end
/-- How a stabilization ends. -/
def endE (d : List Int) (q : Int) (over : Bool) : Int := if over = true then 12 else if inB (d.getD q.toNat 0) = true then 0 else 11
theorem ended_ok (L S M : List Int) (k : Int) (over : Bool) (q : Int) (hq : 0 ≤ q ∧ q < L.length) : PC Try.prog 47 [.agg [.is L, .is S, .is M, .i k, .b over], .i q] (.i (endE L q over)) [] := by
  obtain ⟨p, rfl⟩ : ∃ p : Nat, q = p := ⟨q.toNat, by omega⟩
  have hp : p < L.length := by omega
  have hgp := getD_get hp
  refine PC_of_W cfn47 ?_
  simp -implicitDefEqProofs (disch := omega) [c47, List.getElem?_cons_zero, List.getElem?_cons_succ, wrap_id]
  cases over with
  | true =>
    simp -implicitDefEqProofs (disch := omega) [List.getElem?_cons_zero, List.getElem?_cons_succ, wrap_id]
    (refine fin0 trivial rfl ?_; simp -implicitDefEqProofs (disch := omega) [List.getElem?_cons_zero, List.getElem?_cons_succ, idx, wrap_id, endE])
  | false =>
    simp -implicitDefEqProofs (disch := omega) [List.getElem?_cons_zero, List.getElem?_cons_succ, wrap_id, hp]
    refine HC_of_PC rfl (in_ok L[p]) ?_
    cases hv : inB L[p]
    · simp -implicitDefEqProofs (disch := omega) [List.getElem?_cons_zero, List.getElem?_cons_succ, wrap_id]
      (refine fin0 trivial rfl ?_; simp -implicitDefEqProofs (disch := omega) [List.getElem?_cons_zero, List.getElem?_cons_succ, idx, wrap_id, endE, hgp, hv])
    · simp -implicitDefEqProofs (disch := omega) [List.getElem?_cons_zero, List.getElem?_cons_succ, wrap_id]
      (refine fin0 trivial rfl ?_; simp -implicitDefEqProofs (disch := omega) [List.getElem?_cons_zero, List.getElem?_cons_succ, idx, wrap_id, endE, hgp, hv])
theorem settledE_eq {n : Nat} {es : List Ed} {q : Int} {d : List Int} (h : StOk n es q d) (hq : -1048576 ≤ d.getD q.toNat 0) {k : Nat} {over : Bool} (hf : Falls n es q d k over) : settledE n es q d = endE (movedE es (stp n es q d k) d) q over := by
  obtain ⟨h1, h2⟩ := falls_same h.g h.v h.c.len hf
  cases over with
  | true =>
    have := h1 rfl
    rw [settledE, if_pos (by rw [this]; decide), this, endE, if_pos rfl]
  | false =>
    obtain ⟨h3, h4⟩ := h2 rfl
    rw [settledE, h3, h4, endE]
    simp only [ne_eq, not_true_eq_false, if_false, Bool.false_eq_true]
    have hup := (stp_leg (n := n) (es := es) (q := q) (d := d) k).sinkUp h.g h.c.len q.toNat (by have := h.q0; omega)
    by_cases h5 : 1048576 < (movedE es (stp n es q d k) d).getD q.toNat 0
    · rw [if_pos h5, if_neg]
      rw [inB_iff]; omega
    · rw [if_neg h5, if_pos]
      rw [inB_iff]; omega
theorem settled_same {n : Nat} {es : List Ed} {q : Int} {d : List Int} (h : StOk n es q d) {k : Nat} {over : Bool} (hf : Falls n es q d k over) (h0 : settledE n es q d = 0) : (stabF n es q d).1 = stp n es q d k := by
  obtain ⟨h1, h2⟩ := falls_same h.g h.v h.c.len hf
  cases over with
  | true =>
    have := h1 rfl
    rw [settledE, if_pos (by rw [this]; decide), this] at h0
    cases h0
  | false => exact (h2 rfl).2
theorem st_sink {N q : Int} {es : List Ed} {d : List Int} (h : stE N es q d = 0) : -1048576 ≤ d.getD q.toNat 0 := by
  have : givenE N es d = 0 := by
    unfold stE at h
    split at h
    · rename_i h1; exact absurd h h1
    · rename_i h1
      split at h
      · rename_i h2; exact absurd h h2
      · rename_i h2
        obtain ⟨n, rfl, hgc, -⟩ := root_ok (Decidable.not_not.1 h1)
        rw [givenE, if_neg (by simp [hgc]), Decidable.not_not.1 h2]
  obtain ⟨n, -, -, -, hb, -, -⟩ := given_ok this
  exact (hb _).1
section
variable (N : Int) (es : List Ed) (q : Int) (d : List Int) (hel : es.length ≤ 900) (hd : d.length ≤ 1000)
include hel hd
theorem runstable_ok : PC Try.prog 27 [G N es, .i q, .is d] (.tup [.p (.is (if stE N es q d = 0 then unsK N.toNat es q d N.toNat else [])), .i (stE N es q d)]) [] := by
  refine PC_of_W cfn27 ?_
  simp -implicitDefEqProofs (disch := omega) [c27, List.getElem?_cons_zero, List.getElem?_cons_succ, wrap_id]
  refine HC_of_PC rfl (r19check_ok N es q d hel hd) ?_
  by_cases h0 : stE N es q d = 0
  · obtain ⟨n, rfl, h⟩ := st_ok h0
    simp -implicitDefEqProofs (disch := omega) [List.getElem?_cons_zero, List.getElem?_cons_succ, wrap_id, h0]
    refine HC_of_PC rfl (waiting_ok n es q d hel h.g h.c.len) ?_
    simp -implicitDefEqProofs (disch := omega) [List.getElem?_cons_zero, List.getElem?_cons_succ, wrap_id]
    (refine fin0 trivial rfl ?_; simp -implicitDefEqProofs (disch := omega) [List.getElem?_cons_zero, List.getElem?_cons_succ, idx, wrap_id, h0])
  · simp -implicitDefEqProofs (disch := omega) [List.getElem?_cons_zero, List.getElem?_cons_succ, wrap_id, h0]
    refine finW (Wk_nil0 6 rfl) ?_
    (refine fin0 trivial rfl ?_; simp -implicitDefEqProofs (disch := omega) [List.getElem?_cons_zero, List.getElem?_cons_succ, idx, wrap_id, h0])
theorem rstable_ok : PC Try.prog 29 [G N es, .i q, .is d] (.tup [.b (decide (stE N es q d = 0) && decide (nxtF N.toNat es q d = none)), .i (stE N es q d)]) [] := by
  refine PC_of_W cfn29 ?_
  simp -implicitDefEqProofs (disch := omega) [c29, List.getElem?_cons_zero, List.getElem?_cons_succ, wrap_id]
  refine HC_of_PC rfl (r19check_ok N es q d hel hd) ?_
  by_cases h0 : stE N es q d = 0
  · obtain ⟨n, rfl, h⟩ := st_ok h0
    simp -implicitDefEqProofs (disch := omega) [List.getElem?_cons_zero, List.getElem?_cons_succ, wrap_id, h0]
    refine HC_of_PC rfl (calmR_ok n es q d hel h.g h.c.len) ?_
    simp -implicitDefEqProofs (disch := omega) [List.getElem?_cons_zero, List.getElem?_cons_succ, wrap_id]
    (refine fin0 trivial rfl ?_; simp -implicitDefEqProofs (disch := omega) [List.getElem?_cons_zero, List.getElem?_cons_succ, idx, wrap_id, h0])
  · simp -implicitDefEqProofs (disch := omega) [List.getElem?_cons_zero, List.getElem?_cons_succ, wrap_id, h0]
    (refine fin0 trivial rfl ?_; simp -implicitDefEqProofs (disch := omega) [List.getElem?_cons_zero, List.getElem?_cons_succ, idx, wrap_id, h0])
theorem rstabilize_ok : PC Try.prog 14 [G N es, .i q, .is d] (.tup [.p (.is (fallD N es q d)), .p (.is (fallS N es q d)), .i (fallE N es q d)]) [] := by
  refine PC_of_W cfn14 ?_
  simp -implicitDefEqProofs (disch := omega) [c14, List.getElem?_cons_zero, List.getElem?_cons_succ, wrap_id]
  refine HC_of_PC rfl (r19check_ok N es q d hel hd) ?_
  by_cases h0 : stE N es q d = 0
  · obtain ⟨n, rfl, h⟩ := st_ok h0
    have hs := st_sink h0
    obtain ⟨k, over, hf⟩ := exists_falls n es q d
    have e : fallE n es q d = settledE n es q d := by rw [fallE, if_neg (by simp [h0]), Int.toNat_natCast]
    have e2 := settledE_eq h hs hf
    simp -implicitDefEqProofs (disch := omega) [List.getElem?_cons_zero, List.getElem?_cons_succ, wrap_id, h0]
    refine HC_of_PC rfl (fallen_ok n es q d hel h.g h.c k over hf) ?_
    simp -implicitDefEqProofs (disch := omega) [List.getElem?_cons_zero, List.getElem?_cons_succ, wrap_id]
    refine HC_of_PC rfl (ended_ok (movedE es (stp n es q d k) d) (stp n es q d k) (mvs n es q d (min k 4096)) k over q ⟨h.q0, by rw [movedE_length, h.c.len]; exact h.qn⟩) ?_
    rw [← e2]
    by_cases h1 : settledE n es q d = 0
    · have e3 := settled_same h hf h1
      simp -implicitDefEqProofs (disch := omega) [List.getElem?_cons_zero, List.getElem?_cons_succ, wrap_id, h1]
      (refine fin0 trivial rfl ?_; simp -implicitDefEqProofs (disch := omega) [List.getElem?_cons_zero, List.getElem?_cons_succ, idx, wrap_id, fallS, fallD, e, h1, e3])
    · simp -implicitDefEqProofs (disch := omega) [List.getElem?_cons_zero, List.getElem?_cons_succ, wrap_id, h1]
      refine finW (Wk_nil0 6 rfl) ?_
      refine finW (Wk_nil0 7 rfl) ?_
      (refine fin0 trivial rfl ?_; simp -implicitDefEqProofs (disch := omega) [List.getElem?_cons_zero, List.getElem?_cons_succ, idx, wrap_id, fallS, fallD, e, h1])
  · have e : fallE N es q d = stE N es q d := by rw [fallE, if_pos h0]
    simp -implicitDefEqProofs (disch := omega) [List.getElem?_cons_zero, List.getElem?_cons_succ, wrap_id, h0]
    refine finW (Wk_nil0 6 rfl) ?_
    refine finW (Wk_nil0 7 rfl) ?_
    (refine fin0 trivial rfl ?_; simp -implicitDefEqProofs (disch := omega) [List.getElem?_cons_zero, List.getElem?_cons_succ, idx, wrap_id, fallS, fallD, e, h0])
theorem rtopple_ok : PC Try.prog 17 [G N es, .i q, .is d] (.tup [.p (.is (if stE N es q d = 0 then (topR N.toNat es q d).1 else [])), .i (if stE N es q d = 0 then (topR N.toNat es q d).2 else stE N es q d)]) [] := by
  refine PC_of_W cfn17 ?_
  simp -implicitDefEqProofs (disch := omega) [c17, List.getElem?_cons_zero, List.getElem?_cons_succ, wrap_id]
  refine HC_of_PC rfl (r19check_ok N es q d hel hd) ?_
  by_cases h0 : stE N es q d = 0
  · obtain ⟨n, rfl, h⟩ := st_ok h0
    obtain ⟨k, over, hf⟩ := exists_falls n es q d
    have hr := falls_top hf
    simp -implicitDefEqProofs (disch := omega) [List.getElem?_cons_zero, List.getElem?_cons_succ, wrap_id, h0]
    refine HC_of_PC rfl (fallen_ok n es q d hel h.g h.c k over hf) ?_
    by_cases h1 : 4096 < k
    · rw [if_pos (.inl h1)] at hr
      have h1' : (4096 : Int) < k := by omega
      simp -implicitDefEqProofs (disch := omega) [List.getElem?_cons_zero, List.getElem?_cons_succ, wrap_id, h1']
      refine finW (Wk_nil0 6 rfl) ?_
      (refine fin0 trivial rfl ?_; simp -implicitDefEqProofs (disch := omega) [List.getElem?_cons_zero, List.getElem?_cons_succ, idx, wrap_id, h0, hr])
    · have h1' : ¬ (4096 : Int) < k := by omega
      cases over with
      | true =>
        rw [if_pos (.inr rfl)] at hr
        simp -implicitDefEqProofs (disch := omega) [List.getElem?_cons_zero, List.getElem?_cons_succ, wrap_id, h1']
        refine finW (Wk_nil0 6 rfl) ?_
        (refine fin0 trivial rfl ?_; simp -implicitDefEqProofs (disch := omega) [List.getElem?_cons_zero, List.getElem?_cons_succ, idx, wrap_id, h0, hr])
      | false =>
        rw [if_neg (by simp; omega)] at hr
        have hm : min k 4096 = k := by omega
        simp -implicitDefEqProofs (disch := omega) [List.getElem?_cons_zero, List.getElem?_cons_succ, wrap_id, h1']
        (refine fin0 trivial rfl ?_; simp -implicitDefEqProofs (disch := omega) [List.getElem?_cons_zero, List.getElem?_cons_succ, idx, wrap_id, h0, hr, hm])
  · simp -implicitDefEqProofs (disch := omega) [List.getElem?_cons_zero, List.getElem?_cons_succ, wrap_id, h0]
    refine finW (Wk_nil0 6 rfl) ?_
    (refine fin0 trivial rfl ?_; simp -implicitDefEqProofs (disch := omega) [List.getElem?_cons_zero, List.getElem?_cons_succ, idx, wrap_id, h0])
end
end Go.Proofs.Ythdbmoflbnggpaa
