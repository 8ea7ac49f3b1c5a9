/-
  The law Ends: the odometer is a script that leads to the stable configuration.
-/
import Derived.Test.YthdbmoflbnggpaaZq
set_option linter.unusedSimpArgs false
set_option linter.unusedVariables false
namespace Go.Proofs.Ythdbmoflbnggpaa
open Go.Abs Go.Sand

theorem in60_get {s : List Int} (h : s.all in60 = true) (i : Nat) : -60 ≤ s.getD i 0 ∧ s.getD i 0 ≤ 60 := by
  by_cases hi : i < s.length
  · have := List.all_eq_true.1 h _ (List.getElem_mem hi)
    rw [getD_get hi]
    simpa [in60] using this
  · simp [List.getD_eq_getElem?_getD, List.getElem?_eq_none (Nat.le_of_not_lt hi)]
theorem inB_all {m : List Int} (h : ∀ i, i < m.length → -1048576 ≤ m.getD i 0 ∧ m.getD i 0 ≤ 1048576) : m.all inB = true := by
  rw [List.all_eq_true]
  intro x hx
  obtain ⟨i, hi, rfl⟩ := List.getElem_of_mem hx
  have := h i hi
  rw [getD_get hi] at this
  exact inB_iff.2 this
theorem dcheck_mk {n : Nat} {m : List Int} (h1 : 1 ≤ n) (h2 : n ≤ 12) (hl : m.length = n) (hb : m.all inB = true) : dcheck m n = 0 := by
  rw [dcheck, if_neg (by omega), if_neg (by omega), if_pos hb]
theorem given19 {n : Nat} {es : List Ed} {q : Int} {d m : List Int} (h : StOk n es q d) (hl : m.length = n) (hb : m.all inB = true) : givenE n es m = 0 := by
  rw [givenE, if_neg (by simp [h.gc]), dcheck_mk h.n1 h.n12 hl hb]
theorem st_mk {n : Nat} {es : List Ed} {q : Int} {d m : List Int} (h : StOk n es q d) (hl : m.length = n) (hb : m.all inB = true) (hp : ∀ v, v < n → (v : Int) ≠ q → 0 ≤ m.getD v 0) : stE n es q m = 0 := by
  have e1 : rootE n es q = 0 := by
    rw [rootE, if_neg (by simp [h.gc]), if_pos (by simpa using h.parts), if_pos]
    have := h.q0
    have := h.qn
    simp [vtx]; omega
  have e2 : negB q m = false := negB_none fun u hu ⟨h1, h2⟩ => by
    have := hp u (by omega) h1
    omega
  rw [stE, if_neg (by simp [e1]), if_neg (by simp [dcheck_mk h.n1 h.n12 hl hb]), if_neg (by simp [e2])]
/-- What is small. -/
def small19 (N : Int) (es : List Ed) (q : Int) (d : List Int) : Bool := few18 N es d && decide (stE N es q d = 0) && d.all in60
theorem small19_ok (N : Int) (es : List Ed) (q : Int) (d : List Int) : PC Try.prog 32 [G N es, .i q, .is d] (.b (small19 N es q d)) [] := by
  refine PC_of_W cfn32 ?_
  simp -implicitDefEqProofs (disch := omega) [c32, List.getElem?_cons_zero, List.getElem?_cons_succ, wrap_id]
  refine HC_of_PC rfl (rfew_ok N es d) ?_
  cases hf : few18 N es d
  · simp -implicitDefEqProofs (disch := omega) [List.getElem?_cons_zero, List.getElem?_cons_succ, wrap_id]
    (refine fin0 trivial rfl ?_; simp -implicitDefEqProofs (disch := omega) [List.getElem?_cons_zero, List.getElem?_cons_succ, idx, wrap_id, small19, hf])
  obtain ⟨he, hd⟩ := few19_len hf
  simp -implicitDefEqProofs (disch := omega) [List.getElem?_cons_zero, List.getElem?_cons_succ, wrap_id]
  refine HC_of_PC rfl (r19check_ok N es q d he hd) ?_
  by_cases h0 : stE N es q d = 0
  · simp -implicitDefEqProofs (disch := omega) [List.getElem?_cons_zero, List.getElem?_cons_succ, wrap_id, h0]
    refine HC_of_PC rfl (dsmall_ok d (by omega)) ?_
    simp -implicitDefEqProofs (disch := omega) [List.getElem?_cons_zero, List.getElem?_cons_succ, wrap_id]
    (refine fin0 trivial rfl ?_; simp -implicitDefEqProofs (disch := omega) [List.getElem?_cons_zero, List.getElem?_cons_succ, idx, wrap_id, small19, hf, h0])
  · simp -implicitDefEqProofs (disch := omega) [List.getElem?_cons_zero, List.getElem?_cons_succ, wrap_id, h0]
    (refine fin0 trivial rfl ?_; simp -implicitDefEqProofs (disch := omega) [List.getElem?_cons_zero, List.getElem?_cons_succ, idx, wrap_id, small19, hf, h0])
theorem small19_at {N : Int} {es : List Ed} {q : Int} {d : List Int} (h : small19 N es q d = true) : few18 N es d = true ∧ stE N es q d = 0 ∧ d.all in60 = true := by
  simpa [small19, Bool.and_eq_true, decide_eq_true_eq, and_assoc] using h
section
variable {n : Nat} {es : List Ed} {q : Int} {d : List Int}
/-- No vertex has more chips than that, whatever fires. -/
theorem chips_small {B : Int} (h : StOk n es q d) (hB : 0 ≤ B) (hd : ∀ i, -B ≤ d.getD i 0 ∧ d.getD i 0 ≤ B) {s : List Int} (hs : Leg n es q d s) (i : Nat) : -B ≤ (movedE es s d).getD i 0 ∧ (movedE es s d).getD i 0 ≤ 13 * B := by
  have hn := h.n12
  have hl : (movedE es s d).length = n := by rw [movedE_length, h.c.len]
  have hsum := movedE_sum s h.g.right d h.c.len
  have hup : sumI d ≤ 12 * B := by
    have : ∀ k, k ≤ d.length → sumI (d.take k) ≤ k * B := by
      intro k
      induction k with
      | zero => intro _; simp [sumI]
      | succ k ih =>
        intro hk
        have h1 := ih (by omega)
        have h2 := (hd k).2
        rw [getD_get (by omega)] at h2
        rw [sumI_snoc d k (by omega)]
        push_cast
        rw [Int.add_mul, Int.one_mul]
        omega
    have h1 := this d.length (Nat.le_refl _)
    rw [List.take_length, h.c.len] at h1
    have : (n : Int) * B ≤ 12 * B := Int.mul_le_mul_of_nonneg_right (by omega) hB
    omega
  obtain ⟨p, hp⟩ : ∃ p : Nat, q = p := ⟨q.toNat, by have := h.q0; omega⟩
  have hpn : p < n := by have := h.qn; omega
  have hsk := hs.sinkUp h.g h.c.len p hp.symm
  have hdp := (hd p).1
  by_cases hi : i < n
  · by_cases hq : (i : Int) = q
    · have e : i = p := by omega
      subst e
      have h3 := sumI_ge (movedE es s d) i (fun j hj hne => hs.pos h.g h.c.len h.c.pos j (by omega) (by omega)) (by omega)
      omega
    · have h1 := hs.pos h.g h.c.len h.c.pos i hi hq
      have h2 := sumI_ge2 (movedE es s d) i p (by omega) (fun j hj _ hne => hs.pos h.g h.c.len h.c.pos j (by omega) (by omega)) (by omega) (by omega)
      omega
  · rw [List.getD_eq_getElem?_getD, List.getElem?_eq_none (by omega)]
    simp
    omega
theorem script_in {s : List Int} (hs : Leg n es q d s) (hb : sumI s ≤ 1048576) (i : Nat) : 0 ≤ s.getD i 0 ∧ s.getD i 0 ≤ 1048576 := by
  have h1 := hs.nn i
  refine ⟨h1, ?_⟩
  by_cases hi : i < s.length
  · have := sumI_ge s i (fun j _ _ => hs.nn j) hi
    omega
  · rw [List.getD_eq_getElem?_getD, List.getElem?_eq_none (by omega)]; simp
/-- What is known of a stabilization of few chips. -/
structure Good (n : Nat) (es : List Ed) (q : Int) (d s : List Int) : Prop where
  leg : Leg n es q d s
  none : nxtF n es q (movedE es s d) = none
  sum : sumI s ≤ 1048576
theorem small_fall {B : Int} (h0 : stE n es q d = 0) (h : StOk n es q d) (hB : 0 ≤ B ∧ B ≤ 1000) (hd : ∀ i, -B ≤ d.getD i 0 ∧ d.getD i 0 ≤ B) :
    fallE n es q d = 12 ∨ (fallE n es q d = 0 ∧ fallS n es q d = (stabF n es q d).1 ∧ fallD n es q d = movedE es (stabF n es q d).1 d ∧ Good n es q d (stabF n es q d).1) := by
  obtain ⟨hl, hc⟩ := stabF_spec (d := d) h.v
  have e : fallE n es q d = settledE n es q d := by rw [fallE, if_neg (by simp [h0]), Int.toNat_natCast]
  rcases hc with ⟨h1, h2, h3⟩ | ⟨h1, h2⟩
  · right
    have hch := (chips_small h hB.1 hd hl q.toNat).2
    have e2 : settledE n es q d = 0 := by rw [settledE, if_neg (by simp [h1]), if_neg (by omega)]
    have e3 : fallE n es q d = 0 := by rw [e, e2]
    exact ⟨e3, by rw [fallS, if_pos e3, Int.toNat_natCast], by rw [fallD, if_pos e3, Int.toNat_natCast], hl, h2, h3⟩
  · left
    rw [e, settledE, if_pos (by rw [h1]; decide), h1]
theorem apply19 {n : Nat} {es : List Ed} {q : Int} {d : List Int} (h : StOk n es q d) (hel : es.length ≤ 900) (hdb : d.all inB = true) {s : List Int} (hsl : s.length = n) (hsb : s.all inB = true) (hm : (movedE es s d).all inB = true) :
    PC Try.prog 36 [G n es, .is d, .is s] (.tup [.p (.is (movedE es s d)), .i 0]) [] := by
  have hn := h.n12
  have hdl := h.c.len
  have e1 : giv2E n es d s = 0 := by rw [giv2E, if_neg (by simp [given19 h hdl hdb]), given19 h hsl hsb]
  refine PC_eq (apply_ok n es d s (by omega) (by omega) (by omega)) ?_
  rw [resT2, e1, Sand.resL, if_pos ⟨rfl, hm⟩, Sand.resE, if_neg (by simp), bndE, if_pos hm]
end
set_option maxRecDepth 10000 in
theorem ends19_law (N : Int) (es : List Ed) (q : Int) (d : List Int) : PC Try.prog 9 [G N es, .i q, .is d] (.b true) [] := by
  refine PC_of_W cfn9 ?_
  simp -implicitDefEqProofs (disch := omega) [c9, List.getElem?_cons_zero, List.getElem?_cons_succ, wrap_id]
  refine HC_of_PC rfl (small19_ok N es q d) ?_
  cases hf : small19 N es q d
  · simp -implicitDefEqProofs (disch := omega) [List.getElem?_cons_zero, List.getElem?_cons_succ, wrap_id]
    refine HC_of_PC rfl (awake19_ok) ?_
    simp -implicitDefEqProofs (disch := omega) [List.getElem?_cons_zero, List.getElem?_cons_succ, wrap_id]
    (refine fin0 trivial rfl ?_; simp -implicitDefEqProofs (disch := omega) [List.getElem?_cons_zero, List.getElem?_cons_succ, idx, wrap_id])
  obtain ⟨hf1, h0, h60⟩ := small19_at hf
  obtain ⟨he, hd⟩ := few19_len hf1
  obtain ⟨n, rfl, h⟩ := st_ok h0
  have hn := h.n12
  have hdl := h.c.len
  simp -implicitDefEqProofs (disch := omega) [List.getElem?_cons_zero, List.getElem?_cons_succ, wrap_id]
  refine HC_of_PC rfl (stabilize_ok n es q d he hd) ?_
  rcases small_fall (B := 60) h0 h (by omega) (in60_get h60) with h12 | ⟨e0, e1, e2, hg⟩
  · simp -implicitDefEqProofs (disch := omega) [List.getElem?_cons_zero, List.getElem?_cons_succ, wrap_id, h12]
    refine HC_of_PC rfl (awake19_ok) ?_
    simp -implicitDefEqProofs (disch := omega) [List.getElem?_cons_zero, List.getElem?_cons_succ, wrap_id]
    (refine fin0 trivial rfl ?_; simp -implicitDefEqProofs (disch := omega) [List.getElem?_cons_zero, List.getElem?_cons_succ, idx, wrap_id])
  obtain ⟨S, hS⟩ : ∃ S, S = (stabF n es q d).1 := ⟨_, rfl⟩
  rw [← hS] at e1 e2 hg
  have hSl := hg.leg.len
  have hSb : S.all inB = true := inB_all fun i _ => by have := script_in hg.leg hg.sum i; omega
  have hch := chips_small h (B := 60) (by omega) (in60_get h60) hg.leg
  have hcb : (movedE es S d).all inB = true := inB_all fun i _ => by have := hch i; omega
  have hcl : (movedE es S d).length = n := by rw [movedE_length, hdl]
  have hdb : d.all inB = true := inB_all fun i _ => by have := in60_get h60 i; omega
  have hst : stE n es q (movedE es S d) = 0 := st_mk h hcl hcb (hg.leg.pos h.g hdl h.c.pos)
  obtain ⟨p, rfl⟩ : ∃ p : Nat, q = p := ⟨q.toNat, by have := h.q0; omega⟩
  have hp : p < n := by have := h.qn; omega
  have hpS : p < S.length := by omega
  have hSp : S[p] = 0 := by rw [← getD_get hpS]; exact hg.leg.sink p rfl
  simp -implicitDefEqProofs (disch := omega) [List.getElem?_cons_zero, List.getElem?_cons_succ, wrap_id, e0, e1, e2]
  refine HC_of_PC rfl (apply19 h he hdb hSl hSb hcb) ?_
  simp -implicitDefEqProofs (disch := omega) [List.getElem?_cons_zero, List.getElem?_cons_succ, wrap_id]
  refine HC_of_PC rfl (stable_ok n es p (movedE es S d) he (by omega)) ?_
  simp -implicitDefEqProofs (disch := omega) [List.getElem?_cons_zero, List.getElem?_cons_succ, wrap_id, hst, hg.none]
  refine HC_of_PC rfl (same17_refl (movedE es S d) (by omega)) ?_
  simp -implicitDefEqProofs (disch := omega) [List.getElem?_cons_zero, List.getElem?_cons_succ, wrap_id, hSl, hpS, hSp]
  refine loopW n (fun k s => s = ⟨[(80, .i k), (79, .i n), (8, .p (.is S))], []⟩) (wk_norm [] [80, 79, 8] rfl rfl) rfl ?_
  rintro k s hk rfl
  by_cases hlt : k < n
  · have hkS : k < S.length := by omega
    have hnn := hg.leg.nn k
    rw [getD_get hkS] at hnn
    have hnn' : ¬ S[k] < 0 := by omega
    simp -implicitDefEqProofs (disch := omega) [List.getElem?_cons_zero, List.getElem?_cons_succ, wrap_id, hlt, hkS, hnn']
    exact round_end [] [80, 79, 8] hlt rfl rfl
  · simp -implicitDefEqProofs (disch := omega) [List.getElem?_cons_zero, List.getElem?_cons_succ, wrap_id, hlt]
    refine HC_of_PC rfl (awake19_ok) ?_
    simp -implicitDefEqProofs (disch := omega) [List.getElem?_cons_zero, List.getElem?_cons_succ, wrap_id]
    (refine fin0 trivial rfl ?_; simp -implicitDefEqProofs (disch := omega) [List.getElem?_cons_zero, List.getElem?_cons_succ, idx, wrap_id])
end Go.Proofs.Ythdbmoflbnggpaa
