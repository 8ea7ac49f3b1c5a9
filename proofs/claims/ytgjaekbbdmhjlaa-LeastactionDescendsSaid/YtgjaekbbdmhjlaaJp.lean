/-
  The laws Meets, Proves, Descends, Plays.
-/
import Derived.Test.YtgjaekbbdmhjlaaJo
import Derived.Test.YtgjaekbbdmhjlaaTta
set_option linter.unusedSimpArgs false
set_option linter.unusedVariables false
namespace Go.Proofs.Ytgjaekbbdmhjlaa
open Go.Abs Go.Sand

theorem dcheck_long (xs : List Int) (n : Nat) (h1 : 1 ≤ n) (h2 : n ≤ 12) (hl : ¬ (xs.length : Int) = n) : PC Try.prog 57 [.is xs, .i n] (.i 8) [] := by
  have h1' : ¬ (n : Int) < 1 := by omega
  have h2' : ¬ (12 : Int) < n := by omega
  refine PC_of_W cfn57 ?_
  simp -implicitDefEqProofs (disch := omega) [c57, List.getElem?_cons_zero, List.getElem?_cons_succ, wrap_id, hl, h1', h2']
  (refine fin0 trivial rfl ?_; simp -implicitDefEqProofs (disch := omega) [List.getElem?_cons_zero, List.getElem?_cons_succ, idx, wrap_id])
theorem rscheck_long (n : Nat) (es : List Ed) (s : List Int) (hgc : gcheck n es = 0) (h1 : 1 ≤ n) (hn : n ≤ 12) (he : es.length ≤ 900) (hs : ¬ s.length ≤ 1000) : PC Try.prog 31 [G n es, .is s] (.i 8) [] := by
  refine PC_of_W cfn31 ?_
  simp -implicitDefEqProofs (disch := omega) [c31, List.getElem?_cons_zero, List.getElem?_cons_succ, wrap_id]
  refine HC_of_PC rfl (rcheck_ok n es (by omega)) ?_
  simp -implicitDefEqProofs (disch := omega) [List.getElem?_cons_zero, List.getElem?_cons_succ, wrap_id, hgc]
  refine HC_of_PC rfl (dcheck_long s n h1 hn (by omega)) ?_
  simp -implicitDefEqProofs (disch := omega) [List.getElem?_cons_zero, List.getElem?_cons_succ, wrap_id]
  (refine fin0 trivial rfl ?_; simp -implicitDefEqProofs (disch := omega) [List.getElem?_cons_zero, List.getElem?_cons_succ, idx, wrap_id])
theorem given_in {n : Nat} {es : List Ed} {s : List Int} (h : givenE n es s = 0) : s.length = n ∧ s.all inB = true := by
  obtain ⟨n', e', hg, hl, hb, -, -⟩ := given_ok h
  have e : n' = n := by omega
  subst e
  exact ⟨by omega, inB_all fun i _ => hb i⟩
theorem meets_law (N : Int) (es : List Ed) (q q2 : Int) (d s t : List Int) : PC Try.prog 7 [G N es, .is d, .agg [.i q, .is s, .i q2, .is t]] (.b true) [] := by
  refine PC_of_W cfn7 ?_
  simp -implicitDefEqProofs (disch := omega) [c7, List.getElem?_cons_zero, List.getElem?_cons_succ, wrap_id]
  refine HC_of_PC rfl (small19_ok N es q d) ?_
  cases hf : small19 N es q d
  · simp -implicitDefEqProofs (disch := omega) [List.getElem?_cons_zero, List.getElem?_cons_succ, wrap_id]
    refine HC_of_PC rfl (awake22_ok) ?_
    simp -implicitDefEqProofs (disch := omega) [List.getElem?_cons_zero, List.getElem?_cons_succ, wrap_id]
    (refine fin0 trivial rfl ?_; simp -implicitDefEqProofs (disch := omega) [List.getElem?_cons_zero, List.getElem?_cons_succ, idx, wrap_id])
  obtain ⟨hf1, h0, h60⟩ := small19_at hf
  obtain ⟨he, hd⟩ := few22_len hf1
  obtain ⟨n, rfl, h⟩ := st_ok h0
  have hn := h.n12
  simp -implicitDefEqProofs (disch := omega) [List.getElem?_cons_zero, List.getElem?_cons_succ, wrap_id]
  by_cases hsL : s.length ≤ 1000
  rotate_left
  · refine HC_of_PC rfl (rscheck_long n es s h.gc h.n1 hn he hsL) ?_
    simp -implicitDefEqProofs (disch := omega) [List.getElem?_cons_zero, List.getElem?_cons_succ, wrap_id]
    refine HC_of_PC rfl (awake22_ok) ?_
    simp -implicitDefEqProofs (disch := omega) [List.getElem?_cons_zero, List.getElem?_cons_succ, wrap_id]
    (refine fin0 trivial rfl ?_; simp -implicitDefEqProofs (disch := omega) [List.getElem?_cons_zero, List.getElem?_cons_succ, idx, wrap_id])
  refine HC_of_PC rfl (rscheck_ok n es s (by omega) (by omega)) ?_
  by_cases h1 : givenE n es s = 0
  rotate_left
  · simp -implicitDefEqProofs (disch := omega) [List.getElem?_cons_zero, List.getElem?_cons_succ, wrap_id, h1]
    refine HC_of_PC rfl (awake22_ok) ?_
    simp -implicitDefEqProofs (disch := omega) [List.getElem?_cons_zero, List.getElem?_cons_succ, wrap_id]
    (refine fin0 trivial rfl ?_; simp -implicitDefEqProofs (disch := omega) [List.getElem?_cons_zero, List.getElem?_cons_succ, idx, wrap_id])
  simp -implicitDefEqProofs (disch := omega) [List.getElem?_cons_zero, List.getElem?_cons_succ, wrap_id, h1]
  by_cases htL : t.length ≤ 1000
  rotate_left
  · refine HC_of_PC rfl (rscheck_long n es t h.gc h.n1 hn he htL) ?_
    simp -implicitDefEqProofs (disch := omega) [List.getElem?_cons_zero, List.getElem?_cons_succ, wrap_id]
    refine HC_of_PC rfl (awake22_ok) ?_
    simp -implicitDefEqProofs (disch := omega) [List.getElem?_cons_zero, List.getElem?_cons_succ, wrap_id]
    (refine fin0 trivial rfl ?_; simp -implicitDefEqProofs (disch := omega) [List.getElem?_cons_zero, List.getElem?_cons_succ, idx, wrap_id])
  refine HC_of_PC rfl (rscheck_ok n es t (by omega) (by omega)) ?_
  by_cases h2 : givenE n es t = 0
  rotate_left
  · simp -implicitDefEqProofs (disch := omega) [List.getElem?_cons_zero, List.getElem?_cons_succ, wrap_id, h2]
    refine HC_of_PC rfl (awake22_ok) ?_
    simp -implicitDefEqProofs (disch := omega) [List.getElem?_cons_zero, List.getElem?_cons_succ, wrap_id]
    (refine fin0 trivial rfl ?_; simp -implicitDefEqProofs (disch := omega) [List.getElem?_cons_zero, List.getElem?_cons_succ, idx, wrap_id])
  simp -implicitDefEqProofs (disch := omega) [List.getElem?_cons_zero, List.getElem?_cons_succ, wrap_id, h2]
  obtain ⟨hsl, hsb⟩ := given_in h1
  obtain ⟨htl, htb⟩ := given_in h2
  have e0 : mtE n es s t = 0 := by rw [mtE, if_neg (by simp [h1]), h2]
  have e1 : mtL n es s t = minTo n s t n := by rw [mtL, if_pos e0, Int.toNat_natCast]
  obtain ⟨m, hm⟩ : ∃ m, m = minTo n s t n := ⟨_, rfl⟩
  have hml : m.length = n := by rw [hm, minTo_len]
  have hmg : ∀ i, i < n → m.getD i 0 = min (s.getD i 0) (t.getD i 0) := fun i hi => by rw [hm, minTo_get hi, if_pos hi]
  obtain ⟨-, -, -, -, hsB, -, -⟩ := given_ok h1
  obtain ⟨-, -, -, -, htB, -, -⟩ := given_ok h2
  have hmb : m.all inB = true := inB_all fun i hi => by
    rw [hml] at hi
    rw [hmg i hi]
    have := hsB i
    have := htB i
    omega
  have g1 : gvE n es q d s = 0 := gv_mk h0 h hsl hsb
  have g2 : gvE n es q d t = 0 := gv_mk h0 h htl htb
  have g3 : gvE n es q d m = 0 := gv_mk h0 h hml hmb
  have s1 : stlR n es q d s = stlB n es q (movedE es s d) s := by rw [stlR, g1, Int.toNat_natCast]; rfl
  have s2 : stlR n es q d t = stlB n es q (movedE es t d) t := by rw [stlR, g2, Int.toNat_natCast]; rfl
  have s3 : stlR n es q d m = stlB n es q (movedE es m d) m := by rw [stlR, g3, Int.toNat_natCast]; rfl
  rw [← hm] at e1
  refine HC_of_PC rfl (meet_ok n es s t he (by omega) (by omega)) ?_
  simp -implicitDefEqProofs (disch := omega) [List.getElem?_cons_zero, List.getElem?_cons_succ, wrap_id, e0, e1]
  refine HC_of_PC rfl (stabilizing_ok n es q d s he hd (by omega)) ?_
  simp -implicitDefEqProofs (disch := omega) [List.getElem?_cons_zero, List.getElem?_cons_succ, wrap_id, g1, s1]
  refine HC_of_PC rfl (stabilizing_ok n es q d t he hd (by omega)) ?_
  simp -implicitDefEqProofs (disch := omega) [List.getElem?_cons_zero, List.getElem?_cons_succ, wrap_id, g2, s2]
  refine HC_of_PC rfl (stabilizing_ok n es q d m he hd (by omega)) ?_
  cases b1 : stlB n es q (movedE es s d) s with
  | false =>
    simp -implicitDefEqProofs (disch := omega) [List.getElem?_cons_zero, List.getElem?_cons_succ, wrap_id, g3, s3]
    refine HC_of_PC rfl (awake22_ok) ?_
    simp -implicitDefEqProofs (disch := omega) [List.getElem?_cons_zero, List.getElem?_cons_succ, wrap_id]
    (refine fin0 trivial rfl ?_; simp -implicitDefEqProofs (disch := omega) [List.getElem?_cons_zero, List.getElem?_cons_succ, idx, wrap_id])
  | true =>
    cases b2 : stlB n es q (movedE es t d) t with
    | false =>
      simp -implicitDefEqProofs (disch := omega) [List.getElem?_cons_zero, List.getElem?_cons_succ, wrap_id, g3, s3]
      refine HC_of_PC rfl (awake22_ok) ?_
      simp -implicitDefEqProofs (disch := omega) [List.getElem?_cons_zero, List.getElem?_cons_succ, wrap_id]
      (refine fin0 trivial rfl ?_; simp -implicitDefEqProofs (disch := omega) [List.getElem?_cons_zero, List.getElem?_cons_succ, idx, wrap_id])
    | true =>
      have b3 : stlB n es q (movedE es m d) m = true := (stlB_iff hml).2 (meet_stl h.g h.c.len ((stlB_iff hsl).1 b1) ((stlB_iff htl).1 b2) hml hmg)
      simp -implicitDefEqProofs (disch := omega) [List.getElem?_cons_zero, List.getElem?_cons_succ, wrap_id, g3, s3, b3]
      refine HC_of_PC rfl (awake22_ok) ?_
      simp -implicitDefEqProofs (disch := omega) [List.getElem?_cons_zero, List.getElem?_cons_succ, wrap_id]
      (refine fin0 trivial rfl ?_; simp -implicitDefEqProofs (disch := omega) [List.getElem?_cons_zero, List.getElem?_cons_succ, idx, wrap_id])
set_option maxRecDepth 10000 in
theorem proves_law (N : Int) (es : List Ed) (q : Int) (d x : List Int) : PC Try.prog 8 [G N es, .is d, .agg [.i q, .is x]] (.b true) [] := by
  refine PC_of_W cfn8 ?_
  simp -implicitDefEqProofs (disch := omega) [c8, List.getElem?_cons_zero, List.getElem?_cons_succ, wrap_id]
  refine HC_of_PC rfl (small19_ok N es q d) ?_
  cases hf : small19 N es q d
  · simp -implicitDefEqProofs (disch := omega) [List.getElem?_cons_zero, List.getElem?_cons_succ, wrap_id]
    refine HC_of_PC rfl (awake22_ok) ?_
    simp -implicitDefEqProofs (disch := omega) [List.getElem?_cons_zero, List.getElem?_cons_succ, wrap_id]
    (refine fin0 trivial rfl ?_; simp -implicitDefEqProofs (disch := omega) [List.getElem?_cons_zero, List.getElem?_cons_succ, idx, wrap_id])
  obtain ⟨hf1, h0, h60⟩ := small19_at hf
  obtain ⟨he, hd⟩ := few22_len hf1
  obtain ⟨n, rfl, h⟩ := st_ok h0
  have hn := h.n12
  simp -implicitDefEqProofs (disch := omega) [List.getElem?_cons_zero, List.getElem?_cons_succ, wrap_id]
  by_cases hxL : x.length ≤ 1000
  rotate_left
  · refine HC_of_PC rfl (rscheck_long n es x h.gc h.n1 hn he hxL) ?_
    simp -implicitDefEqProofs (disch := omega) [List.getElem?_cons_zero, List.getElem?_cons_succ, wrap_id]
    refine HC_of_PC rfl (awake22_ok) ?_
    simp -implicitDefEqProofs (disch := omega) [List.getElem?_cons_zero, List.getElem?_cons_succ, wrap_id]
    (refine fin0 trivial rfl ?_; simp -implicitDefEqProofs (disch := omega) [List.getElem?_cons_zero, List.getElem?_cons_succ, idx, wrap_id])
  refine HC_of_PC rfl (rscheck_ok n es x (by omega) (by omega)) ?_
  by_cases h1 : givenE n es x = 0
  rotate_left
  · simp -implicitDefEqProofs (disch := omega) [List.getElem?_cons_zero, List.getElem?_cons_succ, wrap_id, h1]
    refine HC_of_PC rfl (awake22_ok) ?_
    simp -implicitDefEqProofs (disch := omega) [List.getElem?_cons_zero, List.getElem?_cons_succ, wrap_id]
    (refine fin0 trivial rfl ?_; simp -implicitDefEqProofs (disch := omega) [List.getElem?_cons_zero, List.getElem?_cons_succ, idx, wrap_id])
  obtain ⟨hxl, hxb⟩ := given_in h1
  obtain ⟨e0, e1, e2, o⟩ := small_odo h0 h (in60_get h60)
  obtain ⟨S, hS⟩ : ∃ S, S = (stabF n es q d).1 := ⟨_, rfl⟩
  rw [← hS] at e1 e2 o
  have hSl := o.stl.st.len
  have hSb : S.all inB = true := inB_all fun i _ => by have := o.bd i; omega
  have gS : gvE n es q d S = 0 := gv_mk h0 h hSl hSb
  have gx : gvE n es q d x = 0 := gv_mk h0 h hxl hxb
  have vS : vrE n es q d S = 0 := (ver_iff h o gS).2 rfl
  simp -implicitDefEqProofs (disch := omega) [List.getElem?_cons_zero, List.getElem?_cons_succ, wrap_id, h1]
  refine HC_of_PC rfl (stabilize_ok n es q d he hd) ?_
  simp -implicitDefEqProofs (disch := omega) [List.getElem?_cons_zero, List.getElem?_cons_succ, wrap_id, e0, e1, e2]
  refine HC_of_PC rfl (verify_ok n es q d S he hd (by omega)) ?_
  simp -implicitDefEqProofs (disch := omega) [List.getElem?_cons_zero, List.getElem?_cons_succ, wrap_id, vS]
  refine HC_of_PC rfl (verify_ok n es q d x he hd (by omega)) ?_
  by_cases hv : x = S
  · subst hv
    simp -implicitDefEqProofs (disch := omega) [List.getElem?_cons_zero, List.getElem?_cons_succ, wrap_id, vS]
    refine HC_of_PC rfl (same22_ok x x (by omega)) ?_
    simp -implicitDefEqProofs (disch := omega) [List.getElem?_cons_zero, List.getElem?_cons_succ, wrap_id]
    refine HC_of_PC rfl (awake22_ok) ?_
    simp -implicitDefEqProofs (disch := omega) [List.getElem?_cons_zero, List.getElem?_cons_succ, wrap_id]
    (refine fin0 trivial rfl ?_; simp -implicitDefEqProofs (disch := omega) [List.getElem?_cons_zero, List.getElem?_cons_succ, idx, wrap_id])
  · have hv2 : ¬ vrE n es q d x = 0 := fun e => hv ((ver_iff h o gx).1 e)
    simp -implicitDefEqProofs (disch := omega) [List.getElem?_cons_zero, List.getElem?_cons_succ, wrap_id, hv2]
    refine HC_of_PC rfl (same22_ok x S (by omega)) ?_
    simp -implicitDefEqProofs (disch := omega) [List.getElem?_cons_zero, List.getElem?_cons_succ, wrap_id, hv]
    refine HC_of_PC rfl (awake22_ok) ?_
    simp -implicitDefEqProofs (disch := omega) [List.getElem?_cons_zero, List.getElem?_cons_succ, wrap_id]
    (refine fin0 trivial rfl ?_; simp -implicitDefEqProofs (disch := omega) [List.getElem?_cons_zero, List.getElem?_cons_succ, idx, wrap_id])
end Go.Proofs.Ytgjaekbbdmhjlaa
