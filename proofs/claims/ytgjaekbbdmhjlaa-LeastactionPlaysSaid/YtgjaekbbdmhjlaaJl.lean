/-
  Contracts: descending.
-/
import Derived.Test.YtgjaekbbdmhjlaaJk
set_option linter.unusedSimpArgs false
set_option linter.unusedVariables false
namespace Go.Proofs.Ytgjaekbbdmhjlaa
open Go.Abs Go.Sand

/-- What is descended to. -/
def desR (N : Int) (es : List Ed) (q : Int) (d s : List Int) : List Int × Nat × Int := if settledR N es q d s ≠ 0 then ([], 0, settledR N es q d s) else desF N.toNat es d 4098 s 0
theorem desF_succ {n : Nat} {es : List Ed} {d : List Int} (m : Nat) (s : List Int) (k : Nat) : desF n es d (m + 1) s k = if toN (grF n es (movedE es s d) s) = 0 then (s, k, 0) else if k = 4096 then ([], 0, 12) else desF n es d m (lessB n s (grF n es (movedE es s d) s)) (k + 1) := rfl
theorem toN_rep {B : List Bool} (h : B.length = 12) : B = [false, false, false, false, false, false, false, false, false, false, false, false] ↔ toN B = 0 := by
  rw [toN_zero]
  constructor
  · rintro rfl v
    by_cases hv : v < 12
    · have : v = 0 ∨ v = 1 ∨ v = 2 ∨ v = 3 ∨ v = 4 ∨ v = 5 ∨ v = 6 ∨ v = 7 ∨ v = 8 ∨ v = 9 ∨ v = 10 ∨ v = 11 := by omega
      rcases this with rfl | rfl | rfl | rfl | rfl | rfl | rfl | rfl | rfl | rfl | rfl | rfl <;> rfl
    · rw [List.getD_eq_getElem?_getD, List.getElem?_eq_none (by simp; omega)]; rfl
  · intro h2
    have : B = List.replicate 12 false := List.ext_getElem (by simp [h]) fun i h3 h4 => by
      have := h2 i
      rw [List.getD_eq_getElem?_getD, List.getElem?_eq_getElem h3] at this
      rw [List.getElem_replicate]; exact this
    rw [this]; rfl
theorem gr_less_bd {n : Nat} {es : List Ed} {q : Int} {d s : List Int} (hg : GoodG n es) (hd : d.length = n) (hst : Stl n es q d s) (hb : Bd 1048576 s) : Bd 1048576 (lessB n s (grF n es (movedE es s d) s)) :=
  less_bd (by have := hg.n12; omega) hst.st.len hb fun v _ h => (grF_fit hst.st.len).pos v h
section
variable (N : Int) (es : List Ed) (q : Int) (d s : List Int) (hel : es.length ≤ 900) (hd : d.length ≤ 1000) (hs : s.length ≤ 1000)
include hel hd hs
theorem rdescend_ok : PC Try.prog 24 [G N es, .i q, .is d, .is s] (.tup [.p (.is (desR N es q d s).1), .i (desR N es q d s).2.1, .i (desR N es q d s).2.2]) [] := by
  refine PC_of_W cfn24 ?_
  simp -implicitDefEqProofs (disch := omega) [c24, List.getElem?_cons_zero, List.getElem?_cons_succ, wrap_id]
  refine HC_of_PC rfl (rgiven22_ok N es q d s hel hd hs) ?_
  by_cases h0 : gvE N es q d s = 0
  rotate_left
  · have e : settledR N es q d s = gvE N es q d s := by rw [settledR, if_pos h0]
    have e2 : desR N es q d s = ([], 0, gvE N es q d s) := by rw [desR, e, if_pos h0]
    simp -implicitDefEqProofs (disch := omega) [List.getElem?_cons_zero, List.getElem?_cons_succ, wrap_id, h0]
    refine finW (Wk_nil0 8 rfl) ?_
    (refine fin0 trivial rfl ?_; simp -implicitDefEqProofs (disch := omega) [List.getElem?_cons_zero, List.getElem?_cons_succ, idx, wrap_id, e2])
  obtain ⟨n, rfl, h⟩ := gv_ok h0
  have hn := h.st.n12
  have hg := h.st.g
  have hdl := h.st.c.len
  simp -implicitDefEqProofs (disch := omega) [List.getElem?_cons_zero, List.getElem?_cons_succ, wrap_id, h0]
  refine HC_of_PC rfl (rsettles_ok n es q d s hel h.st h.len h.bd) ?_
  cases hb : stlB n es q (movedE es s d) s with
  | false =>
    have e : settledR n es q d s = 15 := by rw [settledR, if_neg (by simp [h0]), Int.toNat_natCast, if_neg (by simp [hb])]
    have e2 : desR n es q d s = ([], 0, 15) := by rw [desR, e, if_pos (by decide)]
    simp -implicitDefEqProofs (disch := omega) [List.getElem?_cons_zero, List.getElem?_cons_succ, wrap_id]
    refine finW (Wk_nil0 8 rfl) ?_
    (refine fin0 trivial rfl ?_; simp -implicitDefEqProofs (disch := omega) [List.getElem?_cons_zero, List.getElem?_cons_succ, idx, wrap_id, e2])
  | true =>
    have e : settledR n es q d s = 0 := by rw [settledR, if_neg (by simp [h0]), Int.toNat_natCast, if_pos hb]
    have e2 : desR n es q d s = desF n es d 4098 s 0 := by rw [desR, e, if_neg (by simp), Int.toNat_natCast]
    have hst := (stlB_iff h.len).1 hb
    simp -implicitDefEqProofs (disch := omega) [List.getElem?_cons_zero, List.getElem?_cons_succ, wrap_id]
    refine HC_of_PC rfl (rgreatest_ok n es q d s hel h.st h.len h.bd) ?_
    simp -implicitDefEqProofs (disch := omega) [List.getElem?_cons_zero, List.getElem?_cons_succ, wrap_id]
    refine loopW 4097 (fun k st => ∃ s' : List Int, (desF n es d (4098 - k) s' k = desF n es d 4098 s 0 ∧ Stl n es q d s' ∧ Bd 1048576 s' ∧ k ≤ 4096) ∧ st = ⟨[(13, .i (uniN n es q d s' (powN n) : Nat)), (12, .i k), (3, .p (.is s')), (4, .ptr 0 1 0 0), (1, .i q), (2, .p (.is d))], [.box (.p (G n es))]⟩) (wk_norm [0] [13, 12, 3, 4, 1, 2] rfl rfl) ⟨s, ⟨rfl, hst, h.bd, by omega⟩, rfl⟩ ?_
    rintro k st hk ⟨s', ⟨hD, hst', hb', hk4⟩, rfl⟩
    have hsl' := hst'.st.len
    have hu := uniN_gr hg hdl hst'
    have hul := uniN_lt n es q d s' (powN n) (Nat.le_refl _)
    have hpow : 2 ^ n ≤ 4096 := Nat.pow_le_pow_right (by omega) hn
    obtain ⟨u, hue⟩ : ∃ u, u = uniN n es q d s' (powN n) := ⟨_, rfl⟩
    rw [← hue] at hu hul ⊢
    obtain ⟨f, hf⟩ : ∃ f, 4098 - k = f + 1 := ⟨4097 - k, by omega⟩
    rw [hf] at hD
    rw [desF_succ f s' k] at hD
    by_cases h1 : u = 0
    · rw [if_pos (by rw [← hu]; exact h1)] at hD
      rw [← hD] at e2
      have hs6 : n ≤ 1048576 := by omega
      simp -implicitDefEqProofs (disch := omega) [List.getElem?_cons_zero, List.getElem?_cons_succ, wrap_id, h1, hsl', hs6]
      (refine fin0 trivial rfl ?_; simp -implicitDefEqProofs (disch := omega) [List.getElem?_cons_zero, List.getElem?_cons_succ, idx, wrap_id, e2, hsl'])
    · rw [if_neg (by rw [← hu]; exact h1)] at hD
      have h1' : ¬ (u : Int) = 0 := by omega
      by_cases h2 : k = 4096
      · rw [if_pos h2] at hD
        rw [← hD] at e2
        have h2' : ((k : Int) = 4096) = True := eq_true (by omega)
        simp -implicitDefEqProofs (disch := omega) [List.getElem?_cons_zero, List.getElem?_cons_succ, wrap_id, h1, h1', h2']
        refine finW (Wk_nil0 8 rfl) ?_
        (refine fin0 trivial rfl ?_; simp -implicitDefEqProofs (disch := omega) [List.getElem?_cons_zero, List.getElem?_cons_succ, idx, wrap_id, e2])
      · rw [if_neg h2] at hD
        have h2' : ((k : Int) = 4096) = False := eq_false (by omega)
        have hst2 := gr_stl hg hdl hst'
        have hb2 := gr_less_bd hg hdl hst' hb'
        have hle : lessB n s' (setN u) = lessB n s' (grF n es (movedE es s' d) s') := lessB_congr fun v hv => by
          rw [setN_get, hu, toN_bit, decide_eq_true (by omega), Bool.true_and]
        simp -implicitDefEqProofs (disch := omega) [List.getElem?_cons_zero, List.getElem?_cons_succ, wrap_id, h1, h1', h2']
        refine HC_of_PC rfl (without_ok n s' u hn hsl' hb' (by omega)) ?_
        rw [hle]
        obtain ⟨s2, hs2⟩ : ∃ s2, s2 = lessB n s' (grF n es (movedE es s' d) s') := ⟨_, rfl⟩
        rw [← hs2] at hst2 hb2 hD ⊢
        simp -implicitDefEqProofs (disch := omega) [List.getElem?_cons_zero, List.getElem?_cons_succ, wrap_id]
        refine HC_of_PC rfl (rgreatest_ok n es q d s2 hel h.st hst2.st.len hb2) ?_
        simp -implicitDefEqProofs (disch := omega) [List.getElem?_cons_zero, List.getElem?_cons_succ, wrap_id]
        exact round_end [0] [13, 12, 3, 4, 1, 2] (by omega) rfl ⟨s2, ⟨by rw [show 4098 - (k + 1) = f by omega]; exact hD, hst2, hb2, by omega⟩, rfl⟩
end
/-- The objects while one descends. -/
abbrev dsH (n : Nat) (es : List Ed) (q : Int) (d s : List Int) (k : Nat) (r2 r3 : Int) (lp : AO) (X : List AO) : List AO :=
  .box (.p (G n es)) :: .box (.p .nil) :: .box (.i r2) :: .box (.i r3) :: .box (.agg (bdO q (bcE es) 5 n)) :: rowI (movedE es s d) :: rowI s :: .box (.i k) :: .box (.ptr 4 1 0 0) :: .box (.os 6 0 n) :: lp :: X
theorem lessTo_12 {n : Nat} (hn : n ≤ 12) (s : List Int) (B : List Bool) : lessTo n s (toN B) 12 = lessB n s B := by
  refine ext_getD (by rw [lessTo_len, lessB_len]) fun i hi => ?_
  rw [lessTo_len] at hi
  rw [lessTo_get hi, lessB_get hi, toN_bit]
  have : i < 12 := by omega
  simp only [this, true_and]
theorem lessTo_more {n : Nat} {s : List Int} {m k : Nat} (hk : k < n) (h : m.testBit k = true) : moreS (lessTo n s m k) k (-1) = lessTo n s m (k + 1) := by
  rw [← lessTo_yes hk h, moreS]; rfl
section
variable {n : Nat} {es : List Ed} (hg : GoodG n es) {q : Int} {d : List Int} (hd : d.length = n) (hdb : Bd 1048600 d)
include hg hd hdb
set_option maxRecDepth 20000 in
theorem take_range (s : List Int) (B : List Bool) (hB : B.length = 12) (hBn : ∀ v, B.getD v false = true → v < n) (hsl : s.length = n) (hsb : Bd 1048576 s) (hpos : ∀ v, B.getD v false = true → 1 ≤ s.getD v 0) (k : Nat) (lp b1 b2 : AO) (t : List (Nat × AV)) (ht1 : Abs.get t 1 = .ptr 8 1 0 0) (ht2 : Abs.get t 2 = .ptr 9 1 0 0) {K : AV → List AO → Prop}
    (hb2 : b2 = .box (.p (.agg (B.map PV.b))))
    (hK : ∀ r, K r (dsH n es q d (lessB n s B) k 0 0 lp [b1, b2, .lp 32 t [21] rc76_0a rc76_0c .ready])) :
    HC Try.prog false 74 [.yl 13, .ptr 12 1 0 0] (dsH n es q d s k 0 0 lp [b1, b2, .lp 32 t [21] rc76_0a rc76_0c .ready]) K := by
  have hn := hg.n12
  subst hb2
  refine HC_of_W (af := _) ((by exact cfn74 : cfn _ _ _ = some _)) ?_
  simp -implicitDefEqProofs (disch := omega) [c74, List.getElem?_cons_zero, List.getElem?_cons_succ, wrap_id, hB]
  refine loopW 12 (fun j st => st = ⟨[(6, .i j), (5, .p (.agg (B.map PV.b))), (0, .yl 13)], dsH n es q d (lessTo n s (toN B) j) k 0 0 lp [b1, .box (.p (.agg (B.map PV.b))), .lp 32 t [21] rc76_0a rc76_0c .ready]⟩)
    (Wk_keep [6, 5, 0]) (by rw [← lessTo_0 hsl]; rfl) ?_
  rintro j st hj rfl
  by_cases hlt : j < 12
  · have hjB : j < B.length := by omega
    have hg1 : B.getD j false = B[j] := by simp [hjB]
    have hlt2 : (j : Int) < 12 := by omega
    cases hw : B[j] with
    | true =>
      rw [hw] at hg1
      have hjn := hBn j hg1
      have hbit : (toN B).testBit j = true := by rw [toN_bit]; exact hg1
      have hs1 := lessTo_more (s := s) hjn hbit
      have hs2 := congrArg (List.map PV.i) (lessTo_yes (s := s) hjn hbit)
      have hLl := lessTo_len n s (toN B) j
      have hjL : j < (lessTo n s (toN B) j).length := by omega
      rw [List.map_set, getD_get hjL] at hs2
      have hsj := hsb j
      have hgj := lessTo_get (s := s) (m := toN B) (k := j) hjn
      rw [if_neg (by omega), getD_get hjL] at hgj
      have hLb : Bd 1048600 (lessTo n s (toN B) j) := fun i => by
        by_cases hi : i < n
        · rw [lessTo_get hi]
          have := hsb i
          split <;> omega
        · rw [List.getD_eq_getElem?_getD, List.getElem?_eq_none (by rw [lessTo_len]; omega)]; simp
      have hmv := fired_moved hg hd hLl hjn (-1)
      rw [hs1] at hmv
      obtain ⟨L, hL⟩ : ∃ L, L = lessTo n s (toN B) j := ⟨_, rfl⟩
      obtain ⟨L2, hL2⟩ : ∃ L2, L2 = lessTo n s (toN B) (j + 1) := ⟨_, rfl⟩
      simp only [← hL] at hs2 hLl hjL hgj hLb hmv ⊢
      rw [← hL2] at hs2 hmv
      simp -implicitDefEqProofs (disch := omega) [List.getElem?_cons_zero, List.getElem?_cons_succ, wrap_id, hlt, hlt2, hjB, hw]
      refine HY_of_W rfl rcc76_0a rcc76_0c rfl rfl rfl rfl ?_
      simp -implicitDefEqProofs (disch := omega) [List.getElem?_cons_zero, List.getElem?_cons_succ, wrap_id, ra76_0a, ra76_0c, ht1, ht2, hLl, hjL, hjn, hs2]
      refine bfire_ok hg (o := 4) (p := 5) rfl rfl (by omega) j (-1) hjn (by omega) (by rw [movedE_length, hd]) ((any_bd hg hd hdb hLb).more (by omega)) ?_
      rw [hmv]
      simp -implicitDefEqProofs (disch := omega) [List.getElem?_cons_zero, List.getElem?_cons_succ, wrap_id]
      exact round_keep [6, 5, 0] hlt (by rw [hL2]; rfl)
    | false =>
      rw [hw] at hg1
      have hbit : (toN B).testBit j = false := by rw [toN_bit]; exact hg1
      have hs1 : lessTo n s (toN B) (j + 1) = lessTo n s (toN B) j := by
        refine ext_getD (by rw [lessTo_len, lessTo_len]) fun i hi => ?_
        rw [lessTo_len] at hi
        rw [lessTo_get hi, lessTo_get hi]
        by_cases e : j = i
        · subst e; simp [hbit]
        · have h2 : (i < j + 1) = (i < j) := by simp only [eq_iff_iff]; omega
          simp only [h2]
      simp -implicitDefEqProofs (disch := omega) [List.getElem?_cons_zero, List.getElem?_cons_succ, wrap_id, hlt, hlt2, hjB, hw]
      exact round_keep [6, 5, 0] hlt (by rw [hs1]; rfl)
  · have hj : j = 12 := by omega
    subst hj
    rw [lessTo_12 (by omega)]
    simp -implicitDefEqProofs (disch := omega) [List.getElem?_cons_zero, List.getElem?_cons_succ, wrap_id]
    exact finH trivial rfl (hK _)
end
end Go.Proofs.Ytgjaekbbdmhjlaa
