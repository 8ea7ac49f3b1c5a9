/-
  Contracts: the reference's scripts that stabilize, and its greatest sets.
-/
import Derived.Test.YtgjaekbbdmhjlaaJe
set_option linter.unusedSimpArgs false
set_option linter.unusedVariables false
namespace Go.Proofs.Ytgjaekbbdmhjlaa
open Go.Abs Go.Sand

section
variable (N : Int) (es : List Ed) (q : Int) (d s : List Int) (hel : es.length ≤ 900) (hd : d.length ≤ 1000) (hs : s.length ≤ 1000)
include hel hd hs
theorem rgiven22_ok : PC Try.prog 16 [G N es, .i q, .is d, .is s] (.i (gvE N es q d s)) [] := by
  refine PC_of_W cfn16 ?_
  simp -implicitDefEqProofs (disch := omega) [c16, List.getElem?_cons_zero, List.getElem?_cons_succ, wrap_id]
  refine HC_of_PC rfl (r19check_ok N es q d hel hd) ?_
  by_cases h0 : stE N es q d = 0
  · simp -implicitDefEqProofs (disch := omega) [List.getElem?_cons_zero, List.getElem?_cons_succ, wrap_id, h0]
    refine HC_of_PC rfl (rscheck_ok N es s (by omega) (by omega)) ?_
    simp -implicitDefEqProofs (disch := omega) [List.getElem?_cons_zero, List.getElem?_cons_succ, wrap_id]
    (refine fin0 trivial rfl ?_; simp -implicitDefEqProofs (disch := omega) [List.getElem?_cons_zero, List.getElem?_cons_succ, idx, wrap_id, gvE, h0])
  · simp -implicitDefEqProofs (disch := omega) [List.getElem?_cons_zero, List.getElem?_cons_succ, wrap_id, h0]
    (refine fin0 trivial rfl ?_; simp -implicitDefEqProofs (disch := omega) [List.getElem?_cons_zero, List.getElem?_cons_succ, idx, wrap_id, gvE, h0])
end
section
variable (n : Nat) (es : List Ed) (q : Int) (d s : List Int) (hel : es.length ≤ 900) (h : StOk n es q d) (hsl : s.length = n) (hsb : Bd 1048576 s)
include hel h hsl hsb
set_option maxRecDepth 10000 in
theorem rsettles_ok : PC Try.prog 34 [G n es, .i q, .is d, .is s] (.b (stlB n es q (movedE es s d) s)) [] := by
  have hn := h.n12
  have hdl := h.c.len
  obtain ⟨p, rfl⟩ : ∃ p : Nat, q = p := ⟨q.toNat, by have := h.q0; omega⟩
  have hp : p < n := by have := h.qn; omega
  have hps : p < s.length := by omega
  have hgp := getD_get hps
  refine PC_of_W cfn34 ?_
  by_cases h0 : s[p] = 0
  rotate_left
  · have hr := stlB_no (es := es) (q := (p : Int)) (c := movedE es s d) (s := s) hp (by rw [hgp, decide_eq_false (p := s[p] = 0) h0, decide_eq_false (p := (p : Int) ≠ p) (by simp)]; simp)
    simp -implicitDefEqProofs (disch := omega) [c34, List.getElem?_cons_zero, List.getElem?_cons_succ, wrap_id, hps, h0]
    (refine fin0 trivial rfl ?_; simp -implicitDefEqProofs (disch := omega) [List.getElem?_cons_zero, List.getElem?_cons_succ, idx, wrap_id, hr])
  simp -implicitDefEqProofs (disch := omega) [c34, List.getElem?_cons_zero, List.getElem?_cons_succ, wrap_id, hps, h0]
  refine HC_of_PC rfl (rmoved_ok n es s d h.g hsl hdl (by omega) hsb (h.c.bd.more (by omega))) ?_
  obtain ⟨c, hc⟩ : ∃ c, c = movedE es s d := ⟨_, rfl⟩
  have hcl : c.length = n := by rw [hc, movedE_length, hdl]
  rw [← hc]
  simp -implicitDefEqProofs (disch := omega) [List.getElem?_cons_zero, List.getElem?_cons_succ, wrap_id]
  refine HC_of_PC rfl (valences_ok n es hel h.g) ?_
  simp -implicitDefEqProofs (disch := omega) [List.getElem?_cons_zero, List.getElem?_cons_succ, wrap_id]
  refine loopW n (fun k st => st = ⟨[(11, .i k), (4, .ptr 0 1 0 0), (3, .p (.is s)), (1, .i p), (9, .p (.is c)), (10, .p (.is (valsL n es)))], [.box (.p (G n es))]⟩ ∧ StK n es p c s k) (wk_norm [0] [11, 4, 3, 1, 9, 10] rfl rfl) ⟨rfl, fun u hu => by omega⟩ ?_
  rintro k st hk ⟨rfl, hI⟩
  by_cases hlt : k < n
  · have hks : k < s.length := by omega
    have hkc : k < c.length := by omega
    have hgk := getD_get hks
    have hgc := getD_get hkc
    have hV : ((valsL n es).map PV.i)[k]? = some (.i (valTo es k n)) := by simp [valsL, hlt]
    by_cases h1 : s[k] < 0
    · have hr := stlB_no (es := es) (q := (p : Int)) (c := c) (s := s) hlt (by rw [hgk, decide_eq_false (by omega)]; rfl)
      simp -implicitDefEqProofs (disch := omega) [List.getElem?_cons_zero, List.getElem?_cons_succ, wrap_id, hlt, hks, h1]
      (refine fin0 trivial rfl ?_; simp -implicitDefEqProofs (disch := omega) [List.getElem?_cons_zero, List.getElem?_cons_succ, idx, wrap_id, hr])
    by_cases h2 : (k : Int) = p
    · have hkp : k = p := by omega
      have hsk : s[k] = 0 := by subst hkp; exact h0
      have hu : unstB n es p c k = false := by simp [unstB, h2]
      have hI' := hI.succ (by rw [hgk, hu, hsk]; simp)
      have h2' : ((k : Int) = p) = True := eq_true h2
      simp -implicitDefEqProofs (disch := omega) [List.getElem?_cons_zero, List.getElem?_cons_succ, wrap_id, hlt, hks, h1, h2']
      exact round_end [0] [11, 4, 3, 1, 9, 10] hlt rfl ⟨rfl, hI'⟩
    · by_cases h3 : valTo es k n ≤ c[k]
      · have hu : unstB n es p c k = true := by simp only [unstB, decide_eq_true_eq]; exact ⟨h2, by rw [hgc]; exact h3⟩
        have hr := stlB_no (es := es) (q := (p : Int)) (c := c) (s := s) hlt (by rw [hu]; simp)
        simp -implicitDefEqProofs (disch := omega) [List.getElem?_cons_zero, List.getElem?_cons_succ, wrap_id, hlt, hks, h1, h2, hkc, hV, h3]
        (refine fin0 trivial rfl ?_; simp -implicitDefEqProofs (disch := omega) [List.getElem?_cons_zero, List.getElem?_cons_succ, idx, wrap_id, hr])
      · have hu : unstB n es p c k = false := by simp only [unstB, decide_eq_false_iff_not]; rintro ⟨-, h⟩; exact h3 (by rw [← hgc]; exact h)
        have hI' := hI.succ (by rw [hgk, hu, decide_eq_true (p := (k : Int) ≠ p) h2, decide_eq_true (p := 0 ≤ s[k]) (by omega)]; rfl)
        simp -implicitDefEqProofs (disch := omega) [List.getElem?_cons_zero, List.getElem?_cons_succ, wrap_id, hlt, hks, h1, h2, hkc, hV, h3]
        exact round_end [0] [11, 4, 3, 1, 9, 10] hlt rfl ⟨rfl, hI'⟩
  · have hkn : k = n := by omega
    subst hkn
    have hr := stlB_yes hI
    simp -implicitDefEqProofs (disch := omega) [List.getElem?_cons_zero, List.getElem?_cons_succ, wrap_id, hlt]
    (refine fin0 trivial rfl ?_; simp -implicitDefEqProofs (disch := omega) [List.getElem?_cons_zero, List.getElem?_cons_succ, idx, wrap_id, hr])
end
section
variable (N : Int) (es : List Ed) (q : Int) (d s : List Int) (hel : es.length ≤ 900) (hd : d.length ≤ 1000) (hs : s.length ≤ 1000)
include hel hd hs
theorem rstabilizing_ok : PC Try.prog 15 [G N es, .i q, .is d, .is s] (.tup [.b (stlR N es q d s), .i (gvE N es q d s)]) [] := by
  refine PC_of_W cfn15 ?_
  simp -implicitDefEqProofs (disch := omega) [c15, List.getElem?_cons_zero, List.getElem?_cons_succ, wrap_id]
  refine HC_of_PC rfl (rgiven22_ok N es q d s hel hd hs) ?_
  by_cases h0 : gvE N es q d s = 0
  · obtain ⟨n, rfl, h⟩ := gv_ok h0
    simp -implicitDefEqProofs (disch := omega) [List.getElem?_cons_zero, List.getElem?_cons_succ, wrap_id, h0]
    refine HC_of_PC rfl (rsettles_ok n es q d s hel h.st h.len h.bd) ?_
    simp -implicitDefEqProofs (disch := omega) [List.getElem?_cons_zero, List.getElem?_cons_succ, wrap_id]
    (refine fin0 trivial rfl ?_; simp -implicitDefEqProofs (disch := omega) [List.getElem?_cons_zero, List.getElem?_cons_succ, idx, wrap_id, stlR, h0])
  · simp -implicitDefEqProofs (disch := omega) [List.getElem?_cons_zero, List.getElem?_cons_succ, wrap_id, h0]
    (refine fin0 trivial rfl ?_; simp -implicitDefEqProofs (disch := omega) [List.getElem?_cons_zero, List.getElem?_cons_succ, idx, wrap_id, stlR, h0])
end
/-- Without the first k vertices of a set. -/
def lessTo (n : Nat) (s : List Int) (m k : Nat) : List Int := (List.range n).map fun v => s.getD v 0 - if v < k ∧ m.testBit v = true then 1 else 0
theorem lessTo_len (n : Nat) (s : List Int) (m k : Nat) : (lessTo n s m k).length = n := by simp [lessTo]
theorem lessTo_get {n : Nat} {s : List Int} {m k v : Nat} (hv : v < n) : (lessTo n s m k).getD v 0 = s.getD v 0 - if v < k ∧ m.testBit v = true then 1 else 0 := by rw [lessTo, rg_get, if_pos hv]
theorem lessTo_0 {n : Nat} {s : List Int} (hs : s.length = n) (m : Nat) : s = lessTo n s m 0 := by
  refine ext_getD (by rw [lessTo_len, hs]) fun i hi => ?_
  rw [hs] at hi
  rw [lessTo_get hi, if_neg (by omega)]; omega
theorem lessTo_n {n : Nat} (hn : n ≤ 12) (s : List Int) (m : Nat) : lessTo n s m n = lessB n s (setN m) := by
  refine ext_getD (by rw [lessTo_len, lessB_len]) fun i hi => ?_
  rw [lessTo_len] at hi
  rw [lessTo_get hi, lessB_get hi, setN_get]
  have : i < 12 := by omega
  simp [hi, this]
theorem lessTo_yes {n : Nat} {s : List Int} {m k : Nat} (hk : k < n) (h : m.testBit k = true) : (lessTo n s m k).set k ((lessTo n s m k).getD k 0 - 1) = lessTo n s m (k + 1) := by
  refine ext_getD (by rw [List.length_set, lessTo_len, lessTo_len]) fun i hi => ?_
  rw [List.length_set, lessTo_len] at hi
  rw [getD_set, lessTo_len, lessTo_get hi, lessTo_get hi, lessTo_get hk]
  by_cases e : k = i
  · subst e; simp [hi, h]
  · have h2 : (i < k + 1) = (i < k) := by simp only [eq_iff_iff]; omega
    simp only [e, false_and, if_false, h2]
theorem lessTo_no {n : Nat} {s : List Int} {m k : Nat} (hk : k < n) (h : m.testBit k = false) : lessTo n s m (k + 1) = lessTo n s m k := by
  refine ext_getD (by rw [lessTo_len, lessTo_len]) fun i hi => ?_
  rw [lessTo_len] at hi
  rw [lessTo_get hi, lessTo_get hi]
  by_cases e : k = i
  · subst e; simp [h]
  · have h2 : (i < k + 1) = (i < k) := by simp only [eq_iff_iff]; omega
    simp only [h2]
attribute [local simp ↓ 10000] lit_shr lit_and lit_shl lit_or
set_option maxRecDepth 10000 in
theorem without_ok (n : Nat) (s : List Int) (m : Nat) (hn : n ≤ 12) (hsl : s.length = n) (hsb : Bd 1048576 s) (hm : m < 5000) : PC Try.prog 50 [.is s, .i m] (.p (.is (lessB n s (setN m)))) [] := by
  have hm63 : m < 9223372036854775808 := by omega
  refine PC_of_W cfn50 ?_
  simp -implicitDefEqProofs (disch := omega) [c50, List.getElem?_cons_zero, List.getElem?_cons_succ, wrap_id]
  have hs6 : n ≤ 1048576 := by omega
  simp -implicitDefEqProofs (disch := omega) [List.getElem?_cons_zero, List.getElem?_cons_succ, wrap_id, hs6, hsl]
  refine loopW n (fun k st => st = ⟨[(6, .i k), (5, .os 0 0 n), (0, .p (.is s)), (1, .i m)], [rowI (lessTo n s m k)]⟩) (wk_norm [0] [6, 5, 0, 1] rfl rfl) (by rw [← lessTo_0 hsl]; rfl) ?_
  rintro k st hk rfl
  have hll := lessTo_len n s m k
  by_cases hlt : k < n
  · have hk63 : k ≤ 63 := by omega
    have hkl : k < (lessTo n s m k).length := by omega
    have hkb : -1048577 ≤ (lessTo n s m k).getD k 0 ∧ (lessTo n s m k).getD k 0 ≤ 1048576 := by
      rw [lessTo_get hlt, if_neg (by omega)]
      have := hsb k
      omega
    cases hb : m.testBit k with
    | true =>
      have h1 : ((bitN m k : Nat) : Int) = 1 := by rw [(bitN_iff m k).2 hb]; rfl
      have hs2 := congrArg (List.map PV.i) (lessTo_yes (s := s) hlt hb)
      rw [List.map_set] at hs2
      rw [getD_get hkl] at hs2 hkb
      simp -implicitDefEqProofs (disch := omega) [List.getElem?_cons_zero, List.getElem?_cons_succ, wrap_id, hlt, hsl, hm63, hk63, h1, hll, hkl, hs2]
      exact round_end [0] [6, 5, 0, 1] hlt rfl rfl
    | false =>
      have h1 : ¬ ((bitN m k : Nat) : Int) = 1 := by
        intro e
        have := (bitN_iff m k).1 (by omega)
        rw [hb] at this; cases this
      have hs2 := lessTo_no (s := s) hlt hb
      simp -implicitDefEqProofs (disch := omega) [List.getElem?_cons_zero, List.getElem?_cons_succ, wrap_id, hlt, hsl, hm63, hk63, h1]
      exact round_end [0] [6, 5, 0, 1] hlt rfl (by rw [hs2]; rfl)
  · have hkn : k = n := by omega
    subst hkn
    have e := lessTo_n hn s m
    have hlb := lessB_len k s (setN m)
    simp -implicitDefEqProofs (disch := omega) [List.getElem?_cons_zero, List.getElem?_cons_succ, wrap_id, hsl]
    (refine fin0 trivial rfl ?_; simp -implicitDefEqProofs (disch := omega) [List.getElem?_cons_zero, List.getElem?_cons_succ, idx, wrap_id, hll, e, hlb])
/-- Whether the set of a number can be taken away. -/
def fitN (n : Nat) (es : List Ed) (q : Int) (d s : List Int) (m : Nat) : Bool := ((List.range n).all fun v => !m.testBit v || decide (1 ≤ s.getD v 0)) && stlB n es q (movedE es (lessB n s (setN m)) d) (lessB n s (setN m))
theorem fitN_iff {n : Nat} {es : List Ed} (hg : GoodG n es) {q : Int} {d s : List Int} (hd : d.length = n) (hs : Stl n es q d s) {m : Nat} (hm : m < 2 ^ n) : fitN n es q d s m = true ↔ FitB n es (movedE es s d) s (setN m) := by
  have hn := hg.n12
  have hlt : ∀ v, (setN m).getD v false = true → v < n := fun v hv => by
    rw [setN_get, Bool.and_eq_true] at hv
    exact bit_lt hm hv.2
  rw [fit_iff hg hd hs hlt, fitN, Bool.and_eq_true, stlB_iff (lessB_len _ _ _), List.all_eq_true]
  refine and_congr_left fun _ => ⟨fun h v hv => ?_, fun h v hv => ?_⟩
  · have h1 := hlt v hv
    have := h v (List.mem_range.2 h1)
    rw [setN_get, Bool.and_eq_true] at hv
    simpa [hv.2] using this
  · have hv := List.mem_range.1 hv
    cases hb : m.testBit v with
    | false => rfl
    | true =>
      have := h v (by rw [setN_get, hb, decide_eq_true (by omega)]; rfl)
      rw [decide_eq_true this]; simp
/-- The union of what can be taken away, of the numbers below k. -/
def uniN (n : Nat) (es : List Ed) (q : Int) (d s : List Int) : Nat → Nat
  | 0 => 0
  | k + 1 => if 1 ≤ k ∧ fitN n es q d s k = true then orN (uniN n es q d s k) k else uniN n es q d s k
theorem uniN_lt (n : Nat) (es : List Ed) (q : Int) (d s : List Int) : ∀ k, k ≤ 2 ^ n → uniN n es q d s k < 2 ^ n
  | 0, _ => Nat.two_pow_pos n
  | k + 1, h => by
    have ih := uniN_lt n es q d s k (by omega)
    unfold uniN
    split
    · exact Nat.or_lt_two_pow ih (by omega)
    · exact ih
theorem uniN_bit (n : Nat) (es : List Ed) (q : Int) (d s : List Int) (v : Nat) : ∀ k, (uniN n es q d s k).testBit v = true ↔ ∃ m, 1 ≤ m ∧ m < k ∧ fitN n es q d s m = true ∧ m.testBit v = true
  | 0 => by simp [uniN]
  | k + 1 => by
    have ih := uniN_bit n es q d s v k
    unfold uniN
    split
    · rename_i h
      rw [orN, Nat.testBit_or, Bool.or_eq_true, ih]
      constructor
      · rintro (⟨m, h1, h2, h3, h4⟩ | h1)
        · exact ⟨m, h1, by omega, h3, h4⟩
        · exact ⟨k, h.1, by omega, h.2, h1⟩
      · rintro ⟨m, h1, h2, h3, h4⟩
        rcases Nat.lt_or_ge m k with h5 | h5
        · exact .inl ⟨m, h1, h5, h3, h4⟩
        · have e : m = k := by omega
          subst e; exact .inr h4
    · rename_i h
      rw [ih]
      constructor
      · rintro ⟨m, h1, h2, h3, h4⟩
        exact ⟨m, h1, by omega, h3, h4⟩
      · rintro ⟨m, h1, h2, h3, h4⟩
        rcases Nat.lt_or_ge m k with h5 | h5
        · exact ⟨m, h1, h5, h3, h4⟩
        · have e : m = k := by omega
          subst e; exact absurd ⟨h1, h3⟩ h
/-- IT IS THE GREATEST SET. -/
theorem uniN_gr {n : Nat} {es : List Ed} (hg : GoodG n es) {q : Int} {d s : List Int} (hd : d.length = n) (hs : Stl n es q d s) : uniN n es q d s (powN n) = toN (grF n es (movedE es s d) s) := by
  have hn := hg.n12
  have hfit := grF_fit (n := n) (es := es) (L := movedE es s d) hs.st.len
  refine Nat.eq_of_testBit_eq fun v => ?_
  rw [Bool.eq_iff_iff, uniN_bit, toN_bit]
  have hset : setN (toN (grF n es (movedE es s d) s)) = grF n es (movedE es s d) s := by
    refine List.ext_getElem (by rw [setN_len, grF_len]) fun i h1 h2 => ?_
    have := setN_get (toN (grF n es (movedE es s d) s)) i
    rw [toN_bit, decide_eq_true (by rw [setN_len] at h1; exact h1), Bool.true_and] at this
    simpa [List.getD_eq_getElem?_getD, h1, h2] using this
  have htl : toN (grF n es (movedE es s d) s) < 2 ^ n := by
    refine Nat.lt_of_not_le fun hle => ?_
    obtain ⟨v, hv, hb⟩ := Nat.exists_ge_and_testBit_of_ge_two_pow hle
    rw [toN_bit] at hb
    have := hfit.lt v hb
    omega
  constructor
  · rintro ⟨m, h1, h2, h3, h4⟩
    have h5 := (fitN_iff hg hd hs h2).1 h3
    refine grF_max hg h5 v ?_
    rw [setN_get, h4, decide_eq_true (by have := bit_lt h2 h4; omega)]; rfl
  · intro h
    refine ⟨toN (grF n es (movedE es s d) s), Nat.pos_of_ne_zero fun e => ?_, htl, (fitN_iff hg hd hs htl).2 (by rw [hset]; exact hfit), by rw [toN_bit]; exact h⟩
    have := (toN_zero _).1 e v
    rw [h] at this; cases this
end Go.Proofs.Ytgjaekbbdmhjlaa
