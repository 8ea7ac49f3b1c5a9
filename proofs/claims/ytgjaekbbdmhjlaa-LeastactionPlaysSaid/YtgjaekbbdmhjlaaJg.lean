/-
  Contracts: greatest sets in the reference, witnesses, proofs.
-/
import Derived.Test.YtgjaekbbdmhjlaaJf
set_option linter.unusedSimpArgs false
set_option linter.unusedVariables false
namespace Go.Proofs.Ytgjaekbbdmhjlaa
open Go.Abs Go.Sand

/-- An equation that simp leaves alone. -/
def eqN (a b : Nat) : Prop := a = b
/-- The first j vertices of a number's set can be taken away. -/
def ftB (s : List Int) (b j : Nat) : Bool := (List.range j).all fun v => !b.testBit v || decide (1 ≤ s.getD v 0)
theorem ftB_succ (s : List Int) (b j : Nat) : ftB s b (j + 1) = (ftB s b j && (!b.testBit j || decide (1 ≤ s.getD j 0))) := by simp [ftB, List.range_succ, List.all_append]
theorem less_bd {n : Nat} {s : List Int} {B : List Bool} (hn : n ≤ 12) (hs : s.length = n) (hb : Bd 1048576 s) (h : ∀ v, v < n → B.getD v false = true → 1 ≤ s.getD v 0) : Bd 1048576 (lessB n s B) := fun i => by
  by_cases hi : i < n
  · rw [lessB_get hi]
    have h1 := hb i
    split
    · rename_i h2; have := h i hi h2; omega
    · omega
  · rw [List.getD_eq_getElem?_getD, List.getElem?_eq_none (by rw [lessB_len]; omega)]; simp
def lstN (n m : Nat) : List Int := ((List.range n).filter fun v => m.testBit v).map fun v : Nat => (v : Int)
theorem lstN_succ (k m : Nat) : lstN (k + 1) m = lstN k m ++ if m.testBit k = true then [(k : Int)] else [] := by
  unfold lstN
  rw [List.range_succ, List.filter_append, List.map_append]
  congr 1
  by_cases h : m.testBit k = true <;> simp [h]
theorem lstN_len (k m : Nat) : (lstN k m).length ≤ k := by
  unfold lstN
  have := List.length_filter_le (fun v => m.testBit v) (List.range k)
  simpa using this
/-- A set's vertices. -/
def memK (B : List Bool) (k : Nat) : List Int := ((List.range k).filter fun v => B.getD v false).map fun v : Nat => (v : Int)
theorem memK_succ (B : List Bool) (k : Nat) : memK B (k + 1) = memK B k ++ if B.getD k false = true then [(k : Int)] else [] := by
  unfold memK
  rw [List.range_succ, List.filter_append, List.map_append]
  congr 1
  rw [List.filter_cons, List.filter_nil]
  split <;> rfl
theorem memK_len (B : List Bool) (k : Nat) : (memK B k).length ≤ k := by
  unfold memK
  have := List.length_filter_le (fun v => B.getD v false) (List.range k)
  simpa using this
theorem memK_lst {n : Nat} {B : List Bool} (h : ∀ v, B.getD v false = true → v < n) : ∀ k, n ≤ k → memK B k = lstN n (toN B) := by
  have h0 : ∀ k, memK B k = lstN k (toN B) := fun k => by
    unfold memK lstN
    congr 1
    refine List.filter_congr fun v _ => ?_
    rw [toN_bit]
  intro k
  induction k with
  | zero => intro hk; have : n = 0 := by omega
            subst this; rw [h0]
  | succ k ih =>
    intro hk
    by_cases e : n = k + 1
    · rw [h0, e]
    · rw [memK_succ, ih (by omega), if_neg fun h2 => by have := h k h2; omega, List.append_nil]
theorem memK_nil {B : List Bool} {k : Nat} (hk : B.length ≤ k) : (memK B k).length = 0 ↔ toN B = 0 := by
  rw [toN_zero]
  constructor
  · intro h v
    by_cases hv : v < k
    · cases hb : B.getD v false with
      | false => rfl
      | true =>
        have : (v : Int) ∈ memK B k := List.mem_map.2 ⟨v, List.mem_filter.2 ⟨List.mem_range.2 hv, hb⟩, rfl⟩
        rw [List.length_eq_zero_iff.1 h] at this
        simp at this
    · rw [List.getD_eq_getElem?_getD, List.getElem?_eq_none (by omega)]; rfl
  · intro h
    rw [List.length_eq_zero_iff]
    unfold memK
    rw [List.map_eq_nil_iff, List.filter_eq_nil_iff]
    intro v _
    rw [h v]; simp
attribute [local simp ↓ 10000] lit_shr lit_and lit_shl lit_or
theorem listed22_ok (m n : Nat) (hn : n ≤ 12) (hm : m < 5000) : PC Try.prog 47 [.i m, .i n] (.p (.is (lstN n m))) [] := by
  have hm63 : m < 9223372036854775808 := by omega
  refine PC_of_W cfn47 ?_
  simp -implicitDefEqProofs (disch := omega) [c47, List.getElem?_cons_zero, List.getElem?_cons_succ, wrap_id]
  refine loopW n (fun k st => st = ⟨[(6, .i k), (5, .os 0 0 (lstN k m).length), (0, .i m), (1, .i n)], [rowI (lstN k m)]⟩) ((Wk_nil 5 1 3 rfl).trans (Wk_keep [6, 5, 0, 1])) rfl ?_
  rintro k st hk rfl
  by_cases hlt : k < n
  · have hk63 : k ≤ 63 := by omega
    have hs := lstN_succ k m
    have hl := lstN_len k m
    have hl1 : (lstN k m).length ≤ 1048575 := by omega
    cases hb : m.testBit k with
    | true =>
      have h1 : ((bitN m k : Nat) : Int) = 1 := by rw [(bitN_iff m k).2 hb]; rfl
      rw [hb, if_pos rfl] at hs
      simp -implicitDefEqProofs (disch := omega) [List.getElem?_cons_zero, List.getElem?_cons_succ, wrap_id, hlt, hm63, hk63, h1, hl1]
      exact round_end [0] [6, 5, 0, 1] hlt rfl (by rw [hs]; simp [Abs.norm, Abs.get, AV.ren, Abs.idx])
    | false =>
      have h1 : ¬ ((bitN m k : Nat) : Int) = 1 := by
        intro e
        have := (bitN_iff m k).1 (by omega)
        rw [hb] at this; cases this
      rw [hb] at hs
      simp only [Bool.false_eq_true, if_false, List.append_nil] at hs
      simp -implicitDefEqProofs (disch := omega) [List.getElem?_cons_zero, List.getElem?_cons_succ, wrap_id, hlt, hm63, hk63, h1]
      exact round_end [0] [6, 5, 0, 1] hlt rfl (by rw [hs]; rfl)
  · have hkn : k = n := by omega
    subst hkn
    simp -implicitDefEqProofs (disch := omega) [List.getElem?_cons_zero, List.getElem?_cons_succ, wrap_id]
    (refine fin0 trivial rfl ?_; simp -implicitDefEqProofs (disch := omega) [List.getElem?_cons_zero, List.getElem?_cons_succ, idx, wrap_id])
section
variable (n : Nat) (es : List Ed) (q : Int) (d s : List Int) (hel : es.length ≤ 900) (h : StOk n es q d) (hsl : s.length = n) (hsb : Bd 1048576 s)
include hel h hsl hsb
set_option maxRecDepth 10000 in
theorem rgreatest_ok : PC Try.prog 48 [G n es, .i q, .is d, .is s] (.i (uniN n es q d s (powN n) : Nat)) [] := by
  have hn := h.n12
  have hn62 : n ≤ 62 := by omega
  have hpow : powN n ≤ 4096 := Nat.pow_le_pow_right (by omega) hn
  have hpow1 : 1 ≤ powN n := Nat.two_pow_pos n
  refine PC_of_W cfn48 ?_
  simp -implicitDefEqProofs (disch := omega) [c48, List.getElem?_cons_zero, List.getElem?_cons_succ, wrap_id]
  refine loopW (powN n) (fun k st => ∃ b : Nat, eqN b (k + 1) ∧ b ≤ powN n ∧ st = ⟨[(10, .i b), (9, .i (uniN n es q d s b : Nat)), (4, .ptr 0 1 0 0), (1, .i q), (2, .p (.is d)), (3, .p (.is s))], [.box (.p (G n es))]⟩) (wk_norm [0] [10, 9, 4, 1, 2, 3] rfl rfl) ⟨1, rfl, hpow1, rfl⟩ ?_
  rintro k st hk ⟨b, hb, hbp, rfl⟩
  unfold eqN at hb
  by_cases hlt : b < powN n
  · have hltI : (b : Int) < (powN n : Nat) := by omega
    have hb5 : b < 5000 := by omega
    have hb63 : b < 9223372036854775808 := by omega
    have hun := uniN_lt n es q d s b hbp
    have hus : uniN n es q d s (b + 1) = if 1 ≤ b ∧ fitN n es q d s b = true then orN (uniN n es q d s b) b else uniN n es q d s b := rfl
    have hpe : powN n = 2 ^ n := rfl
    obtain ⟨u, hu⟩ : ∃ u, u = uniN n es q d s b := ⟨_, rfl⟩
    rw [← hu] at hun hus ⊢
    have hu62 : u < 4611686018427387904 := by omega
    have hb62 : b < 4611686018427387904 := by omega
    simp -implicitDefEqProofs (disch := omega) [List.getElem?_cons_zero, List.getElem?_cons_succ, wrap_id, hltI, hn62]
    refine loopW n (fun v st => st = ⟨[(12, .i v), (11, .b (ftB s b v)), (10, .i b), (9, .i u), (4, .ptr 0 1 0 0), (1, .i q), (2, .p (.is d)), (3, .p (.is s))], [.box (.p (G n es))]⟩) (wk_norm [0] [12, 11, 10, 9, 4, 1, 2, 3] rfl rfl) rfl ?_
    rintro v st hv rfl
    by_cases hlv : v < n
    · have hk63 : v ≤ 63 := by omega
      have hvs : v < s.length := by omega
      have hgv := getD_get hvs
      have hf := ftB_succ s b v
      cases hbit : b.testBit v with
      | true =>
        have h1 : ((bitN b v : Nat) : Int) = 1 := by rw [(bitN_iff b v).2 hbit]; rfl
        by_cases h2 : s[v] < 1
        · rw [hbit, hgv, decide_eq_false (by omega)] at hf
          simp only [Bool.not_true, Bool.or_false, Bool.and_false] at hf
          simp -implicitDefEqProofs (disch := omega) [List.getElem?_cons_zero, List.getElem?_cons_succ, wrap_id, hlv, hb63, hk63, h1, hvs, h2]
          exact round_end [0] [12, 11, 10, 9, 4, 1, 2, 3] hlv rfl (by rw [hf]; rfl)
        · rw [hbit, hgv, decide_eq_true (by omega)] at hf
          simp only [Bool.or_true, Bool.and_true] at hf
          simp -implicitDefEqProofs (disch := omega) [List.getElem?_cons_zero, List.getElem?_cons_succ, wrap_id, hlv, hb63, hk63, h1, hvs, h2]
          exact round_end [0] [12, 11, 10, 9, 4, 1, 2, 3] hlv rfl (by rw [hf]; rfl)
      | false =>
        have h1 : ¬ ((bitN b v : Nat) : Int) = 1 := by
          intro e
          have := (bitN_iff b v).1 (by omega)
          rw [hbit] at this; cases this
        rw [hbit] at hf
        simp only [Bool.not_false, Bool.true_or, Bool.and_true] at hf
        simp -implicitDefEqProofs (disch := omega) [List.getElem?_cons_zero, List.getElem?_cons_succ, wrap_id, hlv, hb63, hk63, h1]
        exact round_end [0] [12, 11, 10, 9, 4, 1, 2, 3] hlv rfl (by rw [hf]; rfl)
    · have hvn : v = n := by omega
      rw [hvn]
      have hfe : fitN n es q d s b = (ftB s b n && stlB n es q (movedE es (lessB n s (setN b)) d) (lessB n s (setN b))) := rfl
      cases hft : ftB s b n with
      | false =>
        rw [hft, Bool.false_and] at hfe
        rw [hfe, if_neg (by simp)] at hus
        simp -implicitDefEqProofs (disch := omega) [List.getElem?_cons_zero, List.getElem?_cons_succ, wrap_id]
        exact round_end [0] [10, 9, 4, 1, 2, 3] (by omega) rfl ⟨b + 1, by unfold eqN; omega, by omega, by rw [hus]; rfl⟩
      | true =>
        rw [hft, Bool.true_and] at hfe
        have hlb : Bd 1048576 (lessB n s (setN b)) := less_bd hn hsl hsb fun w hw hw2 => by
          rw [setN_get, Bool.and_eq_true] at hw2
          have := List.all_eq_true.1 hft w (List.mem_range.2 hw)
          rw [hw2.2] at this
          simpa using this
        simp -implicitDefEqProofs (disch := omega) [List.getElem?_cons_zero, List.getElem?_cons_succ, wrap_id]
        refine HC_of_PC rfl (without_ok n s b hn hsl hsb hb5) ?_
        simp -implicitDefEqProofs (disch := omega) [List.getElem?_cons_zero, List.getElem?_cons_succ, wrap_id]
        refine HC_of_PC rfl (rsettles_ok n es q d (lessB n s (setN b)) hel h (lessB_len _ _ _) hlb) ?_
        cases hst : stlB n es q (movedE es (lessB n s (setN b)) d) (lessB n s (setN b)) with
        | true =>
          rw [hst] at hfe
          rw [hfe, if_pos ⟨by omega, rfl⟩] at hus
          simp -implicitDefEqProofs (disch := omega) [List.getElem?_cons_zero, List.getElem?_cons_succ, wrap_id, hu62, hb62]
          exact round_end [0] [10, 9, 4, 1, 2, 3] (by omega) rfl ⟨b + 1, by unfold eqN; omega, by omega, by rw [hus]; rfl⟩
        | false =>
          rw [hst] at hfe
          rw [hfe, if_neg (by simp)] at hus
          simp -implicitDefEqProofs (disch := omega) [List.getElem?_cons_zero, List.getElem?_cons_succ, wrap_id]
          exact round_end [0] [10, 9, 4, 1, 2, 3] (by omega) rfl ⟨b + 1, by unfold eqN; omega, by omega, by rw [hus]; rfl⟩
  · have hbn : b = powN n := by omega
    have hltI : ¬ (b : Int) < (powN n : Nat) := by omega
    subst hbn
    simp -implicitDefEqProofs (disch := omega) [List.getElem?_cons_zero, List.getElem?_cons_succ, wrap_id, hltI, hn62]
    (refine fin0 trivial rfl ?_; simp -implicitDefEqProofs (disch := omega) [List.getElem?_cons_zero, List.getElem?_cons_succ, idx, wrap_id])
end
/-- The greatest set of a script that stabilizes. -/
def grR (N : Int) (es : List Ed) (d s : List Int) : List Bool := grF N.toNat es (movedE es s d) s
def wtL (N : Int) (es : List Ed) (q : Int) (d s : List Int) : List Int := if settledR N es q d s = 0 then memK (grR N es d s) 12 else []
def vrE (N : Int) (es : List Ed) (q : Int) (d s : List Int) : Int := if gvE N es q d s ≠ 0 then gvE N es q d s else if settledR N es q d s = 0 ∧ toN (grR N es d s) = 0 then 0 else 16
theorem settledR_ok {N : Int} {es : List Ed} {q : Int} {d s : List Int} (h : settledR N es q d s = 0) : ∃ n : Nat, N = n ∧ GvOk n es q d s ∧ Stl n es q d s ∧ stlB n es q (movedE es s d) s = true := by
  unfold settledR at h
  split at h
  · rename_i h1; exact absurd h h1
  · rename_i h1
    obtain ⟨n, rfl, hg⟩ := gv_ok (Decidable.not_not.1 h1)
    split at h
    · rename_i h2
      rw [Int.toNat_natCast] at h2
      exact ⟨n, rfl, hg, (stlB_iff hg.len).1 h2, h2⟩
    · cases h
section
variable (N : Int) (es : List Ed) (q : Int) (d s : List Int) (hel : es.length ≤ 900) (hd : d.length ≤ 1000) (hs : s.length ≤ 1000)
include hel hd hs
theorem rwitness_ok : PC Try.prog 18 [G N es, .i q, .is d, .is s] (.tup [.p (.is (wtL N es q d s)), .i (settledR N es q d s)]) [] := by
  refine PC_of_W cfn18 ?_
  simp -implicitDefEqProofs (disch := omega) [c18, List.getElem?_cons_zero, List.getElem?_cons_succ, wrap_id]
  refine HC_of_PC rfl (rgiven22_ok N es q d s hel hd hs) ?_
  by_cases h0 : gvE N es q d s = 0
  rotate_left
  · have e : settledR N es q d s = gvE N es q d s := by rw [settledR, if_pos h0]
    simp -implicitDefEqProofs (disch := omega) [List.getElem?_cons_zero, List.getElem?_cons_succ, wrap_id, h0]
    refine finW (Wk_nil0 8 rfl) ?_
    (refine fin0 trivial rfl ?_; simp -implicitDefEqProofs (disch := omega) [List.getElem?_cons_zero, List.getElem?_cons_succ, idx, wrap_id, wtL, e, h0])
  obtain ⟨n, rfl, h⟩ := gv_ok h0
  simp -implicitDefEqProofs (disch := omega) [List.getElem?_cons_zero, List.getElem?_cons_succ, wrap_id, h0]
  refine HC_of_PC rfl (rsettles_ok n es q d s hel h.st h.len h.bd) ?_
  cases hb : stlB n es q (movedE es s d) s with
  | false =>
    have e : settledR n es q d s = 15 := by rw [settledR, if_neg (by simp [h0]), Int.toNat_natCast, if_neg (by simp [hb])]
    simp -implicitDefEqProofs (disch := omega) [List.getElem?_cons_zero, List.getElem?_cons_succ, wrap_id]
    refine finW (Wk_nil0 8 rfl) ?_
    (refine fin0 trivial rfl ?_; simp -implicitDefEqProofs (disch := omega) [List.getElem?_cons_zero, List.getElem?_cons_succ, idx, wrap_id, wtL, e])
  | true =>
    have e : settledR n es q d s = 0 := by rw [settledR, if_neg (by simp [h0]), Int.toNat_natCast, if_pos hb]
    have hst := (stlB_iff h.len).1 hb
    have hn := h.st.n12
    have hu := uniN_gr h.st.g h.st.c.len hst
    have hul := uniN_lt n es q d s (powN n) (Nat.le_refl _)
    have hpow : 2 ^ n ≤ 4096 := Nat.pow_le_pow_right (by omega) hn
    have hw : wtL n es q d s = lstN n (uniN n es q d s (powN n)) := by
      rw [wtL, if_pos e, grR, Int.toNat_natCast, hu]
      exact memK_lst (grF_fit h.len).lt 12 (by omega)
    simp -implicitDefEqProofs (disch := omega) [List.getElem?_cons_zero, List.getElem?_cons_succ, wrap_id]
    refine HC_of_PC rfl (rgreatest_ok n es q d s hel h.st h.len h.bd) ?_
    simp -implicitDefEqProofs (disch := omega) [List.getElem?_cons_zero, List.getElem?_cons_succ, wrap_id]
    refine HC_of_PC rfl (listed22_ok (uniN n es q d s (powN n)) n hn (by omega)) ?_
    simp -implicitDefEqProofs (disch := omega) [List.getElem?_cons_zero, List.getElem?_cons_succ, wrap_id]
    (refine fin0 trivial rfl ?_; simp -implicitDefEqProofs (disch := omega) [List.getElem?_cons_zero, List.getElem?_cons_succ, idx, wrap_id, e, hw])
theorem rverify_ok : PC Try.prog 21 [G N es, .i q, .is d, .is s] (.i (vrE N es q d s)) [] := by
  refine PC_of_W cfn21 ?_
  simp -implicitDefEqProofs (disch := omega) [c21, List.getElem?_cons_zero, List.getElem?_cons_succ, wrap_id]
  refine HC_of_PC rfl (rgiven22_ok N es q d s hel hd hs) ?_
  by_cases h0 : gvE N es q d s = 0
  rotate_left
  · have e : vrE N es q d s = gvE N es q d s := by rw [vrE, if_pos h0]
    simp -implicitDefEqProofs (disch := omega) [List.getElem?_cons_zero, List.getElem?_cons_succ, wrap_id, h0]
    (refine fin0 trivial rfl ?_; simp -implicitDefEqProofs (disch := omega) [List.getElem?_cons_zero, List.getElem?_cons_succ, idx, wrap_id, e])
  obtain ⟨n, rfl, h⟩ := gv_ok h0
  simp -implicitDefEqProofs (disch := omega) [List.getElem?_cons_zero, List.getElem?_cons_succ, wrap_id, h0]
  refine HC_of_PC rfl (rsettles_ok n es q d s hel h.st h.len h.bd) ?_
  cases hb : stlB n es q (movedE es s d) s with
  | false =>
    have e : settledR n es q d s = 15 := by rw [settledR, if_neg (by simp [h0]), Int.toNat_natCast, if_neg (by simp [hb])]
    have e2 : vrE n es q d s = 16 := by rw [vrE, if_neg (by simp [h0]), if_neg (by rw [e]; simp)]
    simp -implicitDefEqProofs (disch := omega) [List.getElem?_cons_zero, List.getElem?_cons_succ, wrap_id]
    (refine fin0 trivial rfl ?_; simp -implicitDefEqProofs (disch := omega) [List.getElem?_cons_zero, List.getElem?_cons_succ, idx, wrap_id, e2])
  | true =>
    have e : settledR n es q d s = 0 := by rw [settledR, if_neg (by simp [h0]), Int.toNat_natCast, if_pos hb]
    have hu := uniN_gr h.st.g h.st.c.len ((stlB_iff h.len).1 hb)
    have e2 : vrE n es q d s = if uniN n es q d s (powN n) = 0 then 0 else 16 := by
      rw [vrE, if_neg (by simp [h0]), e, grR, Int.toNat_natCast, hu]; simp
    simp -implicitDefEqProofs (disch := omega) [List.getElem?_cons_zero, List.getElem?_cons_succ, wrap_id]
    refine HC_of_PC rfl (rgreatest_ok n es q d s hel h.st h.len h.bd) ?_
    by_cases h3 : uniN n es q d s (powN n) = 0
    · rw [if_pos h3] at e2
      simp -implicitDefEqProofs (disch := omega) [List.getElem?_cons_zero, List.getElem?_cons_succ, wrap_id, h3]
      (refine fin0 trivial rfl ?_; simp -implicitDefEqProofs (disch := omega) [List.getElem?_cons_zero, List.getElem?_cons_succ, idx, wrap_id, e2])
    · rw [if_neg h3] at e2
      have h3' : ¬ ((uniN n es q d s (powN n) : Nat) : Int) = 0 := by omega
      simp -implicitDefEqProofs (disch := omega) [List.getElem?_cons_zero, List.getElem?_cons_succ, wrap_id, h3, h3']
      (refine fin0 trivial rfl ?_; simp -implicitDefEqProofs (disch := omega) [List.getElem?_cons_zero, List.getElem?_cons_succ, idx, wrap_id, e2])
end
end Go.Proofs.Ytgjaekbbdmhjlaa
