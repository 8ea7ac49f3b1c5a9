/-
  Texts joined: Wj Wb Wk.
-/
import Derived.Test.YtamiekhoaggpkaaKa27

section
set_option linter.unusedSimpArgs false
set_option linter.unusedVariables false
namespace Go.Proofs.Ytamiekhoaggpkaa
open Go.Abs Go.Sand
section
variable (N : Int) (es : List Ed) (q : Int) (d : List Int) (hel : es.length ≤ 900) (hd : d.length ≤ 1000)
/-- What a round leaves: the configuration, the vertices, the error. -/
def roundR : List Int × List Int × Int := if stE N es q d ≠ 0 then ([], [], stE N es q d) else if largeE (rdC N.toNat es q d 1) = 0 then (rdC N.toNat es q d 1, rdyL N.toNat es q d, 0) else ([], [], 11)
def runR (kk : Int) : List Int × List Int × Int × Int := if stE N es q d ≠ 0 then ([], [], 0, stE N es q d) else playedR N.toNat es q d kk
def roundsR (kk : Int) : List Int × List Int × Int := if stE N es q d ≠ 0 then ([], [], stE N es q d) else if kk < 0 ∨ 4096 < kk then ([], [], 2) else ((playedR N.toNat es q d kk).1, (playedR N.toNat es q d kk).2.1, (playedR N.toNat es q d kk).2.2.2)
include hel hd
theorem round_ok : PC Try.prog 13 [G N es, .i q, .is d] (.tup [.p (.is (roundR N es q d).1), .p (.is (roundR N es q d).2.1), .i (roundR N es q d).2.2]) [] := by
  refine PC_of_W cfn13 ?_
  simp -implicitDefEqProofs (disch := omega) [c13, List.getElem?_cons_zero, List.getElem?_cons_succ, wrap_id]
  refine HC_of_PC rfl (scheck_ok N es q d hel hd) ?_
  by_cases h0 : stE N es q d = 0
  rotate_left
  · simp -implicitDefEqProofs (disch := omega) [List.getElem?_cons_zero, List.getElem?_cons_succ, wrap_id, h0]
    refine finW (Wk_nil0 6 rfl) ?_
    refine finW (Wk_nil0 7 rfl) ?_
    (refine fin0 trivial rfl ?_; simp -implicitDefEqProofs (disch := omega) [List.getElem?_cons_zero, List.getElem?_cons_succ, idx, wrap_id, roundR, h0])
  obtain ⟨n, rfl, h⟩ := st_ok h0
  have hn := h.n12
  have hdl := h.c.len
  have e2 : roundR n es q d = if largeE (rdC n es q d 1) = 0 then (rdC n es q d 1, rdyL n es q d, 0) else ([], [], 11) := by rw [roundR, if_neg (by simp [h0]), Int.toNat_natCast]
  have e1 := rdC_succ h.g hdl (q := q) 0
  rw [rdC_zero h.g hdl] at e1
  simp -implicitDefEqProofs (disch := omega) [List.getElem?_cons_zero, List.getElem?_cons_succ, wrap_id, h0]
  refine HC_of_PC rfl (qof_ok n es q h.g (by omega)) ?_
  simp -implicitDefEqProofs (disch := omega) [List.getElem?_cons_zero, List.getElem?_cons_succ, wrap_id]
  refine readyP (o := 1) h.g rfl hdl (List.all_eq_true.1 (by rfl)) ?_
  simp -implicitDefEqProofs (disch := omega) [List.getElem?_cons_zero, List.getElem?_cons_succ, wrap_id]
  refine fireP (q := q) (o := 1) h.g (by rfl) hdl (h.c.bd.more (by omega)) (rdyL_12 h.g _) (rdyL_lt _) (List.all_eq_true.1 (by rfl)) ?_
  rw [← e1]
  have hcl := rdC_len (n := n) (q := q) (es := es) hdl 1
  simp -implicitDefEqProofs (disch := omega) [List.getElem?_cons_zero, List.getElem?_cons_succ, wrap_id]
  refine HC_of_PC rfl (largeP_ok (rdC n es q d 1) (by omega)) ?_
  by_cases hL : largeE (rdC n es q d 1) = 0
  · rw [if_pos hL] at e2
    simp -implicitDefEqProofs (disch := omega) [List.getElem?_cons_zero, List.getElem?_cons_succ, wrap_id, hL]
    (refine fin0 trivial rfl ?_; simp -implicitDefEqProofs (disch := omega) [List.getElem?_cons_zero, List.getElem?_cons_succ, idx, wrap_id, e2])
  · rw [if_neg hL] at e2
    have hL' := (largeE_or (rdC n es q d 1)).resolve_left hL
    simp -implicitDefEqProofs (disch := omega) [List.getElem?_cons_zero, List.getElem?_cons_succ, wrap_id, hL']
    refine finW (Wk_nil0 6 rfl) ?_
    refine finW (Wk_nil0 7 rfl) ?_
    (refine fin0 trivial rfl ?_; simp -implicitDefEqProofs (disch := omega) [List.getElem?_cons_zero, List.getElem?_cons_succ, idx, wrap_id, e2])
theorem run_ok : PC Try.prog 17 [G N es, .i q, .is d] (.tup [.p (.is (runR N es q d (-1)).1), .p (.is (runR N es q d (-1)).2.1), .i (runR N es q d (-1)).2.2.1, .i (runR N es q d (-1)).2.2.2]) [] := by
  refine PC_of_W cfn17 ?_
  simp -implicitDefEqProofs (disch := omega) [c17, List.getElem?_cons_zero, List.getElem?_cons_succ, wrap_id]
  refine HC_of_PC rfl (scheck_ok N es q d hel hd) ?_
  by_cases h0 : stE N es q d = 0
  rotate_left
  · simp -implicitDefEqProofs (disch := omega) [List.getElem?_cons_zero, List.getElem?_cons_succ, wrap_id, h0]
    refine finW (Wk_nil0 6 rfl) ?_
    refine finW (Wk_nil0 7 rfl) ?_
    (refine fin0 trivial rfl ?_; simp -implicitDefEqProofs (disch := omega) [List.getElem?_cons_zero, List.getElem?_cons_succ, idx, wrap_id, runR, h0])
  obtain ⟨n, rfl, h⟩ := st_ok h0
  have e2 : runR n es q d (-1) = playedR n es q d (-1) := by rw [runR, if_neg (by simp [h0]), Int.toNat_natCast]
  simp -implicitDefEqProofs (disch := omega) [List.getElem?_cons_zero, List.getElem?_cons_succ, wrap_id, h0]
  refine HC_of_PC rfl (played_ok h.g h.c.len (h.c.bd.more (by omega)) (.inl rfl) (by omega)) ?_
  simp -implicitDefEqProofs (disch := omega) [List.getElem?_cons_zero, List.getElem?_cons_succ, wrap_id]
  (refine fin0 trivial rfl ?_; simp -implicitDefEqProofs (disch := omega) [List.getElem?_cons_zero, List.getElem?_cons_succ, idx, wrap_id, e2])
theorem rounds_ok (kk : Int) : PC Try.prog 30 [G N es, .i q, .is d, .i kk] (.tup [.p (.is (roundsR N es q d kk).1), .p (.is (roundsR N es q d kk).2.1), .i (roundsR N es q d kk).2.2]) [] := by
  refine PC_of_W cfn30 ?_
  simp -implicitDefEqProofs (disch := omega) [c30, List.getElem?_cons_zero, List.getElem?_cons_succ, wrap_id]
  refine HC_of_PC rfl (scheck_ok N es q d hel hd) ?_
  by_cases h0 : stE N es q d = 0
  rotate_left
  · simp -implicitDefEqProofs (disch := omega) [List.getElem?_cons_zero, List.getElem?_cons_succ, wrap_id, h0]
    refine finW (Wk_nil0 8 rfl) ?_
    refine finW (Wk_nil0 9 rfl) ?_
    (refine fin0 trivial rfl ?_; simp -implicitDefEqProofs (disch := omega) [List.getElem?_cons_zero, List.getElem?_cons_succ, idx, wrap_id, roundsR, h0])
  obtain ⟨n, rfl, h⟩ := st_ok h0
  by_cases h1 : kk < 0
  · have e2 : roundsR n es q d kk = ([], [], 2) := by rw [roundsR, if_neg (by simp [h0]), if_pos (.inl h1)]
    simp -implicitDefEqProofs (disch := omega) [List.getElem?_cons_zero, List.getElem?_cons_succ, wrap_id, h0, h1]
    refine finW (Wk_nil0 8 rfl) ?_
    refine finW (Wk_nil0 9 rfl) ?_
    (refine fin0 trivial rfl ?_; simp -implicitDefEqProofs (disch := omega) [List.getElem?_cons_zero, List.getElem?_cons_succ, idx, wrap_id, e2])
  by_cases h2 : 4096 < kk
  · have e2 : roundsR n es q d kk = ([], [], 2) := by rw [roundsR, if_neg (by simp [h0]), if_pos (.inr h2)]
    simp -implicitDefEqProofs (disch := omega) [List.getElem?_cons_zero, List.getElem?_cons_succ, wrap_id, h0, h1, h2]
    refine finW (Wk_nil0 8 rfl) ?_
    refine finW (Wk_nil0 9 rfl) ?_
    (refine fin0 trivial rfl ?_; simp -implicitDefEqProofs (disch := omega) [List.getElem?_cons_zero, List.getElem?_cons_succ, idx, wrap_id, e2])
  have e2 : roundsR n es q d kk = ((playedR n es q d kk).1, (playedR n es q d kk).2.1, (playedR n es q d kk).2.2.2) := by rw [roundsR, if_neg (by simp [h0]), if_neg (by omega), Int.toNat_natCast]
  simp -implicitDefEqProofs (disch := omega) [List.getElem?_cons_zero, List.getElem?_cons_succ, wrap_id, h0, h1, h2]
  refine HC_of_PC rfl (played_ok h.g h.c.len (h.c.bd.more (by omega)) (.inr (by omega)) (by omega)) ?_
  simp -implicitDefEqProofs (disch := omega) [List.getElem?_cons_zero, List.getElem?_cons_succ, wrap_id]
  (refine fin0 trivial rfl ?_; simp -implicitDefEqProofs (disch := omega) [List.getElem?_cons_zero, List.getElem?_cons_succ, idx, wrap_id, e2])
end
/-- Whether a graph is right and connected. -/
def pjE (N : Int) (es : List Ed) : Int := if gcheck N es ≠ 0 then gcheck N es else if partsN es N.toNat = 1 then 0 else 13
theorem pj_ok {N : Int} {es : List Ed} (h : pjE N es = 0) : ∃ n : Nat, N = n ∧ gcheck n es = 0 ∧ GoodG n es ∧ partsN es n = 1 := by
  unfold pjE at h
  split at h
  · rename_i h1; exact absurd h h1
  · rename_i h1
    have h1 := Decidable.not_not.1 h1
    have hg := gcheck_ok h1
    have hn1 := hg.n1
    obtain ⟨n, rfl⟩ : ∃ n : Nat, N = n := ⟨N.toNat, by omega⟩
    split at h
    · rename_i h2
      exact ⟨n, rfl, h1, hg, by simpa using h2⟩
    · cases h
theorem pjoined_ok (N : Int) (es : List Ed) (hel : es.length ≤ 900) : PC Try.prog 61 [G N es] (.i (pjE N es)) [] := by
  refine PC_of_W cfn61 ?_
  simp -implicitDefEqProofs (disch := omega) [c61, List.getElem?_cons_zero, List.getElem?_cons_succ, wrap_id]
  by_cases hgc : gcheck N es = 0
  rotate_left
  · refine HC_of_PC rfl (connected_err N es hel hgc) ?_
    simp -implicitDefEqProofs (disch := omega) [List.getElem?_cons_zero, List.getElem?_cons_succ, wrap_id, hgc]
    (refine fin0 trivial rfl ?_; simp -implicitDefEqProofs (disch := omega) [List.getElem?_cons_zero, List.getElem?_cons_succ, idx, wrap_id, pjE, hgc])
  have hg := gcheck_ok hgc
  have hn1 := hg.n1
  obtain ⟨n, rfl⟩ : ∃ n : Nat, N = n := ⟨N.toNat, by omega⟩
  refine HC_of_PC rfl (connected_ok n es hel hgc) ?_
  have e : partsN es n = (rootsL es n).length := rfl
  rw [← e]
  by_cases hp : partsN es n = 1
  · simp -implicitDefEqProofs (disch := omega) [List.getElem?_cons_zero, List.getElem?_cons_succ, wrap_id, hp]
    (refine fin0 trivial rfl ?_; simp -implicitDefEqProofs (disch := omega) [List.getElem?_cons_zero, List.getElem?_cons_succ, idx, wrap_id, pjE, hgc, hp])
  · simp -implicitDefEqProofs (disch := omega) [List.getElem?_cons_zero, List.getElem?_cons_succ, wrap_id, hp]
    (refine fin0 trivial rfl ?_; simp -implicitDefEqProofs (disch := omega) [List.getElem?_cons_zero, List.getElem?_cons_succ, idx, wrap_id, pjE, hgc, hp])
def mnT (s : List Int) : Nat → Int
  | 0 => s.getD 0 0
  | k + 1 => min (mnT s k) (s.getD k 0)
theorem pmin_ok (s : List Int) (hs : 0 < s.length) (hx : s.length ≤ 4611686018427387904) : PC Try.prog 63 [.is s] (.i (mnT s s.length)) [] := by
  refine PC_of_W cfn63 ?_
  have hs1 : ¬ (s.length : Int) < 1 := by omega
  have hT1 : mnT s 1 = s[0] := by rw [mnT, mnT, getD_get hs]; simp
  simp -implicitDefEqProofs (disch := omega) [c63, List.getElem?_cons_zero, List.getElem?_cons_succ, wrap_id, hs, hs1]
  refine loopW (s.length - 1) (fun k st => st = ⟨[(4, .i (k + 1 : Nat)), (3, .i (mnT s (k + 1))), (0, .p (.is s))], []⟩) (wk_norm [] [4, 3, 0] rfl rfl) (by rw [hT1]; rfl) ?_
  rintro k st hk rfl
  by_cases hlt : k + 1 < s.length
  · have hT : mnT s (k + 1 + 1) = min (mnT s (k + 1)) s[k + 1] := by rw [mnT, getD_get hlt]
    have hlt' : (k : Int) + 1 < s.length := by omega
    simp -implicitDefEqProofs (disch := omega) [List.getElem?_cons_zero, List.getElem?_cons_succ, wrap_id, hlt, hlt']
    exact round_end [] [4, 3, 0] (show k + 1 ≤ s.length - 1 by omega) rfl (by rw [hT]; rfl)
  · have hk : k + 1 = s.length := by omega
    simp -implicitDefEqProofs (disch := omega) [List.getElem?_cons_zero, List.getElem?_cons_succ, wrap_id, hlt, hk]
    (refine fin0 trivial rfl ?_; simp -implicitDefEqProofs (disch := omega) [List.getElem?_cons_zero, List.getElem?_cons_succ, idx, wrap_id, hk])
def negA (d : List Int) : Bool := d.any fun x => decide (x < 0)
theorem negA_iff {d : List Int} : negA d = true ↔ ∃ i, i < d.length ∧ d.getD i 0 < 0 := by
  unfold negA
  rw [List.any_eq_true]
  constructor
  · rintro ⟨x, hx, h⟩
    obtain ⟨i, hi, rfl⟩ := List.mem_iff_getElem.1 hx
    exact ⟨i, hi, by rw [getD_get hi]; simpa using h⟩
  · rintro ⟨i, hi, h⟩
    exact ⟨d[i], List.getElem_mem hi, by rw [getD_get hi] at h; simpa using h⟩
theorem mnT_neg {d : List Int} : ∀ k, mnT d (k + 1) < 0 ↔ ∃ i, i < k + 1 ∧ d.getD i 0 < 0
  | 0 => by
    rw [mnT, mnT]
    constructor
    · intro h; exact ⟨0, by omega, by omega⟩
    · rintro ⟨i, hi, h⟩
      have e : i = 0 := by omega
      subst e; omega
  | k + 1 => by
    rw [mnT]
    have ih := mnT_neg (d := d) k
    constructor
    · intro h
      by_cases h1 : mnT d (k + 1) < 0
      · obtain ⟨i, hi, h2⟩ := ih.1 h1
        exact ⟨i, by omega, h2⟩
      · exact ⟨k + 1, by omega, by omega⟩
    · rintro ⟨i, hi, h⟩
      by_cases e : i = k + 1
      · subst e; omega
      · have := ih.2 ⟨i, by omega, h⟩
        omega
theorem mnT_negA {d : List Int} (h : 0 < d.length) : (mnT d d.length < 0) = (negA d = true) := by
  obtain ⟨k, hk⟩ : ∃ k, d.length = k + 1 := ⟨d.length - 1, by omega⟩
  rw [eq_iff_iff, negA_iff, hk, mnT_neg]
theorem pown1_ok (d : List Int) (h : dcheck d d.length = 0) (hl : d.length ≤ 4611686018427387904) : PC Try.prog 92 [.sl [.is d]] (.i 0) [] := by
  refine PC_of_W cfn92 ?_
  simp -implicitDefEqProofs (disch := omega) [c92, List.getElem?_cons_zero, List.getElem?_cons_succ, wrap_id]
  refine loopW 1 (fun k s => s = ⟨[(10, .i k), (9, .i 1), (8, .p (.sl [.is d])), (0, .p (.sl [.is d]))], []⟩) (wk_norm [] [10, 9, 8, 0] rfl rfl) rfl ?_
  rintro k s hk rfl
  match k, hk with
  | 0, _ =>
    simp -implicitDefEqProofs (disch := omega) [List.getElem?_cons_zero, List.getElem?_cons_succ, wrap_id]
    refine HC_of_PC rfl (chk_ok d d.length hl) ?_
    rw [h]
    simp -implicitDefEqProofs (disch := omega) [List.getElem?_cons_zero, List.getElem?_cons_succ, wrap_id]
    exact round_end [] [10, 9, 8, 0] (by decide) rfl rfl
  | 1, _ =>
    simp -implicitDefEqProofs (disch := omega) [List.getElem?_cons_zero, List.getElem?_cons_succ, wrap_id]
    refine loopW 1 (fun k s => s = ⟨[(24, .i k), (23, .i 1), (22, .p (.sl [.is d])), (0, .p (.sl [.is d]))], []⟩) (wk_norm [] [24, 23, 22, 0] rfl rfl) rfl ?_
    rintro k s hk rfl
    match k, hk with
    | 0, _ =>
      simp -implicitDefEqProofs (disch := omega) [List.getElem?_cons_zero, List.getElem?_cons_succ, wrap_id]
      exact round_end [] [24, 23, 22, 0] (by decide) rfl rfl
    | 1, _ =>
      simp -implicitDefEqProofs (disch := omega) [List.getElem?_cons_zero, List.getElem?_cons_succ, wrap_id]
      (refine fin0 trivial rfl ?_; simp -implicitDefEqProofs (disch := omega) [List.getElem?_cons_zero, List.getElem?_cons_succ, idx, wrap_id])
theorem pdeg_ok (xs : List Int) (h : dcheck xs xs.length = 0) (hx : xs.length ≤ 1000) (hb : Bd 4611686018427 xs) : PC Try.prog 64 [.is xs] (.tup [.i (sumI xs), .i 0]) [] := by
  refine PC_of_W cfn64 ?_
  simp -implicitDefEqProofs (disch := omega) [c64, List.getElem?_cons_zero, List.getElem?_cons_succ, wrap_id]
  refine HC_of_PC (ps := [.sl [.is xs]]) (by simp [views, view, viewC]) (pown1_ok xs h (by omega)) ?_
  have hs : ∀ k, k ≤ xs.length → -(4611686018427 * (k : Int)) ≤ sumI (xs.take k) ∧ sumI (xs.take k) ≤ 4611686018427 * (k : Int) := by
    intro k
    induction k with
    | zero => intro _; simp [sumI]
    | succ k ih =>
      intro h
      have := ih (by omega)
      have h2 := hb k
      rw [List.getD_eq_getElem?_getD, List.getElem?_eq_getElem (by omega)] at h2
      simp only [Option.getD_some] at h2
      rw [sumI_snoc xs k (by omega)]
      push_cast
      omega
  simp -implicitDefEqProofs (disch := omega) [List.getElem?_cons_zero, List.getElem?_cons_succ, wrap_id]
  refine loopW xs.length (fun k s => s = ⟨[(16, .i k), (15, .i xs.length), (14, .p (.is xs)), (5, .i (sumI (xs.take k))), (0, .p (.is xs))], []⟩) (wk_norm [] [16, 15, 14, 5, 0] rfl rfl) rfl ?_
  rintro k s hk rfl
  by_cases hlt : k < xs.length
  · have h1 := hs (k + 1) hlt
    rw [sumI_snoc xs k hlt] at h1
    push_cast at h1
    simp -implicitDefEqProofs (disch := omega) [List.getElem?_cons_zero, List.getElem?_cons_succ, wrap_id, hlt]
    exact round_end [] [16, 15, 14, 5, 0] hlt rfl (by rw [sumI_snoc xs k hlt]; rfl)
  · simp -implicitDefEqProofs (disch := omega) [List.getElem?_cons_zero, List.getElem?_cons_succ, wrap_id, hlt]
    (refine fin0 trivial rfl ?_; simp -implicitDefEqProofs (disch := omega) [List.getElem?_cons_zero, List.getElem?_cons_succ, idx, wrap_id, List.take_of_length_le (Nat.le_of_not_lt hlt)])
/-- The error of a divisor of a closed game. -/
def pcE (N : Int) (es : List Ed) (d : List Int) : Int := if pjE N es ≠ 0 then pjE N es else if dcheck d N ≠ 0 then dcheck d N else if negA d = true then 2 else if 1048576 < sumI d then 11 else 0
theorem dcheck_bd {N : Int} {d : List Int} (h : dcheck d N = 0) : (d.length : Int) = N ∧ Bd 1048576 d ∧ 1 ≤ N ∧ N ≤ 12 := by
  unfold dcheck at h
  split at h
  · cases h
  rename_i h1
  split at h
  · cases h
  rename_i h2
  split at h
  · rename_i h3
    refine ⟨Decidable.not_not.1 h2, fun i => ?_, by omega, by omega⟩
    by_cases hi : i < d.length
    · have := List.all_eq_true.1 h3 d[i] (List.getElem_mem hi)
      simp only [inB, decide_eq_true_eq] at this
      rw [getD_get hi]; omega
    · rw [List.getD_eq_getElem?_getD, List.getElem?_eq_none (by omega)]; simp
  · cases h
structure PcOk (n : Nat) (es : List Ed) (d : List Int) : Prop where
  gc : gcheck n es = 0
  g : GoodG n es
  parts : partsN es n = 1
  len : d.length = n
  bd : Bd 1048576 d
  pos : ∀ i, 0 ≤ d.getD i 0
  sum : sumI d ≤ 1048576
theorem pc_ok {N : Int} {es : List Ed} {d : List Int} (h : pcE N es d = 0) : ∃ n : Nat, N = n ∧ PcOk n es d := by
  unfold pcE at h
  split at h
  · rename_i h1; exact absurd h h1
  rename_i h1
  obtain ⟨n, rfl, hgc, hg, hp⟩ := pj_ok (Decidable.not_not.1 h1)
  split at h
  · rename_i h2; exact absurd h h2
  rename_i h2
  obtain ⟨hl, hb, -, -⟩ := dcheck_bd (Decidable.not_not.1 h2)
  split at h
  · cases h
  rename_i h3
  split at h
  · cases h
  rename_i h4
  refine ⟨n, rfl, hgc, hg, hp, by omega, hb, fun i => ?_, by omega⟩
  by_cases hi : i < d.length
  · refine Classical.byContradiction fun hlt => h3 (negA_iff.2 ⟨i, hi, by omega⟩)
  · rw [List.getD_eq_getElem?_getD, List.getElem?_eq_none (by omega)]; simp
section
variable (N : Int) (es : List Ed) (d : List Int) (hel : es.length ≤ 900) (hd : d.length ≤ 1000)
def closedR : List Int × List Int × Int := if pcE N es d ≠ 0 then ([], [], pcE N es d) else (rdC N.toNat es (-1) d 1, rdyL N.toNat es (-1) d, 0)
include hel hd
theorem pcheck_ok : PC Try.prog 25 [G N es, .is d] (.i (pcE N es d)) [] := by
  refine PC_of_W cfn25 ?_
  simp -implicitDefEqProofs (disch := omega) [c25, List.getElem?_cons_zero, List.getElem?_cons_succ, wrap_id]
  refine HC_of_PC rfl (pjoined_ok N es hel) ?_
  by_cases h0 : pjE N es = 0
  rotate_left
  · simp -implicitDefEqProofs (disch := omega) [List.getElem?_cons_zero, List.getElem?_cons_succ, wrap_id, h0]
    (refine fin0 trivial rfl ?_; simp -implicitDefEqProofs (disch := omega) [List.getElem?_cons_zero, List.getElem?_cons_succ, idx, wrap_id, pcE, h0])
  simp -implicitDefEqProofs (disch := omega) [List.getElem?_cons_zero, List.getElem?_cons_succ, wrap_id, h0]
  refine HC_of_PC rfl (chk_ok d N (by omega)) ?_
  by_cases h1 : dcheck d N = 0
  rotate_left
  · simp -implicitDefEqProofs (disch := omega) [List.getElem?_cons_zero, List.getElem?_cons_succ, wrap_id, h1]
    (refine fin0 trivial rfl ?_; simp -implicitDefEqProofs (disch := omega) [List.getElem?_cons_zero, List.getElem?_cons_succ, idx, wrap_id, pcE, h0, h1])
  obtain ⟨hl, hb, hN1, hN2⟩ := dcheck_bd h1
  have hl0 : 0 < d.length := by omega
  have hm := mnT_negA hl0
  have h1' : dcheck d d.length = 0 := by rw [hl]; exact h1
  simp -implicitDefEqProofs (disch := omega) [List.getElem?_cons_zero, List.getElem?_cons_succ, wrap_id, h1]
  refine HC_of_PC rfl (pmin_ok d hl0 (by omega)) ?_
  cases h2 : negA d
  rotate_left
  · have h2' : (mnT d d.length < 0) = True := by rw [hm, h2]; simp
    simp -implicitDefEqProofs (disch := omega) [List.getElem?_cons_zero, List.getElem?_cons_succ, wrap_id, h2']
    (refine fin0 trivial rfl ?_; simp -implicitDefEqProofs (disch := omega) [List.getElem?_cons_zero, List.getElem?_cons_succ, idx, wrap_id, pcE, h0, h1, h2])
  have h2' : (mnT d d.length < 0) = False := by rw [hm, h2]; simp
  simp -implicitDefEqProofs (disch := omega) [List.getElem?_cons_zero, List.getElem?_cons_succ, wrap_id, h2']
  refine HC_of_PC rfl (pdeg_ok d h1' (by omega) (hb.more (by omega))) ?_
  by_cases h3 : 1048576 < sumI d
  · simp -implicitDefEqProofs (disch := omega) [List.getElem?_cons_zero, List.getElem?_cons_succ, wrap_id, h3]
    (refine fin0 trivial rfl ?_; simp -implicitDefEqProofs (disch := omega) [List.getElem?_cons_zero, List.getElem?_cons_succ, idx, wrap_id, pcE, h0, h1, h2, h3])
  · simp -implicitDefEqProofs (disch := omega) [List.getElem?_cons_zero, List.getElem?_cons_succ, wrap_id, h3]
    (refine fin0 trivial rfl ?_; simp -implicitDefEqProofs (disch := omega) [List.getElem?_cons_zero, List.getElem?_cons_succ, idx, wrap_id, pcE, h0, h1, h2, h3])
theorem closed_ok : PC Try.prog 21 [G N es, .is d] (.tup [.p (.is (closedR N es d).1), .p (.is (closedR N es d).2.1), .i (closedR N es d).2.2]) [] := by
  refine PC_of_W cfn21 ?_
  simp -implicitDefEqProofs (disch := omega) [c21, List.getElem?_cons_zero, List.getElem?_cons_succ, wrap_id]
  refine HC_of_PC rfl (pcheck_ok N es d hel hd) ?_
  by_cases h0 : pcE N es d = 0
  rotate_left
  · simp -implicitDefEqProofs (disch := omega) [List.getElem?_cons_zero, List.getElem?_cons_succ, wrap_id, h0]
    refine finW (Wk_nil0 4 rfl) ?_
    refine finW (Wk_nil0 5 rfl) ?_
    (refine fin0 trivial rfl ?_; simp -implicitDefEqProofs (disch := omega) [List.getElem?_cons_zero, List.getElem?_cons_succ, idx, wrap_id, closedR, h0])
  obtain ⟨n, rfl, h⟩ := pc_ok h0
  have hdl := h.len
  have e2 : closedR n es d = (rdC n es (-1) d 1, rdyL n es (-1) d, 0) := by rw [closedR, if_neg (by simp [h0]), Int.toNat_natCast]
  have e1 := rdC_succ h.g hdl (q := -1) 0
  rw [rdC_zero h.g hdl] at e1
  simp -implicitDefEqProofs (disch := omega) [List.getElem?_cons_zero, List.getElem?_cons_succ, wrap_id, h0]
  refine HC_of_PC rfl (qof_ok n es (-1) h.g (by omega)) ?_
  simp -implicitDefEqProofs (disch := omega) [List.getElem?_cons_zero, List.getElem?_cons_succ, wrap_id]
  refine readyP (o := 1) h.g rfl hdl (List.all_eq_true.1 (by rfl)) ?_
  simp -implicitDefEqProofs (disch := omega) [List.getElem?_cons_zero, List.getElem?_cons_succ, wrap_id]
  refine fireP (q := -1) (o := 1) h.g (by rfl) hdl (h.bd.more (by omega)) (rdyL_12 h.g _) (rdyL_lt _) (List.all_eq_true.1 (by rfl)) ?_
  rw [← e1]
  have hcl := rdC_len (n := n) (q := -1) (es := es) hdl 1
  simp -implicitDefEqProofs (disch := omega) [List.getElem?_cons_zero, List.getElem?_cons_succ, wrap_id]
  (refine fin0 trivial rfl ?_; simp -implicitDefEqProofs (disch := omega) [List.getElem?_cons_zero, List.getElem?_cons_succ, idx, wrap_id, e2])
end
end Go.Proofs.Ytamiekhoaggpkaa
end
section
set_option linter.unusedSimpArgs false
set_option linter.unusedVariables false
namespace Go.Proofs.Ytamiekhoaggpkaa
open Go.Abs Go.Sand
theorem gloop_zero {n : Int} : ∀ {es : List Ed} {la lb : Int}, (∀ x ∈ es, Right n x) → es.Pairwise ltE → (∀ x ∈ es, la < x.a ∨ la = x.a ∧ lb < x.b) → gloop n es la lb = 0
  | [], la, lb, _, _, _ => rfl
  | x :: es, la, lb, hr, hp, hb => by
    have r := hr x (by simp)
    have h1 := hb x (by simp)
    have e : edgeErr n la lb x = 0 := by
      unfold edgeErr
      have v1 : vtx n x.a = true := vtx_iff.2 ⟨r.a0, r.an⟩
      have v2 : vtx n x.b = true := vtx_iff.2 ⟨r.b0, r.bn⟩
      have b1 : behind la lb x.a x.b = true := by simp [behind]; omega
      rw [v1, v2, b1, if_neg (by have := r.m1; have := r.m50; simp; omega), if_neg (by have := r.ab; simp; omega)]
    rw [gloop, if_neg (by simp [e])]
    exact gloop_zero (fun y hy => hr y (by simp [hy])) (List.pairwise_cons.1 hp).2 fun y hy => by
      have := (List.pairwise_cons.1 hp).1 y hy
      unfold ltE at this
      omega
theorem gcheck_mk {n : Int} {es : List Ed} (h : GoodG n es) : gcheck n es = 0 := by
  rw [gcheck, if_neg (by have := h.n1; have := h.n12; omega)]
  exact gloop_zero h.right h.asc fun x hx => by have := (h.right x hx).a0; omega
/-- The edges that are no loops. -/
def llE (es : List Ed) : List Ed := es.filter fun x => decide (x.a ≠ x.b)
theorem llE_good {n : Int} {es : List Ed} (h : GoodG n es) : GoodG n (llE es) :=
  ⟨h.n1, h.n12, fun x hx => h.right x (List.mem_filter.1 hx).1, h.asc.filter _⟩
theorem llE_len (es : List Ed) : (llE es).length ≤ es.length := List.length_filter_le _ _
theorem llE_snoc (es : List Ed) (x : Ed) : llE (es ++ [x]) = llE es ++ if x.a ≠ x.b then [x] else [] := by
  unfold llE
  rw [List.filter_append]
  congr 1
  by_cases h : x.a = x.b <;> simp [h]
theorem endsL_cons (x : Ed) (es : List Ed) : endsL (x :: es) = List.replicate x.m.toNat (x.a, x.b) ++ endsL es := by simp [endsL]
/-- Twice the single edges that are no loops, counted at their ends. -/
theorem val_twice {n : Nat} : ∀ {es : List Ed}, (∀ x ∈ es, Right n x) → sumN (fun v : Nat => valS es v) n = 2 * ((endsL (llE es)).length : Int)
  | [], _ => by
    have : sumN (fun v : Nat => valS [] v) n = 0 := by
      rw [show (fun v : Nat => valS [] v) = fun _ => (0 : Int) from funext fun v => by simp [valS, sumI]]
      exact sumN_zero n
    rw [this]; simp [llE, endsL]
  | x :: es, hr => by
    have ih := val_twice (es := es) fun y hy => hr y (by simp [hy])
    have r := hr x (by simp)
    have e1 : (fun v : Nat => valS (x :: es) v) = fun v : Nat => val1 v x + valS es v := funext fun v => by simp [valS, sumI]
    rw [e1, sumN_add, ih]
    obtain ⟨a, ha⟩ : ∃ a : Nat, x.a = a := ⟨x.a.toNat, by have := r.a0; omega⟩
    obtain ⟨b, hb⟩ : ∃ b : Nat, x.b = b := ⟨x.b.toNat, by have := r.b0; omega⟩
    have han : a < n := by have := r.an; omega
    have hbn : b < n := by have := r.bn; omega
    have hm := r.m1
    by_cases hab : x.a = x.b
    · have e2 : sumN (fun v : Nat => val1 v x) n = 0 := by
        rw [show (fun v : Nat => val1 v x) = fun _ => (0 : Int) from funext fun v => by simp [val1, hab]]
        exact sumN_zero n
      have e3 : llE (x :: es) = llE es := by simp [llE, hab]
      rw [e2, e3]; omega
    · have e2 : sumN (fun v : Nat => val1 v x) n = 2 * x.m := by
        have : (fun v : Nat => val1 v x) = fun v : Nat => (if v = a then x.m else 0) + if v = b then x.m else 0 := funext fun v => by
          unfold val1
          by_cases h1 : v = a
          · have h2 : ¬ v = b := by omega
            rw [if_pos h1, if_neg h2, if_pos ⟨hab, by omega⟩]; omega
          · by_cases h2 : v = b
            · rw [if_neg h1, if_pos h2, if_pos ⟨hab, by omega⟩]; omega
            · rw [if_neg h1, if_neg h2, if_neg (by omega)]; rfl
        rw [this, sumN_add, sumN_one, sumN_one, if_pos han, if_pos hbn]; omega
      have e3 : llE (x :: es) = x :: llE es := by simp [llE, hab]
      rw [e2, e3, endsL_cons, List.length_append, List.length_replicate]
      push_cast
      omega
theorem val_twice' {n : Nat} {es : List Ed} (hg : GoodG n es) : sumN (fun v : Nat => valTo es v n) n = 2 * ((endsL (llE es)).length : Int) := by
  rw [← val_twice hg.right]
  exact sumN_congr fun v hv => valTo_all hg.right hg.asc v ⟨by omega, by omega⟩
end Go.Proofs.Ytamiekhoaggpkaa
end
section
set_option linter.unusedSimpArgs false
set_option linter.unusedVariables false
namespace Go.Proofs.Ytamiekhoaggpkaa
open Go.Abs Go.Sand
theorem psize_ok (N : Int) (es : List Ed) (hel : es.length ≤ 1000) (h : gcheck N es = 0) : PC Try.prog 70 [G N es] (.tup [.i (endsL es).length, .i 0]) [] := by
  refine PC_of_W cfn70 ?_
  simp -implicitDefEqProofs (disch := omega) [c70, List.getElem?_cons_zero, List.getElem?_cons_succ, wrap_id]
  refine HC_of_PC rfl (gends_ok N es hel h) ?_
  simp -implicitDefEqProofs (disch := omega) [List.getElem?_cons_zero, List.getElem?_cons_succ, wrap_id, h]
  (refine fin0 trivial rfl ?_; simp -implicitDefEqProofs (disch := omega) [List.getElem?_cons_zero, List.getElem?_cons_succ, idx, wrap_id, h])
theorem limited_ok (N : Int) (es : List Ed) (hel : es.length ≤ 1000) (h : gcheck N es = 0) : PC Try.prog 95 [G N es, .i 50] (.tup [.agg [.p (.i N), .p (.sl ((llE es).map edP))], .i 0]) [] := by
  have hg := gcheck_ok h
  refine PC_of_W cfn95 ?_
  simp -implicitDefEqProofs (disch := omega) [c95, List.getElem?_cons_zero, List.getElem?_cons_succ, wrap_id]
  refine HC_of_PC rfl (gcheck_ok' N es (by omega)) ?_
  simp -implicitDefEqProofs (disch := omega) [List.getElem?_cons_zero, List.getElem?_cons_succ, wrap_id, h]
  refine loopW es.length (fun k st => st = ⟨[(22, .i k), (21, .i es.length), (20, .p (.sl (es.map edP))), (7, .ptr 1 1 0 0), (4, .ptr 0 1 0 0), (1, .i 50)], [.box (.p (.agg [.i 0, .nil])), .box (.agg [.i N, .os 2 0 (llE (es.take k)).length]), .row ((llE (es.take k)).map edP) 3 139 false]⟩)
    ((Wk_nilB 2 1 3 139 rfl rfl).trans (Wk_norm [1, 2, 3] [22, 21, 20, 7, 4, 1] rfl)) rfl ?_
  rintro k st hk rfl
  by_cases hlt : k < es.length
  · obtain ⟨l, hl⟩ : ∃ l, l = llE (es.take k) := ⟨_, rfl⟩
    have hll : l.length ≤ 1000 := by
      have := llE_len (es.take k)
      rw [hl]
      rw [List.length_take] at this; omega
    have hr := hg.right es[k] (List.getElem_mem hlt)
    have hm := hr.m50
    have htk : es.take (k + 1) = es.take k ++ [es[k]] := by rw [List.take_add_one, List.getElem?_eq_getElem hlt]; rfl
    have hll2 : l.length ≤ 1048575 := by omega
    rw [← hl]
    obtain ⟨x, hx⟩ : ∃ x, x = es[k] := ⟨_, rfl⟩
    rw [← hx] at hm htk
    have hx2 : edP es[k] = .agg [PV.i x.a, PV.i x.b, PV.i x.m] := by rw [hx, edP]
    by_cases hab : x.a = x.b
    · have e : llE (es.take (k + 1)) = l := by rw [htk, llE_snoc, if_neg (by simp [hab]), List.append_nil, hl]
      simp -implicitDefEqProofs (disch := omega) [List.getElem?_cons_zero, List.getElem?_cons_succ, wrap_id, hlt, hx2, hab]
      exact round_end [0, 1, 2] [22, 21, 20, 7, 4, 1] hlt rfl (by rw [e]; rfl)
    · have e : llE (es.take (k + 1)) = l ++ [x] := by rw [htk, llE_snoc, if_pos hab, hl]
      have hm' : min x.m 50 = x.m := by omega
      simp -implicitDefEqProofs (disch := omega) [List.getElem?_cons_zero, List.getElem?_cons_succ, wrap_id, hlt, hx2, hab, hm', hll2]
      exact round_end [0, 1, 2] [22, 21, 20, 7, 4, 1] hlt rfl (by rw [e]; simp [Abs.norm, Abs.get, AV.ren, Abs.idx])
  have hke : k = es.length := by omega
  subst hke
  rw [List.take_length]
  simp -implicitDefEqProofs (disch := omega) [List.getElem?_cons_zero, List.getElem?_cons_succ, wrap_id]
  (refine fin0 trivial rfl ?_; simp -implicitDefEqProofs (disch := omega) [List.getElem?_cons_zero, List.getElem?_cons_succ, idx, wrap_id])
theorem loopless_ok (N : Int) (es : List Ed) (hel : es.length ≤ 1000) (h : gcheck N es = 0) : PC Try.prog 69 [G N es] (.tup [.agg [.p (.i N), .p (.sl ((llE es).map edP))], .i 0]) [] := by
  refine PC_of_W cfn69 ?_
  simp -implicitDefEqProofs (disch := omega) [c69, List.getElem?_cons_zero, List.getElem?_cons_succ, wrap_id]
  refine HC_of_PC rfl (limited_ok N es hel h) ?_
  simp -implicitDefEqProofs (disch := omega) [List.getElem?_cons_zero, List.getElem?_cons_succ, wrap_id]
  (refine fin0 trivial rfl ?_; simp -implicitDefEqProofs (disch := omega) [List.getElem?_cons_zero, List.getElem?_cons_succ, idx, wrap_id])
/-- What is certain. -/
def certV (n : Nat) (es : List Ed) (c : Int) : Int := if n = 1 ∨ c < (endsL (llE es)).length then 1 else if 2 * (endsL (llE es)).length - n < c then -1 else 0
def certR (N : Int) (es : List Ed) (c : Int) : Int × Int := if pjE N es ≠ 0 then (0, pjE N es) else if c < 0 ∨ 1048576 < c then (0, 2) else (certV N.toNat es c, 0)
theorem ends_len {n : Int} {es : List Ed} (h : ∀ x ∈ es, Right n x) : (endsL es).length ≤ 50 * es.length := by
  induction es with
  | nil => simp [endsL]
  | cons x es ih =>
    have := ih fun y hy => h y (by simp [hy])
    have r := h x (by simp)
    have h1 := r.m50
    have h2 := r.m1
    rw [endsL_cons, List.length_append, List.length_replicate, List.length_cons]
    omega
theorem certain_ok (N : Int) (es : List Ed) (c : Int) (hel : es.length ≤ 900) : PC Try.prog 27 [G N es, .i c] (.tup [.i (certR N es c).1, .i (certR N es c).2]) [] := by
  refine PC_of_W cfn27 ?_
  simp -implicitDefEqProofs (disch := omega) [c27, List.getElem?_cons_zero, List.getElem?_cons_succ, wrap_id]
  refine HC_of_PC rfl (pjoined_ok N es hel) ?_
  by_cases h0 : pjE N es = 0
  rotate_left
  · simp -implicitDefEqProofs (disch := omega) [List.getElem?_cons_zero, List.getElem?_cons_succ, wrap_id, h0]
    (refine fin0 trivial rfl ?_; simp -implicitDefEqProofs (disch := omega) [List.getElem?_cons_zero, List.getElem?_cons_succ, idx, wrap_id, certR, h0])
  by_cases h1 : c < 0
  · have e : certR N es c = (0, 2) := by rw [certR, if_neg (by simp [h0]), if_pos (.inl h1)]
    simp -implicitDefEqProofs (disch := omega) [List.getElem?_cons_zero, List.getElem?_cons_succ, wrap_id, h0, h1]
    (refine fin0 trivial rfl ?_; simp -implicitDefEqProofs (disch := omega) [List.getElem?_cons_zero, List.getElem?_cons_succ, idx, wrap_id, e])
  by_cases h2 : 1048576 < c
  · have e : certR N es c = (0, 2) := by rw [certR, if_neg (by simp [h0]), if_pos (.inr h2)]
    simp -implicitDefEqProofs (disch := omega) [List.getElem?_cons_zero, List.getElem?_cons_succ, wrap_id, h0, h1, h2]
    (refine fin0 trivial rfl ?_; simp -implicitDefEqProofs (disch := omega) [List.getElem?_cons_zero, List.getElem?_cons_succ, idx, wrap_id, e])
  obtain ⟨n, rfl, hgc, hg, hp⟩ := pj_ok h0
  have e : certR n es c = (certV n es c, 0) := by rw [certR, if_neg (by simp [h0]), if_neg (by omega), Int.toNat_natCast]
  have hlg := llE_good hg
  have hgl := gcheck_mk hlg
  have hll : (llE es).length ≤ 1000 := by have := llE_len es; omega
  have hml := ends_len hlg.right
  have hn12 := hg.n12
  rw [e]
  obtain ⟨m, hm⟩ : ∃ m, m = (endsL (llE es)).length := ⟨_, rfl⟩
  have hv : certV n es c = if n = 1 ∨ c < m then 1 else if 2 * m - n < c then -1 else 0 := by rw [certV, hm]
  rw [← hm] at hml
  have hs := psize_ok n (llE es) hll hgl
  rw [← hm] at hs
  simp -implicitDefEqProofs (disch := omega) [List.getElem?_cons_zero, List.getElem?_cons_succ, wrap_id, h0, h1, h2]
  refine HC_of_PC rfl (loopless_ok n es (by omega) hgc) ?_
  simp -implicitDefEqProofs (disch := omega) [List.getElem?_cons_zero, List.getElem?_cons_succ, wrap_id]
  refine HC_of_PC rfl (hs) ?_
  by_cases h3 : n = 1
  · have hv' : certV n es c = 1 := by rw [hv, if_pos (.inl h3)]
    have h3' : ((n : Int) = 1) = True := eq_true (by omega)
    simp -implicitDefEqProofs (disch := omega) [List.getElem?_cons_zero, List.getElem?_cons_succ, wrap_id, h3']
    (refine fin0 trivial rfl ?_; simp -implicitDefEqProofs (disch := omega) [List.getElem?_cons_zero, List.getElem?_cons_succ, idx, wrap_id, hv'])
  have h3' : ((n : Int) = 1) = False := eq_false (by omega)
  by_cases h4 : c < m
  · have hv' : certV n es c = 1 := by rw [hv, if_pos (.inr h4)]
    simp -implicitDefEqProofs (disch := omega) [List.getElem?_cons_zero, List.getElem?_cons_succ, wrap_id, h3', h4]
    (refine fin0 trivial rfl ?_; simp -implicitDefEqProofs (disch := omega) [List.getElem?_cons_zero, List.getElem?_cons_succ, idx, wrap_id, hv'])
  by_cases h5 : 2 * m - n < c
  · have hv' : certV n es c = -1 := by rw [hv, if_neg (by omega), if_pos h5]
    simp -implicitDefEqProofs (disch := omega) [List.getElem?_cons_zero, List.getElem?_cons_succ, wrap_id, h3', h4, h5]
    (refine fin0 trivial rfl ?_; simp -implicitDefEqProofs (disch := omega) [List.getElem?_cons_zero, List.getElem?_cons_succ, idx, wrap_id, hv'])
  · have hv' : certV n es c = 0 := by rw [hv, if_neg (by omega), if_neg h5]
    simp -implicitDefEqProofs (disch := omega) [List.getElem?_cons_zero, List.getElem?_cons_succ, wrap_id, h3', h4, h5]
    (refine fin0 trivial rfl ?_; simp -implicitDefEqProofs (disch := omega) [List.getElem?_cons_zero, List.getElem?_cons_succ, idx, wrap_id, hv'])
end Go.Proofs.Ytamiekhoaggpkaa
end
