/-
  Texts joined: Wm Wr Wo.
-/
import Derived.Test.YtamiekhoaggpkaaKa29

section
set_option linter.unusedSimpArgs false
set_option linter.unusedVariables false
namespace Go.Proofs.Ytamiekhoaggpkaa
open Go.Abs Go.Sand
theorem rbounded_ok (xs : List Int) (hx : xs.length ≤ 4611686018427387904) : PC Try.prog 52 [.is xs] (.b (xs.all inB)) [] := by
  refine PC_of_W cfn52 ?_
  simp -implicitDefEqProofs (disch := omega) [c52, List.getElem?_cons_zero, List.getElem?_cons_succ, wrap_id]
  refine loopW xs.length (fun k s => s = ⟨[(3, .i k), (0, .p (.is xs))], []⟩ ∧ xs.all inB = (xs.drop k).all inB) (wk_norm [] [3, 0] rfl rfl) ⟨rfl, rfl⟩ ?_
  rintro k s hk ⟨rfl, hI⟩
  by_cases hlt : k < xs.length
  · rw [drop_all inB xs k hlt] at hI
    simp -implicitDefEqProofs (disch := omega) [List.getElem?_cons_zero, List.getElem?_cons_succ, wrap_id, hlt]
    refine HC_of_PC rfl (in_ok xs[k]) ?_
    cases h1 : inB xs[k]
    · rw [h1] at hI
      simp -implicitDefEqProofs (disch := omega) [List.getElem?_cons_zero, List.getElem?_cons_succ, wrap_id, h1]
      (refine fin0 trivial rfl ?_; simp -implicitDefEqProofs (disch := omega) [List.getElem?_cons_zero, List.getElem?_cons_succ, idx, wrap_id, hI])
    · rw [h1] at hI
      simp -implicitDefEqProofs (disch := omega) [List.getElem?_cons_zero, List.getElem?_cons_succ, wrap_id, h1]
      exact round_end [] [3, 0] hlt rfl ⟨rfl, by rw [hI]; rfl⟩
  · simp -implicitDefEqProofs (disch := omega) [List.getElem?_cons_zero, List.getElem?_cons_succ, wrap_id, hlt]
    (refine fin0 trivial rfl ?_; simp -implicitDefEqProofs (disch := omega) [List.getElem?_cons_zero, List.getElem?_cons_succ, idx, wrap_id, hI, List.drop_of_length_le (Nat.le_of_not_lt hlt)])
theorem largeE_all {c : List Int} (h1 : 1 ≤ c.length) (h2 : c.length ≤ 12) : largeE c = if c.all inB = true then 0 else 11 := by
  have e : dcheck c c.length = if c.all inB = true then 0 else 2 := by
    unfold dcheck
    rw [if_neg (by omega), if_neg (fun h => h rfl)]
  unfold largeE
  rw [e]
  by_cases h : c.all inB = true
  · rw [if_pos h, if_pos h, if_pos rfl]
  · rw [if_neg h, if_neg h, if_neg (by omega)]
theorem went_dag' {n : Nat} {es : List Ed} {q : Int} {d : List Int} {kk : Int} {tab : List ADN} (ht : tab = wentD) {Q : AExit → St → Prop} (hn : n ≤ 1048576) (hd : d.length = n) (hQ : Q .normal (wnS24 n es q d kk)) : W Try.prog 0 (.dag tab) Q (wnS0 n es q d kk) := ht ▸ wndag n es q d kk hn hd hQ
section
variable {n : Nat} {es : List Ed} (hg : GoodG n es) {q kk : Int} {d : List Int} (hd : d.length = n) (hdb : Bd 1000000000 d) (hel : es.length ≤ 900)
include hg hd hdb hel
set_option maxRecDepth 10000 in
set_option maxHeartbeats 1000000 in
theorem rwent_ok (hkk : 0 ≤ kk ∧ kk ≤ 1048577) : PC Try.prog 55 [G n es, .i q, .is d, .i kk]
    (.agg [.p (.is (rdC n es q d (wentN n es q d kk.toNat 0).1)), .p (.is (rdS n es q d (wentN n es q d kk.toNat 0).1)), .i (wentN n es q d kk.toNat 0).1, .b (wentN n es q d kk.toNat 0).2]) [] := by
  have hn := hg.n12
  refine PC_of_W cfn55 ?_
  simp -implicitDefEqProofs (disch := omega) [c55, List.getElem?_cons_zero, List.getElem?_cons_succ, wrap_id]
  refine HC_of_PC rfl (rows_ok n es hel hg) ?_
  simp -implicitDefEqProofs (disch := omega) [List.getElem?_cons_zero, List.getElem?_cons_succ, wrap_id]
  refine HC_of_PC rfl (valences_ok n es hel hg) ?_
  simp -implicitDefEqProofs (disch := omega) [List.getElem?_cons_zero, List.getElem?_cons_succ, wrap_id]
  refine wk_dag (Wk_keep [10, 9, 8, 4, 1, 2, 3]) ?_
  refine went_dag' (by kernel_rfl) (by omega) hd ?_
  unfold wnS24
  simp -implicitDefEqProofs (disch := omega) [List.getElem?_cons_zero, List.getElem?_cons_succ, wrap_id]
  obtain ⟨F, hF⟩ : ∃ F, F = kk.toNat := ⟨_, rfl⟩
  rw [← hF]
  have hkF : kk = (F : Int) := by omega
  have hF6 : F ≤ 1048577 := by omega
  have h0 : St.mk [(12, AV.i 0), (11, .ptr 3 1 0 0), (10, .p (.is (valsL n es))), (9, .p (.iss (rowsL n es))), (8, .ptr 1 1 0 0), (1, .i q), (3, .i kk)] [.box (.p (G n es)), .box (.p (.agg [.nil, .nil, .i 0, .b false])), .row (List.replicate n (PV.v (Value.int .i64 0))) 1 3 false, .box (.agg [.p (.is d), .os 2 0 n, .i 0, .b false])]
      = St.mk [(12, .i (sumI (rdS n es q d 0))), (11, .ptr 3 1 0 0), (10, .p (.is (valsL n es))), (9, .p (.iss (rowsL n es))), (8, .ptr 1 1 0 0), (1, .i q), (3, .i kk)] [.box (.p (G n es)), .box (.p (.agg [.nil, .nil, .i 0, .b false])), rowI (rdS n es q d 0), .box (.agg [.p (.is (rdC n es q d 0)), .os 2 0 n, .i (0 : Nat), .b false])] := by
    rw [rdC_zero hg hd, rdS, sumI_zeros, rowI, List.map_replicate]; rfl
  refine loopW 1048577 (fun k st => PlI n es q d F k ∧ st = ⟨[(12, .i (sumI (rdS n es q d k))), (11, .ptr 3 1 0 0), (10, .p (.is (valsL n es))), (9, .p (.iss (rowsL n es))), (8, .ptr 1 1 0 0), (1, .i q), (3, .i kk)],
      [.box (.p (G n es)), .box (.p (.agg [.nil, .nil, .i 0, .b false])), rowI (rdS n es q d k), .box (.agg [.p (.is (rdC n es q d k)), .os 2 0 n, .i k, .b false])]⟩)
    (Wk_norm [0, 1, 3, 4] [12, 11, 10, 9, 8, 1, 3] rfl) ⟨⟨Nat.zero_le _, rfl, by rw [rdS, sumI_zeros]; omega, by rw [rdS, sumI_zeros]; omega⟩, ?_⟩ ?_
  · rw [← h0]
    simp -implicitDefEqProofs [Abs.norm, renH, Abs.get, AV.ren, renL, AO.ren, idx_at, idx_at0, hd]
  rintro k st hk ⟨⟨hI1, hI2, hI3, hI4⟩, rfl⟩
  have hcl := rdC_len (q := q) (es := es) hd k
  have hsl := rdS_len (n := n) (es := es) (q := q) (d := d) k
  by_cases hlt : k < F
  rotate_left
  · have hkF2 : F = k := by omega
    have hlt' : ¬ (k : Int) < kk := by omega
    have hw : wentN n es q d F 0 = (k, false) := by
      rw [← hI2, hkF2, Nat.sub_self]; rfl
    rw [hw]
    simp -implicitDefEqProofs (disch := omega) [List.getElem?_cons_zero, List.getElem?_cons_succ, wrap_id, hlt']
    (refine fin0 trivial rfl ?_; simp -implicitDefEqProofs (disch := omega) [List.getElem?_cons_zero, List.getElem?_cons_succ, idx, wrap_id, hsl])
  have hlt' : (k : Int) < kk := by omega
  obtain ⟨g, hg'⟩ : ∃ g, F - k = g + 1 := ⟨F - k - 1, by omega⟩
  simp -implicitDefEqProofs (disch := omega) [List.getElem?_cons_zero, List.getElem?_cons_succ, wrap_id, hlt']
  refine HC_of_PC rfl (rready_ok hg hcl) ?_
  by_cases he : rdyL n es q (rdC n es q d k) = []
  · have hw : wentN n es q d F 0 = (k, false) := by rw [← hI2, hg', wentN_succ, if_pos he]
    rw [hw, he]
    simp -implicitDefEqProofs (disch := omega) [List.getElem?_cons_zero, List.getElem?_cons_succ, wrap_id]
    (refine fin0 trivial rfl ?_; simp -implicitDefEqProofs (disch := omega) [List.getElem?_cons_zero, List.getElem?_cons_succ, idx, wrap_id, hsl])
  have hpos : 0 < (rdyL n es q (rdC n es q d k)).length := List.length_pos_iff.2 he
  have h12 := rdyL_12 hg (q := q) (rdC n es q d k)
  have hlv := rdyL_lt (n := n) (es := es) (q := q) (rdC n es q d k)
  have hsum := rdS_sum (n := n) (es := es) (q := q) (d := d) k
  have hfd := rfired_ok hg hcl ((rdC_bd hg hd hdb (by omega) k).more (by omega)) _ h12 hlv
  rw [← rdC_succ hg hd] at hfd
  have hS1 : rdS n es q d (k + 1) = incL (rdS n es q d k) (rdyL n es q (rdC n es q d k)) := rfl
  have hsb := rdS_bd (n := n) (by omega) (es := es) (q := q) (d := d)
  obtain ⟨l, hl⟩ : ∃ l, l = rdyL n es q (rdC n es q d k) := ⟨_, rfl⟩
  obtain ⟨f, hf⟩ : ∃ f, f = sumI (rdS n es q d k) := ⟨_, rfl⟩
  rw [← hl] at hpos h12 hlv hfd hS1 he hsum ⊢
  rw [← hf] at hsum hI3 hI4 ⊢
  have hne : ¬ (l.length : Int) = 0 := by omega
  by_cases e2 : 1048576 < f + l.length
  · have hw : wentN n es q d F 0 = (k, true) := by rw [← hI2, hg', wentN_succ, if_neg (by rw [← hl]; exact he), if_pos (by omega)]
    rw [hw]
    simp -implicitDefEqProofs (disch := omega) [List.getElem?_cons_zero, List.getElem?_cons_succ, wrap_id, hne, he, e2]
    (refine fin0 trivial rfl ?_; simp -implicitDefEqProofs (disch := omega) [List.getElem?_cons_zero, List.getElem?_cons_succ, idx, wrap_id, hsl])
  have hw : wentN n es q d (F - (k + 1)) (k + 1) = wentN n es q d F 0 := by
    rw [← hI2, hg', wentN_succ, if_neg (by rw [← hl]; exact he), if_neg (by omega)]
    congr 1
    omega
  simp -implicitDefEqProofs (disch := omega) [List.getElem?_cons_zero, List.getElem?_cons_succ, wrap_id, hne, he, e2]
  refine HC_of_PC rfl (hfd) ?_
  simp -implicitDefEqProofs (disch := omega) [List.getElem?_cons_zero, List.getElem?_cons_succ, wrap_id]
  refine loopW l.length (fun j st => st = ⟨[(14, .i j), (13, .p (.is l)), (12, .i (f + l.length)), (11, .ptr 3 1 0 0), (10, .p (.is (valsL n es))), (9, .p (.iss (rowsL n es))), (8, .ptr 1 1 0 0), (1, .i q), (3, .i kk)],
      [.box (.p (G n es)), .box (.p (.agg [.nil, .nil, .i 0, .b false])), rowI (incL (rdS n es q d k) (l.take j)), .box (.agg [.p (.is (rdC n es q d (k + 1))), .os 2 0 n, .i k, .b false])]⟩)
    (wk_norm [0, 1, 2, 3] [14, 13, 12, 11, 10, 9, 8, 1, 3] rfl rfl) rfl ?_
  rintro j st hj rfl
  by_cases hjl : j < l.length
  · obtain ⟨u, hu, hun⟩ := hlv l[j] (List.getElem_mem hjl)
    obtain ⟨S, hS⟩ : ∃ S, S = incL (rdS n es q d k) (l.take j) := ⟨_, rfl⟩
    have hSl : S.length = n := by rw [hS, incL_len, hsl]
    have huS : u < S.length := by omega
    have hSb : 0 ≤ S[u] ∧ S[u] ≤ 100000012 := by
      have := incL_bd (l.take j) (rdS n es q d k) u
      have h2 := hsb u k
      rw [← hS, getD_get huS] at this
      rw [List.length_take] at this
      omega
    have hnx : incL (rdS n es q d k) (l.take (j + 1)) = moreS S u 1 := by
      rw [List.take_add_one, List.getElem?_eq_getElem hjl, Option.toList_some, incL_snoc, hu, hS, Int.toNat_natCast]
    have hset : AO.row ((S.map PV.i).set u (PV.i (S[u] + 1))) 1 3 false = rowI (moreS S u 1) := by
      rw [moreS, getD_get huS, rowI, List.map_set]
    rw [← hS]
    simp -implicitDefEqProofs (disch := omega) [List.getElem?_cons_zero, List.getElem?_cons_succ, wrap_id, hjl, hu, hun, hSl, huS, hset]
    exact round_end [0, 1, 2, 3] [14, 13, 12, 11, 10, 9, 8, 1, 3] hjl rfl (by rw [hnx]; rfl)
  · have hjl2 : j = l.length := by omega
    subst hjl2
    rw [List.take_length, ← hS1]
    simp -implicitDefEqProofs (disch := omega) [List.getElem?_cons_zero, List.getElem?_cons_succ, wrap_id]
    exact round_end [0, 1, 2, 3] [12, 11, 10, 9, 8, 1, 3] (by omega) rfl ⟨⟨by omega, hw, by omega, by omega⟩, by rw [hsum]; rfl⟩
end
end Go.Proofs.Ytamiekhoaggpkaa
end
section
set_option linter.unusedSimpArgs false
set_option linter.unusedVariables false
namespace Go.Proofs.Ytamiekhoaggpkaa
open Go.Abs Go.Sand
section
variable (N : Int) (es : List Ed) (q : Int) (d : List Int) (hel : es.length ≤ 900) (hd : d.length ≤ 1000)
include hel hd
theorem rround20_ok : PC Try.prog 14 [G N es, .i q, .is d] (.tup [.p (.is (roundR N es q d).1), .p (.is (roundR N es q d).2.1), .i (roundR N es q d).2.2]) [] := by
  refine PC_of_W cfn14 ?_
  simp -implicitDefEqProofs (disch := omega) [c14, List.getElem?_cons_zero, List.getElem?_cons_succ, wrap_id]
  refine HC_of_PC rfl (r19check_ok N es q d hel hd) ?_
  by_cases h0 : stE N es q d = 0
  rotate_left
  · simp -implicitDefEqProofs (disch := omega) [List.getElem?_cons_zero, List.getElem?_cons_succ, wrap_id, h0]
    refine finW (Wk_nil0 6 rfl) ?_
    refine finW (Wk_nil0 7 rfl) ?_
    (refine fin0 trivial rfl ?_; simp -implicitDefEqProofs (disch := omega) [List.getElem?_cons_zero, List.getElem?_cons_succ, idx, wrap_id, roundR, h0])
  obtain ⟨n, rfl, h⟩ := st_ok h0
  have hn := h.n12
  have hdl := h.c.len
  have e2 : roundR n es q d = if largeE (rdC n es q d 1) = 0 then (rdC n es q d 1, rdyL n es q d, 0) else ([], [], 11) := by rw [roundR, if_neg (by simp [h0]), Int.toNat_natCast]
  have e1 := rdC_succ h.g hdl (q := q) 0
  rw [rdC_zero h.g hdl] at e1
  have hcl := rdC_len (n := n) (q := q) (es := es) hdl 1
  have hla := largeE_all (c := rdC n es q d 1) (by rw [hcl]; exact h.n1) (by rw [hcl]; exact hn)
  have hfd := rfired_ok h.g hdl (h.c.bd.more (by omega)) _ (rdyL_12 h.g (q := q) d) (rdyL_lt d)
  rw [← e1] at hfd
  simp -implicitDefEqProofs (disch := omega) [List.getElem?_cons_zero, List.getElem?_cons_succ, wrap_id, h0]
  refine HC_of_PC rfl (valences_ok n es hel h.g) ?_
  simp -implicitDefEqProofs (disch := omega) [List.getElem?_cons_zero, List.getElem?_cons_succ, wrap_id]
  refine HC_of_PC rfl (rready_ok h.g hdl) ?_
  simp -implicitDefEqProofs (disch := omega) [List.getElem?_cons_zero, List.getElem?_cons_succ, wrap_id]
  refine HC_of_PC rfl (rows_ok n es hel h.g) ?_
  simp -implicitDefEqProofs (disch := omega) [List.getElem?_cons_zero, List.getElem?_cons_succ, wrap_id]
  refine HC_of_PC rfl (hfd) ?_
  simp -implicitDefEqProofs (disch := omega) [List.getElem?_cons_zero, List.getElem?_cons_succ, wrap_id]
  refine HC_of_PC rfl (rbounded_ok (rdC n es q d 1) (by omega)) ?_
  cases hL : (rdC n es q d 1).all inB
  · rw [hL] at hla
    rw [hla, if_neg (by simp)] at e2
    simp -implicitDefEqProofs (disch := omega) [List.getElem?_cons_zero, List.getElem?_cons_succ, wrap_id, hL]
    refine finW (Wk_nil0 6 rfl) ?_
    refine finW (Wk_nil0 7 rfl) ?_
    (refine fin0 trivial rfl ?_; simp -implicitDefEqProofs (disch := omega) [List.getElem?_cons_zero, List.getElem?_cons_succ, idx, wrap_id, e2])
  · rw [hL] at hla
    rw [hla, if_pos (by simp)] at e2
    simp -implicitDefEqProofs (disch := omega) [List.getElem?_cons_zero, List.getElem?_cons_succ, wrap_id, hL]
    (refine fin0 trivial rfl ?_; simp -implicitDefEqProofs (disch := omega) [List.getElem?_cons_zero, List.getElem?_cons_succ, idx, wrap_id, e2])
theorem rrun20_ok : PC Try.prog 18 [G N es, .i q, .is d] (.tup [.p (.is (runR N es q d (-1)).1), .p (.is (runR N es q d (-1)).2.1), .i (runR N es q d (-1)).2.2.1, .i (runR N es q d (-1)).2.2.2]) [] := by
  refine PC_of_W cfn18 ?_
  simp -implicitDefEqProofs (disch := omega) [c18, List.getElem?_cons_zero, List.getElem?_cons_succ, wrap_id]
  refine HC_of_PC rfl (r19check_ok N es q d hel hd) ?_
  by_cases h0 : stE N es q d = 0
  rotate_left
  · simp -implicitDefEqProofs (disch := omega) [List.getElem?_cons_zero, List.getElem?_cons_succ, wrap_id, h0]
    refine finW (Wk_nil0 6 rfl) ?_
    refine finW (Wk_nil0 7 rfl) ?_
    (refine fin0 trivial rfl ?_; simp -implicitDefEqProofs (disch := omega) [List.getElem?_cons_zero, List.getElem?_cons_succ, idx, wrap_id, runR, h0])
  obtain ⟨n, rfl, h⟩ := st_ok h0
  have hdl := h.c.len
  have e2 : runR n es q d (-1) = playedR n es q d (-1) := by rw [runR, if_neg (by simp [h0]), Int.toNat_natCast]
  have e3 : plF (-1) = 1048577 := rfl
  rw [playedR, e3] at e2
  have hw := rwent_ok h.g hdl (q := q) (h.c.bd.more (by omega)) hel (kk := 1048577) (by omega)
  have e4 : (1048577 : Int).toNat = 1048577 := rfl
  rw [e4] at hw
  obtain ⟨w, hwd⟩ : ∃ w, w = wentN n es q d 1048577 0 := ⟨_, rfl⟩
  rw [← hwd] at hw e2
  simp -implicitDefEqProofs (disch := omega) [List.getElem?_cons_zero, List.getElem?_cons_succ, wrap_id, h0]
  refine HC_of_PC rfl (hw) ?_
  cases ho : w.2
  rotate_left
  · rw [ho, if_pos rfl] at e2
    simp -implicitDefEqProofs (disch := omega) [List.getElem?_cons_zero, List.getElem?_cons_succ, wrap_id]
    refine finW (Wk_nil0 6 rfl) ?_
    refine finW (Wk_nil0 7 rfl) ?_
    (refine fin0 trivial rfl ?_; simp -implicitDefEqProofs (disch := omega) [List.getElem?_cons_zero, List.getElem?_cons_succ, idx, wrap_id, e2])
  rw [ho, if_neg (by simp)] at e2
  have hcl := rdC_len (n := n) (q := q) (es := es) hdl w.1
  have hla := largeE_all (c := rdC n es q d w.1) (by rw [hcl]; exact h.n1) (by rw [hcl]; exact h.n12)
  simp -implicitDefEqProofs (disch := omega) [List.getElem?_cons_zero, List.getElem?_cons_succ, wrap_id]
  refine HC_of_PC rfl (rbounded_ok (rdC n es q d w.1) (by omega)) ?_
  cases hL : (rdC n es q d w.1).all inB
  · rw [hL] at hla
    rw [hla, if_neg (by simp)] at e2
    simp -implicitDefEqProofs (disch := omega) [List.getElem?_cons_zero, List.getElem?_cons_succ, wrap_id, hL]
    refine finW (Wk_nil0 6 rfl) ?_
    refine finW (Wk_nil0 7 rfl) ?_
    (refine fin0 trivial rfl ?_; simp -implicitDefEqProofs (disch := omega) [List.getElem?_cons_zero, List.getElem?_cons_succ, idx, wrap_id, e2])
  · rw [hL] at hla
    rw [hla, if_pos (by simp)] at e2
    simp -implicitDefEqProofs (disch := omega) [List.getElem?_cons_zero, List.getElem?_cons_succ, wrap_id, hL]
    (refine fin0 trivial rfl ?_; simp -implicitDefEqProofs (disch := omega) [List.getElem?_cons_zero, List.getElem?_cons_succ, idx, wrap_id, e2])
theorem rrounds20_ok (kk : Int) : PC Try.prog 31 [G N es, .i q, .is d, .i kk] (.tup [.p (.is (roundsR N es q d kk).1), .p (.is (roundsR N es q d kk).2.1), .i (roundsR N es q d kk).2.2]) [] := by
  refine PC_of_W cfn31 ?_
  simp -implicitDefEqProofs (disch := omega) [c31, List.getElem?_cons_zero, List.getElem?_cons_succ, wrap_id]
  refine HC_of_PC rfl (r19check_ok N es q d hel hd) ?_
  by_cases h0 : stE N es q d = 0
  rotate_left
  · simp -implicitDefEqProofs (disch := omega) [List.getElem?_cons_zero, List.getElem?_cons_succ, wrap_id, h0]
    refine finW (Wk_nil0 8 rfl) ?_
    refine finW (Wk_nil0 9 rfl) ?_
    (refine fin0 trivial rfl ?_; simp -implicitDefEqProofs (disch := omega) [List.getElem?_cons_zero, List.getElem?_cons_succ, idx, wrap_id, roundsR, h0])
  obtain ⟨n, rfl, h⟩ := st_ok h0
  have hdl := h.c.len
  by_cases h1 : kk < 0
  · have e2 : roundsR n es q d kk = ([], [], 2) := by rw [roundsR, if_neg (by simp [h0]), if_pos (.inl h1)]
    simp -implicitDefEqProofs (disch := omega) [List.getElem?_cons_zero, List.getElem?_cons_succ, wrap_id, h0, h1]
    refine finW (Wk_nil0 8 rfl) ?_
    refine finW (Wk_nil0 9 rfl) ?_
    (refine fin0 trivial rfl ?_; simp -implicitDefEqProofs (disch := omega) [List.getElem?_cons_zero, List.getElem?_cons_succ, idx, wrap_id, e2])
  by_cases h2 : 4096 < kk
  · have e2 : roundsR n es q d kk = ([], [], 2) := by rw [roundsR, if_neg (by simp [h0]), if_pos (.inr h2)]
    simp -implicitDefEqProofs (disch := omega) [List.getElem?_cons_zero, List.getElem?_cons_succ, wrap_id, h0, h1, h2]
    refine finW (Wk_nil0 8 rfl) ?_
    refine finW (Wk_nil0 9 rfl) ?_
    (refine fin0 trivial rfl ?_; simp -implicitDefEqProofs (disch := omega) [List.getElem?_cons_zero, List.getElem?_cons_succ, idx, wrap_id, e2])
  have e2 : roundsR n es q d kk = ((playedR n es q d kk).1, (playedR n es q d kk).2.1, (playedR n es q d kk).2.2.2) := by rw [roundsR, if_neg (by simp [h0]), if_neg (by omega), Int.toNat_natCast]
  have e3 : plF kk = kk.toNat := by rw [plF, if_neg h1]
  obtain ⟨R, hR⟩ : ∃ R, R = playedR n es q d kk := ⟨_, rfl⟩
  rw [← hR] at e2
  rw [playedR, e3] at hR
  have hw := rwent_ok h.g hdl (q := q) (h.c.bd.more (by omega)) hel (kk := kk) (by omega)
  obtain ⟨w, hwd⟩ : ∃ w, w = wentN n es q d kk.toNat 0 := ⟨_, rfl⟩
  rw [← hwd] at hw hR
  simp -implicitDefEqProofs (disch := omega) [List.getElem?_cons_zero, List.getElem?_cons_succ, wrap_id, h0, h1, h2]
  refine HC_of_PC rfl (hw) ?_
  cases ho : w.2
  rotate_left
  · rw [ho, if_pos rfl] at hR
    simp -implicitDefEqProofs (disch := omega) [List.getElem?_cons_zero, List.getElem?_cons_succ, wrap_id]
    refine finW (Wk_nil0 8 rfl) ?_
    refine finW (Wk_nil0 9 rfl) ?_
    (refine fin0 trivial rfl ?_; simp -implicitDefEqProofs (disch := omega) [List.getElem?_cons_zero, List.getElem?_cons_succ, idx, wrap_id, e2, hR])
  rw [ho, if_neg (by simp)] at hR
  have hcl := rdC_len (n := n) (q := q) (es := es) hdl w.1
  have hla := largeE_all (c := rdC n es q d w.1) (by rw [hcl]; exact h.n1) (by rw [hcl]; exact h.n12)
  simp -implicitDefEqProofs (disch := omega) [List.getElem?_cons_zero, List.getElem?_cons_succ, wrap_id]
  refine HC_of_PC rfl (rbounded_ok (rdC n es q d w.1) (by omega)) ?_
  cases hL : (rdC n es q d w.1).all inB
  · rw [hL] at hla
    rw [hla, if_neg (by simp)] at hR
    simp -implicitDefEqProofs (disch := omega) [List.getElem?_cons_zero, List.getElem?_cons_succ, wrap_id, hL]
    refine finW (Wk_nil0 8 rfl) ?_
    refine finW (Wk_nil0 9 rfl) ?_
    (refine fin0 trivial rfl ?_; simp -implicitDefEqProofs (disch := omega) [List.getElem?_cons_zero, List.getElem?_cons_succ, idx, wrap_id, e2, hR])
  · rw [hL] at hla
    rw [hla, if_pos (by simp)] at hR
    simp -implicitDefEqProofs (disch := omega) [List.getElem?_cons_zero, List.getElem?_cons_succ, wrap_id, hL]
    (refine fin0 trivial rfl ?_; simp -implicitDefEqProofs (disch := omega) [List.getElem?_cons_zero, List.getElem?_cons_succ, idx, wrap_id, e2, hR])
omit hel in
theorem paid_ok : PC Try.prog 68 [.is d] (.b (!negA d)) [] := by
  have hneg : negA d = !(d.all fun x => decide (0 ≤ x)) := by
    unfold negA
    rw [Bool.eq_iff_iff]
    simp
  rw [hneg, Bool.not_not]
  refine PC_of_W cfn68 ?_
  simp -implicitDefEqProofs (disch := omega) [c68, List.getElem?_cons_zero, List.getElem?_cons_succ, wrap_id]
  refine loopW d.length (fun k s => s = ⟨[(3, .i k), (0, .p (.is d))], []⟩ ∧ (d.all fun x => decide (0 ≤ x)) = (d.drop k).all fun x => decide (0 ≤ x)) (wk_norm [] [3, 0] rfl rfl) ⟨rfl, rfl⟩ ?_
  rintro k s hk ⟨rfl, hI⟩
  by_cases hlt : k < d.length
  · rw [drop_all _ d k hlt] at hI
    by_cases h1 : d[k] < 0
    · have hv : decide (0 ≤ d[k]) = false := by simp; omega
      simp -implicitDefEqProofs (disch := omega) [List.getElem?_cons_zero, List.getElem?_cons_succ, wrap_id, hlt, h1]
      (refine fin0 trivial rfl ?_; simp -implicitDefEqProofs (disch := omega) [List.getElem?_cons_zero, List.getElem?_cons_succ, idx, wrap_id, hI, hv])
    · have hv : decide (0 ≤ d[k]) = true := by simp; omega
      simp -implicitDefEqProofs (disch := omega) [List.getElem?_cons_zero, List.getElem?_cons_succ, wrap_id, hlt, h1]
      exact round_end [] [3, 0] hlt rfl ⟨rfl, by rw [hI, hv]; rfl⟩
  · simp -implicitDefEqProofs (disch := omega) [List.getElem?_cons_zero, List.getElem?_cons_succ, wrap_id, hlt]
    (refine fin0 trivial rfl ?_; simp -implicitDefEqProofs (disch := omega) [List.getElem?_cons_zero, List.getElem?_cons_succ, idx, wrap_id, hI, List.drop_of_length_le (Nat.le_of_not_lt hlt)])
theorem r20check_ok : PC Try.prog 26 [G N es, .is d] (.i (pcE N es d)) [] := by
  refine PC_of_W cfn26 ?_
  simp -implicitDefEqProofs (disch := omega) [c26, List.getElem?_cons_zero, List.getElem?_cons_succ, wrap_id]
  refine HC_of_PC rfl (rcheck_ok N es (by omega)) ?_
  by_cases hgc : gcheck N es = 0
  rotate_left
  · simp -implicitDefEqProofs (disch := omega) [List.getElem?_cons_zero, List.getElem?_cons_succ, wrap_id, hgc]
    (refine fin0 trivial rfl ?_; simp -implicitDefEqProofs (disch := omega) [List.getElem?_cons_zero, List.getElem?_cons_succ, idx, wrap_id, pcE, pjE, hgc])
  have hg := gcheck_ok hgc
  have hn1 := hg.n1
  have hn12 := hg.n12
  obtain ⟨n, rfl⟩ : ∃ n : Nat, N = n := ⟨N.toNat, by omega⟩
  simp -implicitDefEqProofs (disch := omega) [List.getElem?_cons_zero, List.getElem?_cons_succ, wrap_id, hgc]
  refine HC_of_PC rfl (rconn19_ok n es (by omega) hg.right hel) ?_
  by_cases hp : partsN es n = 1
  rotate_left
  · simp -implicitDefEqProofs (disch := omega) [List.getElem?_cons_zero, List.getElem?_cons_succ, wrap_id, hp]
    (refine fin0 trivial rfl ?_; simp -implicitDefEqProofs (disch := omega) [List.getElem?_cons_zero, List.getElem?_cons_succ, idx, wrap_id, pcE, pjE, hgc, hp])
  simp -implicitDefEqProofs (disch := omega) [List.getElem?_cons_zero, List.getElem?_cons_succ, wrap_id, hp]
  refine HC_of_PC rfl (dcheck_ok d n (by omega)) ?_
  by_cases h1 : dcheck d n = 0
  rotate_left
  · simp -implicitDefEqProofs (disch := omega) [List.getElem?_cons_zero, List.getElem?_cons_succ, wrap_id, h1]
    (refine fin0 trivial rfl ?_; simp -implicitDefEqProofs (disch := omega) [List.getElem?_cons_zero, List.getElem?_cons_succ, idx, wrap_id, pcE, pjE, hgc, hp, h1])
  obtain ⟨hl, hb, -, -⟩ := dcheck_bd h1
  simp -implicitDefEqProofs (disch := omega) [List.getElem?_cons_zero, List.getElem?_cons_succ, wrap_id, h1]
  refine HC_of_PC rfl (paid_ok d hd) ?_
  cases h2 : negA d
  rotate_left
  · simp -implicitDefEqProofs (disch := omega) [List.getElem?_cons_zero, List.getElem?_cons_succ, wrap_id, h2]
    (refine fin0 trivial rfl ?_; simp -implicitDefEqProofs (disch := omega) [List.getElem?_cons_zero, List.getElem?_cons_succ, idx, wrap_id, pcE, pjE, hgc, hp, h1, h2])
  simp -implicitDefEqProofs (disch := omega) [List.getElem?_cons_zero, List.getElem?_cons_succ, wrap_id, h2]
  refine HC_of_PC rfl (total_ok d hd (hb.more (by omega))) ?_
  by_cases h3 : 1048576 < sumI d
  · simp -implicitDefEqProofs (disch := omega) [List.getElem?_cons_zero, List.getElem?_cons_succ, wrap_id, h3]
    (refine fin0 trivial rfl ?_; simp -implicitDefEqProofs (disch := omega) [List.getElem?_cons_zero, List.getElem?_cons_succ, idx, wrap_id, pcE, pjE, hgc, hp, h1, h2, h3])
  · simp -implicitDefEqProofs (disch := omega) [List.getElem?_cons_zero, List.getElem?_cons_succ, wrap_id, h3]
    (refine fin0 trivial rfl ?_; simp -implicitDefEqProofs (disch := omega) [List.getElem?_cons_zero, List.getElem?_cons_succ, idx, wrap_id, pcE, pjE, hgc, hp, h1, h2, h3])
theorem rclosed20_ok : PC Try.prog 22 [G N es, .is d] (.tup [.p (.is (closedR N es d).1), .p (.is (closedR N es d).2.1), .i (closedR N es d).2.2]) [] := by
  refine PC_of_W cfn22 ?_
  simp -implicitDefEqProofs (disch := omega) [c22, List.getElem?_cons_zero, List.getElem?_cons_succ, wrap_id]
  refine HC_of_PC rfl (r20check_ok N es d hel hd) ?_
  by_cases h0 : pcE N es d = 0
  rotate_left
  · simp -implicitDefEqProofs (disch := omega) [List.getElem?_cons_zero, List.getElem?_cons_succ, wrap_id, h0]
    refine finW (Wk_nil0 4 rfl) ?_
    refine finW (Wk_nil0 5 rfl) ?_
    (refine fin0 trivial rfl ?_; simp -implicitDefEqProofs (disch := omega) [List.getElem?_cons_zero, List.getElem?_cons_succ, idx, wrap_id, closedR, h0])
  obtain ⟨n, rfl, h⟩ := pc_ok h0
  have hdl := h.len
  have e2 : closedR n es d = (rdC n es (-1) d 1, rdyL n es (-1) d, 0) := by rw [closedR, if_neg (by simp [h0]), Int.toNat_natCast]
  have e1 := rdC_succ h.g hdl (q := -1) 0
  rw [rdC_zero h.g hdl] at e1
  have hfd := rfired_ok h.g hdl (h.bd.more (by omega)) _ (rdyL_12 h.g (q := -1) d) (rdyL_lt d)
  rw [← e1] at hfd
  simp -implicitDefEqProofs (disch := omega) [List.getElem?_cons_zero, List.getElem?_cons_succ, wrap_id, h0]
  refine HC_of_PC rfl (valences_ok n es hel h.g) ?_
  simp -implicitDefEqProofs (disch := omega) [List.getElem?_cons_zero, List.getElem?_cons_succ, wrap_id]
  refine HC_of_PC rfl (rready_ok h.g hdl) ?_
  simp -implicitDefEqProofs (disch := omega) [List.getElem?_cons_zero, List.getElem?_cons_succ, wrap_id]
  refine HC_of_PC rfl (rows_ok n es hel h.g) ?_
  simp -implicitDefEqProofs (disch := omega) [List.getElem?_cons_zero, List.getElem?_cons_succ, wrap_id]
  refine HC_of_PC rfl (hfd) ?_
  simp -implicitDefEqProofs (disch := omega) [List.getElem?_cons_zero, List.getElem?_cons_succ, wrap_id]
  (refine fin0 trivial rfl ?_; simp -implicitDefEqProofs (disch := omega) [List.getElem?_cons_zero, List.getElem?_cons_succ, idx, wrap_id, e2])
end
section
variable (N : Int) (es : List Ed) (hel : es.length ≤ 900)
include hel
theorem rstraight_ok (n : Nat) (hg : GoodG n es) : PC Try.prog 97 [G n es] (.i ((endsL (llE es)).length : Nat)) [] := by
  have hn := hg.n12
  have hv2 := val_twice' hg
  have hsb : ∀ k : Nat, 0 ≤ sumN (fun v : Nat => valTo es v n) k ∧ sumN (fun v : Nat => valTo es v n) k ≤ 600 * k := by
    intro k
    induction k with
    | zero => simp [sumN]
    | succ k ih =>
      have := val_bd hg k
      rw [sumN]
      push_cast
      omega
  obtain ⟨m, hm⟩ : ∃ m, m = (endsL (llE es)).length := ⟨_, rfl⟩
  rw [← hm] at hv2 ⊢
  refine PC_of_W cfn97 ?_
  simp -implicitDefEqProofs (disch := omega) [c97, List.getElem?_cons_zero, List.getElem?_cons_succ, wrap_id]
  refine loopW n (fun k s => s = ⟨[(4, .i k), (3, .i (sumN (fun v : Nat => valTo es v n) k)), (1, .ptr 0 1 0 0)], [.box (.p (G n es))]⟩) (Wk_keep [4, 3, 1]) rfl ?_
  rintro k s hk rfl
  have hs1 := hsb k
  have hs2 := hsb (k + 1)
  by_cases hlt : k < n
  · rw [sumN] at hs2
    simp -implicitDefEqProofs (disch := omega) [List.getElem?_cons_zero, List.getElem?_cons_succ, wrap_id, hlt]
    refine HC_of_PC rfl (rval_ok n k es (by omega) hg.right (by omega)) ?_
    simp -implicitDefEqProofs (disch := omega) [List.getElem?_cons_zero, List.getElem?_cons_succ, wrap_id]
    exact round_end [0] [4, 3, 1] hlt rfl (by rw [sumN]; rfl)
  · have hkn : k = n := by omega
    subst hkn
    rw [hv2]
    simp -implicitDefEqProofs (disch := omega) [List.getElem?_cons_zero, List.getElem?_cons_succ, wrap_id]
    (refine fin0 trivial rfl ?_; simp -implicitDefEqProofs (disch := omega) [List.getElem?_cons_zero, List.getElem?_cons_succ, idx, wrap_id])
theorem rsure_ok (n : Nat) (c : Int) (hg : GoodG n es) : PC Try.prog 71 [G n es, .i c] (.i (certV n es c)) [] := by
  have hn := hg.n12
  have hml := ends_len (llE_good hg).right
  have hll := llE_len es
  have hst := rstraight_ok es hel n hg
  obtain ⟨m, hm⟩ : ∃ m, m = (endsL (llE es)).length := ⟨_, rfl⟩
  have hv : certV n es c = if n = 1 ∨ c < m then 1 else if 2 * m - n < c then -1 else 0 := by rw [certV, hm]
  rw [← hm] at hml hst
  refine PC_of_W cfn71 ?_
  simp -implicitDefEqProofs (disch := omega) [c71, List.getElem?_cons_zero, List.getElem?_cons_succ, wrap_id]
  refine HC_of_PC rfl (hst) ?_
  by_cases h3 : n = 1
  · have hv' : certV n es c = 1 := by rw [hv, if_pos (.inl h3)]
    have h3' : ((n : Int) = 1) = True := eq_true (by omega)
    simp -implicitDefEqProofs (disch := omega) [List.getElem?_cons_zero, List.getElem?_cons_succ, wrap_id, h3']
    (refine fin0 trivial rfl ?_; simp -implicitDefEqProofs (disch := omega) [List.getElem?_cons_zero, List.getElem?_cons_succ, idx, wrap_id, hv'])
  have h3' : ((n : Int) = 1) = False := eq_false (by omega)
  by_cases h4 : c < m
  · have hv' : certV n es c = 1 := by rw [hv, if_pos (.inr h4)]
    simp -implicitDefEqProofs (disch := omega) [List.getElem?_cons_zero, List.getElem?_cons_succ, wrap_id, h3', h4]
    (refine fin0 trivial rfl ?_; simp -implicitDefEqProofs (disch := omega) [List.getElem?_cons_zero, List.getElem?_cons_succ, idx, wrap_id, hv'])
  by_cases h5 : 2 * m - n < c
  · have hv' : certV n es c = -1 := by rw [hv, if_neg (by omega), if_pos h5]
    simp -implicitDefEqProofs (disch := omega) [List.getElem?_cons_zero, List.getElem?_cons_succ, wrap_id, h3', h4, h5]
    (refine fin0 trivial rfl ?_; simp -implicitDefEqProofs (disch := omega) [List.getElem?_cons_zero, List.getElem?_cons_succ, idx, wrap_id, hv'])
  · have hv' : certV n es c = 0 := by rw [hv, if_neg (by omega), if_neg h5]
    simp -implicitDefEqProofs (disch := omega) [List.getElem?_cons_zero, List.getElem?_cons_succ, wrap_id, h3', h4, h5]
    (refine fin0 trivial rfl ?_; simp -implicitDefEqProofs (disch := omega) [List.getElem?_cons_zero, List.getElem?_cons_succ, idx, wrap_id, hv'])
theorem rcertain_ok (c : Int) : PC Try.prog 28 [G N es, .i c] (.tup [.i (certR N es c).1, .i (certR N es c).2]) [] := by
  refine PC_of_W cfn28 ?_
  simp -implicitDefEqProofs (disch := omega) [c28, List.getElem?_cons_zero, List.getElem?_cons_succ, wrap_id]
  refine HC_of_PC rfl (rcheck_ok N es (by omega)) ?_
  by_cases hgc : gcheck N es = 0
  rotate_left
  · simp -implicitDefEqProofs (disch := omega) [List.getElem?_cons_zero, List.getElem?_cons_succ, wrap_id, hgc]
    (refine fin0 trivial rfl ?_; simp -implicitDefEqProofs (disch := omega) [List.getElem?_cons_zero, List.getElem?_cons_succ, idx, wrap_id, certR, pjE, hgc])
  have hg := gcheck_ok hgc
  have hn1 := hg.n1
  have hn12 := hg.n12
  obtain ⟨n, rfl⟩ : ∃ n : Nat, N = n := ⟨N.toNat, by omega⟩
  simp -implicitDefEqProofs (disch := omega) [List.getElem?_cons_zero, List.getElem?_cons_succ, wrap_id, hgc]
  refine HC_of_PC rfl (rconn19_ok n es (by omega) hg.right hel) ?_
  by_cases hp : partsN es n = 1
  rotate_left
  · simp -implicitDefEqProofs (disch := omega) [List.getElem?_cons_zero, List.getElem?_cons_succ, wrap_id, hp]
    (refine fin0 trivial rfl ?_; simp -implicitDefEqProofs (disch := omega) [List.getElem?_cons_zero, List.getElem?_cons_succ, idx, wrap_id, certR, pjE, hgc, hp])
  have h0 : pjE n es = 0 := by rw [pjE, if_neg (by simp [hgc]), Int.toNat_natCast, if_pos hp]
  by_cases h1 : c < 0
  · have e : certR n es c = (0, 2) := by rw [certR, if_neg (by simp [h0]), if_pos (.inl h1)]
    simp -implicitDefEqProofs (disch := omega) [List.getElem?_cons_zero, List.getElem?_cons_succ, wrap_id, hp, h1]
    (refine fin0 trivial rfl ?_; simp -implicitDefEqProofs (disch := omega) [List.getElem?_cons_zero, List.getElem?_cons_succ, idx, wrap_id, e])
  by_cases h2 : 1048576 < c
  · have e : certR n es c = (0, 2) := by rw [certR, if_neg (by simp [h0]), if_pos (.inr h2)]
    simp -implicitDefEqProofs (disch := omega) [List.getElem?_cons_zero, List.getElem?_cons_succ, wrap_id, hp, h1, h2]
    (refine fin0 trivial rfl ?_; simp -implicitDefEqProofs (disch := omega) [List.getElem?_cons_zero, List.getElem?_cons_succ, idx, wrap_id, e])
  have e : certR n es c = (certV n es c, 0) := by rw [certR, if_neg (by simp [h0]), if_neg (by omega), Int.toNat_natCast]
  simp -implicitDefEqProofs (disch := omega) [List.getElem?_cons_zero, List.getElem?_cons_succ, wrap_id, hp, h1, h2]
  refine HC_of_PC rfl (rsure_ok es hel n c hg) ?_
  simp -implicitDefEqProofs (disch := omega) [List.getElem?_cons_zero, List.getElem?_cons_succ, wrap_id]
  (refine fin0 trivial rfl ?_; simp -implicitDefEqProofs (disch := omega) [List.getElem?_cons_zero, List.getElem?_cons_succ, idx, wrap_id, e])
end
end Go.Proofs.Ytamiekhoaggpkaa
end
section
set_option linter.unusedSimpArgs false
set_option linter.unusedVariables false
namespace Go.Proofs.Ytamiekhoaggpkaa
open Go.Abs Go.Sand
/-- A divisor, as an array of twelve numbers. -/
def padI (d : List Int) : List Int := d ++ List.replicate (12 - d.length) 0
theorem padI_len {d : List Int} (h : d.length ≤ 12) : (padI d).length = 12 := by simp [padI]; omega
theorem padI_inj {a b : List Int} {n : Nat} (ha : a.length = n) (hb : b.length = n) (h : padI a = padI b) : a = b := by
  have := congrArg (List.take n) h
  unfold padI at this
  rwa [List.take_left' ha, List.take_left' hb] at this
theorem key_ok (d : List Int) (hd : d.length ≤ 12) : PC Try.prog 58 [.is d] (.p (.agg ((padI d).map PV.i))) [] := by
  refine PC_of_W cfn58 ?_
  rcases d with _ | ⟨x0, _ | ⟨x1, _ | ⟨x2, _ | ⟨x3, _ | ⟨x4, _ | ⟨x5, _ | ⟨x6, _ | ⟨x7, _ | ⟨x8, _ | ⟨x9, _ | ⟨x10, _ | ⟨x11, _ | ⟨x12, d⟩⟩⟩⟩⟩⟩⟩⟩⟩⟩⟩⟩⟩
  rotate_right
  · simp only [List.length_cons] at hd; omega
  all_goals
    simp -implicitDefEqProofs (disch := omega) [c58, List.getElem?_cons_zero, List.getElem?_cons_succ, wrap_id]
    (refine fin0 trivial rfl ?_; simp -implicitDefEqProofs (disch := omega) [List.getElem?_cons_zero, List.getElem?_cons_succ, idx, wrap_id, padI])
section
variable (n : Nat) (es : List Ed) (d : List Int)
/-- Where the divisor behind round k + 1 stood before. -/
def fstC (k : Nat) : Option Nat := (List.range (k + 1)).findIdx? fun i => decide (rdC n es (-1) d i = rdC n es (-1) d (k + 1))
end
theorem fstC_some {n : Nat} {es : List Ed} {d : List Int} {k i : Nat} (h : fstC n es d k = some i) : i ≤ k ∧ rdC n es (-1) d i = rdC n es (-1) d (k + 1) ∧ ∀ j, j < i → rdC n es (-1) d j ≠ rdC n es (-1) d (k + 1) := by
  unfold fstC at h
  obtain ⟨h1, h2, h3⟩ := List.findIdx?_eq_some_iff_getElem.1 h
  simp only [List.length_range] at h1
  refine ⟨by omega, by simpa using h2, fun j hj => ?_⟩
  have := h3 j hj
  simpa using this
theorem fstC_none {n : Nat} {es : List Ed} {d : List Int} {k : Nat} (h : fstC n es d k = none) : ∀ j, j ≤ k → rdC n es (-1) d j ≠ rdC n es (-1) d (k + 1) := by
  unfold fstC at h
  have := List.findIdx?_eq_none_iff.1 h
  intro j hj
  have := this j (List.mem_range.2 (by omega))
  simpa using this
theorem fstC_at {n : Nat} {es : List Ed} {d : List Int} {k i : Nat} (h1 : i ≤ k) (h2 : rdC n es (-1) d i = rdC n es (-1) d (k + 1)) (h3 : ∀ j, j < i → rdC n es (-1) d j ≠ rdC n es (-1) d (k + 1)) : fstC n es d k = some i := by
  unfold fstC
  exact List.findIdx?_eq_some_iff_getElem.2 ⟨by simp; omega, by simpa using h2, fun j hj => by simpa using h3 j hj⟩
theorem fstC_no {n : Nat} {es : List Ed} {d : List Int} {k : Nat} (h : ∀ j, j ≤ k → rdC n es (-1) d j ≠ rdC n es (-1) d (k + 1)) : fstC n es d k = none := by
  unfold fstC
  exact List.findIdx?_eq_none_iff.2 fun j hj => by
    have := h j (by have := List.mem_range.1 hj; omega)
    simpa using this
end Go.Proofs.Ytamiekhoaggpkaa
end
