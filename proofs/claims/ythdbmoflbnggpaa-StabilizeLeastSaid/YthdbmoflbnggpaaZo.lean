/-
  Contracts: the largest avalanche, the greatest stable configuration.
-/
import Derived.Test.YthdbmoflbnggpaaZn
set_option linter.unusedSimpArgs false
set_option linter.unusedVariables false
namespace Go.Proofs.Ythdbmoflbnggpaa
open Go.Abs Go.Sand

def lgGo (n : Nat) (es : List Ed) (q : Int) (d : List Int) : List Nat → Int → Int → Int × Int × Int
  | [], best, size => (best, size, 0)
  | v :: vs, best, size => if (stabF n es q (moreD d v)).2 ≠ 0 then (0, 0, 12) else if size < sumI (stabF n es q (moreD d v)).1 then lgGo n es q d vs v (sumI (stabF n es q (moreD d v)).1) else lgGo n es q d vs best size
def lgR (N : Int) (es : List Ed) (q : Int) (d : List Int) : Int × Int × Int := if calmE N es q d ≠ 0 then (0, 0, calmE N es q d) else lgGo N.toNat es q d (List.range N.toNat) 0 (-1)
section
variable {n : Nat} {es : List Ed} {q : Int} {d : List Int}
theorem lg_over {k : Nat} (hk : k < n) {b s : Int} (h : (stabF n es q (moreD d k)).2 ≠ 0) : lgGo n es q d ((List.range n).drop k) b s = (0, 0, 12) := by
  rw [List.drop_eq_getElem_cons (by simpa using hk), List.getElem_range, lgGo, if_pos h]
theorem lg_more {k : Nat} (hk : k < n) {b s : Int} (h : (stabF n es q (moreD d k)).2 = 0) (h2 : s < sumI (stabF n es q (moreD d k)).1) : lgGo n es q d ((List.range n).drop k) b s = lgGo n es q d ((List.range n).drop (k + 1)) k (sumI (stabF n es q (moreD d k)).1) := by
  rw [List.drop_eq_getElem_cons (by simpa using hk), List.getElem_range, lgGo, if_neg (by simp [h]), if_pos h2]
theorem lg_less {k : Nat} (hk : k < n) {b s : Int} (h : (stabF n es q (moreD d k)).2 = 0) (h2 : ¬ s < sumI (stabF n es q (moreD d k)).1) : lgGo n es q d ((List.range n).drop k) b s = lgGo n es q d ((List.range n).drop (k + 1)) b s := by
  rw [List.drop_eq_getElem_cons (by simpa using hk), List.getElem_range, lgGo, if_neg (by simp [h]), if_neg h2]
theorem lg_end {b s : Int} : lgGo n es q d ((List.range n).drop n) b s = (b, s, 0) := by
  rw [List.drop_of_length_le (by simp), lgGo]
end
/-- While the greatest stable configuration is laid out. -/
def topTo (n : Nat) (es : List Ed) (q : Int) (k : Nat) : List Int := lisL n fun v => if v < k then (if (v : Int) = q then 0 else valTo es v n - 1) else 0
theorem topTo_len (n : Nat) (es : List Ed) (q : Int) (k : Nat) : (topTo n es q k).length = n := by simp [topTo, lisL]
theorem topTo_0 (n : Nat) (es : List Ed) (q : Int) : List.replicate n 0 = topTo n es q 0 := by
  refine List.ext_getElem (by simp [topTo_len]) fun i h1 h2 => by simp [topTo, lisL]
theorem topTo_set {n : Nat} {es : List Ed} {q : Int} {k : Nat} (hk : k < n) (h : (k : Int) ≠ q) : (topTo n es q k).set k (valTo es k n - 1) = topTo n es q (k + 1) := by
  refine ext_getD (by simp [topTo_len]) fun u hu => ?_
  have hu' : u < n := by simpa [topTo_len] using hu
  rw [getD_set]
  simp only [topTo, lisL, rg_get, List.length_map, List.length_range, hu', if_true]
  by_cases h1 : k = u
  · subst h1; simp [hk, h]
  · have h2 : (u < k + 1) = (u < k) := by simp only [eq_iff_iff]; omega
    simp only [h1, false_and, if_false, h2]
theorem topTo_skip {n : Nat} {es : List Ed} {q : Int} {k : Nat} (h : (k : Int) = q) : topTo n es q (k + 1) = topTo n es q k := by
  unfold topTo lisL
  refine List.map_congr_left fun u _ => ?_
  by_cases h1 : u = k
  · subst h1; simp [h]
  · have h2 : (u < k + 1) = (u < k) := by simp only [eq_iff_iff]; omega
    simp only [h2]
theorem topTo_n (n : Nat) (es : List Ed) (q : Int) : topTo n es q n = lisL n fun v => if (v : Int) = q then 0 else valTo es v n - 1 := by
  unfold topTo lisL
  refine List.map_congr_left fun u hu => ?_
  rw [if_pos (List.mem_range.1 hu)]
theorem calm_st {N q : Int} {es : List Ed} {d : List Int} (h : calmE N es q d = 0) : stE N es q d = 0 ∧ nxtF N.toNat es q d = none := by
  unfold calmE at h
  split at h
  · rename_i h1; exact absurd h h1
  · rename_i h1
    split at h
    · rename_i h2; exact ⟨Decidable.not_not.1 h1, h2⟩
    · cases h
section
variable (N : Int) (es : List Ed) (q : Int) (d : List Int) (hel : es.length ≤ 900) (hd : d.length ≤ 1000)
include hel hd
set_option maxRecDepth 10000 in
theorem largest_ok : PC Try.prog 24 [G N es, .i q, .is d] (.tup [.i (lgR N es q d).1, .i (lgR N es q d).2.1, .i (lgR N es q d).2.2]) [] := by
  refine PC_of_W cfn24 ?_
  simp -implicitDefEqProofs (disch := omega) [c24, List.getElem?_cons_zero, List.getElem?_cons_succ, wrap_id]
  refine HC_of_PC rfl (calm_ok es q d hel hd N) ?_
  by_cases h0 : calmE N es q d = 0
  · obtain ⟨h0s, h0n⟩ := calm_st h0
    obtain ⟨n, rfl, h⟩ := st_ok h0s
    have hb := st_bd h0s
    have hn := h.n12
    have hr : lgR n es q d = lgGo n es q d ((List.range n).drop 0) 0 (-1) := by rw [lgR, if_neg (by simp [h0])]; rfl
    simp -implicitDefEqProofs (disch := omega) [List.getElem?_cons_zero, List.getElem?_cons_succ, wrap_id, h0]
    refine loopW n (fun k st => ∃ b s : Int, lgR n es q d = lgGo n es q d ((List.range n).drop k) b s ∧ st = ⟨[(29, .i k), (28, .i n), (12, .i s), (11, .i b), (3, .ptr 0 1 0 0), (2, .p (.is d)), (1, .i q)], [.box (.p (G n es))]⟩)
      (wk_norm [0] [29, 28, 12, 11, 3, 2, 1] rfl rfl) ⟨0, -1, hr, rfl⟩ ?_
    rintro k st hk ⟨b, s, hI, rfl⟩
    by_cases hlt : k < n
    · have hm := more_conf h hb k
      simp -implicitDefEqProofs (disch := omega) [List.getElem?_cons_zero, List.getElem?_cons_succ, wrap_id, hlt]
      refine HC_of_PC rfl (more_ok es q d hel hd n k h hlt hb) ?_
      simp -implicitDefEqProofs (disch := omega) [List.getElem?_cons_zero, List.getElem?_cons_succ, wrap_id, bw_ren, bw_calm]
      rw [pile_past]
      refine settle_ok hm.g hm.v hm.c ?_
      by_cases h1 : (stabF n es q (moreD d k)).2 = 0
      · by_cases h2 : s < sumI (stabF n es q (moreD d k)).1
        · rw [lg_more hlt h1 h2] at hI
          simp -implicitDefEqProofs (disch := omega) [List.getElem?_cons_zero, List.getElem?_cons_succ, wrap_id, h1, h2]
          exact round_end [0] [29, 28, 12, 11, 3, 2, 1] hlt rfl ⟨_, _, hI, rfl⟩
        · rw [lg_less hlt h1 h2] at hI
          simp -implicitDefEqProofs (disch := omega) [List.getElem?_cons_zero, List.getElem?_cons_succ, wrap_id, h1, h2]
          exact round_end [0] [29, 28, 12, 11, 3, 2, 1] hlt rfl ⟨_, _, hI, rfl⟩
      · rw [lg_over hlt h1] at hI
        have h12 : (stabF n es q (moreD d k)).2 = 12 := by
          rcases (stabF_spec (d := moreD d k) hm.v).2 with h | h
          · exact absurd h.1 h1
          · exact h.1
        simp -implicitDefEqProofs (disch := omega) [List.getElem?_cons_zero, List.getElem?_cons_succ, wrap_id, h12]
        (refine fin0 trivial rfl ?_; simp -implicitDefEqProofs (disch := omega) [List.getElem?_cons_zero, List.getElem?_cons_succ, idx, wrap_id, hI])
    · have hkn : k = n := by omega
      rw [hkn, lg_end] at hI
      simp -implicitDefEqProofs (disch := omega) [List.getElem?_cons_zero, List.getElem?_cons_succ, wrap_id, hlt]
      (refine fin0 trivial rfl ?_; simp -implicitDefEqProofs (disch := omega) [List.getElem?_cons_zero, List.getElem?_cons_succ, idx, wrap_id, hI])
  · have hr : lgR N es q d = (0, 0, calmE N es q d) := by rw [lgR, if_pos h0]
    simp -implicitDefEqProofs (disch := omega) [List.getElem?_cons_zero, List.getElem?_cons_succ, wrap_id, h0]
    (refine fin0 trivial rfl ?_; simp -implicitDefEqProofs (disch := omega) [List.getElem?_cons_zero, List.getElem?_cons_succ, idx, wrap_id, hr])
set_option maxRecDepth 10000 in
theorem rlargest_ok : PC Try.prog 25 [G N es, .i q, .is d] (.tup [.i (lgR N es q d).1, .i (lgR N es q d).2.1, .i (lgR N es q d).2.2]) [] := by
  refine PC_of_W cfn25 ?_
  simp -implicitDefEqProofs (disch := omega) [c25, List.getElem?_cons_zero, List.getElem?_cons_succ, wrap_id]
  refine HC_of_PC rfl (r19check_ok N es q d hel hd) ?_
  by_cases h0 : stE N es q d = 0
  · obtain ⟨n, rfl, h⟩ := st_ok h0
    have hb := st_bd h0
    have hn := h.n12
    simp -implicitDefEqProofs (disch := omega) [List.getElem?_cons_zero, List.getElem?_cons_succ, wrap_id, h0]
    refine HC_of_PC rfl (calmR_ok n es q d hel h.g h.c.len) ?_
    by_cases h1 : nxtF n es q d = none
    · have hce : calmE n es q d = 0 := by simp [calmE, h0, h1]
      have hr : lgR n es q d = lgGo n es q d ((List.range n).drop 0) 0 (-1) := by rw [lgR, if_neg (by simp [hce])]; rfl
      simp -implicitDefEqProofs (disch := omega) [List.getElem?_cons_zero, List.getElem?_cons_succ, wrap_id, h1]
      refine loopW n (fun k st => ∃ b s : Int, lgR n es q d = lgGo n es q d ((List.range n).drop k) b s ∧ st = ⟨[(12, .i k), (11, .i s), (10, .i b), (3, .ptr 0 1 0 0), (2, .p (.is d)), (1, .i q)], [.box (.p (G n es))]⟩)
        (wk_norm [0] [12, 11, 10, 3, 2, 1] rfl rfl) ⟨0, -1, hr, rfl⟩ ?_
      rintro k st hk ⟨b, s, hI, rfl⟩
      by_cases hlt : k < n
      · have hm := more_conf h hb k
        obtain ⟨t, over, hf⟩ := exists_falls n es q (moreD d k)
        obtain ⟨f1, f2⟩ := falls_same hm.g hm.v hm.c.len hf
        have e5 := (stp_sum t hf.all).1
        simp -implicitDefEqProofs (disch := omega) [List.getElem?_cons_zero, List.getElem?_cons_succ, wrap_id, hlt]
        refine tree_join (s0 := ⟨[(13, .ptr 1 1 0 0), (12, .i k), (11, .i s), (10, .i b), (3, .ptr 0 1 0 0), (2, .p (.is d)), (1, .i q)], [.box (.p (G n es)), .box (.agg [.p (.is (movedE es (stp n es q (moreD d k) t) (moreD d k))), .p (.is (stp n es q (moreD d k) t)), .p (.is (mvs n es q (moreD d k) (min t 4096))), .i t, .b over])]⟩) ?_ ?_
        rotate_left
        · simp -implicitDefEqProofs (disch := omega) [List.getElem?_cons_zero, List.getElem?_cons_succ, wrap_id]
          repeat' (first
            | refine ⟨?_, ?_⟩
            | (refine HC_of_PC rfl (rmore_ok d hd k (by rw [h.c.len]; exact hlt) hb) ?_; simp -implicitDefEqProofs [List.getElem?_cons_zero, List.getElem?_cons_succ])
            | (refine HC_of_PC rfl (fallen_ok n es q (moreD d k) hel hm.g hm.c t over hf) ?_; simp -implicitDefEqProofs [List.getElem?_cons_zero, List.getElem?_cons_succ])
            | exact wk_norm [0, 1] [13, 12, 11, 10, 3, 2, 1] rfl rfl)
        cases over with
        | true =>
          have h12 := f1 rfl
          rw [lg_over hlt (by rw [h12]; decide)] at hI
          simp -implicitDefEqProofs (disch := omega) [List.getElem?_cons_zero, List.getElem?_cons_succ, wrap_id]
          (refine fin0 trivial rfl ?_; simp -implicitDefEqProofs (disch := omega) [List.getElem?_cons_zero, List.getElem?_cons_succ, idx, wrap_id, hI])
        | false =>
          obtain ⟨h3, h4⟩ := f2 rfl
          have hsz : sumI (stabF n es q (moreD d k)).1 = t := by rw [h4, e5]
          by_cases h2 : s < (t : Int)
          · rw [lg_more hlt h3 (by rw [hsz]; exact h2), hsz] at hI
            simp -implicitDefEqProofs (disch := omega) [List.getElem?_cons_zero, List.getElem?_cons_succ, wrap_id, h2]
            exact round_end [0] [12, 11, 10, 3, 2, 1] hlt rfl ⟨_, _, hI, rfl⟩
          · rw [lg_less hlt h3 (by rw [hsz]; exact h2)] at hI
            simp -implicitDefEqProofs (disch := omega) [List.getElem?_cons_zero, List.getElem?_cons_succ, wrap_id, h2]
            exact round_end [0] [12, 11, 10, 3, 2, 1] hlt rfl ⟨_, _, hI, rfl⟩
      · have hkn : k = n := by omega
        rw [hkn, lg_end] at hI
        simp -implicitDefEqProofs (disch := omega) [List.getElem?_cons_zero, List.getElem?_cons_succ, wrap_id, hlt]
        (refine fin0 trivial rfl ?_; simp -implicitDefEqProofs (disch := omega) [List.getElem?_cons_zero, List.getElem?_cons_succ, idx, wrap_id, hI])
    · have hr : lgR n es q d = (0, 0, 15) := by simp [lgR, calmE, h0, h1]
      simp -implicitDefEqProofs (disch := omega) [List.getElem?_cons_zero, List.getElem?_cons_succ, wrap_id, h1]
      (refine fin0 trivial rfl ?_; simp -implicitDefEqProofs (disch := omega) [List.getElem?_cons_zero, List.getElem?_cons_succ, idx, wrap_id, hr])
  · have hr : lgR N es q d = (0, 0, stE N es q d) := by simp [lgR, calmE, h0]
    simp -implicitDefEqProofs (disch := omega) [List.getElem?_cons_zero, List.getElem?_cons_succ, wrap_id, h0]
    (refine fin0 trivial rfl ?_; simp -implicitDefEqProofs (disch := omega) [List.getElem?_cons_zero, List.getElem?_cons_succ, idx, wrap_id, hr])
omit hd in
theorem maximal_ok : PC Try.prog 18 [G N es, .i q] (.tup [.p (.is (if rootE N es q = 0 then lisL N.toNat fun v => if (v : Int) = q then 0 else valTo es v N.toNat - 1 else [])), .i (rootE N es q)]) [] := by
  refine PC_of_W cfn18 ?_
  simp -implicitDefEqProofs (disch := omega) [c18, List.getElem?_cons_zero, List.getElem?_cons_succ, wrap_id]
  refine HC_of_PC rfl (rooted_ok N es q hel) ?_
  by_cases h0 : rootE N es q = 0
  · obtain ⟨n, rfl, hgc, hg, hp, hq0, hqn, hn1, hn⟩ := root_ok h0
    have hn6 : n ≤ 1048576 := by omega
    have hvl := valsL_len n es
    simp -implicitDefEqProofs (disch := omega) [List.getElem?_cons_zero, List.getElem?_cons_succ, wrap_id, h0, hn6]
    rw [← List.map_replicate (f := PV.i)]
    refine HC_of_PC (by simp [views, view, viewC, hn6]) (pileOf_ok n es q (List.replicate n 0) hgc (by omega) (by simp)) ?_
    simp -implicitDefEqProofs (disch := omega) [List.getElem?_cons_zero, List.getElem?_cons_succ, wrap_id, bw_ren, bw_calm, hn6, hvl]
    refine loopW n (fun k st => st = ⟨[(38, .i k), (37, .i n), (36, .p (.is (valsL n es))), (9, .os 0 0 n), (1, .i q)], [rowI (topTo n es q k)]⟩) (Wk_norm [5] [38, 37, 36, 9, 1] rfl) ?_ ?_
    · rw [← topTo_0, rowI, List.map_replicate]; rfl
    rintro k st hk rfl
    have htl := topTo_len n es q k
    by_cases hlt : k < n
    · have hkv : k < (valsL n es).length := by omega
      have hV : ∀ h, (valsL n es)[k]'h = valTo es k n := fun h => by simp [valsL]
      have hvb := val_bd hg k
      by_cases h3 : (k : Int) = q
      · have h3' : ((k : Int) = q) = True := eq_true h3
        have e := topTo_skip (n := n) (es := es) h3
        simp -implicitDefEqProofs (disch := omega) [List.getElem?_cons_zero, List.getElem?_cons_succ, wrap_id, hlt, h3', hkv, hV]
        exact round_keep [38, 37, 36, 9, 1] hlt (by rw [e]; rfl)
      · have e := congrArg (List.map PV.i) (topTo_set (es := es) hlt h3)
        rw [List.map_set] at e
        simp -implicitDefEqProofs (disch := omega) [List.getElem?_cons_zero, List.getElem?_cons_succ, wrap_id, hlt, h3, hkv, hV, htl, e]
        exact round_keep [38, 37, 36, 9, 1] hlt rfl
    · have hkn : k = n := by omega
      rw [hkn, topTo_n]
      have hll := lisL_len n fun v => if (v : Int) = q then 0 else valTo es v n - 1
      simp -implicitDefEqProofs (disch := omega) [List.getElem?_cons_zero, List.getElem?_cons_succ, wrap_id]
      (refine fin0 trivial rfl ?_; simp -implicitDefEqProofs (disch := omega) [List.getElem?_cons_zero, List.getElem?_cons_succ, idx, wrap_id, h0, hll])
  · simp -implicitDefEqProofs (disch := omega) [List.getElem?_cons_zero, List.getElem?_cons_succ, wrap_id, h0]
    refine finW (Wk_nil0 4 rfl) ?_
    (refine fin0 trivial rfl ?_; simp -implicitDefEqProofs (disch := omega) [List.getElem?_cons_zero, List.getElem?_cons_succ, idx, wrap_id, h0])
omit hd in
theorem top_ok (n : Nat) (hg : GoodG n es) : PC Try.prog 53 [G n es, .i q] (.p (.is (lisL n fun v => if (v : Int) = q then 0 else valTo es v n - 1))) [] := by
  have hn := hg.n12
  have hn6 : n ≤ 1048576 := by omega
  refine PC_of_W cfn53 ?_
  simp -implicitDefEqProofs (disch := omega) [c53, List.getElem?_cons_zero, List.getElem?_cons_succ, wrap_id, hn6]
  refine loopW n (fun k st => st = ⟨[(6, .i k), (5, .os 1 0 n), (2, .ptr 0 1 0 0), (1, .i q)], [.box (.p (G n es)), rowI (topTo n es q k)]⟩) (Wk_norm [0, 1] [6, 5, 2, 1] rfl) ?_ ?_
  · rw [← topTo_0, rowI, List.map_replicate]; rfl
  rintro k st hk rfl
  have htl := topTo_len n es q k
  by_cases hlt : k < n
  · have hvb := val_bd hg k
    by_cases h3 : (k : Int) = q
    · have h3' : ((k : Int) = q) = True := eq_true h3
      have e := topTo_skip (n := n) (es := es) h3
      simp -implicitDefEqProofs (disch := omega) [List.getElem?_cons_zero, List.getElem?_cons_succ, wrap_id, hlt, h3']
      exact round_keep [6, 5, 2, 1] hlt (by rw [e]; rfl)
    · have e := congrArg (List.map PV.i) (topTo_set (es := es) hlt h3)
      rw [List.map_set] at e
      simp -implicitDefEqProofs (disch := omega) [List.getElem?_cons_zero, List.getElem?_cons_succ, wrap_id, hlt, h3]
      refine HC_of_PC rfl (rval_ok n k es (by omega) hg.right (by omega)) ?_
      simp -implicitDefEqProofs (disch := omega) [List.getElem?_cons_zero, List.getElem?_cons_succ, wrap_id, hlt, htl, e]
      exact round_keep [6, 5, 2, 1] hlt rfl
  · have hkn : k = n := by omega
    rw [hkn, topTo_n]
    have hll := lisL_len n fun v => if (v : Int) = q then 0 else valTo es v n - 1
    simp -implicitDefEqProofs (disch := omega) [List.getElem?_cons_zero, List.getElem?_cons_succ, wrap_id]
    (refine fin0 trivial rfl ?_; simp -implicitDefEqProofs (disch := omega) [List.getElem?_cons_zero, List.getElem?_cons_succ, idx, wrap_id, hll])
omit hd in
theorem rmaximal_ok : PC Try.prog 19 [G N es, .i q] (.tup [.p (.is (if rootE N es q = 0 then lisL N.toNat fun v => if (v : Int) = q then 0 else valTo es v N.toNat - 1 else [])), .i (rootE N es q)]) [] := by
  refine PC_of_W cfn19 ?_
  simp -implicitDefEqProofs (disch := omega) [c19, List.getElem?_cons_zero, List.getElem?_cons_succ, wrap_id]
  refine HC_of_PC rfl (rrooted_ok N es q hel) ?_
  by_cases h0 : rootE N es q = 0
  · obtain ⟨n, rfl, hgc, hg, hp, hq0, hqn, hn1, hn⟩ := root_ok h0
    simp -implicitDefEqProofs (disch := omega) [List.getElem?_cons_zero, List.getElem?_cons_succ, wrap_id, h0]
    refine HC_of_PC rfl (top_ok es q hel n hg) ?_
    simp -implicitDefEqProofs (disch := omega) [List.getElem?_cons_zero, List.getElem?_cons_succ, wrap_id]
    (refine fin0 trivial rfl ?_; simp -implicitDefEqProofs (disch := omega) [List.getElem?_cons_zero, List.getElem?_cons_succ, idx, wrap_id, h0])
  · simp -implicitDefEqProofs (disch := omega) [List.getElem?_cons_zero, List.getElem?_cons_succ, wrap_id, h0]
    refine finW (Wk_nil0 4 rfl) ?_
    (refine fin0 trivial rfl ?_; simp -implicitDefEqProofs (disch := omega) [List.getElem?_cons_zero, List.getElem?_cons_succ, idx, wrap_id, h0])
end
end Go.Proofs.Ythdbmoflbnggpaa
