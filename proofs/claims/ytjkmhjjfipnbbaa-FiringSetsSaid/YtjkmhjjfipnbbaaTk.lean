/-
  Contracts: scripts, firing, borrowing, in both.
-/
import Derived.Test.YtjkmhjjfipnbbaaTj
set_option linter.unusedSimpArgs false
namespace Go.Proofs.Ytjkmhjjfipnbbaa
open Go.Abs Go.Sand

abbrev resT2 (e : Int) (m : List Int) : AV := .tup [.p (.is (Sand.resL e m)), .i (resE e m)]
theorem subE_ok {N : Int} {es : List Ed} {d set : List Int} (h : subE N es d set = 0) : givenE N es d = 0 ∧ subErr N (-1) set = 0 := by
  unfold subE at h
  split at h
  · rename_i hn; exact absurd h hn
  · rename_i hn; exact ⟨by simpa using hn, h⟩
section
variable (N : Int) (es : List Ed) (d s set : List Int) (he : es.length ≤ 1000) (hd : d.length ≤ 4611686018427387904) (hs : s.length ≤ 4611686018427387904) (hset : set.length ≤ 4611686018427387904)
include he hd
def chgM (es : List Ed) (N : Int) (s : List Int) : List Int := movedE es s (List.replicate N.toNat 0)
omit he hd in
include he hs in
theorem change_ok : PC Try.prog 14 [G N es, .is s] (resT2 (givenE N es s) (chgM es N s)) [] := by
  refine PC_of_W cfn14 ?_
  simp -implicitDefEqProofs (disch := omega) [c14, List.getElem?_cons_zero, List.getElem?_cons_succ, wrap_id]
  refine HC_of_PC rfl (fcheck_ok N es s (by omega) hs) ?_
  by_cases h0 : givenE N es s = 0
  · obtain ⟨n, rfl, hg, hl, hb, hn1, hn⟩ := given_ok h0
    have hn' : n ≤ 1048576 := by omega
    simp -implicitDefEqProofs (disch := omega) [List.getElem?_cons_zero, List.getElem?_cons_succ, wrap_id, h0, hn']
    rw [← List.map_replicate (f := PV.i)]
    refine HC_of_PC (by simp [views, view, viewC]) (moved_ok n es s (List.replicate n 0) hg.right hl (by simp) (by omega) he hb (zeros_bd n)) ?_
    simp -implicitDefEqProofs (disch := omega) [List.getElem?_cons_zero, List.getElem?_cons_succ, wrap_id]
    refine HC_of_PC rfl (bounded_ok _ (by rw [movedE_length, List.length_replicate]; omega)) ?_
    simp -implicitDefEqProofs (disch := omega) [List.getElem?_cons_zero, List.getElem?_cons_succ, wrap_id]
    (refine fin0 trivial rfl ?_; simp -implicitDefEqProofs (disch := omega) [List.getElem?_cons_zero, List.getElem?_cons_succ, idx, wrap_id, h0, chgM])
  · have hr := res_err (m := chgM es N s) h0
    simp -implicitDefEqProofs (disch := omega) [List.getElem?_cons_zero, List.getElem?_cons_succ, wrap_id, h0]
    refine finW (Wk_nil0 4 rfl) ?_
    (refine fin0 trivial rfl ?_; simp -implicitDefEqProofs (disch := omega) [List.getElem?_cons_zero, List.getElem?_cons_succ, idx, wrap_id, hr.1, hr.2])
omit he hd in
include he hs in
theorem rchange_ok : PC Try.prog 15 [G N es, .is s] (resT2 (givenE N es s) (chgM es N s)) [] := by
  refine PC_of_W cfn15 ?_
  simp -implicitDefEqProofs (disch := omega) [c15, List.getElem?_cons_zero, List.getElem?_cons_succ, wrap_id]
  refine HC_of_PC rfl (rscheck_ok N es s (by omega) hs) ?_
  by_cases h0 : givenE N es s = 0
  · obtain ⟨n, rfl, hg, hl, hb, hn1, hn⟩ := given_ok h0
    have hn' : n ≤ 1048576 := by omega
    simp -implicitDefEqProofs (disch := omega) [List.getElem?_cons_zero, List.getElem?_cons_succ, wrap_id, h0, hn']
    rw [← List.map_replicate (f := PV.i)]
    refine HC_of_PC (by simp [views, view, viewC]) (rmoved_ok n es s (List.replicate n 0) hg hl (by simp) he hb (zeros_bd n)) ?_
    simp -implicitDefEqProofs (disch := omega) [List.getElem?_cons_zero, List.getElem?_cons_succ, wrap_id]
    refine HC_of_PC rfl (right_ok _ (by rw [movedE_length, List.length_replicate]; omega)) ?_
    simp -implicitDefEqProofs (disch := omega) [List.getElem?_cons_zero, List.getElem?_cons_succ, wrap_id]
    (refine fin0 trivial rfl ?_; simp -implicitDefEqProofs (disch := omega) [List.getElem?_cons_zero, List.getElem?_cons_succ, idx, wrap_id, h0, chgM])
  · have hr := res_err (m := chgM es N s) h0
    simp -implicitDefEqProofs (disch := omega) [List.getElem?_cons_zero, List.getElem?_cons_succ, wrap_id, h0]
    refine finW (Wk_nil0 4 rfl) ?_
    (refine fin0 trivial rfl ?_; simp -implicitDefEqProofs (disch := omega) [List.getElem?_cons_zero, List.getElem?_cons_succ, idx, wrap_id, hr.1, hr.2])
omit he hd in
include he hd hs in
theorem apply_ok : PC Try.prog 37 [G N es, .is d, .is s] (resT2 (giv2E N es d s) (movedE es s d)) [] := by
  refine PC_of_W cfn37 ?_
  simp -implicitDefEqProofs (disch := omega) [c37, List.getElem?_cons_zero, List.getElem?_cons_succ, wrap_id]
  refine HC_of_PC rfl (given_ok' N es d (by omega) hd) ?_
  by_cases h0 : givenE N es d = 0
  rotate_left
  · have h1 : giv2E N es d s = givenE N es d := by rw [giv2E, if_pos h0]
    have hr := res_err (m := movedE es s d) h0
    simp -implicitDefEqProofs (disch := omega) [List.getElem?_cons_zero, List.getElem?_cons_succ, wrap_id, h0]
    refine finW (Wk_nil0 6 rfl) ?_
    (refine fin0 trivial rfl ?_; simp -implicitDefEqProofs (disch := omega) [List.getElem?_cons_zero, List.getElem?_cons_succ, idx, wrap_id, h1, hr.1, hr.2])
  have h1 : giv2E N es d s = givenE N es s := by rw [giv2E, if_neg (by simp [h0])]
  simp -implicitDefEqProofs (disch := omega) [List.getElem?_cons_zero, List.getElem?_cons_succ, wrap_id, h0]
  refine HC_of_PC rfl (fcheck_ok N es s (by omega) hs) ?_
  by_cases h2 : givenE N es s = 0
  rotate_left
  · have hr := res_err (m := movedE es s d) h2
    simp -implicitDefEqProofs (disch := omega) [List.getElem?_cons_zero, List.getElem?_cons_succ, wrap_id, h2]
    refine finW (Wk_nil0 6 rfl) ?_
    (refine fin0 trivial rfl ?_; simp -implicitDefEqProofs (disch := omega) [List.getElem?_cons_zero, List.getElem?_cons_succ, idx, wrap_id, h1, hr.1, hr.2])
  obtain ⟨n, rfl, hg, hl, hb, hn1, hn⟩ := given_ok h0
  obtain ⟨n', e', hg', hl', hb', -, -⟩ := given_ok h2
  obtain rfl : n' = n := by omega
  simp -implicitDefEqProofs (disch := omega) [List.getElem?_cons_zero, List.getElem?_cons_succ, wrap_id, h2]
  refine HC_of_PC rfl (moved_ok _ es s d hg.right hl' hl (by omega) he hb' (hb.more (by omega))) ?_
  simp -implicitDefEqProofs (disch := omega) [List.getElem?_cons_zero, List.getElem?_cons_succ, wrap_id]
  refine HC_of_PC rfl (bounded_ok _ (by rw [movedE_length]; omega)) ?_
  simp -implicitDefEqProofs (disch := omega) [List.getElem?_cons_zero, List.getElem?_cons_succ, wrap_id]
  (refine fin0 trivial rfl ?_; simp -implicitDefEqProofs (disch := omega) [List.getElem?_cons_zero, List.getElem?_cons_succ, idx, wrap_id, h1, h2])
omit he hd in
include he hd hs in
theorem rapply_ok : PC Try.prog 38 [G N es, .is d, .is s] (resT2 (giv2E N es d s) (movedE es s d)) [] := by
  refine PC_of_W cfn38 ?_
  simp -implicitDefEqProofs (disch := omega) [c38, List.getElem?_cons_zero, List.getElem?_cons_succ, wrap_id]
  refine HC_of_PC rfl (rgiven_ok N es d (by omega) hd) ?_
  by_cases h0 : givenE N es d = 0
  rotate_left
  · have h1 : giv2E N es d s = givenE N es d := by rw [giv2E, if_pos h0]
    have hr := res_err (m := movedE es s d) h0
    simp -implicitDefEqProofs (disch := omega) [List.getElem?_cons_zero, List.getElem?_cons_succ, wrap_id, h0]
    refine finW (Wk_nil0 6 rfl) ?_
    (refine fin0 trivial rfl ?_; simp -implicitDefEqProofs (disch := omega) [List.getElem?_cons_zero, List.getElem?_cons_succ, idx, wrap_id, h1, hr.1, hr.2])
  have h1 : giv2E N es d s = givenE N es s := by rw [giv2E, if_neg (by simp [h0])]
  simp -implicitDefEqProofs (disch := omega) [List.getElem?_cons_zero, List.getElem?_cons_succ, wrap_id, h0]
  refine HC_of_PC rfl (rscheck_ok N es s (by omega) hs) ?_
  by_cases h2 : givenE N es s = 0
  rotate_left
  · have hr := res_err (m := movedE es s d) h2
    simp -implicitDefEqProofs (disch := omega) [List.getElem?_cons_zero, List.getElem?_cons_succ, wrap_id, h2]
    refine finW (Wk_nil0 6 rfl) ?_
    (refine fin0 trivial rfl ?_; simp -implicitDefEqProofs (disch := omega) [List.getElem?_cons_zero, List.getElem?_cons_succ, idx, wrap_id, h1, hr.1, hr.2])
  obtain ⟨n, rfl, hg, hl, hb, hn1, hn⟩ := given_ok h0
  obtain ⟨n', e', hg', hl', hb', -, -⟩ := given_ok h2
  obtain rfl : n' = n := by omega
  simp -implicitDefEqProofs (disch := omega) [List.getElem?_cons_zero, List.getElem?_cons_succ, wrap_id, h2]
  refine HC_of_PC rfl (rmoved_ok _ es s d hg hl' hl he hb' (hb.more (by omega))) ?_
  simp -implicitDefEqProofs (disch := omega) [List.getElem?_cons_zero, List.getElem?_cons_succ, wrap_id]
  refine HC_of_PC rfl (right_ok _ (by rw [movedE_length]; omega)) ?_
  simp -implicitDefEqProofs (disch := omega) [List.getElem?_cons_zero, List.getElem?_cons_succ, wrap_id]
  (refine fin0 trivial rfl ?_; simp -implicitDefEqProofs (disch := omega) [List.getElem?_cons_zero, List.getElem?_cons_succ, idx, wrap_id, h1, h2])
def fireM (es : List Ed) (N : Int) (set : List Int) (t : Int) (d : List Int) : List Int := movedE es (ofL N.toNat set t) d
omit he hd in
include he hd in
theorem fire_ok (v : Int) : PC Try.prog 19 [G N es, .is d, .i v] (resT2 (vtxE N es d v) (fireM es N [v] 1 d)) [] := by
  refine PC_of_W cfn19 ?_
  simp -implicitDefEqProofs (disch := omega) [c19, List.getElem?_cons_zero, List.getElem?_cons_succ, wrap_id]
  refine HC_of_PC rfl (fvertex_ok N es d v (by omega) hd) ?_
  by_cases h0 : vtxE N es d v = 0
  · obtain ⟨hg0, hv1, hv2⟩ := vtxE_ok h0
    obtain ⟨n, rfl, hg, hl, hb, hn1, hn⟩ := given_ok hg0
    simp -implicitDefEqProofs (disch := omega) [List.getElem?_cons_zero, List.getElem?_cons_succ, wrap_id, h0]
    refine HC_of_PC rfl (of_ok n es [v] 1 (by omega) (by simp; omega) (by simp)) ?_
    simp -implicitDefEqProofs (disch := omega) [List.getElem?_cons_zero, List.getElem?_cons_succ, wrap_id]
    refine HC_of_PC rfl (moved_ok n es _ d hg.right (ofL_length _ _ _) hl (by omega) he (ofL_bd _ _ _ (by omega)) (hb.more (by omega))) ?_
    simp -implicitDefEqProofs (disch := omega) [List.getElem?_cons_zero, List.getElem?_cons_succ, wrap_id]
    refine HC_of_PC rfl (bounded_ok _ (by rw [movedE_length]; omega)) ?_
    simp -implicitDefEqProofs (disch := omega) [List.getElem?_cons_zero, List.getElem?_cons_succ, wrap_id]
    (refine fin0 trivial rfl ?_; simp -implicitDefEqProofs (disch := omega) [List.getElem?_cons_zero, List.getElem?_cons_succ, idx, wrap_id, h0, fireM])
  · have hr := res_err (m := fireM es N [v] 1 d) h0
    simp -implicitDefEqProofs (disch := omega) [List.getElem?_cons_zero, List.getElem?_cons_succ, wrap_id, h0]
    refine finW (Wk_nil0 6 rfl) ?_
    (refine fin0 trivial rfl ?_; simp -implicitDefEqProofs (disch := omega) [List.getElem?_cons_zero, List.getElem?_cons_succ, idx, wrap_id, hr.1, hr.2])
omit he hd in
include he hd in
theorem rfire_ok (v : Int) : PC Try.prog 20 [G N es, .is d, .i v] (resT2 (vtxE N es d v) (fireM es N [v] 1 d)) [] := by
  refine PC_of_W cfn20 ?_
  simp -implicitDefEqProofs (disch := omega) [c20, List.getElem?_cons_zero, List.getElem?_cons_succ, wrap_id]
  refine HC_of_PC rfl (rgiven_ok N es d (by omega) hd) ?_
  by_cases hg0 : givenE N es d = 0
  rotate_left
  · have h1 : vtxE N es d v = givenE N es d := by rw [vtxE, if_pos hg0]
    have hr := res_err (m := fireM es N [v] 1 d) hg0
    simp -implicitDefEqProofs (disch := omega) [List.getElem?_cons_zero, List.getElem?_cons_succ, wrap_id, hg0]
    refine finW (Wk_nil0 6 rfl) ?_
    (refine fin0 trivial rfl ?_; simp -implicitDefEqProofs (disch := omega) [List.getElem?_cons_zero, List.getElem?_cons_succ, idx, wrap_id, h1, hr.1, hr.2])
  simp -implicitDefEqProofs (disch := omega) [List.getElem?_cons_zero, List.getElem?_cons_succ, wrap_id, hg0]
  refine HC_of_PC rfl (rvertex_ok N v es) ?_
  cases hv : vtx N v
  · have h1 : vtxE N es d v = 2 := by rw [vtxE, if_neg (by simp [hg0]), if_neg (by simp [hv])]
    have hr := res_err (m := fireM es N [v] 1 d) (e := 2) (by simp)
    simp -implicitDefEqProofs (disch := omega) [List.getElem?_cons_zero, List.getElem?_cons_succ, wrap_id]
    refine finW (Wk_nil0 6 rfl) ?_
    (refine fin0 trivial rfl ?_; simp -implicitDefEqProofs (disch := omega) [List.getElem?_cons_zero, List.getElem?_cons_succ, idx, wrap_id, h1, hr.1, hr.2])
  · have h0 : vtxE N es d v = 0 := by rw [vtxE, if_neg (by simp [hg0]), if_pos hv]
    have hv1 := vtx_iff.1 hv
    obtain ⟨n, rfl, hg, hl, hb, hn1, hn⟩ := given_ok hg0
    obtain ⟨u, rfl⟩ : ∃ u : Nat, v = u := ⟨v.toNat, by omega⟩
    simp -implicitDefEqProofs (disch := omega) [List.getElem?_cons_zero, List.getElem?_cons_succ, wrap_id]
    refine HC_of_PC rfl (one_ok n u es 1 (by omega) (by omega)) ?_
    simp -implicitDefEqProofs (disch := omega) [List.getElem?_cons_zero, List.getElem?_cons_succ, wrap_id]
    refine HC_of_PC rfl (rmoved_ok n es _ d hg (ofL_length _ _ _) hl he (ofL_bd _ _ _ (by omega)) (hb.more (by omega))) ?_
    simp -implicitDefEqProofs (disch := omega) [List.getElem?_cons_zero, List.getElem?_cons_succ, wrap_id]
    refine HC_of_PC rfl (right_ok _ (by rw [movedE_length]; omega)) ?_
    simp -implicitDefEqProofs (disch := omega) [List.getElem?_cons_zero, List.getElem?_cons_succ, wrap_id]
    (refine fin0 trivial rfl ?_; simp -implicitDefEqProofs (disch := omega) [List.getElem?_cons_zero, List.getElem?_cons_succ, idx, wrap_id, h0, fireM])
omit he hd in
include he hd in
theorem borrow_ok (v : Int) : PC Try.prog 21 [G N es, .is d, .i v] (resT2 (vtxE N es d v) (fireM es N [v] (-1) d)) [] := by
  refine PC_of_W cfn21 ?_
  simp -implicitDefEqProofs (disch := omega) [c21, List.getElem?_cons_zero, List.getElem?_cons_succ, wrap_id]
  refine HC_of_PC rfl (fvertex_ok N es d v (by omega) hd) ?_
  by_cases h0 : vtxE N es d v = 0
  · obtain ⟨hg0, hv1, hv2⟩ := vtxE_ok h0
    obtain ⟨n, rfl, hg, hl, hb, hn1, hn⟩ := given_ok hg0
    simp -implicitDefEqProofs (disch := omega) [List.getElem?_cons_zero, List.getElem?_cons_succ, wrap_id, h0]
    refine HC_of_PC rfl (of_ok n es [v] (-1) (by omega) (by simp; omega) (by simp)) ?_
    simp -implicitDefEqProofs (disch := omega) [List.getElem?_cons_zero, List.getElem?_cons_succ, wrap_id]
    refine HC_of_PC rfl (moved_ok n es _ d hg.right (ofL_length _ _ _) hl (by omega) he (ofL_bd _ _ _ (by omega)) (hb.more (by omega))) ?_
    simp -implicitDefEqProofs (disch := omega) [List.getElem?_cons_zero, List.getElem?_cons_succ, wrap_id]
    refine HC_of_PC rfl (bounded_ok _ (by rw [movedE_length]; omega)) ?_
    simp -implicitDefEqProofs (disch := omega) [List.getElem?_cons_zero, List.getElem?_cons_succ, wrap_id]
    (refine fin0 trivial rfl ?_; simp -implicitDefEqProofs (disch := omega) [List.getElem?_cons_zero, List.getElem?_cons_succ, idx, wrap_id, h0, fireM])
  · have hr := res_err (m := fireM es N [v] (-1) d) h0
    simp -implicitDefEqProofs (disch := omega) [List.getElem?_cons_zero, List.getElem?_cons_succ, wrap_id, h0]
    refine finW (Wk_nil0 6 rfl) ?_
    (refine fin0 trivial rfl ?_; simp -implicitDefEqProofs (disch := omega) [List.getElem?_cons_zero, List.getElem?_cons_succ, idx, wrap_id, hr.1, hr.2])
omit he hd in
include he hd in
theorem rborrow_ok (v : Int) : PC Try.prog 22 [G N es, .is d, .i v] (resT2 (vtxE N es d v) (fireM es N [v] (-1) d)) [] := by
  refine PC_of_W cfn22 ?_
  simp -implicitDefEqProofs (disch := omega) [c22, List.getElem?_cons_zero, List.getElem?_cons_succ, wrap_id]
  refine HC_of_PC rfl (rgiven_ok N es d (by omega) hd) ?_
  by_cases hg0 : givenE N es d = 0
  rotate_left
  · have h1 : vtxE N es d v = givenE N es d := by rw [vtxE, if_pos hg0]
    have hr := res_err (m := fireM es N [v] (-1) d) hg0
    simp -implicitDefEqProofs (disch := omega) [List.getElem?_cons_zero, List.getElem?_cons_succ, wrap_id, hg0]
    refine finW (Wk_nil0 6 rfl) ?_
    (refine fin0 trivial rfl ?_; simp -implicitDefEqProofs (disch := omega) [List.getElem?_cons_zero, List.getElem?_cons_succ, idx, wrap_id, h1, hr.1, hr.2])
  simp -implicitDefEqProofs (disch := omega) [List.getElem?_cons_zero, List.getElem?_cons_succ, wrap_id, hg0]
  refine HC_of_PC rfl (rvertex_ok N v es) ?_
  cases hv : vtx N v
  · have h1 : vtxE N es d v = 2 := by rw [vtxE, if_neg (by simp [hg0]), if_neg (by simp [hv])]
    have hr := res_err (m := fireM es N [v] (-1) d) (e := 2) (by simp)
    simp -implicitDefEqProofs (disch := omega) [List.getElem?_cons_zero, List.getElem?_cons_succ, wrap_id]
    refine finW (Wk_nil0 6 rfl) ?_
    (refine fin0 trivial rfl ?_; simp -implicitDefEqProofs (disch := omega) [List.getElem?_cons_zero, List.getElem?_cons_succ, idx, wrap_id, h1, hr.1, hr.2])
  · have h0 : vtxE N es d v = 0 := by rw [vtxE, if_neg (by simp [hg0]), if_pos hv]
    have hv1 := vtx_iff.1 hv
    obtain ⟨n, rfl, hg, hl, hb, hn1, hn⟩ := given_ok hg0
    obtain ⟨u, rfl⟩ : ∃ u : Nat, v = u := ⟨v.toNat, by omega⟩
    simp -implicitDefEqProofs (disch := omega) [List.getElem?_cons_zero, List.getElem?_cons_succ, wrap_id]
    refine HC_of_PC rfl (one_ok n u es (-1) (by omega) (by omega)) ?_
    simp -implicitDefEqProofs (disch := omega) [List.getElem?_cons_zero, List.getElem?_cons_succ, wrap_id]
    refine HC_of_PC rfl (rmoved_ok n es _ d hg (ofL_length _ _ _) hl he (ofL_bd _ _ _ (by omega)) (hb.more (by omega))) ?_
    simp -implicitDefEqProofs (disch := omega) [List.getElem?_cons_zero, List.getElem?_cons_succ, wrap_id]
    refine HC_of_PC rfl (right_ok _ (by rw [movedE_length]; omega)) ?_
    simp -implicitDefEqProofs (disch := omega) [List.getElem?_cons_zero, List.getElem?_cons_succ, wrap_id]
    (refine fin0 trivial rfl ?_; simp -implicitDefEqProofs (disch := omega) [List.getElem?_cons_zero, List.getElem?_cons_succ, idx, wrap_id, h0, fireM])
omit he hd in
include he hd hset in
theorem fireset_ok : PC Try.prog 23 [G N es, .is d, .is set] (resT2 (subE N es d set) (fireM es N set 1 d)) [] := by
  refine PC_of_W cfn23 ?_
  simp -implicitDefEqProofs (disch := omega) [c23, List.getElem?_cons_zero, List.getElem?_cons_succ, wrap_id]
  refine HC_of_PC rfl (fsubset_ok N es d set (by omega) hd hset) ?_
  by_cases h0 : subE N es d set = 0
  · obtain ⟨hg0, hs0⟩ := subE_ok h0
    obtain ⟨n, rfl, hg, hl, hb, hn1, hn⟩ := given_ok hg0
    simp -implicitDefEqProofs (disch := omega) [List.getElem?_cons_zero, List.getElem?_cons_succ, wrap_id, h0]
    refine HC_of_PC rfl (of_ok n es set 1 (by omega) (subErr_ok hs0).1 hset) ?_
    simp -implicitDefEqProofs (disch := omega) [List.getElem?_cons_zero, List.getElem?_cons_succ, wrap_id]
    refine HC_of_PC rfl (moved_ok n es _ d hg.right (ofL_length _ _ _) hl (by omega) he (ofL_bd _ _ _ (by omega)) (hb.more (by omega))) ?_
    simp -implicitDefEqProofs (disch := omega) [List.getElem?_cons_zero, List.getElem?_cons_succ, wrap_id]
    refine HC_of_PC rfl (bounded_ok _ (by rw [movedE_length]; omega)) ?_
    simp -implicitDefEqProofs (disch := omega) [List.getElem?_cons_zero, List.getElem?_cons_succ, wrap_id]
    (refine fin0 trivial rfl ?_; simp -implicitDefEqProofs (disch := omega) [List.getElem?_cons_zero, List.getElem?_cons_succ, idx, wrap_id, h0, fireM])
  · have hr := res_err (m := fireM es N set 1 d) h0
    simp -implicitDefEqProofs (disch := omega) [List.getElem?_cons_zero, List.getElem?_cons_succ, wrap_id, h0]
    refine finW (Wk_nil0 6 rfl) ?_
    (refine fin0 trivial rfl ?_; simp -implicitDefEqProofs (disch := omega) [List.getElem?_cons_zero, List.getElem?_cons_succ, idx, wrap_id, hr.1, hr.2])
omit he hd in
include he hd hset in
theorem rfireset_ok : PC Try.prog 24 [G N es, .is d, .is set] (resT2 (subE N es d set) (fireM es N set 1 d)) [] := by
  refine PC_of_W cfn24 ?_
  simp -implicitDefEqProofs (disch := omega) [c24, List.getElem?_cons_zero, List.getElem?_cons_succ, wrap_id]
  refine HC_of_PC rfl (rgiven_ok N es d (by omega) hd) ?_
  by_cases hg0 : givenE N es d = 0
  rotate_left
  · have h1 : subE N es d set = givenE N es d := by rw [subE, if_pos hg0]
    have hr := res_err (m := fireM es N set 1 d) hg0
    simp -implicitDefEqProofs (disch := omega) [List.getElem?_cons_zero, List.getElem?_cons_succ, wrap_id, hg0]
    refine finW (Wk_nil0 6 rfl) ?_
    (refine fin0 trivial rfl ?_; simp -implicitDefEqProofs (disch := omega) [List.getElem?_cons_zero, List.getElem?_cons_succ, idx, wrap_id, h1, hr.1, hr.2])
  have h1 : subE N es d set = subErr N (-1) set := by rw [subE, if_neg (by simp [hg0])]
  simp -implicitDefEqProofs (disch := omega) [List.getElem?_cons_zero, List.getElem?_cons_succ, wrap_id, hg0]
  refine HC_of_PC rfl (rsubset_ok N es set hset) ?_
  by_cases hs0 : subErr N (-1) set = 0
  rotate_left
  · have hr := res_err (m := fireM es N set 1 d) hs0
    simp -implicitDefEqProofs (disch := omega) [List.getElem?_cons_zero, List.getElem?_cons_succ, wrap_id, hs0]
    refine finW (Wk_nil0 6 rfl) ?_
    (refine fin0 trivial rfl ?_; simp -implicitDefEqProofs (disch := omega) [List.getElem?_cons_zero, List.getElem?_cons_succ, idx, wrap_id, h1, hr.1, hr.2])
  · obtain ⟨n, rfl, hg, hl, hb, hn1, hn⟩ := given_ok hg0
    simp -implicitDefEqProofs (disch := omega) [List.getElem?_cons_zero, List.getElem?_cons_succ, wrap_id, hs0]
    refine HC_of_PC rfl (rof_ok n es set (by omega) (subErr_ok hs0).1 hset) ?_
    simp -implicitDefEqProofs (disch := omega) [List.getElem?_cons_zero, List.getElem?_cons_succ, wrap_id]
    refine HC_of_PC rfl (rmoved_ok n es _ d hg (ofL_length _ _ _) hl he (ofL_bd _ _ _ (by omega)) (hb.more (by omega))) ?_
    simp -implicitDefEqProofs (disch := omega) [List.getElem?_cons_zero, List.getElem?_cons_succ, wrap_id]
    refine HC_of_PC rfl (right_ok _ (by rw [movedE_length]; omega)) ?_
    simp -implicitDefEqProofs (disch := omega) [List.getElem?_cons_zero, List.getElem?_cons_succ, wrap_id]
    (refine fin0 trivial rfl ?_; simp -implicitDefEqProofs (disch := omega) [List.getElem?_cons_zero, List.getElem?_cons_succ, idx, wrap_id, h1, hs0, fireM])
end
end Go.Proofs.Ytjkmhjjfipnbbaa
