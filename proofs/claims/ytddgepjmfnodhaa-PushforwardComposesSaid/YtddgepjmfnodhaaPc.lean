/-
  Contracts: the reference's sums, and what is pushed and pulled back, on both sides.
-/
import Derived.Test.YtddgepjmfnodhaaPb
set_option linter.unusedSimpArgs false
set_option linter.unusedVariables false
namespace Go.Proofs.Ytddgepjmfnodhaa
open Go.Abs Go.Sand

theorem given52_ok (g h : Gr) (m : Mo) (hs : Sm g h m) : PC Try.prog 20 [GrP g, GrP h, MoP m] (.i (degE g h m)) [] := by
  refine PC_of_W cfn20 ?_
  simp -implicitDefEqProofs (disch := omega) [c20, List.getElem?_cons_zero, List.getElem?_cons_succ, wrap_id]
  refine HC_of_PC rfl (rcheck51_ok g h m hs) ?_
  by_cases hc : coverE g h m = 0
  · obtain ⟨n, k, c⟩ := cov_of hc
    simp -implicitDefEqProofs (disch := omega) [List.getElem?_cons_zero, List.getElem?_cons_succ, wrap_id, hc]
    refine HC_of_PC rfl (rharm_ok g h m n k hs c) ?_
    cases hh : harmM g h m
    · have hd : degE g h m = 15 := by rw [degE, if_neg (by simp [hc]), if_pos hh]
      simp -implicitDefEqProofs (disch := omega) [List.getElem?_cons_zero, List.getElem?_cons_succ, wrap_id]
      (refine fin0 trivial rfl ?_; simp -implicitDefEqProofs (disch := omega) [List.getElem?_cons_zero, List.getElem?_cons_succ, idx, wrap_id, hd])
    · have hd := degE_zero hc hh
      simp -implicitDefEqProofs (disch := omega) [List.getElem?_cons_zero, List.getElem?_cons_succ, wrap_id]
      (refine fin0 trivial rfl ?_; simp -implicitDefEqProofs (disch := omega) [List.getElem?_cons_zero, List.getElem?_cons_succ, idx, wrap_id, hd])
  · have hd : degE g h m = coverE g h m := by rw [degE, if_pos hc]
    simp -implicitDefEqProofs (disch := omega) [List.getElem?_cons_zero, List.getElem?_cons_succ, wrap_id, hc]
    (refine fin0 trivial rfl ?_; simp -implicitDefEqProofs (disch := omega) [List.getElem?_cons_zero, List.getElem?_cons_succ, idx, wrap_id, hd])
theorem rbnd_ok (l : List Int) (hl : l.length ≤ 4611686018427387904) : PC Try.prog 37 [.is l] (.tup [.p (if bndE l = 0 then .is l else .nil), .i (bndE l)]) [] := by
  refine PC_of_W cfn37 ?_
  simp -implicitDefEqProofs (disch := omega) [c37, List.getElem?_cons_zero, List.getElem?_cons_succ, wrap_id]
  refine loopW l.length (fun k s => s = ⟨[(4, .i k), (0, .p (.is l))], []⟩ ∧ l.all inB = (l.drop k).all inB) (wk_norm [] [4, 0] rfl rfl) ⟨rfl, rfl⟩ ?_
  rintro k s hk ⟨rfl, hI⟩
  by_cases hlt : k < l.length
  · have hd := drop_all inB l k hlt
    simp -implicitDefEqProofs (disch := omega) [List.getElem?_cons_zero, List.getElem?_cons_succ, wrap_id, hlt]
    refine HC_of_PC rfl (in_ok l[k]) ?_
    cases hx : inB l[k]
    · rw [hx, Bool.false_and] at hd
      have hb : bndE l = 11 := by rw [bndE, if_neg (by rw [hI, hd]; simp)]
      simp -implicitDefEqProofs (disch := omega) [List.getElem?_cons_zero, List.getElem?_cons_succ, wrap_id]
      (refine fin0 trivial rfl ?_; simp -implicitDefEqProofs (disch := omega) [List.getElem?_cons_zero, List.getElem?_cons_succ, idx, wrap_id, hb])
    · rw [hx, Bool.true_and] at hd
      simp -implicitDefEqProofs (disch := omega) [List.getElem?_cons_zero, List.getElem?_cons_succ, wrap_id]
      exact round_end [] [4, 0] hlt rfl ⟨rfl, hI.trans hd⟩
  · have hb : bndE l = 0 := by rw [bndE, if_pos (by rw [hI, List.drop_of_length_le (Nat.le_of_not_lt hlt)]; rfl)]
    simp -implicitDefEqProofs (disch := omega) [List.getElem?_cons_zero, List.getElem?_cons_succ, wrap_id, hlt]
    (refine fin0 trivial rfl ?_; simp -implicitDefEqProofs (disch := omega) [List.getElem?_cons_zero, List.getElem?_cons_succ, idx, wrap_id, hb])
/-- The weight: the multiplicity, or 1. -/
def wgt (g h : Gr) (m : Mo) (by' : Bool) (v : Nat) : Int := if by' = true then mM g h m v else 1
theorem num_of {g h : Gr} {m : Mo} {n k : Nat} (hs : Sm g h m) (c : Cov g h m n k) (by' : Bool) {l : List Int} (hl : ∀ i, -1048576 ≤ l.getD i 0 ∧ l.getD i 0 ≤ 1048576) : Num m (wgt g h m by') l n k := by
  have h1 := c.gg.n12
  have h2 := c.hg.n12
  have := c.gn
  have := c.hk
  refine ⟨by omega, by omega, hl, fun v => ?_, fun v hv => c.vB hv, c.vl⟩
  unfold wgt
  split
  · have := mM_nonneg g h m v
    have := hs.e
    omega
  · omega
section
variable (g h : Gr) (m : Mo) (n k : Nat) (hs : Sm g h m) (c : Cov g h m n k)
include hs c
set_option maxRecDepth 10000 in
theorem summed_ok (l : List Int) (hl : l.length = n) (hb : ∀ i, -1048576 ≤ l.getD i 0 ∧ l.getD i 0 ≤ 1048576) (by' : Bool) : PC Try.prog 38 [GrP g, GrP h, MoP m, .is l, .b by'] (.p (.is (sumF m (wgt g h m by') l k n))) [] := by
  have hm := num_of hs c by' hb
  have h12 := hm.h12
  have n12 := hm.n12
  have hk6 : k ≤ 1048576 := by omega
  have hgn := c.gn
  have hhk := c.hk
  have hvl := c.vl
  refine PC_of_W cfn38 ?_
  simp -implicitDefEqProofs (disch := omega) [c38, List.getElem?_cons_zero, List.getElem?_cons_succ, wrap_id, hhk, hk6]
  refine loopW n (fun j st => st = ⟨[(12, .i j), (11, .os 3 0 k), (7, .ptr 2 1 0 0), (6, .ptr 1 1 0 0), (5, .ptr 0 1 0 0), (4, .b by'), (3, .p (.is l))], [.box (.p (GrP g)), .box (.p (GrP h)), .box (.p (MoP m)), rowJ (sumF m (wgt g h m by') l k j)]⟩) (Wk_keep [12, 11, 7, 6, 5, 4, 3]) ?_ ?_
  · have e : sumF m (wgt g h m by') l k 0 = List.replicate k 0 := by
      refine ext_getD (by simp [sumF, lsF_len]) fun i hi => ?_
      have hi' : i < k := by simpa [sumF, lsF_len] using hi
      rw [sumF, lsF_get hi']
      simp [sm, List.getD_eq_getElem?_getD, hi']
    rw [rowJ, e, List.map_replicate]
    rfl
  rintro j st hj rfl
  by_cases hlt : j < n
  · have hjg : (j : Int) < g.1 := by omega
    obtain ⟨w0, wn⟩ := hm.vb j hlt
    obtain ⟨w, hwk⟩ : ∃ w : Nat, vI m j = w := ⟨(vI m j).toNat, by omega⟩
    have hwn : w < k := by omega
    have hkv : j < m.v.length := by omega
    have hkl : j < l.length := by omega
    have hmv : m.v[j] = (w : Int) := by rw [← hwk, vI, getD_get hkv]
    have hsl : (sumF m (wgt g h m by') l k j).length = k := by rw [sumF, lsF_len]
    have hws : w < (sumF m (wgt g h m by') l k j).length := by omega
    have hst := congrArg (List.map PV.i) (sumF_succ (W := wgt g h m by') (l := l) hwk hwn)
    have b1 := hm.sum (by omega : j ≤ 12) w
    have b2 := hm.term j j
    rw [List.map_set, getD_get hws, getD_get hkl, Int.mul_comm] at hst
    rw [getD_get hws] at b1
    rw [getD_get hkl, Int.mul_comm] at b2
    cases by' with
    | true =>
      have e : wgt g h m true j = multV (endsL g.2) (endsL h.2) m j := rfl
      rw [e] at hst b2
      simp -implicitDefEqProofs (disch := omega) [List.getElem?_cons_zero, List.getElem?_cons_succ, wrap_id, hjg]
      refine HC_of_PC rfl (rmult1_ok g h m n k j hs c hlt) ?_
      simp -implicitDefEqProofs (disch := omega) [List.getElem?_cons_zero, List.getElem?_cons_succ, wrap_id, hkv, hmv, hwn, hsl, hws, hkl, hst]
      exact round_keep [12, 11, 7, 6, 5, 4, 3] hlt rfl
    | false =>
      have e : wgt g h m false j = 1 := rfl
      rw [e, Int.one_mul] at hst b2
      simp -implicitDefEqProofs (disch := omega) [List.getElem?_cons_zero, List.getElem?_cons_succ, wrap_id, hjg, hkv, hmv, hwn, hsl, hws, hkl, hst]
      exact round_keep [12, 11, 7, 6, 5, 4, 3] hlt rfl
  · have hjn : j = n := by omega
    have hjg : ¬ (j : Int) < g.1 := by omega
    have hsl : (sumF m (wgt g h m by') l k j).length = k := by rw [sumF, lsF_len]
    simp -implicitDefEqProofs (disch := omega) [List.getElem?_cons_zero, List.getElem?_cons_succ, wrap_id, hjg]
    rw [hjn] at hsl ⊢
    (refine fin0 trivial rfl ?_; simp -implicitDefEqProofs (disch := omega) [List.getElem?_cons_zero, List.getElem?_cons_succ, idx, wrap_id, hsl])
theorem rlifted_ok (l : List Int) (hl : l.length = k) (hb : ∀ i, -1048576 ≤ l.getD i 0 ∧ l.getD i 0 ≤ 1048576) (by' : Bool) : PC Try.prog 39 [GrP g, GrP h, MoP m, .is l, .b by'] (.p (.is (lifF m (wgt g h m by') l n))) [] := by
  have hm := num_of hs c by' hb
  have h12 := hm.h12
  have n12 := hm.n12
  have hgn := c.gn
  have hvl := c.vl
  refine PC_of_W cfn39 ?_
  simp -implicitDefEqProofs (disch := omega) [c39, List.getElem?_cons_zero, List.getElem?_cons_succ, wrap_id]
  refine loopW n (fun j st => st = ⟨[(12, .i j), (11, .os 3 0 j), (7, .ptr 2 1 0 0), (6, .ptr 1 1 0 0), (5, .ptr 0 1 0 0), (4, .b by'), (3, .p (.is l))], [.box (.p (GrP g)), .box (.p (GrP h)), .box (.p (MoP m)), rowJ (lifF m (wgt g h m by') l j)]⟩)
    ((Wk_nil 11 1 3 rfl).trans (Wk_keep [12, 11, 7, 6, 5, 4, 3])) rfl ?_
  rintro j st hj rfl
  have hsl : (lifF m (wgt g h m by') l j).length = j := by rw [lifF, lsF_len]
  by_cases hlt : j < n
  · have hjg : (j : Int) < g.1 := by omega
    obtain ⟨w0, wn⟩ := hm.vb j hlt
    obtain ⟨w, hwk⟩ : ∃ w : Nat, vI m j = w := ⟨(vI m j).toNat, by omega⟩
    have hwn : w < l.length := by omega
    have hkv : j < m.v.length := by omega
    have hmv : m.v[j] = (w : Int) := by rw [← hwk, vI, getD_get hkv]
    have hj6 : j ≤ 1048575 := by omega
    have hsn : lifF m (wgt g h m by') l (j + 1) = lifF m (wgt g h m by') l j ++ [l[w] * wgt g h m by' j] := by
      rw [lifF, lsF_succ, hwk, Int.toNat_natCast, getD_get hwn]; rfl
    have b2 := hm.term w j
    rw [getD_get hwn, Int.mul_comm] at b2
    rw [Int.mul_comm] at hsn
    cases by' with
    | true =>
      have e : wgt g h m true j = multV (endsL g.2) (endsL h.2) m j := rfl
      rw [e] at hsn b2
      simp -implicitDefEqProofs (disch := omega) [List.getElem?_cons_zero, List.getElem?_cons_succ, wrap_id, hjg]
      refine HC_of_PC rfl (rmult1_ok g h m n k j hs c hlt) ?_
      simp -implicitDefEqProofs (disch := omega) [List.getElem?_cons_zero, List.getElem?_cons_succ, wrap_id, hkv, hmv, hwn, hsl, hj6]
      exact round_end [0, 1, 2, 3] [12, 11, 7, 6, 5, 4, 3] hlt rfl (by rw [hsn]; simp [Abs.norm, Abs.get, AV.ren, Abs.idx])
    | false =>
      have e : wgt g h m false j = 1 := rfl
      rw [e, Int.one_mul] at hsn b2
      simp -implicitDefEqProofs (disch := omega) [List.getElem?_cons_zero, List.getElem?_cons_succ, wrap_id, hjg, hkv, hmv, hwn, hsl, hj6]
      exact round_end [0, 1, 2, 3] [12, 11, 7, 6, 5, 4, 3] hlt rfl (by rw [hsn]; simp [Abs.norm, Abs.get, AV.ren, Abs.idx])
  · have hjn : j = n := by omega
    have hjg : ¬ (j : Int) < g.1 := by omega
    simp -implicitDefEqProofs (disch := omega) [List.getElem?_cons_zero, List.getElem?_cons_succ, wrap_id, hjg]
    rw [hjn] at hsl ⊢
    (refine fin0 trivial rfl ?_; simp -implicitDefEqProofs (disch := omega) [List.getElem?_cons_zero, List.getElem?_cons_succ, idx, wrap_id, hsl])
end
/-- The error of what is moved. -/
def puE (e1 e2 : Int) (L : List Int) : Int := if e1 ≠ 0 then e1 else if e2 ≠ 0 then e2 else bndE L
abbrev puP (e1 e2 : Int) (L : List Int) : PV := if puE e1 e2 L = 0 then .is L else .nil
abbrev puR (e1 e2 : Int) (L : List Int) : AV := .tup [.p (puP e1 e2 L), .i (puE e1 e2 L)]
theorem pu_1 {e1 e2 : Int} {L : List Int} (h : e1 ≠ 0) : puE e1 e2 L = e1 := if_pos h
theorem pu_2 {e1 e2 : Int} {L : List Int} (h1 : e1 = 0) (h2 : e2 ≠ 0) : puE e1 e2 L = e2 := by rw [puE, if_neg (by simp [h1]), if_pos h2]
theorem pu_3 {e1 e2 : Int} {L : List Int} (h1 : e1 = 0) (h2 : e2 = 0) : puE e1 e2 L = bndE L := by rw [puE, if_neg (by simp [h1]), if_neg (by simp [h2])]
theorem dchk_good {d : List Int} {n : Nat} (h : dcheck d n = 0) : d.length = n ∧ d.all inB = true ∧ Bd 1048576 d := by
  unfold dcheck at h
  split at h
  · cases h
  · split at h
    · cases h
    · rename_i h2
      split at h
      · rename_i h3
        refine ⟨by omega, h3, ?_⟩
        have hb : bndE d = 0 := by rw [bndE, if_pos h3]
        exact (bnd_ok hb).1
      · cases h
theorem dchk_mk {n : Nat} {m : List Int} (h1 : 1 ≤ n) (h2 : n ≤ 12) (hl : m.length = n) (hb : m.all inB = true) : dcheck m n = 0 := by
  rw [dcheck, if_neg (by omega), if_neg (by omega), if_pos hb]
theorem given_dchk {N : Int} {es : List Ed} {d : List Int} (hg : gcheck N es = 0) : givenE N es d = dcheck d N := by
  rw [givenE, if_neg (by simp [hg])]
end Go.Proofs.Ytddgepjmfnodhaa
