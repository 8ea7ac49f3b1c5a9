/-
  Contracts: firing unstable vertices until there are none.
-/
import Derived.Test.YtgjaekbbdmhjlaaZd
set_option linter.unusedSimpArgs false
set_option linter.unusedVariables false
namespace Go.Proofs.Ytgjaekbbdmhjlaa
open Go.Abs Go.Sand

def nxI (n : Nat) (es : List Ed) (q : Int) (c : List Int) : Int := match nxtF n es q c with
  | none => -1
  | some v => (v : Int)
theorem waitsL_get {n : Nat} {es : List Ed} {q : Int} {c : List Int} {u : Nat} (hn : n ≤ 12) : (waitsL n es q c).getD u false = (decide (u < n) && unstB n es q c u) := by
  by_cases h : u < 12
  · simp [waitsL, List.getD_eq_getElem?_getD, h]
  · have : ¬ u < n := by omega
    simp [waitsL, List.getD_eq_getElem?_getD, h, this]
theorem nxI_spec {n : Nat} {es : List Ed} {q : Int} {c : List Int} (hn : n ≤ 12) : (nxI n es q c = -1 ∧ ∀ u, u < (waitsL n es q c).length → (waitsL n es q c).getD u false = false) ∨
    ∃ v : Nat, nxI n es q c = v ∧ v < (waitsL n es q c).length ∧ (waitsL n es q c).getD v false = true ∧ ∀ u, u < v → (waitsL n es q c).getD u false = false := by
  unfold nxI
  cases h : nxtF n es q c with
  | none =>
    refine .inl ⟨rfl, fun u _ => ?_⟩
    rw [waitsL_get hn]
    by_cases hu : u < n
    · have := (List.find?_eq_none.1 h) u (List.mem_range.2 hu)
      simpa [hu] using this
    · simp [hu]
  | some v =>
    obtain ⟨h1, h2, h3⟩ := List.find?_range_eq_some.1 h
    have h2 := List.mem_range.1 h2
    refine .inr ⟨v, rfl, by rw [waitsL_len]; omega, by rw [waitsL_get hn]; simp [h2, h1], fun u hu => ?_⟩
    rw [waitsL_get hn]
    have := h3 u hu
    simp at this
    simp [this]
section
variable {n : Nat} {es : List Ed} {q : Int} {c s d : List Int} {b0 : AO} {T : List AO} {K : AV → List AO → Prop}
theorem next_ok (hn : n ≤ 12) (hK : K (.i (nxI n es q c)) (b0 :: pileH n es q c s T)) : HC Try.prog false 104 [.ptr 1 1 0 0] (b0 :: pileH n es q c s T) K :=
  nextW_ok _ (waitsL_len _ _ _ _) (nxI_spec hn) hK
theorem Leg.sBd {s : List Int} (h : Leg n es q d s) (hb : sumI s ≤ 20000000) : Bd 20000000 s := fun i => by
  have h1 := h.nn i
  refine ⟨by omega, ?_⟩
  by_cases hi : i < s.length
  · have := sumI_ge s i (fun j _ _ => h.nn j) hi
    omega
  · rw [List.getD_eq_getElem?_getD, List.getElem?_eq_none (by omega)]; simp
theorem chip_bd (hg : GoodG n es) (h : Leg n es q d s) (hc : Conf n q d) : Bd 20000000 (movedE es s d) := fun i => by have := aft_bd hg h hc i; omega
theorem many_bd (hg : GoodG n es) (hV : ∀ v, v < n → (v : Int) ≠ q → 1 ≤ valTo es v n) (h : Leg n es q d s) (hc : Conf n q d) {v : Nat} (hv : nxtF n es q (movedE es s d) = some v) :
    0 ≤ (movedE es s d).getD v 0 ∧ 1 ≤ valTo es v n ∧ 1 ≤ (movedE es s d).getD v 0 / valTo es v n ∧ (movedE es s d).getD v 0 / valTo es v n ≤ 13631800 := by
  obtain ⟨h1, h2, h3⟩ := nxtF_some hv
  have h4 := (may_many hV hv).k1
  have h5 := hV v h1 h2
  have h6 := (aft_bd hg h hc v).2
  have h7 : (movedE es s d).getD v 0 / valTo es v n ≤ (movedE es s d).getD v 0 := Int.ediv_le_self _ (by omega)
  omega
theorem settleF_none {m : Nat} (h : nxtF n es q (movedE es s d) = none) : settleF n es q d (m + 1) s = (s, 0) := by
  simp only [settleF, h]
theorem settleF_over {m v : Nat} (h : nxtF n es q (movedE es s d) = some v) (h2 : 1048576 < sumI (moreS s v ((movedE es s d).getD v 0 / valTo es v n))) : settleF n es q d (m + 1) s = (moreS s v ((movedE es s d).getD v 0 / valTo es v n), 12) := by
  simp only [settleF, h, h2, if_true]
theorem settleF_go {m v : Nat} (h : nxtF n es q (movedE es s d) = some v) (h2 : ¬ 1048576 < sumI (moreS s v ((movedE es s d).getD v 0 / valTo es v n))) : settleF n es q d (m + 1) s = settleF n es q d m (moreS s v ((movedE es s d).getD v 0 / valTo es v n)) := by
  simp only [settleF, h, h2, if_false]
set_option maxRecDepth 10000 in
theorem settle_ok (hg : GoodG n es) (hV : ∀ v, v < n → (v : Int) ≠ q → 1 ≤ valTo es v n) (hc : Conf n q d) (hK : K (.i (stabF n es q d).2) (b0 :: pileH n es q (movedE es (stabF n es q d).1 d) (stabF n es q d).1 T)) :
    HC Try.prog false 83 [.ptr 1 1 0 0] (b0 :: pileH n es q d (List.replicate n 0) T) K := by
  have hn := hg.n12
  have hd0 : movedE es (List.replicate n 0) d = d := aft_zero hg hc.len
  refine HC_of_W (af := _) ((by exact cfn83 : cfn _ _ _ = some _)) ?_
  simp -implicitDefEqProofs (disch := omega) [c83, List.getElem?_cons_zero, List.getElem?_cons_succ, wrap_id]
  refine next_ok (by omega) ?_
  simp -implicitDefEqProofs (disch := omega) [List.getElem?_cons_zero, List.getElem?_cons_succ, wrap_id]
  refine loopW 1048577 (fun k st => ∃ s, Leg n es q d s ∧ sumI s ≤ 1048576 ∧ (k : Int) ≤ sumI s ∧ settleF n es q d (1048577 - k) s = stabF n es q d ∧
      st = ⟨[(4, .i (nxI n es q (movedE es s d))), (3, .fn (.func 103) [.ptr 1 1 0 0] []), (0, .ptr 1 1 0 0)], b0 :: pileH n es q (movedE es s d) s T⟩) (Wk_keep [4, 3, 0]) ⟨_, .nil, by rw [sumI_zeros]; omega, by rw [sumI_zeros]; simp, rfl, by rw [hd0]; rfl⟩ ?_
  rintro k st hk ⟨s, hl, hs1, hs2, hs3, rfl⟩
  obtain ⟨m, hm⟩ : ∃ m, 1048577 - k = m + 1 := ⟨1048577 - k - 1, by omega⟩
  rw [hm] at hs3
  cases hx : nxtF n es q (movedE es s d) with
  | none =>
    have hr := settleF_none (m := m) hx
    rw [hs3] at hr
    have hx' : nxI n es q (movedE es s d) = -1 := by rw [nxI, hx]
    rw [hr] at hK
    simp -implicitDefEqProofs (disch := omega) [List.getElem?_cons_zero, List.getElem?_cons_succ, wrap_id, hx']
    exact finH trivial rfl hK
  | some v =>
    have hx' : nxI n es q (movedE es s d) = (v : Int) := by rw [nxI, hx]
    obtain ⟨hv, hvq, hvd⟩ := nxtF_some hx
    obtain ⟨b1, b2, b3, b4⟩ := many_bd hg hV hl hc hx
    have hcl : (movedE es s d).length = n := by rw [movedE_length, hc.len]
    have hcv : v < (movedE es s d).length := by omega
    have hVv : ((valsL n es).map PV.i)[v]? = some (.i (valTo es v n)) := by simp [valsL, hv]
    have hne : ¬ valTo es v n = 0 := by omega
    have hq0 : ((movedE es s d)[v]).tdiv (valTo es v n) = (movedE es s d).getD v 0 / valTo es v n := by rw [getD_get hcv] at b1 ⊢; exact Int.tdiv_eq_ediv_of_nonneg b1
    have hl0 := hl.more (may_many hV hx)
    have hov : 1048576 < sumI (moreS s v ((movedE es s d).getD v 0 / valTo es v n)) → stabF n es q d = (moreS s v ((movedE es s d).getD v 0 / valTo es v n), 12) := fun ho => by rw [← hs3]; exact settleF_over hx ho
    have hgo : ¬ 1048576 < sumI (moreS s v ((movedE es s d).getD v 0 / valTo es v n)) → settleF n es q d m (moreS s v ((movedE es s d).getD v 0 / valTo es v n)) = stabF n es q d := fun ho => by rw [← hs3]; exact (settleF_go hx ho).symm
    obtain ⟨κ, hκ⟩ : ∃ κ, (movedE es s d).getD v 0 / valTo es v n = κ := ⟨_, rfl⟩
    rw [hκ] at b3 b4 hq0 hl0 hov hgo
    have hmv := fired_moved hg hc.len hl.len hv κ
    have hsum : sumI (moreS s v κ) = sumI s + κ := sumI_more (by rw [hl.len]; exact hv)
    simp -implicitDefEqProofs (disch := omega) [List.getElem?_cons_zero, List.getElem?_cons_succ, wrap_id, hx', hv, hcl, hcv, hVv, hne, hq0]
    refine ⟨by kernel_rfl, ?_⟩
    refine pfire_ok hg v _ hv ⟨by omega, by omega⟩ hcl hl.len (chip_bd hg hl hc) (Leg.sBd hl (by omega)) ⟨by omega, by omega⟩ ?_
    rw [hmv]
    by_cases ho : 1048576 < sumI (moreS s v κ)
    · rw [hov ho] at hK
      simp -implicitDefEqProofs (disch := omega) [List.getElem?_cons_zero, List.getElem?_cons_succ, wrap_id, ho]
      exact finH trivial rfl hK
    · simp -implicitDefEqProofs (disch := omega) [List.getElem?_cons_zero, List.getElem?_cons_succ, wrap_id, ho]
      refine next_ok (by omega) ?_
      simp -implicitDefEqProofs (disch := omega) [List.getElem?_cons_zero, List.getElem?_cons_succ, wrap_id]
      exact round_keep [4, 3, 0] (by omega) ⟨_, hl0, by omega, by omega, by rw [show 1048577 - (k + 1) = m by omega]; exact hgo ho, rfl⟩
def settledE (n : Nat) (es : List Ed) (q : Int) (d : List Int) : Int := if (stabF n es q d).2 ≠ 0 then (stabF n es q d).2 else if 1048576 < (movedE es (stabF n es q d).1 d).getD q.toNat 0 then 11 else 0
theorem settled_ok (hg : GoodG n es) (hV : ∀ v, v < n → (v : Int) ≠ q → 1 ≤ valTo es v n) (hc : Conf n q d) (hq : 0 ≤ q ∧ q < n) (hK : K (.i (settledE n es q d)) (b0 :: pileH n es q (movedE es (stabF n es q d).1 d) (stabF n es q d).1 T)) :
    HC Try.prog false 59 [.ptr 1 1 0 0] (b0 :: pileH n es q d (List.replicate n 0) T) K := by
  obtain ⟨p, rfl⟩ : ∃ p : Nat, q = p := ⟨q.toNat, by omega⟩
  have hp : p < n := by omega
  have hcl : (movedE es (stabF n es p d).1 d).length = n := by rw [movedE_length, hc.len]
  have hcp : p < (movedE es (stabF n es p d).1 d).length := by omega
  refine HC_of_W (af := _) ((by exact cfn59 : cfn _ _ _ = some _)) ?_
  simp -implicitDefEqProofs (disch := omega) [c59, List.getElem?_cons_zero, List.getElem?_cons_succ, wrap_id]
  refine settle_ok hg hV hc ?_
  unfold settledE at hK
  rw [Int.toNat_natCast, getD_get hcp] at hK
  by_cases h1 : (stabF n es p d).2 = 0
  · by_cases h2 : 1048576 < (movedE es (stabF n es p d).1 d)[p]
    · simp -implicitDefEqProofs (disch := omega) [List.getElem?_cons_zero, List.getElem?_cons_succ, wrap_id, h1, hcl, hcp, hp, h2]
      exact finH trivial rfl (by simpa [h1, h2] using hK)
    · simp -implicitDefEqProofs (disch := omega) [List.getElem?_cons_zero, List.getElem?_cons_succ, wrap_id, h1, hcl, hcp, hp, h2]
      exact finH trivial rfl (by simpa [h1, h2] using hK)
  · simp -implicitDefEqProofs (disch := omega) [List.getElem?_cons_zero, List.getElem?_cons_succ, wrap_id, h1]
    exact finH trivial rfl (by simpa [h1] using hK)
end
end Go.Proofs.Ytgjaekbbdmhjlaa
