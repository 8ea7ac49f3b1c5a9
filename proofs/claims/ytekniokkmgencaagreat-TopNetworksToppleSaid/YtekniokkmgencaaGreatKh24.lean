/-
  Texts joined: Zd Ze Gn Zf.
-/
import Derived.Test.YtekniokkmgencaaGreatKh23

section
set_option linter.unusedSimpArgs false
set_option linter.unusedVariables false
namespace Go.Proofs.YtekniokkmgencaaGreat
open Go.Abs Go.Sand
def valsL (n : Nat) (es : List Ed) : List Int := (List.range n).map fun v : Nat => valTo es v n
def rowL (n : Nat) (es : List Ed) (v : Nat) : List Int := (List.range n).map fun u => joinE es v u
def rowsL (n : Nat) (es : List Ed) : List (List Int) := (List.range n).map fun v => rowL n es v
def waitsL (n : Nat) (es : List Ed) (q : Int) (c : List Int) : List Bool := (List.range 12).map fun u => decide (u < n) && unstB n es q c u
def firedL (n : Nat) (es : List Ed) (c : List Int) (v : Nat) (k : Int) : List Int := (List.range n).map fun u => c.getD u 0 + joinE es v u * k - if u = v then k * valTo es v n else 0
theorem rg_get (f : Nat → Int) (n v : Nat) : ((List.range n).map f).getD v 0 = if v < n then f v else 0 := by
  by_cases h : v < n <;> simp [List.getD_eq_getElem?_getD, h]
theorem fired_moved {n : Nat} {es : List Ed} (hg : GoodG n es) {d s : List Int} (hd : d.length = n) (hs : s.length = n) {v : Nat} (hv : v < n) (k : Int) : firedL n es (movedE es s d) v k = movedE es (moreS s v k) d := by
  refine ext_getD (by simp [firedL, movedE_length, hd]) fun u hu => ?_
  simp only [firedL, List.length_map, List.length_range] at hu
  rw [firedL, rg_get]
  simp only [hu, if_true]
  rw [aft_more hg hd s v k (by omega) hv]
theorem wait_unst {n : Nat} {es : List Ed} {q : Int} {c : List Int} {v : Nat} (hv : v < n) : waitB q (valsL n es) c v = unstB n es q c v := by
  rw [waitB, unstB, valsL, rg_get]
  simp only [hv, if_true]
  by_cases h1 : (v : Int) = q <;> simp [h1]
def fireTo (n : Nat) (es : List Ed) (c : List Int) (v : Nat) (k : Int) (m : Nat) : List Int := (List.range n).map fun u => c.getD u 0 + (if u < m then joinE es v u * k else 0) - if u = v then k * valTo es v n else 0
def waitTo (n : Nat) (es : List Ed) (q : Int) (c c' : List Int) (m : Nat) : List Bool := (List.range 12).map fun u => decide (u < n) && if u < m then unstB n es q c' u else unstB n es q c u
theorem fireTo_get {n : Nat} {es : List Ed} {c : List Int} {v : Nat} {k : Int} {m u : Nat} (hu : u < n) : (fireTo n es c v k m).getD u 0 = c.getD u 0 + (if u < m then joinE es v u * k else 0) - if u = v then k * valTo es v n else 0 := by
  rw [fireTo, rg_get]
  exact if_pos hu
theorem fireTo_0 {n : Nat} {es : List Ed} {c : List Int} (hc : c.length = n) {v : Nat} (k : Int) : c.set v (c.getD v 0 - k * valTo es v n) = fireTo n es c v k 0 := by
  refine ext_getD (by simp [fireTo, hc]) fun u hu => ?_
  simp only [List.length_set] at hu
  rw [fireTo_get (by omega), getD_set]
  by_cases h : u = v
  · subst h; simp [hu]
  · have h' : ¬ v = u := fun e => h e.symm
    simp [h, h']
theorem fireTo_len (n : Nat) (es : List Ed) (c : List Int) (v : Nat) (k : Int) (m : Nat) : (fireTo n es c v k m).length = n := by simp [fireTo]
theorem fireTo_succ {n : Nat} {es : List Ed} {c : List Int} {v : Nat} (k : Int) {m : Nat} (hm : m < n) : (fireTo n es c v k m).set m ((fireTo n es c v k m).getD m 0 + k * joinE es v m) = fireTo n es c v k (m + 1) := by
  refine ext_getD (by simp [fireTo]) fun u hu => ?_
  simp only [List.length_set, fireTo_len] at hu
  rw [getD_set, fireTo_get hm, fireTo_get hu, fireTo_get hu, fireTo_len]
  have hj := Int.mul_comm k (joinE es v m)
  by_cases h : m = u
  · subst h
    simp only [hm, and_self, if_true, Nat.lt_irrefl, if_false, Nat.lt_succ_self]
    omega
  · have h2 : (u < m + 1) = (u < m) := by simp only [eq_iff_iff]; omega
    simp only [h, false_and, if_false, h2]
theorem fireTo_n (n : Nat) (es : List Ed) (c : List Int) (v : Nat) (k : Int) : fireTo n es c v k n = firedL n es c v k := by
  refine ext_getD (by simp [fireTo, firedL]) fun u hu => ?_
  rw [fireTo_len] at hu
  rw [fireTo_get hu, firedL, rg_get]
  simp only [hu, if_true]
theorem unst_at {n : Nat} {es : List Ed} {q : Int} {a b : List Int} {v : Nat} (h : a.getD v 0 = b.getD v 0) : unstB n es q a v = unstB n es q b v := by rw [unstB, unstB, h]
theorem waitTo_0 (n : Nat) (es : List Ed) (q : Int) (c c' : List Int) : waitsL n es q c = waitTo n es q c c' 0 := by
  simp [waitsL, waitTo]
theorem waitTo_len (n : Nat) (es : List Ed) (q : Int) (c c' : List Int) (m : Nat) : (waitTo n es q c c' m).length = 12 := by simp [waitTo]
theorem waitTo_succ {n : Nat} {es : List Ed} {q : Int} {c c' : List Int} {m : Nat} (hm : m < n) (hn : n ≤ 12) {b : Bool} (hb : b = unstB n es q c' m) : (waitTo n es q c c' m).set m b = waitTo n es q c c' (m + 1) := by
  refine List.ext_getElem (by simp [waitTo]) fun u h1 h2 => ?_
  rw [List.getElem_set]
  simp only [waitTo, List.getElem_map, List.getElem_range]
  by_cases h : m = u
  · subst h; simp [hm, hb]
  · have h2 : (u < m + 1) = (u < m) := by simp only [eq_iff_iff]; omega
    simp only [h, if_false, h2]
theorem waitTo_n (n : Nat) (es : List Ed) (q : Int) (c c' : List Int) : waitTo n es q c c' n = waitsL n es q c' := by
  refine List.ext_getElem (by simp [waitTo, waitsL]) fun u h1 h2 => ?_
  simp only [waitTo, waitsL, List.getElem_map, List.getElem_range]
  by_cases h : u < n <;> simp [h]
theorem waits_set {n : Nat} {es : List Ed} {q : Int} {c : List Int} {v : Nat} (hv : v < n) (hn : n ≤ 12) : (waitsL n es q c).set v (unstB n es q c v) = waitsL n es q c := by
  refine List.ext_getElem (by simp) fun u h1 h2 => ?_
  rw [List.getElem_set]
  split
  · rename_i h
    subst h
    simp [waitsL, hv]
  · rfl
theorem valsL_len (n : Nat) (es : List Ed) : (valsL n es).length = n := by simp [valsL]
theorem waitsL_len (n : Nat) (es : List Ed) (q : Int) (c : List Int) : (waitsL n es q c).length = 12 := by simp [waitsL]
theorem val_bd {n : Nat} {es : List Ed} (hg : GoodG n es) (v : Nat) : 0 ≤ valTo es v n ∧ valTo es v n ≤ 600 := by
  refine ⟨valTo_nn hg v n, ?_⟩
  rw [valTo_sum]
  have : ∀ k : Nat, sumN (fun u => joinE es v u) k ≤ 50 * k := by
    intro k
    induction k with
    | zero => simp [sumN]
    | succ k ih => simp only [sumN]; have := (joinE_bd hg v k).2; push_cast; omega
  have := this n
  have := hg.n12
  omega
abbrev pileH (n : Nat) (es : List Ed) (q : Int) (c s : List Int) (T : List AO) : List AO := .box (pileA 1 n q (rowsL n es) (valsL n es) (sumI s) (waitsL n es q c)) :: rowI c :: rowI s :: T
section
variable {n : Nat} {es : List Ed} {q : Int} {c s : List Int} {b0 : AO} {T : List AO} {K : AV → List AO → Prop}
set_option maxRecDepth 10000 in
theorem pfire_ok (hg : GoodG n es) (v : Nat) (k : Int) (hv : v < n) (hk : 0 ≤ k ∧ k ≤ 20000000) (hc : c.length = n) (hs : s.length = n) (hcb : Bd 20000000 c) (hsb : Bd 20000000 s) (hst : -20000000 ≤ sumI s ∧ sumI s ≤ 20000000)
    (hK : K (.tup []) (b0 :: pileH n es q (firedL n es c v k) (moreS s v k) T)) :
    HC Tryz.prog false 70 [.ptr 1 1 0 0, .i v, .i k] (b0 :: pileH n es q c s T) K := by
  have hn := hg.n12
  have hvb := val_bd hg v
  have hcv : v < c.length := by omega
  have hsv : v < s.length := by omega
  have hV : ((valsL n es).map PV.i)[v]? = some (.i (valTo es v n)) := by simp [valsL, hv]
  have hR : ((rowsL n es).map PV.is)[v]? = some (.is (rowL n es v)) := by simp [rowsL, hv]
  have hRl : (rowL n es v).length = n := by simp [rowL]
  have hRu : ∀ u, u < n → ((rowL n es v).map PV.i)[u]? = some (.i (joinE es v u)) := fun u hu => by simp [rowL, hu]
  have hm1 : 0 ≤ k * valTo es v n ∧ k * valTo es v n ≤ 12000000000 := by
    constructor
    · exact Int.mul_nonneg hk.1 hvb.1
    · have := Int.mul_le_mul hk.2 hvb.2 hvb.1 (by omega)
      omega
  have hcv' := hcb v
  have hsv' := hsb v
  rw [getD_get hcv] at hcv'
  rw [getD_get hsv] at hsv'
  refine HC_of_W (af := _) ((by exact cfn70 : cfn _ _ _ = some _)) ?_
  have hset : (c.map PV.i).set v (PV.i (c[v] - k * valTo es v n)) = (fireTo n es c v k 0).map PV.i := by
    rw [← fireTo_0 hc, getD_get hcv, List.map_set]
  obtain ⟨c', hc'⟩ : ∃ c', c' = firedL n es c v k := ⟨_, rfl⟩
  rw [← hc'] at hK
  simp -implicitDefEqProofs (disch := omega) [c70, List.getElem?_cons_zero, List.getElem?_cons_succ, wrap_id, hV, hR, hRl, hc, hs, hcv, hv, hset]
  refine loopW n (fun m st => st = ⟨[(34, .i m), (33, .i n), (32, .p (.is (rowL n es v))), (0, .ptr 1 1 0 0), (1, .i v), (2, .i k)],
    b0 :: .box (pileA 1 n q (rowsL n es) (valsL n es) (sumI s) (waitTo n es q c c' m)) :: rowI (fireTo n es c v k m) :: rowI s :: T⟩) (Wk_keep [34, 33, 32, 0, 1, 2]) (by rw [← waitTo_0]; rfl) ?_
  rintro m st hm rfl
  have hFl := fireTo_len n es c v k m
  by_cases hlt : m < n
  · have hj := joinE_bd hg v m
    have hkj : 0 ≤ k * joinE es v m ∧ k * joinE es v m ≤ 1000000000 := by
      constructor
      · exact Int.mul_nonneg hk.1 hj.1
      · have := Int.mul_le_mul hk.2 hj.2 hj.1 (by omega)
        omega
    have hFb : -20000000000 ≤ (fireTo n es c v k m).getD m 0 ∧ (fireTo n es c v k m).getD m 0 ≤ 20000000000 := by
      rw [fireTo_get hlt]
      have := hcb m
      simp only [Nat.lt_irrefl, if_false]
      split <;> omega
    have hs2 := congrArg (List.map PV.i) (fireTo_succ (n := n) (es := es) (c := c) (v := v) k hlt)
    rw [List.map_set] at hs2
    have hFm : m < (fireTo n es c v k m).length := by omega
    rw [getD_get hFm] at hs2 hFb
    have hRm := hRu m hlt
    simp -implicitDefEqProofs (disch := omega) [List.getElem?_cons_zero, List.getElem?_cons_succ, wrap_id, hlt, hRm, hFl, hFm, hs2]
    refine wait_ok m hlt (by omega) (fireTo_len _ _ _ _ _ _) hs (valsL_len _ _) (waitTo_len _ _ _ _ _ _) ?_
    rw [waitTo_succ hlt (by omega) (by rw [wait_unst hlt]; refine unst_at ?_; rw [hc', ← fireTo_n, fireTo_get hlt, fireTo_get hlt]; simp only [Nat.lt_succ_self, hlt, if_true])]
    simp -implicitDefEqProofs (disch := omega) [List.getElem?_cons_zero, List.getElem?_cons_succ, wrap_id]
    exact round_keep [34, 33, 32, 0, 1, 2] hlt rfl
  · have hmn : m = n := by omega
    subst hmn
    rw [waitTo_n, fireTo_n, ← hc']
    have hcl : c'.length = m := by rw [hc']; simp [firedL]
    have hset3 : (s.map PV.i).set v (PV.i (s[v] + k)) = (moreS s v k).map PV.i := by rw [moreS, getD_get hsv, List.map_set]
    have hsum : sumI s + k = sumI (moreS s v k) := (sumI_more hsv).symm
    simp -implicitDefEqProofs (disch := omega) [List.getElem?_cons_zero, List.getElem?_cons_succ, wrap_id]
    refine wait_ok v hv (by omega) hcl hs (valsL_len _ _) (waitsL_len _ _ _ _) ?_
    rw [wait_unst hv, waits_set hv (by omega)]
    simp -implicitDefEqProofs (disch := omega) [List.getElem?_cons_zero, List.getElem?_cons_succ, wrap_id, hsv, hv, hs, hset3, hsum]
    exact finH trivial rfl hK
end
end Go.Proofs.YtekniokkmgencaaGreat
end
section
set_option linter.unusedSimpArgs false
set_option linter.unusedVariables false
namespace Go.Proofs.YtekniokkmgencaaGreat
open Go.Abs Go.Sand
def nxI (n : Nat) (es : List Ed) (q : Int) (c : List Int) : Int := match nxtF n es q c with
  | none => -1
  | some v => (v : Int)
theorem waitsL_get {n : Nat} {es : List Ed} {q : Int} {c : List Int} {u : Nat} (hn : n ≤ 12) : (waitsL n es q c).getD u false = (decide (u < n) && unstB n es q c u) := by
  by_cases h : u < 12
  · simp [waitsL, List.getD_eq_getElem?_getD, h]
  · have : ¬ u < n := by omega
    simp [waitsL, List.getD_eq_getElem?_getD, h, this]
theorem nxI_spec {n : Nat} {es : List Ed} {q : Int} {c : List Int} (hn : n ≤ 12) : (nxI n es q c = -1 ∧ ∀ u, u < (waitsL n es q c).length → (waitsL n es q c).getD u false = false) ∨
    ∃ v : Nat, nxI n es q c = v ∧ v < (waitsL n es q c).length ∧ (waitsL n es q c).getD v false = true ∧ ∀ u, u < v → (waitsL n es q c).getD u false = false := by
  unfold nxI
  cases h : nxtF n es q c with
  | none =>
    refine .inl ⟨rfl, fun u _ => ?_⟩
    rw [waitsL_get hn]
    by_cases hu : u < n
    · have := (List.find?_eq_none.1 h) u (List.mem_range.2 hu)
      simpa [hu] using this
    · simp [hu]
  | some v =>
    obtain ⟨h1, h2, h3⟩ := List.find?_range_eq_some.1 h
    have h2 := List.mem_range.1 h2
    refine .inr ⟨v, rfl, by rw [waitsL_len]; omega, by rw [waitsL_get hn]; simp [h2, h1], fun u hu => ?_⟩
    rw [waitsL_get hn]
    have := h3 u hu
    simp at this
    simp [this]
section
variable {n : Nat} {es : List Ed} {q : Int} {c s d : List Int} {b0 : AO} {T : List AO} {K : AV → List AO → Prop}
theorem next_ok (hn : n ≤ 12) (hK : K (.i (nxI n es q c)) (b0 :: pileH n es q c s T)) : HC Tryz.prog false 71 [.ptr 1 1 0 0] (b0 :: pileH n es q c s T) K :=
  nextW_ok _ (waitsL_len _ _ _ _) (nxI_spec hn) hK
theorem Leg.sBd {s : List Int} (h : Leg n es q d s) (hb : sumI s ≤ 20000000) : Bd 20000000 s := fun i => by
  have h1 := h.nn i
  refine ⟨by omega, ?_⟩
  by_cases hi : i < s.length
  · have := sumI_ge s i (fun j _ _ => h.nn j) hi
    omega
  · rw [List.getD_eq_getElem?_getD, List.getElem?_eq_none (by omega)]; simp
theorem chip_bd (hg : GoodG n es) (h : Leg n es q d s) (hc : Conf n q d) : Bd 20000000 (movedE es s d) := fun i => by have := aft_bd hg h hc i; omega
theorem many_bd (hg : GoodG n es) (hV : ∀ v, v < n → (v : Int) ≠ q → 1 ≤ valTo es v n) (h : Leg n es q d s) (hc : Conf n q d) {v : Nat} (hv : nxtF n es q (movedE es s d) = some v) :
    0 ≤ (movedE es s d).getD v 0 ∧ 1 ≤ valTo es v n ∧ 1 ≤ (movedE es s d).getD v 0 / valTo es v n ∧ (movedE es s d).getD v 0 / valTo es v n ≤ 13631800 := by
  obtain ⟨h1, h2, h3⟩ := nxtF_some hv
  have h4 := (may_many hV hv).k1
  have h5 := hV v h1 h2
  have h6 := (aft_bd hg h hc v).2
  have h7 : (movedE es s d).getD v 0 / valTo es v n ≤ (movedE es s d).getD v 0 := Int.ediv_le_self _ (by omega)
  omega
theorem settleF_none {m : Nat} (h : nxtF n es q (movedE es s d) = none) : settleF n es q d (m + 1) s = (s, 0) := by
  simp only [settleF, h]
theorem settleF_over {m v : Nat} (h : nxtF n es q (movedE es s d) = some v) (h2 : 1048576 < sumI (moreS s v ((movedE es s d).getD v 0 / valTo es v n))) : settleF n es q d (m + 1) s = (moreS s v ((movedE es s d).getD v 0 / valTo es v n), 12) := by
  simp only [settleF, h, h2, if_true]
theorem settleF_go {m v : Nat} (h : nxtF n es q (movedE es s d) = some v) (h2 : ¬ 1048576 < sumI (moreS s v ((movedE es s d).getD v 0 / valTo es v n))) : settleF n es q d (m + 1) s = settleF n es q d m (moreS s v ((movedE es s d).getD v 0 / valTo es v n)) := by
  simp only [settleF, h, h2, if_false]
set_option maxRecDepth 10000 in
theorem settle_ok (hg : GoodG n es) (hV : ∀ v, v < n → (v : Int) ≠ q → 1 ≤ valTo es v n) (hc : Conf n q d) (hK : K (.i (stabF n es q d).2) (b0 :: pileH n es q (movedE es (stabF n es q d).1 d) (stabF n es q d).1 T)) :
    HC Tryz.prog false 40 [.ptr 1 1 0 0] (b0 :: pileH n es q d (List.replicate n 0) T) K := by
  have hn := hg.n12
  have hd0 : movedE es (List.replicate n 0) d = d := aft_zero hg hc.len
  refine HC_of_W (af := _) ((by exact cfn40 : cfn _ _ _ = some _)) ?_
  simp -implicitDefEqProofs (disch := omega) [c40, List.getElem?_cons_zero, List.getElem?_cons_succ, wrap_id]
  refine next_ok (by omega) ?_
  simp -implicitDefEqProofs (disch := omega) [List.getElem?_cons_zero, List.getElem?_cons_succ, wrap_id]
  refine loopW 1048577 (fun k st => ∃ s, Leg n es q d s ∧ sumI s ≤ 1048576 ∧ (k : Int) ≤ sumI s ∧ settleF n es q d (1048577 - k) s = stabF n es q d ∧
      st = ⟨[(4, .i (nxI n es q (movedE es s d))), (3, .fn (.func 70) [.ptr 1 1 0 0] []), (0, .ptr 1 1 0 0)], b0 :: pileH n es q (movedE es s d) s T⟩) (Wk_keep [4, 3, 0]) ⟨_, .nil, by rw [sumI_zeros]; omega, by rw [sumI_zeros]; simp, rfl, by rw [hd0]; rfl⟩ ?_
  rintro k st hk ⟨s, hl, hs1, hs2, hs3, rfl⟩
  obtain ⟨m, hm⟩ : ∃ m, 1048577 - k = m + 1 := ⟨1048577 - k - 1, by omega⟩
  rw [hm] at hs3
  cases hx : nxtF n es q (movedE es s d) with
  | none =>
    have hr := settleF_none (m := m) hx
    rw [hs3] at hr
    have hx' : nxI n es q (movedE es s d) = -1 := by rw [nxI, hx]
    rw [hr] at hK
    simp -implicitDefEqProofs (disch := omega) [List.getElem?_cons_zero, List.getElem?_cons_succ, wrap_id, hx']
    exact finH trivial rfl hK
  | some v =>
    have hx' : nxI n es q (movedE es s d) = (v : Int) := by rw [nxI, hx]
    obtain ⟨hv, hvq, hvd⟩ := nxtF_some hx
    obtain ⟨b1, b2, b3, b4⟩ := many_bd hg hV hl hc hx
    have hcl : (movedE es s d).length = n := by rw [movedE_length, hc.len]
    have hcv : v < (movedE es s d).length := by omega
    have hVv : ((valsL n es).map PV.i)[v]? = some (.i (valTo es v n)) := by simp [valsL, hv]
    have hne : ¬ valTo es v n = 0 := by omega
    have hq0 : ((movedE es s d)[v]).tdiv (valTo es v n) = (movedE es s d).getD v 0 / valTo es v n := by rw [getD_get hcv] at b1 ⊢; exact Int.tdiv_eq_ediv_of_nonneg b1
    have hl0 := hl.more (may_many hV hx)
    have hov : 1048576 < sumI (moreS s v ((movedE es s d).getD v 0 / valTo es v n)) → stabF n es q d = (moreS s v ((movedE es s d).getD v 0 / valTo es v n), 12) := fun ho => by rw [← hs3]; exact settleF_over hx ho
    have hgo : ¬ 1048576 < sumI (moreS s v ((movedE es s d).getD v 0 / valTo es v n)) → settleF n es q d m (moreS s v ((movedE es s d).getD v 0 / valTo es v n)) = stabF n es q d := fun ho => by rw [← hs3]; exact (settleF_go hx ho).symm
    obtain ⟨κ, hκ⟩ : ∃ κ, (movedE es s d).getD v 0 / valTo es v n = κ := ⟨_, rfl⟩
    rw [hκ] at b3 b4 hq0 hl0 hov hgo
    have hmv := fired_moved hg hc.len hl.len hv κ
    have hsum : sumI (moreS s v κ) = sumI s + κ := sumI_more (by rw [hl.len]; exact hv)
    simp -implicitDefEqProofs (disch := omega) [List.getElem?_cons_zero, List.getElem?_cons_succ, wrap_id, hx', hv, hcl, hcv, hVv, hne, hq0]
    refine ⟨by kernel_rfl, ?_⟩
    refine pfire_ok hg v _ hv ⟨by omega, by omega⟩ hcl hl.len (chip_bd hg hl hc) (Leg.sBd hl (by omega)) ⟨by omega, by omega⟩ ?_
    rw [hmv]
    by_cases ho : 1048576 < sumI (moreS s v κ)
    · rw [hov ho] at hK
      simp -implicitDefEqProofs (disch := omega) [List.getElem?_cons_zero, List.getElem?_cons_succ, wrap_id, ho]
      exact finH trivial rfl hK
    · simp -implicitDefEqProofs (disch := omega) [List.getElem?_cons_zero, List.getElem?_cons_succ, wrap_id, ho]
      refine next_ok (by omega) ?_
      simp -implicitDefEqProofs (disch := omega) [List.getElem?_cons_zero, List.getElem?_cons_succ, wrap_id]
      exact round_keep [4, 3, 0] (by omega) ⟨_, hl0, by omega, by omega, by rw [show 1048577 - (k + 1) = m by omega]; exact hgo ho, rfl⟩
def settledE (n : Nat) (es : List Ed) (q : Int) (d : List Int) : Int := if (stabF n es q d).2 ≠ 0 then (stabF n es q d).2 else if 1048576 < (movedE es (stabF n es q d).1 d).getD q.toNat 0 then 11 else 0
theorem settled_ok (hg : GoodG n es) (hV : ∀ v, v < n → (v : Int) ≠ q → 1 ≤ valTo es v n) (hc : Conf n q d) (hq : 0 ≤ q ∧ q < n) (hK : K (.i (settledE n es q d)) (b0 :: pileH n es q (movedE es (stabF n es q d).1 d) (stabF n es q d).1 T)) :
    HC Tryz.prog false 25 [.ptr 1 1 0 0] (b0 :: pileH n es q d (List.replicate n 0) T) K := by
  obtain ⟨p, rfl⟩ : ∃ p : Nat, q = p := ⟨q.toNat, by omega⟩
  have hp : p < n := by omega
  have hcl : (movedE es (stabF n es p d).1 d).length = n := by rw [movedE_length, hc.len]
  have hcp : p < (movedE es (stabF n es p d).1 d).length := by omega
  refine HC_of_W (af := _) ((by exact cfn25 : cfn _ _ _ = some _)) ?_
  simp -implicitDefEqProofs (disch := omega) [c25, List.getElem?_cons_zero, List.getElem?_cons_succ, wrap_id]
  refine settle_ok hg hV hc ?_
  unfold settledE at hK
  rw [Int.toNat_natCast, getD_get hcp] at hK
  by_cases h1 : (stabF n es p d).2 = 0
  · by_cases h2 : 1048576 < (movedE es (stabF n es p d).1 d)[p]
    · simp -implicitDefEqProofs (disch := omega) [List.getElem?_cons_zero, List.getElem?_cons_succ, wrap_id, h1, hcl, hcp, hp, h2]
      exact finH trivial rfl (by simpa [h1, h2] using hK)
    · simp -implicitDefEqProofs (disch := omega) [List.getElem?_cons_zero, List.getElem?_cons_succ, wrap_id, h1, hcl, hcp, hp, h2]
      exact finH trivial rfl (by simpa [h1, h2] using hK)
  · simp -implicitDefEqProofs (disch := omega) [List.getElem?_cons_zero, List.getElem?_cons_succ, wrap_id, h1]
    exact finH trivial rfl (by simpa [h1] using hK)
end
end Go.Proofs.YtekniokkmgencaaGreat
end
section
set_option linter.unusedSimpArgs false
set_option linter.unusedVariables false
namespace Go.Proofs.YtekniokkmgencaaGreat
open Go.Abs Go.Sand
theorem singles_ok (N : Int) (es : List Ed) : PC Tryz.prog 96 [G N es] (.fn (.func 106) [] [.ptr 0 1 0 0]) [.box (.p (G N es))] := by
  refine PC_of_W cfn96 ?_
  simp -implicitDefEqProofs (disch := omega) [c96, List.getElem?_cons_zero, List.getElem?_cons_succ, wrap_id]
  exact fin1 [0] trivial rfl (by rfl) ⟨rfl, rfl⟩
abbrev endsH (N : Int) (es : List Ed) (lp : AO) (L : List (Int × Int)) (T : List AO) : List AO := .box (.p (G N es)) :: .box (.os 4 0 L.length) :: .box (.p (G N es)) :: lp :: .row (L.map pP) 2 134 false :: T
theorem ends_range (N : Int) (es : List Ed) (hg : ∀ x ∈ es, Right N x) (he : es.length ≤ 1000) (t : List (Nat × AV)) (ht : Abs.get t 5 = .ptr 1 1 0 0) (hf : loT 4 t = true) {K : AV → List AO → Prop}
    (hK : ∀ r, K r (endsH N es (.lp 26 t [15, 16] rc68_0a rc68_0c .ready) (endsL es) [])) :
    HC Tryz.prog false 106 [.yl 3, .ptr 2 1 0 0] [.box (.p (G N es)), .box (.p .nil), .box (.p (G N es)), .lp 26 t [15, 16] rc68_0a rc68_0c .ready] K := by
  have hlp : ∀ H, AO.ren H (Abs.idx [0, 1, 2, 3, 4] 0) (.lp 26 t [15, 16] rc68_0a rc68_0c .ready) = .lp 26 t [15, 16] rc68_0a rc68_0c .ready := fun H => lp_ren hf (by decide)
  have hlp5 : ∀ H, AO.ren H (Abs.idx [0, 1, 2, 3, 4, 5] 0) (.lp 26 t [15, 16] rc68_0a rc68_0c .ready) = .lp 26 t [15, 16] rc68_0a rc68_0c .ready := fun H => lp_ren hf (by decide)
  refine HC_of_W (af := _) ((by exact cfn106 : cfn _ _ _ = some _)) ?_
  simp -implicitDefEqProofs (disch := omega) [c106, List.getElem?_cons_zero, List.getElem?_cons_succ, wrap_id]
  refine loopW es.length (fun k s => s = ⟨[(9, .i k), (8, .i es.length), (7, .p (.sl (es.map edP))), (3, .i (endsL (es.take k)).length), (0, .yl 3), (1, .ptr 2 1 0 0)], endsH N es (.lp 26 t [15, 16] rc68_0a rc68_0c .ready) (endsL (es.take k)) []⟩)
    (((Wk_nilB 1 0 2 134 rfl rfl).trans (Wk_flat 1 (x := .agg [.os 4 0 0]) (y := .os 4 0 0) rfl rfl)).trans (wk_norm [0, 1, 2, 3, 4] [9, 8, 7, 3, 0, 1] rfl (by simp -implicitDefEqProofs [-AO.ren, norm, renH, ren_box, ren_fbx, ren_row, ren_tab, ren_dict, Abs.get, AV.ren, idx_at, idx_at0, hlp, show endsL [] = [] from rfl]))) rfl ?_
  rintro k s hk rfl
  have hL := endsL_take_len hg he k
  by_cases hlt : k < es.length
  · have hr := hg es[k] (List.getElem_mem hlt)
    obtain ⟨m, hm⟩ : ∃ m : Nat, es[k].m = m := ⟨es[k].m.toNat, by have := hr.m1; omega⟩
    have hm50 : m ≤ 50 := by have := hr.m50; omega
    simp -implicitDefEqProofs (disch := omega) [List.getElem?_cons_zero, List.getElem?_cons_succ, wrap_id, hlt, hm]
    refine loopS m (fun j s => s = ⟨[(15, .i j), (14, .i m), (5, .ptr 5 1 0 0), (9, .i k), (8, .i es.length), (7, .p (.sl (es.map edP))), (3, .i ((endsL (es.take k)).length + j : Nat)), (0, .yl 3), (1, .ptr 2 1 0 0)], endsH N es (.lp 26 t [15, 16] rc68_0a rc68_0c .ready) (endsL (es.take k) ++ List.replicate j (es[k].a, es[k].b)) [.box (.p (edP es[k]))]⟩)
      [0, 1, 2, 3, 4, 5] [15, 14, 5, 9, 8, 7, 3, 0, 1] rfl (by simp -implicitDefEqProofs [-AO.ren, norm, renH, ren_box, ren_fbx, ren_row, ren_tab, ren_dict, Abs.get, AV.ren, idx_at, idx_at0, hlp5, hm, endsH]) ?_
    rintro j s hj rfl
    by_cases hlj : j < m
    · have hL2 : (endsL (es.take k)).length + (j + 1) ≤ 1048576 := by omega
      simp -implicitDefEqProofs (disch := omega) [List.getElem?_cons_zero, List.getElem?_cons_succ, wrap_id, hlj]
      refine HY_of_W rfl rcc68_0a rcc68_0c rfl rfl rfl rfl ?_
      simp -implicitDefEqProofs (disch := omega) [List.getElem?_cons_zero, List.getElem?_cons_succ, wrap_id, ra68_0a, ra68_0c, ht, hL2, Nat.add_assoc]
      exact round_end [0, 1, 2, 3, 4, 5] [15, 14, 5, 9, 8, 7, 3, 0, 1] hlj rfl (by simp -implicitDefEqProofs [-AO.ren, norm, renH, ren_box, ren_fbx, ren_row, ren_tab, ren_dict, Abs.get, AV.ren, idx_at, idx_at0, hlp5, List.replicate_succ', endsH, Int.add_assoc])
    · have hjm : j = m := by omega
      subst hjm
      have hs := endsL_snoc es k hlt
      rw [hm, Int.toNat_natCast] at hs
      simp -implicitDefEqProofs (disch := omega) [List.getElem?_cons_zero, List.getElem?_cons_succ, wrap_id]
      exact round_end [0, 1, 2, 3, 4] [9, 8, 7, 3, 0, 1] hlt rfl (by simp -implicitDefEqProofs [-AO.ren, norm, renH, ren_box, ren_fbx, ren_row, ren_tab, ren_dict, Abs.get, AV.ren, idx_at, idx_at0, hlp, hs, endsH])
  · have hk : k = es.length := by omega
    subst hk
    rw [List.take_length]
    simp -implicitDefEqProofs (disch := omega) [List.getElem?_cons_zero, List.getElem?_cons_succ, wrap_id]
    exact finH trivial rfl (hK _)
theorem gends_ok (N : Int) (es : List Ed) (hel : es.length ≤ 1000) (hgc : gcheck N es = 0) : PC Tryz.prog 68 [G N es] (.tup [.p (.ps (endsL es)), .i 0]) [] := by
  have hg := gcheck_ok hgc
  refine PC_of_W cfn68 ?_
  simp -implicitDefEqProofs (disch := omega) [c68, List.getElem?_cons_zero, List.getElem?_cons_succ, wrap_id]
  refine HC_of_PC rfl (gcheck_ok' N es (by omega)) ?_
  simp -implicitDefEqProofs (disch := omega) [List.getElem?_cons_zero, List.getElem?_cons_succ, wrap_id, hgc]
  refine HC_of_PC rfl (singles_ok N es) ?_
  simp -implicitDefEqProofs (disch := omega) [List.getElem?_cons_zero, List.getElem?_cons_succ, wrap_id]
  refine ⟨by kernel_rfl, ends_range N es hg.right hel _ rfl rfl fun r => AfterR_ready rfl ?_⟩
  simp -implicitDefEqProofs (disch := omega) [List.getElem?_cons_zero, List.getElem?_cons_succ, wrap_id]
  (refine fin0 trivial rfl ?_; simp -implicitDefEqProofs (disch := omega) [List.getElem?_cons_zero, List.getElem?_cons_succ, idx, wrap_id])
end Go.Proofs.YtekniokkmgencaaGreat
end
section
set_option linter.unusedSimpArgs false
set_option linter.unusedVariables false
namespace Go.Proofs.YtekniokkmgencaaGreat
open Go.Abs Go.Sand
def joinC (l : List (Int × Int)) (u w : Nat) : Int := if w = u then 0 else ((l.filter fun x => decide (x = ((u : Int), (w : Int)) ∨ x = ((w : Int), (u : Int)))).length : Int)
def valC (l : List (Int × Int)) (u : Nat) : Int := ((l.filter fun x => decide (x.1 ≠ x.2 ∧ (x.1 = (u : Int) ∨ x.2 = (u : Int)))).length : Int)
theorem joinC_snoc (l : List (Int × Int)) (x : Int × Int) (u w : Nat) : joinC (l ++ [x]) u w = joinC l u w + if w ≠ u ∧ (x = ((u : Int), (w : Int)) ∨ x = ((w : Int), (u : Int))) then 1 else 0 := by
  unfold joinC
  by_cases h : w = u
  · simp [h]
  · by_cases h2 : x = ((u : Int), (w : Int)) ∨ x = ((w : Int), (u : Int)) <;> simp [h, h2, List.filter_append]
theorem valC_snoc (l : List (Int × Int)) (x : Int × Int) (u : Nat) : valC (l ++ [x]) u = valC l u + if x.1 ≠ x.2 ∧ (x.1 = (u : Int) ∨ x.2 = (u : Int)) then 1 else 0 := by
  unfold valC
  by_cases h2 : x.1 ≠ x.2 ∧ (x.1 = (u : Int) ∨ x.2 = (u : Int)) <;> simp [h2, List.filter_append]
theorem joinC_app (a b : List (Int × Int)) (u w : Nat) : joinC (a ++ b) u w = joinC a u w + joinC b u w := by
  unfold joinC
  split
  · rfl
  · simp [List.filter_append]
theorem valC_app (a b : List (Int × Int)) (u : Nat) : valC (a ++ b) u = valC a u + valC b u := by
  unfold valC
  simp [List.filter_append]
theorem filter_rep {α : Type} (p : α → Bool) (m : Nat) (x : α) : ((List.replicate m x).filter p).length = if p x = true then m else 0 := by
  by_cases h : p x = true <;> simp [List.filter_replicate, h]
theorem joinC_ends {n : Nat} : ∀ {es : List Ed}, (∀ x ∈ es, Right n x) → es.Pairwise ltE → ∀ v u : Nat, joinC (endsL es) v u = joinE es v u
  | [], _, _, v, u => by
    unfold joinC joinE endsL
    split
    · rfl
    · simp [betw]
  | x :: es, hr, hp, v, u => by
    have ih := joinC_ends (fun y hy => hr y (by simp [hy])) (List.pairwise_cons.1 hp).2 v u
    have hx := hr x (by simp)
    have e1 : endsL (x :: es) = List.replicate x.m.toNat (x.a, x.b) ++ endsL es := by simp [endsL]
    rw [e1, joinC_app, ih]
    have h1 := hx.m1
    have h2 := hx.ab
    unfold joinC joinE
    by_cases h : u = v
    · simp [h]
    · simp only [h, if_false]
      rw [betw_cons hp, filter_rep]
      by_cases hh : x.a = min (u : Int) v ∧ x.b = max (u : Int) v
      · rw [if_pos hh, if_pos]
        · omega
        · simp only [Prod.mk.injEq, decide_eq_true_eq]; omega
      · rw [if_neg hh, if_neg]
        · rfl
        · simp only [Prod.mk.injEq, decide_eq_true_eq]; omega
theorem valC_ends {n : Nat} : ∀ {es : List Ed}, (∀ x ∈ es, Right n x) → ∀ v : Nat, valC (endsL es) v = valS es v
  | [], _, v => by simp [valC, endsL, valS, sumI]
  | x :: es, hr, v => by
    have ih := valC_ends (es := es) (fun y hy => hr y (by simp [hy])) v
    have hx := hr x (by simp)
    have e1 : endsL (x :: es) = List.replicate x.m.toNat (x.a, x.b) ++ endsL es := by simp [endsL]
    have h1 := hx.m1
    rw [e1, valC_app, ih]
    have e2 : valS (x :: es) v = val1 v x + valS es v := by simp [valS, sumI]
    rw [e2]
    congr 1
    unfold valC val1
    rw [filter_rep]
    by_cases hh : x.a ≠ x.b ∧ (x.a = (v : Int) ∨ x.b = (v : Int))
    · rw [if_pos hh, if_pos (by simpa using hh)]; omega
    · rw [if_neg hh, if_neg (by simpa using hh)]; rfl
theorem ends_in' {n : Int} {es : List Ed} (hr : ∀ x ∈ es, Right n x) : ∀ p ∈ endsL es, (0 ≤ p.1 ∧ p.1 < n) ∧ 0 ≤ p.2 ∧ p.2 < n := fun p hp => by
  simp only [endsL, List.mem_flatMap, List.mem_replicate] at hp
  obtain ⟨x, hx, _, rfl⟩ := hp
  have r := hr x hx
  exact ⟨⟨r.a0, r.an⟩, r.b0, r.bn⟩
theorem joinC_bd (l : List (Int × Int)) (u w : Nat) : 0 ≤ joinC l u w ∧ joinC l u w ≤ l.length := by
  unfold joinC
  split
  · omega
  · have := List.length_filter_le (fun x => decide (x = ((u : Int), (w : Int)) ∨ x = ((w : Int), (u : Int)))) l
    omega
theorem valC_bd (l : List (Int × Int)) (u : Nat) : 0 ≤ valC l u ∧ valC l u ≤ l.length := by
  unfold valC
  have := List.length_filter_le (fun x => decide (x.1 ≠ x.2 ∧ (x.1 = (u : Int) ∨ x.2 = (u : Int)))) l
  omega
def tabL (n : Nat) (f : Nat → Nat → Int) : List (List Int) := (List.range n).map fun u => (List.range n).map (f u)
def lisL (n : Nat) (f : Nat → Int) : List Int := (List.range n).map f
theorem tabL_rows {n : Nat} {es : List Ed} (hg : GoodG n es) : tabL n (joinC (endsL es)) = rowsL n es := by
  unfold tabL rowsL rowL
  refine List.map_congr_left fun u _ => List.map_congr_left fun w _ => ?_
  exact joinC_ends hg.right hg.asc u w
theorem lisL_vals {n : Nat} {es : List Ed} (hg : GoodG n es) : lisL n (valC (endsL es)) = valsL n es := by
  unfold lisL valsL
  refine List.map_congr_left fun u hu => ?_
  have := List.mem_range.1 hu
  rw [valC_ends hg.right, valTo_all hg.right hg.asc u ⟨by omega, by omega⟩]
theorem lisL_zero (n : Nat) : List.replicate n 0 = lisL n (valC []) := by
  unfold lisL valC
  refine List.ext_getElem (by simp) fun i h1 h2 => by simp
theorem zrow (n : Nat) (u : Nat) : (List.replicate n 0) = (List.range n).map (joinC [] u) := by
  refine List.ext_getElem (by simp) fun i h1 h2 => by simp [joinC]
theorem lisL_set {n : Nat} {l : List (Int × Int)} {a b : Nat} (ha : a < n) (hb : b < n) (hab : a ≠ b) :
    (((lisL n (valC l)).map PV.i).set a (PV.i (valC l a + 1))).set b (PV.i (valC l b + 1)) = (lisL n (valC (l ++ [((a : Int), (b : Int))]))).map PV.i := by
  rw [← List.map_set, ← List.map_set]
  congr 1
  refine ext_getD (by simp [lisL]) fun u hu => ?_
  have hu' : u < n := by simpa [lisL] using hu
  simp only [getD_set, List.length_set, lisL, rg_get, List.length_map, List.length_range, valC_snoc, hu', if_true, ha, hb, and_true]
  by_cases h1 : b = u
  · subst h1
    have h3 : (a : Int) ≠ b := by omega
    simp [h3]
  · by_cases h2 : a = u
    · subst h2
      have h3 : (a : Int) ≠ b := by omega
      simp [h1, h3]
    · have h3 : ¬ ((a : Int) ≠ b ∧ ((a : Int) = u ∨ (b : Int) = u)) := by omega
      simp only [h1, h2, if_false, if_neg h3, Int.add_zero]
def tabR (n : Nat) (f : Nat → Nat → Int) : List AO := (tabL n f).map rowI
theorem tabR_len (n : Nat) (f : Nat → Nat → Int) : (tabR n f).length = n := by simp [tabR, tabL]
theorem tabR_get {n : Nat} {f : Nat → Nat → Int} {a : Nat} (ha : a < n) : (tabR n f)[a]? = some (rowI (lisL n (f a))) := by simp [tabR, tabL, lisL, ha]
theorem row_get {n : Nat} {f : Nat → Int} {a : Nat} (ha : a < n) : ((lisL n f).map PV.i)[a]? = some (.i (f a)) := by simp [lisL, ha]
theorem tabR_set {n : Nat} {l : List (Int × Int)} {a b : Nat} (ha : a < n) (hb : b < n) (hab : a ≠ b) :
    ((tabR n (joinC l)).set a (.row (((lisL n (joinC l a)).map PV.i).set b (PV.i (joinC l a b + 1))) 1 3 false)).set b (.row (((lisL n (joinC l b)).map PV.i).set a (PV.i (joinC l b a + 1))) 1 3 false) = tabR n (joinC (l ++ [((a : Int), (b : Int))])) := by
  have key : ∀ u w : Nat, u < n → w < n → (u = a ∧ w = b ∨ u = b ∧ w = a) → (lisL n (joinC l u)).set w (joinC l u w + 1) = lisL n (joinC (l ++ [((a : Int), (b : Int))]) u) := by
    intro u w hu hw h
    refine ext_getD (by simp [lisL]) fun i hi => ?_
    have hi' : i < n := by simpa [lisL] using hi
    simp only [getD_set, lisL, rg_get, List.length_map, List.length_range, hi', hw, and_true, if_true, joinC_snoc, Prod.mk.injEq]
    by_cases h1 : w = i
    · subst h1
      rw [if_pos rfl, if_pos]
      omega
    · rw [if_neg h1, if_neg]
      · omega
      · omega
  refine List.ext_getElem? fun i => ?_
  by_cases hi : i < n
  · rw [tabR_get hi, List.getElem?_set, List.getElem?_set]
    simp only [List.length_set, tabR_len]
    by_cases h1 : b = i
    · subst h1
      rw [if_pos rfl, if_pos hb, ← List.map_set, key b a hb ha (.inr ⟨rfl, rfl⟩)]
    · rw [if_neg h1]
      by_cases h2 : a = i
      · subst h2
        rw [if_pos rfl, if_pos ha, ← List.map_set, key a b ha hb (.inl ⟨rfl, rfl⟩)]
      · rw [if_neg h2, tabR_get hi]
        have e : joinC l i = joinC (l ++ [((a : Int), (b : Int))]) i := funext fun w => by
          rw [joinC_snoc, if_neg (by simp only [Prod.mk.injEq]; omega)]
          omega
        rw [e]
  · rw [List.getElem?_eq_none (by simp [tabR_len]; omega), List.getElem?_eq_none (by simp [tabR_len]; omega)]
end Go.Proofs.YtekniokkmgencaaGreat
end
