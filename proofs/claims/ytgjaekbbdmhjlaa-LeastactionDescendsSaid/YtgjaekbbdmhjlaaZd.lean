/-
  Contracts: firing a vertex of a configuration.
-/
import Derived.Test.YtgjaekbbdmhjlaaZc
set_option linter.unusedSimpArgs false
set_option linter.unusedVariables false
namespace Go.Proofs.Ytgjaekbbdmhjlaa
open Go.Abs Go.Sand

def valsL (n : Nat) (es : List Ed) : List Int := (List.range n).map fun v : Nat => valTo es v n
def rowL (n : Nat) (es : List Ed) (v : Nat) : List Int := (List.range n).map fun u => joinE es v u
def rowsL (n : Nat) (es : List Ed) : List (List Int) := (List.range n).map fun v => rowL n es v
def waitsL (n : Nat) (es : List Ed) (q : Int) (c : List Int) : List Bool := (List.range 12).map fun u => decide (u < n) && unstB n es q c u
def firedL (n : Nat) (es : List Ed) (c : List Int) (v : Nat) (k : Int) : List Int := (List.range n).map fun u => c.getD u 0 + joinE es v u * k - if u = v then k * valTo es v n else 0
theorem rg_get (f : Nat → Int) (n v : Nat) : ((List.range n).map f).getD v 0 = if v < n then f v else 0 := by
  by_cases h : v < n <;> simp [List.getD_eq_getElem?_getD, h]
theorem fired_moved {n : Nat} {es : List Ed} (hg : GoodG n es) {d s : List Int} (hd : d.length = n) (hs : s.length = n) {v : Nat} (hv : v < n) (k : Int) : firedL n es (movedE es s d) v k = movedE es (moreS s v k) d := by
  refine ext_getD (by simp [firedL, movedE_length, hd]) fun u hu => ?_
  simp only [firedL, List.length_map, List.length_range] at hu
  rw [firedL, rg_get]
  simp only [hu, if_true]
  rw [aft_more hg hd s v k (by omega) hv]
theorem wait_unst {n : Nat} {es : List Ed} {q : Int} {c : List Int} {v : Nat} (hv : v < n) : waitB q (valsL n es) c v = unstB n es q c v := by
  rw [waitB, unstB, valsL, rg_get]
  simp only [hv, if_true]
  by_cases h1 : (v : Int) = q <;> simp [h1]
/-- While a vertex is fired. -/
def fireTo (n : Nat) (es : List Ed) (c : List Int) (v : Nat) (k : Int) (m : Nat) : List Int := (List.range n).map fun u => c.getD u 0 + (if u < m then joinE es v u * k else 0) - if u = v then k * valTo es v n else 0
def waitTo (n : Nat) (es : List Ed) (q : Int) (c c' : List Int) (m : Nat) : List Bool := (List.range 12).map fun u => decide (u < n) && if u < m then unstB n es q c' u else unstB n es q c u
theorem fireTo_get {n : Nat} {es : List Ed} {c : List Int} {v : Nat} {k : Int} {m u : Nat} (hu : u < n) : (fireTo n es c v k m).getD u 0 = c.getD u 0 + (if u < m then joinE es v u * k else 0) - if u = v then k * valTo es v n else 0 := by
  rw [fireTo, rg_get]
  exact if_pos hu
theorem fireTo_0 {n : Nat} {es : List Ed} {c : List Int} (hc : c.length = n) {v : Nat} (k : Int) : c.set v (c.getD v 0 - k * valTo es v n) = fireTo n es c v k 0 := by
  refine ext_getD (by simp [fireTo, hc]) fun u hu => ?_
  simp only [List.length_set] at hu
  rw [fireTo_get (by omega), getD_set]
  by_cases h : u = v
  · subst h; simp [hu]
  · have h' : ¬ v = u := fun e => h e.symm
    simp [h, h']
theorem fireTo_len (n : Nat) (es : List Ed) (c : List Int) (v : Nat) (k : Int) (m : Nat) : (fireTo n es c v k m).length = n := by simp [fireTo]
theorem fireTo_succ {n : Nat} {es : List Ed} {c : List Int} {v : Nat} (k : Int) {m : Nat} (hm : m < n) : (fireTo n es c v k m).set m ((fireTo n es c v k m).getD m 0 + k * joinE es v m) = fireTo n es c v k (m + 1) := by
  refine ext_getD (by simp [fireTo]) fun u hu => ?_
  simp only [List.length_set, fireTo_len] at hu
  rw [getD_set, fireTo_get hm, fireTo_get hu, fireTo_get hu, fireTo_len]
  have hj := Int.mul_comm k (joinE es v m)
  by_cases h : m = u
  · subst h
    simp only [hm, and_self, if_true, Nat.lt_irrefl, if_false, Nat.lt_succ_self]
    omega
  · have h2 : (u < m + 1) = (u < m) := by simp only [eq_iff_iff]; omega
    simp only [h, false_and, if_false, h2]
theorem fireTo_n (n : Nat) (es : List Ed) (c : List Int) (v : Nat) (k : Int) : fireTo n es c v k n = firedL n es c v k := by
  refine ext_getD (by simp [fireTo, firedL]) fun u hu => ?_
  rw [fireTo_len] at hu
  rw [fireTo_get hu, firedL, rg_get]
  simp only [hu, if_true]
theorem unst_at {n : Nat} {es : List Ed} {q : Int} {a b : List Int} {v : Nat} (h : a.getD v 0 = b.getD v 0) : unstB n es q a v = unstB n es q b v := by rw [unstB, unstB, h]
theorem waitTo_0 (n : Nat) (es : List Ed) (q : Int) (c c' : List Int) : waitsL n es q c = waitTo n es q c c' 0 := by
  simp [waitsL, waitTo]
theorem waitTo_len (n : Nat) (es : List Ed) (q : Int) (c c' : List Int) (m : Nat) : (waitTo n es q c c' m).length = 12 := by simp [waitTo]
theorem waitTo_succ {n : Nat} {es : List Ed} {q : Int} {c c' : List Int} {m : Nat} (hm : m < n) (hn : n ≤ 12) {b : Bool} (hb : b = unstB n es q c' m) : (waitTo n es q c c' m).set m b = waitTo n es q c c' (m + 1) := by
  refine List.ext_getElem (by simp [waitTo]) fun u h1 h2 => ?_
  rw [List.getElem_set]
  simp only [waitTo, List.getElem_map, List.getElem_range]
  by_cases h : m = u
  · subst h; simp [hm, hb]
  · have h2 : (u < m + 1) = (u < m) := by simp only [eq_iff_iff]; omega
    simp only [h, if_false, h2]
theorem waitTo_n (n : Nat) (es : List Ed) (q : Int) (c c' : List Int) : waitTo n es q c c' n = waitsL n es q c' := by
  refine List.ext_getElem (by simp [waitTo, waitsL]) fun u h1 h2 => ?_
  simp only [waitTo, waitsL, List.getElem_map, List.getElem_range]
  by_cases h : u < n <;> simp [h]
theorem waits_set {n : Nat} {es : List Ed} {q : Int} {c : List Int} {v : Nat} (hv : v < n) (hn : n ≤ 12) : (waitsL n es q c).set v (unstB n es q c v) = waitsL n es q c := by
  refine List.ext_getElem (by simp) fun u h1 h2 => ?_
  rw [List.getElem_set]
  split
  · rename_i h
    subst h
    simp [waitsL, hv]
  · rfl
theorem valsL_len (n : Nat) (es : List Ed) : (valsL n es).length = n := by simp [valsL]
theorem waitsL_len (n : Nat) (es : List Ed) (q : Int) (c : List Int) : (waitsL n es q c).length = 12 := by simp [waitsL]
theorem val_bd {n : Nat} {es : List Ed} (hg : GoodG n es) (v : Nat) : 0 ≤ valTo es v n ∧ valTo es v n ≤ 600 := by
  refine ⟨valTo_nn hg v n, ?_⟩
  rw [valTo_sum]
  have : ∀ k : Nat, sumN (fun u => joinE es v u) k ≤ 50 * k := by
    intro k
    induction k with
    | zero => simp [sumN]
    | succ k ih => simp only [sumN]; have := (joinE_bd hg v k).2; push_cast; omega
  have := this n
  have := hg.n12
  omega

/-- A configuration's objects. -/
abbrev pileH (n : Nat) (es : List Ed) (q : Int) (c s : List Int) (T : List AO) : List AO := .box (pileA 1 n q (rowsL n es) (valsL n es) (sumI s) (waitsL n es q c)) :: rowI c :: rowI s :: T
section
variable {n : Nat} {es : List Ed} {q : Int} {c s : List Int} {b0 : AO} {T : List AO} {K : AV → List AO → Prop}
set_option maxRecDepth 10000 in
theorem pfire_ok (hg : GoodG n es) (v : Nat) (k : Int) (hv : v < n) (hk : 0 ≤ k ∧ k ≤ 20000000) (hc : c.length = n) (hs : s.length = n) (hcb : Bd 20000000 c) (hsb : Bd 20000000 s) (hst : -20000000 ≤ sumI s ∧ sumI s ≤ 20000000)
    (hK : K (.tup []) (b0 :: pileH n es q (firedL n es c v k) (moreS s v k) T)) :
    HC Try.prog false 103 [.ptr 1 1 0 0, .i v, .i k] (b0 :: pileH n es q c s T) K := by
  have hn := hg.n12
  have hvb := val_bd hg v
  have hcv : v < c.length := by omega
  have hsv : v < s.length := by omega
  have hV : ((valsL n es).map PV.i)[v]? = some (.i (valTo es v n)) := by simp [valsL, hv]
  have hR : ((rowsL n es).map PV.is)[v]? = some (.is (rowL n es v)) := by simp [rowsL, hv]
  have hRl : (rowL n es v).length = n := by simp [rowL]
  have hRu : ∀ u, u < n → ((rowL n es v).map PV.i)[u]? = some (.i (joinE es v u)) := fun u hu => by simp [rowL, hu]
  have hm1 : 0 ≤ k * valTo es v n ∧ k * valTo es v n ≤ 12000000000 := by
    constructor
    · exact Int.mul_nonneg hk.1 hvb.1
    · have := Int.mul_le_mul hk.2 hvb.2 hvb.1 (by omega)
      omega
  have hcv' := hcb v
  have hsv' := hsb v
  rw [getD_get hcv] at hcv'
  rw [getD_get hsv] at hsv'
  refine HC_of_W (af := _) ((by exact cfn103 : cfn _ _ _ = some _)) ?_
  have hset : (c.map PV.i).set v (PV.i (c[v] - k * valTo es v n)) = (fireTo n es c v k 0).map PV.i := by
    rw [← fireTo_0 hc, getD_get hcv, List.map_set]
  obtain ⟨c', hc'⟩ : ∃ c', c' = firedL n es c v k := ⟨_, rfl⟩
  rw [← hc'] at hK
  simp -implicitDefEqProofs (disch := omega) [c103, List.getElem?_cons_zero, List.getElem?_cons_succ, wrap_id, hV, hR, hRl, hc, hs, hcv, hv, hset]
  refine loopW n (fun m st => st = ⟨[(34, .i m), (33, .i n), (32, .p (.is (rowL n es v))), (0, .ptr 1 1 0 0), (1, .i v), (2, .i k)],
    b0 :: .box (pileA 1 n q (rowsL n es) (valsL n es) (sumI s) (waitTo n es q c c' m)) :: rowI (fireTo n es c v k m) :: rowI s :: T⟩) (Wk_keep [34, 33, 32, 0, 1, 2]) (by rw [← waitTo_0]; rfl) ?_
  rintro m st hm rfl
  have hFl := fireTo_len n es c v k m
  by_cases hlt : m < n
  · have hj := joinE_bd hg v m
    have hkj : 0 ≤ k * joinE es v m ∧ k * joinE es v m ≤ 1000000000 := by
      constructor
      · exact Int.mul_nonneg hk.1 hj.1
      · have := Int.mul_le_mul hk.2 hj.2 hj.1 (by omega)
        omega
    have hFb : -20000000000 ≤ (fireTo n es c v k m).getD m 0 ∧ (fireTo n es c v k m).getD m 0 ≤ 20000000000 := by
      rw [fireTo_get hlt]
      have := hcb m
      simp only [Nat.lt_irrefl, if_false]
      split <;> omega
    have hs2 := congrArg (List.map PV.i) (fireTo_succ (n := n) (es := es) (c := c) (v := v) k hlt)
    rw [List.map_set] at hs2
    have hFm : m < (fireTo n es c v k m).length := by omega
    rw [getD_get hFm] at hs2 hFb
    have hRm := hRu m hlt
    simp -implicitDefEqProofs (disch := omega) [List.getElem?_cons_zero, List.getElem?_cons_succ, wrap_id, hlt, hRm, hFl, hFm, hs2]
    refine wait_ok m hlt (by omega) (fireTo_len _ _ _ _ _ _) hs (valsL_len _ _) (waitTo_len _ _ _ _ _ _) ?_
    rw [waitTo_succ hlt (by omega) (by rw [wait_unst hlt]; refine unst_at ?_; rw [hc', ← fireTo_n, fireTo_get hlt, fireTo_get hlt]; simp only [Nat.lt_succ_self, hlt, if_true])]
    simp -implicitDefEqProofs (disch := omega) [List.getElem?_cons_zero, List.getElem?_cons_succ, wrap_id]
    exact round_keep [34, 33, 32, 0, 1, 2] hlt rfl
  · have hmn : m = n := by omega
    subst hmn
    rw [waitTo_n, fireTo_n, ← hc']
    have hcl : c'.length = m := by rw [hc']; simp [firedL]
    have hset3 : (s.map PV.i).set v (PV.i (s[v] + k)) = (moreS s v k).map PV.i := by rw [moreS, getD_get hsv, List.map_set]
    have hsum : sumI s + k = sumI (moreS s v k) := (sumI_more hsv).symm
    simp -implicitDefEqProofs (disch := omega) [List.getElem?_cons_zero, List.getElem?_cons_succ, wrap_id]
    refine wait_ok v hv (by omega) hcl hs (valsL_len _ _) (waitsL_len _ _ _ _) ?_
    rw [wait_unst hv, waits_set hv (by omega)]
    simp -implicitDefEqProofs (disch := omega) [List.getElem?_cons_zero, List.getElem?_cons_succ, wrap_id, hsv, hv, hs, hset3, hsum]
    exact finH trivial rfl hK
end
end Go.Proofs.Ytgjaekbbdmhjlaa
