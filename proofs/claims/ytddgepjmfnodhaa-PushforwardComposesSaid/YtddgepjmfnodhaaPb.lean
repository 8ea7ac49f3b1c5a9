/-
  Contracts: package pushforward, sums over fibres, numbers that are lifted.
-/
import Derived.Test.YtddgepjmfnodhaaPa
import Derived.Test.YtddgepjmfnodhaaMae
set_option linter.unusedSimpArgs false
set_option linter.unusedVariables false
namespace Go.Proofs.Ytddgepjmfnodhaa
open Go.Abs Go.Sand

def lsF (n : Nat) (f : Nat → Int) : List Int := (List.range n).map fun v => f v
theorem lsF_len (n : Nat) (f : Nat → Int) : (lsF n f).length = n := by simp [lsF]
theorem lsF_get {n : Nat} {f : Nat → Int} {v : Nat} (h : v < n) : (lsF n f).getD v 0 = f v := by simp [lsF, List.getD_eq_getElem?_getD, h]
theorem lsF_succ (n : Nat) (f : Nat → Int) : lsF (n + 1) f = lsF n f ++ [f n] := by simp [lsF, List.range_succ]
theorem lsF_congr {n : Nat} {f g : Nat → Int} (h : ∀ v, v < n → f v = g v) : lsF n f = lsF n g := List.map_congr_left fun v hv => h v (List.mem_range.1 hv)
theorem lsF_set {n : Nat} {f g : Nat → Int} {w : Nat} (hw : w < n) (h : ∀ u, u < n → g u = if u = w then g w else f u) : (lsF n f).set w (g w) = lsF n g := by
  refine ext_getD (by simp [lsF_len]) fun u hu => ?_
  have hu' : u < n := by simpa [lsF_len] using hu
  rw [getD_set, lsF_len, lsF_get hu', lsF_get hu', h u hu']
  by_cases e : w = u
  · subst e; simp [hw]
  · have e' : ¬ u = w := fun h => e h.symm
    simp [e, e']
theorem mul_bd {a b A B : Int} (h1 : -A ≤ a ∧ a ≤ A) (h2 : 0 ≤ b ∧ b ≤ B) (hA : 0 ≤ A) : -(A * B) ≤ a * b ∧ a * b ≤ A * B := by
  have e1 : a * b ≤ A * b := Int.mul_le_mul_of_nonneg_right h1.2 h2.1
  have e2 : A * b ≤ A * B := Int.mul_le_mul_of_nonneg_left h2.2 hA
  have e3 : -A * b ≤ a * b := Int.mul_le_mul_of_nonneg_right h1.1 h2.1
  rw [Int.neg_mul] at e3
  omega
/-- The sums over the fibres, of the first j numbers. -/
def sumF (m : Mo) (W : Nat → Int) (l : List Int) (hn j : Nat) : List Int := lsF hn fun w => sm (fun v => if vI m v = w then l.getD v 0 * W v else 0) j
def lifF (m : Mo) (W : Nat → Int) (l : List Int) (n : Nat) : List Int := lsF n fun v => l.getD (vI m v).toNat 0 * W v
theorem sm_abd {f : Nat → Int} {B : Int} (hB : 0 ≤ B) (h : ∀ i, -B ≤ f i ∧ f i ≤ B) : ∀ k : Nat, -((k : Int) * B) ≤ sm f k ∧ sm f k ≤ (k : Int) * B := by
  intro k
  induction k with
  | zero => simp [sm]
  | succ k ih =>
    simp only [sm]
    have := h k
    push_cast
    rw [Int.add_mul, Int.one_mul]
    omega
theorem sumF_succ {m : Mo} {W : Nat → Int} {l : List Int} {hn j w : Nat} (hw : vI m j = w) (hwn : w < hn) : (sumF m W l hn j).set w ((sumF m W l hn j).getD w 0 + l.getD j 0 * W j) = sumF m W l hn (j + 1) := by
  rw [sumF, lsF_get hwn]
  have e : sm (fun v => if vI m v = (w : Int) then l.getD v 0 * W v else 0) j + l.getD j 0 * W j = sm (fun v => if vI m v = (w : Int) then l.getD v 0 * W v else 0) (j + 1) := by
    simp only [sm]; rw [if_pos hw]
  rw [e]
  refine lsF_set (g := fun w => sm (fun v => if vI m v = (w : Int) then l.getD v 0 * W v else 0) (j + 1)) hwn fun u hu => ?_
  by_cases h : u = w
  · rw [if_pos h, h]
  · rw [if_neg h]
    simp only [sm]
    rw [if_neg (by rw [hw]; omega), Int.add_zero]
/-- What is small enough to be summed. -/
structure Num (m : Mo) (W : Nat → Int) (l : List Int) (n hn : Nat) : Prop where
  n12 : n ≤ 12
  h12 : hn ≤ 12
  lb : ∀ i, -1048576 ≤ l.getD i 0 ∧ l.getD i 0 ≤ 1048576
  wb : ∀ v, 0 ≤ W v ∧ W v ≤ 2000000
  vb : ∀ v, v < n → 0 ≤ vI m v ∧ vI m v < hn
  vl : m.v.length = n
theorem Num.term {m : Mo} {W : Nat → Int} {l : List Int} {n hn : Nat} (h : Num m W l n hn) (i j : Nat) : -2097152000000 ≤ l.getD i 0 * W j ∧ l.getD i 0 * W j ≤ 2097152000000 := by
  have := mul_bd (h.lb i) (h.wb j) (by omega)
  omega
theorem Num.sum {m : Mo} {W : Nat → Int} {l : List Int} {n hn : Nat} (h : Num m W l n hn) {j : Nat} (hj : j ≤ 12) (w : Nat) : -26000000000000 ≤ (sumF m W l hn j).getD w 0 ∧ (sumF m W l hn j).getD w 0 ≤ 26000000000000 := by
  by_cases hw : w < hn
  · rw [sumF, lsF_get hw]
    have h1 := sm_abd (f := fun v => if vI m v = (w : Int) then l.getD v 0 * W v else 0) (B := 2097152000000) (by omega) (fun i => by
      have := h.term i i
      split <;> omega) j
    omega
  · rw [List.getD_eq_getElem?_getD, List.getElem?_eq_none (by rw [sumF, lsF_len]; omega)]; simp
abbrev rowJ (c : List Int) : AO := .row (c.map PV.i) 1 3 false
abbrev resB2 (l : List Int) : AV := .tup [.p (if bndE l = 0 then .is l else .nil), .i (bndE l)]
def lifTo (m : Mo) (W : Nat → Int) (l : List Int) (n k : Nat) : List Int := lsF n fun v => if v < k then l.getD (vI m v).toNat 0 * W v else 0
theorem lifTo_zero (m : Mo) (W : Nat → Int) (l : List Int) (n : Nat) : lifTo m W l n 0 = List.replicate n 0 := by
  refine ext_getD (by simp [lifTo, lsF_len]) fun i hi => ?_
  have hi' : i < n := by simpa [lifTo, lsF_len] using hi
  rw [lifTo, lsF_get hi']
  simp [List.getD_eq_getElem?_getD, hi']
theorem lifTo_all (m : Mo) (W : Nat → Int) (l : List Int) (n : Nat) : lifTo m W l n n = lifF m W l n := lsF_congr fun v hv => if_pos hv
theorem lifTo_succ {m : Mo} {W : Nat → Int} {l : List Int} {n k w : Nat} (hk : k < n) (hw : vI m k = w) : (lifTo m W l n k).set k (l.getD w 0 * W k) = lifTo m W l n (k + 1) := by
  have e : l.getD w 0 * W k = (fun v => if v < k + 1 then l.getD (vI m v).toNat 0 * W v else 0) k := by
    simp only
    rw [if_pos (by omega), hw, Int.toNat_natCast]
  rw [e]
  refine lsF_set (g := fun v => if v < k + 1 then l.getD (vI m v).toNat 0 * W v else 0) hk fun u hu => ?_
  by_cases h : u = k
  · rw [if_pos h, h]
  · rw [if_neg h]
    by_cases h2 : u < k
    · rw [if_pos h2, if_pos (by omega)]
    · rw [if_neg h2, if_neg (by omega)]
theorem finS {m0 : Nat} {rs : List ARes} {R : AV → List AO → Prop} {s : St} {x : AV} {e : AExit} (σ : List Nat) (he : match e with | .exit _ => False | _ => True) (h : resOf s rs = some x) (hσ : okσ σ m0 s.H = true) (hR : R (x.ren s.H (Abs.idx σ 0)) (renH σ s.H)) : Abs.Fin m0 rs R e s :=
  ⟨he, .inl ⟨s, x, σ, Wk.refl _ _, h, hσ, hR⟩⟩
set_option maxRecDepth 10000 in
set_option maxHeartbeats 1000000 in
theorem sumsD_ok {x0 x1 x2 : PV} {L : List Int} {W : Nat → Int} {K : AV → List AO → Prop} (h : Gr) (m : Mo) (l : List Int) (n hn : Nat) (hm : Num m W l n hn) (hh : h.1 = hn) (hl : l.length = n)
    (hW : ∀ v, v < n → W v = 1)
    (hK : K (resB2 (sumF m W l hn n)) [.box (.p x0), .box (.p x1), .box (.p x2)]) :
    HC Try.prog false 34 [.p (GrP h), .p (MoP m), .p (.is l), .fn (.func 35) [] []] [.box (.p x0), .box (.p x1), .box (.p x2)] K := by
  have h12 := hm.h12
  have n12 := hm.n12
  have hn6 : hn ≤ 1048576 := by omega
  have hvl := hm.vl
  have hca : callable Try.prog 35 = true := by kernel_rfl
  refine HC_of_W (af := _) ((by exact cfn34 : cfn _ _ _ = some _)) ?_
  simp -implicitDefEqProofs (disch := omega) [c34, List.getElem?_cons_zero, List.getElem?_cons_succ, wrap_id, hh, hn6, hl]
  refine loopW n (fun k st => st = ⟨[(18, .i k), (17, .i n), (16, .p (.is l)), (10, .os 5 0 hn), (5, .ptr 4 1 0 0), (3, .fn (.func 35) [] [])], .box (.p x0) :: .box (.p x1) :: .box (.p x2) :: [.box (.p (GrP h)), .box (.p (MoP m)), rowJ (sumF m W l hn k)]⟩) (Wk_keep [18, 17, 16, 10, 5, 3]) ?_ ?_
  · have e : sumF m W l hn 0 = List.replicate hn 0 := by
      refine ext_getD (by simp [sumF, lsF_len]) fun i hi => ?_
      have hi' : i < hn := by simpa [sumF, lsF_len] using hi
      rw [sumF, lsF_get hi']
      simp [sm, List.getD_eq_getElem?_getD, hi']
    rw [rowJ, e, List.map_replicate]
    rfl
  rintro k st hk rfl
  by_cases hlt : k < n
  · obtain ⟨w0, wn⟩ := hm.vb k hlt
    obtain ⟨w, hwk⟩ : ∃ w : Nat, vI m k = w := ⟨(vI m k).toNat, by omega⟩
    have hwn : w < hn := by omega
    have hkv : k < m.v.length := by omega
    have hkl : k < l.length := by omega
    have hmv : m.v[k] = (w : Int) := by rw [← hwk, vI, getD_get hkv]
    have hsl : (sumF m W l hn k).length = hn := by rw [sumF, lsF_len]
    have hws : w < (sumF m W l hn k).length := by omega
    have hs := congrArg (List.map PV.i) (sumF_succ (W := W) (l := l) hwk hwn)
    have b1 := hm.sum (by omega : k ≤ 12) w
    have b2 := hm.term k k
    rw [List.map_set, getD_get hws, getD_get hkl] at hs
    rw [getD_get hws] at b1
    rw [getD_get hkl] at b2
    rw [hW k hlt, Int.mul_one] at hs b2
    simp -implicitDefEqProofs (disch := omega) [List.getElem?_cons_zero, List.getElem?_cons_succ, wrap_id, hlt, hkl]
    refine tree_all ?_
    simp -implicitDefEqProofs (disch := omega) [List.getElem?_cons_zero, List.getElem?_cons_succ, wrap_id, hca, hkv, hmv, hwn, hsl, hws]
    repeat' (first | exact round_keep [18, 17, 16, 10, 5, 3] hlt rfl | constructor | (refine HC_of_PC rfl (once_ok k) ?_; simp -implicitDefEqProofs (disch := omega) [List.getElem?_cons_zero, List.getElem?_cons_succ, wrap_id, hkv, hmv, hwn, hsl, hws, hs]))
  · have hkn : k = n := by omega
    subst hkn
    have hsl : (sumF m W l hn k).length = hn := by rw [sumF, lsF_len]
    simp -implicitDefEqProofs (disch := omega) [List.getElem?_cons_zero, List.getElem?_cons_succ, wrap_id, hlt]
    refine HC_of_PC (ps := [.is (sumF m W l hn k)]) (by simp [views, view, viewC, hsl]) (bndD_ok (sumF m W l hn k) (by simp only [sumF, lsF_len]; omega)) ?_
    by_cases hb : bndE (sumF m W l hn k) = 0
    · simp -implicitDefEqProofs (disch := omega) [List.getElem?_cons_zero, List.getElem?_cons_succ, wrap_id, hb]
      refine finS [0, 1, 2] trivial rfl rfl ?_
      simpa [resB2, hb, renH, AV.ren, AO.ren, Abs.idx] using hK
    · simp -implicitDefEqProofs (disch := omega) [List.getElem?_cons_zero, List.getElem?_cons_succ, wrap_id, hb]
      refine finS [0, 1, 2] trivial rfl rfl ?_
      simpa [resB2, hb, renH, AV.ren, AO.ren, Abs.idx] using hK
set_option maxRecDepth 10000 in
set_option maxHeartbeats 1000000 in
theorem sumsS_ok {x0 x1 x2 : PV} {L : List Int} {W : Nat → Int} {K : AV → List AO → Prop} (h : Gr) (m : Mo) (l : List Int) (n hn : Nat) (hm : Num m W l n hn) (hh : h.1 = hn) (hl : l.length = n)
    (hLl : L.length = n) (hW : ∀ v (hv : v < L.length), L[v] = W v)
    (hK : K (resB2 (sumF m W l hn n)) [.box (.p x0), .box (.p x1), .box (.p x2), .box (.p (.is L))]) :
    HC Try.prog false 56 [.p (GrP h), .p (MoP m), .p (.is l), .fn (.func 57) [] [.ptr 3 1 0 0]] [.box (.p x0), .box (.p x1), .box (.p x2), .box (.p (.is L))] K := by
  have h12 := hm.h12
  have n12 := hm.n12
  have hn6 : hn ≤ 1048576 := by omega
  have hvl := hm.vl
  have hca : callable Try.prog 57 = true := by kernel_rfl
  refine HC_of_W (af := _) ((by exact cfn56 : cfn _ _ _ = some _)) ?_
  simp -implicitDefEqProofs (disch := omega) [c56, List.getElem?_cons_zero, List.getElem?_cons_succ, wrap_id, hh, hn6, hl]
  refine loopW n (fun k st => st = ⟨[(18, .i k), (17, .i n), (16, .p (.is l)), (10, .os 6 0 hn), (5, .ptr 5 1 0 0), (3, .fn (.func 57) [] [.ptr 3 1 0 0])], .box (.p x0) :: .box (.p x1) :: .box (.p x2) :: .box (.p (.is L)) :: [.box (.p (GrP h)), .box (.p (MoP m)), rowJ (sumF m W l hn k)]⟩) (Wk_keep [18, 17, 16, 10, 5, 3]) ?_ ?_
  · have e : sumF m W l hn 0 = List.replicate hn 0 := by
      refine ext_getD (by simp [sumF, lsF_len]) fun i hi => ?_
      have hi' : i < hn := by simpa [sumF, lsF_len] using hi
      rw [sumF, lsF_get hi']
      simp [sm, List.getD_eq_getElem?_getD, hi']
    rw [rowJ, e, List.map_replicate]
    rfl
  rintro k st hk rfl
  by_cases hlt : k < n
  · obtain ⟨w0, wn⟩ := hm.vb k hlt
    obtain ⟨w, hwk⟩ : ∃ w : Nat, vI m k = w := ⟨(vI m k).toNat, by omega⟩
    have hwn : w < hn := by omega
    have hkv : k < m.v.length := by omega
    have hkl : k < l.length := by omega
    have hmv : m.v[k] = (w : Int) := by rw [← hwk, vI, getD_get hkv]
    have hsl : (sumF m W l hn k).length = hn := by rw [sumF, lsF_len]
    have hws : w < (sumF m W l hn k).length := by omega
    have hs := congrArg (List.map PV.i) (sumF_succ (W := W) (l := l) hwk hwn)
    have b1 := hm.sum (by omega : k ≤ 12) w
    have b2 := hm.term k k
    rw [List.map_set, getD_get hws, getD_get hkl] at hs
    rw [getD_get hws] at b1
    rw [getD_get hkl] at b2
    have hWk := hW k (by omega)
    simp -implicitDefEqProofs (disch := omega) [List.getElem?_cons_zero, List.getElem?_cons_succ, wrap_id, hlt, hkl]
    refine tree_all ?_
    simp -implicitDefEqProofs (disch := omega) [List.getElem?_cons_zero, List.getElem?_cons_succ, wrap_id, hca, hkv, hmv, hwn, hsl, hws]
    repeat' (first | exact round_keep [18, 17, 16, 10, 5, 3] hlt rfl | constructor | (refine pushs1_ok (o := 3) rfl (by omega) ?_; simp -implicitDefEqProofs (disch := omega) [List.getElem?_cons_zero, List.getElem?_cons_succ, wrap_id, hkv, hmv, hwn, hsl, hws, hs, hWk]))
  · have hkn : k = n := by omega
    subst hkn
    have hsl : (sumF m W l hn k).length = hn := by rw [sumF, lsF_len]
    simp -implicitDefEqProofs (disch := omega) [List.getElem?_cons_zero, List.getElem?_cons_succ, wrap_id, hlt]
    refine HC_of_PC (ps := [.is (sumF m W l hn k)]) (by simp [views, view, viewC, hsl]) (bndS_ok (sumF m W l hn k) (by simp only [sumF, lsF_len]; omega)) ?_
    by_cases hb : bndE (sumF m W l hn k) = 0
    · simp -implicitDefEqProofs (disch := omega) [List.getElem?_cons_zero, List.getElem?_cons_succ, wrap_id, hb]
      refine finS [0, 1, 2, 3] trivial rfl rfl ?_
      simpa [resB2, hb, renH, AV.ren, AO.ren, Abs.idx] using hK
    · simp -implicitDefEqProofs (disch := omega) [List.getElem?_cons_zero, List.getElem?_cons_succ, wrap_id, hb]
      refine finS [0, 1, 2, 3] trivial rfl rfl ?_
      simpa [resB2, hb, renH, AV.ren, AO.ren, Abs.idx] using hK
set_option maxRecDepth 10000 in
set_option maxHeartbeats 1000000 in
theorem liftS_ok {x0 x1 x2 : PV} {L : List Int} {W : Nat → Int} {K : AV → List AO → Prop} (m : Mo) (l : List Int) (n hn : Nat) (hm : Num m W l n hn) (hl : l.length = hn)
    (hW : ∀ v, v < n → W v = 1)
    (hK : K (resB2 (lifF m W l n)) [.box (.p x0), .box (.p x1), .box (.p x2)]) :
    HC Try.prog false 58 [.p (MoP m), .p (.is l), .fn (.func 35) [] []] [.box (.p x0), .box (.p x1), .box (.p x2)] K := by
  have h12 := hm.h12
  have n12 := hm.n12
  have hn6 : n ≤ 1048576 := by omega
  have hvl := hm.vl
  have hca : callable Try.prog 35 = true := by kernel_rfl
  refine HC_of_W (af := _) ((by exact cfn58 : cfn _ _ _ = some _)) ?_
  simp -implicitDefEqProofs (disch := omega) [c58, List.getElem?_cons_zero, List.getElem?_cons_succ, wrap_id, hn6, hvl]
  refine loopW n (fun k st => st = ⟨[(18, .i k), (17, .i n), (16, .p (.is m.v)), (8, .os 4 0 n), (3, .ptr 3 1 0 0), (1, .p (.is l)), (2, .fn (.func 35) [] [])], .box (.p x0) :: .box (.p x1) :: .box (.p x2) :: [.box (.p (MoP m)), rowJ (lifTo m W l n k)]⟩) (Wk_keep [18, 17, 16, 8, 3, 1, 2]) ?_ ?_
  · rw [rowJ, lifTo_zero, List.map_replicate]
    rfl
  rintro k st hk rfl
  by_cases hlt : k < n
  · obtain ⟨w0, wn⟩ := hm.vb k hlt
    obtain ⟨w, hwk⟩ : ∃ w : Nat, vI m k = w := ⟨(vI m k).toNat, by omega⟩
    have hwn : w < hn := by omega
    have hkv : k < m.v.length := by omega
    have hwl : w < l.length := by omega
    have hmv : m.v[k] = (w : Int) := by rw [← hwk, vI, getD_get hkv]
    have hsl : (lifTo m W l n k).length = n := by rw [lifTo, lsF_len]
    have hks : k < (lifTo m W l n k).length := by omega
    have hs := congrArg (List.map PV.i) (lifTo_succ (W := W) (l := l) hlt hwk)
    have b2 := hm.term w k
    rw [List.map_set, getD_get hwl] at hs
    rw [getD_get hwl] at b2
    rw [hW k hlt, Int.mul_one] at hs b2
    simp -implicitDefEqProofs (disch := omega) [List.getElem?_cons_zero, List.getElem?_cons_succ, wrap_id, hlt, hkv, hmv]
    refine tree_all ?_
    simp -implicitDefEqProofs (disch := omega) [List.getElem?_cons_zero, List.getElem?_cons_succ, wrap_id, hca, hlt, hwl, hsl, hks]
    repeat' (first | exact round_keep [18, 17, 16, 8, 3, 1, 2] hlt rfl | constructor | (refine HC_of_PC rfl (once_ok k) ?_; simp -implicitDefEqProofs (disch := omega) [List.getElem?_cons_zero, List.getElem?_cons_succ, wrap_id, hlt, hwl, hsl, hks, hs]))
  · have hkn : k = n := by omega
    subst hkn
    have hsl : (lifF m W l k).length = k := by rw [lifF, lsF_len]
    rw [lifTo_all]
    simp -implicitDefEqProofs (disch := omega) [List.getElem?_cons_zero, List.getElem?_cons_succ, wrap_id, hlt]
    refine HC_of_PC (ps := [.is (lifF m W l k)]) (by simp [views, view, viewC, hsl]) (bndS_ok (lifF m W l k) (by simp only [lifF, lsF_len]; omega)) ?_
    by_cases hb : bndE (lifF m W l k) = 0
    · simp -implicitDefEqProofs (disch := omega) [List.getElem?_cons_zero, List.getElem?_cons_succ, wrap_id, hb]
      refine finS [0, 1, 2] trivial rfl rfl ?_
      simpa [resB2, hb, renH, AV.ren, AO.ren, Abs.idx] using hK
    · simp -implicitDefEqProofs (disch := omega) [List.getElem?_cons_zero, List.getElem?_cons_succ, wrap_id, hb]
      refine finS [0, 1, 2] trivial rfl rfl ?_
      simpa [resB2, hb, renH, AV.ren, AO.ren, Abs.idx] using hK
set_option maxRecDepth 10000 in
set_option maxHeartbeats 1000000 in
theorem liftD_ok {x0 x1 x2 : PV} {L : List Int} {W : Nat → Int} {K : AV → List AO → Prop} (m : Mo) (l : List Int) (n hn : Nat) (hm : Num m W l n hn) (hl : l.length = hn)
    (hLl : L.length = n) (hW : ∀ v (hv : v < L.length), L[v] = W v)
    (hK : K (resB2 (lifF m W l n)) [.box (.p x0), .box (.p x1), .box (.p x2), .box (.p (.is L))]) :
    HC Try.prog false 40 [.p (MoP m), .p (.is l), .fn (.func 41) [] [.ptr 3 1 0 0]] [.box (.p x0), .box (.p x1), .box (.p x2), .box (.p (.is L))] K := by
  have h12 := hm.h12
  have n12 := hm.n12
  have hn6 : n ≤ 1048576 := by omega
  have hvl := hm.vl
  have hca : callable Try.prog 41 = true := by kernel_rfl
  refine HC_of_W (af := _) ((by exact cfn40 : cfn _ _ _ = some _)) ?_
  simp -implicitDefEqProofs (disch := omega) [c40, List.getElem?_cons_zero, List.getElem?_cons_succ, wrap_id, hn6, hvl]
  refine loopW n (fun k st => st = ⟨[(18, .i k), (17, .i n), (16, .p (.is m.v)), (8, .os 5 0 n), (3, .ptr 4 1 0 0), (1, .p (.is l)), (2, .fn (.func 41) [] [.ptr 3 1 0 0])], .box (.p x0) :: .box (.p x1) :: .box (.p x2) :: .box (.p (.is L)) :: [.box (.p (MoP m)), rowJ (lifTo m W l n k)]⟩) (Wk_keep [18, 17, 16, 8, 3, 1, 2]) ?_ ?_
  · rw [rowJ, lifTo_zero, List.map_replicate]
    rfl
  rintro k st hk rfl
  by_cases hlt : k < n
  · obtain ⟨w0, wn⟩ := hm.vb k hlt
    obtain ⟨w, hwk⟩ : ∃ w : Nat, vI m k = w := ⟨(vI m k).toNat, by omega⟩
    have hwn : w < hn := by omega
    have hkv : k < m.v.length := by omega
    have hwl : w < l.length := by omega
    have hmv : m.v[k] = (w : Int) := by rw [← hwk, vI, getD_get hkv]
    have hsl : (lifTo m W l n k).length = n := by rw [lifTo, lsF_len]
    have hks : k < (lifTo m W l n k).length := by omega
    have hs := congrArg (List.map PV.i) (lifTo_succ (W := W) (l := l) hlt hwk)
    have b2 := hm.term w k
    rw [List.map_set, getD_get hwl] at hs
    rw [getD_get hwl] at b2
    have hWk := hW k (by omega)
    simp -implicitDefEqProofs (disch := omega) [List.getElem?_cons_zero, List.getElem?_cons_succ, wrap_id, hlt, hkv, hmv]
    refine tree_all ?_
    simp -implicitDefEqProofs (disch := omega) [List.getElem?_cons_zero, List.getElem?_cons_succ, wrap_id, hca, hlt, hwl, hsl, hks]
    repeat' (first | exact round_keep [18, 17, 16, 8, 3, 1, 2] hlt rfl | constructor | (refine pull1_ok (o := 3) rfl (by omega) ?_; simp -implicitDefEqProofs (disch := omega) [List.getElem?_cons_zero, List.getElem?_cons_succ, wrap_id, hlt, hwl, hsl, hks, hs, hWk]))
  · have hkn : k = n := by omega
    subst hkn
    have hsl : (lifF m W l k).length = k := by rw [lifF, lsF_len]
    rw [lifTo_all]
    simp -implicitDefEqProofs (disch := omega) [List.getElem?_cons_zero, List.getElem?_cons_succ, wrap_id, hlt]
    refine HC_of_PC (ps := [.is (lifF m W l k)]) (by simp [views, view, viewC, hsl]) (bndD_ok (lifF m W l k) (by simp only [lifF, lsF_len]; omega)) ?_
    by_cases hb : bndE (lifF m W l k) = 0
    · simp -implicitDefEqProofs (disch := omega) [List.getElem?_cons_zero, List.getElem?_cons_succ, wrap_id, hb]
      refine finS [0, 1, 2, 3] trivial rfl rfl ?_
      simpa [resB2, hb, renH, AV.ren, AO.ren, Abs.idx] using hK
    · simp -implicitDefEqProofs (disch := omega) [List.getElem?_cons_zero, List.getElem?_cons_succ, wrap_id, hb]
      refine finS [0, 1, 2, 3] trivial rfl rfl ?_
      simpa [resB2, hb, renH, AV.ren, AO.ren, Abs.idx] using hK
end Go.Proofs.Ytddgepjmfnodhaa
