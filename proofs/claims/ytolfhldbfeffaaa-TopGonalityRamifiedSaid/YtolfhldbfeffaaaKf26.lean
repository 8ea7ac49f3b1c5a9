/-
  Texts joined: Raf Rag Rah Rai Raj.
-/
import Derived.Test.YtolfhldbfeffaaaKf25

section
set_option linter.unusedSimpArgs false
set_option linter.unusedVariables false
namespace Go.Proofs.Ytolfhldbfeffaaa
open Go.Abs Go.Sand
/-- The rank of so many chips at a vertex. -/
noncomputable def rkA (n : Nat) (es : List Ed) (v k : Nat) : Int := rkF n (joinE es) (mulF v k)
theorem along_ok (n : Nat) (es : List Ed) (v : Nat) : PC Try.prog 41 [G n es, .i v] (.fn (.func 57) [] [.ptr 0 1 0 0, .ptr 1 1 0 0]) [.box (.p (G n es)), .box (.p (.i v))] := by
  refine PC_of_W cfn41 ?_
  simp -implicitDefEqProofs (disch := omega) [c41, List.getElem?_cons_zero, List.getElem?_cons_succ, wrap_id]
  exact fin1 [0, 1] trivial rfl (by rfl) ⟨rfl, rfl⟩
/-- The objects while ranks are found. -/
noncomputable abbrev alH (n : Nat) (es : List Ed) (v K : Nat) (lp : AO) (k : Nat) : List AO :=
  [.box (.p (G n es)), .box (.p (.i K)), .box (.p .nil), .box (.p (.i 0)), .box (.os 8 0 k), .box (.p (G n es)), .box (.p (.i v)), lp, rowZ ((List.range k).map (rkA n es v))]
section
variable {n : Nat} {es : List Ed} (hs : Sm n es)
include hs
set_option maxRecDepth 20000 in
theorem al_range {v K : Nat} (hv : v < n) (hK : K ≤ 100) (t : List (Nat × AV)) (ht8 : Abs.get t 8 = .ptr 4 1 0 0) (ht5 : Abs.get t 5 = .ptr 1 1 0 0) (hf : loT 9 t = true) {R : AV → List AO → Prop}
    (hR : ∀ r Z, (∀ k, k ≤ K → RankIs n (joinE es) (mulF v k) (rkA n es v k)) → R r (alH n es v K (.lp 28 t [14, 15] rc23_0a rc23_0c (.done (.exit 0))) (K + 1) ++ Z)) :
    HC Try.prog false 57 [.yl 7, .ptr 5 1 0 0, .ptr 6 1 0 0] [.box (.p (G n es)), .box (.p (.i K)), .box (.p .nil), .box (.p (.i 0)), .box (.p .nil), .box (.p (G n es)), .box (.p (.i v)), .lp 28 t [14, 15] rc23_0a rc23_0c .ready] R := by
  have hn1 := hs.n1
  have hn5 := hs.n5
  have hn0 : 0 < n := by omega
  refine HC_of_W (af := _) ((by exact cfn57 : cfn _ _ _ = some _)) ?_
  simp -implicitDefEqProofs (disch := omega) [c57, List.getElem?_cons_zero, List.getElem?_cons_succ, wrap_id]
  refine loopW K (fun k s => s = ⟨[(4, .i k), (0, .yl 7), (1, .ptr 5 1 0 0), (2, .ptr 6 1 0 0)], alH n es v K (.lp 28 t [14, 15] rc23_0a rc23_0c .ready) k⟩ ∧ ∀ j, j < k → RankIs n (joinE es) (mulF v j) (rkA n es v j))
    (((Wk_nilB 4 0 1 3 rfl rfl).trans (Wk_flat 4 (x := .agg [.os 8 0 0]) (y := .os 8 0 0) rfl rfl)).trans (Wk_keep [4, 0, 1, 2])) ⟨rfl, fun j h => by omega⟩ ?_
  rintro k s hk ⟨rfl, hI⟩
  have hal := atL_len n v k
  simp -implicitDefEqProofs (disch := omega) [List.getElem?_cons_zero, List.getElem?_cons_succ, wrap_id]
  refine HC_of_PC rfl (csome_ok n hn1 (by omega) v hv k (by omega)) ?_
  simp -implicitDefEqProofs (disch := omega) [List.getElem?_cons_zero, List.getElem?_cons_succ, wrap_id]
  refine HC_of_PCR (by simp [views, view, viewC, ownEls, hal]) (rank_ok hs hal (atL_abs (B := 110) (by omega) (by omega))) ?_
  rintro r HR ⟨q, hq, hqr, rfl, rfl⟩
  have hqr2 : RankIs n (joinE es) (mulF v k) q := RankIs.equi (Equi.of_eq fun u hu => (atL_get hv k hu).symm) hqr
  have hqe : rkA n es v k = q := rkF_eq hn0 hqr2
  have hI2 : ∀ j, j < k + 1 → RankIs n (joinE es) (mulF v j) (rkA n es v j) := fun j hj => by
    by_cases e : j = k
    · subst e; rw [hqe]; exact hqr2
    · exact hI j (by omega)
  have hrs : (List.range (k + 1)).map (rkA n es v) = (List.range k).map (rkA n es v) ++ [q] := by rw [List.range_succ, List.map_append, List.map_singleton, hqe]
  have hk1 : k ≤ 1048575 := by omega
  obtain ⟨L, hL⟩ : ∃ L, L = (List.range k).map (rkA n es v) := ⟨_, rfl⟩
  have hLl : L.length = k := by rw [hL]; simp
  rw [← hL] at hrs
  dsimp only [alH]
  rw [← hL]
  simp -implicitDefEqProofs (disch := omega) [List.getElem?_cons_zero, List.getElem?_cons_succ, wrap_id]
  refine HY_of_W rfl rcc23_0a rcc23_0c rfl rfl rfl rfl ?_
  by_cases hke : k = K
  · have h2' : ((K : Int) < (k : Int) + 1) = True := eq_true (by omega)
    have h2'' : (K < k + 1) = True := eq_true (by omega)
    subst hke
    simp -implicitDefEqProofs (disch := omega) [List.getElem?_cons_zero, List.getElem?_cons_succ, wrap_id, ra23_0a, ra23_0c, ht8, ht5, h2', h2'', hLl, hk1]
    refine finH trivial rfl ?_
    have h := hR (.tup []) [rowZ (atL n v k), .row [PV.i q] 1 3 false] (fun j hj => hI2 j (by omega))
    rw [alH, hrs] at h
    simpa [resT, rowZ] using h
  · have h2' : ((K : Int) < (k : Int) + 1) = False := eq_false (by omega)
    have h2'' : (K < k + 1) = False := eq_false (by omega)
    simp -implicitDefEqProofs (disch := omega) [List.getElem?_cons_zero, List.getElem?_cons_succ, wrap_id, ra23_0a, ra23_0c, ht8, ht5, h2', h2'', hLl, hk1]
    refine round_end' (by omega) (Wk_pop 9 [4, 0, 1, 2] (by simp) (by simp) (H' := alH n es v K (.lp 28 t [14, 15] rc23_0a rc23_0c .ready) (k + 1)) ?_ ?_ ?_) ⟨rfl, hI2⟩
    · rw [alH, hrs]; simp [rowZ]
    · intro i hi
      simp only [List.mem_cons, List.not_mem_nil, or_false] at hi
      rcases hi with rfl | rfl | rfl | rfl <;> simp [Abs.get, loA]
    · intro ob hob
      simp only [alH, List.mem_cons, List.not_mem_nil, or_false] at hob
      rcases hob with rfl | rfl | rfl | rfl | rfl | rfl | rfl | rfl | rfl
      · rfl
      · rfl
      · rfl
      · rfl
      · rfl
      · rfl
      · rfl
      · exact hf
      · rfl
/-- What ranks leaves. -/
def RanksR (n : Nat) (es : List Ed) (v K : Nat) (r : AV) (HR : List AO) : Prop := (∀ k, k ≤ K → RankIs n (joinE es) (mulF v k) (rkA n es v k)) ∧ r = .tup [.os 0 0 (K + 1), .i 0] ∧ HR = [rowZ ((List.range (K + 1)).map (rkA n es v))]
theorem ranks_ok {v K : Nat} (hv : v < n) (hK : K ≤ 100) : PCR Try.prog 23 [G n es, .i v, .i K] (RanksR n es v K) := by
  refine PCR_of_W cfn23 ?_
  simp -implicitDefEqProofs (disch := omega) [c23, List.getElem?_cons_zero, List.getElem?_cons_succ, wrap_id]
  refine HC_of_PC rfl (along_ok n es v) ?_
  simp -implicitDefEqProofs (disch := omega) [List.getElem?_cons_zero, List.getElem?_cons_succ, wrap_id]
  refine ⟨by kernel_rfl, al_range hs hv hK _ rfl rfl rfl fun r Z h => AfterR_exit rfl ?_⟩
  simp -implicitDefEqProofs (disch := omega) [List.getElem?_cons_zero, List.getElem?_cons_succ, wrap_id]
  exact finQ [8] trivial rfl rfl rfl rfl ⟨h, rfl, rfl⟩
end
end Go.Proofs.Ytolfhldbfeffaaa
end
section
set_option linter.unusedSimpArgs false
set_option linter.unusedVariables false
namespace Go.Proofs.Ytolfhldbfeffaaa
open Go.Abs Go.Sand
theorem gapL_len_le (l : Nat → Int) : ∀ k, (gapL l k).length ≤ k
  | 0 => Nat.le_refl _
  | k + 1 => by
    have := gapL_len_le l k
    rw [gapL, List.length_append]
    split <;> simp <;> omega
theorem sum_take_bd {B : Int} (hB : 0 ≤ B) : ∀ (l : List Int) (k : Nat), (∀ x ∈ l, 0 ≤ x ∧ x ≤ B) → 0 ≤ sumI (l.take k) ∧ sumI (l.take k) ≤ B * l.length
  | [], k, _ => by simp [sumI]
  | x :: l, 0, _ => by
    simp only [List.take_zero, sumI]
    exact ⟨Int.le_refl _, Int.mul_nonneg hB (by omega)⟩
  | x :: l, k + 1, h => by
    have ih := sum_take_bd hB l k fun y hy => h y (by simp [hy])
    have hx := h x (by simp)
    have e : B * ((x :: l).length : Int) = B * l.length + B := by simp only [List.length_cons]; push_cast; rw [Int.mul_add, Int.mul_one]
    rw [List.take_succ_cons, sumI, e]
    omega
section
variable {n : Nat} {es : List Ed} (hs : Sm n es)
include hs
/-- What Gaps leaves. -/
def GapsR (n : Nat) (es : List Ed) (v K : Nat) (r : AV) (HR : List AO) : Prop := (∀ k, k ≤ K → RankIs n (joinE es) (mulF v k) (rkA n es v k)) ∧ r = .tup [.os 0 0 (gapL (rkA n es v) K).length, .i 0] ∧ HR = [rowZ (gapL (rkA n es v) K)]
theorem gaps_ok {v K : Nat} (hv : v < n) (hK : (K : Int) = max 0 (2 * genE n es - 1)) : PCR Try.prog 8 [G n es, .i v] (GapsR n es v K) := by
  have hg6 := gen_le hs
  obtain ⟨g, hg⟩ : ∃ g, g = genE n es := ⟨_, rfl⟩
  have hgw := wgenus_ok hs
  rw [← hg] at hK hg6 hgw
  have hg0 : -10 ≤ g := by
    have := hs.n5
    rw [hg]; unfold genE; omega
  refine PCR_of_W cfn8 ?_
  simp -implicitDefEqProofs (disch := omega) [c8, List.getElem?_cons_zero, List.getElem?_cons_succ, wrap_id]
  refine HC_of_PC rfl (wat_ok n es hs.el hs.c v hv) ?_
  simp -implicitDefEqProofs (disch := omega) [List.getElem?_cons_zero, List.getElem?_cons_succ, wrap_id]
  refine HC_of_PC rfl (hgw) ?_
  simp -implicitDefEqProofs (disch := omega) [List.getElem?_cons_zero, List.getElem?_cons_succ, wrap_id]
  rw [← hK]
  refine HC_of_PCR rfl (ranks_ok hs hv (by omega)) ?_
  rintro r HR ⟨hI, rfl, rfl⟩
  unfold GapsR
  obtain ⟨l, hl⟩ : ∃ l, l = rkA n es v := ⟨_, rfl⟩
  rw [← hl] at hI ⊢
  obtain ⟨L, hL⟩ : ∃ L, L = (List.range (K + 1)).map l := ⟨_, rfl⟩
  have hLl : L.length = K + 1 := by rw [hL]; simp
  have hLk : ∀ k (h : k < L.length), L[k] = l k := fun k h => by subst hL; simp
  rw [← hL]
  simp -implicitDefEqProofs (disch := omega) [List.getElem?_cons_zero, List.getElem?_cons_succ, wrap_id]
  refine loopW K (fun k st => st = ⟨[(11, .i ((k : Int) + 1)), (10, .os 0 0 (gapL l k).length), (9, .p (.is L)), (7, .i g)], [rowZ (gapL l k)]⟩) ((Wk_nil 10 1 3 rfl).trans (wk_norm [2] [11, 10, 9, 7] rfl rfl)) (by show _ = _; simp [gapL, rowZ, Abs.norm, Abs.get, AV.ren, Abs.idx, hLl]) ?_
  rintro k st hk rfl
  have hgl := gapL_len_le l k
  have hgl2 : (gapL l k).length ≤ 1048575 := by omega
  have hgs : gapL l (k + 1) = gapL l k ++ if l (k + 1) = l k then [((k + 1 : Nat) : Int)] else [] := rfl
  by_cases hlt : k < K
  · have h1 : (k : Int) + 1 < 2 * g := by omega
    have h3 : k < L.length := by omega
    have h4 : k + 1 < L.length := by omega
    have h5 := hLk k h3
    have h6 := hLk (k + 1) h4
    have h7 : (k : Int) + 1 < L.length := by omega
    have h8 : (0 : Int) ≤ (k : Int) + 1 := by omega
    have h9 : ((k : Int) + 1).toNat = k + 1 := by omega
    obtain ⟨Z, hZ⟩ : ∃ Z, Z = gapL l k := ⟨_, rfl⟩
    rw [← hZ] at hgl hgl2 hgs ⊢
    by_cases he : l (k + 1) = l k
    · rw [if_pos he] at hgs
      simp -implicitDefEqProofs (disch := omega) [List.getElem?_cons_zero, List.getElem?_cons_succ, wrap_id, h1, h3, h4, h5, h6, h7, h8, h9, he, hgl2]
      exact round_end [0] [11, 10, 9, 7] hlt rfl (by rw [hgs]; simp [rowZ, Abs.norm, Abs.get, AV.ren, Abs.idx])
    · rw [if_neg he, List.append_nil] at hgs
      simp -implicitDefEqProofs (disch := omega) [List.getElem?_cons_zero, List.getElem?_cons_succ, wrap_id, h1, h3, h4, h5, h6, h7, h8, h9, he, hgl2]
      exact round_end [0] [11, 10, 9, 7] hlt rfl (by rw [hgs]; simp [rowZ, Abs.norm, Abs.get, AV.ren, Abs.idx])
  · have h1 : ¬ (k : Int) + 1 < 2 * g := by omega
    have hke : k = K := by omega
    subst hke
    simp -implicitDefEqProofs (disch := omega) [List.getElem?_cons_zero, List.getElem?_cons_succ, wrap_id, h1]
    exact finQ [0] trivial rfl rfl rfl rfl ⟨hI, rfl, rfl⟩
/-- What Weight leaves. -/
def WeightR (n : Nat) (es : List Ed) (v K : Nat) (r : AV) (HR : List AO) : Prop := ∃ w : Int, (∀ k, k ≤ K → RankIs n (joinE es) (mulF v k) (rkA n es v k)) ∧ 2 * w = 2 * sumI (gapL (rkA n es v) K) - genE n es * (genE n es + 1) ∧ r = .tup [.i w, .i 0] ∧ HR = []
theorem weight_ok {v K : Nat} (hv : v < n) (hK : (K : Int) = 2 * genE n es - 1) (hg2 : 2 ≤ genE n es) : PCR Try.prog 11 [G n es, .i v] (WeightR n es v K) := by
  have hg6 := gen_le hs
  have hgw := wgenus_ok hs
  have hgo := gaps_ok hs hv (K := K) (by omega)
  unfold WeightR
  obtain ⟨g, hg⟩ : ∃ g, g = genE n es := ⟨_, rfl⟩
  rw [← hg] at hK hg6 hgw hg2 ⊢
  obtain ⟨q, hq, hq2⟩ : ∃ q, q = (-g * (g + 1)).tdiv 2 ∧ 2 * q = - (g * (g + 1)) := by
    have : g = 2 ∨ g = 3 ∨ g = 4 ∨ g = 5 ∨ g = 6 := by omega
    rcases this with rfl | rfl | rfl | rfl | rfl <;> exact ⟨_, rfl, by decide⟩
  have hqb : -100 ≤ q ∧ q ≤ 100 := by
    have : g = 2 ∨ g = 3 ∨ g = 4 ∨ g = 5 ∨ g = 6 := by omega
    rcases this with rfl | rfl | rfl | rfl | rfl <;> omega
  have hmb : -1000 ≤ -g * (g + 1) ∧ -g * (g + 1) ≤ 1000 := by
    have : g = 2 ∨ g = 3 ∨ g = 4 ∨ g = 5 ∨ g = 6 := by omega
    rcases this with rfl | rfl | rfl | rfl | rfl <;> decide
  refine PCR_of_W cfn11 ?_
  simp -implicitDefEqProofs (disch := omega) [c11, List.getElem?_cons_zero, List.getElem?_cons_succ, wrap_id]
  refine HC_of_PCR rfl hgo ?_
  rintro r HR ⟨hI, rfl, rfl⟩
  obtain ⟨l, hl⟩ : ∃ l, l = gapL (rkA n es v) K := ⟨_, rfl⟩
  have hlm : ∀ x ∈ l, 0 ≤ x ∧ x ≤ 1000 := fun x hx => by
    rw [hl, gapL_mem] at hx
    obtain ⟨j, h1, h2, h3, h4⟩ := hx
    omega
  have hll : l.length ≤ 1000 := by
    have := gapL_len_le (rkA n es v) K
    rw [hl]; omega
  have hsb := fun k => sum_take_bd (B := 1000) (by decide) l k hlm
  rw [← hl]
  simp -implicitDefEqProofs (disch := omega) [List.getElem?_cons_zero, List.getElem?_cons_succ, wrap_id]
  refine HC_of_PC rfl (hgw) ?_
  simp -implicitDefEqProofs (disch := omega) [List.getElem?_cons_zero, List.getElem?_cons_succ, wrap_id, hmb.1, hmb.2]
  rw [← hq]
  have hg2' : g * (g + 1) = - (2 * q) := by omega
  rw [hg2']
  refine loopW l.length (fun k st => st = ⟨[(37, .i k), (36, .i l.length), (35, .p (.is l)), (9, .i (q + sumI (l.take k)))], []⟩) (wk_norm [] [37, 36, 35, 9] rfl rfl) (by show _ = _; simp [sumI, Abs.norm, Abs.get, AV.ren, Abs.idx]) ?_
  rintro k st hk rfl
  have h1 := hsb k
  have h2 := hsb (k + 1)
  by_cases hlt : k < l.length
  · have h3 := sumI_snoc l k hlt
    have h4 := hlm l[k] (List.getElem_mem hlt)
    obtain ⟨S, hS⟩ : ∃ S, S = sumI (l.take k) := ⟨_, rfl⟩
    rw [← hS] at h1 h3 ⊢
    have e : q + S + l[k] = q + (S + l[k]) := by omega
    simp -implicitDefEqProofs (disch := omega) [List.getElem?_cons_zero, List.getElem?_cons_succ, wrap_id, hlt, e]
    exact round_end [] [37, 36, 35, 9] hlt rfl (by rw [h3]; rfl)
  · have hke : k = l.length := by omega
    subst hke
    rw [List.take_length]
    simp -implicitDefEqProofs (disch := omega) [List.getElem?_cons_zero, List.getElem?_cons_succ, wrap_id]
    exact finQ [] trivial rfl rfl rfl rfl ⟨hI, q + sumI l, by omega, rfl, rfl⟩
end
end Go.Proofs.Ytolfhldbfeffaaa
end
section
set_option linter.unusedSimpArgs false
set_option linter.unusedVariables false
namespace Go.Proofs.Ytolfhldbfeffaaa
open Go.Abs Go.Sand
/-- The next divisor, in its own row. -/
theorem step_hc {H : List AO} {o n : Nat} {d : List Int} {K : AV → List AO → Prop} (h1 : 1 ≤ n) (h2 : n ≤ 12) (hl : d.length = n) (hd : AbsLe 1000 d) (ho : H[o]? = some (rowZ d)) (hK0 : stepL d = none → K (.b false) H) (hK1 : ∀ e, stepL d = some e → K (.b true) (H.set o (rowZ e))) :
    HC Try.prog false 53 [.os o 0 n] H K := by
  obtain ⟨m, rfl⟩ : ∃ m, n = m + 1 := ⟨n - 1, by omega⟩
  have hset : ∀ X, (H.set o X)[o]? = some X := fun X => List.getElem?_set_self (List.getElem?_eq_some_iff.1 ho).1
  refine HC_of_W (af := _) ((by exact cfn53 : cfn _ _ _ = some _)) ?_
  simp -implicitDefEqProofs (disch := omega) [c53, List.getElem?_cons_zero, List.getElem?_cons_succ, wrap_id, ho, hl]
  refine loopW m (fun k s => ∃ j : Nat, (j + k = m ∧ topJ d j = topJ d m) ∧ s = ⟨[(4, .i j), (3, .i m), (0, .os o 0 (m + 1))], H⟩) (Wk_keep [4, 3, 0]) ?_ ?_
  · exact ⟨m, ⟨rfl, rfl⟩, rfl⟩
  rintro k s hk ⟨j, ⟨hjk, hj⟩, rfl⟩
  by_cases hp : j = 0
  · subst hp
    have hs : stepL d = none := by
      unfold stepL
      rw [hl, Nat.add_sub_cancel, ← hj]; rfl
    have hK := hK0 hs
    simp -implicitDefEqProofs (disch := omega) [List.getElem?_cons_zero, List.getElem?_cons_succ, wrap_id]
    exact finH trivial rfl hK
  obtain ⟨i, rfl⟩ : ∃ i, j = i + 1 := ⟨j - 1, by omega⟩
  have him : i < m := by omega
  have him2 : i < m + 1 := by omega
  have hil : i + 1 < d.length := by omega
  have hil2 : i < d.length := by omega
  have hp3 : (0 : Int) < (i : Int) + 1 := by omega
  have hp4 : ¬ (i : Int) + 1 = 0 := by omega
  have hp5 : (0 : Int) ≤ (i : Int) + 1 := by omega
  have hp6 : ((i : Int) + 1).toNat = i + 1 := by omega
  have hp7 : ¬ (i : Int) + 1 < 0 := by omega
  have b1 := hd.get hil
  have b2 := hd.get hil2
  by_cases hz : d[i + 1] = 0
  · simp -implicitDefEqProofs (disch := omega) [List.getElem?_cons_zero, List.getElem?_cons_succ, wrap_id, hp3, hp4, hp5, hp6, hp7, ho, hil, hl, hz, him]
    refine round_keep [4, 3, 0] (by omega) ⟨i, ⟨by omega, ?_⟩, rfl⟩
    rw [← hj, topJ, if_pos (by rw [getD_get hil]; exact hz)]
  · have hj2 : topJ d m = i + 1 := by rw [← hj, topJ, if_neg (by rw [getD_get hil]; exact hz)]
    have hs : stepL d = some (((d.set (i + 1) 0).set i (d[i] + 1)).set m (d[i + 1] - 1)) := by
      unfold stepL
      rw [hl, Nat.add_sub_cancel, hj2]
      simp only [Nat.add_sub_cancel, getD_get hil, getD_get hil2]
      rw [if_neg (by omega)]
    have hK := hK1 _ hs
    obtain ⟨y, hy⟩ : ∃ y : Int, ((List.map PV.i d).set (i + 1) (PV.v (Value.int IntKind.i64 0)))[m]? = some (PV.i y) := by
      refine ⟨(d.set (i + 1) 0)[m]'(by simp; omega), ?_⟩
      have e : (List.map PV.i d).set (i + 1) (PV.v (Value.int IntKind.i64 0)) = List.map PV.i (d.set (i + 1) 0) := by rw [List.map_set]
      rw [e, List.getElem?_map, List.getElem?_eq_getElem (by simp; omega)]; rfl
    simp -implicitDefEqProofs (disch := omega) [List.getElem?_cons_zero, List.getElem?_cons_succ, wrap_id, hp3, hp4, hp5, hp6, hp7, ho, hil, hil2, hl, hz, him, him2, hset, hy]
    refine finH trivial rfl ?_
    simpa [rowZ, List.map_set] using hK
theorem calm_rowZ (d : List Int) : (d.map PV.i).all calmP = true := by simp [List.all_map, calmP]
theorem cloneZ_hc {e : Bool} {A Z H : List AO} {x n : Nat} {d : List Int} {K : AV → List AO → Prop} (he : H = A ++ Z) (hA : ∀ ob ∈ A, loO A.length ob = true) (hx : (A ++ Z)[x]? = some (rowZ d)) (hn : d.length = n) (hb : n ≤ 1000000)
    (hK : ∀ Z', K (.p (.is d)) (A ++ Z')) : HC Try.prog e 54 [.os x 0 n] H K := by
  subst hn he
  refine HC_norm (HC_of_PC (by simp [views, view, viewC, ownEls, hx]) (clone20_ok d hb) ?_)
  have hc := calm_rowZ d
  refine ⟨List.range (A ++ Z).length, okσ_range (Nat.le_refl _) (by simp [hpast, hc, calmA, calmO]), ?_⟩
  have hh : hpast (A ++ Z) [.os x 0 d.length] (.os 0 0 d.length) [rowZ d] = (A ++ Z) ++ [rowZ d] := by
    simp [hpast, hc, calmA, calmO, AO.ren]
  have h0 : (AV.os 0 0 d.length).ren [rowZ d] (fun o => some (o + (A ++ Z).length)) = .os (A ++ Z).length 0 d.length := by
    simp [AV.ren]
  rw [hh, h0, renH_range, List.map_append, map_ren_lo hA (by simp)]
  have hr : (AV.os (A ++ Z).length 0 d.length).ren ((A ++ Z) ++ [rowZ d]) (Abs.idx (List.range (A ++ Z).length) 0) = .p (.is d) := by
    rw [AV.ren, idx_range_none (Nat.le_refl _)]
    simp
  rw [hr]
  exact hK _
theorem from_hc {n : Nat} {d : List Int} {K : AV → List AO → Prop} (hl : d.length = n) (hK : K (.fn (.func 52) [] [.ptr 1 1 0 0]) [rowZ d, .box (.os 0 0 n)]) : HC Try.prog false 37 [.os 0 0 n] [rowZ d] K := by
  refine HC_of_W (af := _) ((by exact cfn37 : cfn _ _ _ = some _)) ?_
  simp -implicitDefEqProofs (disch := omega) [c37, List.getElem?_cons_zero, List.getElem?_cons_succ, wrap_id, hl]
  exact finH trivial rfl hK
/-- The objects while divisors are collected. -/
abbrev allH (n : Nat) (d : List Int) (lp : AO) (L : List (List Int)) : List AO := [rowZ d, .box (.os 0 0 n), .box (.os 4 0 L.length), lp, .tab (L.map fun x => .p (.is x)) 28 false]
theorem loL_is (n : Nat) (l : List (List Int)) : loL n (l.map fun o => AV.p (.is o)) = true := by
  induction l with
  | nil => rfl
  | cons x l ih => rw [List.map_cons, loL, ih]; rfl
theorem all_range {n : Nat} {all : List (List Int)} {d0 : List Int} (h1 : 1 ≤ n) (h2 : n ≤ 12) (hall : all = runL 130 d0) (hlen : all.length ≤ 126) (hd : ∀ d ∈ all, d.length = n ∧ AbsLe 1000 d) (t : List (Nat × AV)) (ht2 : Abs.get t 2 = .ptr 2 1 0 0) (hf : loT 5 t = true) {R : AV → List AO → Prop}
    (hR : ∀ r d, R r (allH n d (.lp 13 t [7] rc51_0a rc51_0c .ready) all)) :
    HC Try.prog false 52 [.yl 3, .ptr 1 1 0 0] [rowZ d0, .box (.os 0 0 n), .box (.p .nil), .lp 13 t [7] rc51_0a rc51_0c .ready] R := by
  obtain ⟨LP, hLP⟩ : ∃ LP, LP = AO.lp 13 t [7] rc51_0a rc51_0c .ready := ⟨_, rfl⟩
  rw [← hLP] at hR ⊢
  refine HC_of_W (af := _) ((by exact cfn52 : cfn _ _ _ = some _)) ?_
  simp -implicitDefEqProofs (disch := omega) [c52, List.getElem?_cons_zero, List.getElem?_cons_succ, wrap_id]
  refine loopW 130 (fun k s => (∃ A d f, (A ++ runL f d = all ∧ A.length = k ∧ k + f = 130) ∧ s = ⟨[(3, .b true), (0, .yl 3), (1, .ptr 1 1 0 0)], allH n d LP A⟩) ∨ ∃ d, s = ⟨[(3, .b false), (0, .yl 3), (1, .ptr 1 1 0 0)], allH n d LP all⟩)
    (((Wk_nilBT 2 0 28 rfl rfl).trans (Wk_flat 2 (x := .agg [.os 4 0 0]) (y := .os 4 0 0) rfl rfl)).trans (Wk_keep [3, 0, 1])) (.inl ⟨[], d0, 130, ⟨hall.symm, rfl, rfl⟩, rfl⟩) ?_
  rintro k s hk (⟨A, d, f, ⟨hA, hAk, hkf⟩, rfl⟩ | ⟨d, rfl⟩)
  · obtain ⟨f, rfl⟩ : ∃ g, f = g + 1 := by
      refine ⟨f - 1, ?_⟩
      by_cases hf0 : f = 0
      · subst hf0
        have := congrArg List.length hA
        rw [List.length_append, runL, List.length_singleton] at this
        omega
      · omega
    have hdm := hd d (by rw [← hA]; simp [runL])
    have hlo : ∀ ob ∈ allH n d LP A, loO 5 ob = true := by
      intro ob hob
      simp only [allH, List.mem_cons, List.not_mem_nil, or_false] at hob
      rcases hob with rfl | rfl | rfl | rfl | rfl
      · rfl
      · rfl
      · rfl
      · rw [hLP]; exact hf
      · exact loL_is _ _
    have hA1 : A.length ≤ 1048575 := by omega
    have hA2 : A.length + 1 ≤ 1048576 := by omega
    simp -implicitDefEqProofs (disch := omega) [List.getElem?_cons_zero, List.getElem?_cons_succ, wrap_id]
    refine cloneZ_hc (A := allH n d LP A) (Z := []) (by simp [allH]) hlo (by simp [allH]) hdm.1 (by omega) fun Z => ?_
    simp -implicitDefEqProofs (disch := omega) [List.getElem?_cons_zero, List.getElem?_cons_succ, wrap_id]
    subst hLP
    refine ⟨rfl, HY_of_W rfl rcc51_0a rcc51_0c rfl rfl rfl rfl ?_⟩
    have hZ0 : ∀ x : AO, (Z ++ [x])[Z.length]? = some x := fun x => by simp
    simp -implicitDefEqProofs (disch := omega) [List.getElem?_cons_zero, List.getElem?_cons_succ, wrap_id, hZ0, ra51_0a, ra51_0c, ht2, hA1, hA2]
    refine step_hc (d := d) h1 h2 hdm.1 hdm.2 (by simp) (fun hs => ?_) (fun e hs => ?_)
    · have hAe : A ++ [d] = all := by rw [← hA, runL, hs]
      simp -implicitDefEqProofs (disch := omega) [List.getElem?_cons_zero, List.getElem?_cons_succ, wrap_id]
      refine round_end' (by omega) (Wk_pop 5 [3, 0, 1] (by simp) (by simp) (H' := allH n d (.lp 13 t [7] rc51_0a rc51_0c .ready) (A ++ [d])) ?_ ?_ ?_) (.inr ⟨d, by rw [hAe]; rfl⟩)
      · simp [allH, rowZ]
      · intro i hi
        simp only [List.mem_cons, List.not_mem_nil, or_false] at hi
        rcases hi with rfl | rfl | rfl <;> simp [Abs.get, loA]
      · intro ob hob
        simp only [allH, List.mem_cons, List.not_mem_nil, or_false] at hob
        rcases hob with rfl | rfl | rfl | rfl | rfl
        · rfl
        · rfl
        · rfl
        · exact hf
        · exact loL_is _ _
    · have hAe : (A ++ [d]) ++ runL f e = all := by rw [← hA, runL, hs]; simp
      simp -implicitDefEqProofs (disch := omega) [List.getElem?_cons_zero, List.getElem?_cons_succ, wrap_id]
      refine round_end' (by omega) (Wk_pop 5 [3, 0, 1] (by simp) (by simp) (H' := allH n e (.lp 13 t [7] rc51_0a rc51_0c .ready) (A ++ [d])) ?_ ?_ ?_) (.inl ⟨A ++ [d], e, ⟨f, hAe, by simp [hAk], by omega⟩, rfl⟩)
      · simp [allH, rowZ]
      · intro i hi
        simp only [List.mem_cons, List.not_mem_nil, or_false] at hi
        rcases hi with rfl | rfl | rfl <;> simp [Abs.get, loA]
      · intro ob hob
        simp only [allH, List.mem_cons, List.not_mem_nil, or_false] at hob
        rcases hob with rfl | rfl | rfl | rfl | rfl
        · rfl
        · rfl
        · rfl
        · exact hf
        · exact loL_is _ _
  · simp -implicitDefEqProofs (disch := omega) [List.getElem?_cons_zero, List.getElem?_cons_succ, wrap_id]
    exact finH trivial rfl (hR _ _)
end Go.Proofs.Ytolfhldbfeffaaa
end
section
set_option linter.unusedSimpArgs false
set_option linter.unusedVariables false
namespace Go.Proofs.Ytolfhldbfeffaaa
open Go.Abs Go.Sand
theorem fin40_at {rs : List ARes} {s : St} {x r : AV} {ob ob' : AO} {e : AExit} (t : Nat) (he : match e with | .exit _ => False | _ => True) (h : resOf s rs = some x) (ht : s.H[t]? = some ob) (hr : x.ren s.H (Abs.idx [t] 0) = r) (hob : ob.ren s.H (Abs.idx [t] 0) = ob') :
    Abs.Fin 0 rs (fun r' H' => r' = r ∧ H' = [ob']) e s :=
  ⟨he, .inl ⟨s, x, [t], Wk.refl _ _, h, by simp [okσ, nodupB, firstB, (List.getElem?_eq_some_iff.1 ht).1], hr, by
    show [(s.H.getD t (.box .dead)).ren s.H (Abs.idx [t] 0)] = [ob']
    rw [List.getD_eq_getElem?_getD, ht, Option.getD_some, hob]⟩⟩
theorem eff_le_sum : ∀ (d : List Int), (∀ x ∈ d, 0 ≤ x) → 0 ≤ sumI d ∧ ∀ x ∈ d, x ≤ sumI d
  | [], _ => by simp [sumI]
  | y :: d, h => by
    obtain ⟨h1, h2⟩ := eff_le_sum d fun x hx => h x (by simp [hx])
    have hy := h y (by simp)
    refine ⟨by rw [sumI]; omega, fun x hx => ?_⟩
    rw [sumI]
    rcases List.mem_cons.1 hx with rfl | hx
    · omega
    · have := h2 x hx; omega
theorem abs_of_mem {B : Int} (hB : 0 ≤ B) {d : List Int} (h : ∀ x ∈ d, -B ≤ x ∧ x ≤ B) : AbsLe B d := fun v => by
  by_cases hv : v < d.length
  · rw [getD_get hv]; exact h _ (List.getElem_mem hv)
  · rw [List.getD_eq_getElem?_getD, List.getElem?_eq_none (by omega)]; simp; omega
theorem allL_mem {n k : Nat} (h1 : 1 ≤ n) (h5 : n ≤ 5) (hk : k ≤ 5) {d : List Int} (hd : d ∈ allL n k) : d.length = n ∧ sumI d = k ∧ (∀ x ∈ d, 0 ≤ x) ∧ AbsLe 5 d := by
  have h := List.all_eq_true.1 (allL_ok n (by omega) h1 k (by omega)).1 d hd
  simp only [effB, Bool.and_eq_true, decide_eq_true_eq, List.all_eq_true] at h
  obtain ⟨⟨a, b⟩, c⟩ := h
  refine ⟨a, b, c, abs_of_mem (by decide) fun x hx => ?_⟩
  have := c x hx
  have := (eff_le_sum d c).2 x hx
  omega
theorem collect40_ok {n : Nat} {all : List (List Int)} {d0 : List Int} (h1 : 1 ≤ n) (h2 : n ≤ 12) (hall : all = runL 130 d0) (hlen : all.length ≤ 126) (hd : ∀ d ∈ all, d.length = n ∧ AbsLe 1000 d) {R : AV → List AO → Prop}
    (hR : ∀ x d, R (.os 4 0 all.length) (allH n d x all)) :
    HC Try.prog false 36 [.fn (.func 52) [] [.ptr 1 1 0 0]] [rowZ d0, .box (.os 0 0 n)] R := by
  have hA : HC Try.prog false 51 [.p .nil, .fn (.func 52) [] [.ptr 1 1 0 0]] [rowZ d0, .box (.os 0 0 n)] R := by
    refine HC_of_W (af := _) ((by exact cfn51 : cfn _ _ _ = some _)) ?_
    simp -implicitDefEqProofs (disch := omega) [c51, List.getElem?_cons_zero, List.getElem?_cons_succ, wrap_id]
    refine ⟨by kernel_rfl, all_range h1 h2 hall hlen hd _ rfl rfl fun r d => AfterR_ready rfl ?_⟩
    simp -implicitDefEqProofs (disch := omega) [List.getElem?_cons_zero, List.getElem?_cons_succ, wrap_id]
    exact finH trivial rfl (hR _ _)
  refine HC_of_W (af := _) ((by exact cfn36 : cfn _ _ _ = some _)) ?_
  simp -implicitDefEqProofs (disch := omega) [c36, List.getElem?_cons_zero, List.getElem?_cons_succ, wrap_id]
  refine HC.mono hA ?_
  intro r H hr
  simp -implicitDefEqProofs (disch := omega) [List.getElem?_cons_zero, List.getElem?_cons_succ, wrap_id]
  exact finH trivial rfl hr
/-- The number of divisors, as it is counted. -/
def cntF (k : Nat) : Nat → Nat
  | 0 => 1
  | i + 1 => cntF k i * (k + (i + 1)) / (i + 1)
theorem cntF_le : ∀ k, k < 6 → ∀ i, i < 6 → cntF k i ≤ 300 := by decide
theorem call_ok {n k : Nat} (h1 : 1 ≤ n) (h5 : n ≤ 5) (hk : k ≤ 5) : PC Try.prog 19 [.i n, .i k] (.tup [.os 0 0 (allL n k).length, .i 0]) [.tab ((allL n k).map fun x => .p (.is x)) 28 false] := by
  have hv : vertsErr n = 0 := by unfold vertsErr; rw [if_neg (by omega)]
  have h3 : n ≤ 1048576 := by omega
  have hk0 : ¬ (k : Int) < 0 := by omega
  have hk1 : ¬ (1048576 : Int) < k := by omega
  obtain ⟨m, rfl⟩ : ∃ m, n = m + 1 := ⟨n - 1, by omega⟩
  refine PC_of_W cfn19 ?_
  simp -implicitDefEqProofs (disch := omega) [c19, List.getElem?_cons_zero, List.getElem?_cons_succ, wrap_id]
  refine HC_of_PC rfl (vertices_ok ((m : Int) + 1)) ?_
  rw [show (m : Int) + 1 = ((m + 1 : Nat) : Int) by push_cast; rfl, hv]
  simp -implicitDefEqProofs (disch := omega) [List.getElem?_cons_zero, List.getElem?_cons_succ, wrap_id, hk0, hk1]
  refine loopW m (fun i st => st = ⟨[(8, .i ((i : Int) + 1)), (7, .i (cntF k i)), (0, .i ((m : Int) + 1)), (1, .i k)], []⟩) (wk_norm [] [8, 7, 0, 1] rfl rfl) rfl ?_
  rintro i st hi rfl
  have hc := cntF_le k (by omega) i (by omega)
  by_cases hlt : i < m
  · have hc1 := cntF_le k (by omega) (i + 1) (by omega)
    have hi1 : (i : Int) + 1 < (m : Int) + 1 := by omega
    have hq : ((cntF k i : Int) * ((k : Int) + ((i : Int) + 1))).tdiv ((i : Int) + 1) = (cntF k (i + 1) : Nat) := by
      have : (cntF k i : Int) * ((k : Int) + ((i : Int) + 1)) = ((cntF k i * (k + (i + 1)) : Nat) : Int) := by push_cast; rfl
      rw [this, show (i : Int) + 1 = ((i + 1 : Nat) : Int) by push_cast; rfl, ← Int.ofNat_tdiv]
      rfl
    have hm1 : -9223372036854775808 ≤ (cntF k i : Int) * ((k : Int) + ((i : Int) + 1)) ∧ (cntF k i : Int) * ((k : Int) + ((i : Int) + 1)) ≤ 9223372036854775807 := by
      have : cntF k i * (k + (i + 1)) ≤ 300 * 20 := Nat.mul_le_mul hc (by omega)
      have e : (cntF k i : Int) * ((k : Int) + ((i : Int) + 1)) = ((cntF k i * (k + (i + 1)) : Nat) : Int) := by push_cast; rfl
      rw [e]; omega
    have hd0 : ¬ (i : Int) + 1 = 0 := by omega
    obtain ⟨P, hP⟩ : ∃ P, P = (cntF k i : Int) * ((k : Int) + ((i : Int) + 1)) := ⟨_, rfl⟩
    rw [← hP] at hq hm1
    have hc16 : ¬ (16384 : Int) < (cntF k (i + 1) : Nat) := by omega
    have hc17 : ¬ 16384 < cntF k (i + 1) := by omega
    simp -implicitDefEqProofs (disch := omega) [List.getElem?_cons_zero, List.getElem?_cons_succ, wrap_id, hlt, hi1, hd0, ← hP, hq, hc16, hc17]
    exact round_end [] [8, 7, 0, 1] hlt rfl rfl
  · have hm4 : m ≤ 1048575 := by omega
    have hfl : (firstL (m + 1) k).length = m + 1 := by simp [firstL]
    have hfr : AO.row ((List.replicate (m + 1) (PV.v (Value.int IntKind.i64 0))).set m (PV.v (Value.int IntKind.i64 (k : Int)))) 1 3 false = rowZ (firstL (m + 1) k) := by simp [firstL, rowZ, List.map_set]
    have hal := allL_ok (m + 1) (by omega) h1 k (by omega)
    simp -implicitDefEqProofs (disch := omega) [List.getElem?_cons_zero, List.getElem?_cons_succ, wrap_id, hlt, hm4]
    rw [hfr]
    refine from_hc (d := firstL (m + 1) k) hfl ?_
    simp -implicitDefEqProofs (disch := omega) [List.getElem?_cons_zero, List.getElem?_cons_succ, wrap_id]
    refine collect40_ok h1 (by omega) (all := allL (m + 1) k) rfl hal.2 (fun d hd => ⟨(allL_mem h1 h5 hk hd).1, (allL_mem h1 h5 hk hd).2.2.2.mono (by decide)⟩) fun x d => ?_
    simp -implicitDefEqProofs (disch := omega) [List.getElem?_cons_zero, List.getElem?_cons_succ, wrap_id]
    exact fin40_at 4 trivial rfl rfl rfl (loO_ren (m := 0) (fun i h => by omega) _ (loL_is 0 _))
end Go.Proofs.Ytolfhldbfeffaaa
end
section
set_option linter.unusedSimpArgs false
set_option linter.unusedVariables false
namespace Go.Proofs.Ytolfhldbfeffaaa
open Go.Abs Go.Sand
/-- Has a divisor at least the rank 1? -/
def Rk1 (n : Nat) (es : List Ed) (d : List Int) : Prop := RkGe n (joinE es) (fun v => d.getD v 0) 1
theorem renL_is (H : List AO) (ρ : Nat → Option Nat) (L : List (List Int)) : renL H ρ (L.map fun x => AV.p (PV.is x)) = L.map fun x => AV.p (PV.is x) := by
  induction L with
  | nil => rfl
  | cons x L ih => rw [List.map_cons, renL, ih]; rfl
section
variable {n : Nat} {es : List Ed} (hs : Sm n es)
include hs
/-- What AtLeast leaves. -/
def AtR (n : Nat) (es : List Ed) (d : List Int) (r : AV) (HR : List AO) : Prop := ∃ b : Bool, (b = true ↔ Rk1 n es d) ∧ r = .tup [.b b, .i 0] ∧ HR = []
theorem atleast_ok {d : List Int} (hdl : d.length = n) (hdb : AbsLe 110 d) : PCR Try.prog 20 [G n es, .is d, .i 1] (AtR n es d) := by
  have hn1 := hs.n1
  have hn5 := hs.n5
  have hd := dcheck_zero (by omega) hdl (hdb.mono (by omega))
  refine PCR_of_W cfn20 ?_
  simp -implicitDefEqProofs (disch := omega) [c20, List.getElem?_cons_zero, List.getElem?_cons_succ, wrap_id]
  refine HC_of_PC rfl (rgiven1_ok n es hs.el hs.c d hd (by omega)) ?_
  simp -implicitDefEqProofs (disch := omega) [List.getElem?_cons_zero, List.getElem?_cons_succ, wrap_id]
  refine HC_of_PCR rfl (rank_ok hs hdl hdb) ?_
  rintro r HR ⟨k, hk, hkr, rfl, rfl⟩
  have hge := hkr.ge (by omega) 1
  simp -implicitDefEqProofs (disch := omega) [List.getElem?_cons_zero, List.getElem?_cons_succ, wrap_id]
  exact finQ [] trivial rfl rfl rfl rfl ⟨decide (1 ≤ k), by rw [decide_eq_true_eq, Rk1, hge]; simp, rfl, rfl⟩
/-- What Gonality leaves. -/
def GonR (n : Nat) (es : List Ed) (r : AV) (HR : List AO) : Prop := ∃ (k : Nat) (d : List Int), (1 ≤ k ∧ k ≤ n) ∧ (∀ p, 1 ≤ p → p < k → ∀ e ∈ allL n p, ¬ Rk1 n es e) ∧ (d ∈ allL n k ∧ Rk1 n es d) ∧ r = .tup [.i k, .p (.is d), .i 0] ∧ HR = []
theorem gon_ok : PCR Try.prog 7 [G n es] (GonR n es) := by
  have hn1 := hs.n1
  have hn5 := hs.n5
  have hm7 := hs.m7
  have hg0 := (conn_good hs.c).1
  have hn6 : ¬ (6 : Int) < n := by omega
  have hn6' : ¬ 6 < n := by omega
  have hm9 : ¬ (9 : Int) < (endsL es).length := by omega
  have hm9' : ¬ 9 < (endsL es).length := by omega
  refine PCR_of_W cfn7 ?_
  simp -implicitDefEqProofs (disch := omega) [c7, List.getElem?_cons_zero, List.getElem?_cons_succ, wrap_id]
  refine HC_of_PC rfl (gjoined_ok n es hs.el hs.c) ?_
  simp -implicitDefEqProofs (disch := omega) [List.getElem?_cons_zero, List.getElem?_cons_succ, wrap_id]
  have hel := hs.el
  refine HC_of_PC rfl (gsize_ok n es (by omega)) ?_
  rw [if_pos hg0, hg0]
  simp -implicitDefEqProofs (disch := omega) [List.getElem?_cons_zero, List.getElem?_cons_succ, wrap_id, hn6, hn6', hm9, hm9']
  refine loopW n (fun k st => st = ⟨[(8, .i ((k : Int) + 1)), (1, .ptr 0 1 0 0)], [.box (.p (G n es))]⟩ ∧ ∀ p, 1 ≤ p → p ≤ k → ∀ e ∈ allL n p, ¬ Rk1 n es e) (wk_norm [0] [8, 1] rfl rfl) ⟨rfl, fun p h1 h2 => by omega⟩ ?_
  rintro k st hk ⟨rfl, hI⟩
  have hkn : k < n := by
    refine Classical.byContradiction fun h => hI n hn1 (by omega) _ (allL_ones n (by omega) hn1) ?_
    refine RkGe.equi (Equi.of_eq fun u hu => ?_) (ones_rank hs.mg (by omega))
    simp [hu]
  have hk1 : (k : Int) + 1 ≤ n := by omega
  have hk2 : k + 1 ≤ n := by omega
  have hcal := call_ok (n := n) (k := k + 1) hn1 hn5 (by omega)
  simp -implicitDefEqProofs (disch := omega) [List.getElem?_cons_zero, List.getElem?_cons_succ, wrap_id, hk1, hk2]
  obtain ⟨L, hL⟩ : ∃ L, L = allL n (k + 1) := ⟨_, rfl⟩
  have hLm : ∀ d ∈ L, d.length = n ∧ AbsLe 5 d := fun d hd => by
    have := allL_mem hn1 hn5 (by omega) (hL ▸ hd)
    exact ⟨this.1, this.2.2.2⟩
  have hLl : L.length ≤ 126 := by rw [hL]; exact (allL_ok n (by omega) hn1 (k + 1) (by omega)).2
  rw [← hL] at hcal
  refine HC_of_PC rfl hcal ?_
  simp -implicitDefEqProofs (disch := omega) [List.getElem?_cons_zero, List.getElem?_cons_succ, wrap_id, renL_is]
  refine loopW L.length (fun j st => st = ⟨[(54, .i j), (53, .i L.length), (52, .os 1 0 L.length), (8, .i ((k : Int) + 1)), (1, .ptr 0 1 0 0)], [.box (.p (G n es)), .tab (L.map fun x => .p (.is x)) 28 false]⟩ ∧ ∀ i (h : i < L.length), i < j → ¬ Rk1 n es L[i]) (wk_norm [0, 1] [54, 53, 52, 8, 1] rfl rfl) ⟨by show _ = _; simp [renL_is, Abs.norm, Abs.get, AV.ren, AO.ren, Abs.idx], fun i h hi => by omega⟩ ?_
  rintro j st hj ⟨rfl, hJ⟩
  by_cases hlt : j < L.length
  · have hd := hLm L[j] (List.getElem_mem hlt)
    obtain ⟨d, hde⟩ : ∃ d, d = L[j] := ⟨_, rfl⟩
    rw [← hde] at hd
    simp -implicitDefEqProofs (disch := omega) [List.getElem?_cons_zero, List.getElem?_cons_succ, wrap_id, hlt, ← hde]
    refine HC_of_PCR rfl (atleast_ok hs hd.1 (hd.2.mono (by decide))) ?_
    rintro r HR ⟨b, hb, rfl, rfl⟩
    cases b
    · simp -implicitDefEqProofs (disch := omega) [List.getElem?_cons_zero, List.getElem?_cons_succ, wrap_id, renL_is]
      refine round_end [0, 1] [54, 53, 52, 8, 1] hlt rfl ⟨by simp [renL_is, Abs.norm, Abs.get, AV.ren, AO.ren, Abs.idx], fun i h hi => ?_⟩
      by_cases e : i = j
      · subst e
        rw [← hde]
        exact fun hr => Bool.noConfusion (hb.2 hr)
      · exact hJ i h (by omega)
    · simp -implicitDefEqProofs (disch := omega) [List.getElem?_cons_zero, List.getElem?_cons_succ, wrap_id, renL_is]
      refine finQ [] trivial rfl rfl rfl rfl ⟨k + 1, d, ⟨by omega, by omega⟩, fun p h1 h2 => hI p h1 (by omega), ⟨?_, hb.1 rfl⟩, rfl, rfl⟩
      rw [← hL, hde]
      exact List.getElem_mem hlt
  · simp -implicitDefEqProofs (disch := omega) [List.getElem?_cons_zero, List.getElem?_cons_succ, wrap_id, hlt]
    refine round_end [0] [8, 1] hkn rfl ⟨rfl, fun p h1 h2 e he => ?_⟩
    by_cases ep : p = k + 1
    · subst ep
      rw [← hL] at he
      obtain ⟨i, hi, rfl⟩ := List.getElem_of_mem he
      exact hJ i hi (by omega)
    · exact hI p h1 (by omega) e he
end
end Go.Proofs.Ytolfhldbfeffaaa
end
