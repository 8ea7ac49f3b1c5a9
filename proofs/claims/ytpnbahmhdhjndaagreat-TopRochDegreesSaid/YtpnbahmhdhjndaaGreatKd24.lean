/-
  Texts joined: Yad Gm Gq Wb.
-/
import Derived.Test.YtpnbahmhdhjndaaGreatKd23

section
set_option linter.unusedSimpArgs false
set_option linter.unusedVariables false
namespace Go.Proofs.YtpnbahmhdhjndaaGreat
open Go.Abs Go.Sand
/-- The least of the first k+1. -/
def minK (xs : List Int) : Nat → Int
  | 0 => xs.getD 0 0
  | k + 1 => min (minK xs k) (xs.getD (k + 1) 0)
theorem minK_ge (xs : List Int) {B : Int} : ∀ k, (∀ i, i ≤ k → B ≤ xs.getD i 0) → B ≤ minK xs k
  | 0, h => h 0 (Nat.le_refl _)
  | k + 1, h => by
    rw [minK]
    have h1 := minK_ge xs k fun i hi => h i (by omega)
    have h2 := h (k + 1) (Nat.le_refl _)
    omega
theorem minK_le (xs : List Int) : ∀ k i, i ≤ k → minK xs k ≤ xs.getD i 0
  | 0, i, h => by have e : i = 0 := by omega
                  subst e; exact Int.le_refl _
  | k + 1, i, h => by
    rw [minK]
    rcases Nat.lt_or_ge i (k + 1) with h1 | h1
    · have := minK_le xs k i (by omega); omega
    · have e : i = k + 1 := by omega
      subst e; omega
theorem smin_ok (xs : List Int) (h0 : 0 < xs.length) (hx : xs.length ≤ 1000) : PC Tryz.prog 62 [.is xs] (.i (minK xs (xs.length - 1))) [] := by
  have h1 : ¬ xs.length < 1 := by omega
  have h1' : ¬ (xs.length : Int) < 1 := by omega
  have e0 : minK xs 0 = xs[0] := getD_get h0
  refine PC_of_W cfn62 ?_
  simp -implicitDefEqProofs (disch := omega) [c62, List.getElem?_cons_zero, List.getElem?_cons_succ, wrap_id, h0, h1, h1']
  refine loopW (xs.length - 1) (fun k st => st = ⟨[(4, .i (k + 1 : Nat)), (3, .i (minK xs k)), (0, .p (.is xs))], []⟩) (wk_norm [] [4, 3, 0] rfl rfl) (by show _ = _; rw [e0]; rfl) ?_
  rintro k st hk rfl
  by_cases hkt : k + 1 < xs.length
  · have hkt' : (k : Int) + 1 < xs.length := by omega
    have e1 : minK xs (k + 1) = min (minK xs k) xs[k + 1] := by rw [minK, getD_get hkt]
    simp -implicitDefEqProofs (disch := omega) [List.getElem?_cons_zero, List.getElem?_cons_succ, wrap_id, hkt, hkt']
    exact round_end [] [4, 3, 0] (by omega) rfl (by show _ = _; rw [e1]; rfl)
  · have hkt' : ¬ (k : Int) + 1 < xs.length := by omega
    have hke : k = xs.length - 1 := by omega
    simp -implicitDefEqProofs (disch := omega) [List.getElem?_cons_zero, List.getElem?_cons_succ, wrap_id, hkt, hkt']
    (refine fin0 trivial rfl ?_; simp -implicitDefEqProofs (disch := omega) [List.getElem?_cons_zero, List.getElem?_cons_succ, idx, wrap_id, hke])
theorem given2_ok (n : Nat) (es : List Ed) (hel : es.length ≤ 900) (hc : connE n es = 0) (a b : List Int) (ha : dcheck a n = 0) (hb : dcheck b n = 0) (hal : a.length ≤ 1000) (hbl : b.length ≤ 1000) : PC Tryz.prog 28 [G n es, .sl [.is a, .is b]] (.i 0) [] := by
  obtain ⟨hg, hp⟩ := conn_good hc
  rw [Int.toNat_natCast] at hp
  have hr : (rootsL es n).length = 1 := hp
  refine PC_of_W cfn28 ?_
  simp -implicitDefEqProofs (disch := omega) [c28, List.getElem?_cons_zero, List.getElem?_cons_succ, wrap_id]
  refine HC_of_PC rfl (connected_ok n es hel hg) ?_
  simp -implicitDefEqProofs (disch := omega) [List.getElem?_cons_zero, List.getElem?_cons_succ, wrap_id, hr]
  refine loopW 2 (fun k st => st = ⟨[(22, .i k), (21, .i 2), (20, .p (.sl [.is a, .is b])), (2, .ptr 0 1 0 0)], [.box (.p (G n es))]⟩) (wk_norm [0] [22, 21, 20, 2] rfl rfl) rfl ?_
  rintro k st hk rfl
  match k, hk with
  | 0, _ =>
    simp -implicitDefEqProofs (disch := omega) [List.getElem?_cons_zero, List.getElem?_cons_succ, wrap_id]
    refine HC_of_PC rfl (chk_ok a n (by omega)) ?_
    simp -implicitDefEqProofs (disch := omega) [List.getElem?_cons_zero, List.getElem?_cons_succ, wrap_id, ha]
    exact round_end [0] [22, 21, 20, 2] (by omega) rfl rfl
  | 1, _ =>
    simp -implicitDefEqProofs (disch := omega) [List.getElem?_cons_zero, List.getElem?_cons_succ, wrap_id]
    refine HC_of_PC rfl (chk_ok b n (by omega)) ?_
    simp -implicitDefEqProofs (disch := omega) [List.getElem?_cons_zero, List.getElem?_cons_succ, wrap_id, hb]
    exact round_end [0] [22, 21, 20, 2] (by omega) rfl rfl
  | 2, _ =>
    simp -implicitDefEqProofs (disch := omega) [List.getElem?_cons_zero, List.getElem?_cons_succ, wrap_id]
    (refine fin0 trivial rfl ?_; simp -implicitDefEqProofs (disch := omega) [List.getElem?_cons_zero, List.getElem?_cons_succ, idx, wrap_id])
theorem eqc_hc (x y : Int) (hxy : -9000000000 ≤ x ∧ x ≤ 9000000000 ∧ -9000000000 ≤ y ∧ y ≤ 9000000000) (H : List AO) (K : AV → List AO → Prop) (hK : K (.i (x - y)) H) : HC Tryz.prog false 32 [.i x, .i y] H K := by
  refine HC_of_W (af := _) ((by exact cfn32 : cfn _ _ _ = some _)) ?_
  simp -implicitDefEqProofs (disch := omega) [c32, List.getElem?_cons_zero, List.getElem?_cons_succ, wrap_id]
  exact finH trivial rfl hK
theorem lec_hc {p : Nat} {m : Int} (x y : Int) (hxy : -9000000000 ≤ x ∧ x ≤ 9000000000 ∧ -9000000000 ≤ m ∧ m ≤ 9000000000) (H : List AO) (hp : H[p]? = some (.box (.i m))) (K : AV → List AO → Prop) (hK : K (.i (x - m)) H) : HC Tryz.prog false 63 [.i x, .i y, .ptr p 1 0 0] H K := by
  refine HC_of_W (af := _) ((by exact cfn63 : cfn _ _ _ = some _)) ?_
  simp -implicitDefEqProofs (disch := omega) [c63, List.getElem?_cons_zero, List.getElem?_cons_succ, wrap_id, hp]
  exact finH trivial rfl hK
/-- What a function makes of pairs, as far as it is written. -/
def zpK (F : Int → Int → Int) (a b : List Int) (k : Nat) : List Int := (List.range a.length).map fun i => if i < k then F (a.getD i 0) (b.getD i 0) else 0
theorem zpK_len (F : Int → Int → Int) (a b : List Int) (k : Nat) : (zpK F a b k).length = a.length := by simp [zpK]
theorem zpK_zero (F : Int → Int → Int) (a b : List Int) : zpK F a b 0 = List.replicate a.length 0 := by
  apply List.ext_getElem (by simp [zpK])
  intro i h1 h2
  simp [zpK]
theorem zpK_set (F : Int → Int → Int) (a b : List Int) {k : Nat} (h : k < a.length) : (zpK F a b k).set k (F (a.getD k 0) (b.getD k 0)) = zpK F a b (k + 1) := by
  apply List.ext_getElem (by simp [zpK])
  intro i h1 h2
  rw [List.getElem_set]
  simp only [zpK, List.getElem_map, List.getElem_range]
  by_cases e : k = i
  · subst e; rw [if_pos rfl, if_pos (by omega)]
  · rw [if_neg e]
    by_cases h3 : i < k
    · rw [if_pos h3, if_pos (by omega)]
    · rw [if_neg h3, if_neg (by omega)]
theorem zpK_get (F : Int → Int → Int) (a b : List Int) {i : Nat} (h : i < a.length) : (zpK F a b a.length).getD i 0 = F (a.getD i 0) (b.getD i 0) := by
  rw [List.getD_eq_getElem?_getD, List.getElem?_eq_getElem (by rw [zpK_len]; exact h)]
  simp [zpK, h]
theorem each_hc {n : Nat} (hn : n ≤ 12) {a b : List Int} (ha : a.length = n) (hb : b.length = n) {H : List AO} {oa ob : Nat} (hoa : H[oa]? = some (rowZ a)) (hob : H[ob]? = some (rowZ b)) {f : FuncId} {cap : List AV} {F : Int → Int → Int} (hc : callable Tryz.prog f = true)
    (hf : ∀ i, i < n → ∀ Z (K : AV → List AO → Prop), K (.i (F (a.getD i 0) (b.getD i 0))) (H ++ Z) → HC Tryz.prog false f (.i (a.getD i 0) :: .i (b.getD i 0) :: cap) (H ++ Z) K) {K : AV → List AO → Prop} (hK : K (.os H.length 0 n) (H ++ [rowZ (zpK F a b n)])) :
    HC Tryz.prog false 31 [.os oa 0 n, .os ob 0 n, .fn (.func f) [] cap] H K := by
  have hn2 : n ≤ 1048576 := by omega
  have e0 : rowZ (zpK F a b 0) = .row (List.replicate n (PV.v (.int .i64 0))) 1 3 false := by rw [zpK_zero, rowZ, ha, List.map_replicate]
  have f1 : ∀ y, (H ++ [y])[H.length]? = some y := fun y => by simp
  have f3 : ∀ y z, (H ++ [y]).set H.length z = H ++ [z] := fun y z => by simp
  have ga : ∀ Z, (H ++ Z)[oa]? = _ := fun Z => app_some hoa Z
  have gb : ∀ Z, (H ++ Z)[ob]? = _ := fun Z => app_some hob Z
  refine HC_of_W (af := _) ((by exact cfn31 : cfn _ _ _ = some _)) ?_
  simp -implicitDefEqProofs (disch := omega) [c31, List.getElem?_cons_zero, List.getElem?_cons_succ, wrap_id, hoa, ha, hn2, f1, -getElem?_pos]
  refine loopW n (fun k st => st = ⟨[(14, .i k), (13, .i n), (12, .os H.length 0 n), (7, .os H.length 0 n), (0, .os oa 0 n), (1, .os ob 0 n), (2, .fn (.func f) [] cap)], H ++ [rowZ (zpK F a b k)]⟩) (Wk_keep [14, 13, 12, 7, 0, 1, 2]) (by show _ = _; rw [e0]; rfl) ?_
  rintro k st hk rfl
  by_cases hkn : k < n
  rotate_left
  · obtain rfl : k = n := by omega
    simp -implicitDefEqProofs (disch := omega) [List.getElem?_cons_zero, List.getElem?_cons_succ, wrap_id, hkn]
    exact finH trivial rfl hK
  have hzl := zpK_len F a b k
  have hzs := zpK_set F a b (k := k) (by omega)
  obtain ⟨Z, hZ⟩ : ∃ Z, Z = zpK F a b k := ⟨_, rfl⟩
  rw [← hZ] at hzl hzs ⊢
  have hka : k < a.length := by omega
  have hkb : k < b.length := by omega
  have hfk := hf k hkn
  rw [getD_get hka, getD_get hkb] at hfk hzs
  have ea : a[k]? = some a[k] := List.getElem?_eq_getElem hka
  have eb : b[k]? = some b[k] := List.getElem?_eq_getElem hkb
  have hzn : Z.length = n := by omega
  have ez : Z[k]? = some (Z[k]'(by omega)) := List.getElem?_eq_getElem (by omega)
  have hrow : AO.row ((Z.map PV.i).set k (PV.i (F a[k] b[k]))) 1 3 false = rowZ (zpK F a b (k + 1)) := by rw [← hzs, rowZ, List.map_set]
  simp -implicitDefEqProofs (disch := omega) [List.getElem?_cons_zero, List.getElem?_cons_succ, wrap_id, hkn, ga, gb, ha, hb, ea, eb, -getElem?_pos]
  refine ⟨hc, hfk _ _ ?_⟩
  simp -implicitDefEqProofs (disch := omega) [List.getElem?_cons_zero, List.getElem?_cons_succ, wrap_id, hkn, f1, f3, hzn, hrow, ez, -getElem?_pos]
  exact round_keep [14, 13, 12, 7, 0, 1, 2] hkn rfl
/-- What Equivalent leaves. -/
def EqR (n : Nat) (es : List Ed) (a b : List Int) (r : AV) (HR : List AO) : Prop :=
  (Equi n (joinE es) (fun v => a.getD v 0) (fun v => b.getD v 0) ∧ ∃ l, r = .tup [.b true, .os 0 0 n, .i 0] ∧ HR = [rowZ l]) ∨ (¬ Equi n (joinE es) (fun v => a.getD v 0) (fun v => b.getD v 0) ∧ r = .tup [.b false, .p .nil, .i 0] ∧ HR = [])
set_option maxHeartbeats 1000000 in
theorem least_hc {n : Nat} (hn : 1 ≤ n ∧ n ≤ 12) {s : List Int} (hs : s.length = n) (hb : AbsLe 2097152 s) {H : List AO} {o : Nat} (ho : H[o]? = some (rowZ s)) {K : AV → List AO → Prop} (hK : ∀ l Z, K (.os (H.length + 1) 0 n) (H ++ [Z, rowZ l])) : HC Tryz.prog false 30 [.os o 0 n] H K := by
  have hm1 := minK_ge s (B := -2097152) (s.length - 1) fun i _ => (hb i).1
  have hm2 := minK_le s (s.length - 1) 0 (by omega)
  have hm3 := hb 0
  obtain ⟨m, hm⟩ : ∃ m, m = minK s (s.length - 1) := ⟨_, rfl⟩
  have f1 : ∀ y, (H ++ [y])[H.length]? = some y := fun y => by simp
  have f3 : ∀ y z, (H ++ [y]).set H.length z = H ++ [z] := fun y z => by simp
  have hn0 : ¬ (n : Int) = 0 := by omega
  have hn0' : ¬ n = 0 := by omega
  refine HC_of_W (af := _) ((by exact cfn30 : cfn _ _ _ = some _)) ?_
  simp -implicitDefEqProofs (disch := omega) [c30, List.getElem?_cons_zero, List.getElem?_cons_succ, wrap_id, ho, hs, hn0, hn0', -getElem?_pos]
  refine HC_of_PC (by simp [views, view, viewC, ownEls, ho, hs]) (smin_ok s (by omega) (by omega)) ?_
  rw [← hm]
  simp -implicitDefEqProofs (disch := omega) [List.getElem?_cons_zero, List.getElem?_cons_succ, wrap_id, f1, f3, -getElem?_pos]
  refine each_hc (n := n) (a := s) (b := s) (f := 63) (F := fun x _ => x - m) (by omega) hs hs (app_some ho _) (app_some ho _) (by kernel_rfl) (fun i hi Z K hK => lec_hc _ _ (by have := hb i; omega) _ (app_some (f1 _) Z) _ hK) ?_
  simp -implicitDefEqProofs (disch := omega) [List.getElem?_cons_zero, List.getElem?_cons_succ, wrap_id]
  refine finH trivial rfl ?_
  have := hK (zpK (fun x _ => x - m) s s n) (.box (.i m))
  simpa using this
set_option maxHeartbeats 2000000 in
theorem equiv_ok {n : Nat} {es : List Ed} (hs : Sm n es) {a b : List Int} (hal : a.length = n) (hbl : b.length = n) {B : Int} (hB : 0 ≤ B ∧ B ≤ 110) (ha : AbsLe B a) (hb : AbsLe B b) : PCR Tryz.prog 9 [G n es, .is a, .is b] (EqR n es a b) := by
  have hn := hs.n5
  have hn1 := hs.n1
  have hM := hs.mg
  have ca := dcheck_zero (by omega) hal (ha.mono (by omega))
  have cb := dcheck_zero (by omega) hbl (hb.mono (by omega))
  refine PCR_of_W cfn9 ?_
  simp -implicitDefEqProofs (disch := omega) [c9, List.getElem?_cons_zero, List.getElem?_cons_succ, wrap_id]
  refine HC_of_PC rfl (given2_ok n es hs.el hs.c a b ca cb (by omega) (by omega)) ?_
  simp -implicitDefEqProofs (disch := omega) [List.getElem?_cons_zero, List.getElem?_cons_succ, wrap_id]
  refine HC_of_PCR rfl (reduce_ok hs (q := 0) (by omega) hal hB ha) ?_
  rintro r HR ⟨x, s, hx, rfl, rfl⟩
  simp -implicitDefEqProofs (disch := omega) [List.getElem?_cons_zero, List.getElem?_cons_succ, wrap_id]
  refine HC_of_PCR rfl (reduce_ok hs (q := 0) (by omega) hbl hB hb) ?_
  rintro r HR ⟨y, t, hy, rfl, rfl⟩
  have hxl := hx.dl
  have hyl := hy.dl
  have hsl := hx.sl
  have htl := hy.sl
  have hsb := hx.sb
  have htb := hy.sb
  simp -implicitDefEqProofs (disch := omega) [List.getElem?_cons_zero, List.getElem?_cons_succ, wrap_id]
  refine HC_of_PC (by simp [views, view, viewC, ownEls, hxl, hyl]) (eq20_ok x y (by omega)) ?_
  by_cases hxy : x = y
  rotate_left
  · simp -implicitDefEqProofs (disch := omega) [List.getElem?_cons_zero, List.getElem?_cons_succ, wrap_id, hxy]
    refine finQ [] trivial rfl rfl rfl rfl (.inr ⟨fun he => hxy ?_, rfl, rfl⟩)
    have h1 := red_unique hM (q := 0) (by omega) hx.red hy.red ((hx.eq.symm.trans he).trans hy.eq)
    refine List.ext_getElem (by omega) fun i h1' h2' => ?_
    have := h1 i (by omega)
    rw [getD_get h1', getD_get h2'] at this
    exact this.symm
  · simp -implicitDefEqProofs (disch := omega) [List.getElem?_cons_zero, List.getElem?_cons_succ, wrap_id, hxy]
    have hzl := zpK_len (fun m k => m - k) s t n
    have hzb : AbsLe 2097152 (zpK (fun m k => m - k) s t n) := fun v => by
      by_cases hv : v < s.length
      · have := zpK_get (fun m k => m - k) s t hv
        rw [hsl] at this
        rw [this]
        have := hsb v
        have := htb v
        omega
      · rw [List.getD_eq_getElem?_getD, List.getElem?_eq_none (by omega)]
        simp
    refine each_hc (n := n) (a := s) (b := t) (f := 32) (F := fun m k => m - k) (by omega) hsl htl rfl rfl (by kernel_rfl) (fun i hi Z K hK => eqc_hc _ _ (by have := hsb i; have := htb i; omega) _ _ hK) ?_
    obtain ⟨z, hz⟩ : ∃ z, z = zpK (fun m k => m - k) s t n := ⟨_, rfl⟩
    rw [← hz] at hzl hzb ⊢
    simp -implicitDefEqProofs (disch := omega) [List.getElem?_cons_zero, List.getElem?_cons_succ, wrap_id]
    refine least_hc (n := n) (s := z) (by omega) (by omega) hzb rfl fun l Z => ?_
    simp -implicitDefEqProofs (disch := omega) [List.getElem?_cons_zero, List.getElem?_cons_succ, wrap_id]
    refine finQ [8] trivial rfl rfl rfl rfl (.inl ⟨?_, l, rfl, rfl⟩)
    subst hxy
    exact hx.eq.trans hy.eq.symm
end Go.Proofs.YtpnbahmhdhjndaaGreat
end
section
set_option linter.unusedVariables false
namespace Go.Sand
/-- Joining over single edges: the classes, and how many single edges join nothing. -/
def gStep (s : (Nat → Nat) × Nat) (p : Int × Int) : (Nat → Nat) × Nat := (joinC s.1 p.1.toNat p.2.toNat, s.2 + if s.1 p.1.toNat = s.1 p.2.toNat then 1 else 0)
def gSt (l : List (Int × Int)) : (Nat → Nat) × Nat := l.foldl gStep (id, 0)
def gFo (l : List (Int × Int)) : List Int := (l.foldl (fun (s : List Int × (Nat → Nat)) p => (s.1.set (max (s.2 p.1.toNat) (s.2 p.2.toNat)) ((min (s.2 p.1.toNat) (s.2 p.2.toNat) : Nat) : Int), joinC s.2 p.1.toNat p.2.toNat)) ((List.range 12).map fun i : Nat => (i : Int), id)).1
theorem gSt_snoc (l : List (Int × Int)) (p : Int × Int) : gSt (l ++ [p]) = gStep (gSt l) p := by simp [gSt, List.foldl_append]
theorem gFo_cls (l : List (Int × Int)) : (l.foldl (fun (s : List Int × (Nat → Nat)) p => (s.1.set (max (s.2 p.1.toNat) (s.2 p.2.toNat)) ((min (s.2 p.1.toNat) (s.2 p.2.toNat) : Nat) : Int), joinC s.2 p.1.toNat p.2.toNat)) ((List.range 12).map fun i : Nat => (i : Int), id)).2 = (gSt l).1 := by
  have key : ∀ (l : List (Int × Int)) (F : List Int) (c : Nat → Nat) (k : Nat), (l.foldl (fun (s : List Int × (Nat → Nat)) p => (s.1.set (max (s.2 p.1.toNat) (s.2 p.2.toNat)) ((min (s.2 p.1.toNat) (s.2 p.2.toNat) : Nat) : Int), joinC s.2 p.1.toNat p.2.toNat)) (F, c)).2 = (l.foldl gStep (c, k)).1 := by
    intro l
    induction l with
    | nil => intro F c k; rfl
    | cons p l ih => intro F c k; rw [List.foldl_cons, List.foldl_cons]; exact ih _ _ _
  exact key l _ _ _
theorem gFo_snoc (l : List (Int × Int)) (p : Int × Int) : gFo (l ++ [p]) = (gFo l).set (max ((gSt l).1 p.1.toNat) ((gSt l).1 p.2.toNat)) ((min ((gSt l).1 p.1.toNat) ((gSt l).1 p.2.toNat) : Nat) : Int) := by
  unfold gFo
  rw [List.foldl_append, List.foldl_cons, List.foldl_nil, gFo_cls]
theorem gSt_forest {n : Nat} (hn : n ≤ 12) : ∀ (l : List (Int × Int)), (∀ p ∈ l, (0 ≤ p.1 ∧ p.1 < n) ∧ 0 ≤ p.2 ∧ p.2 < n) → Forest (gFo l) (gSt l).1 := by
  intro l
  have : ∀ (k : Nat) (l : List (Int × Int)), l.length = k → (∀ p ∈ l, (0 ≤ p.1 ∧ p.1 < n) ∧ 0 ≤ p.2 ∧ p.2 < n) → Forest (gFo l) (gSt l).1 := by
    intro k
    induction k with
    | zero => intro l hl _; rw [List.eq_nil_of_length_eq_zero hl]; exact grown_forest
    | succ k ih =>
      intro l hl h
      have hne : l ≠ [] := by intro e; rw [e] at hl; cases hl
      have e := List.dropLast_concat_getLast hne
      rw [← e] at h ⊢
      have hp := h (l.getLast hne) (by simp)
      have hF := ih l.dropLast (by simp [hl]) fun p hp => h p (by simp [hp])
      rw [gFo_snoc, gSt_snoc]
      exact hF.join (by omega) (by omega)
  exact this l.length l rfl
/-- How many of the first n vertices stand for their class. -/
def rootN (c : Nat → Nat) (n : Nat) : Nat := ((List.range n).filter fun v => decide (c v = v)).length
theorem filter_less {p r : Nat → Bool} {M : Nat} : ∀ {n : Nat}, M < n → p M = true → r M = false → (∀ v, v < n → v ≠ M → r v = p v) → ((List.range n).filter r).length + 1 = ((List.range n).filter p).length
  | 0, h, _, _, _ => by omega
  | n + 1, h, h1, h2, h3 => by
    rw [List.range_succ, List.filter_append, List.filter_append, List.length_append, List.length_append]
    by_cases e : M = n
    · subst e
      have : (List.range M).filter r = (List.range M).filter p := List.filter_congr fun v hv => h3 v (by have := List.mem_range.1 hv; omega) (by have := List.mem_range.1 hv; omega)
      rw [this]
      simp [h1, h2]
    · have ih := filter_less (n := n) (by omega) h1 h2 fun v hv hne => h3 v (by omega) hne
      have : r n = p n := h3 n (by omega) (by omega)
      simp only [List.filter_cons, List.filter_nil, this]
      omega
theorem root_join {F : List Int} {c : Nat → Nat} (h : Forest F c) {n a b : Nat} (hn : n ≤ 12) (ha : a < n) (hb : b < n) : rootN (joinC c a b) n + (if c a = c b then 0 else 1) = rootN c n := by
  obtain ⟨a1, a2⟩ := h.le a (by omega)
  obtain ⟨b1, b2⟩ := h.le b (by omega)
  by_cases e : c a = c b
  · rw [if_pos e]
    have : joinC c a b = c := funext fun v => by unfold joinC; split <;> omega
    rw [this]; rfl
  · rw [if_neg e]
    unfold rootN
    obtain ⟨M, hM⟩ : ∃ M, M = max (c a) (c b) := ⟨_, rfl⟩
    obtain ⟨m, hm⟩ : ∃ m, m = min (c a) (c b) := ⟨_, rfl⟩
    have cM : c M = M := by
      rcases Nat.le_total (c a) (c b) with e | e
      · rw [show M = c b by omega, b2]
      · rw [show M = c a by omega, a2]
    have cm : c m = m := by
      rcases Nat.le_total (c a) (c b) with e | e
      · rw [show m = c a by omega, a2]
      · rw [show m = c b by omega, b2]
    refine filter_less (M := M) (by omega) (by simpa using cM) ?_ fun v hv hne => ?_
    · have : joinC c a b M = m := by rw [joinC, ← hM, ← hm, if_pos cM]
      rw [this]; simp; omega
    · rw [joinC, ← hM, ← hm]
      by_cases hc : c v = M
      · rw [if_pos hc]
        have h1 : ¬ c v = v := by omega
        have h2 : ¬ m = v := fun e2 => by rw [← e2, cm] at hc; omega
        simp [h1, h2]
      · rw [if_neg hc]
theorem gSt_count {n : Nat} (hn : n ≤ 12) : ∀ (k : Nat) (l : List (Int × Int)), l.length = k → (∀ p ∈ l, (0 ≤ p.1 ∧ p.1 < n) ∧ 0 ≤ p.2 ∧ p.2 < n) → (gSt l).2 + n = l.length + rootN (gSt l).1 n := by
  intro k
  induction k with
  | zero =>
    intro l hl _
    rw [List.eq_nil_of_length_eq_zero hl]
    have : ((List.range n).filter fun v => decide (id v = v)) = List.range n := List.filter_eq_self.2 fun v _ => by simp
    have h2 : rootN (gSt []).1 n = n := by show ((List.range n).filter fun v => decide (id v = v)).length = n; rw [this, List.length_range]
    rw [h2]
    rfl
  | succ k ih =>
    intro l hl h
    have hne : l ≠ [] := by intro e; rw [e] at hl; cases hl
    have e := List.dropLast_concat_getLast hne
    rw [← e] at h ⊢
    have hp := h (l.getLast hne) (by simp)
    have hs : ∀ p ∈ l.dropLast, (0 ≤ p.1 ∧ p.1 < n) ∧ 0 ≤ p.2 ∧ p.2 < n := fun p hp => h p (by simp [hp])
    have ih := ih l.dropLast (by simp [hl]) hs
    have hr := root_join (gSt_forest hn l.dropLast hs) hn (a := (l.getLast hne).1.toNat) (b := (l.getLast hne).2.toNat) (by omega) (by omega)
    rw [gSt_snoc, List.length_append]
    simp only [gStep, List.length_singleton]
    split at hr <;> rename_i hh <;> simp only [hh, if_true, if_false] <;> omega
theorem join_twice {F : List Int} {c : Nat → Nat} (h : Forest F c) {a b : Nat} (ha : a < 12) (hb : b < 12) : joinC (joinC c a b) a b = joinC c a b := by
  have e : joinC c a b a = joinC c a b b := by unfold joinC; (repeat' split) <;> omega
  obtain ⟨c', hc'⟩ : ∃ c', c' = joinC c a b := ⟨_, rfl⟩
  rw [← hc'] at e ⊢
  funext v
  unfold joinC
  split <;> omega
theorem gSt_rep {n : Nat} (hn : n ≤ 12) (l : List (Int × Int)) (hl : ∀ p ∈ l, (0 ≤ p.1 ∧ p.1 < n) ∧ 0 ≤ p.2 ∧ p.2 < n) (p : Int × Int) (hp : (0 ≤ p.1 ∧ p.1 < n) ∧ 0 ≤ p.2 ∧ p.2 < n) : ∀ m : Nat, (gSt (l ++ List.replicate (m + 1) p)).1 = joinC (gSt l).1 p.1.toNat p.2.toNat := by
  intro m
  induction m with
  | zero => rw [show List.replicate (0 + 1) p = [p] from rfl, gSt_snoc]; rfl
  | succ m ih =>
    rw [List.replicate_succ' , ← List.append_assoc, gSt_snoc]
    show joinC _ _ _ = _
    rw [ih]
    exact join_twice (gSt_forest hn l hl) (by omega) (by omega)
theorem gSt_ends {n : Nat} (hn : n ≤ 12) {es : List Ed} (hr : ∀ x ∈ es, Right n x) : ∀ k, k ≤ es.length → (gSt (endsL (es.take k))).1 = (ufJ (es.take k)).2
  | 0, _ => rfl
  | k + 1, hk => by
    have ih := gSt_ends hn hr k (by omega)
    have r := hr _ (List.getElem_mem (by omega : k < es.length))
    have h1 := r.a0
    have h2 := r.an
    have h3 := r.b0
    have h4 := r.bn
    have h5 := r.m1
    have hin : ∀ p ∈ endsL (es.take k), (0 ≤ p.1 ∧ p.1 < (n : Int)) ∧ 0 ≤ p.2 ∧ p.2 < (n : Int) := fun p hp => by
      simp only [endsL, List.mem_flatMap, List.mem_replicate] at hp
      obtain ⟨x, hx, _, rfl⟩ := hp
      have r := hr x (List.mem_of_mem_take hx)
      exact ⟨⟨r.a0, r.an⟩, r.b0, r.bn⟩
    obtain ⟨m, hm⟩ : ∃ m, es[k].m.toNat = m + 1 := ⟨es[k].m.toNat - 1, by omega⟩
    rw [endsL_snoc es k (by omega), ufJ_snoc es k (by omega), hm, gSt_rep hn _ hin (es[k].a, es[k].b) ⟨⟨h1, h2⟩, h3, h4⟩, ih]
def genI (N : Int) (es : List Ed) : Int := ((endsL es).length : Int) - N + partsN es N.toNat
theorem gSt_gen {n : Nat} (hn : n ≤ 12) {es : List Ed} (hr : ∀ x ∈ es, Right n x) : ((gSt (endsL es)).2 : Int) = genI n es := by
  have hin : ∀ p ∈ endsL es, (0 ≤ p.1 ∧ p.1 < (n : Int)) ∧ 0 ≤ p.2 ∧ p.2 < (n : Int) := fun p hp => by
    simp only [endsL, List.mem_flatMap, List.mem_replicate] at hp
    obtain ⟨x, hx, _, rfl⟩ := hp
    have r := hr x hx
    exact ⟨⟨r.a0, r.an⟩, r.b0, r.bn⟩
  have h1 := gSt_count hn _ (endsL es) rfl hin
  have h2 := gSt_ends hn hr es.length (Nat.le_refl _)
  rw [List.take_length] at h2
  have h3 : rootN (gSt (endsL es)).1 n = partsN es n := by rw [h2]; rfl
  rw [genI, Int.toNat_natCast]
  omega
end Go.Sand
end
section
set_option linter.unusedSimpArgs false
set_option linter.unusedVariables false
namespace Go.Proofs.YtpnbahmhdhjndaaGreat
open Go.Abs Go.Sand
attribute [local simp ↓ 10000] putA_ints
theorem F_view (H : List AO) : ∀ F : List Int, viewL H ((F.map PV.i).map AV.p) = some (F.map PV.i)
  | [] => rfl
  | x :: F => by
    show viewL H (.p (.i x) :: (F.map PV.i).map AV.p) = _
    rw [viewL, F_view H F]; rfl
theorem groot_ok {e : Bool} {F : List Int} {c : Nat → Nat} {H : List AO} {o : Nat} {R : AV → List AO → Prop} (hF : Forest F c) (ho : H[o]? = some (boxF F)) (v : Nat) (hv : v < 12) (hR : R (.i (c v)) H) : HC Tryz.prog e 88 [.ptr o 1 0 0, .i v] H R := by
  have hview : view H (.agg (AV.p (.agg (F.map PV.i))).flat) = some (.agg (F.map PV.i)) := by
    show (match viewL H ((F.map PV.i).map AV.p) with
      | some m => if m.all (·.one) then some (PV.agg m) else none
      | none => none) = _
    rw [F_view]
    dsimp only
    rw [if_pos]
    refine List.all_eq_true.2 fun e he => ?_
    obtain ⟨x, _, rfl⟩ := List.mem_map.1 he
    rfl
  refine HC_ptr (rest := [.i v]) (ps := F.map PV.i) (x := .int .i64 (c v)) cfn88 ho hview ?_ hR
  simp -implicitDefEqProofs (disch := omega) [c88, List.getElem?_cons_zero, List.getElem?_cons_succ, wrap_id]
  refine loopW v (fun k s => ∃ u : Nat, s = ⟨[(1, .i u), (0, .sp (.agg (F.map PV.i)) 0), (4, .i 0)], []⟩ ∧ u + k ≤ v ∧ c u = c v) (Wk_keep [1, 0, 4]) ⟨v, rfl, by omega, rfl⟩ ?_
  rintro k s hk ⟨u, rfl, huk, hc⟩
  obtain ⟨p, h1, h2, h3, h4⟩ := hF.par u (by omega)
  have hg := get_F h1
  have hu : u < 12 := by omega
  by_cases e : p = u
  · have hcu := h4 e
    subst e
    have hcv : c v = p := by rw [← hc, hcu]
    simp -implicitDefEqProofs (disch := omega) [List.getElem?_cons_zero, List.getElem?_cons_succ, wrap_id, hg, hu]
    (refine fin0 trivial rfl ?_; simp -implicitDefEqProofs (disch := omega) [List.getElem?_cons_zero, List.getElem?_cons_succ, idx, wrap_id, hcv])
  · have e' : ¬ ((p : Int) = (u : Int)) := by omega
    simp -implicitDefEqProofs (disch := omega) [List.getElem?_cons_zero, List.getElem?_cons_succ, wrap_id, hg, hu, e']
    exact round_keep [1, 0, 4] (by omega) ⟨p, rfl, by omega, by rw [h3]; exact hc⟩
/-- The objects while the genus is counted. -/
abbrev genH (N : Int) (es : List Ed) (lp : AO) (L : List (Int × Int)) (T : List AO) : List AO := .box (.p (G N es)) :: boxF (gFo L) :: .box (.p (.i (gSt L).2)) :: .box (.p (G N es)) :: lp :: T
theorem gen_range (n : Nat) (es : List Ed) (hn : n ≤ 12) (hg : ∀ x ∈ es, Right n x) (he : es.length ≤ 1000) (t : List (Nat × AV)) (ht5 : Abs.get t 5 = .ptr 1 1 0 0) (ht7 : Abs.get t 7 = .ptr 2 1 0 0) (hf : loT 5 t = true) {K : AV → List AO → Prop}
    (hK : ∀ r, K r (genH n es (.lp 47 t [26, 27] rc53_0a rc53_0c .ready) (endsL es) [])) :
    HC Tryz.prog false 115 [.yl 4, .ptr 3 1 0 0] (genH n es (.lp 47 t [26, 27] rc53_0a rc53_0c .ready) [] []) K := by
  have hlp : ∀ H, AO.ren H (Abs.idx [0, 1, 2, 3, 4] 0) (.lp 47 t [26, 27] rc53_0a rc53_0c .ready) = .lp 47 t [26, 27] rc53_0a rc53_0c .ready := fun H => lp_ren hf (by decide)
  have hlp5 : ∀ H, AO.ren H (Abs.idx [0, 1, 2, 3, 4, 5] 0) (.lp 47 t [26, 27] rc53_0a rc53_0c .ready) = .lp 47 t [26, 27] rc53_0a rc53_0c .ready := fun H => lp_ren hf (by decide)
  refine HC_of_W (af := _) ((by exact cfn115 : cfn _ _ _ = some _)) ?_
  simp -implicitDefEqProofs (disch := omega) [c115, List.getElem?_cons_zero, List.getElem?_cons_succ, wrap_id]
  refine loopS es.length (fun k s => s = ⟨[(9, .i k), (8, .i es.length), (7, .p (.sl (es.map edP))), (3, .i (endsL (es.take k)).length), (0, .yl 4), (1, .ptr 3 1 0 0)], genH n es (.lp 47 t [26, 27] rc53_0a rc53_0c .ready) (endsL (es.take k)) []⟩)
    [0, 1, 2, 3, 4] [9, 8, 7, 3, 0, 1] rfl (by simp -implicitDefEqProofs [-AO.ren, norm, renH, ren_box, ren_fbx, ren_row, ren_tab, ren_dict, Abs.get, AV.ren, idx_at, idx_at0, hlp, show endsL [] = [] from rfl]) ?_
  rintro k s hk rfl
  have hL := endsL_take_len hg he k
  by_cases hlt : k < es.length
  · have hr := hg es[k] (List.getElem_mem hlt)
    obtain ⟨m, hm⟩ : ∃ m : Nat, es[k].m = m := ⟨es[k].m.toNat, by have := hr.m1; omega⟩
    have hm50 : m ≤ 50 := by have := hr.m50; omega
    simp -implicitDefEqProofs (disch := omega) [List.getElem?_cons_zero, List.getElem?_cons_succ, wrap_id, hlt, hm]
    refine loopS m (fun j s => s = ⟨[(15, .i j), (14, .i m), (5, .ptr 5 1 0 0), (9, .i k), (8, .i es.length), (7, .p (.sl (es.map edP))), (3, .i ((endsL (es.take k)).length + j : Nat)), (0, .yl 4), (1, .ptr 3 1 0 0)], genH n es (.lp 47 t [26, 27] rc53_0a rc53_0c .ready) (endsL (es.take k) ++ List.replicate j (es[k].a, es[k].b)) [.box (.p (edP es[k]))]⟩)
      [0, 1, 2, 3, 4, 5] [15, 14, 5, 9, 8, 7, 3, 0, 1] rfl (by simp -implicitDefEqProofs [-AO.ren, norm, renH, ren_box, ren_fbx, ren_row, ren_tab, ren_dict, Abs.get, AV.ren, idx_at, idx_at0, hlp5, hm, genH]) ?_
    rintro j s hj rfl
    by_cases hlj : j < m
    · have hL2 : (endsL (es.take k)).length + (j + 1) ≤ 1048576 := by omega
      have h1 := hr.a0
      have h2 := hr.an
      have h3 := hr.b0
      have h4 := hr.bn
      obtain ⟨a, ha⟩ : ∃ a : Nat, es[k].a = a := ⟨es[k].a.toNat, by omega⟩
      obtain ⟨b, hb⟩ : ∃ b : Nat, es[k].b = b := ⟨es[k].b.toNat, by omega⟩
      have hsn : endsL (es.take k) ++ List.replicate (j + 1) ((a : Int), (b : Int)) = endsL (es.take k) ++ List.replicate j ((a : Int), (b : Int)) ++ [((a : Int), (b : Int))] := by rw [List.replicate_succ', List.append_assoc]
      rw [ha, hb]
      obtain ⟨L, hLd⟩ : ∃ L, L = endsL (es.take k) ++ List.replicate j ((a : Int), (b : Int)) := ⟨_, rfl⟩
      rw [← hLd] at hsn ⊢
      have hLin : ∀ p ∈ L, (0 ≤ p.1 ∧ p.1 < (n : Int)) ∧ 0 ≤ p.2 ∧ p.2 < (n : Int) := fun p hp => by
        rw [hLd] at hp
        rcases List.mem_append.1 hp with hp | hp
        · simp only [endsL, List.mem_flatMap, List.mem_replicate] at hp
          obtain ⟨x, hx, _, rfl⟩ := hp
          have r := hg x (List.mem_of_mem_take hx)
          exact ⟨⟨r.a0, r.an⟩, r.b0, r.bn⟩
        · rw [List.eq_of_mem_replicate hp]
          exact ⟨⟨by omega, by omega⟩, by omega, by omega⟩
      have hF := gSt_forest hn L hLin
      have hFl := hF.len
      have hcnt := gSt_count hn _ L rfl hLin
      have hroot : rootN (gSt L).1 n ≤ n := by unfold rootN; have := List.length_filter_le (fun v => decide ((gSt L).1 v = v)) (List.range n); simpa using this
      have hLl : L.length ≤ 60000 := by rw [hLd, List.length_append, List.length_replicate]; omega
      have hg6 : (gSt L).2 ≤ 60000 := by omega
      have e1 := gFo_snoc L ((a : Int), (b : Int))
      have e2 : (gSt (L ++ [((a : Int), (b : Int))])).2 = (gSt L).2 + if (gSt L).1 a = (gSt L).1 b then 1 else 0 := by rw [gSt_snoc]; rfl
      simp only [Int.toNat_natCast] at e1
      obtain ⟨c, hc⟩ : ∃ c, c = (gSt L).1 := ⟨_, rfl⟩
      obtain ⟨F, hFd⟩ : ∃ F, F = gFo L := ⟨_, rfl⟩
      obtain ⟨g, hgd⟩ : ∃ g, g = (gSt L).2 := ⟨_, rfl⟩
      rw [← hc, ← hFd] at hF e1
      rw [← hc, ← hgd] at e2
      rw [← hFd] at hFl
      rw [← hgd] at hg6
      rw [genH, ← hFd, ← hgd]
      obtain ⟨a1, _⟩ := hF.le a (by omega)
      obtain ⟨b1, _⟩ := hF.le b (by omega)
      have m1 : max (c a : Int) (c b) = ((max (c a) (c b) : Nat) : Int) := by omega
      have m2 : min (c a : Int) (c b) = ((min (c a) (c b) : Nat) : Int) := by omega
      obtain ⟨M, hM⟩ : ∃ M, M = max (c a) (c b) := ⟨_, rfl⟩
      rw [← hM] at m1 e1
      have hM12 : M < 12 := by omega
      have hset : (F.set M ((min (c a) (c b) : Nat) : Int)) = gFo (L ++ [((a : Int), (b : Int))]) := e1.symm
      simp -implicitDefEqProofs (disch := omega) [List.getElem?_cons_zero, List.getElem?_cons_succ, wrap_id, hlj, ha, hb]
      refine HY_of_W rfl rcc53_0a rcc53_0c rfl rfl rfl rfl ?_
      simp -implicitDefEqProofs (disch := omega) [List.getElem?_cons_zero, List.getElem?_cons_succ, wrap_id, ra53_0a, ra53_0c, ht5, ht7, hL2]
      refine groot_ok hF (o := 1) rfl a (by omega) ?_
      simp -implicitDefEqProofs (disch := omega) [List.getElem?_cons_zero, List.getElem?_cons_succ, wrap_id, ht5, ht7]
      refine groot_ok hF (o := 1) rfl b (by omega) ?_
      by_cases hab : c a = c b
      · have hab' : ((c a : Nat) : Int) = c b := by omega
        rw [if_pos hab] at e2
        have hMb : M = c b := by omega
        have hmb : min (c a) (c b) = c b := by omega
        have hcb : c b < 12 := by omega
        rw [hMb, hmb] at e1
        simp -implicitDefEqProofs (disch := omega) [List.getElem?_cons_zero, List.getElem?_cons_succ, wrap_id, ht5, ht7, hab', hcb, hFl]
        exact round_end [0, 1, 2, 3, 4, 5] [15, 14, 5, 9, 8, 7, 3, 0, 1] hlj rfl (by simp -implicitDefEqProofs [-AO.ren, norm, renH, ren_box, ren_fbx, ren_row, ren_tab, ren_dict, Abs.get, AV.ren, idx_at, idx_at0, hlp5, genH, hsn, e1, e2, List.map_set, Int.add_assoc])
      · have hab' : ¬ ((c a : Nat) : Int) = c b := by omega
        rw [if_neg hab, Nat.add_zero] at e2
        simp -implicitDefEqProofs (disch := omega) [List.getElem?_cons_zero, List.getElem?_cons_succ, wrap_id, ht5, ht7, hab', m1, m2, hM12, hFl]
        exact round_end [0, 1, 2, 3, 4, 5] [15, 14, 5, 9, 8, 7, 3, 0, 1] hlj rfl (by simp -implicitDefEqProofs [-AO.ren, norm, renH, ren_box, ren_fbx, ren_row, ren_tab, ren_dict, Abs.get, AV.ren, idx_at, idx_at0, hlp5, genH, hsn, e1, e2, List.map_set, Int.add_assoc])
    · have hjm : j = m := by omega
      subst hjm
      have hs := endsL_snoc es k hlt
      rw [hm, Int.toNat_natCast] at hs
      simp -implicitDefEqProofs (disch := omega) [List.getElem?_cons_zero, List.getElem?_cons_succ, wrap_id]
      exact round_end [0, 1, 2, 3, 4] [9, 8, 7, 3, 0, 1] hlt rfl (by simp -implicitDefEqProofs [-AO.ren, norm, renH, ren_box, ren_fbx, ren_row, ren_tab, ren_dict, Abs.get, AV.ren, idx_at, idx_at0, hlp, hs, genH])
  · have hk : k = es.length := by omega
    subst hk
    rw [List.take_length]
    simp -implicitDefEqProofs (disch := omega) [List.getElem?_cons_zero, List.getElem?_cons_succ, wrap_id]
    exact finH trivial rfl (hK _)
theorem ggenus_ok (N : Int) (es : List Ed) (hel : es.length ≤ 900) : PC Tryz.prog 53 [G N es] (.tup [.i (if gcheck N es = 0 then genI N es else 0), .i (gcheck N es)]) [] := by
  refine PC_of_W cfn53 ?_
  simp -implicitDefEqProofs (disch := omega) [c53, List.getElem?_cons_zero, List.getElem?_cons_succ, wrap_id]
  refine HC_of_PC rfl (gcheck_ok' N es (by omega)) ?_
  by_cases hgc : gcheck N es = 0
  rotate_left
  · simp -implicitDefEqProofs (disch := omega) [List.getElem?_cons_zero, List.getElem?_cons_succ, wrap_id, hgc]
    (refine fin0 trivial rfl ?_; simp -implicitDefEqProofs (disch := omega) [List.getElem?_cons_zero, List.getElem?_cons_succ, idx, wrap_id, hgc])
  have hg := gcheck_ok hgc
  have hn1 := hg.n1
  have hn12 := hg.n12
  obtain ⟨n, rfl⟩ : ∃ n : Nat, N = n := ⟨N.toNat, by omega⟩
  have hn : n ≤ 12 := by omega
  simp -implicitDefEqProofs (disch := omega) [List.getElem?_cons_zero, List.getElem?_cons_succ, wrap_id, hgc]
  refine loopW 12 (fun k s => s = ⟨[(17, .i k), (5, .ptr 1 1 0 0), (1, .ptr 0 1 0 0)], [.box (.p (G n es)), boxF (gF k)]⟩) (wk_norm [0, 1] [17, 5, 1] rfl rfl) rfl ?_
  rintro k s hk rfl
  by_cases hlt : k < 12
  · have hl : (gF k).length = 12 := by simp [gF]
    have hs := congrArg (List.map PV.i) (gF_set k hlt)
    rw [List.map_set] at hs
    have hlt' : (k : Int) < 12 := by omega
    simp -implicitDefEqProofs (disch := omega) [List.getElem?_cons_zero, List.getElem?_cons_succ, wrap_id, hlt', hlt, hl, hs]
    exact round_end [0, 1] [17, 5, 1] hlt rfl rfl
  · have hk12 : k = 12 := by omega
    subst hk12
    simp -implicitDefEqProofs (disch := omega) [List.getElem?_cons_zero, List.getElem?_cons_succ, wrap_id]
    refine HC_of_PC rfl (singles_ok n es) ?_
    simp -implicitDefEqProofs (disch := omega) [List.getElem?_cons_zero, List.getElem?_cons_succ, wrap_id]
    have hgen := gSt_gen hn hg.right
    refine ⟨by kernel_rfl, gen_range n es hn hg.right (by omega) _ rfl rfl rfl fun r => AfterR_ready rfl ?_⟩
    simp -implicitDefEqProofs (disch := omega) [List.getElem?_cons_zero, List.getElem?_cons_succ, wrap_id]
    (refine fin0 trivial rfl ?_; simp -implicitDefEqProofs (disch := omega) [List.getElem?_cons_zero, List.getElem?_cons_succ, idx, wrap_id, hgc, hgen])
end Go.Proofs.YtpnbahmhdhjndaaGreat
end
section
set_option linter.unusedSimpArgs false
set_option linter.unusedVariables false
namespace Go.Proofs.YtpnbahmhdhjndaaGreat
open Go.Abs Go.Sand
theorem gloop_zero {n : Int} : ∀ {es : List Ed} {la lb : Int}, (∀ x ∈ es, Right n x) → es.Pairwise ltE → (∀ x ∈ es, la < x.a ∨ la = x.a ∧ lb < x.b) → gloop n es la lb = 0
  | [], la, lb, _, _, _ => rfl
  | x :: es, la, lb, hr, hp, hb => by
    have r := hr x (by simp)
    have h1 := hb x (by simp)
    have e : edgeErr n la lb x = 0 := by
      unfold edgeErr
      have v1 : vtx n x.a = true := vtx_iff.2 ⟨r.a0, r.an⟩
      have v2 : vtx n x.b = true := vtx_iff.2 ⟨r.b0, r.bn⟩
      have b1 : behind la lb x.a x.b = true := by simp [behind]; omega
      rw [v1, v2, b1, if_neg (by have := r.m1; have := r.m50; simp; omega), if_neg (by have := r.ab; simp; omega)]
    rw [gloop, if_neg (by simp [e])]
    exact gloop_zero (fun y hy => hr y (by simp [hy])) (List.pairwise_cons.1 hp).2 fun y hy => by
      have := (List.pairwise_cons.1 hp).1 y hy
      unfold ltE at this
      omega
theorem gcheck_mk {n : Int} {es : List Ed} (h : GoodG n es) : gcheck n es = 0 := by
  rw [gcheck, if_neg (by have := h.n1; have := h.n12; omega)]
  exact gloop_zero h.right h.asc fun x hx => by have := (h.right x hx).a0; omega
/-- The edges that are no loops. -/
def llE (es : List Ed) : List Ed := es.filter fun x => decide (x.a ≠ x.b)
theorem llE_good {n : Int} {es : List Ed} (h : GoodG n es) : GoodG n (llE es) :=
  ⟨h.n1, h.n12, fun x hx => h.right x (List.mem_filter.1 hx).1, h.asc.filter _⟩
theorem llE_len (es : List Ed) : (llE es).length ≤ es.length := List.length_filter_le _ _
theorem llE_snoc (es : List Ed) (x : Ed) : llE (es ++ [x]) = llE es ++ if x.a ≠ x.b then [x] else [] := by
  unfold llE
  rw [List.filter_append]
  congr 1
  by_cases h : x.a = x.b <;> simp [h]
theorem endsL_cons (x : Ed) (es : List Ed) : endsL (x :: es) = List.replicate x.m.toNat (x.a, x.b) ++ endsL es := by simp [endsL]
/-- Twice the single edges that are no loops, counted at their ends. -/
theorem val_twice {n : Nat} : ∀ {es : List Ed}, (∀ x ∈ es, Right n x) → sumN (fun v : Nat => valS es v) n = 2 * ((endsL (llE es)).length : Int)
  | [], _ => by
    have : sumN (fun v : Nat => valS [] v) n = 0 := by
      rw [show (fun v : Nat => valS [] v) = fun _ => (0 : Int) from funext fun v => by simp [valS, sumI]]
      exact sumN_zero n
    rw [this]; simp [llE, endsL]
  | x :: es, hr => by
    have ih := val_twice (es := es) fun y hy => hr y (by simp [hy])
    have r := hr x (by simp)
    have e1 : (fun v : Nat => valS (x :: es) v) = fun v : Nat => val1 v x + valS es v := funext fun v => by simp [valS, sumI]
    rw [e1, sumN_add, ih]
    obtain ⟨a, ha⟩ : ∃ a : Nat, x.a = a := ⟨x.a.toNat, by have := r.a0; omega⟩
    obtain ⟨b, hb⟩ : ∃ b : Nat, x.b = b := ⟨x.b.toNat, by have := r.b0; omega⟩
    have han : a < n := by have := r.an; omega
    have hbn : b < n := by have := r.bn; omega
    have hm := r.m1
    by_cases hab : x.a = x.b
    · have e2 : sumN (fun v : Nat => val1 v x) n = 0 := by
        rw [show (fun v : Nat => val1 v x) = fun _ => (0 : Int) from funext fun v => by simp [val1, hab]]
        exact sumN_zero n
      have e3 : llE (x :: es) = llE es := by simp [llE, hab]
      rw [e2, e3]; omega
    · have e2 : sumN (fun v : Nat => val1 v x) n = 2 * x.m := by
        have : (fun v : Nat => val1 v x) = fun v : Nat => (if v = a then x.m else 0) + if v = b then x.m else 0 := funext fun v => by
          unfold val1
          by_cases h1 : v = a
          · have h2 : ¬ v = b := by omega
            rw [if_pos h1, if_neg h2, if_pos ⟨hab, by omega⟩]; omega
          · by_cases h2 : v = b
            · rw [if_neg h1, if_pos h2, if_pos ⟨hab, by omega⟩]; omega
            · rw [if_neg h1, if_neg h2, if_neg (by omega)]; rfl
        rw [this, sumN_add, sumN_one, sumN_one, if_pos han, if_pos hbn]; omega
      have e3 : llE (x :: es) = x :: llE es := by simp [llE, hab]
      rw [e2, e3, endsL_cons, List.length_append, List.length_replicate]
      push_cast
      omega
theorem val_twice' {n : Nat} {es : List Ed} (hg : GoodG n es) : sumN (fun v : Nat => valTo es v n) n = 2 * ((endsL (llE es)).length : Int) := by
  rw [← val_twice hg.right]
  exact sumN_congr fun v hv => valTo_all hg.right hg.asc v ⟨by omega, by omega⟩
end Go.Proofs.YtpnbahmhdhjndaaGreat
end
