/-
  Texts joined: Rp Rq Rr.
-/
import Derived.Test.YtpnbahmhdhjndaaGreatKd26

section
set_option linter.unusedSimpArgs false
set_option linter.unusedVariables false
namespace Go.Proofs.YtpnbahmhdhjndaaGreat
open Go.Abs Go.Sand
def neB (x : Int) : Bool := decide (x ≠ 0)
theorem dropAny {α : Type} (p : α → Bool) (xs : List α) (k : Nat) (h : k < xs.length) : (xs.drop k).any p = (p xs[k] || (xs.drop (k + 1)).any p) := by
  rw [List.drop_eq_getElem_cons h, List.any_cons]
theorem pne_ok (x : Int) : PC Tryz.prog 35 [.i x] (.b (neB x)) [] := by
  refine PC_of_W cfn35 ?_
  simp -implicitDefEqProofs (disch := omega) [c35, List.getElem?_cons_zero, List.getElem?_cons_succ, wrap_id]
  by_cases h : x = 0
  · (refine fin0 trivial rfl ?_; simp -implicitDefEqProofs (disch := omega) [List.getElem?_cons_zero, List.getElem?_cons_succ, idx, wrap_id, neB, h])
  · (refine fin0 trivial rfl ?_; simp -implicitDefEqProofs (disch := omega) [List.getElem?_cons_zero, List.getElem?_cons_succ, idx, wrap_id, neB, h])
theorem idxp_hc {n : Nat} (hn : n ≤ 12) {xs : List Int} (hl : xs.length = n) {H : List AO} {o : Nat} (ho : H[o]? = some (rowZ xs)) {R : AV → List AO → Prop} (hR : ∀ i : Int, (0 ≤ i ↔ xs.any neB = true) → R (.i i) H) :
    HC Tryz.prog false 64 [.os o 0 n, .fn (.func 35) [] []] H R := by
  have ho' : H[o]? = some (.row (xs.map PV.i) 1 3 false) := ho
  refine HC_of_W (af := _) ((by exact cfn64 : cfn _ _ _ = some _)) ?_
  simp -implicitDefEqProofs (disch := omega) [c64, List.getElem?_cons_zero, List.getElem?_cons_succ, wrap_id, ho', hl, -getElem?_pos]
  refine loopW n (fun k s => s = ⟨[(8, .i k), (7, .i n), (6, .os o 0 n), (0, .os o 0 n), (1, .fn (.func 35) [] [])], H⟩ ∧ xs.any neB = (xs.drop k).any neB) (Wk_keep [8, 7, 6, 0, 1]) ⟨rfl, rfl⟩ ?_
  rintro k s hk ⟨rfl, hI⟩
  by_cases hlt : k < n
  · have hkl : k < xs.length := by omega
    have hd := dropAny neB xs k hkl
    have hkx : xs[k]? = some xs[k] := List.getElem?_eq_getElem hkl
    simp -implicitDefEqProofs (disch := omega) [List.getElem?_cons_zero, List.getElem?_cons_succ, wrap_id, hlt, hl, hkl, hkx, ho', -getElem?_pos]
    refine ⟨by kernel_rfl, ?_⟩
    refine HC_of_PC rfl (pne_ok xs[k]) ?_
    cases hv : neB xs[k]
    · rw [hv] at hd
      simp -implicitDefEqProofs (disch := omega) [List.getElem?_cons_zero, List.getElem?_cons_succ, wrap_id]
      exact round_keep [8, 7, 6, 0, 1] hlt ⟨rfl, by rw [hI, hd]; rfl⟩
    · rw [hv] at hd
      simp -implicitDefEqProofs (disch := omega) [List.getElem?_cons_zero, List.getElem?_cons_succ, wrap_id]
      exact finH trivial rfl (hR _ (by rw [hI, hd]; simp))
  · simp -implicitDefEqProofs (disch := omega) [List.getElem?_cons_zero, List.getElem?_cons_succ, wrap_id, hlt]
    exact finH trivial rfl (hR _ (by rw [hI, List.drop_of_length_le (by omega)]; simp))
theorem hasp_hc {n : Nat} (hn : n ≤ 12) {xs : List Int} (hl : xs.length = n) {H : List AO} {o : Nat} (ho : H[o]? = some (rowZ xs)) {R : AV → List AO → Prop} (hR : R (.b (xs.any neB)) H) :
    HC Tryz.prog false 34 [.os o 0 n, .fn (.func 35) [] []] H R := by
  refine HC_of_W (af := _) ((by exact cfn34 : cfn _ _ _ = some _)) ?_
  simp -implicitDefEqProofs (disch := omega) [c34, List.getElem?_cons_zero, List.getElem?_cons_succ, wrap_id]
  refine idxp_hc hn hl ho fun i hi => ?_
  by_cases h : 0 ≤ i
  · have hv := hi.1 h
    rw [hv] at hR
    simp -implicitDefEqProofs (disch := omega) [List.getElem?_cons_zero, List.getElem?_cons_succ, wrap_id, h]
    exact finH trivial rfl hR
  · have hv : xs.any neB = false := by cases hq : xs.any neB; rfl; exact absurd (hi.2 hq) h
    rw [hv] at hR
    simp -implicitDefEqProofs (disch := omega) [List.getElem?_cons_zero, List.getElem?_cons_succ, wrap_id, h]
    exact finH trivial rfl hR
section
variable {n : Nat} {es : List Ed} (hs : Sm n es)
include hs
/-- What Principal leaves. -/
def PrinR (n : Nat) (es : List Ed) (d : List Int) (r : AV) (HR : List AO) : Prop := ∃ b : Bool, (b = true ↔ Equi n (joinE es) (fun v => d.getD v 0) (fun _ => 0)) ∧ r = .tup [.b b, .i 0] ∧ HR = []
theorem zero_red : RedF n (joinE es) 0 (fun _ => 0) := by
  have hM := hs.mg
  have hn1 := hs.n1
  refine ⟨fun v _ _ => Int.le_refl 0, fun A h0 ⟨v, hv, hA⟩ => ?_⟩
  obtain ⟨u, w, hu, hw, hAu, hAw, hJ⟩ := hM.conn A v 0 hv (by omega) hA h0
  refine ⟨u, hu, hAu, ?_⟩
  have h1 := (eff_le (n := n) (D := fun x => if A x = true then 0 else joinE es u x) fun x _ => by (try dsimp only); have := hM.nn u x; split <;> omega).2 w hw
  (try dsimp only at h1)
  rw [if_neg (by simp [hAw])] at h1
  unfold outF
  (try dsimp only)
  omega
theorem prin_ok {d : List Int} (hdl : d.length = n) (hdb : AbsLe 110 d) : PCR Tryz.prog 10 [G n es, .is d] (PrinR n es d) := by
  have hn1 := hs.n1
  have hn5 := hs.n5
  refine PCR_of_W cfn10 ?_
  simp -implicitDefEqProofs (disch := omega) [c10, List.getElem?_cons_zero, List.getElem?_cons_succ, wrap_id]
  refine HC_of_PCR rfl (normal_ok hs hdl hdb) ?_
  rintro r HR ⟨x, s, hx, rfl, rfl⟩
  have hxl := hx.dl
  simp -implicitDefEqProofs (disch := omega) [List.getElem?_cons_zero, List.getElem?_cons_succ, wrap_id]
  refine hasp_hc (n := n) (by omega) hxl rfl ?_
  simp -implicitDefEqProofs (disch := omega) [List.getElem?_cons_zero, List.getElem?_cons_succ, wrap_id]
  refine finQ [] trivial rfl rfl rfl rfl ⟨!x.any neB, ?_, rfl, rfl⟩
  have hM := hs.mg
  have h1 : (!x.any neB) = true ↔ ∀ v, v < n → x.getD v 0 = 0 := by
    rw [Bool.not_eq_true', List.any_eq_false]
    constructor
    · intro h v hv
      have := h _ (List.getElem_mem (show v < x.length by omega))
      rw [getD_get (by omega)]
      simpa [neB] using this
    · intro h y hy
      obtain ⟨v, hv, rfl⟩ := List.mem_iff_getElem.1 hy
      have := h v (by omega)
      rw [getD_get hv] at this
      simp [neB, this]
  rw [h1]
  constructor
  · intro h
    exact hx.eq.trans (Equi.of_eq fun v hv => (h v hv).symm)
  · intro h v hv
    exact (red_unique hM (q := 0) (by omega) hx.red (zero_red hs) (hx.eq.symm.trans h) v hv).symm
end
end Go.Proofs.YtpnbahmhdhjndaaGreat
end
section
set_option linter.unusedSimpArgs false
set_option linter.unusedVariables false
namespace Go.Proofs.YtpnbahmhdhjndaaGreat
open Go.Abs Go.Sand
section
variable {n : Nat} {es : List Ed} (hs : Sm n es)
include hs
/-- What Balance leaves. -/
def BalR (n : Nat) (es : List Ed) (d : List Int) (r : AV) (HR : List AO) : Prop := ∃ k k' : Int, RankIs n (joinE es) (fun v => d.getD v 0) k ∧ RankIs n (joinE es) (fun v => (subL (canL n es) d).getD v 0) k' ∧ r = .tup [.i (k - k'), .i 0] ∧ HR = []
theorem bal_ok {d : List Int} (hdl : d.length = n) (hdb : AbsLe 110 d) (hkb : AbsLe 110 (subL (canL n es) d)) : PCR Tryz.prog 21 [G n es, .is d] (BalR n es d) := by
  have hsl := subL_len (canL n es) d
  rw [canL_len] at hsl
  refine PCR_of_W cfn21 ?_
  simp -implicitDefEqProofs (disch := omega) [c21, List.getElem?_cons_zero, List.getElem?_cons_succ, wrap_id]
  refine HC_of_PC rfl (resid_ok hs hdl hdb) ?_
  simp -implicitDefEqProofs (disch := omega) [List.getElem?_cons_zero, List.getElem?_cons_succ, wrap_id]
  refine HC_of_PCR rfl (rank_ok hs hdl hdb) ?_
  rintro r HR ⟨k, hk, hkr, rfl, rfl⟩
  simp -implicitDefEqProofs (disch := omega) [List.getElem?_cons_zero, List.getElem?_cons_succ, wrap_id]
  refine HC_of_PCR rfl (rank_ok hs hsl hkb) ?_
  rintro r HR ⟨k', hk', hkr', rfl, rfl⟩
  simp -implicitDefEqProofs (disch := omega) [List.getElem?_cons_zero, List.getElem?_cons_succ, wrap_id, hk, hk']
  exact finQ [] trivial rfl rfl rfl rfl ⟨k, k', hkr, hkr', rfl, rfl⟩
end
/-- Two vertices with three edges. -/
def ban : List Ed := [⟨0, 1, 3⟩]
theorem ban_conn : connE (2 : Nat) ban = 0 := by decide
theorem ban_sm : Sm 2 ban := ⟨ban_conn, by decide, by decide, by decide⟩
theorem ban_can : canL 2 ban = [1, 1] := by decide
theorem ban_gen : genE 2 ban = 2 := by decide
theorem ban_kan : sumN (kanF 2 (joinE ban)) 2 = 2 * 2 - 2 := by rw [gen_kan ban_sm, ban_gen]
theorem ban_j : joinE ban 0 1 = 3 ∧ joinE ban 1 0 = 3 ∧ joinE ban 0 0 = 0 ∧ joinE ban 1 1 = 0 := by decide
theorem ban_equi {D E : Nat → Int} (h : Equi 2 (joinE ban) D E) : ∃ t : Int, E 0 = D 0 + 3 * t := by
  obtain ⟨s, hs⟩ := h
  refine ⟨s 1 - s 0, ?_⟩
  have := hs 0 (by decide)
  obtain ⟨j1, j2, j3, j4⟩ := ban_j
  simp only [lapF, sumN, j1, j3] at this
  omega
theorem ban_rk {k : Int} (h : RankIs 2 (joinE ban) (fun v => ([1, 1] : List Int).getD v 0) k) : k = 1 := by
  obtain ⟨j1, j2, j3, j4⟩ := ban_j
  refine RankIs.unique (by decide) h (rank_kan ban_sm.mg (by decide) ban_kan (by decide) (Equi.of_eq fun v hv => ?_))
  match v, hv with
  | 0, _ => simp [kanF, sumN, j1, j3]
  | 1, _ => simp [kanF, sumN, j2, j4]
theorem ban_r2 {k : Int} (h : RankIs 2 (joinE ban) (fun v => ([2, 0] : List Int).getD v 0) k) : k = 0 := by
  refine RankIs.unique (by decide) h (rank_not_kan ban_sm.mg (by decide) ban_kan (by decide) (by decide) fun he => ?_)
  obtain ⟨j1, j2, j3, j4⟩ := ban_j
  obtain ⟨t, ht⟩ := ban_equi he
  simp [kanF, sumN, j1, j3] at ht
  omega
theorem ban_r3 {k : Int} (h : RankIs 2 (joinE ban) (fun v => ([-1, 1] : List Int).getD v 0) k) : k = -1 := by
  refine RankIs.unique (by decide) h (.inl ⟨rfl, fun hw => ?_⟩)
  obtain ⟨t, ht⟩ := ban_equi (zero_win ban_sm.mg (by decide) hw)
  simp at ht
  omega
theorem roch_ok : PC Tryz.prog 6 [] (.b true) [] := by
  refine PC_of_W cfn6 ?_
  simp -implicitDefEqProofs (disch := omega) [c6, List.getElem?_cons_zero, List.getElem?_cons_succ, wrap_id]
  refine HC_of_PC (ps := [G 2 ban]) rfl (canonical_ok 2 ban ban_sm.el ban_conn) ?_
  rw [ban_can]
  simp -implicitDefEqProofs (disch := omega) [List.getElem?_cons_zero, List.getElem?_cons_succ, wrap_id]
  refine HC_of_PCR (ps := [G 2 ban, .is [1, 1]]) rfl (rank_ok ban_sm (d := [1, 1]) rfl (fun v => ?_)) ?_
  · match v with
    | 0 => decide
    | 1 => decide
    | v + 2 => simp
  rintro r HR ⟨k, hk, hkr, rfl, rfl⟩
  obtain rfl := ban_rk hkr
  simp -implicitDefEqProofs (disch := omega) [List.getElem?_cons_zero, List.getElem?_cons_succ, wrap_id]
  refine HC_of_PCR (ps := [G 2 ban, .is [2, 0]]) rfl (bal_ok ban_sm (d := [2, 0]) rfl (fun v => ?_) (fun v => ?_)) ?_
  · match v with
    | 0 => decide
    | 1 => decide
    | v + 2 => simp
  · rw [ban_can]
    match v with
    | 0 => decide
    | 1 => decide
    | v + 2 => simp [subL, zpK]
  rintro r HR ⟨k, k', hk1, hk2, rfl, rfl⟩
  obtain rfl := ban_r2 hk1
  rw [ban_can, show subL [1, 1] [2, 0] = [-1, 1] by decide] at hk2
  obtain rfl := ban_r3 hk2
  simp -implicitDefEqProofs (disch := omega) [List.getElem?_cons_zero, List.getElem?_cons_succ, wrap_id]
  refine HC_of_PC (ps := [.is [1, 1], .is [1, 1]]) rfl (eq20_ok [1, 1] [1, 1] (by decide)) ?_
  simp -implicitDefEqProofs (disch := omega) [List.getElem?_cons_zero, List.getElem?_cons_succ, wrap_id]
  (refine fin0 trivial rfl ?_; simp -implicitDefEqProofs (disch := omega) [List.getElem?_cons_zero, List.getElem?_cons_succ, idx, wrap_id])
end Go.Proofs.YtpnbahmhdhjndaaGreat
end
section
set_option linter.unusedSimpArgs false
set_option linter.unusedVariables false
namespace Go.Proofs.YtpnbahmhdhjndaaGreat
open Go.Abs Go.Sand
theorem canL_get {n : Nat} {es : List Ed} (hg : GoodG n es) {v : Nat} (hv : v < n) : (canL n es).getD v 0 = kanF n (joinE es) v := by
  have h1 := valTo_all hg.right hg.asc v ⟨by omega, by omega⟩
  have hl : v < (canL n es).length := by rw [canL_len]; exact hv
  rw [getD_get hl]
  simp only [canL, List.getElem_map, List.getElem_range]
  unfold kanF
  rw [← valTo_sum, h1]
theorem can_abs {n : Nat} {es : List Ed} (hs : Sm n es) : AbsLe 10 (canL n es) := fun v => by
  by_cases hv : v < n
  · rw [canL_get hs.g hv]
    have h1 := hs.val v hv
    have h2 := (eff_le (n := n) (D := fun u => joinE es v u) fun u _ => hs.mg.nn v u).1
    unfold kanF
    omega
  · rw [List.getD_eq_getElem?_getD, List.getElem?_eq_none (by rw [canL_len]; omega)]
    simp
set_option maxRecDepth 10000 in
set_option maxHeartbeats 8000000 in
theorem degrees_law (N : Int) (es : List Ed) (d : List Int) : PC Tryz.prog 3 [G N es, .is d] (.b true) [] := by
  refine PC_of_W cfn3 ?_
  simp -implicitDefEqProofs (disch := omega) [c3, List.getElem?_cons_zero, List.getElem?_cons_succ, wrap_id]
  refine HC_of_PC rfl (curve_ok N es d 5) ?_
  cases hp : curveB N es d 5
  · simp -implicitDefEqProofs (disch := omega) [List.getElem?_cons_zero, List.getElem?_cons_succ, wrap_id]
    refine HC_of_PC rfl (roch_ok) ?_
    simp -implicitDefEqProofs (disch := omega) [List.getElem?_cons_zero, List.getElem?_cons_succ, wrap_id]
    (refine fin0 trivial rfl ?_; simp -implicitDefEqProofs (disch := omega) [List.getElem?_cons_zero, List.getElem?_cons_succ, idx, wrap_id])
  obtain ⟨n, rfl, hs, hdl, hdb, hsum⟩ := curve_at hp
  have hM := hs.mg
  have hn1 := hs.n1
  have hn5 := hs.n5
  have hn0 : 0 < n := by omega
  have hkl := canL_len n es
  have hgk := gen_kan hs
  have hds := deg_sum hdl
  have hge : -10 ≤ genE n es ∧ genE n es ≤ 10 := by
    have := llE_ends es
    have := hs.m7
    unfold genE; omega
  simp -implicitDefEqProofs (disch := omega) [List.getElem?_cons_zero, List.getElem?_cons_succ, wrap_id]
  refine HC_of_PCR rfl (rank_ok hs hdl (hdb.mono (by omega))) ?_
  rintro r HR ⟨k, hk, hkr, rfl, rfl⟩
  simp -implicitDefEqProofs (disch := omega) [List.getElem?_cons_zero, List.getElem?_cons_succ, wrap_id]
  refine HC_of_PC rfl (canonical_ok n es hs.el hs.c) ?_
  simp -implicitDefEqProofs (disch := omega) [List.getElem?_cons_zero, List.getElem?_cons_succ, wrap_id]
  obtain ⟨same, hsame⟩ : ∃ b : Bool, b = true ↔ Equi n (joinE es) (fun v => d.getD v 0) (fun v => (canL n es).getD v 0) := by
    by_cases h : Equi n (joinE es) (fun v => d.getD v 0) (fun v => (canL n es).getD v 0)
    · exact ⟨true, ⟨fun _ => h, fun _ => rfl⟩⟩
    · exact ⟨false, ⟨fun e => (Bool.noConfusion e), fun e => absurd e h⟩⟩
  have hsame2 : same = true ↔ Equi n (joinE es) (fun v => d.getD v 0) (kanF n (joinE es)) := by
    rw [hsame]
    have he : Equi n (joinE es) (fun v => (canL n es).getD v 0) (kanF n (joinE es)) := Equi.of_eq fun v hv => (canL_get hs.g hv).symm
    exact ⟨fun h => h.trans he, fun h => h.trans he.symm⟩
  obtain ⟨D, hD⟩ : ∃ D, D = sumI d := ⟨_, rfl⟩
  obtain ⟨g, hg⟩ : ∃ g, g = genE n es := ⟨_, rfl⟩
  rw [← hg] at hge hgk
  rw [← hD] at hds hsum
  have hDb : -600 ≤ D ∧ D ≤ 600 := by
    have h2 := sum_bd (B := 100) (by omega) (d := fun v => d.getD v 0) (k := n) fun v _ => (hdb v).2
    have h3 := sum_bd (B := 100) (by omega) (d := fun v => 0 - d.getD v 0) (k := n) fun v _ => by have := (hdb v).1; (try dsimp only); omega
    have h4 := sumN_sub' (fun _ => 0) (fun v => d.getD v 0) n
    (try dsimp only at h4)
    rw [sumN_zero] at h4
    omega
  have F1 : D < 0 → k = -1 := fun h => RankIs.unique hn0 hkr (.inl ⟨rfl, fun hw => by have := win_deg hM hw; omega⟩)
  have F3 : 2 * g - 2 < D → 0 ≤ D → k = D - g := fun h1 h2 => by
    have := rank_high hM hn0 (D := fun v => d.getD v 0) hgk (by omega) (by omega)
    rw [← hds] at this
    exact RankIs.unique hn0 hkr this
  have F4 : D = 2 * g - 2 → 0 < g → k = if same = true then g - 1 else g - 2 := fun h1 h2 => by
    split
    · rename_i h; exact RankIs.unique hn0 hkr (rank_kan hM hn0 hgk (by omega) (hsame2.1 h))
    · rename_i h; exact RankIs.unique hn0 hkr (rank_not_kan hM hn0 hgk (by omega) (by omega) fun he => h (hsame2.2 he))
  have F2 : D = 0 → (k = 0 ↔ Equi n (joinE es) (fun v => d.getD v 0) (fun _ => 0)) := fun h => by
    have hw := RankIs.win hn0 hkr
    have hup : k ≤ 0 := by
      have h1 := (RankIs.ge hn0 hkr 1)
      by_cases hc : 1 ≤ k
      · have := rk_deg hM hn0 (h1.2 (by omega)); omega
      · omega
    constructor
    · intro e
      exact zero_win hM (by omega) (hw.2 (by omega))
    · intro e
      have := hw.1 ⟨fun _ => 0, fun v hv => Int.le_refl 0, e⟩
      omega
  have hF : (D < 0 ∧ k = -1 ∧ ¬ (2 * g - 2 < D ∧ 0 ≤ D)) ∨ 0 ≤ D := by
    by_cases h : D < 0
    · exact .inl ⟨h, F1 h, by omega⟩
    · exact .inr (by omega)
  refine HC_of_PCR (by simp [views, view, viewC, ownEls, hkl]) (equiv_ok hs hdl hkl (B := 110) (by omega) (hdb.mono (by omega)) ((can_abs hs).mono (by omega))) ?_
  rintro r2 HR (⟨he, l, rfl, rfl⟩ | ⟨he, rfl, rfl⟩)
  · have hst := hsame.2 he
    subst hst
    simp only [if_true] at F4
    simp -implicitDefEqProofs (disch := omega) [List.getElem?_cons_zero, List.getElem?_cons_succ, wrap_id]
    refine HC_of_PCR rfl (prin_ok hs hdl (hdb.mono (by omega))) ?_
    rintro r3 HR ⟨p, hp3, rfl, rfl⟩
    rw [← hp3] at F2
    simp -implicitDefEqProofs (disch := omega) [List.getElem?_cons_zero, List.getElem?_cons_succ, wrap_id]
    refine HC_of_PC rfl (total_ok d (by omega) (hdb.mono (by omega))) ?_
    rw [← hD]
    simp -implicitDefEqProofs (disch := omega) [List.getElem?_cons_zero, List.getElem?_cons_succ, wrap_id]
    refine HC_of_PC rfl (g39_ok n es hs.g) ?_
    rw [← hg]
    clear hp3 hF
    by_cases h1 : D < 0
    · have h6 := F1 h1
      by_cases h4 : D = 2 * g - 2
      · have e1 : (D < 0) = True := eq_true (by omega)
        have e2 : (D = 0) = False := eq_false (by omega)
        have e3 : (2 * g - 2 < D) = False := eq_false (by omega)
        have e4 : (D = 2 * g - 2) = True := eq_true (by omega)
        have e5 : (0 < g) = False := eq_false (by omega)
        have e6 : (k = -1) = True := eq_true (by omega)
        have e10 : (0 ≤ D) = False := eq_false (by omega)
        simp -implicitDefEqProofs (disch := omega) [List.getElem?_cons_zero, List.getElem?_cons_succ, wrap_id, e1, e2, e3, e4, e5, e6, e10]
        refine HC_of_PC rfl (roch_ok) ?_
        simp -implicitDefEqProofs (disch := omega) [List.getElem?_cons_zero, List.getElem?_cons_succ, wrap_id]
        (refine fin0 trivial rfl ?_; simp -implicitDefEqProofs (disch := omega) [List.getElem?_cons_zero, List.getElem?_cons_succ, idx, wrap_id])
      · by_cases h3 : 2 * g - 2 < D
        · have e1 : (D < 0) = True := eq_true (by omega)
          have e2 : (D = 0) = False := eq_false (by omega)
          have e3 : (2 * g - 2 < D) = True := eq_true (by omega)
          have e4 : (D = 2 * g - 2) = False := eq_false (by omega)
          have e6 : (k = -1) = True := eq_true (by omega)
          have e10 : (0 ≤ D) = False := eq_false (by omega)
          simp -implicitDefEqProofs (disch := omega) [List.getElem?_cons_zero, List.getElem?_cons_succ, wrap_id, e1, e2, e3, e4, e6, e10]
          refine HC_of_PC rfl (roch_ok) ?_
          simp -implicitDefEqProofs (disch := omega) [List.getElem?_cons_zero, List.getElem?_cons_succ, wrap_id]
          (refine fin0 trivial rfl ?_; simp -implicitDefEqProofs (disch := omega) [List.getElem?_cons_zero, List.getElem?_cons_succ, idx, wrap_id])
        · have e1 : (D < 0) = True := eq_true (by omega)
          have e2 : (D = 0) = False := eq_false (by omega)
          have e3 : (2 * g - 2 < D) = False := eq_false (by omega)
          have e4 : (D = 2 * g - 2) = False := eq_false (by omega)
          have e6 : (k = -1) = True := eq_true (by omega)
          have e10 : (0 ≤ D) = False := eq_false (by omega)
          simp -implicitDefEqProofs (disch := omega) [List.getElem?_cons_zero, List.getElem?_cons_succ, wrap_id, e1, e2, e3, e4, e6, e10]
          refine HC_of_PC rfl (roch_ok) ?_
          simp -implicitDefEqProofs (disch := omega) [List.getElem?_cons_zero, List.getElem?_cons_succ, wrap_id]
          (refine fin0 trivial rfl ?_; simp -implicitDefEqProofs (disch := omega) [List.getElem?_cons_zero, List.getElem?_cons_succ, idx, wrap_id])
    · by_cases h2 : D = 0
      · have h7 := F2 h2
        cases p
        · have h7' : ¬ k = 0 := fun e => by have := h7.1 e; cases this
          by_cases h3 : 2 * g - 2 < D
          · have h8 := F3 h3 (by omega)
            have e1 : (D < 0) = False := eq_false (by omega)
            have e2 : (D = 0) = True := eq_true (by omega)
            have e7 : (k = 0) = False := eq_false (by omega)
            have e10 : (0 ≤ D) = True := eq_true (by omega)
            have e3 : (2 * g - 2 < D) = True := eq_true (by omega)
            have e4 : (D = 2 * g - 2) = False := eq_false (by omega)
            have e8 : (k = D - g) = True := eq_true (by omega)
            simp -implicitDefEqProofs (disch := omega) [List.getElem?_cons_zero, List.getElem?_cons_succ, wrap_id, e1, e2, e7, e10, e3, e4, e8]
            refine HC_of_PC rfl (roch_ok) ?_
            simp -implicitDefEqProofs (disch := omega) [List.getElem?_cons_zero, List.getElem?_cons_succ, wrap_id]
            (refine fin0 trivial rfl ?_; simp -implicitDefEqProofs (disch := omega) [List.getElem?_cons_zero, List.getElem?_cons_succ, idx, wrap_id])
          · by_cases h4 : D = 2 * g - 2
            · have h9 := F4 h4 (by omega)
              have e1 : (D < 0) = False := eq_false (by omega)
              have e2 : (D = 0) = True := eq_true (by omega)
              have e7 : (k = 0) = False := eq_false (by omega)
              have e10 : (0 ≤ D) = True := eq_true (by omega)
              have e3 : (2 * g - 2 < D) = False := eq_false (by omega)
              have e4 : (D = 2 * g - 2) = True := eq_true (by omega)
              have e5 : (0 < g) = True := eq_true (by omega)
              have e9 : (k = g - 2 + 1) = True := eq_true (by omega)
              simp -implicitDefEqProofs (disch := omega) [List.getElem?_cons_zero, List.getElem?_cons_succ, wrap_id, e1, e2, e7, e10, e3, e4, e5, e9]
              refine HC_of_PC rfl (roch_ok) ?_
              simp -implicitDefEqProofs (disch := omega) [List.getElem?_cons_zero, List.getElem?_cons_succ, wrap_id]
              (refine fin0 trivial rfl ?_; simp -implicitDefEqProofs (disch := omega) [List.getElem?_cons_zero, List.getElem?_cons_succ, idx, wrap_id])
            · have e1 : (D < 0) = False := eq_false (by omega)
              have e2 : (D = 0) = True := eq_true (by omega)
              have e7 : (k = 0) = False := eq_false (by omega)
              have e10 : (0 ≤ D) = True := eq_true (by omega)
              have e3 : (2 * g - 2 < D) = False := eq_false (by omega)
              have e4 : (D = 2 * g - 2) = False := eq_false (by omega)
              simp -implicitDefEqProofs (disch := omega) [List.getElem?_cons_zero, List.getElem?_cons_succ, wrap_id, e1, e2, e7, e10, e3, e4]
              refine HC_of_PC rfl (roch_ok) ?_
              simp -implicitDefEqProofs (disch := omega) [List.getElem?_cons_zero, List.getElem?_cons_succ, wrap_id]
              (refine fin0 trivial rfl ?_; simp -implicitDefEqProofs (disch := omega) [List.getElem?_cons_zero, List.getElem?_cons_succ, idx, wrap_id])
        · have h7' : k = 0 := h7.2 rfl
          by_cases h3 : 2 * g - 2 < D
          · have h8 := F3 h3 (by omega)
            have e1 : (D < 0) = False := eq_false (by omega)
            have e2 : (D = 0) = True := eq_true (by omega)
            have e7 : (k = 0) = True := eq_true (by omega)
            have e10 : (0 ≤ D) = True := eq_true (by omega)
            have e3 : (2 * g - 2 < D) = True := eq_true (by omega)
            have e4 : (D = 2 * g - 2) = False := eq_false (by omega)
            have e8 : (k = D - g) = True := eq_true (by omega)
            simp -implicitDefEqProofs (disch := omega) [List.getElem?_cons_zero, List.getElem?_cons_succ, wrap_id, e1, e2, e7, e10, e3, e4, e8]
            refine HC_of_PC rfl (roch_ok) ?_
            simp -implicitDefEqProofs (disch := omega) [List.getElem?_cons_zero, List.getElem?_cons_succ, wrap_id]
            (refine fin0 trivial rfl ?_; simp -implicitDefEqProofs (disch := omega) [List.getElem?_cons_zero, List.getElem?_cons_succ, idx, wrap_id])
          · by_cases h4 : D = 2 * g - 2
            · have h9 := F4 h4 (by omega)
              have e1 : (D < 0) = False := eq_false (by omega)
              have e2 : (D = 0) = True := eq_true (by omega)
              have e7 : (k = 0) = True := eq_true (by omega)
              have e10 : (0 ≤ D) = True := eq_true (by omega)
              have e3 : (2 * g - 2 < D) = False := eq_false (by omega)
              have e4 : (D = 2 * g - 2) = True := eq_true (by omega)
              have e5 : (0 < g) = True := eq_true (by omega)
              have e9 : (k = g - 2 + 1) = True := eq_true (by omega)
              simp -implicitDefEqProofs (disch := omega) [List.getElem?_cons_zero, List.getElem?_cons_succ, wrap_id, e1, e2, e7, e10, e3, e4, e5, e9]
              refine HC_of_PC rfl (roch_ok) ?_
              simp -implicitDefEqProofs (disch := omega) [List.getElem?_cons_zero, List.getElem?_cons_succ, wrap_id]
              (refine fin0 trivial rfl ?_; simp -implicitDefEqProofs (disch := omega) [List.getElem?_cons_zero, List.getElem?_cons_succ, idx, wrap_id])
            · have e1 : (D < 0) = False := eq_false (by omega)
              have e2 : (D = 0) = True := eq_true (by omega)
              have e7 : (k = 0) = True := eq_true (by omega)
              have e10 : (0 ≤ D) = True := eq_true (by omega)
              have e3 : (2 * g - 2 < D) = False := eq_false (by omega)
              have e4 : (D = 2 * g - 2) = False := eq_false (by omega)
              simp -implicitDefEqProofs (disch := omega) [List.getElem?_cons_zero, List.getElem?_cons_succ, wrap_id, e1, e2, e7, e10, e3, e4]
              refine HC_of_PC rfl (roch_ok) ?_
              simp -implicitDefEqProofs (disch := omega) [List.getElem?_cons_zero, List.getElem?_cons_succ, wrap_id]
              (refine fin0 trivial rfl ?_; simp -implicitDefEqProofs (disch := omega) [List.getElem?_cons_zero, List.getElem?_cons_succ, idx, wrap_id])
      · by_cases h3 : 2 * g - 2 < D
        · have h8 := F3 h3 (by omega)
          have e1 : (D < 0) = False := eq_false (by omega)
          have e2 : (D = 0) = False := eq_false (by omega)
          have e10 : (0 ≤ D) = True := eq_true (by omega)
          have e3 : (2 * g - 2 < D) = True := eq_true (by omega)
          have e4 : (D = 2 * g - 2) = False := eq_false (by omega)
          have e8 : (k = D - g) = True := eq_true (by omega)
          simp -implicitDefEqProofs (disch := omega) [List.getElem?_cons_zero, List.getElem?_cons_succ, wrap_id, e1, e2, e10, e3, e4, e8]
          refine HC_of_PC rfl (roch_ok) ?_
          simp -implicitDefEqProofs (disch := omega) [List.getElem?_cons_zero, List.getElem?_cons_succ, wrap_id]
          (refine fin0 trivial rfl ?_; simp -implicitDefEqProofs (disch := omega) [List.getElem?_cons_zero, List.getElem?_cons_succ, idx, wrap_id])
        · by_cases h4 : D = 2 * g - 2
          · have h9 := F4 h4 (by omega)
            have e1 : (D < 0) = False := eq_false (by omega)
            have e2 : (D = 0) = False := eq_false (by omega)
            have e10 : (0 ≤ D) = True := eq_true (by omega)
            have e3 : (2 * g - 2 < D) = False := eq_false (by omega)
            have e4 : (D = 2 * g - 2) = True := eq_true (by omega)
            have e5 : (0 < g) = True := eq_true (by omega)
            have e9 : (k = g - 2 + 1) = True := eq_true (by omega)
            simp -implicitDefEqProofs (disch := omega) [List.getElem?_cons_zero, List.getElem?_cons_succ, wrap_id, e1, e2, e10, e3, e4, e5, e9]
            refine HC_of_PC rfl (roch_ok) ?_
            simp -implicitDefEqProofs (disch := omega) [List.getElem?_cons_zero, List.getElem?_cons_succ, wrap_id]
            (refine fin0 trivial rfl ?_; simp -implicitDefEqProofs (disch := omega) [List.getElem?_cons_zero, List.getElem?_cons_succ, idx, wrap_id])
          · have e1 : (D < 0) = False := eq_false (by omega)
            have e2 : (D = 0) = False := eq_false (by omega)
            have e10 : (0 ≤ D) = True := eq_true (by omega)
            have e3 : (2 * g - 2 < D) = False := eq_false (by omega)
            have e4 : (D = 2 * g - 2) = False := eq_false (by omega)
            simp -implicitDefEqProofs (disch := omega) [List.getElem?_cons_zero, List.getElem?_cons_succ, wrap_id, e1, e2, e10, e3, e4]
            refine HC_of_PC rfl (roch_ok) ?_
            simp -implicitDefEqProofs (disch := omega) [List.getElem?_cons_zero, List.getElem?_cons_succ, wrap_id]
            (refine fin0 trivial rfl ?_; simp -implicitDefEqProofs (disch := omega) [List.getElem?_cons_zero, List.getElem?_cons_succ, idx, wrap_id])
  · have hst : same = false := by cases same; rfl; exact absurd (hsame.1 rfl) he
    subst hst
    simp only [Bool.false_eq_true, if_false] at F4
    simp -implicitDefEqProofs (disch := omega) [List.getElem?_cons_zero, List.getElem?_cons_succ, wrap_id]
    refine HC_of_PCR rfl (prin_ok hs hdl (hdb.mono (by omega))) ?_
    rintro r3 HR ⟨p, hp3, rfl, rfl⟩
    rw [← hp3] at F2
    simp -implicitDefEqProofs (disch := omega) [List.getElem?_cons_zero, List.getElem?_cons_succ, wrap_id]
    refine HC_of_PC rfl (total_ok d (by omega) (hdb.mono (by omega))) ?_
    rw [← hD]
    simp -implicitDefEqProofs (disch := omega) [List.getElem?_cons_zero, List.getElem?_cons_succ, wrap_id]
    refine HC_of_PC rfl (g39_ok n es hs.g) ?_
    rw [← hg]
    clear hp3 hF
    by_cases h1 : D < 0
    · have h6 := F1 h1
      by_cases h4 : D = 2 * g - 2
      · have e1 : (D < 0) = True := eq_true (by omega)
        have e2 : (D = 0) = False := eq_false (by omega)
        have e3 : (2 * g - 2 < D) = False := eq_false (by omega)
        have e4 : (D = 2 * g - 2) = True := eq_true (by omega)
        have e5 : (0 < g) = False := eq_false (by omega)
        have e6 : (k = -1) = True := eq_true (by omega)
        have e10 : (0 ≤ D) = False := eq_false (by omega)
        simp -implicitDefEqProofs (disch := omega) [List.getElem?_cons_zero, List.getElem?_cons_succ, wrap_id, e1, e2, e3, e4, e5, e6, e10]
        refine HC_of_PC rfl (roch_ok) ?_
        simp -implicitDefEqProofs (disch := omega) [List.getElem?_cons_zero, List.getElem?_cons_succ, wrap_id]
        (refine fin0 trivial rfl ?_; simp -implicitDefEqProofs (disch := omega) [List.getElem?_cons_zero, List.getElem?_cons_succ, idx, wrap_id])
      · by_cases h3 : 2 * g - 2 < D
        · have e1 : (D < 0) = True := eq_true (by omega)
          have e2 : (D = 0) = False := eq_false (by omega)
          have e3 : (2 * g - 2 < D) = True := eq_true (by omega)
          have e4 : (D = 2 * g - 2) = False := eq_false (by omega)
          have e6 : (k = -1) = True := eq_true (by omega)
          have e10 : (0 ≤ D) = False := eq_false (by omega)
          simp -implicitDefEqProofs (disch := omega) [List.getElem?_cons_zero, List.getElem?_cons_succ, wrap_id, e1, e2, e3, e4, e6, e10]
          refine HC_of_PC rfl (roch_ok) ?_
          simp -implicitDefEqProofs (disch := omega) [List.getElem?_cons_zero, List.getElem?_cons_succ, wrap_id]
          (refine fin0 trivial rfl ?_; simp -implicitDefEqProofs (disch := omega) [List.getElem?_cons_zero, List.getElem?_cons_succ, idx, wrap_id])
        · have e1 : (D < 0) = True := eq_true (by omega)
          have e2 : (D = 0) = False := eq_false (by omega)
          have e3 : (2 * g - 2 < D) = False := eq_false (by omega)
          have e4 : (D = 2 * g - 2) = False := eq_false (by omega)
          have e6 : (k = -1) = True := eq_true (by omega)
          have e10 : (0 ≤ D) = False := eq_false (by omega)
          simp -implicitDefEqProofs (disch := omega) [List.getElem?_cons_zero, List.getElem?_cons_succ, wrap_id, e1, e2, e3, e4, e6, e10]
          refine HC_of_PC rfl (roch_ok) ?_
          simp -implicitDefEqProofs (disch := omega) [List.getElem?_cons_zero, List.getElem?_cons_succ, wrap_id]
          (refine fin0 trivial rfl ?_; simp -implicitDefEqProofs (disch := omega) [List.getElem?_cons_zero, List.getElem?_cons_succ, idx, wrap_id])
    · by_cases h2 : D = 0
      · have h7 := F2 h2
        cases p
        · have h7' : ¬ k = 0 := fun e => by have := h7.1 e; cases this
          by_cases h3 : 2 * g - 2 < D
          · have h8 := F3 h3 (by omega)
            have e1 : (D < 0) = False := eq_false (by omega)
            have e2 : (D = 0) = True := eq_true (by omega)
            have e7 : (k = 0) = False := eq_false (by omega)
            have e10 : (0 ≤ D) = True := eq_true (by omega)
            have e3 : (2 * g - 2 < D) = True := eq_true (by omega)
            have e4 : (D = 2 * g - 2) = False := eq_false (by omega)
            have e8 : (k = D - g) = True := eq_true (by omega)
            simp -implicitDefEqProofs (disch := omega) [List.getElem?_cons_zero, List.getElem?_cons_succ, wrap_id, e1, e2, e7, e10, e3, e4, e8]
            refine HC_of_PC rfl (roch_ok) ?_
            simp -implicitDefEqProofs (disch := omega) [List.getElem?_cons_zero, List.getElem?_cons_succ, wrap_id]
            (refine fin0 trivial rfl ?_; simp -implicitDefEqProofs (disch := omega) [List.getElem?_cons_zero, List.getElem?_cons_succ, idx, wrap_id])
          · by_cases h4 : D = 2 * g - 2
            · have h9 := F4 h4 (by omega)
              have e1 : (D < 0) = False := eq_false (by omega)
              have e2 : (D = 0) = True := eq_true (by omega)
              have e7 : (k = 0) = False := eq_false (by omega)
              have e10 : (0 ≤ D) = True := eq_true (by omega)
              have e3 : (2 * g - 2 < D) = False := eq_false (by omega)
              have e4 : (D = 2 * g - 2) = True := eq_true (by omega)
              have e5 : (0 < g) = True := eq_true (by omega)
              have e9 : (k = g - 2) = True := eq_true (by omega)
              simp -implicitDefEqProofs (disch := omega) [List.getElem?_cons_zero, List.getElem?_cons_succ, wrap_id, e1, e2, e7, e10, e3, e4, e5, e9]
              refine HC_of_PC rfl (roch_ok) ?_
              simp -implicitDefEqProofs (disch := omega) [List.getElem?_cons_zero, List.getElem?_cons_succ, wrap_id]
              (refine fin0 trivial rfl ?_; simp -implicitDefEqProofs (disch := omega) [List.getElem?_cons_zero, List.getElem?_cons_succ, idx, wrap_id])
            · have e1 : (D < 0) = False := eq_false (by omega)
              have e2 : (D = 0) = True := eq_true (by omega)
              have e7 : (k = 0) = False := eq_false (by omega)
              have e10 : (0 ≤ D) = True := eq_true (by omega)
              have e3 : (2 * g - 2 < D) = False := eq_false (by omega)
              have e4 : (D = 2 * g - 2) = False := eq_false (by omega)
              simp -implicitDefEqProofs (disch := omega) [List.getElem?_cons_zero, List.getElem?_cons_succ, wrap_id, e1, e2, e7, e10, e3, e4]
              refine HC_of_PC rfl (roch_ok) ?_
              simp -implicitDefEqProofs (disch := omega) [List.getElem?_cons_zero, List.getElem?_cons_succ, wrap_id]
              (refine fin0 trivial rfl ?_; simp -implicitDefEqProofs (disch := omega) [List.getElem?_cons_zero, List.getElem?_cons_succ, idx, wrap_id])
        · have h7' : k = 0 := h7.2 rfl
          by_cases h3 : 2 * g - 2 < D
          · have h8 := F3 h3 (by omega)
            have e1 : (D < 0) = False := eq_false (by omega)
            have e2 : (D = 0) = True := eq_true (by omega)
            have e7 : (k = 0) = True := eq_true (by omega)
            have e10 : (0 ≤ D) = True := eq_true (by omega)
            have e3 : (2 * g - 2 < D) = True := eq_true (by omega)
            have e4 : (D = 2 * g - 2) = False := eq_false (by omega)
            have e8 : (k = D - g) = True := eq_true (by omega)
            simp -implicitDefEqProofs (disch := omega) [List.getElem?_cons_zero, List.getElem?_cons_succ, wrap_id, e1, e2, e7, e10, e3, e4, e8]
            refine HC_of_PC rfl (roch_ok) ?_
            simp -implicitDefEqProofs (disch := omega) [List.getElem?_cons_zero, List.getElem?_cons_succ, wrap_id]
            (refine fin0 trivial rfl ?_; simp -implicitDefEqProofs (disch := omega) [List.getElem?_cons_zero, List.getElem?_cons_succ, idx, wrap_id])
          · by_cases h4 : D = 2 * g - 2
            · have h9 := F4 h4 (by omega)
              have e1 : (D < 0) = False := eq_false (by omega)
              have e2 : (D = 0) = True := eq_true (by omega)
              have e7 : (k = 0) = True := eq_true (by omega)
              have e10 : (0 ≤ D) = True := eq_true (by omega)
              have e3 : (2 * g - 2 < D) = False := eq_false (by omega)
              have e4 : (D = 2 * g - 2) = True := eq_true (by omega)
              have e5 : (0 < g) = True := eq_true (by omega)
              have e9 : (k = g - 2) = True := eq_true (by omega)
              simp -implicitDefEqProofs (disch := omega) [List.getElem?_cons_zero, List.getElem?_cons_succ, wrap_id, e1, e2, e7, e10, e3, e4, e5, e9]
              refine HC_of_PC rfl (roch_ok) ?_
              simp -implicitDefEqProofs (disch := omega) [List.getElem?_cons_zero, List.getElem?_cons_succ, wrap_id]
              (refine fin0 trivial rfl ?_; simp -implicitDefEqProofs (disch := omega) [List.getElem?_cons_zero, List.getElem?_cons_succ, idx, wrap_id])
            · have e1 : (D < 0) = False := eq_false (by omega)
              have e2 : (D = 0) = True := eq_true (by omega)
              have e7 : (k = 0) = True := eq_true (by omega)
              have e10 : (0 ≤ D) = True := eq_true (by omega)
              have e3 : (2 * g - 2 < D) = False := eq_false (by omega)
              have e4 : (D = 2 * g - 2) = False := eq_false (by omega)
              simp -implicitDefEqProofs (disch := omega) [List.getElem?_cons_zero, List.getElem?_cons_succ, wrap_id, e1, e2, e7, e10, e3, e4]
              refine HC_of_PC rfl (roch_ok) ?_
              simp -implicitDefEqProofs (disch := omega) [List.getElem?_cons_zero, List.getElem?_cons_succ, wrap_id]
              (refine fin0 trivial rfl ?_; simp -implicitDefEqProofs (disch := omega) [List.getElem?_cons_zero, List.getElem?_cons_succ, idx, wrap_id])
      · by_cases h3 : 2 * g - 2 < D
        · have h8 := F3 h3 (by omega)
          have e1 : (D < 0) = False := eq_false (by omega)
          have e2 : (D = 0) = False := eq_false (by omega)
          have e10 : (0 ≤ D) = True := eq_true (by omega)
          have e3 : (2 * g - 2 < D) = True := eq_true (by omega)
          have e4 : (D = 2 * g - 2) = False := eq_false (by omega)
          have e8 : (k = D - g) = True := eq_true (by omega)
          simp -implicitDefEqProofs (disch := omega) [List.getElem?_cons_zero, List.getElem?_cons_succ, wrap_id, e1, e2, e10, e3, e4, e8]
          refine HC_of_PC rfl (roch_ok) ?_
          simp -implicitDefEqProofs (disch := omega) [List.getElem?_cons_zero, List.getElem?_cons_succ, wrap_id]
          (refine fin0 trivial rfl ?_; simp -implicitDefEqProofs (disch := omega) [List.getElem?_cons_zero, List.getElem?_cons_succ, idx, wrap_id])
        · by_cases h4 : D = 2 * g - 2
          · have h9 := F4 h4 (by omega)
            have e1 : (D < 0) = False := eq_false (by omega)
            have e2 : (D = 0) = False := eq_false (by omega)
            have e10 : (0 ≤ D) = True := eq_true (by omega)
            have e3 : (2 * g - 2 < D) = False := eq_false (by omega)
            have e4 : (D = 2 * g - 2) = True := eq_true (by omega)
            have e5 : (0 < g) = True := eq_true (by omega)
            have e9 : (k = g - 2) = True := eq_true (by omega)
            simp -implicitDefEqProofs (disch := omega) [List.getElem?_cons_zero, List.getElem?_cons_succ, wrap_id, e1, e2, e10, e3, e4, e5, e9]
            refine HC_of_PC rfl (roch_ok) ?_
            simp -implicitDefEqProofs (disch := omega) [List.getElem?_cons_zero, List.getElem?_cons_succ, wrap_id]
            (refine fin0 trivial rfl ?_; simp -implicitDefEqProofs (disch := omega) [List.getElem?_cons_zero, List.getElem?_cons_succ, idx, wrap_id])
          · have e1 : (D < 0) = False := eq_false (by omega)
            have e2 : (D = 0) = False := eq_false (by omega)
            have e10 : (0 ≤ D) = True := eq_true (by omega)
            have e3 : (2 * g - 2 < D) = False := eq_false (by omega)
            have e4 : (D = 2 * g - 2) = False := eq_false (by omega)
            simp -implicitDefEqProofs (disch := omega) [List.getElem?_cons_zero, List.getElem?_cons_succ, wrap_id, e1, e2, e10, e3, e4]
            refine HC_of_PC rfl (roch_ok) ?_
            simp -implicitDefEqProofs (disch := omega) [List.getElem?_cons_zero, List.getElem?_cons_succ, wrap_id]
            (refine fin0 trivial rfl ?_; simp -implicitDefEqProofs (disch := omega) [List.getElem?_cons_zero, List.getElem?_cons_succ, idx, wrap_id])
end Go.Proofs.YtpnbahmhdhjndaaGreat
end
