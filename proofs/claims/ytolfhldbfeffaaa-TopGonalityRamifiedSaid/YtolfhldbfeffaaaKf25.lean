/-
  Texts joined: Rj Rk Rab Rac Rad Rae.
-/
import Derived.Test.YtolfhldbfeffaaaKf24

section
set_option linter.unusedSimpArgs false
set_option linter.unusedVariables false
namespace Go.Proofs.Ytolfhldbfeffaaa
open Go.Abs Go.Sand
/-- Everything stands as it stood, but for one object. -/
structure Fk (m : Nat) (H H' : List AO) : Prop where
  le : H.length ≤ H'.length
  same : ∀ i, i ≠ m → i < H.length → H'[i]? = H[i]?
theorem Fk.refl (m : Nat) (H : List AO) : Fk m H H := ⟨Nat.le_refl _, fun _ _ _ => rfl⟩
theorem Fk.trans {m : Nat} {A B C : List AO} (h : Fk m A B) (k : Fk m B C) : Fk m A C := ⟨Nat.le_trans h.le k.le, fun i h1 h2 => (k.same i h1 (Nat.lt_of_lt_of_le h2 h.le)).trans (h.same i h1 h2)⟩
theorem Fk.at {m : Nat} {H H' : List AO} (h : Fk m H H') {i : Nat} {x : AO} (hi : i ≠ m) (hx : H[i]? = some x) : H'[i]? = some x := by rw [h.same i hi (lt_some hx)]; exact hx
theorem Fk.app (m : Nat) (H Z : List AO) : Fk m H (H ++ Z) := ⟨by simp, fun i _ h => by rw [List.getElem?_append_left h]⟩
theorem deg_sum {n : Nat} {d : List Int} (hd : d.length = n) : sumI d = sumN (fun v => d.getD v 0) n := by
  have := sumN_sumI d n (by omega)
  rw [this, ← hd, List.take_length]
theorem views1 {H : List AO} {A : AV} {p : PV} (h : view H A = some p) : views H [A] = some [p] := by simp only [views, h]
theorem views2 {H : List AO} {A : AV} {p q : PV} (h : view H A = some p) : views H [.p q, A] = some [q, p] := by simp only [views, h]; rfl
theorem pad_agg : ∀ (x : List Int), x.length ≤ 5 → mkAgg (List.take 12 (List.map (AV.p ∘ PV.i) x) ++ List.drop x.length [AV.p (PV.v (Value.int IntKind.i64 0)), AV.p (PV.v (Value.int IntKind.i64 0)), AV.p (PV.v (Value.int IntKind.i64 0)), AV.p (PV.v (Value.int IntKind.i64 0)), AV.p (PV.v (Value.int IntKind.i64 0)), AV.p (PV.v (Value.int IntKind.i64 0)), AV.p (PV.v (Value.int IntKind.i64 0)), AV.p (PV.v (Value.int IntKind.i64 0)), AV.p (PV.v (Value.int IntKind.i64 0)), AV.p (PV.v (Value.int IntKind.i64 0)), AV.p (PV.v (Value.int IntKind.i64 0)), AV.p (PV.v (Value.int IntKind.i64 0))]) = .p (.agg ((padZ x).map PV.i)) := by
  intro x hx
  rcases x with _ | ⟨x0, _ | ⟨x1, _ | ⟨x2, _ | ⟨x3, _ | ⟨x4, _ | ⟨x5, d⟩⟩⟩⟩⟩⟩
  rotate_right
  · simp only [List.length_cons] at hx; omega
  all_goals simp [mkAgg, allP, padZ, PV.i, Abs.isAgg]
theorem ints_mapi : ∀ l : List Int, ints (l.map PV.i) = some l
  | [] => rfl
  | x :: l => by simp only [List.map_cons, PV.i, ints]; rw [show (l.map PV.i) = l.map PV.i from rfl, ints_mapi l]; rfl
theorem isB_mapi (l : List Int) : isB (l.map PV.i) = false := by cases l <;> rfl
theorem fit_pad {x : List Int} (h : x.length ≤ 12) (hb : AbsLe 1048576 x) : KV.fit (.arr 12) (.kl (padZ x)) = true := by
  simp only [KV.fit, padZ_len h, decide_true, Bool.true_and, List.all_eq_true]
  intro y hy
  have : -1048576 ≤ y ∧ y ≤ 1048576 := by
    rcases List.mem_append.1 hy with hy | hy
    · obtain ⟨i, hi, rfl⟩ := List.mem_iff_getElem.1 hy
      have := hb.get hi
      omega
    · have := List.eq_of_mem_replicate hy
      omega
  simp [Lit.wf, IntKind.min, IntKind.max, IntKind.bits, IntKind.signed]
  omega
theorem minF_congr {b : Int} {f g : Nat → Int} : ∀ {k : Nat}, (∀ v, v < k → f v = g v) → minF b f k = minF b g k
  | 0, _ => rfl
  | k + 1, h => by simp only [minF]; rw [minF_congr fun v hv => h v (by omega), h k (by omega)]
theorem eff_le {D : Nat → Int} : ∀ {n : Nat}, (∀ v, v < n → 0 ≤ D v) → 0 ≤ sumN D n ∧ ∀ v, v < n → D v ≤ sumN D n
  | 0, _ => ⟨by simp [sumN], fun v hv => by omega⟩
  | n + 1, h => by
    have ih := eff_le (n := n) fun v hv => h v (by omega)
    have h0 := h n (by omega)
    simp only [sumN]
    refine ⟨by omega, fun v hv => ?_⟩
    by_cases e : v = n
    · subst e; omega
    · have := ih.2 v (by omega); omega
/-- What holds ahead of each round: the ranks with one chip less at the vertices so far. -/
def RkI (n : Nat) (es : List Ed) (b : Nat) (x : List Int) (H0 : List AO) (m0 mo fo : Nat) (D : Int) (j : Nat) (st : St) : Prop := ∃ (H' : List AO) (l' : List (KV × AV)) (f : Nat → Int), Fk mo H0 H' ∧ H'[mo]? = some (.dict (.arr 12) l') ∧ MIn n es b l' ∧ (∀ v, v < j → RankIs n (joinE es) (fun u => x.getD u 0 - oneF v u) (f v) ∧ (-1 ≤ f v ∧ f v ≤ 1000)) ∧ j ≤ n ∧ st = ⟨[(0, .ptr fo 1 0 0), (4, .i 0), (5, .i 0), (9, .os m0 0 n), (11, .ptr (m0 + 2) 1 0 0), (14, .i (minF D (fun v => f v + 1) j)), (80, .i n), (81, .i j)], H'⟩
section
variable {n : Nat} {es : List Ed} (hs : Sm n es)
include hs
set_option maxHeartbeats 4000000 in
theorem rank_hc {fo mo : Nat} (hfm : fo ≠ mo) {b : Nat} (hb : (b : Int) = max 1 (2 * genE n es - 1)) (hbn : b ^ n < 16384) : ∀ (k : Nat) {d : List Int} {A : AV} {H : List AO} {l : List (KV × AV)} {K : AV → List AO → Prop}, d.length = n → AbsLe 110 d → sumN (fun v => d.getD v 0) n < k → view H A = some (.is d) →
    H[fo]? = some (.box (.agg [.p (.i n), .p (.sl (es.map edP)), .p (.i (genE n es)), .mp mo])) → H[mo]? = some (.dict (.arr 12) l) → MIn n es b l →
    (∀ r H' l', RankIs n (joinE es) (fun v => d.getD v 0) r → (-1 ≤ r ∧ r ≤ 1000) → Fk mo H H' → H'[mo]? = some (.dict (.arr 12) l') → MIn n es b l' → K (.tup [.i r, .i 0]) H') →
    HC Try.prog false 26 [.ptr fo 1 0 0, A] H K := by
  have hn1 := hs.n1
  have hn5 := hs.n5
  have hM := hs.mg
  have hn0 : 0 < n := by omega
  have hgk := gen_kan hs
  have hge : -10 ≤ genE n es ∧ genE n es ≤ 10 := by
    have := llE_ends es
    have := hs.m7
    unfold genE; omega
  intro k
  induction k with
  | zero =>
    intro d A H l K hdl hdb hk hA hfo hmo hl hK
    have hdc : dcheck d d.length = 0 := by rw [hdl]; exact dcheck_zero (by omega) hdl (hdb.mono (by omega))
    have hsum := deg_sum hdl
    obtain ⟨D, hD⟩ : ∃ D, D = sumN (fun v => d.getD v 0) n := ⟨_, rfl⟩
    rw [← hD] at hsum hk
    have hneg : D < 0 := by omega
    have hlose : ¬ WinF n (joinE es) (fun v => d.getD v 0) := fun h => by have := win_deg hM h; omega
    refine HC_of_W (af := _) ((by exact cfn26 : cfn _ _ _ = some _)) ?_
    simp -implicitDefEqProofs (disch := omega) [c26, List.getElem?_cons_zero, List.getElem?_cons_succ, wrap_id]
    refine HC_of_PC (views1 hA) (pdeg_ok d hdc (by omega) (hdb.mono (by omega))) ?_
    rw [hsum]
    simp -implicitDefEqProofs (disch := omega) [List.getElem?_cons_zero, List.getElem?_cons_succ, wrap_id, hneg]
    exact finH trivial rfl (hK (-1) _ l (.inl ⟨rfl, hlose⟩) (by omega) (Fk.refl _ _) hmo hl)
  | succ k ih =>
    intro d A H l K hdl hdb hk hA hfo hmo hl hK
    have hdc : dcheck d d.length = 0 := by rw [hdl]; exact dcheck_zero (by omega) hdl (hdb.mono (by omega))
    have hsum := deg_sum hdl
    obtain ⟨D, hD⟩ : ∃ D, D = sumN (fun v => d.getD v 0) n := ⟨_, rfl⟩
    rw [← hD] at hsum hk
    obtain ⟨g, hg⟩ : ∃ g, g = genE n es := ⟨_, rfl⟩
    rw [← hg] at hb hgk hge hfo ih
    have hDb : D ≤ 550 := by
      have h2 := sum_bd (B := 110) (by omega) (d := fun v => d.getD v 0) (k := n) fun v _ => (hdb v).2
      omega
    refine HC_of_W (af := _) ((by exact cfn26 : cfn _ _ _ = some _)) ?_
    simp -implicitDefEqProofs (disch := omega) [c26, List.getElem?_cons_zero, List.getElem?_cons_succ, wrap_id]
    refine HC_of_PC (views1 hA) (pdeg_ok d hdc (by omega) (hdb.mono (by omega))) ?_
    rw [hsum]
    by_cases hneg : D < 0
    · have hlose : ¬ WinF n (joinE es) (fun v => d.getD v 0) := fun h => by have := win_deg hM h; omega
      simp -implicitDefEqProofs (disch := omega) [List.getElem?_cons_zero, List.getElem?_cons_succ, wrap_id, hneg]
      exact finH trivial rfl (hK (-1) _ l (.inl ⟨rfl, hlose⟩) (by omega) (Fk.refl _ _) hmo hl)
    have hDlo : 0 ≤ D := by omega
    by_cases hbig : 2 * g - 2 < D
    · have hge0 : 0 ≤ D - g := by omega
      have hrk := rank_high hM hn0 (D := fun v => d.getD v 0) (g := g) hgk (by omega) (by omega)
      rw [← hD] at hrk
      simp -implicitDefEqProofs (disch := omega) [List.getElem?_cons_zero, List.getElem?_cons_succ, wrap_id, hneg, hfo, hbig, -getElem?_pos]
      exact finH trivial rfl (hK (D - g) _ l hrk (by omega) (Fk.refl _ _) hmo hl)
    simp -implicitDefEqProofs (disch := omega) [List.getElem?_cons_zero, List.getElem?_cons_succ, wrap_id, hneg, hfo, hbig, -getElem?_pos]
    refine HC_of_PCR (views2 hA) (win_ok hs hdl (by omega) hdb) ?_
    rintro r HR ⟨x, s, hx, rfl, rfl⟩
    have hxl := hx.dl
    have hwin := win_iff hs hx
    have h0x : 0 < x.length := by omega
    rw [getD_get h0x] at hwin
    by_cases hx0 : (0 : Int) ≤ x[0]
    rotate_left
    · have hx0' : decide ((0 : Int) ≤ x[0]) = false := decide_eq_false hx0
      simp -implicitDefEqProofs (disch := omega) [List.getElem?_cons_zero, List.getElem?_cons_succ, wrap_id, hx0, hx0']
      exact finH trivial rfl (hK (-1) _ l (.inl ⟨rfl, fun h => hx0 (hwin.1 h)⟩) (by omega) (Fk.app _ _ _) (app_some hmo _) hl)
    have hw := hwin.2 hx0
    have hxs : sumN (fun v => x.getD v 0) n = D := by rw [Equi.deg hM hx.eq, hD]
    have hxe : ∀ v, v < n → 0 ≤ x.getD v 0 := fun v hv => by
      by_cases e : v = 0
      · subst e; rw [getD_get h0x]; exact hx0
      · exact hx.red.1 v hv e
    have hxD := (eff_le hxe).2
    rw [hxs] at hxD
    have hwx : WinF n (joinE es) (fun v => x.getD v 0) := (WinF.equi hx.eq).1 hw
    have hfo2 : ∀ Z, (H ++ Z)[fo]? = _ := fun Z => app_some hfo Z
    have hmo2 : ∀ Z, (H ++ Z)[mo]? = _ := fun Z => app_some hmo Z
    have f0 : ∀ a Z, (H ++ a :: Z)[H.length]? = some a := fun a Z => by rw [List.getElem?_append_right (by omega)]; simp
    have f2 : ∀ a b c, (H ++ [a, b, c])[H.length + 2]? = some c := fun a b c => by rw [List.getElem?_append_right (by omega)]; simp
    have s2 : ∀ a b c z, (H ++ [a, b, c]).set (H.length + 2) z = H ++ [a, b, z] := fun a b c z => by rw [List.set_append_right _ _ (by omega)]; simp
    have hx0' : decide ((0 : Int) ≤ x[0]) = true := decide_eq_true hx0
    have hpad := pad_agg x (by omega)
    rw [hxl] at hpad
    have hpi := ints_mapi (padZ x)
    have hpb := isB_mapi (padZ x)
    have hpf := fit_pad (x := x) (by omega) hx.db
    have hpl := padZ_len (d := x) (by omega)
    have h11 : (H ++ [AO.row (x.map PV.i) 1 3 false, AO.row (s.map PV.i) 1 3 false, AO.box (AV.p (PV.agg (List.map PV.i (padZ x))))])[H.length + 2]? = _ := f2 _ _ _
    obtain ⟨kv, hkv⟩ : ∃ kv, kv = KV.kl (padZ x) := ⟨_, rfl⟩
    rw [← hkv] at hpf
    cases hdi : dIdx kv l with
    | some i =>
      obtain ⟨hi, hie⟩ := dIdx_some hdi
      obtain ⟨x', hx'l, hx'b, r, hrb, hre, hrr⟩ := hl.en _ (List.getElem_mem hi)
      have hxx : x' = x := by
        rw [hre] at hie
        simp only at hie
        rw [hkv] at hie
        injection hie with hie
        exact padZ_inj hx'l hxl hie
      subst hxx
      have hli : l[i]? = some (KV.kl (padZ x'), AV.p (PV.i r)) := by rw [List.getElem?_eq_getElem hi, hre]
      simp -implicitDefEqProofs (disch := omega) [List.getElem?_cons_zero, List.getElem?_cons_succ, wrap_id, hx0, hx0', f0, f2, s2, hxl, -mkAgg, hpad, hfo2, hmo2, hpl, hpi, hpb, -KV.fit, hpf, -isB, -ints, ← hkv, -dIdx, hdi, hli]
      have hl2 : l[i].snd = AV.p (PV.i r) := by rw [hre]
      rw [hl2]
      exact finH trivial rfl (hK r _ l (RankIs.equi hx.eq.symm hrr) hrb (Fk.app _ _ _) (app_some hmo _) hl)
    | none =>
      have hlm := hl.len
      have hlm' : ((l.length : Int) = 16384) = False := eq_false (by omega)
      simp -implicitDefEqProofs (disch := omega) [List.getElem?_cons_zero, List.getElem?_cons_succ, wrap_id, hx0, hx0', f0, f2, s2, hxl, -mkAgg, hpad, hfo2, hmo2, hpl, hpi, hpb, -KV.fit, hpf, -isB, -ints, ← hkv, -dIdx, hdi, hlm']
      have hmoH := lt_some hmo
      have hfoH := lt_some hfo
      obtain ⟨H0, hH0⟩ : ∃ H0, H0 = H ++ [AO.row (x.map PV.i) 1 3 false, AO.row (s.map PV.i) 1 3 false, AO.box (AV.p (PV.agg (List.map PV.i (padZ x))))] := ⟨_, rfl⟩
      have hz0 : H0[H.length]? = some (.row (x.map PV.i) 1 3 false) := by rw [hH0]; exact f0 _ _
      have hz2 : H0[H.length + 2]? = some (AO.box (AV.p (PV.agg (List.map PV.i (padZ x))))) := by rw [hH0]; exact f2 _ _ _
      have hzf := hfo2 [AO.row (x.map PV.i) 1 3 false, AO.row (s.map PV.i) 1 3 false, AO.box (AV.p (PV.agg (List.map PV.i (padZ x))))]
      have hzm := hmo2 [AO.row (x.map PV.i) 1 3 false, AO.row (s.map PV.i) 1 3 false, AO.box (AV.p (PV.agg (List.map PV.i (padZ x))))]
      rw [← hH0] at hzf hzm
      rw [← hH0]
      refine loopW n (RkI n es b x H0 H.length mo fo D) (Wk_keep [0, 4, 5, 9, 11, 14, 80, 81]) ⟨_, l, fun _ => 0, Fk.refl mo _, hzm, hl, fun v hv => absurd hv (Nat.not_lt_zero v), by omega, rfl⟩ ?_
      rintro j st hjn ⟨H', l', f, hF, hm', hl', hf, _, rfl⟩
      have hw0 := hF.at (by omega) hz0
      have hw2 := hF.at (by omega) hz2
      have hwf := hF.at hfm hzf
      obtain ⟨m, hm⟩ : ∃ m, m = minF D (fun v => f v + 1) j := ⟨_, rfl⟩
      have hmb : 0 ≤ m ∧ m ≤ D := by
        rw [hm]
        have h1 := (minF_le D (fun v => f v + 1) j 0).2 ⟨hDlo, fun v hv => by have := hf v hv; (try dsimp only); omega⟩
        have h2 := ((minF_le D (fun v => f v + 1) j _).1 (Int.le_refl _)).1
        omega
      rw [← hm]
      by_cases hj : j < n
      · obtain ⟨y, hy⟩ : ∃ y, y = x.getD j 0 := ⟨_, rfl⟩
        have hxj : x[j]? = some y := by rw [hy, List.getElem?_eq_getElem (by omega), getD_get (by omega)]
        have hyb : -1048576 ≤ y ∧ y ≤ 1048576 := by rw [hy]; exact hx.db j
        have hHl := lt_some hw0
        have hself : ∀ (Y : List AO) z, H.length < Y.length → (Y.set H.length z)[H.length]? = some z := fun Y z h => by rw [List.getElem?_set_self h]
        have hstep : ∀ z, List.map PV.i (x.set j z) = (List.map PV.i x).set j (PV.i z) := fun z => by rw [List.map_set]
        simp -implicitDefEqProofs (disch := omega) [List.getElem?_cons_zero, List.getElem?_cons_succ, wrap_id, hj, hw0, hw2, hwf, hm', hxj, hxl, hyb, -getElem?_pos]
        obtain ⟨H1, hH1⟩ : ∃ H1, H1 = H'.set H.length (AO.row ((List.map PV.i x).set j (PV.v (Value.int IntKind.i64 (y - 1)))) 1 3 false) := ⟨_, rfl⟩
        have h1l : H1.length = H'.length := by rw [hH1, List.length_set]
        have h1s : H1[H.length]? = some (.row ((x.set j (y - 1)).map PV.i) 1 3 false) := by rw [hH1, hself _ _ hHl, hstep]
        have h1o : ∀ i, i ≠ H.length → H1[i]? = H'[i]? := fun i hi => by rw [hH1, List.getElem?_set_ne (by omega)]
        have hxv : ∀ v, (x.set j (y - 1)).getD v 0 = x.getD v 0 - oneF j v := fun v => by
          rw [getD_set]
          unfold oneF
          by_cases e : v = j
          · subst e; rw [if_pos ⟨rfl, by omega⟩, if_pos rfl, hy]
          · rw [if_neg (fun h => e h.1.symm), if_neg e]; omega
        have hxb : AbsLe 110 (x.set j (y - 1)) := fun v => by
          rw [hxv]
          have h1 : 0 ≤ oneF j v ∧ oneF j v ≤ 1 := by unfold oneF; split <;> omega
          by_cases hv : v < n
          · have := hxe v hv; have := hxD v hv; omega
          · rw [List.getD_eq_getElem?_getD, List.getElem?_eq_none (by omega)]; simp only [Option.getD_none]; omega
        rw [← hH1]
        refine ih (l := l') (by rw [List.length_set, hxl]) hxb ?_ (by simp [view, viewC, ownEls, h1s, hxl]) (by rw [h1o _ (by omega)]; exact hwf) (by rw [h1o _ (by omega)]; exact hm') hl' ?_
        · simp only [hxv]
          rw [sumN_sub', hxs, oneF_sum hj]
          omega
        rintro r H2 l2 hr hrb hF2 hm2 hl2
        simp only [hxv] at hr
        have h2s := hF2.at (by omega) h1s
        have h2f := hF2.at hfm (by rw [h1o _ (by omega)]; exact hwf)
        have h2l := lt_some h2s
        obtain ⟨X2, hX2⟩ : ∃ X2, X2 = x.set j (y - 1) := ⟨_, rfl⟩
        have hX2l : X2.length = n := by rw [hX2, List.length_set, hxl]
        have hX2j : X2[j]? = some (y - 1) := by rw [hX2, List.getElem?_set_self (by omega)]
        have hX2s : X2.set j y = x := by
          rw [hX2, List.set_set]
          exact List.ext_getElem? fun i => by
            rw [List.getElem?_set]
            split
            · rename_i e; subst e; rw [if_pos (by omega), hxj]
            · rfl
        rw [← hX2] at h2s
        simp -implicitDefEqProofs (disch := omega) [List.getElem?_cons_zero, List.getElem?_cons_succ, wrap_id, h2s, h2f, hX2l, hX2j, hj, hyb, hrb, hmb, hself, -getElem?_pos]
        have hrow : (List.map PV.i X2).set j (PV.v (Value.int IntKind.i64 y)) = x.map PV.i := by rw [← hX2s, List.map_set]
        rw [hrow]
        have hl0 : H0.length = H.length + 3 := by rw [hH0]; simp
        refine round_end' (by omega) (Wk_keep [0, 4, 5, 9, 11, 14, 80, 81]) ⟨H2.set H.length (.row (x.map PV.i) 1 3 false), l2, fun v => if v = j then r else f v, ⟨?_, fun i h1 h2 => ?_⟩, ?_, hl2, fun v hv => ?_, by omega, ?_⟩
        · have := hF.le; have := hF2.le; rw [List.length_set]; omega
        · by_cases e : i = H.length
          · subst e; rw [List.getElem?_set_self h2l, hz0]
          · rw [List.getElem?_set_ne (by omega), hF2.same i h1 (by have := hF.le; omega), h1o i e, hF.same i h1 h2]
        · rw [List.getElem?_set_ne (by omega)]; exact hm2
        · by_cases e : v = j
          · subst e; simp only [if_true]; exact ⟨hr, hrb⟩
          · simp only [if_neg e]; exact hf v (by omega)
        · have hmf : minF D (fun v => (if v = j then r else f v) + 1) (j + 1) = min m (r + 1) := by
            have h1 : minF D (fun v => (if v = j then r else f v) + 1) j = m := by
              rw [hm]
              refine minF_congr fun v hv => ?_
              (try dsimp only)
              rw [if_neg (by omega)]
            simp only [minF, if_true, h1]
          rw [hmf]
          rfl
      · have hjn' : n = j := by omega
        subst hjn'
        have hrk := rank_step hM hn0 hwx fun v hv => (hf v hv).1
        rw [hxs, ← hm] at hrk
        have hrd := RankIs.equi hx.eq.symm hrk
        have hml := lt_some hm'
        have hFs : ∀ z, Fk mo H (H'.set mo z) := fun z => ⟨by rw [List.length_set]; exact Nat.le_trans (by rw [hH0]; simp) hF.le, fun i h1 h2 => by
          rw [List.getElem?_set_ne (fun e => h1 e.symm), hF.same i h1 (by rw [hH0, List.length_append]; omega), hH0, List.getElem?_append_left h2]⟩
        have hxB : ∀ y ∈ x, 0 ≤ y ∧ y < (b : Int) := fun y hy => by
          obtain ⟨v, hv, rfl⟩ := List.mem_iff_getElem.1 hy
          have h1 := hxe v (by omega)
          have h2 := hxD v (by omega)
          rw [getD_get hv] at h1 h2
          omega
        cases hdj : dIdx kv l' with
        | none =>
          simp -implicitDefEqProofs (disch := omega) [List.getElem?_cons_zero, List.getElem?_cons_succ, wrap_id, hw0, hw2, hwf, hm', hxl, hpl, hpi, hpb, -KV.fit, hpf, -isB, -ints, ← hkv, -dIdx, hdj, -getElem?_pos]
          refine finH trivial rfl (hK m _ _ hrd (by omega) (hFs _) (by rw [List.getElem?_set_self hml]) ?_)
          rw [hkv] at hdj ⊢
          exact hl'.add hxl hxB (by omega) hrk hdj
        | some i =>
          obtain ⟨hi, hie⟩ := dIdx_some hdj
          obtain ⟨x', hx'l, hx'b, r, hrb, hre, hrr⟩ := hl'.en _ (List.getElem_mem hi)
          have hxx : x' = x := by
            rw [hre] at hie
            simp only at hie
            rw [hkv] at hie
            injection hie with hie
            exact padZ_inj hx'l hxl hie
          subst hxx
          have hrm := RankIs.unique hn0 hrr hrk
          subst hrm
          have hsame : l'.set i (kv, AV.i r) = l' := by
            rw [hkv, ← hre, List.set_getElem_self]
          simp -implicitDefEqProofs (disch := omega) [List.getElem?_cons_zero, List.getElem?_cons_succ, wrap_id, hw0, hw2, hwf, hm', hxl, hpl, hpi, hpb, -KV.fit, hpf, -isB, -ints, ← hkv, -dIdx, hdj, -getElem?_pos]
          refine finH trivial rfl (hK r _ _ hrd (by omega) (hFs _) (by rw [List.getElem?_set_self hml]) ?_)
          rw [hsame]
          exact hl'
end
end Go.Proofs.Ytolfhldbfeffaaa
end
section
set_option linter.unusedSimpArgs false
set_option linter.unusedVariables false
namespace Go.Proofs.Ytolfhldbfeffaaa
open Go.Abs Go.Sand
theorem rgiven1_ok (n : Nat) (es : List Ed) (hel : es.length ≤ 900) (hc : connE n es = 0) (a : List Int) (ha : dcheck a n = 0) (hal : a.length ≤ 1000) : PC Try.prog 24 [G n es, .sl [.is a]] (.i 0) [] := by
  obtain ⟨hg, hp⟩ := conn_good hc
  rw [Int.toNat_natCast] at hp
  have hr : (rootsL es n).length = 1 := hp
  refine PC_of_W cfn24 ?_
  simp -implicitDefEqProofs (disch := omega) [c24, List.getElem?_cons_zero, List.getElem?_cons_succ, wrap_id]
  refine HC_of_PC rfl (connected_ok n es hel hg) ?_
  simp -implicitDefEqProofs (disch := omega) [List.getElem?_cons_zero, List.getElem?_cons_succ, wrap_id, hr]
  refine loopW 1 (fun k st => st = ⟨[(22, .i k), (21, .i 1), (20, .p (.sl [.is a])), (2, .ptr 0 1 0 0)], [.box (.p (G n es))]⟩) (wk_norm [0] [22, 21, 20, 2] rfl rfl) rfl ?_
  rintro k st hk rfl
  match k, hk with
  | 0, _ =>
    simp -implicitDefEqProofs (disch := omega) [List.getElem?_cons_zero, List.getElem?_cons_succ, wrap_id]
    refine HC_of_PC rfl (chk_ok a n (by omega)) ?_
    simp -implicitDefEqProofs (disch := omega) [List.getElem?_cons_zero, List.getElem?_cons_succ, wrap_id, ha]
    exact round_end [0] [22, 21, 20, 2] (by omega) rfl rfl
  | 1, _ =>
    simp -implicitDefEqProofs (disch := omega) [List.getElem?_cons_zero, List.getElem?_cons_succ, wrap_id]
    (refine fin0 trivial rfl ?_; simp -implicitDefEqProofs (disch := omega) [List.getElem?_cons_zero, List.getElem?_cons_succ, idx, wrap_id])
theorem gcheck_ll {N : Int} {es : List Ed} (h : gcheck N es = 0) : gcheck N (llE es) = 0 := gcheck_mk (llE_good (gcheck_ok h))
section
variable {n : Nat} {es : List Ed} (hs : Sm n es)
include hs
theorem rkof_ok : PC Try.prog 25 [G n es] (.tup [.ptr 1 1 0 0, .i 0]) [.dict (.arr 12) [], .box (.agg [.p (.i n), .p (.sl (es.map edP)), .p (.i (genE n es)), .mp 0])] := by
  have hg := (conn_good hs.c).1
  have hel := hs.el
  have hgl := gcheck_ll hg
  have hll := llE_len es
  have hgg := gen_ll hs
  refine PC_of_W cfn25 ?_
  simp -implicitDefEqProofs (disch := omega) [c25, List.getElem?_cons_zero, List.getElem?_cons_succ, wrap_id]
  refine HC_of_PC rfl (loopless_ok n es (by omega) hg) ?_
  simp -implicitDefEqProofs (disch := omega) [List.getElem?_cons_zero, List.getElem?_cons_succ, wrap_id]
  refine HC_of_PC rfl (ggenus_ok n (llE es) (by omega)) ?_
  rw [if_pos hgl, hgl, hgg]
  simp -implicitDefEqProofs (disch := omega) [List.getElem?_cons_zero, List.getElem?_cons_succ, wrap_id]
  exact finσ [2, 3] trivial rfl rfl rfl rfl
theorem gen_bd : ∃ b : Nat, (b : Int) = max 1 (2 * genE n es - 1) ∧ b ^ n < 16384 := by
  have hn1 := hs.n1
  have hn5 := hs.n5
  have h1 := llE_ends es
  have h2 := hs.m7
  obtain ⟨L, hL⟩ : ∃ L, L = (endsL (llE es)).length := ⟨_, rfl⟩
  refine ⟨(max 1 (2 * genE n es - 1)).toNat, by omega, ?_⟩
  unfold genE
  rw [← hL] at h1 ⊢
  have hL8 : L = 0 ∨ L = 1 ∨ L = 2 ∨ L = 3 ∨ L = 4 ∨ L = 5 ∨ L = 6 ∨ L = 7 := by omega
  have hn6 : n = 1 ∨ n = 2 ∨ n = 3 ∨ n = 4 ∨ n = 5 := by omega
  clear hL
  rcases hn6 with rfl | rfl | rfl | rfl | rfl <;> rcases hL8 with rfl | rfl | rfl | rfl | rfl | rfl | rfl | rfl <;> decide
/-- What Rank leaves. -/
def RankR (n : Nat) (es : List Ed) (d : List Int) (r : AV) (HR : List AO) : Prop := ∃ k : Int, (-1 ≤ k ∧ k ≤ 1000) ∧ RankIs n (joinE es) (fun v => d.getD v 0) k ∧ r = .tup [.i k, .i 0] ∧ HR = []
theorem rank_ok {d : List Int} (hdl : d.length = n) (hdb : AbsLe 110 d) : PCR Try.prog 9 [G n es, .is d] (RankR n es d) := by
  have hn1 := hs.n1
  have hn5 := hs.n5
  have hd := dcheck_zero (by omega) hdl (hdb.mono (by omega))
  obtain ⟨b, hb, hbn⟩ := gen_bd hs
  refine PCR_of_W cfn9 ?_
  simp -implicitDefEqProofs (disch := omega) [c9, List.getElem?_cons_zero, List.getElem?_cons_succ, wrap_id]
  refine HC_of_PC rfl (rgiven1_ok n es hs.el hs.c d hd (by omega)) ?_
  simp -implicitDefEqProofs (disch := omega) [List.getElem?_cons_zero, List.getElem?_cons_succ, wrap_id]
  refine HC_of_PC rfl (rkof_ok hs) ?_
  simp -implicitDefEqProofs (disch := omega) [List.getElem?_cons_zero, List.getElem?_cons_succ, wrap_id]
  refine rank_hc hs (fo := 3) (mo := 2) (by omega) hb hbn ((sumN (fun v => d.getD v 0) n + 1).toNat) hdl hdb (by omega) rfl rfl rfl (MIn.nil n es b) ?_
  rintro r H' l' hr hrb hF hm hl
  simp -implicitDefEqProofs (disch := omega) [List.getElem?_cons_zero, List.getElem?_cons_succ, wrap_id]
  exact finQ [] trivial rfl rfl rfl rfl ⟨r, hrb, hr, rfl, rfl⟩
end
end Go.Proofs.Ytolfhldbfeffaaa
end
section
set_option linter.unusedSimpArgs false
set_option linter.unusedVariables false
set_option linter.unusedSectionVars false
namespace Go.Proofs.Ytolfhldbfeffaaa
open Go.Sand
/-- So many chips at a vertex. -/
def mulF (v : Nat) (k : Int) : Nat → Int := fun u => if u = v then k else 0
theorem mulF_sum {n v : Nat} (hv : v < n) (k : Int) : sumN (mulF v k) n = k := by
  have := sumN_one v n k
  rw [if_pos hv] at this
  exact this
section
variable {n : Nat} {J : Nat → Nat → Int} (hM : MG n J) (hn : 0 < n)
include hM hn
theorem rank_up {D : Nat → Int} {v : Nat} (hv : v < n) {k k' : Int} (h : RankIs n J D k) (h' : RankIs n J (fun u => D u + oneF v u) k') : k ≤ k' ∧ k' ≤ k + 1 := by
  have h1 := h.low
  have h2 := h'.low
  constructor
  · by_cases hk : 0 ≤ k
    · have h3 := (h.ge hn k.toNat).2 (by omega)
      have h4 : RkGe n J (fun u => D u + oneF v u) k.toNat := fun E e1 e2 => by
        have h5 := (h3 E e1 e2).add (oneF_eff n v)
        refine (WinF.equi (Equi.of_eq fun u _ => ?_)).1 h5
        (try dsimp only); omega
      have := (h'.ge hn k.toNat).1 h4
      omega
    · omega
  · by_cases hk : 1 ≤ k'
    · have h3 := (h'.ge hn ((k' - 1).toNat + 1)).2 (by omega)
      have h4 := rk_succ.1 h3 v hv
      have h5 : RkGe n J D (k' - 1).toNat := RkGe.equi (Equi.of_eq fun u _ => by (try dsimp only); omega) h4
      have := (h.ge hn (k' - 1).toNat).1 h5
      omega
    · omega
theorem ones_rank : RkGe n J (fun _ => 1) 1 := by
  refine rk_succ.2 fun v hv => rk_zero.2 ⟨fun u => 1 - oneF v u, fun u hu => ?_, Equi.of_eq fun u _ => rfl⟩
  (try dsimp only); unfold oneF; split <;> omega
theorem zero_rank {k : Int} (h : RankIs n J (fun _ => 0) k) : k = 0 := by
  have h1 := (h.win hn).1 ⟨fun _ => 0, fun _ _ => Int.le_refl 0, Equi.refl _⟩
  by_cases hk : 1 ≤ k
  · have h2 := rk_deg hM hn ((h.ge hn 1).2 (by omega))
    rw [sumN_zero] at h2
    omega
  · omega
theorem gap_rank {v : Nat} (hv : v < n) {g : Int} (hg : sumN (kanF n J) n = 2 * g - 2) {l : Nat → Int} (hl : ∀ k : Nat, (k : Int) ≤ max 0 (2 * g - 1) → RankIs n J (mulF v k) (l k)) {p : Nat} (hp1 : 1 ≤ p)
    (hgap : ∀ k, 1 ≤ k → k < p → (k : Int) < 2 * g ∧ l k = l (k - 1)) (hp : (p : Int) < 2 * g → l p ≠ l (p - 1)) : RkGe n J (mulF v p) 1 := by
  have h0 : l 0 = 0 := zero_rank hM hn (k := l 0) (by
    have := hl 0 (by omega)
    refine RankIs.equi (Equi.of_eq fun u _ => ?_) this
    simp [mulF])
  have hz : ∀ k, k < p → l k = 0 := by
    intro k
    induction k with
    | zero => intro _; exact h0
    | succ k ih =>
      intro hk
      rw [(hgap (k + 1) (by omega) hk).2, Nat.add_sub_cancel]
      exact ih (by omega)
  have hstep : ∀ k : Nat, (fun u => mulF v k u + oneF v u) = mulF v ((k + 1 : Nat) : Int) := fun k => funext fun u => by
    unfold mulF oneF
    split <;> simp
  by_cases hc : (p : Int) < 2 * g
  · have h1 := hl (p - 1) (by omega)
    have h2 := hl p (by omega)
    rw [show mulF v (p : Int) = mulF v (((p - 1) + 1 : Nat) : Int) by rw [Nat.sub_add_cancel hp1], ← hstep] at h2
    have h3 := rank_up hM hn hv h1 h2
    rw [hz (p - 1) (by omega)] at h3
    have h4 := hp hc
    rw [hz (p - 1) (by omega)] at h4
    have h5 := (h2.ge hn 1).2 (by omega)
    rw [hstep, Nat.sub_add_cancel hp1] at h5
    exact h5
  · by_cases hp2 : p = 1
    · subst hp2
      have h1 := rank_high hM hn (D := mulF v ((1 : Nat) : Int)) hg (by rw [mulF_sum hv]; omega) (by rw [mulF_sum hv]; omega)
      rw [mulF_sum hv] at h1
      exact (h1.ge hn 1).2 (by omega)
    · have h1 := (hgap (p - 1) (by omega) (by omega)).1
      have hpg : (p : Int) = 2 * g := by omega
      have h2 := hl (p - 1) (by omega)
      rw [hz (p - 1) (by omega)] at h2
      have h3 := rank_high hM hn (D := mulF v ((p - 1 : Nat) : Int)) hg (by rw [mulF_sum hv]; omega) (by rw [mulF_sum hv]; omega)
      rw [mulF_sum hv] at h3
      have h4 := RankIs.unique hn h2 h3
      have h5 := rank_high hM hn (D := mulF v (p : Int)) hg (by rw [mulF_sum hv]; omega) (by rw [mulF_sum hv]; omega)
      rw [mulF_sum hv] at h5
      exact (h5.ge hn 1).2 (by omega)
end
end Go.Proofs.Ytolfhldbfeffaaa
end
section
set_option linter.unusedSimpArgs false
set_option linter.unusedVariables false
set_option linter.unusedSectionVars false
namespace Go.Proofs.Ytolfhldbfeffaaa
open Go.Sand
/-- The gaps up to k. -/
def gapL (l : Nat → Int) : Nat → List Int
  | 0 => []
  | k + 1 => gapL l k ++ if l (k + 1) = l k then [((k + 1 : Nat) : Int)] else []
theorem sumI_app : ∀ (a : List Int) (x : Int), sumI (a ++ [x]) = sumI a + x
  | [], x => by simp [sumI]
  | y :: a, x => by simp only [List.cons_append, sumI, sumI_app a x]; omega
theorem gapL_mem (l : Nat → Int) : ∀ k (x : Int), x ∈ gapL l k ↔ ∃ j : Nat, x = j ∧ 1 ≤ j ∧ j ≤ k ∧ l j = l (j - 1)
  | 0, x => by simp [gapL]; omega
  | k + 1, x => by
    rw [gapL, List.mem_append, gapL_mem l k x]
    constructor
    · rintro (⟨j, h1, h2, h3, h4⟩ | h)
      · exact ⟨j, h1, h2, by omega, h4⟩
      · split at h
        · rename_i e
          rw [List.mem_singleton] at h
          exact ⟨k + 1, h, by omega, by omega, e⟩
        · cases h
    · rintro ⟨j, h1, h2, h3, h4⟩
      by_cases hj : j = k + 1
      · subst hj
        right
        rw [Nat.add_sub_cancel] at h4
        rw [if_pos h4, h1]
        simp
      · exact .inl ⟨j, h1, h2, by omega, h4⟩
theorem gapL_len (l : Nat → Int) (K : Nat) (h0 : l 0 = 0) (hst : ∀ k, k < K → l k ≤ l (k + 1) ∧ l (k + 1) ≤ l k + 1) : ∀ k, k ≤ K → ((gapL l k).length : Int) = k - l k
  | 0, _ => by simp [gapL, h0]
  | k + 1, h => by
    have ih := gapL_len l K h0 hst k (by omega)
    have h1 := hst k (by omega)
    rw [gapL, List.length_append]
    push_cast
    split
    · rename_i e; rw [e]; simp; omega
    · simp; omega
/-- The gaps weigh at least as much as the first numbers; more, if one of the first two is none. -/
theorem gapL_sum (l : Nat → Int) : ∀ k, ((gapL l k).length : Int) * ((gapL l k).length + 1) ≤ 2 * sumI (gapL l k) ∧ (gapL l k).length ≤ k
  | 0 => by simp [gapL, sumI]
  | k + 1 => by
    obtain ⟨h1, h2⟩ := gapL_sum l k
    rw [gapL]
    split
    · rw [sumI_app, List.length_append, List.length_singleton]
      refine ⟨?_, by omega⟩
      obtain ⟨c, hc⟩ : ∃ c : Int, c = ((gapL l k).length : Int) := ⟨_, rfl⟩
      have hck : c ≤ k := by omega
      push_cast
      rw [← hc] at h1 ⊢
      have e : (c + 1) * (c + 1 + 1) = c * (c + 1) + 2 * (c + 1) := by
        rw [Int.add_mul, Int.mul_add c, Int.mul_add c]; omega
      rw [e]
      omega
    · rw [List.append_nil]; exact ⟨h1, by omega⟩
theorem gapL_more (l : Nat → Int) (h : ¬ (l 1 = l 0 ∧ l 2 = l 1)) : ∀ k, 2 ≤ k → (gapL l k).length + 1 ≤ k ∧ (2 ≤ (gapL l k).length → ((gapL l k).length : Int) * ((gapL l k).length + 1) + 2 ≤ 2 * sumI (gapL l k))
  | 0, h2 => by omega
  | 1, h2 => by omega
  | 2, _ => by
    have e : gapL l 2 = (if l 1 = l 0 then [(1 : Int)] else []) ++ if l 2 = l 1 then [(2 : Int)] else [] := rfl
    rw [e]
    by_cases a : l 1 = l 0
    · have b : ¬ l 2 = l 1 := fun b => h ⟨a, b⟩
      rw [if_pos a, if_neg b]
      simp
    · rw [if_neg a]
      split <;> simp
  | k + 3, _ => by
    obtain ⟨h1, h2⟩ := gapL_more l h (k + 2) (by omega)
    obtain ⟨h3, h4⟩ := gapL_sum l (k + 2)
    rw [gapL]
    split
    · rw [sumI_app, List.length_append, List.length_singleton]
      refine ⟨by omega, fun _ => ?_⟩
      obtain ⟨c, hc⟩ : ∃ c : Int, c = ((gapL l (k + 2)).length : Int) := ⟨_, rfl⟩
      have hck : c + 1 ≤ k + 2 := by omega
      push_cast
      rw [← hc] at h3 ⊢
      have e : (c + 1) * (c + 1 + 1) = c * (c + 1) + 2 * (c + 1) := by
        rw [Int.add_mul, Int.mul_add c, Int.mul_add c]; omega
      rw [e]
      omega
    · rw [List.append_nil]; exact ⟨by omega, h2⟩
section
variable {n : Nat} {J : Nat → Nat → Int} (hM : MG n J) (hn : 0 < n)
include hM hn
theorem along_step {v : Nat} (hv : v < n) {l : Nat → Int} {K : Nat} (hl : ∀ k, k ≤ K → RankIs n J (mulF v k) (l k)) : l 0 = 0 ∧ ∀ k, k < K → l k ≤ l (k + 1) ∧ l (k + 1) ≤ l k + 1 := by
  constructor
  · refine zero_rank hM hn ?_
    have := hl 0 (by omega)
    refine RankIs.equi (Equi.of_eq fun u _ => ?_) this
    simp [mulF]
  · intro k hk
    have h1 := hl k (by omega)
    have h2 := hl (k + 1) (by omega)
    have hstep : (fun u => mulF v k u + oneF v u) = mulF v ((k + 1 : Nat) : Int) := funext fun u => by
      unfold mulF oneF
      split <;> simp
    rw [← hstep] at h2
    exact rank_up hM hn hv h1 h2
/-- The weight is not negative; it is positive where two chips have at least the rank 1. -/
theorem weight_pos {v : Nat} (hv : v < n) {g : Nat} (hg2 : 2 ≤ g) (hg : sumN (kanF n J) n = 2 * (g : Int) - 2) {l : Nat → Int} (hl : ∀ k, k ≤ 2 * g - 1 → RankIs n J (mulF v k) (l k)) :
    (g : Int) * (g + 1) ≤ 2 * sumI (gapL l (2 * g - 1)) ∧ (1 ≤ l 2 → (g : Int) * (g + 1) + 2 ≤ 2 * sumI (gapL l (2 * g - 1))) := by
  obtain ⟨h0, hst⟩ := along_step hM hn hv hl
  have h1 := gapL_len l (2 * g - 1) h0 hst (2 * g - 1) (Nat.le_refl _)
  have h2 := hl (2 * g - 1) (Nat.le_refl _)
  have h3 := rank_high hM hn (D := mulF v ((2 * g - 1 : Nat) : Int)) hg (by rw [mulF_sum hv]; omega) (by rw [mulF_sum hv]; omega)
  rw [mulF_sum hv] at h3
  have h4 := RankIs.unique hn h2 h3
  have h5 : ((gapL l (2 * g - 1)).length : Int) = g := by omega
  have h6 := gapL_sum l (2 * g - 1)
  rw [h5] at h6
  refine ⟨h6.1, fun h7 => ?_⟩
  have h8 := (gapL_more l (fun hc => by omega) (2 * g - 1) (by omega)).2 (by omega)
  rw [h5] at h8
  exact h8
end
end Go.Proofs.Ytolfhldbfeffaaa
end
section
set_option linter.unusedSimpArgs false
set_option linter.unusedVariables false
set_option linter.unusedSectionVars false
namespace Go.Proofs.Ytolfhldbfeffaaa
open Go.Sand
/-- The last place up to j with chips, or 0. -/
def topJ (d : List Int) : Nat → Nat
  | 0 => 0
  | j + 1 => if d.getD (j + 1) 0 = 0 then topJ d j else j + 1
/-- The next one of its degree. -/
def stepL (d : List Int) : Option (List Int) :=
  let j := topJ d (d.length - 1)
  if j = 0 then none else some (((d.set j 0).set (j - 1) (d.getD (j - 1) 0 + 1)).set (d.length - 1) (d.getD j 0 - 1))
/-- A divisor and all behind it. -/
def runL : Nat → List Int → List (List Int)
  | 0, d => [d]
  | f + 1, d => d :: match stepL d with
    | some e => runL f e
    | none => []
def firstL (n k : Nat) : List Int := (List.replicate n (0 : Int)).set (n - 1) (k : Int)
def allL (n k : Nat) : List (List Int) := runL 130 (firstL n k)
def effB (n k : Nat) (d : List Int) : Bool := decide (d.length = n) && decide (sumI d = k) && d.all fun x => decide (0 ≤ x)
theorem allL_ok : ∀ n, n < 6 → 1 ≤ n → ∀ k, k < 6 → (allL n k).all (effB n k) = true ∧ (allL n k).length ≤ 126 := by decide +kernel
theorem allL_at : ∀ n, n < 6 → ∀ k, k < 6 → ∀ v, v < n → ((List.replicate n (0 : Int)).set v (k : Int)) ∈ allL n k := by decide +kernel
theorem allL_ones : ∀ n, n < 6 → 1 ≤ n → List.replicate n (1 : Int) ∈ allL n n := by decide +kernel
end Go.Proofs.Ytolfhldbfeffaaa
end
section
set_option linter.unusedSimpArgs false
set_option linter.unusedVariables false
namespace Go.Proofs.Ytolfhldbfeffaaa
open Go.Abs Go.Sand
/-- The rank. -/
noncomputable def rkF (n : Nat) (J : Nat → Nat → Int) (D : Nat → Int) : Int := by
  classical exact if h : ∃ k, RankIs n J D k then h.choose else 0
theorem rkF_eq {n : Nat} {J : Nat → Nat → Int} (hn : 0 < n) {D : Nat → Int} {k : Int} (h : RankIs n J D k) : rkF n J D = k := by
  have hx : ∃ k, RankIs n J D k := ⟨k, h⟩
  unfold rkF
  rw [dif_pos hx]
  exact RankIs.unique hn hx.choose_spec h
/-- So many chips at a vertex, as a list. -/
def atL (n v : Nat) (k : Int) : List Int := (List.replicate n (0 : Int)).set v k
theorem atL_len (n v : Nat) (k : Int) : (atL n v k).length = n := by simp [atL]
theorem atL_get {n v : Nat} (hv : v < n) (k : Int) {u : Nat} (hu : u < n) : (atL n v k).getD u 0 = mulF v k u := by
  unfold atL mulF
  by_cases e : u = v
  · subst e
    simp [hu]
  · simp [List.getElem?_set, Ne.symm e, hu, e]
theorem atL_abs {n v : Nat} {k B : Int} (h0 : 0 ≤ k) (hk : k ≤ B) : AbsLe B (atL n v k) := fun u => by
  unfold atL
  by_cases hu : u < n
  · by_cases e : v = u
    · subst e
      simp [hu]; omega
    · simp [List.getElem?_set, e, hu]; omega
  · rw [List.getD_eq_getElem?_getD, List.getElem?_eq_none (by simp; omega)]
    simp; omega
theorem wgiven_ok (n : Nat) (es : List Ed) (hel : es.length ≤ 900) (hc : connE n es = 0) : PC Try.prog 38 [G n es] (.i 0) [] := by
  obtain ⟨hg, hp⟩ := conn_good hc
  rw [Int.toNat_natCast] at hp
  have hr : (rootsL es n).length = 1 := hp
  refine PC_of_W cfn38 ?_
  simp -implicitDefEqProofs (disch := omega) [c38, List.getElem?_cons_zero, List.getElem?_cons_succ, wrap_id]
  refine HC_of_PC rfl (connected_ok n es hel hg) ?_
  simp -implicitDefEqProofs (disch := omega) [List.getElem?_cons_zero, List.getElem?_cons_succ, wrap_id, hr]
  (refine fin0 trivial rfl ?_; simp -implicitDefEqProofs (disch := omega) [List.getElem?_cons_zero, List.getElem?_cons_succ, idx, wrap_id])
theorem gjoined_ok (n : Nat) (es : List Ed) (hel : es.length ≤ 900) (hc : connE n es = 0) : PC Try.prog 17 [G n es] (.i 0) [] := by
  obtain ⟨hg, hp⟩ := conn_good hc
  rw [Int.toNat_natCast] at hp
  have hr : (rootsL es n).length = 1 := hp
  refine PC_of_W cfn17 ?_
  simp -implicitDefEqProofs (disch := omega) [c17, List.getElem?_cons_zero, List.getElem?_cons_succ, wrap_id]
  refine HC_of_PC rfl (connected_ok n es hel hg) ?_
  simp -implicitDefEqProofs (disch := omega) [List.getElem?_cons_zero, List.getElem?_cons_succ, wrap_id, hr]
  (refine fin0 trivial rfl ?_; simp -implicitDefEqProofs (disch := omega) [List.getElem?_cons_zero, List.getElem?_cons_succ, idx, wrap_id])
theorem wat_ok (n : Nat) (es : List Ed) (hel : es.length ≤ 900) (hc : connE n es = 0) (v : Nat) (hv : v < n) : PC Try.prog 21 [G n es, .i v] (.i 0) [] := by
  have hv2 : ¬ (v : Int) < 0 := by omega
  have hv3 : ¬ (n : Int) ≤ v := by omega
  have hv4 : ¬ n ≤ v := by omega
  refine PC_of_W cfn21 ?_
  simp -implicitDefEqProofs (disch := omega) [c21, List.getElem?_cons_zero, List.getElem?_cons_succ, wrap_id]
  refine HC_of_PC rfl (wgiven_ok n es hel hc) ?_
  simp -implicitDefEqProofs (disch := omega) [List.getElem?_cons_zero, List.getElem?_cons_succ, wrap_id, hv2, hv3, hv4]
  (refine fin0 trivial rfl ?_; simp -implicitDefEqProofs (disch := omega) [List.getElem?_cons_zero, List.getElem?_cons_succ, idx, wrap_id])
theorem zero_ok (n : Nat) (h1 : 1 ≤ n) (h2 : n ≤ 12) : PC Try.prog 69 [.i n] (.tup [.os 0 0 n, .i 0]) [rowZ (List.replicate n 0)] := by
  have hv : vertsErr n = 0 := by unfold vertsErr; rw [if_neg (by omega)]
  have h3 : n ≤ 1048576 := by omega
  refine PC_of_W cfn69 ?_
  simp -implicitDefEqProofs (disch := omega) [c69, List.getElem?_cons_zero, List.getElem?_cons_succ, wrap_id]
  refine HC_of_PC rfl (vertices_ok n) ?_
  rw [hv]
  simp -implicitDefEqProofs (disch := omega) [List.getElem?_cons_zero, List.getElem?_cons_succ, wrap_id, h3]
  exact finσ [0] trivial rfl rfl rfl (by simp [renH, rowZ, AO.ren])
theorem csome_ok (n : Nat) (h1 : 1 ≤ n) (h2 : n ≤ 12) (v : Nat) (hv : v < n) (k : Nat) (hk : k ≤ 1048576) : PC Try.prog 58 [.i n, .i v, .i k] (.tup [.os 0 0 n, .i 0]) [rowZ (atL n v k)] := by
  have hv2 : ¬ (v : Int) < 0 := by omega
  have hv3 : ¬ (n : Int) ≤ v := by omega
  have hv4 : ¬ n ≤ v := by omega
  have hb : inB k = true := inB_iff.2 (by omega)
  refine PC_of_W cfn58 ?_
  simp -implicitDefEqProofs (disch := omega) [c58, List.getElem?_cons_zero, List.getElem?_cons_succ, wrap_id]
  refine HC_of_PC rfl (zero_ok n h1 h2) ?_
  simp -implicitDefEqProofs (disch := omega) [List.getElem?_cons_zero, List.getElem?_cons_succ, wrap_id, hv2, hv3, hv4]
  refine HC_of_PC rfl (within_ok k) ?_
  simp -implicitDefEqProofs (disch := omega) [List.getElem?_cons_zero, List.getElem?_cons_succ, wrap_id, hb, hv]
  exact finσ [0] trivial rfl rfl rfl (by simp [renH, rowZ, AO.ren, atL])
section
variable {n : Nat} {es : List Ed} (hs : Sm n es)
include hs
theorem gen_le : genE n es ≤ 6 := by
  have hn1 := hs.n1
  have h1 := llE_ends es
  have h2 := hs.m7
  unfold genE
  by_cases h : n = 1
  · have he : llE es = [] := by
      unfold llE
      rw [List.filter_eq_nil_iff]
      intro x hx
      have hr := hs.g.right x hx
      have := hr.a0
      have := hr.an
      have := hr.b0
      have := hr.bn
      simp; omega
    rw [he, h]
    simp [endsL]
  · omega
theorem wgenus_ok : PC Try.prog 22 [G n es] (.tup [.i (genE n es), .i 0]) [] := by
  have hg := (conn_good hs.c).1
  have hel := hs.el
  have hgl := gcheck_ll hg
  have hll := llE_len es
  have hgg := gen_ll hs
  have hle := gen_le hs
  have hle2 : ¬ 6 < genE n es := by omega
  refine PC_of_W cfn22 ?_
  simp -implicitDefEqProofs (disch := omega) [c22, List.getElem?_cons_zero, List.getElem?_cons_succ, wrap_id]
  refine HC_of_PC rfl (loopless_ok n es (by omega) hg) ?_
  simp -implicitDefEqProofs (disch := omega) [List.getElem?_cons_zero, List.getElem?_cons_succ, wrap_id]
  refine HC_of_PC rfl (ggenus_ok n (llE es) (by omega)) ?_
  rw [if_pos hgl, hgl, hgg]
  simp -implicitDefEqProofs (disch := omega) [List.getElem?_cons_zero, List.getElem?_cons_succ, wrap_id, hle2]
  (refine fin0 trivial rfl ?_; simp -implicitDefEqProofs (disch := omega) [List.getElem?_cons_zero, List.getElem?_cons_succ, idx, wrap_id])
end
end Go.Proofs.Ytolfhldbfeffaaa
end
