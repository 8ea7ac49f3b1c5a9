/-
  Texts joined: Rw Rx Acf.
-/
import Derived.Test.YtpnbahmhdhjndaaGreatKe27

section
set_option linter.unusedSimpArgs false
set_option linter.unusedVariables false
set_option linter.unusedSectionVars false
namespace Go.Proofs.YtpnbahmhdhjndaaGreat
open Go.Abs Go.Sand
/-- The debt of a divisor. -/
def oweL : List Int → Int
  | [] => 0
  | x :: d => - min x 0 + oweL d
theorem oweL_snoc (d : List Int) (k : Nat) (h : k < d.length) : oweL (d.take (k + 1)) = oweL (d.take k) - min d[k] 0 := by
  have e : ∀ (a : List Int) (x : Int), oweL (a ++ [x]) = oweL a - min x 0 := by
    intro a x
    induction a with
    | nil => simp only [List.nil_append, oweL]; omega
    | cons y a ih => simp only [List.cons_append, oweL, ih]; omega
  rw [List.take_succ_eq_append_getElem h, e]
theorem owed_ok (d : List Int) (hl : d.length ≤ 12) (hb : AbsLe 1000000 d) : PC Tryz.prog 99 [.is d] (.i (oweL d)) [] := by
  have hs : ∀ k, k ≤ d.length → 0 ≤ oweL (d.take k) ∧ oweL (d.take k) ≤ 1000000 * (k : Int) := by
    intro k
    induction k with
    | zero => intro _; simp [oweL]
    | succ k ih =>
      intro h
      have := ih (by omega)
      have h2 := hb.get (show k < d.length by omega)
      rw [oweL_snoc d k (by omega)]
      omega
  refine PC_of_W cfn99 ?_
  simp -implicitDefEqProofs (disch := omega) [c99, List.getElem?_cons_zero, List.getElem?_cons_succ, wrap_id]
  refine loopW d.length (fun k s => s = ⟨[(8, .i k), (7, .i d.length), (6, .p (.is d)), (3, .i (oweL (d.take k)))], []⟩) (wk_norm [] [8, 7, 6, 3] rfl rfl) rfl ?_
  rintro k s hk rfl
  by_cases hlt : k < d.length
  · have h1 := hs k hk
    have h2 := hs (k + 1) hlt
    have h3 := oweL_snoc d k hlt
    have h4 := hb.get hlt
    rw [h3] at h2
    obtain ⟨y, hy⟩ : ∃ y, y = oweL (d.take k) := ⟨_, rfl⟩
    rw [← hy] at h1 h2 h3 ⊢
    simp -implicitDefEqProofs (disch := omega) [List.getElem?_cons_zero, List.getElem?_cons_succ, wrap_id, hlt]
    exact round_end [] [8, 7, 6, 3] hlt rfl (by rw [h3]; rfl)
  · simp -implicitDefEqProofs (disch := omega) [List.getElem?_cons_zero, List.getElem?_cons_succ, wrap_id, hlt]
    (refine fin0 trivial rfl ?_; simp -implicitDefEqProofs (disch := omega) [List.getElem?_cons_zero, List.getElem?_cons_succ, idx, wrap_id, List.take_of_length_le (Nat.le_of_not_lt hlt)])
theorem bound2_ok (d : List Int) (hl : d.length ≤ 12) (hb : AbsLe 1000000 d) : PC Tryz.prog 104 [.is d, .i 2] (.i ((oweL d + 1) / 2)) [] := by
  have h0 : ∀ l : List Int, 0 ≤ oweL l := fun l => by
    induction l with
    | nil => simp [oweL]
    | cons x l ih => simp only [oweL]; omega
  have h1 : ∀ l : List Int, (∀ x ∈ l, -1000000 ≤ x) → oweL l ≤ 1000000 * (l.length : Int) := fun l => by
    induction l with
    | nil => intro _; simp [oweL]
    | cons x l ih =>
      intro h
      have := ih fun y hy => h y (by simp [hy])
      have := h x (by simp)
      simp only [oweL, List.length_cons]; omega
  have h2 := h0 d
  have h3 := h1 d fun x hx => by
    obtain ⟨i, hi, rfl⟩ := List.mem_iff_getElem.1 hx
    exact (hb.get hi).1
  refine PC_of_W cfn104 ?_
  simp -implicitDefEqProofs (disch := omega) [c104, List.getElem?_cons_zero, List.getElem?_cons_succ, wrap_id]
  refine HC_of_PC rfl (owed_ok d hl hb) ?_
  obtain ⟨y, hy⟩ : ∃ y, y = oweL d := ⟨_, rfl⟩
  rw [← hy] at h2 h3 ⊢
  have e : y + 2 - 1 = y + 1 := by omega
  have e2 : (y + 1).tdiv 2 = (y + 1) / 2 := Int.tdiv_eq_ediv_of_nonneg (by omega)
  simp -implicitDefEqProofs (disch := omega) [List.getElem?_cons_zero, List.getElem?_cons_succ, wrap_id, e, e2]
  (refine fin0 trivial rfl ?_; simp -implicitDefEqProofs (disch := omega) [List.getElem?_cons_zero, List.getElem?_cons_succ, idx, wrap_id])
theorem keyed_ok (a b c : Int) : PC Tryz.prog 103 [.is [a, b, c]] (.p (.agg ((padZ [a, b, c]).map PV.i))) [] := by
  refine PC_of_W cfn103 ?_
  simp -implicitDefEqProofs (disch := omega) [c103, List.getElem?_cons_zero, List.getElem?_cons_succ, wrap_id]
  (refine fin0 trivial rfl ?_; simp -implicitDefEqProofs (disch := omega) [List.getElem?_cons_zero, List.getElem?_cons_succ, idx, wrap_id, padZ])
theorem great_ok : PC Tryz.prog 67 [G 3 tri20] (.i 2) [] := by
  refine PC_of_W cfn67 ?_
  simp -implicitDefEqProofs (disch := omega) [c67, List.getElem?_cons_zero, List.getElem?_cons_succ, wrap_id]
  refine loopW 3 (fun k st => st = ⟨[(9, .i k), (8, .i 3), (3, .i (if k = 0 then 0 else 2)), (1, .ptr 0 1 0 0)], [.box (.p (G 3 tri20))]⟩) (wk_norm [0] [9, 8, 3, 1] rfl rfl) rfl ?_
  rintro k st hk rfl
  match k, hk with
  | 0, _ =>
    simp -implicitDefEqProofs (disch := omega) [List.getElem?_cons_zero, List.getElem?_cons_succ, wrap_id]
    refine HC_of_PC rfl (val_ok 3 tri20 0 (by decide) (by decide) (by decide)) ?_
    rw [show valS tri20 0 = 2 by decide]
    simp -implicitDefEqProofs (disch := omega) [List.getElem?_cons_zero, List.getElem?_cons_succ, wrap_id]
    exact round_end [0] [9, 8, 3, 1] (by omega) rfl rfl
  | 1, _ =>
    simp -implicitDefEqProofs (disch := omega) [List.getElem?_cons_zero, List.getElem?_cons_succ, wrap_id]
    refine HC_of_PC rfl (val_ok 3 tri20 1 (by decide) (by decide) (by decide)) ?_
    rw [show valS tri20 1 = 2 by decide]
    simp -implicitDefEqProofs (disch := omega) [List.getElem?_cons_zero, List.getElem?_cons_succ, wrap_id]
    exact round_end [0] [9, 8, 3, 1] (by omega) rfl rfl
  | 2, _ =>
    simp -implicitDefEqProofs (disch := omega) [List.getElem?_cons_zero, List.getElem?_cons_succ, wrap_id]
    refine HC_of_PC rfl (val_ok 3 tri20 2 (by decide) (by decide) (by decide)) ?_
    rw [show valS tri20 2 = 2 by decide]
    simp -implicitDefEqProofs (disch := omega) [List.getElem?_cons_zero, List.getElem?_cons_succ, wrap_id]
    exact round_end [0] [9, 8, 3, 1] (by omega) rfl rfl
  | 3, _ =>
    simp -implicitDefEqProofs (disch := omega) [List.getElem?_cons_zero, List.getElem?_cons_succ, wrap_id]
    (refine fin0 trivial rfl ?_; simp -implicitDefEqProofs (disch := omega) [List.getElem?_cons_zero, List.getElem?_cons_succ, idx, wrap_id])
/-- What holds ahead of each round of what a script leaves. -/
def BhI (n : Nat) (es : List Ed) (s d : List Int) (so : Nat) (H : List AO) (k : Nat) (st : St) : Prop := ∃ Z, st = ⟨[(20, .i k), (19, .i es.length), (18, .p (.sl (es.map edP))), (5, .os H.length 0 n), (1, .os so 0 n)], H ++ rowZ (movedE (es.take k) s d) :: Z⟩
set_option maxRecDepth 10000 in
set_option maxHeartbeats 2000000 in
theorem behind_hc {n : Nat} {es : List Ed} (hg : GoodG n es) {s d : List Int} (hd : d.length = n) (hs : s.length = n) (bs : AbsLe 10 s) (bd : AbsLe 1000 d) {H : List AO} {xo so : Nat} {mo li : PV} (hx : H[xo]? = some (.box (.p (.agg [.i n, .sl (es.map edP), .is d, mo, li])))) (ho : H[so]? = some (rowZ s)) {K : AV → List AO → Prop}
    (hK : ∀ Z, K (.os H.length 0 n) (H ++ rowZ (movedE es s d) :: Z)) : HC Tryz.prog false 100 [.ptr xo 1 0 0, .os so 0 n] H K := by
  have hel := good_few hg
  have hn := hg.n12
  have hsl := lt_some ho
  have hfl : ∀ x : Ed, Right n x → -1000 ≤ flow s x ∧ flow s x ≤ 1000 := fun x hr => by
    have a := bs x.a.toNat
    have b := bs x.b.toNat
    have m1 := hr.m1
    have m2 := hr.m50
    unfold flow
    obtain ⟨t, ht⟩ : ∃ t, t = s.getD x.a.toNat 0 - s.getD x.b.toNat 0 := ⟨_, rfl⟩
    rw [← ht]
    have h1 : -20 ≤ t ∧ t ≤ 20 := by omega
    have h2 : x.m * t ≤ x.m * 20 := Int.mul_le_mul_of_nonneg_left (by omega) (by omega)
    have h3 : x.m * (-20) ≤ x.m * t := Int.mul_le_mul_of_nonneg_left (by omega) (by omega)
    omega
  have hb' : ∀ k, k ≤ es.length → AbsLe (1000 + 2000 * (k : Int)) (movedE (es.take k) s d) ∧ (movedE (es.take k) s d).length = n := by
    intro k
    induction k with
    | zero => intro _; exact ⟨by simpa [movedE] using bd, by rw [movedE_length, hd]⟩
    | succ k ih =>
      intro hk
      obtain ⟨h1, h2⟩ := ih (by omega)
      rw [movedE_snoc es _ _ k (by omega)]
      refine ⟨fun v => ?_, by rw [movE_length, h2]⟩
      have hf := hfl es[k] (hg.right _ (List.getElem_mem (by omega)))
      have a1 := h1 v
      have a2 := h1 es[k].a.toNat
      have a3 := h1 es[k].b.toNat
      unfold movE
      simp only [getD_set, List.length_set]
      push_cast
      split
      · split <;> omega
      · split <;> omega
  refine HC_of_W (af := _) ((by exact cfn100 : cfn _ _ _ = some _)) ?_
  simp -implicitDefEqProofs (disch := omega) [c100, List.getElem?_cons_zero, List.getElem?_cons_succ, wrap_id, hx, -getElem?_pos]
  refine HC_of_PC rfl (clone20_ok d (by omega)) ?_
  have hx2 : ∀ Z, (H ++ Z)[xo]? = _ := fun Z => app_some hx Z
  simp -implicitDefEqProofs (disch := omega) [List.getElem?_cons_zero, List.getElem?_cons_succ, wrap_id, hx2, hd, -getElem?_pos]
  refine loopW es.length (BhI n es s d so H) (Wk_keep [20, 19, 18, 5, 1]) ⟨[], rfl⟩ ?_
  rintro k st hk ⟨Z, rfl⟩
  by_cases hlt : k < es.length
  · have hx := hg.right es[k] (List.getElem_mem hlt)
    have hek : es[k]? = some es[k] := List.getElem?_eq_getElem hlt
    have hf := hfl es[k] hx
    obtain ⟨hB, hLl⟩ := hb' k hk
    have hms := movedE_snoc es s d k hlt
    obtain ⟨M, hM⟩ : ∃ M, M = movedE (es.take k) s d := ⟨_, rfl⟩
    rw [← hM] at hB hLl hms ⊢
    obtain ⟨x, hxe⟩ : ∃ x, x = es[k] := ⟨_, rfl⟩
    rw [← hxe] at hms hx hf
    obtain ⟨p, hp⟩ : ∃ p : Nat, x.a = p := ⟨x.a.toNat, by have := hx.a0; omega⟩
    obtain ⟨q, hq⟩ : ∃ q : Nat, x.b = q := ⟨x.b.toNat, by have := hx.b0; omega⟩
    obtain ⟨m, hm⟩ : ∃ m, m = x.m := ⟨_, rfl⟩
    have hx2 : edP es[k] = .agg [PV.i p, PV.i q, PV.i m] := by rw [← hxe, edP, hp, hq, hm]
    have hpn : p < n := by have := hx.an; omega
    have hqn : q < n := by have := hx.bn; omega
    have m1 := hx.m1
    have m50 := hx.m50
    rw [← hm] at m1 m50
    unfold movE at hms
    unfold flow at hf hms
    rw [hp, hq, Int.toNat_natCast, Int.toNat_natCast, ← hm] at hf hms
    have sp : s[p]? = some (s.getD p 0) := by rw [List.getElem?_eq_getElem (by omega), getD_get (by omega)]
    have sq : s[q]? = some (s.getD q 0) := by rw [List.getElem?_eq_getElem (by omega), getD_get (by omega)]
    have g1 : M[p]? = some (M.getD p 0) := by rw [List.getElem?_eq_getElem (by omega), getD_get (by omega)]
    have c1 := bs p
    have c2 := bs q
    obtain ⟨u, hu⟩ : ∃ u, u = s.getD p 0 := ⟨_, rfl⟩
    obtain ⟨w, hw⟩ : ∃ w, w = s.getD q 0 := ⟨_, rfl⟩
    obtain ⟨y, hy⟩ : ∃ y, y = M.getD p 0 := ⟨_, rfl⟩
    have b1 := hB p
    rw [← hu] at sp c1 hf hms
    rw [← hw] at sq c2 hf hms
    rw [← hy] at g1 b1 hms
    obtain ⟨f, hff⟩ : ∃ f, m * (u - w) = f := ⟨_, rfl⟩
    rw [hff] at hf hms
    have g2 : (M.set p (y - f))[q]? = some ((M.set p (y - f)).getD q 0) := by
      have hq' : q < (M.set p (y - f)).length := by rw [List.length_set]; omega
      rw [List.getElem?_eq_getElem hq', getD_get hq']
    have b2 : -500000 ≤ (M.set p (y - f)).getD q 0 ∧ (M.set p (y - f)).getD q 0 ≤ 500000 := by
      rw [getD_set]
      have := hB q
      split <;> omega
    obtain ⟨z, hz⟩ : ∃ z, z = (M.set p (y - f)).getD q 0 := ⟨_, rfl⟩
    rw [← hz] at g2 b2 hms
    have g2' : ((List.map PV.i M).set p (PV.v (.int .i64 (y - f))))[q]? = some (.i z) := by
      have := congrArg (Option.map PV.i) g2
      rw [← List.getElem?_map, List.map_set] at this
      exact this
    obtain ⟨X, hX⟩ : ∃ X, X = H ++ rowZ M :: Z := ⟨_, rfl⟩
    have hXa : X[H.length]? = some (.row (M.map PV.i) 1 3 false) := by rw [hX, List.getElem?_append_right (by omega)]; simp [rowZ]
    have hXs : X[so]? = some (.row (s.map PV.i) 1 3 false) := by rw [hX, List.getElem?_append_left (by omega)]; exact ho
    have hXl := lt_some hXa
    have gX : ∀ y, (X ++ [y])[X.length]? = some y := fun y => by simp
    have gA : ∀ Y, (X ++ Y)[H.length]? = _ := fun Y => app_some hXa Y
    have gS : ∀ Y, (X ++ Y)[so]? = _ := fun Y => app_some hXs Y
    have sA : ∀ Y z, (X ++ Y).set H.length z = X.set H.length z ++ Y := fun Y z => List.set_append_left _ _ hXl
    have sAA : ∀ z Y, (X.set H.length z ++ Y)[H.length]? = some z := fun z Y => by rw [List.getElem?_append_left (by simpa using hXl), List.getElem?_set_self hXl]
    have gB : ∀ z y, (X.set H.length z ++ [y])[X.length]? = some y := fun z y => by simp
    have sB : ∀ r1 Y r2, (X.set H.length r1 ++ Y).set H.length r2 = X.set H.length r2 ++ Y := fun r1 Y r2 => by rw [List.set_append_left _ _ (by simpa using hXl), List.set_set]
    have eX : ∀ M' b, X.set H.length (rowZ M') ++ [b] = H ++ rowZ M' :: (Z ++ [b]) := fun M' b => by
      rw [hX, List.set_append_right _ _ (by omega)]
      simp
    have hrw : ((List.map PV.i M).set p (PV.v (Value.int IntKind.i64 (y - f)))).set q (PV.v (Value.int IntKind.i64 (z + f))) = List.map PV.i ((M.set p (y - f)).set q (z + f)) := by rw [List.map_set, List.map_set]
    rw [← hX]
    simp -implicitDefEqProofs (disch := omega) [List.getElem?_cons_zero, List.getElem?_cons_succ, wrap_id, hlt, hek, hx2, gX, gA, gS, sA, sAA, gB, sB, hLl, hs, sp, sq, g1, g2', hff, hpn, hqn, -getElem?_pos]
    rw [hrw]
    exact round_end' hlt (Wk_keep [20, 19, 18, 5, 1]) ⟨Z ++ [_], by rw [hms, ← eX]; rfl⟩
  · have hke : k = es.length := by omega
    subst hke
    rw [List.take_length]
    simp -implicitDefEqProofs (disch := omega) [List.getElem?_cons_zero, List.getElem?_cons_succ, wrap_id]
    exact finH trivial rfl (hK _)
end Go.Proofs.YtpnbahmhdhjndaaGreat
end
section
set_option linter.unusedSimpArgs false
set_option linter.unusedVariables false
set_option linter.unusedSectionVars false
namespace Go.Proofs.YtpnbahmhdhjndaaGreat
open Go.Abs Go.Sand
theorem behind_abs {n : Nat} {es : List Ed} (hg : GoodG n es) {s d : List Int} (hd : d.length = n) (bs : AbsLe 10 s) (bd : AbsLe 1000 d) : AbsLe 1000000 (movedE es s d) := by
  have hel := good_few hg
  have hb' : ∀ k, k ≤ es.length → AbsLe (1000 + 2000 * (k : Int)) (movedE (es.take k) s d) := by
    intro k
    induction k with
    | zero => intro _; simpa [movedE] using bd
    | succ k ih =>
      intro hk
      have h1 := ih (by omega)
      rw [movedE_snoc es _ _ k (by omega)]
      intro v
      have hr := hg.right es[k] (List.getElem_mem (by omega))
      have hf : -1000 ≤ flow s es[k] ∧ flow s es[k] ≤ 1000 := by
        have a := bs es[k].a.toNat
        have b := bs es[k].b.toNat
        have m1 := hr.m1
        have m2 := hr.m50
        unfold flow
        obtain ⟨t, ht⟩ : ∃ t, t = s.getD es[k].a.toNat 0 - s.getD es[k].b.toNat 0 := ⟨_, rfl⟩
        rw [← ht]
        have h1 : -20 ≤ t ∧ t ≤ 20 := by omega
        have h2 : es[k].m * t ≤ es[k].m * 20 := Int.mul_le_mul_of_nonneg_left (by omega) (by omega)
        have h3 : es[k].m * (-20) ≤ es[k].m * t := Int.mul_le_mul_of_nonneg_left (by omega) (by omega)
        omega
      have a1 := h1 v
      have a2 := h1 es[k].a.toNat
      have a3 := h1 es[k].b.toNat
      unfold movE
      simp only [getD_set, List.length_set]
      push_cast
      split
      · split <;> omega
      · split <;> omega
  have := hb' es.length (Nat.le_refl _)
  rw [List.take_length] at this
  exact this.mono (by omega)
/-- What holds ahead of each round of the search of a winner. -/
def WnI (n m : Nat) (r : Nat → Nat) (w to xo : Nat) (H : List AO) (k : Nat) (st : St) : Prop := ∃ Z, st = ⟨[(10, .i k), (9, .i m), (8, .os to 0 m), (5, if w < k then .os (r w) 0 n else .p (.v (.slice none 0 0))), (0, .ptr xo 1 0 0)], H ++ Z⟩
set_option maxRecDepth 10000 in
set_option maxHeartbeats 2000000 in
theorem winner_hc {n : Nat} {es : List Ed} (hg : GoodG n es) {d : List Int} (hd : d.length = n) (bd : AbsLe 1000 d) {m : Nat} (hm : m ≤ 100) {r : Nat → Nat} {ss : Nat → List Int} {T : TypeId} {H : List AO} {xo to : Nat} {mo li : PV} (hx : H[xo]? = some (.box (.p (.agg [.i n, .sl (es.map edP), .is d, mo, li]))))
    (ht : H[to]? = some (.tab ((List.range m).map fun i => AV.os (r i) 0 n) T false)) (hr : ∀ i, i < m → H[r i]? = some (rowZ (ss i)) ∧ (ss i).length = n ∧ AbsLe 10 (ss i)) {w : Nat} (hw : ∀ i, i < m → (oweL (movedE es (ss i) d) = 0 ↔ i = w))
    {K : AV → List AO → Prop} (hK : ∀ Z, K (if w < m then .os (r w) 0 n else .p (.v (.slice none 0 0))) (H ++ Z)) : HC Tryz.prog false 68 [.ptr xo 1 0 0, .os to 0 m] H K := by
  have hn := hg.n12
  have hxl := lt_some hx
  have htl : ((List.range m).map fun i => AV.os (r i) 0 n).length = m := by simp
  refine HC_of_W (af := _) ((by exact cfn68 : cfn _ _ _ = some _)) ?_
  simp -implicitDefEqProofs (disch := omega) [c68, List.getElem?_cons_zero, List.getElem?_cons_succ, wrap_id, ht, htl, -getElem?_pos]
  refine loopW m (WnI n m r w to xo H) (Wk_keep [10, 9, 8, 5, 0]) ⟨[], by show _ = _; rw [List.append_nil]; rfl⟩ ?_
  rintro k st hk ⟨Z, rfl⟩
  have ht2 : ∀ Z, (H ++ Z)[to]? = _ := fun Z => app_some ht Z
  by_cases hlt : k < m
  · obtain ⟨hrk, hsl, hsb⟩ := hr k hlt
    have hwk := hw k hlt
    have hek : ((List.range m).map fun i => AV.os (r i) 0 n)[k]? = some (.os (r k) 0 n) := by simp [hlt]
    have hbl : (movedE es (ss k) d).length = n := by rw [movedE_length, hd]
    have hba := behind_abs hg hd hsb bd
    obtain ⟨X, hX⟩ : ∃ X, X = H ++ Z := ⟨_, rfl⟩
    have hXt := ht2 Z
    have hXx := app_some hx Z
    have hXr := app_some hrk Z
    rw [← hX] at hXt hXx hXr ⊢
    have hro : ∀ W, (X ++ rowZ (movedE es (ss k) d) :: W)[X.length]? = some (rowZ (movedE es (ss k) d)) := fun W => by simp
    have hro2 : rowZ (movedE es (ss k) d) = .row ((movedE es (ss k) d).map PV.i) 1 3 false := rfl
    simp -implicitDefEqProofs (disch := omega) [List.getElem?_cons_zero, List.getElem?_cons_succ, wrap_id, hlt, hXt, htl, hek, -getElem?_pos]
    refine behind_hc hg hd hsl hsb bd hXx hXr fun Z2 => ?_
    simp -implicitDefEqProofs (disch := omega) [List.getElem?_cons_zero, List.getElem?_cons_succ, wrap_id]
    refine HC_of_PC (ps := [.is (movedE es (ss k) d)]) (views1 (by simp [view, viewC, ownEls, hro, hbl])) (owed_ok _ (by omega) hba) ?_
    by_cases hz : oweL (movedE es (ss k) d) = 0
    · have hkw := hwk.1 hz
      subst hkw
      have hnk : ¬ k < k := by omega
      simp -implicitDefEqProofs (disch := omega) [List.getElem?_cons_zero, List.getElem?_cons_succ, wrap_id, hz, hnk, stepK_eqn, eqnP]
      exact round_end' hlt (Wk_keep [10, 9, 8, 5, 0]) ⟨Z ++ rowZ (movedE es (ss k) d) :: Z2, by rw [hX, List.append_assoc, if_pos (Nat.lt_succ_self k)]; rfl⟩
    · have hkw : ¬ k = w := fun e => hz (hwk.2 e)
      have hwk1 : w < k + 1 ↔ w < k := by omega
      have e5 : (if w < k + 1 then AV.os (r w) 0 n else AV.p (.v (.slice none 0 0))) = if w < k then AV.os (r w) 0 n else AV.p (.v (.slice none 0 0)) := by simp only [hwk1]
      simp -implicitDefEqProofs (disch := omega) [List.getElem?_cons_zero, List.getElem?_cons_succ, wrap_id, hz]
      exact round_end' hlt (Wk_keep [10, 9, 8, 5, 0]) ⟨Z ++ rowZ (movedE es (ss k) d) :: Z2, by rw [hX, List.append_assoc, e5]; rfl⟩
  · have hke : k = m := by omega
    subst hke
    simp -implicitDefEqProofs (disch := omega) [List.getElem?_cons_zero, List.getElem?_cons_succ, wrap_id]
    exact finH trivial rfl (hK _)
end Go.Proofs.YtpnbahmhdhjndaaGreat
end
section
namespace Go
namespace Abs
open Go.RowKit
/-- A function that only reads a variable of one's own, and slices: wherever it is called. -/
theorem HC_of_call {P : Program} {e : Bool} {f : FuncId} {args fz : List AV} {H : List AO} {r : AV} {HR : List AO} (hcall : ∀ (M : Mem) (vs : List Value), MemOk M → M.H = H → RAs M args vs → Calls P f vs.toArray M.w fun en w' => ∃ v φ, en = .returned v ∧ MemOk ⟨w', HR, φ, M.w.heap.size, Mem.shared ⟨M.w, frzL M.H fz, M.φ, M.base, M.S⟩⟩ ∧ RA ⟨w', HR, φ, M.w.heap.size, Mem.shared ⟨M.w, frzL M.H fz, M.φ, M.base, M.S⟩⟩ r v ∧ Below M.w.heap.size M.w w') {R : AV → List AO → Prop}
    (hR : R (r.ren HR fun o => some (o + H.length)) (hpast H fz r HR)) : HC P e f args H R := by
  intro M vs hM hH ha
  subst hH
  obtain ⟨hf1, hf2⟩ := frzL_ok (M := M) fz (H := M.H) hM
  obtain ⟨Hs, hHs⟩ : ∃ Hs, Hs = if calmA r && HR.all calmO then M.H else frzL M.H fz := ⟨_, rfl⟩
  have hHl : Hs.length = M.H.length := by
    rw [hHs]
    split
    · rfl
    · exact frzL_length _ _
  have hMs : MemOk ⟨M.w, Hs, M.φ, M.base, M.S⟩ ∧ Le M ⟨M.w, Hs, M.φ, M.base, M.S⟩ := by
    rw [hHs]
    split
    · exact ⟨hM, Le.refl M⟩
    · exact ⟨hf1, hf2⟩
  obtain ⟨hMs1, hMs2⟩ := hMs
  refine (hcall M vs hM rfl ha).mono ?_
  rintro en w' ⟨v, φR, rfl, hMc, hr, hb⟩
  obtain ⟨ρ, hρ⟩ : ∃ ρ : Nat → Option Nat, ρ = fun o => some (o + M.H.length) := ⟨_, rfl⟩
  obtain ⟨Mc, hMcd⟩ : ∃ Mc : Mem, Mc = ⟨w', HR, φR, M.w.heap.size, Mem.shared ⟨M.w, frzL M.H fz, M.φ, M.base, M.S⟩⟩ := ⟨_, rfl⟩
  obtain ⟨M', hMd'⟩ : ∃ M' : Mem, M' = ⟨w', Hs ++ HR.map (AO.ren HR ρ), fun o => if o < M.H.length then M.φ o else φR (o - M.H.length), M.base, M.S⟩ := ⟨_, rfl⟩
  rw [← hMcd] at hMc hr
  have hφlo : ∀ o, o < M.H.length → M'.φ o = M.φ o := fun o ho => by rw [hMd']; simp [ho]
  have hφhi : ∀ o, M'.φ (o + M.H.length) = φR o := fun o => by rw [hMd']; dsimp only; rw [if_neg (by omega), Nat.add_sub_cancel]
  have hHlo : ∀ o, o < M.H.length → M'.H[o]? = Hs[o]? := fun o ho => by rw [hMd']; dsimp only; rw [List.getElem?_append_left (by omega)]
  have hHhi : ∀ o, M'.H[o + M.H.length]? = (HR[o]?).map (AO.ren HR ρ) := fun o => by
    rw [hMd']; dsimp only
    rw [List.getElem?_append_right (by omega), hHl, Nat.add_sub_cancel, List.getElem?_map]
  have hlt : ∀ o b, o < M.H.length → M.φ o = some b → b < M.w.heap.size := fun o b ho hb => hM.lt ho hb
  have hge : ∀ o b, o < HR.length → φR o = some b → M.w.heap.size ≤ b := fun o b ho hb => by
    have := hMc.lo o b (by rw [hMcd]; exact ho) (by rw [hMcd]; exact hb)
    rw [hMcd] at this
    exact this
  -- whoever stands in M' stands here or there
  have hwho : ∀ (o : Nat) (ob : AO), M'.H[o]? = some ob → (o < M.H.length ∧ Hs[o]? = some ob) ∨ ∃ k ob', o = k + M.H.length ∧ HR[k]? = some ob' ∧ ob = ob'.ren HR ρ := by
    intro o ob ho
    rcases Nat.lt_or_ge o M.H.length with h1 | h1
    · exact .inl ⟨h1, by rw [← hHlo o h1]; exact ho⟩
    · refine .inr ⟨o - M.H.length, ?_⟩
      have := hHhi (o - M.H.length)
      rw [Nat.sub_add_cancel h1, ho] at this
      obtain ⟨ob', h2, h3⟩ := Option.map_eq_some_iff.1 this.symm
      exact ⟨ob', by omega, h2, h3.symm⟩
  have hren : RenOk Mc M' ρ := by
    refine ⟨fun o o' ob h1 h2 => ?_, fun o ob h1 => ?_⟩
    · rw [hρ] at h1
      injection h1 with h1
      subst h1
      rw [hMcd] at h2 ⊢
      have hl := ob.ren_len HR ρ
      exact ⟨_, by rw [hHhi, show HR[o]? = some ob from h2]; rfl, hl.2.2.1, hl.1, hl.2.1, hφhi o, fun b _ => by rw [hMd']⟩
    · rw [hρ] at h1; cases h1
  have hsome : ∀ o, (ρ o).isSome = true := fun o => by rw [hρ]; rfl
  have hsh : (calmA r && HR.all calmO) = false → ShOk Mc M' := by
    intro hcf b hb
    rw [hcf] at hHs
    simp only [Bool.false_eq_true, if_false] at hHs
    rw [hMcd] at hb
    refine ⟨⟨by rw [hMd']; exact hb.1, fun hlt2 => ?_, fun o ob ho hf => ?_⟩, by rw [hMd', hMcd]⟩
    · rw [hMd'] at hlt2 ⊢
      dsimp only at hlt2
      exact (hb.2.1 (Nat.lt_of_lt_of_le hlt2 hM.bs)).2.1 hlt2
    · rcases hwho o ob ho with ⟨h1, h2⟩ | ⟨k, ob', rfl, h2, h3⟩
      · rw [hφlo o h1]
        intro e
        have hbl := hlt o b h1 e
        exact (hb.2.1 hbl).2.2 o ob (by rw [← hHs]; exact h2) hf e
      · rw [hφhi]
        subst h3
        rw [(ob'.ren_len HR ρ).2.2.2] at hf
        exact hb.2.2 k ob' h2 hf
  have hcs : ∀ {q : Bool}, (calmA r && HR.all calmO) = q → (q = true ∧ ∀ o, (ρ o).isSome = true) ∨ ShOk Mc M' := by
    intro q hq
    cases q
    · exact .inr (hsh hq)
    · exact .inl ⟨rfl, hsome⟩
  have hold : ∀ b, b < M.w.heap.size → w'.heap[b]? = M.w.heap[b]? := fun b hb2 => hb.block b hb2
  have hle : Le ⟨M.w, Hs, M.φ, M.base, M.S⟩ M' := by
    refine ⟨fun b hb2 => ⟨⟨by rw [hMd']; exact Nat.lt_of_lt_of_le hb2.1 hb.size, by rw [hMd']; exact hb2.2.1, fun o ob ho hf => ?_⟩, by rw [hMd']; exact hold b hb2.1⟩, fun o ob ho => ?_⟩
    · rcases hwho o ob ho with ⟨h1, h2⟩ | ⟨k, ob', rfl, h2, h3⟩
      · rw [hφlo o h1]
        exact hb2.2.2 o ob h2 hf
      · rw [hφhi]
        intro e
        have := hge k b (List.getElem?_eq_some_iff.1 h2).1 e
        have := hb2.1
        dsimp only at this
        omega
    · have h1 : o < M.H.length := by have := (List.getElem?_eq_some_iff.1 ho).1; dsimp only at this; omega
      refine ⟨ob, by rw [hHlo o h1]; exact ho, rfl, Nat.le_refl _, fun _ => ⟨rfl, hφlo o h1, fun b hb2 => ?_⟩⟩
      have := hold b (hlt o b h1 hb2)
      rw [hMd']
      simp [World.shape?, this]
  have hM' : MemOk M' := by
    refine ⟨fun o ob ho => ?_, fun o1 o2 b k1 k2 k3 k4 => ?_, fun o b k1 k2 => ?_, by rw [hMd']; exact Nat.le_trans hM.bs hb.size⟩
    · rcases hwho o ob ho with ⟨h1, h2⟩ | ⟨k, ob', rfl, h2, h3⟩
      · refine (hMs1.ok o ob h2).mono hle (hφlo o h1) (fun b hb2 => ?_)
        rw [hMd']
        exact hold b (hlt o b h1 hb2)
      · subst h3
        have := ObOk.ren (o' := k + M.H.length) (M' := M') hMc hren (o := k) (ob := ob') (by rw [hφhi, hMcd]) (fun b _ => by rw [hMd', hMcd]) (hMc.ok k ob' (by rw [hMcd]; exact h2))
        rw [hMcd] at this
        rw [hMcd] at hsh
        refine this ?_
        cases hq : (calmA r && HR.all calmO)
        · exact .inr (hsh hq)
        · simp only [Bool.and_eq_true] at hq
          exact .inl ⟨List.all_eq_true.1 hq.2 _ (List.mem_of_getElem? h2), hsome⟩
    · rw [hMd'] at k1 k2
      simp only [List.length_append, List.length_map, hHl] at k1 k2
      rcases Nat.lt_or_ge o1 M.H.length with c1 | c1 <;> rcases Nat.lt_or_ge o2 M.H.length with c2 | c2
      · rw [hφlo _ c1] at k3
        rw [hφlo _ c2] at k4
        exact hM.inj o1 o2 b c1 c2 k3 k4
      · rw [hφlo _ c1] at k3
        rw [show o2 = (o2 - M.H.length) + M.H.length by omega, hφhi] at k4
        have := hlt _ _ c1 k3
        have := hge _ _ (by omega) k4
        omega
      · rw [hφlo _ c2] at k4
        rw [show o1 = (o1 - M.H.length) + M.H.length by omega, hφhi] at k3
        have := hlt _ _ c2 k4
        have := hge _ _ (by omega) k3
        omega
      · rw [show o1 = (o1 - M.H.length) + M.H.length by omega, hφhi] at k3
        rw [show o2 = (o2 - M.H.length) + M.H.length by omega, hφhi] at k4
        have := hMc.inj (o1 - M.H.length) (o2 - M.H.length) b (by rw [hMcd]; dsimp only; omega) (by rw [hMcd]; dsimp only; omega) (by rw [hMcd]; exact k3) (by rw [hMcd]; exact k4)
        omega
    · rw [hMd'] at k1
      simp only [List.length_append, List.length_map, hHl] at k1
      have hbase : M'.base = M.base := by rw [hMd']
      rw [hbase]
      rcases Nat.lt_or_ge o M.H.length with c1 | c1
      · rw [hφlo _ c1] at k2
        exact hM.lo o b c1 k2
      · rw [show o = (o - M.H.length) + M.H.length by omega, hφhi] at k2
        have := hge _ _ (by omega) k2
        have := hM.bs
        omega
  refine ⟨v, r.ren HR ρ, M'.H, M'.φ, rfl, ?_, ?_, ?_, ?_, ?_, fun _ => Early.Ext.of_below hb⟩
  · rw [hMd', hρ]
    rw [hHs]
    exact hR
  · rw [hMd'] at hM' ⊢; exact hM'
  · have := hMs2.trans hle
    rw [hMd'] at this ⊢; exact this
  · have := RA.ren hMc hren hr (by
      rcases hcs (q := calmA r && HR.all calmO) rfl with ⟨h1, h2⟩ | h1
      · simp only [Bool.and_eq_true] at h1
        exact .inl ⟨h1.1, h2⟩
      · exact .inr h1)
    rw [hMcd] at this
    rw [hMd'] at this ⊢
    exact this
  · exact ⟨hb.os, hb.tape, hb.output, hb.size, fun k hk => hb.block k (by have := hM.bs; omega)⟩
/-- A function that only reads through a pointer, and leaves objects of its own. -/
theorem HC_ptrO {P : Program} {e : Bool} {f : FuncId} {af : AFn} {o j : Nat} {H : List AO} {y : AV} {ps rp : List PV} {rest : List AV} {r : AV} {HR : List AO} {R : AV → List AO → Prop} (hf : cfn P f (rest.length + 1) = some af) (ho : H[o]? = some (.box y)) (hv : view H (.agg y.flat) = some (.agg ps)) (hvr : views H rest = some rp)
    (h : W P 0 af.body (Fin 0 af.res fun r' H' => r' = r ∧ H' = HR) ⟨initT 0 (.sp (.agg ps) j :: rp.map .p), []⟩) (hR : R (r.ren HR fun o => some (o + H.length)) (hpast H (.agg y.flat :: .bs o 0 0 :: rest) r HR)) : HC P e f (.ptr o 1 0 j :: rest) H R := by
  refine HC_of_call (fz := .agg y.flat :: .bs o 0 0 :: rest) ?_ hR
  intro M vs hM hH ha
  subst hH
  obtain ⟨hf1, hf2⟩ := frzL_ok (M := M) (.agg y.flat :: .bs o 0 0 :: rest) (H := M.H) hM
  have hfz : Fz (frzL M.H (.agg y.flat :: .bs o 0 0 :: rest)) o (.box y) := frzL_self (.agg y.flat :: .bs o 0 0 :: rest) M.H (.bs o 0 0) (by simp) _ ho
  obtain ⟨H2, hH2⟩ : ∃ H2, H2 = frzL M.H (.agg y.flat :: .bs o 0 0 :: rest) := ⟨_, rfl⟩
  have hself : FzV M.H H2 (.agg y.flat) := by rw [hH2]; exact frzL_self (.agg y.flat :: .bs o 0 0 :: rest) M.H (.agg y.flat) (by simp)
  rw [← hH2] at hf1 hf2 hfz
  have hfz' : H2[o]? = some (.fbx y) := hfz
  obtain ⟨b, cur, t, hb, hc, hcells⟩ := hM.ok o _ ho
  have hagg : RA M (.agg y.flat) (.agg cur) := .agg _ _ hcells.1 (fun c hc => by
    obtain ⟨i, hi, rfl⟩ := Array.mem_iff_getElem.1 hc
    obtain ⟨c', h1, _, h3⟩ := hcells.2 i (by rw [← hcells.1]; exact hi)
    rw [Array.getElem?_eq_getElem hi] at h1
    injection h1 with h1
    rw [h1]; exact h3) (fun i hi hi' => by
    obtain ⟨c', h1, h2, _⟩ := hcells.2 i hi
    rw [Array.getElem?_eq_getElem hi'] at h1
    injection h1 with h1
    rw [h1]; exact h2)
  have hRP := view_ok (M' := ⟨M.w, H2, M.φ, M.base, M.S⟩) hf2 hf1 hagg hv hself
  have hrl := (views_get hvr).1
  have hl := ha.1
  simp only [List.length_cons] at hl
  have hRR : ∀ i (hi : i < rp.length) (hi' : i + 1 < vs.length), RP (Mem.shared ⟨M.w, H2, M.φ, M.base, M.S⟩) M.w rp[i] vs[i + 1] := fun i hi hi' => view_ok (M' := ⟨M.w, H2, M.φ, M.base, M.S⟩) hf2 hf1 (by have := ha.2 (i + 1) (by simp only [List.length_cons]; omega) hi'; exact this) ((views_get hvr).2 i _ hi) (by rw [hH2]; exact frzL_self (.agg y.flat :: .bs o 0 0 :: rest) M.H _ (by simp))
  have hsb : Mem.shared ⟨M.w, H2, M.φ, M.base, M.S⟩ b := shared_of hf1 hfz' rfl hb
  rw [← hH2]
  obtain ⟨S2, hS2⟩ : ∃ S2, S2 = Mem.shared ⟨M.w, H2, M.φ, M.base, M.S⟩ := ⟨_, rfl⟩
  rw [← hS2]
  rw [← hS2] at hRP hsb hRR
  have hup : ∀ b, S2 b → Mem.shared ⟨M.w, [], fun _ => none, M.w.heap.size, S2⟩ b ∧ M.w.heap[b]? = M.w.heap[b]? := fun b hb => ⟨⟨by rw [hS2] at hb; exact hb.1, fun _ => hb, fun o ob h => by simp at h⟩, rfl⟩
  have hM3 : MemOk ⟨M.w, [], fun _ => none, M.w.heap.size, S2⟩ := ⟨fun o ob h => by simp at h, fun o o' b h => by simp at h, fun o b h => by simp at h, Nat.le_refl _⟩
  have ha3 : RAs ⟨M.w, [], fun _ => none, M.w.heap.size, S2⟩ (.sp (.agg ps) j :: rp.map .p) vs := by
    refine ⟨by simp; omega, fun i hi hi' => ?_⟩
    have hai := ha.2 i (by simp at hi; simp; omega) hi'
    cases i with
    | zero =>
      simp only [List.getElem_cons_zero] at hai ⊢
      generalize vs[0] = v0 at hai ⊢
      cases hai with
      | ptr o n i j v hp =>
        obtain ⟨ob, k1, k2, k3⟩ := hp
        rw [ho] at k1
        injection k1 with k1
        subst k1
        obtain ⟨b', k4, rfl⟩ := k3 rfl
        rw [hb] at k4
        injection k4 with k4
        subst k4
        have e1 : 0 * (AO.box y).sz + j = 0 + j := by simp
        rw [e1]
        cases hRP with
        | agg l cs h1 h2 h3 =>
          refine .sp (.agg ps) j b 0 (fun k => cur.getD k undef) (hup b hsb).1 h2 (fun k hk => ?_) (fun k hk => ?_)
          · have hk' : k < cur.size := by rw [h1]; exact hk
            rw [Nat.zero_add]
            simp [World.cell?, hc, hk']
          · have hk' : k < cur.size := by rw [h1]; exact hk
            have e2 : cur.getD k undef = cur[k] := by simp [Array.getD, hk']
            show RP _ _ _ (cur.getD k undef)
            rw [e2]
            exact (h3 k hk hk').mono hup
    | succ i =>
      simp only [List.getElem_cons_succ, List.getElem_map] at hai ⊢
      exact .p _ _ ((hRR i (by simpa using hi) hi').mono hup)
  refine (fin_calls (by simpa [← hrl] using hf) hM3 ha3 h).mono ?_
  rintro en w' ⟨v, r', H', φ', rfl, ⟨rfl, rfl⟩, h3, _, h5, h6⟩
  exact ⟨v, φ', rfl, h3, h5, h6⟩
end Abs
end Go
end
