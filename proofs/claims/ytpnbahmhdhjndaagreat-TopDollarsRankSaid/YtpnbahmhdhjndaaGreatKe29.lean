/-
  Texts joined: Ry Rz.
-/
import Derived.Test.YtpnbahmhdhjndaaGreatKe28

section
set_option linter.unusedSimpArgs false
set_option linter.unusedVariables false
set_option linter.unusedSectionVars false
namespace Go.Proofs.YtpnbahmhdhjndaaGreat
open Go.Abs Go.Sand
theorem cloneS20_ok (xs : List Int) (hx : xs.length ≤ 1000000) : PC Tryz.prog 102 [.is xs] (.os 0 0 xs.length) [rowZ xs] := by
  refine PC_of_W cfn102 ?_
  simp -implicitDefEqProofs (disch := omega) [c102, List.getElem?_cons_zero, List.getElem?_cons_succ, wrap_id, stepK_eqn, eqnP]
  have hx' : xs.length ≤ 1048576 := by omega
  refine ⟨?_, ?_⟩
  · rintro rfl
    simp -implicitDefEqProofs (disch := omega) [List.getElem?_cons_zero, List.getElem?_cons_succ, wrap_id]
    refine finW (Wk_nil 2 1 3 rfl) ?_
    exact fin1 [0] trivial rfl rfl ⟨rfl, rfl⟩
  · simp -implicitDefEqProofs (disch := omega) [List.getElem?_cons_zero, List.getElem?_cons_succ, wrap_id, hx']
    exact fin1 [0] trivial rfl rfl ⟨rfl, rfl⟩
set_option maxRecDepth 10000 in
set_option maxHeartbeats 2000000 in
theorem behind_he {e : Bool} {n : Nat} {es : List Ed} (hg : GoodG n es) {s d : List Int} (hd : d.length = n) (hs : s.length = n) (bs : AbsLe 10 s) (bd : AbsLe 1000 d) {H : List AO} {xo : Nat} {A : AV} {mo li : Int} (hx : H[xo]? = some (.box (.p (.agg [.i n, .sl (es.map edP), .is d, .i mo, .i li])))) (ho : view H A = some (.is s)) {K : AV → List AO → Prop}
    (hK : K (.os H.length 0 n) (H ++ [rowZ (movedE es s d)])) : HC Tryz.prog e 100 [.ptr xo 1 0 0, A] H K := by
  have hel := good_few hg
  have hn := hg.n12
  have hfl : ∀ x : Ed, Right n x → -1000 ≤ flow s x ∧ flow s x ≤ 1000 := fun x hr => by
    have a := bs x.a.toNat
    have b := bs x.b.toNat
    have m1 := hr.m1
    have m2 := hr.m50
    unfold flow
    obtain ⟨t, ht⟩ : ∃ t, t = s.getD x.a.toNat 0 - s.getD x.b.toNat 0 := ⟨_, rfl⟩
    rw [← ht]
    have h1 : -20 ≤ t ∧ t ≤ 20 := by omega
    have h2 : x.m * t ≤ x.m * 20 := Int.mul_le_mul_of_nonneg_left (by omega) (by omega)
    have h3 : x.m * (-20) ≤ x.m * t := Int.mul_le_mul_of_nonneg_left (by omega) (by omega)
    omega
  have hb' : ∀ k, k ≤ es.length → AbsLe (1000 + 2000 * (k : Int)) (movedE (es.take k) s d) ∧ (movedE (es.take k) s d).length = n := by
    intro k
    induction k with
    | zero => intro _; exact ⟨by simpa [movedE] using bd, by rw [movedE_length, hd]⟩
    | succ k ih =>
      intro hk
      obtain ⟨h1, h2⟩ := ih (by omega)
      rw [movedE_snoc es _ _ k (by omega)]
      refine ⟨fun v => ?_, by rw [movE_length, h2]⟩
      have hf := hfl es[k] (hg.right _ (List.getElem_mem (by omega)))
      have a1 := h1 v
      have a2 := h1 es[k].a.toNat
      have a3 := h1 es[k].b.toNat
      unfold movE
      simp only [getD_set, List.length_set]
      push_cast
      split
      · split <;> omega
      · split <;> omega
  refine HC_ptrO (rp := [.is s]) (ps := [.i n, .sl (es.map edP), .is d, .i mo, .i li]) (r := .os 0 0 n) (HR := [rowZ (movedE es s d)]) cfn100 hx (by simp [view, viewL, AV.flat, PV.flat, PV.i]) (views1 ho) ?_ ?_
  rotate_left
  · have e1 : hpast H [AV.agg (AV.p (PV.agg [PV.i n, PV.sl (List.map edP es), PV.is d, PV.i mo, PV.i li])).flat, AV.bs xo 0 0, A] (AV.os 0 0 n) [rowZ (movedE es s d)] = H ++ [rowZ (movedE es s d)] := by
      simp [hpast, calmA, calmO, calmP, calmL, rowZ, AO.ren, renL, AV.ren, PV.i]
    have e2 : AV.ren [rowZ (movedE es s d)] (fun o => some (o + H.length)) (AV.os 0 0 n) = .os H.length 0 n := by
      simp [AV.ren]
    rw [e1, e2]
    exact hK
  simp -implicitDefEqProofs (disch := omega) [c100, List.getElem?_cons_zero, List.getElem?_cons_succ, wrap_id]
  refine HC_of_PC rfl (clone20_ok d (by omega)) ?_
  simp -implicitDefEqProofs (disch := omega) [List.getElem?_cons_zero, List.getElem?_cons_succ, wrap_id, hd]
  refine loopW es.length (fun k st => st = ⟨[(20, .i k), (19, .i es.length), (18, .p (.sl (es.map edP))), (5, .os 0 0 n), (1, .p (.is s))], [rowZ (movedE (es.take k) s d)]⟩) (wk_norm [0] [20, 19, 18, 5, 1] rfl rfl) rfl ?_
  rintro k st hk rfl
  by_cases hlt : k < es.length
  · have hx := hg.right es[k] (List.getElem_mem hlt)
    have hek : es[k]? = some es[k] := List.getElem?_eq_getElem hlt
    have hf := hfl es[k] hx
    obtain ⟨hB, hLl⟩ := hb' k hk
    have hms := movedE_snoc es s d k hlt
    obtain ⟨M, hM⟩ : ∃ M, M = movedE (es.take k) s d := ⟨_, rfl⟩
    rw [← hM] at hB hLl hms ⊢
    obtain ⟨x, hxe⟩ : ∃ x, x = es[k] := ⟨_, rfl⟩
    rw [← hxe] at hms hx hf
    obtain ⟨p, hp⟩ : ∃ p : Nat, x.a = p := ⟨x.a.toNat, by have := hx.a0; omega⟩
    obtain ⟨q, hq⟩ : ∃ q : Nat, x.b = q := ⟨x.b.toNat, by have := hx.b0; omega⟩
    obtain ⟨m, hm⟩ : ∃ m, m = x.m := ⟨_, rfl⟩
    have hx2 : edP es[k] = .agg [PV.i p, PV.i q, PV.i m] := by rw [← hxe, edP, hp, hq, hm]
    have hpn : p < n := by have := hx.an; omega
    have hqn : q < n := by have := hx.bn; omega
    have m1 := hx.m1
    have m50 := hx.m50
    rw [← hm] at m1 m50
    unfold movE at hms
    unfold flow at hf hms
    rw [hp, hq, Int.toNat_natCast, Int.toNat_natCast, ← hm] at hf hms
    have sp : s[p]? = some (s.getD p 0) := by rw [List.getElem?_eq_getElem (by omega), getD_get (by omega)]
    have sq : s[q]? = some (s.getD q 0) := by rw [List.getElem?_eq_getElem (by omega), getD_get (by omega)]
    have g1 : M[p]? = some (M.getD p 0) := by rw [List.getElem?_eq_getElem (by omega), getD_get (by omega)]
    have c1 := bs p
    have c2 := bs q
    obtain ⟨u, hu⟩ : ∃ u, u = s.getD p 0 := ⟨_, rfl⟩
    obtain ⟨w, hw⟩ : ∃ w, w = s.getD q 0 := ⟨_, rfl⟩
    obtain ⟨y, hy⟩ : ∃ y, y = M.getD p 0 := ⟨_, rfl⟩
    have b1 := hB p
    rw [← hu] at sp c1 hf hms
    rw [← hw] at sq c2 hf hms
    rw [← hy] at g1 b1 hms
    obtain ⟨f, hff⟩ : ∃ f, m * (u - w) = f := ⟨_, rfl⟩
    rw [hff] at hf hms
    have g2 : (M.set p (y - f))[q]? = some ((M.set p (y - f)).getD q 0) := by
      have hq' : q < (M.set p (y - f)).length := by rw [List.length_set]; omega
      rw [List.getElem?_eq_getElem hq', getD_get hq']
    have b2 : -500000 ≤ (M.set p (y - f)).getD q 0 ∧ (M.set p (y - f)).getD q 0 ≤ 500000 := by
      rw [getD_set]
      have := hB q
      split <;> omega
    obtain ⟨z, hz⟩ : ∃ z, z = (M.set p (y - f)).getD q 0 := ⟨_, rfl⟩
    rw [← hz] at g2 b2 hms
    have g2' : ((List.map PV.i M).set p (PV.v (.int .i64 (y - f))))[q]? = some (.i z) := by
      have := congrArg (Option.map PV.i) g2
      rw [← List.getElem?_map, List.map_set] at this
      exact this
    have hrw : ((List.map PV.i M).set p (PV.v (Value.int IntKind.i64 (y - f)))).set q (PV.v (Value.int IntKind.i64 (z + f))) = List.map PV.i ((M.set p (y - f)).set q (z + f)) := by rw [List.map_set, List.map_set]
    simp -implicitDefEqProofs (disch := omega) [List.getElem?_cons_zero, List.getElem?_cons_succ, wrap_id, hlt, hek, hx2, hLl, hs, sp, sq, g1, g2', hff, hpn, hqn, -getElem?_pos]
    rw [hrw]
    exact round_end [0] [20, 19, 18, 5, 1] hlt rfl (by rw [hms]; rfl)
  · have hke : k = es.length := by omega
    subst hke
    rw [List.take_length]
    simp -implicitDefEqProofs (disch := omega) [List.getElem?_cons_zero, List.getElem?_cons_succ, wrap_id]
    exact fin1 [0] trivial rfl (by rfl) ⟨rfl, rfl⟩
def stC (j : Nat) : Int := if j = 0 then -1 else 1
def nxC (v j : Nat) : List Int := ([0, 0, 0] : List Int).set v (stC j)
def d20 : List Int := [-1, 0, 2]
def dlC (c : Nat) : List (KV × AV) := (List.range c).map fun i => (KV.kl (padZ (nxC (i / 2) (i % 2))), AV.b true)
def okC (v j : Nat) : Bool := decide ((oweL (movedE tri20 (nxC v j) d20) + 1) / 2 ≤ 1)
def gsC (c : Nat) : List (List Int) := ((List.range c).filter fun i => okC (i / 2) (i % 2)).map fun i => nxC (i / 2) (i % 2)
theorem dlC_succ (v j : Nat) (hj : j < 2) : dlC (2 * v + j + 1) = dlC (2 * v + j) ++ [(KV.kl (padZ (nxC v j)), AV.b true)] := by
  unfold dlC
  rw [List.range_succ, List.map_append]
  simp only [List.map_cons, List.map_nil]
  rw [show (2 * v + j) / 2 = v by omega, show (2 * v + j) % 2 = j by omega]
theorem gsC_succ (v j : Nat) (hj : j < 2) : gsC (2 * v + j + 1) = gsC (2 * v + j) ++ if okC v j = true then [nxC v j] else [] := by
  unfold gsC
  rw [List.range_succ, List.filter_append, List.map_append]
  congr 1
  simp only [List.filter_cons, List.filter_nil, show (2 * v + j) / 2 = v by omega, show (2 * v + j) % 2 = j by omega]
  split
  · simp [show (2 * v + j) / 2 = v by omega, show (2 * v + j) % 2 = j by omega]
  · simp
theorem dlC_no : ∀ v, v < 3 → ∀ j, j < 2 → dIdx (KV.kl (padZ (nxC v j))) (dlC (2 * v + j)) = none := by decide
/-- What stands behind a layer that is made. -/
structure MoF (H H' : List AO) (c : Nat) (t8 : AV) (rs : List Nat) : Prop where
  le : H.length < H'.length
  ext : ∀ i, i < H.length → H'[i]? = H[i]?
  dict : H'[H.length]? = some (.dict (.arr 12) (dlC c))
  len : rs.length = (gsC c).length
  rows : ∀ i, i < rs.length → H.length < rs.getD i 0 ∧ H'[rs.getD i 0]? = some (rowZ ((gsC c).getD i []))
  out : (rs = [] ∧ t8 = .p (.v (.slice none 0 0))) ∨ ∃ q, H.length < q ∧ t8 = .os q 0 rs.length ∧ H'[q]? = some (.tab (rs.map fun r => AV.os r 0 3) 34 false) ∧ rs ≠ []
theorem MoF.same {H H2 H4 : List AO} {c c' : Nat} {t : AV} {rs : List Nat} (h : MoF H H2 c t rs) (hl : H2.length ≤ H4.length) (hs : ∀ i, i ≠ H.length → i < H2.length → H4[i]? = H2[i]?) (hd : H4[H.length]? = some (.dict (.arr 12) (dlC c'))) (hg : gsC c' = gsC c) : MoF H H4 c' t rs := by
  have hle := h.le
  refine ⟨by omega, fun i hi => by rw [hs i (by omega) (by omega)]; exact h.ext i hi, hd, by rw [hg]; exact h.len, fun i hi => ?_, ?_⟩
  · obtain ⟨h1, h2⟩ := h.rows i hi
    exact ⟨h1, by rw [hs _ (by omega) (lt_some h2), hg]; exact h2⟩
  · rcases h.out with h1 | ⟨q, h1, h2, h3, h4⟩
    · exact .inl h1
    · exact .inr ⟨q, h1, h2, by rw [hs _ (by omega) (lt_some h3)]; exact h3, h4⟩
theorem MoF.add {H H2 H4 : List AO} {c c' : Nat} {t : AV} {rs : List Nat} (h : MoF H H2 c t rs) (hl : H2.length ≤ H4.length) {q r : Nat} (hs : ∀ i, i ≠ H.length → i ≠ q → i < H2.length → H4[i]? = H2[i]?) (hd : H4[H.length]? = some (.dict (.arr 12) (dlC c'))) {N : List Int} (hg : gsC c' = gsC c ++ [N])
    (hq : H.length < q) (hqt : H4[q]? = some (.tab ((rs ++ [r]).map fun r => AV.os r 0 3) 34 false)) (hr : H.length < r) (hrN : H4[r]? = some (rowZ N)) (hqr : ∀ i, i < rs.length → rs.getD i 0 ≠ q) : MoF H H4 c' (.os q 0 (rs.length + 1)) (rs ++ [r]) := by
  have hle := h.le
  have hlen := h.len
  refine ⟨by omega, fun i hi => by rw [hs i (by omega) (by omega) (by omega)]; exact h.ext i hi, hd, by rw [hg, List.length_append, List.length_append, hlen]; rfl, fun i hi => ?_, .inr ⟨q, hq, by rw [List.length_append]; rfl, hqt, by simp⟩⟩
  rw [List.length_append] at hi
  by_cases hc : i < rs.length
  · obtain ⟨h1, h2⟩ := h.rows i hc
    have e1 : (rs ++ [r]).getD i 0 = rs.getD i 0 := by rw [List.getD_eq_getElem?_getD, List.getElem?_append_left hc, List.getD_eq_getElem?_getD]
    have e2 : (gsC c ++ [N]).getD i [] = (gsC c).getD i [] := by rw [List.getD_eq_getElem?_getD, List.getElem?_append_left (by omega), List.getD_eq_getElem?_getD]
    rw [e1, hg, e2]
    exact ⟨h1, by rw [hs _ (by omega) (hqr i hc) (lt_some h2)]; exact h2⟩
  · have hie : i = rs.length := by simp at hi; omega
    subst hie
    have e1 : (rs ++ [r]).getD rs.length 0 = r := by simp
    have e2 : (gsC c ++ [N]).getD rs.length [] = N := by rw [hlen]; simp
    rw [e1, hg, e2]
    exact ⟨hr, hrN⟩
/-- What holds ahead of each step. -/
def MoJ (H : List AO) (xo to r0 : Nat) (v j : Nat) (st : St) : Prop := ∃ H' t8 rs, MoF H H' (2 * v + j) t8 rs ∧ st = ⟨[(32, .i j), (31, .p (.agg [.i (-1), .i 1])), (12, .i 0), (11, .i v), (10, .os r0 0 3), (8, t8), (7, .mp H.length), (2, .i 0), (0, .ptr xo 1 0 0), (26, .i v), (25, .i 3), (24, .os r0 0 3), (20, .i 0), (19, .i 1), (18, .os to 0 1)], H'⟩
/-- What holds ahead of each vertex. -/
def MoV (H : List AO) (xo to r0 : Nat) (v : Nat) (st : St) : Prop := ∃ H' t8 rs, MoF H H' (2 * v) t8 rs ∧ st = ⟨[(10, .os r0 0 3), (8, t8), (7, .mp H.length), (2, .i 0), (0, .ptr xo 1 0 0), (26, .i v), (25, .i 3), (24, .os r0 0 3), (20, .i 0), (19, .i 1), (18, .os to 0 1)], H'⟩
/-- What holds ahead of each script of the layer. -/
def MoO (H : List AO) (xo to : Nat) (k : Nat) (st : St) : Prop := (k = 0 ∧ st = ⟨[(20, .i 0), (19, .i 1), (18, .os to 0 1), (8, .p (.v (.slice none 0 0))), (7, .mp H.length), (2, .i 0), (0, .ptr xo 1 0 0)], H ++ [.dict (.arr 12) []]⟩) ∨ (k = 1 ∧ ∃ H' t8 rs, MoF H H' 6 t8 rs ∧ st = ⟨[(20, .i 1), (19, .i 1), (8, t8)], H'⟩)
theorem MoF.zero (H : List AO) : MoF H (H ++ [.dict (.arr 12) []]) 0 (.p (.v (.slice none 0 0))) [] :=
  ⟨by simp, fun i hi => by rw [List.getElem?_append_left hi], by simp [dlC], rfl, fun i hi => absurd hi (Nat.not_lt_zero i), .inl ⟨rfl, rfl⟩⟩
set_option maxRecDepth 10000 in
set_option maxHeartbeats 4000000 in
theorem more_hc {T : TypeId} {H : List AO} {xo to r0 : Nat} (hx : H[xo]? = some (.box (.p (.agg [.i 3, .sl (tri20.map edP), .is d20, .i 2, .i 2])))) (ht : H[to]? = some (.tab [AV.os r0 0 3] T false)) (hr0 : H[r0]? = some (rowZ [0, 0, 0])) {K : AV → List AO → Prop}
    (hK : ∀ H' t8 rs, MoF H H' 6 t8 rs → K t8 H') : HC Tryz.prog false 69 [.ptr xo 1 0 0, .os to 0 1, .i 0] H K := by
  have htl := lt_some ht
  have hxl := lt_some hx
  have hrl := lt_some hr0
  have f1 : ∀ Y, (H ++ Y)[to]? = _ := fun Y => app_some ht Y
  refine HC_of_W (af := _) ((by exact cfn69 : cfn _ _ _ = some _)) ?_
  simp -implicitDefEqProofs (disch := omega) [c69, List.getElem?_cons_zero, List.getElem?_cons_succ, wrap_id, f1, -getElem?_pos]
  refine loopW 1 (MoO H xo to) (Wk_keep [20, 19, 18, 8, 7, 2, 0]) (.inl ⟨rfl, rfl⟩) ?_
  rintro k st hk (⟨rfl, rfl⟩ | ⟨rfl, H', t8, rs, hF, rfl⟩)
  rotate_left
  · simp -implicitDefEqProofs (disch := omega) [List.getElem?_cons_zero, List.getElem?_cons_succ, wrap_id]
    exact finH trivial rfl (hK _ _ _ hF)
  have f2 : ∀ Y, (H ++ Y)[r0]? = _ := fun Y => app_some hr0 Y
  have er0 : rowZ [0, 0, 0] = .row [PV.i 0, PV.i 0, PV.i 0] 1 3 false := rfl
  simp -implicitDefEqProofs (disch := omega) [List.getElem?_cons_zero, List.getElem?_cons_succ, wrap_id, f1, f2, er0, -getElem?_pos]
  refine loopW 3 (MoV H xo to r0) (Wk_keep [10, 8, 7, 2, 0, 26, 25, 24, 20, 19, 18]) ⟨_, _, _, MoF.zero H, rfl⟩ ?_
  rintro v st hv ⟨H1, t8, rs, hF, rfl⟩
  have g0 : H1[r0]? = some (rowZ [0, 0, 0]) := by rw [hF.ext _ hrl, hr0]
  by_cases hv3 : v < 3
  rotate_left
  · have hve : v = 3 := by omega
    subst hve
    simp -implicitDefEqProofs (disch := omega) [List.getElem?_cons_zero, List.getElem?_cons_succ, wrap_id]
    exact round_end' (by omega) (Wk_keep [20, 19, 8]) (.inr ⟨rfl, _, _, _, hF, rfl⟩)
  have gv : ([PV.i 0, PV.i 0, PV.i 0] : List PV)[v]? = some (.i 0) := by
    match v, hv3 with
    | 0, _ => rfl
    | 1, _ => rfl
    | 2, _ => rfl
  have hv3' : (v : Int) < 3 := by omega
  simp -implicitDefEqProofs (disch := omega) [List.getElem?_cons_zero, List.getElem?_cons_succ, wrap_id, hv3, hv3', g0, er0, gv, -getElem?_pos]
  refine loopW 2 (MoJ H xo to r0 v) (Wk_keep [32, 31, 12, 11, 10, 8, 7, 2, 0, 26, 25, 24, 20, 19, 18]) ⟨_, _, _, hF, rfl⟩ ?_
  clear hF g0
  rintro j st hj ⟨H2, t9, rs2, hF, rfl⟩
  have g0 : H2[r0]? = some (rowZ [0, 0, 0]) := by rw [hF.ext _ hrl, hr0]
  have gx : H2[xo]? = some (.box (.p (.agg [.i 3, .sl (tri20.map edP), .is d20, .i 2, .i 2]))) := by rw [hF.ext _ hxl, hx]
  have gd := hF.dict
  by_cases hj2 : j < 2
  rotate_left
  · have hje : j = 2 := by omega
    subst hje
    simp -implicitDefEqProofs (disch := omega) [List.getElem?_cons_zero, List.getElem?_cons_succ, wrap_id]
    exact round_end' (by omega) (Wk_keep [10, 8, 7, 2, 0, 26, 25, 24, 20, 19, 18]) ⟨_, _, _, by rw [show 2 * (v + 1) = 2 * v + 2 by omega]; exact hF, rfl⟩
  have gj : ([PV.i (-1), PV.i 1] : List PV)[j]? = some (.i (stC j)) := by
    match j, hj2 with
    | 0, _ => rfl
    | 1, _ => rfl
  have hst : stC j = -1 ∨ stC j = 1 := by unfold stC; split <;> simp
  have hst0 : ¬ 0 * stC j < 0 := by omega
  have hno := dlC_no v hv3 j hj2
  have g00 : H2[r0]? = some (.row [PV.i 0, PV.i 0, PV.i 0] 1 3 false) := g0
  have hj2' : (j : Int) < 2 := by omega
  simp -implicitDefEqProofs (disch := omega) [List.getElem?_cons_zero, List.getElem?_cons_succ, wrap_id, hj2, hj2', g00, gj, hst0, -getElem?_pos]
  refine HC_of_PC (ps := [.is [0, 0, 0]]) (views1 (by simp [view, viewC, ownEls, g00])) (cloneS20_ok [0, 0, 0] (by decide)) ?_
  have r1 : ∀ y, (H2 ++ [y])[H2.length]? = some y := fun y => by simp
  have r2 : ∀ y z, (H2 ++ [y]).set H2.length z = H2 ++ [z] := fun y z => by simp
  obtain ⟨N, hN⟩ : ∃ N, N = nxC v j := ⟨_, rfl⟩
  obtain ⟨a, b, c, habc⟩ : ∃ a b c, N = [a, b, c] := by
    rw [hN]
    match v, hv3 with
    | 0, _ => exact ⟨_, _, _, rfl⟩
    | 1, _ => exact ⟨_, _, _, rfl⟩
    | 2, _ => exact ⟨_, _, _, rfl⟩
  have hNl : N.length = 3 := by rw [habc]; rfl
  have hrow : ([PV.i 0, PV.i 0, PV.i 0] : List PV).set v (PV.v (.int .i64 (stC j))) = N.map PV.i := by rw [hN, nxC, List.map_set]; rfl
  have hstb : -1 ≤ stC j ∧ stC j ≤ 1 := by omega
  simp -implicitDefEqProofs (disch := omega) [List.getElem?_cons_zero, List.getElem?_cons_succ, wrap_id, hv3, hv3', er0, gv, r1, r2, hstb, -getElem?_pos]
  rw [hrow]
  have rN : ∀ Y, (H2 ++ .row (N.map PV.i) 1 3 false :: Y)[H2.length]? = some (.row (N.map PV.i) 1 3 false) := fun Y => by simp
  refine HC_of_PC (ps := [.is N]) (views1 (by simp [view, viewC, ownEls, rN, hNl])) (by rw [habc]; exact keyed_ok a b c) ?_
  rw [← habc]
  have hpi := ints_mapi (padZ N)
  have hpb := isB_mapi (padZ N)
  have hpf : KV.fit (.arr 12) (.kl (padZ N)) = true := fit_pad (x := N) (by omega) (by rw [hN]; intro u; match v, hv3, j, hj2 with
    | 0, _, 0, _ => match u with | 0 => decide | 1 => decide | 2 => decide | u + 3 => simp [nxC]
    | 0, _, 1, _ => match u with | 0 => decide | 1 => decide | 2 => decide | u + 3 => simp [nxC]
    | 1, _, 0, _ => match u with | 0 => decide | 1 => decide | 2 => decide | u + 3 => simp [nxC]
    | 1, _, 1, _ => match u with | 0 => decide | 1 => decide | 2 => decide | u + 3 => simp [nxC]
    | 2, _, 0, _ => match u with | 0 => decide | 1 => decide | 2 => decide | u + 3 => simp [nxC]
    | 2, _, 1, _ => match u with | 0 => decide | 1 => decide | 2 => decide | u + 3 => simp [nxC])
  have hpl := padZ_len (d := N) (by omega)
  obtain ⟨kv, hkv⟩ : ∃ kv, kv = KV.kl (padZ N) := ⟨_, rfl⟩
  rw [← hN, ← hkv] at hno
  rw [← hkv] at hpf
  have gd2 : ∀ Y, (H2 ++ Y)[H.length]? = _ := fun Y => app_some gd Y
  have r3 : ∀ x y, (H2 ++ [x, y])[H2.length + 1]? = some y := fun x y => by rw [List.getElem?_append_right (by omega)]; simp
  have s3 : ∀ x y z, (H2 ++ [x, y]).set (H2.length + 1) z = H2 ++ [x, z] := fun x y z => by rw [List.set_append_right _ _ (by omega)]; simp
  have sD : ∀ Y z, (H2 ++ Y).set H.length z = H2.set H.length z ++ Y := fun Y z => List.set_append_left _ _ hF.le
  obtain ⟨H3, hH3⟩ : ∃ H3, H3 = H2.set H.length (.dict (.arr 12) (dlC (2 * v + j) ++ [(kv, AV.b true)])) := ⟨_, rfl⟩
  have h3l : H3.length = H2.length := by rw [hH3, List.length_set]
  have r4 : ∀ x y, (H3 ++ [x, y])[H2.length + 1]? = some y := fun x y => by rw [← h3l, List.getElem?_append_right (by omega)]; simp
  have hne : xo ≠ H.length := by omega
  have gx3 : H3[xo]? = some (.box (.p (.agg [.i 3, .sl (tri20.map edP), .is d20, .i 2, .i 2]))) := by rw [hH3, List.getElem?_set_ne (fun e => hne e.symm)]; exact gx
  obtain ⟨X, hX⟩ : ∃ X, X = H3 ++ [AO.row (N.map PV.i) 1 3 false, AO.box (AV.p (PV.agg ((padZ N).map PV.i)))] := ⟨_, rfl⟩
  have gxX : X[xo]? = some (.box (.p (.agg [.i 3, .sl (tri20.map edP), .is d20, .i 2, .i 2]))) := by rw [hX]; exact app_some gx3 _
  have gNX : X[H2.length]? = some (rowZ N) := by rw [hX, ← h3l, List.getElem?_append_right (Nat.le_refl _)]; simp [rowZ]
  have hg3 : GoodG (3 : Nat) tri20 := gcheck_ok (by decide)
  have hNb : AbsLe 10 N := by
    rw [hN]
    intro u
    unfold nxC
    rw [getD_set]
    split
    · omega
    · match u with
      | 0 => decide
      | 1 => decide
      | 2 => decide
      | u + 3 => simp
  have hdb : AbsLe 1000 d20 := fun u => by
    match u with
    | 0 => decide
    | 1 => decide
    | 2 => decide
    | u + 3 => simp [d20]
  have hBa := behind_abs hg3 (s := N) (d := d20) rfl hNb hdb
  obtain ⟨B, hB⟩ : ∃ B, B = movedE tri20 N d20 := ⟨_, rfl⟩
  have hBl : B.length = 3 := by rw [hB, movedE_length]; rfl
  rw [← hB] at hBa
  have hgs := gsC_succ v j hj2
  have hds := dlC_succ v j hj2
  rw [← hN] at hgs hds
  have hokC : okC v j = decide ((oweL B + 1) / 2 ≤ 1) := by rw [okC, ← hN, ← hB]
  simp -implicitDefEqProofs (disch := omega) [List.getElem?_cons_zero, List.getElem?_cons_succ, wrap_id, r3, s3, sD, hpl, hpi, hpb, -KV.fit, hpf, -isB, -ints, ← hkv, -dIdx, hno, gd2, rN, ← hH3, gxX, ← hX, -getElem?_pos]
  refine behind_he hg3 (s := N) (d := d20) rfl hNl hNb hdb gxX (by simp [view, viewC, ownEls, gNX, rowZ, hNl]) ?_
  rw [← hB]
  have gBX : ∀ Z, (X ++ rowZ B :: Z)[X.length]? = some (.row (B.map PV.i) 1 3 false) := fun Z => by simp [rowZ]
  have hob : 0 ≤ oweL B ∧ oweL B ≤ 5000000 := by
    have h0 : ∀ l : List Int, 0 ≤ oweL l := fun l => by
      induction l with
      | nil => simp [oweL]
      | cons x l ih => simp only [oweL]; omega
    have h1 : ∀ l : List Int, (∀ x ∈ l, -1000000 ≤ x) → oweL l ≤ 1000000 * (l.length : Int) := fun l => by
      induction l with
      | nil => intro _; simp [oweL]
      | cons x l ih =>
        intro h
        have := ih fun y hy => h y (by simp [hy])
        have := h x (by simp)
        simp only [oweL, List.length_cons]; omega
    have h2 := h0 B
    have h3 := h1 B fun x hx => by
      obtain ⟨i, hi, rfl⟩ := List.mem_iff_getElem.1 hx
      exact (hBa.get hi).1
    omega
  simp -implicitDefEqProofs (disch := omega) [List.getElem?_cons_zero, List.getElem?_cons_succ, wrap_id]
  refine HC_of_PC (ps := [.is B, .i 2]) (by simp [views, view, viewC, ownEls, gBX, hBl]) (bound2_ok B (by omega) hBa) ?_
  by_cases hok : (oweL B + 1) / 2 ≤ 1
  · have hok' : 1 + (oweL B + 1) / 2 ≤ 2 := by omega
    rw [decide_eq_true hok] at hokC
    rw [hokC, if_pos rfl] at hgs
    have gNY : ∀ Y, (X ++ Y)[H2.length]? = some (.row (N.map PV.i) 1 3 false) := fun Y => app_some gNX Y
    have hXl : X.length = H2.length + 2 := by rw [hX, List.length_append, h3l]; rfl
    have gT : ∀ x y, (X ++ [x, y])[X.length + 1]? = some y := fun x y => by rw [List.getElem?_append_right (by omega)]; simp
    rcases hF.out with ⟨rfl, rfl⟩ | ⟨q, hq1, rfl, hq2, hq3⟩
    · simp -implicitDefEqProofs (disch := omega) [List.getElem?_cons_zero, List.getElem?_cons_succ, wrap_id, hok', hob, gNY, gT, hNl]
      refine round_end' hj2 (Wk_keep [32, 31, 12, 11, 10, 8, 7, 2, 0, 26, 25, 24, 20, 19, 18]) ⟨X ++ [rowZ B, .tab [AV.os H2.length 0 3] 34 false, .tab [AV.os H2.length 0 3] 34 false], _, [H2.length], hF.add (q := X.length + 2) (r := H2.length) ?_ ?_ ?_ hgs ?_ ?_ ?_ ?_ ?_, rfl⟩
      · rw [List.length_append]; omega
      · intro i h1 _ h2
        rw [List.getElem?_append_left (by omega), hX, List.getElem?_append_left (by omega), hH3, List.getElem?_set_ne (by omega)]
      · rw [List.getElem?_append_left (by have := hF.le; omega), hX, List.getElem?_append_left (by have := hF.le; omega), hH3, List.getElem?_set_self (by have := hF.le; omega), hkv, ← hds]
        rfl
      · have := hF.le; omega
      · rw [List.getElem?_append_right (by omega), Nat.add_sub_cancel_left]; rfl
      · have := hF.le; omega
      · exact gNY _
      · intro i hi; exact absurd hi (Nat.not_lt_zero i)
    · have gq : ∀ Y, (X ++ Y)[q]? = some (.tab (rs2.map fun r => AV.os r 0 3) 34 false) := fun Y => by
        have := lt_some hq2
        rw [List.getElem?_append_left (by omega), hX, List.getElem?_append_left (by omega), hH3, List.getElem?_set_ne (by omega)]
        exact hq2
      have hq0 := lt_some hq2
      have hql : (rs2.map fun r => AV.os r 0 3).length = rs2.length := by simp
      have hrl2 : rs2.length ≤ 1048575 := by
        rw [hF.len]
        unfold gsC
        rw [List.length_map]
        have := List.length_filter_le (fun i => okC (i / 2) (i % 2)) (List.range (2 * v + j))
        rw [List.length_range] at this
        omega
      have hrow : ∀ i, i < rs2.length → rs2.getD i 0 ≠ q := fun i hi e => by
        have := (hF.rows i hi).2
        rw [e, hq2] at this
        cases this
      have hmap : (rs2 ++ [H2.length]).map (fun r => AV.os r 0 3) = (rs2.map fun r => AV.os r 0 3) ++ [AV.os H2.length 0 3] := by simp
      simp -implicitDefEqProofs (disch := omega) [List.getElem?_cons_zero, List.getElem?_cons_succ, wrap_id, hok', hob, gNY, gT, gq, hNl, hql, hrl2]
      refine round_end' hj2 (Wk_keep [32, 31, 12, 11, 10, 8, 7, 2, 0, 26, 25, 24, 20, 19, 18]) ⟨X.set q (.tab ((rs2.map fun r => AV.os r 0 3) ++ [AV.os H2.length 0 3]) 34 false) ++ [rowZ B, .tab [AV.os H2.length 0 3] 34 false], _, rs2 ++ [H2.length], hF.add (q := q) (r := H2.length) ?_ ?_ ?_ hgs hq1 ?_ ?_ ?_ hrow, rfl⟩
      · rw [List.length_append, List.length_set]; omega
      · intro i h1 h3 h2
        rw [List.getElem?_append_left (by rw [List.length_set]; omega), List.getElem?_set_ne (by omega), hX, List.getElem?_append_left (by omega), hH3, List.getElem?_set_ne (by omega)]
      · rw [List.getElem?_append_left (by have := hF.le; rw [List.length_set]; omega), List.getElem?_set_ne (by omega), hX, List.getElem?_append_left (by have := hF.le; omega), hH3, List.getElem?_set_self (by have := hF.le; omega), hkv, ← hds]
        rfl
      · rw [List.getElem?_append_left (by rw [List.length_set]; omega), List.getElem?_set_self (by omega), hmap]
      · have := hF.le; omega
      · rw [List.getElem?_append_left (by rw [List.length_set]; omega), List.getElem?_set_ne (by omega)]; exact gNX
  · have hok' : ¬ 1 + (oweL B + 1) / 2 ≤ 2 := by omega
    rw [decide_eq_false hok] at hokC
    rw [hokC] at hgs
    simp only [Bool.false_eq_true, if_false, List.append_nil] at hgs
    have hXl : X.length = H2.length + 2 := by rw [hX, List.length_append, h3l]; rfl
    simp -implicitDefEqProofs (disch := omega) [List.getElem?_cons_zero, List.getElem?_cons_succ, wrap_id, hok', hob]
    refine round_end' hj2 (Wk_keep [32, 31, 12, 11, 10, 8, 7, 2, 0, 26, 25, 24, 20, 19, 18]) ⟨X ++ [rowZ B], t9, rs2, hF.same ?_ ?_ ?_ hgs, rfl⟩
    · rw [List.length_append]; omega
    · intro i h1 h2
      rw [List.getElem?_append_left (by omega), hX, List.getElem?_append_left (by omega), hH3, List.getElem?_set_ne (by omega)]
    · rw [List.getElem?_append_left (by have := hF.le; omega), hX, List.getElem?_append_left (by have := hF.le; omega), hH3, List.getElem?_set_self (by have := hF.le; omega), hkv, ← hds]
      rfl
end Go.Proofs.YtpnbahmhdhjndaaGreat
end
section
set_option linter.unusedSimpArgs false
set_option linter.unusedVariables false
set_option linter.unusedSectionVars false
namespace Go.Proofs.YtpnbahmhdhjndaaGreat
open Go.Abs Go.Sand
theorem wheel_sm : Sm 3 tri20 := ⟨by decide, by decide, by decide, by decide⟩
theorem d20_abs : AbsLe 110 d20 := fun u => by
  match u with
  | 0 => decide
  | 1 => decide
  | 2 => decide
  | u + 3 => simp [d20]
theorem d20_win : WinF 3 (joinE tri20) (fun v => d20.getD v 0) := by
  refine ⟨fun v => (movedE tri20 [0, 0, 1] d20).getD v 0, fun v hv => ?_, fun u => ([0, 0, 1] : List Int).getD u 0, fun v hv => left_get wheel_sm (d := d20) rfl d20_abs (s := [0, 0, 1]) rfl hv⟩
  match v, hv with
  | 0, _ => decide
  | 1, _ => decide
  | 2, _ => decide
/-- The objects ahead of the search. -/
abbrev soH : List AO := [.box (.p (G 3 tri20)), .box (.p (.agg [.i 3, .sl (tri20.map edP), .is d20, .i 2, .i 2])), rowZ [0, 0, 0], .tab [.os 2 0 3] 34 false]
/-- What holds ahead of each layer. -/
def SoI (k : Nat) (st : St) : Prop := (k = 0 ∧ st = ⟨[(16, .i 0), (15, .os 3 0 1), (14, .ptr 1 1 0 0), (2, .i 2)], soH⟩) ∨ (k = 1 ∧ ∃ H' t8 rs Z, MoF (soH ++ Z) H' 6 t8 rs ∧ st = ⟨[(16, .i 1), (15, t8), (14, .ptr 1 1 0 0), (2, .i 2)], H'⟩)
theorem list_tab (rs : List Nat) : (rs.map fun r => AV.os r 0 3) = (List.range rs.length).map fun i => AV.os (rs.getD i 0) 0 3 := by
  refine List.ext_getElem (by simp) fun i h1 h2 => ?_
  simp only [List.getElem_map, List.getElem_range]
  rw [List.getD_eq_getElem?_getD, List.getElem?_eq_getElem (by simpa using h1)]
  rfl
theorem so_w0 : ∀ i, i < 1 → (oweL (movedE tri20 [0, 0, 0] d20) = 0 ↔ i = 1) := by decide
theorem so_w1 : ∀ i, i < 4 → (oweL (movedE tri20 ((gsC 6).getD i []) d20) = 0 ↔ i = 3) := by decide
theorem so_g : (gsC 6).length = 4 ∧ (gsC 6).getD 3 [] = [0, 0, 1] ∧ ∀ i, i < 4 → ((gsC 6).getD i []).length = 3 ∧ ∀ v, v < 3 → -10 ≤ ((gsC 6).getD i []).getD v 0 ∧ ((gsC 6).getD i []).getD v 0 ≤ 10 := by decide
set_option maxRecDepth 10000 in
set_option maxHeartbeats 4000000 in
theorem solve_ok : PC Tryz.prog 39 [G 3 tri20, .is d20, .i 2] (.tup [.os 0 0 3, .i 1, .i 0]) [rowZ [0, 0, 1]] := by
  refine PC_of_W cfn39 ?_
  simp -implicitDefEqProofs (disch := omega) [c39, List.getElem?_cons_zero, List.getElem?_cons_succ, wrap_id]
  refine HC_of_PC rfl (dgiven_ok 3 tri20 wheel_sm.el wheel_sm.c d20 (by decide)) ?_
  rw [show dcheck d20 ((3 : Nat) : Int) = 0 by decide]
  simp -implicitDefEqProofs (disch := omega) [List.getElem?_cons_zero, List.getElem?_cons_succ, wrap_id]
  refine HC_of_PCR rfl (win_ok wheel_sm (d := d20) rfl (B := 110) (by omega) d20_abs) ?_
  rintro r HR ⟨x, s, hx, rfl, rfl⟩
  have hw := (win_iff wheel_sm hx).1 d20_win
  rw [decide_eq_true hw]
  have hxl := hx.dl
  have hsl := hx.sl
  simp -implicitDefEqProofs (disch := omega) [List.getElem?_cons_zero, List.getElem?_cons_succ, wrap_id]
  refine HC_of_PC rfl (great_ok) ?_
  simp -implicitDefEqProofs (disch := omega) [List.getElem?_cons_zero, List.getElem?_cons_succ, wrap_id]
  have hg3 : GoodG (3 : Nat) tri20 := gcheck_ok (by decide)
  have hdb : AbsLe 1000 d20 := d20_abs.mono (by omega)
  refine loopW 2 SoI (wk_norm [0, 3, 4, 5] [16, 15, 14, 2] rfl rfl) (.inl ⟨rfl, rfl⟩) ?_
  rintro k st hk (⟨rfl, rfl⟩ | ⟨rfl, H', t8, rs, Z, hF, rfl⟩)
  · simp -implicitDefEqProofs (disch := omega) [List.getElem?_cons_zero, List.getElem?_cons_succ, wrap_id]
    refine winner_hc hg3 (d := d20) rfl hdb (m := 1) (by omega) (r := fun _ => 2) (ss := fun _ => [0, 0, 0]) (H := soH) (xo := 1) (to := 3) (w := 1) rfl rfl (fun i hi => ⟨rfl, rfl, fun v => ?_⟩) so_w0 fun Z => ?_
    · match v with
      | 0 => decide
      | 1 => decide
      | 2 => decide
      | v + 3 => simp
    rw [if_neg (by omega)]
    simp -implicitDefEqProofs (disch := omega) [List.getElem?_cons_zero, List.getElem?_cons_succ, wrap_id, stepK_eqn, eqnP]
    refine more_hc (H := soH ++ Z) (xo := 1) (to := 3) (r0 := 2) (app_some rfl Z) (app_some rfl Z) (app_some rfl Z) fun H' t8 rs hF => ?_
    simp -implicitDefEqProofs (disch := omega) [List.getElem?_cons_zero, List.getElem?_cons_succ, wrap_id]
    exact round_end' (by omega) (Wk_keep [16, 15, 14, 2]) (.inr ⟨rfl, H', t8, rs, Z, hF, rfl⟩)
  · obtain ⟨g1, g2, g3⟩ := so_g
    have hl := hF.len
    rw [g1] at hl
    obtain ⟨q, hq, rfl, hqt, -⟩ : ∃ q, (soH ++ Z).length < q ∧ t8 = .os q 0 rs.length ∧ H'[q]? = some (.tab (rs.map fun r => AV.os r 0 3) 34 false) ∧ rs ≠ [] := by
      rcases hF.out with ⟨h1, -⟩ | h
      · rw [h1] at hl; cases hl
      · exact h
    rw [list_tab, hl] at hqt
    rw [hl]
    have hx1 : H'[1]? = some (.box (.p (.agg [.i 3, .sl (tri20.map edP), .is d20, .i 2, .i 2]))) := by
      rw [hF.ext 1 (by simp), List.getElem?_append_left (by decide)]; rfl
    obtain ⟨k1, k2⟩ := hF.rows 3 (by omega)
    rw [g2] at k2
    simp -implicitDefEqProofs (disch := omega) [List.getElem?_cons_zero, List.getElem?_cons_succ, wrap_id]
    refine winner_hc hg3 (d := d20) rfl hdb (m := 4) (by omega) (r := fun i => rs.getD i 0) (ss := fun i => (gsC 6).getD i []) (H := H') (xo := 1) (to := q) (w := 3) hx1 hqt (fun i hi => ⟨(hF.rows i (by omega)).2, (g3 i hi).1, fun v => ?_⟩) so_w1 fun Z2 => ?_
    · by_cases hv : v < 3
      · exact (g3 i hi).2 v hv
      · rw [List.getD_eq_getElem?_getD, List.getElem?_eq_none (by rw [(g3 i hi).1]; omega)]
        simp
    rw [if_pos (by omega)]
    (try dsimp only)
    obtain ⟨r3, hr3⟩ : ∃ r3, r3 = rs.getD 3 0 := ⟨_, rfl⟩
    rw [← hr3] at k2 ⊢
    have k3 : (H' ++ Z2)[r3]? = some (.row [PV.i 0, PV.i 0, PV.i 1] 1 3 false) := app_some k2 Z2
    simp -implicitDefEqProofs (disch := omega) [List.getElem?_cons_zero, List.getElem?_cons_succ, wrap_id, stepK_eqn, eqnP, k3]
    have hlt := lt_some k3
    refine finσ [r3] trivial rfl ?_ ?_ ?_
    · simp [okσ, nodupB, firstB] <;> simpa using hlt
    · simp [AV.ren, renL, Abs.idx]
    · simp only [renH, List.map_cons, List.map_nil, List.getD_eq_getElem?_getD, k3, Option.getD_some]
      rfl
end Go.Proofs.YtpnbahmhdhjndaaGreat
end
