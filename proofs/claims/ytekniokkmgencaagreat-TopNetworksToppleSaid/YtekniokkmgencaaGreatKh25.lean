/-
  Texts joined: Zg.
-/
import Derived.Test.YtekniokkmgencaaGreatKh24

section
set_option linter.unusedSimpArgs false
set_option linter.unusedVariables false
namespace Go.Proofs.YtekniokkmgencaaGreat
open Go.Abs Go.Sand
def tabE (o n k : Nat) : List AV := (List.range k).map fun a => .os (a + o) 0 n
theorem tabE_len (o n k : Nat) : (tabE o n k).length = k := by simp [tabE]
theorem tabE_get {o n k a : Nat} (h : a < k) : (tabE o n k)[a]? = some (.os (a + o) 0 n) := by simp [tabE, h]
theorem tabE_succ (o n k : Nat) : tabE o n k ++ [.os (k + o) 0 n] = tabE o n (k + 1) := by simp [tabE, List.range_succ]
theorem tabE_lo (o n m : Nat) : ∀ k, k + o ≤ m → loL m (tabE o n k) = true := by
  intro k
  induction k with
  | zero => intro _; rfl
  | succ k ih =>
    intro h
    have h1 := ih (by omega)
    have app : ∀ (l l' : List AV), loL m l = true → loL m l' = true → loL m (l ++ l') = true := by
      intro l
      induction l with
      | nil => intro l' _ h; exact h
      | cons x l ih => intro l' h h'; simp only [loL, Bool.and_eq_true, List.cons_append] at h ⊢; exact ⟨h.1, ih l' h.2 h'⟩
    rw [← tabE_succ]
    exact app _ _ h1 (by simp [loL, loA]; omega)
theorem tab_rows {H : List AO} {ρ : Nat → Option Nat} {o o' n : Nat} {t : TypeId} {fz : Bool} {L : List (List Int)} (ho : H[o]? = some (.tab (tabE o' n n) t fz)) (hρ : ρ o = none) (hL : L.length = n) (hR : ∀ a (h : a < n), L[a].length = n ∧ ρ (a + o') = none ∧ H[a + o']? = some (rowI L[a])) :
    AV.ren H ρ (.os o 0 n) = .p (.iss L) := by
  rw [AV.ren]
  simp only [hρ, ho, tabE_len, Nat.zero_add, if_true, List.drop_zero]
  have e : (tabE o' n n).map (ren0 H ρ) = (L.map PV.is).map AV.p := by
    refine List.ext_getElem? fun a => ?_
    by_cases h : a < n
    · obtain ⟨h1, h2, h3⟩ := hR a h
      rw [List.getElem?_map, tabE_get h]
      simp [ren0, h2, h3, h1, h, hL]
    · rw [List.getElem?_eq_none (by simp [tabE_len]; omega), List.getElem?_eq_none (by simp [hL]; omega)]
  rw [e, allOne_ps _ (fun x hx => by obtain ⟨y, _, rfl⟩ := List.mem_map.1 hx; rfl)]
def wTo (n : Nat) (es : List Ed) (q : Int) (c : List Int) (m : Nat) : List Bool := (List.range 12).map fun u => decide (u < m) && unstB n es q c u
theorem wTo_len (n : Nat) (es : List Ed) (q : Int) (c : List Int) (m : Nat) : (wTo n es q c m).length = 12 := by simp [wTo]
theorem wTo_succ {n : Nat} {es : List Ed} {q : Int} {c : List Int} {m : Nat} : (wTo n es q c m).set m (unstB n es q c m) = wTo n es q c (m + 1) := by
  refine List.ext_getElem (by simp [wTo]) fun u h1 h2 => ?_
  rw [List.getElem_set]
  simp only [wTo, List.getElem_map, List.getElem_range]
  by_cases h : m = u
  · subst h; simp
  · have h2 : (u < m + 1) = (u < m) := by simp only [eq_iff_iff]; omega
    simp only [h, if_false, h2]
abbrev pile0 (n : Nat) (es : List Ed) (q : Int) (d s : List Int) : List AO := [.box (pileA 0 n q (rowsL n es) (valsL n es) (sumI s) (waitsL n es q d)), rowI d, rowI s]
set_option maxRecDepth 10000 in
set_option maxHeartbeats 1000000 in
theorem pileOf_ok (n : Nat) (es : List Ed) (q : Int) (d : List Int) (hgc : gcheck n es = 0) (hel : es.length ≤ 1000) (hd : d.length = n) : PC Tryz.prog 39 [G n es, .i q, .is d] (.tup [.ptr 0 1 0 0, .i 0]) (pile0 n es q d (List.replicate n 0)) := by
  have hg := gcheck_ok hgc
  have hn := hg.n12
  have hn' : n ≤ 12 := by omega
  refine PC_of_W cfn39 ?_
  simp -implicitDefEqProofs (disch := omega) [c39, List.getElem?_cons_zero, List.getElem?_cons_succ, wrap_id]
  have hn6 : n ≤ 1048576 := by omega
  refine tree_join (s0 := ⟨[(8, .ptr 1 1 0 0), (3, .ptr 0 1 0 0), (2, .p (.is d)), (1, .i q)], [.box (.p (G n es)), .box (.agg (.os 2 0 n :: .i q :: .p .nil :: .os 4 0 n :: .os 3 0 n :: .i 0 :: bw (List.replicate 12 false))), rowI d, .row (List.replicate n (PV.i 0)) 1 3 false, .row (List.replicate n (PV.i 0)) 1 3 false]⟩) ?_ ?_
  rotate_left
  · simp -implicitDefEqProofs (disch := omega) [List.getElem?_cons_zero, List.getElem?_cons_succ, wrap_id, hn6]
    repeat' (first
      | refine ⟨?_, ?_⟩
      | (refine HC_of_PC rfl (cloneI_ok d (by omega)) ?_; simp -implicitDefEqProofs [List.getElem?_cons_zero, List.getElem?_cons_succ, hn6, hd])
      | exact wk_norm [0, 4, 1, 3, 2] [8, 3, 2, 1] rfl rfl
      | exact wk_norm [0, 4, 1, 2, 3] [8, 3, 2, 1] rfl rfl
      | exact wk_norm [0, 4, 2, 3, 1] [8, 3, 2, 1] rfl rfl
      | exact wk_norm [0, 4, 3, 2, 1] [8, 3, 2, 1] rfl rfl
      | exact wk_norm [0, 4, 2, 1, 3] [8, 3, 2, 1] rfl rfl
      | exact wk_norm [0, 4, 3, 1, 2] [8, 3, 2, 1] rfl rfl)
  obtain ⟨zr, hzr⟩ : ∃ zr, zr = AO.row (List.replicate n (PV.i 0)) 1 3 false := ⟨_, rfl⟩
  simp -implicitDefEqProofs (disch := omega) [List.getElem?_cons_zero, List.getElem?_cons_succ, wrap_id]
  refine loopW n (fun k st => st = ⟨[(29, .i k), (28, .i n), (8, .ptr 1 1 0 0), (3, .ptr 0 1 0 0), (1, .i q)], .box (.p (G n es)) :: .box (.agg (.os 2 0 n :: .i q :: .os 5 0 k :: .os 4 0 n :: .os 3 0 n :: .i 0 :: bw (List.replicate 12 false))) :: rowI d :: zr :: zr :: .tab (tabE 6 n k) 25 false :: List.replicate k zr⟩)
    ((Wk_nilBT 1 2 25 rfl rfl).trans (Wk_keep [29, 28, 8, 3, 1])) (by rw [hzr]; rfl) ?_
  rintro k st hk rfl
  by_cases hlt : k < n
  · have hla : ∀ r : AO, (List.replicate k zr ++ [r])[k]? = some r := fun r => by simp
    have hla2 : ∀ r x : AO, (List.replicate k zr ++ [r, x])[k]? = some r := fun r x => by simp
    have hla3 : ∀ r x : AO, (List.replicate k zr ++ [r, x])[k + 1]? = some x := fun r x => by simp
    have hk6 : k ≤ 1048575 := by omega
    have htl := tabE_len 6 n k
    simp -implicitDefEqProofs (disch := omega) [List.getElem?_cons_zero, List.getElem?_cons_succ, wrap_id, hlt, hn6, hla, hla2, hla3, hk6, htl]
    refine round_end' hlt (Wk_pop (k + 7) [29, 28, 8, 3, 1] (by omega) (by simp) (H' := .box (.p (G n es)) :: .box (.agg (.os 2 0 n :: .i q :: .os 5 0 (k + 1) :: .os 4 0 n :: .os 3 0 n :: .i 0 :: bw (List.replicate 12 false))) :: rowI d :: zr :: zr :: .tab (tabE 6 n (k + 1)) 25 false :: List.replicate (k + 1) zr) ?_ ?_ ?_) rfl
    · rw [← tabE_succ, hzr]
      simp [List.take_append, List.replicate_succ']
    · intro i hi
      simp only [List.mem_cons, List.not_mem_nil, or_false] at hi
      rcases hi with rfl | rfl | rfl | rfl | rfl <;> simp [Abs.get, loA]
    · intro ob hob
      simp only [List.mem_cons, List.mem_replicate] at hob
      have h1 := tabE_lo 6 n (k + 7) (k + 1) (by omega)
      rcases hob with rfl | rfl | rfl | rfl | rfl | rfl | ⟨-, rfl⟩ <;> simp [loO, loA, loL, hzr, h1]
  have hkn : n = k := by omega
  subst hkn
  have hrep : List.replicate n zr = tabR n (joinC []) := by
    refine List.ext_getElem? fun i => ?_
    by_cases hi : i < n
    · rw [tabR_get hi, hzr]
      simp only [List.getElem?_replicate, hi, if_true, rowI, lisL, ← zrow, List.map_replicate]
    · rw [List.getElem?_eq_none (by simp; omega), List.getElem?_eq_none (by simp [tabR_len]; omega)]
  have hval : zr = rowI (lisL n (valC [])) := by rw [hzr, rowI, ← lisL_zero, List.map_replicate]
  have hlen := endsL_len hg.right
  have hlen' : (endsL es).length ≤ 50000 := by omega
  simp -implicitDefEqProofs (disch := omega) [List.getElem?_cons_zero, List.getElem?_cons_succ, wrap_id]
  refine HC_of_PC rfl (gends_ok n es hel hgc) ?_
  simp -implicitDefEqProofs (disch := omega) [List.getElem?_cons_zero, List.getElem?_cons_succ, wrap_id]
  refine loopW (endsL es).length (fun k st => st = ⟨[(54, .i k), (53, .i (endsL es).length), (52, .p (.ps (endsL es))), (8, .ptr 1 1 0 0), (3, .ptr 0 1 0 0), (1, .i q)],
      .box (.p (G n es)) :: .box (.agg (.os 2 0 n :: .i q :: .os 5 0 n :: .os 4 0 n :: .os 3 0 n :: .i 0 :: bw (List.replicate 12 false))) :: rowI d :: zr :: rowI (lisL n (valC ((endsL es).take k))) :: .tab (tabE 6 n n) 25 false :: tabR n (joinC ((endsL es).take k))⟩)
    (Wk_keep [54, 53, 52, 8, 3, 1]) (by simp only [List.take_zero, ← hrep, ← hval]; rfl) ?_
  rintro k st hk rfl
  by_cases hlt : k < (endsL es).length
  · obtain ⟨⟨a0, an⟩, b0, bn⟩ := ends_in' hg.right _ (List.getElem_mem hlt)
    obtain ⟨a, ha⟩ : ∃ a : Nat, (endsL es)[k].1 = a := ⟨(endsL es)[k].1.toNat, by omega⟩
    obtain ⟨b, hb⟩ : ∃ b : Nat, (endsL es)[k].2 = b := ⟨(endsL es)[k].2.toNat, by omega⟩
    have han : a < n := by omega
    have hbn : b < n := by omega
    have hx : (endsL es)[k] = ((a : Int), (b : Int)) := by rw [← ha, ← hb]
    have htk : (endsL es).take (k + 1) = (endsL es).take k ++ [((a : Int), (b : Int))] := by rw [List.take_add_one, List.getElem?_eq_getElem hlt, hx]; rfl
    obtain ⟨l, hl⟩ : ∃ l, l = (endsL es).take k := ⟨_, rfl⟩
    have hll : l.length ≤ 50000 := by rw [hl, List.length_take]; omega
    rw [← hl] at htk ⊢
    have hTl := tabR_len n (joinC l)
    have hT1 : ∀ r : AO, (tabR n (joinC l) ++ [r])[n]? = some r := fun r => by simp [hTl]
    have hT2 : ∀ r x : AO, (tabR n (joinC l) ++ [r]).set n x = tabR n (joinC l) ++ [x] := fun r x => by simp [List.set_append, hTl]
    have hpop : ∀ (x : AO) (g1 g2 g3 g4 g5 g6 : AO) (R : List AO), R.length = n → (g1 :: g2 :: g3 :: g4 :: g5 :: g6 :: (R ++ [x])).take (n + 6) = g1 :: g2 :: g3 :: g4 :: g5 :: g6 :: R := fun x g1 g2 g3 g4 g5 g6 R h => by simp [List.take_append, h]
    have hlo : ∀ (f : Nat → Nat → Int) (W : List Int), ∀ ob ∈ (AO.box (.p (G n es)) :: .box (.agg (.os 2 0 n :: .i q :: .os 5 0 n :: .os 4 0 n :: .os 3 0 n :: .i 0 :: bw (List.replicate 12 false))) :: rowI d :: zr :: rowI W :: .tab (tabE 6 n n) 25 false :: tabR n f : List AO), loO (n + 6) ob = true := by
      intro f W ob hob
      simp only [List.mem_cons, tabR, List.mem_map] at hob
      have h1 := tabE_lo 6 n (n + 6) n (by omega)
      rcases hob with rfl | rfl | rfl | rfl | rfl | rfl | ⟨y, -, rfl⟩ <;> simp [loO, loA, loL, hzr, h1]
    by_cases hab : a = b
    · subst hab
      have e1 : tabR n (joinC (l ++ [((a : Int), (a : Int))])) = tabR n (joinC l) := by
        congr 1
        funext u w
        rw [joinC_snoc, if_neg (by simp only [Prod.mk.injEq]; omega), Int.add_zero]
      have e2 : lisL n (valC (l ++ [((a : Int), (a : Int))])) = lisL n (valC l) := by
        congr 1
        funext u
        rw [valC_snoc, if_neg (by simp), Int.add_zero]
      simp -implicitDefEqProofs (disch := omega) [List.getElem?_cons_zero, List.getElem?_cons_succ, wrap_id, hlt, hx, hTl, hT1, hT2]
      refine round_end' hlt (Wk_pop (n + 6) [54, 53, 52, 8, 3, 1] (by omega) (by simp [hTl]) (hpop _ _ _ _ _ _ _ _ hTl) ?_ (hlo _ _)) (by rw [htk, e1, e2]; rfl)
      intro i hi
      simp only [List.mem_cons, List.not_mem_nil, or_false] at hi
      rcases hi with rfl | rfl | rfl | rfl | rfl | rfl <;> simp [Abs.get, loA]
    · have hab' : ¬ (a : Int) = b := by omega
      have hba : ¬ b = a := fun e => hab e.symm
      have c1 := joinC_bd l a b
      have c2 := joinC_bd l b a
      have c3 := valC_bd l a
      have c4 := valC_bd l b
      have hT3 : ∀ r : AO, (tabR n (joinC l) ++ [r])[a]? = some (rowI (lisL n (joinC l a))) := fun r => by rw [List.getElem?_append_left (by omega)]; exact tabR_get han
      have hT4 : ∀ r x : AO, (tabR n (joinC l) ++ [r]).set a x = (tabR n (joinC l)).set a x ++ [r] := fun r x => by rw [List.set_append, if_pos (by omega)]
      have hT5 : ∀ r x : AO, ((tabR n (joinC l)).set a x ++ [r])[b]? = some (rowI (lisL n (joinC l b))) := fun r x => by rw [List.getElem?_append_left (by simp; omega), List.getElem?_set_ne hab]; exact tabR_get hbn
      have hT6 : ∀ r x y : AO, ((tabR n (joinC l)).set a x ++ [r]).set b y = ((tabR n (joinC l)).set a x).set b y ++ [r] := fun r x y => by rw [List.set_append, if_pos (by simp; omega)]
      have hT7 := tabR_set (l := l) han hbn hab
      have hV7 := lisL_set (l := l) han hbn hab
      have r1 := row_get (n := n) (f := joinC l a) hbn
      have r2 := row_get (n := n) (f := joinC l b) han
      have r3 := row_get (n := n) (f := valC l) han
      have r4 := row_get (n := n) (f := valC l) hbn
      have hLl : ∀ f, (lisL n f).length = n := fun f => by simp [lisL]
      have hTE1 : ∀ (i : Nat) (h : i < (tabE 6 n n).length), (tabE 6 n n)[i] = .os (i + 6) 0 n := fun i h => by simp [tabE]
      have hLg : ∀ (f : Nat → Int) (i : Nat) (h : i < (lisL n f).length), (lisL n f)[i] = f i := fun f i h => by simp [lisL]
      have hTEl := tabE_len 6 n n
      simp -implicitDefEqProofs (disch := omega) [List.getElem?_cons_zero, List.getElem?_cons_succ, wrap_id, hlt, hx, hab', hab, hba, hTl, hT1, hT2, hT3, hT4, hT5, hT6, han, hbn, hTE1, hTEl, hLl, hLg, r1, r2, r3, r4, hT7, hV7]
      refine round_end' hlt (Wk_pop (n + 6) [54, 53, 52, 8, 3, 1] (by omega) (by simp [tabR_len]) (hpop _ _ _ _ _ _ _ _ (tabR_len n _)) ?_ (hlo _ _)) (by rw [htk]; rfl)
      intro i hi
      simp only [List.mem_cons, List.not_mem_nil, or_false] at hi
      rcases hi with rfl | rfl | rfl | rfl | rfl | rfl <;> simp [Abs.get, loA]
  have hkl : k = (endsL es).length := by omega
  subst hkl
  rw [List.take_length, lisL_vals hg]
  simp -implicitDefEqProofs (disch := omega) [List.getElem?_cons_zero, List.getElem?_cons_succ, wrap_id, hd]
  have hz : zr = rowI (List.replicate n 0) := by rw [hzr, rowI, List.map_replicate]
  have htr : ∀ (g1 g2 g3 g4 g5 : AO) (r : List AO) (t : TypeId) (fz : Bool), r = tabR n (joinC (endsL es)) → AV.ren (g1 :: g2 :: g3 :: g4 :: g5 :: .tab (tabE 6 n n) t fz :: r) (Abs.idx [0, 1, 2, 3] 0) (.os 5 0 n) = .p (.iss (rowsL n es)) := by
    intro g1 g2 g3 g4 g5 r t fz hr
    rw [← tabL_rows hg]
    refine tab_rows (o' := 6) rfl rfl (by simp [tabL]) (fun a ha => ⟨by simp [tabL], by simp [Abs.idx], ?_⟩)
    rw [hr]
    show (tabR n (joinC (endsL es)))[a]? = _
    rw [tabR_get ha]
    simp [tabL, lisL]
  refine loopW n (fun m st => st = ⟨[(113, .i m), (112, .i n), (8, .ptr 1 1 0 0)], .box (.p (G n es)) :: .box (pileA 1 n q (rowsL n es) (valsL n es) 0 (wTo n es q d m)) :: rowI d :: rowI (List.replicate n 0) :: []⟩)
    (Wk_norm [0, 1, 2, 3] [113, 112, 8] rfl) ?_ ?_
  · simp -implicitDefEqProofs [-AO.ren, norm, ren_box, ren_row, Abs.get, AV.ren, idx_at, idx_at0, ↓htr, hz]
    exact ⟨(valsL_len n es).symm, rfl⟩
  rintro m st hm rfl
  by_cases hlt : m < n
  · simp -implicitDefEqProofs (disch := omega) [List.getElem?_cons_zero, List.getElem?_cons_succ, wrap_id, hlt]
    refine wait_ok m hlt hn' hd (by simp) (valsL_len _ _) (wTo_len _ _ _ _ _) ?_
    rw [wait_unst hlt, wTo_succ]
    simp -implicitDefEqProofs (disch := omega) [List.getElem?_cons_zero, List.getElem?_cons_succ, wrap_id]
    exact round_keep [113, 112, 8] hlt rfl
  · have hmn : m = n := by omega
    subst hmn
    simp -implicitDefEqProofs (disch := omega) [List.getElem?_cons_zero, List.getElem?_cons_succ, wrap_id]
    refine fin1 [1, 2, 3] trivial rfl rfl ⟨rfl, ?_⟩
    rw [pile0, sumI_zeros]
    simp -implicitDefEqProofs [-AO.ren, renH, ren_box, ren_row, AV.ren, renL, idx_at, idx_at0, bw_ren]
    rfl
end Go.Proofs.YtekniokkmgencaaGreat
end
