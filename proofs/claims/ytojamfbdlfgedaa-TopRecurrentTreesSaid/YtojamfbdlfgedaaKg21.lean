/-
  Texts joined: Zg Zh Zj Zo Dp.
-/
import Derived.Test.YtojamfbdlfgedaaKg20

section
set_option linter.unusedSimpArgs false
set_option linter.unusedVariables false
namespace Go.Proofs.Ytojamfbdlfgedaa
open Go.Abs Go.Sand
/-- The table's things: row a is object o + a. -/
def tabE (o n k : Nat) : List AV := (List.range k).map fun a => .os (a + o) 0 n
theorem tabE_len (o n k : Nat) : (tabE o n k).length = k := by simp [tabE]
theorem tabE_get {o n k a : Nat} (h : a < k) : (tabE o n k)[a]? = some (.os (a + o) 0 n) := by simp [tabE, h]
theorem tabE_succ (o n k : Nat) : tabE o n k ++ [.os (k + o) 0 n] = tabE o n (k + 1) := by simp [tabE, List.range_succ]
theorem tabE_lo (o n m : Nat) : ∀ k, k + o ≤ m → loL m (tabE o n k) = true := by
  intro k
  induction k with
  | zero => intro _; rfl
  | succ k ih =>
    intro h
    have h1 := ih (by omega)
    have app : ∀ (l l' : List AV), loL m l = true → loL m l' = true → loL m (l ++ l') = true := by
      intro l
      induction l with
      | nil => intro l' _ h; exact h
      | cons x l ih => intro l' h h'; simp only [loL, Bool.and_eq_true, List.cons_append] at h ⊢; exact ⟨h.1, ih l' h.2 h'⟩
    rw [← tabE_succ]
    exact app _ _ h1 (by simp [loL, loA]; omega)
/-- Own rows of a table, read. -/
theorem tab_rows {H : List AO} {ρ : Nat → Option Nat} {o o' n : Nat} {t : TypeId} {fz : Bool} {L : List (List Int)} (ho : H[o]? = some (.tab (tabE o' n n) t fz)) (hρ : ρ o = none) (hL : L.length = n) (hR : ∀ a (h : a < n), L[a].length = n ∧ ρ (a + o') = none ∧ H[a + o']? = some (rowI L[a])) :
    AV.ren H ρ (.os o 0 n) = .p (.iss L) := by
  rw [AV.ren]
  simp only [hρ, ho, tabE_len, Nat.zero_add, if_true, List.drop_zero]
  have e : (tabE o' n n).map (ren0 H ρ) = (L.map PV.is).map AV.p := by
    refine List.ext_getElem? fun a => ?_
    by_cases h : a < n
    · obtain ⟨h1, h2, h3⟩ := hR a h
      rw [List.getElem?_map, tabE_get h]
      simp [ren0, h2, h3, h1, h, hL]
    · rw [List.getElem?_eq_none (by simp [tabE_len]; omega), List.getElem?_eq_none (by simp [hL]; omega)]
  rw [e, allOne_ps _ (fun x hx => by obtain ⟨y, _, rfl⟩ := List.mem_map.1 hx; rfl)]
def wTo (n : Nat) (es : List Ed) (q : Int) (c : List Int) (m : Nat) : List Bool := (List.range 12).map fun u => decide (u < m) && unstB n es q c u
theorem wTo_len (n : Nat) (es : List Ed) (q : Int) (c : List Int) (m : Nat) : (wTo n es q c m).length = 12 := by simp [wTo]
theorem wTo_succ {n : Nat} {es : List Ed} {q : Int} {c : List Int} {m : Nat} : (wTo n es q c m).set m (unstB n es q c m) = wTo n es q c (m + 1) := by
  refine List.ext_getElem (by simp [wTo]) fun u h1 h2 => ?_
  rw [List.getElem_set]
  simp only [wTo, List.getElem_map, List.getElem_range]
  by_cases h : m = u
  · subst h; simp
  · have h2 : (u < m + 1) = (u < m) := by simp only [eq_iff_iff]; omega
    simp only [h, if_false, h2]
abbrev pile0 (n : Nat) (es : List Ed) (q : Int) (d s : List Int) : List AO := [.box (pileA 0 n q (rowsL n es) (valsL n es) (sumI s) (waitsL n es q d)), rowI d, rowI s]
set_option maxRecDepth 10000 in
set_option maxHeartbeats 1000000 in
theorem pileOf_ok (n : Nat) (es : List Ed) (q : Int) (d : List Int) (hgc : gcheck n es = 0) (hel : es.length ≤ 1000) (hd : d.length = n) : PC Try.prog 19 [G n es, .i q, .is d] (.tup [.ptr 0 1 0 0, .i 0]) (pile0 n es q d (List.replicate n 0)) := by
  have hg := gcheck_ok hgc
  have hn := hg.n12
  have hn' : n ≤ 12 := by omega
  refine PC_of_W cfn19 ?_
  simp -implicitDefEqProofs (disch := omega) [c19, List.getElem?_cons_zero, List.getElem?_cons_succ, wrap_id]
  have hn6 : n ≤ 1048576 := by omega
  refine tree_join (s0 := ⟨[(8, .ptr 1 1 0 0), (3, .ptr 0 1 0 0), (2, .p (.is d)), (1, .i q)], [.box (.p (G n es)), .box (.agg (.os 2 0 n :: .i q :: .p .nil :: .os 4 0 n :: .os 3 0 n :: .i 0 :: bw (List.replicate 12 false))), rowI d, .row (List.replicate n (PV.i 0)) 1 3 false, .row (List.replicate n (PV.i 0)) 1 3 false]⟩) ?_ ?_
  rotate_left
  · simp -implicitDefEqProofs (disch := omega) [List.getElem?_cons_zero, List.getElem?_cons_succ, wrap_id, hn6]
    repeat' (first
      | refine ⟨?_, ?_⟩
      | (refine HC_of_PC rfl (cloneI_ok d (by omega)) ?_; simp -implicitDefEqProofs [List.getElem?_cons_zero, List.getElem?_cons_succ, hn6, hd])
      | exact wk_norm [0, 4, 1, 3, 2] [8, 3, 2, 1] rfl rfl
      | exact wk_norm [0, 4, 1, 2, 3] [8, 3, 2, 1] rfl rfl
      | exact wk_norm [0, 4, 2, 3, 1] [8, 3, 2, 1] rfl rfl
      | exact wk_norm [0, 4, 3, 2, 1] [8, 3, 2, 1] rfl rfl
      | exact wk_norm [0, 4, 2, 1, 3] [8, 3, 2, 1] rfl rfl
      | exact wk_norm [0, 4, 3, 1, 2] [8, 3, 2, 1] rfl rfl)
  obtain ⟨zr, hzr⟩ : ∃ zr, zr = AO.row (List.replicate n (PV.i 0)) 1 3 false := ⟨_, rfl⟩
  simp -implicitDefEqProofs (disch := omega) [List.getElem?_cons_zero, List.getElem?_cons_succ, wrap_id]
  refine loopW n (fun k st => st = ⟨[(29, .i k), (28, .i n), (8, .ptr 1 1 0 0), (3, .ptr 0 1 0 0), (1, .i q)], .box (.p (G n es)) :: .box (.agg (.os 2 0 n :: .i q :: .os 5 0 k :: .os 4 0 n :: .os 3 0 n :: .i 0 :: bw (List.replicate 12 false))) :: rowI d :: zr :: zr :: .tab (tabE 6 n k) 36 false :: List.replicate k zr⟩)
    ((Wk_nilBT 1 2 36 rfl rfl).trans (Wk_keep [29, 28, 8, 3, 1])) (by rw [hzr]; rfl) ?_
  rintro k st hk rfl
  by_cases hlt : k < n
  · have hla : ∀ r : AO, (List.replicate k zr ++ [r])[k]? = some r := fun r => by simp
    have hla2 : ∀ r x : AO, (List.replicate k zr ++ [r, x])[k]? = some r := fun r x => by simp
    have hla3 : ∀ r x : AO, (List.replicate k zr ++ [r, x])[k + 1]? = some x := fun r x => by simp
    have hk6 : k ≤ 1048575 := by omega
    have htl := tabE_len 6 n k
    simp -implicitDefEqProofs (disch := omega) [List.getElem?_cons_zero, List.getElem?_cons_succ, wrap_id, hlt, hn6, hla, hla2, hla3, hk6, htl]
    refine round_end' hlt (Wk_pop (k + 7) [29, 28, 8, 3, 1] (by omega) (by simp) (H' := .box (.p (G n es)) :: .box (.agg (.os 2 0 n :: .i q :: .os 5 0 (k + 1) :: .os 4 0 n :: .os 3 0 n :: .i 0 :: bw (List.replicate 12 false))) :: rowI d :: zr :: zr :: .tab (tabE 6 n (k + 1)) 36 false :: List.replicate (k + 1) zr) ?_ ?_ ?_) rfl
    · rw [← tabE_succ, hzr]
      simp [List.take_append, List.replicate_succ']
    · intro i hi
      simp only [List.mem_cons, List.not_mem_nil, or_false] at hi
      rcases hi with rfl | rfl | rfl | rfl | rfl <;> simp [Abs.get, loA]
    · intro ob hob
      simp only [List.mem_cons, List.mem_replicate] at hob
      have h1 := tabE_lo 6 n (k + 7) (k + 1) (by omega)
      rcases hob with rfl | rfl | rfl | rfl | rfl | rfl | ⟨-, rfl⟩ <;> simp [loO, loA, loL, hzr, h1]
  have hkn : n = k := by omega
  subst hkn
  have hrep : List.replicate n zr = tabR n (joinC []) := by
    refine List.ext_getElem? fun i => ?_
    by_cases hi : i < n
    · rw [tabR_get hi, hzr]
      simp only [List.getElem?_replicate, hi, if_true, rowI, lisL, ← zrow, List.map_replicate]
    · rw [List.getElem?_eq_none (by simp; omega), List.getElem?_eq_none (by simp [tabR_len]; omega)]
  have hval : zr = rowI (lisL n (valC [])) := by rw [hzr, rowI, ← lisL_zero, List.map_replicate]
  have hlen := endsL_len hg.right
  have hlen' : (endsL es).length ≤ 50000 := by omega
  simp -implicitDefEqProofs (disch := omega) [List.getElem?_cons_zero, List.getElem?_cons_succ, wrap_id]
  refine HC_of_PC rfl (gends_ok n es hel hgc) ?_
  simp -implicitDefEqProofs (disch := omega) [List.getElem?_cons_zero, List.getElem?_cons_succ, wrap_id]
  refine loopW (endsL es).length (fun k st => st = ⟨[(54, .i k), (53, .i (endsL es).length), (52, .p (.ps (endsL es))), (8, .ptr 1 1 0 0), (3, .ptr 0 1 0 0), (1, .i q)],
      .box (.p (G n es)) :: .box (.agg (.os 2 0 n :: .i q :: .os 5 0 n :: .os 4 0 n :: .os 3 0 n :: .i 0 :: bw (List.replicate 12 false))) :: rowI d :: zr :: rowI (lisL n (valC ((endsL es).take k))) :: .tab (tabE 6 n n) 36 false :: tabR n (joinC ((endsL es).take k))⟩)
    (Wk_keep [54, 53, 52, 8, 3, 1]) (by simp only [List.take_zero, ← hrep, ← hval]; rfl) ?_
  rintro k st hk rfl
  by_cases hlt : k < (endsL es).length
  · obtain ⟨⟨a0, an⟩, b0, bn⟩ := ends_in' hg.right _ (List.getElem_mem hlt)
    obtain ⟨a, ha⟩ : ∃ a : Nat, (endsL es)[k].1 = a := ⟨(endsL es)[k].1.toNat, by omega⟩
    obtain ⟨b, hb⟩ : ∃ b : Nat, (endsL es)[k].2 = b := ⟨(endsL es)[k].2.toNat, by omega⟩
    have han : a < n := by omega
    have hbn : b < n := by omega
    have hx : (endsL es)[k] = ((a : Int), (b : Int)) := by rw [← ha, ← hb]
    have htk : (endsL es).take (k + 1) = (endsL es).take k ++ [((a : Int), (b : Int))] := by rw [List.take_add_one, List.getElem?_eq_getElem hlt, hx]; rfl
    obtain ⟨l, hl⟩ : ∃ l, l = (endsL es).take k := ⟨_, rfl⟩
    have hll : l.length ≤ 50000 := by rw [hl, List.length_take]; omega
    rw [← hl] at htk ⊢
    have hTl := tabR_len n (joinC l)
    have hT1 : ∀ r : AO, (tabR n (joinC l) ++ [r])[n]? = some r := fun r => by simp [hTl]
    have hT2 : ∀ r x : AO, (tabR n (joinC l) ++ [r]).set n x = tabR n (joinC l) ++ [x] := fun r x => by simp [List.set_append, hTl]
    have hpop : ∀ (x : AO) (g1 g2 g3 g4 g5 g6 : AO) (R : List AO), R.length = n → (g1 :: g2 :: g3 :: g4 :: g5 :: g6 :: (R ++ [x])).take (n + 6) = g1 :: g2 :: g3 :: g4 :: g5 :: g6 :: R := fun x g1 g2 g3 g4 g5 g6 R h => by simp [List.take_append, h]
    have hlo : ∀ (f : Nat → Nat → Int) (W : List Int), ∀ ob ∈ (AO.box (.p (G n es)) :: .box (.agg (.os 2 0 n :: .i q :: .os 5 0 n :: .os 4 0 n :: .os 3 0 n :: .i 0 :: bw (List.replicate 12 false))) :: rowI d :: zr :: rowI W :: .tab (tabE 6 n n) 36 false :: tabR n f : List AO), loO (n + 6) ob = true := by
      intro f W ob hob
      simp only [List.mem_cons, tabR, List.mem_map] at hob
      have h1 := tabE_lo 6 n (n + 6) n (by omega)
      rcases hob with rfl | rfl | rfl | rfl | rfl | rfl | ⟨y, -, rfl⟩ <;> simp [loO, loA, loL, hzr, h1]
    by_cases hab : a = b
    · subst hab
      have e1 : tabR n (joinC (l ++ [((a : Int), (a : Int))])) = tabR n (joinC l) := by
        congr 1
        funext u w
        rw [joinC_snoc, if_neg (by simp only [Prod.mk.injEq]; omega), Int.add_zero]
      have e2 : lisL n (valC (l ++ [((a : Int), (a : Int))])) = lisL n (valC l) := by
        congr 1
        funext u
        rw [valC_snoc, if_neg (by simp), Int.add_zero]
      simp -implicitDefEqProofs (disch := omega) [List.getElem?_cons_zero, List.getElem?_cons_succ, wrap_id, hlt, hx, hTl, hT1, hT2]
      refine round_end' hlt (Wk_pop (n + 6) [54, 53, 52, 8, 3, 1] (by omega) (by simp [hTl]) (hpop _ _ _ _ _ _ _ _ hTl) ?_ (hlo _ _)) (by rw [htk, e1, e2]; rfl)
      intro i hi
      simp only [List.mem_cons, List.not_mem_nil, or_false] at hi
      rcases hi with rfl | rfl | rfl | rfl | rfl | rfl <;> simp [Abs.get, loA]
    · have hab' : ¬ (a : Int) = b := by omega
      have hba : ¬ b = a := fun e => hab e.symm
      have c1 := joinC_bd l a b
      have c2 := joinC_bd l b a
      have c3 := valC_bd l a
      have c4 := valC_bd l b
      have hT3 : ∀ r : AO, (tabR n (joinC l) ++ [r])[a]? = some (rowI (lisL n (joinC l a))) := fun r => by rw [List.getElem?_append_left (by omega)]; exact tabR_get han
      have hT4 : ∀ r x : AO, (tabR n (joinC l) ++ [r]).set a x = (tabR n (joinC l)).set a x ++ [r] := fun r x => by rw [List.set_append, if_pos (by omega)]
      have hT5 : ∀ r x : AO, ((tabR n (joinC l)).set a x ++ [r])[b]? = some (rowI (lisL n (joinC l b))) := fun r x => by rw [List.getElem?_append_left (by simp; omega), List.getElem?_set_ne hab]; exact tabR_get hbn
      have hT6 : ∀ r x y : AO, ((tabR n (joinC l)).set a x ++ [r]).set b y = ((tabR n (joinC l)).set a x).set b y ++ [r] := fun r x y => by rw [List.set_append, if_pos (by simp; omega)]
      have hT7 := tabR_set (l := l) han hbn hab
      have hV7 := lisL_set (l := l) han hbn hab
      have r1 := row_get (n := n) (f := joinC l a) hbn
      have r2 := row_get (n := n) (f := joinC l b) han
      have r3 := row_get (n := n) (f := valC l) han
      have r4 := row_get (n := n) (f := valC l) hbn
      have hLl : ∀ f, (lisL n f).length = n := fun f => by simp [lisL]
      have hTE1 : ∀ (i : Nat) (h : i < (tabE 6 n n).length), (tabE 6 n n)[i] = .os (i + 6) 0 n := fun i h => by simp [tabE]
      have hLg : ∀ (f : Nat → Int) (i : Nat) (h : i < (lisL n f).length), (lisL n f)[i] = f i := fun f i h => by simp [lisL]
      have hTEl := tabE_len 6 n n
      simp -implicitDefEqProofs (disch := omega) [List.getElem?_cons_zero, List.getElem?_cons_succ, wrap_id, hlt, hx, hab', hab, hba, hTl, hT1, hT2, hT3, hT4, hT5, hT6, han, hbn, hTE1, hTEl, hLl, hLg, r1, r2, r3, r4, hT7, hV7]
      refine round_end' hlt (Wk_pop (n + 6) [54, 53, 52, 8, 3, 1] (by omega) (by simp [tabR_len]) (hpop _ _ _ _ _ _ _ _ (tabR_len n _)) ?_ (hlo _ _)) (by rw [htk]; rfl)
      intro i hi
      simp only [List.mem_cons, List.not_mem_nil, or_false] at hi
      rcases hi with rfl | rfl | rfl | rfl | rfl | rfl <;> simp [Abs.get, loA]
  have hkl : k = (endsL es).length := by omega
  subst hkl
  rw [List.take_length, lisL_vals hg]
  simp -implicitDefEqProofs (disch := omega) [List.getElem?_cons_zero, List.getElem?_cons_succ, wrap_id, hd]
  have hz : zr = rowI (List.replicate n 0) := by rw [hzr, rowI, List.map_replicate]
  have htr : ∀ (g1 g2 g3 g4 g5 : AO) (r : List AO) (t : TypeId) (fz : Bool), r = tabR n (joinC (endsL es)) → AV.ren (g1 :: g2 :: g3 :: g4 :: g5 :: .tab (tabE 6 n n) t fz :: r) (Abs.idx [0, 1, 2, 3] 0) (.os 5 0 n) = .p (.iss (rowsL n es)) := by
    intro g1 g2 g3 g4 g5 r t fz hr
    rw [← tabL_rows hg]
    refine tab_rows (o' := 6) rfl rfl (by simp [tabL]) (fun a ha => ⟨by simp [tabL], by simp [Abs.idx], ?_⟩)
    rw [hr]
    show (tabR n (joinC (endsL es)))[a]? = _
    rw [tabR_get ha]
    simp [tabL, lisL]
  refine loopW n (fun m st => st = ⟨[(113, .i m), (112, .i n), (8, .ptr 1 1 0 0)], .box (.p (G n es)) :: .box (pileA 1 n q (rowsL n es) (valsL n es) 0 (wTo n es q d m)) :: rowI d :: rowI (List.replicate n 0) :: []⟩)
    (Wk_norm [0, 1, 2, 3] [113, 112, 8] rfl) ?_ ?_
  · simp -implicitDefEqProofs [-AO.ren, norm, ren_box, ren_row, Abs.get, AV.ren, idx_at, idx_at0, ↓htr, hz]
    exact ⟨(valsL_len n es).symm, rfl⟩
  rintro m st hm rfl
  by_cases hlt : m < n
  · simp -implicitDefEqProofs (disch := omega) [List.getElem?_cons_zero, List.getElem?_cons_succ, wrap_id, hlt]
    refine wait_ok m hlt hn' hd (by simp) (valsL_len _ _) (wTo_len _ _ _ _ _) ?_
    rw [wait_unst hlt, wTo_succ]
    simp -implicitDefEqProofs (disch := omega) [List.getElem?_cons_zero, List.getElem?_cons_succ, wrap_id]
    exact round_keep [113, 112, 8] hlt rfl
  · have hmn : m = n := by omega
    subst hmn
    simp -implicitDefEqProofs (disch := omega) [List.getElem?_cons_zero, List.getElem?_cons_succ, wrap_id]
    refine fin1 [1, 2, 3] trivial rfl rfl ⟨rfl, ?_⟩
    rw [pile0, sumI_zeros]
    simp -implicitDefEqProofs [-AO.ren, renH, ren_box, ren_row, AV.ren, renL, idx_at, idx_at0, bw_ren]
    rfl
end Go.Proofs.Ytojamfbdlfgedaa
end
section
set_option linter.unusedSimpArgs false
set_option linter.unusedVariables false
namespace Go.Proofs.Ytojamfbdlfgedaa
open Go.Abs Go.Sand
def rootE (N : Int) (es : List Ed) (q : Int) : Int := if gcheck N es ≠ 0 then gcheck N es else if partsN es N.toNat = 1 then (if vtx N q = true then 0 else 2) else 13
theorem root_ok {N q : Int} {es : List Ed} (h : rootE N es q = 0) : ∃ n : Nat, N = n ∧ gcheck n es = 0 ∧ GoodG n es ∧ partsN es n = 1 ∧ 0 ≤ q ∧ q < n ∧ 1 ≤ n ∧ n ≤ 12 := by
  unfold rootE at h
  split at h
  · rename_i h1; exact absurd h h1
  · rename_i h1
    have h1 := Decidable.not_not.1 h1
    have hg := gcheck_ok h1
    have hn1 := hg.n1
    have hn12 := hg.n12
    obtain ⟨n, rfl⟩ : ∃ n : Nat, N = n := ⟨N.toNat, by omega⟩
    split at h
    · rename_i h2
      split at h
      · rename_i h3
        have h3' : 0 ≤ q ∧ q < n := by simpa [vtx] using h3
        exact ⟨n, rfl, h1, hg, by simpa using h2, h3'.1, h3'.2, by omega, by omega⟩
      · cases h
    · cases h
/-- The first k vertices are not in debt. -/
def NN (q : Int) (d : List Int) (k : Nat) : Prop := ∀ u, u < k → ¬ ((u : Int) ≠ q ∧ d.getD u 0 < 0)
theorem NN.succ {q : Int} {d : List Int} {k : Nat} (h : NN q d k) (h2 : ¬ ((k : Int) ≠ q ∧ d.getD k 0 < 0)) : NN q d (k + 1) := fun u hu => by
  rcases Nat.lt_or_ge u k with h3 | h3
  · exact h u h3
  · have e : u = k := by omega
    subst e; exact h2
theorem bw_calm : ∀ W : List Bool, calmL (bw W) = true
  | [] => rfl
  | x :: W => by
    show (calmA (.b x) && calmL (bw W)) = true
    rw [bw_calm W]; rfl
section
variable (N : Int) (es : List Ed) (q : Int) (d : List Int) (hel : es.length ≤ 900) (hd : d.length ≤ 1000)
include hel
theorem rooted_ok : PC Try.prog 18 [G N es, .i q] (.i (rootE N es q)) [] := by
  refine PC_of_W cfn18 ?_
  simp -implicitDefEqProofs (disch := omega) [c18, List.getElem?_cons_zero, List.getElem?_cons_succ, wrap_id]
  by_cases hg : gcheck N es = 0
  · have hgg := gcheck_ok hg
    have hn1 := hgg.n1
    have hn12 := hgg.n12
    obtain ⟨n, rfl⟩ : ∃ n : Nat, N = n := ⟨N.toNat, by omega⟩
    refine HC_of_PC rfl (connected_ok n es hel hg) ?_
    by_cases hp : (rootsL es n).length = 1
    · have hp' : partsN es n = 1 := hp
      by_cases h1 : q < 0
      · have e : vtx n q = false := by simp [vtx]; omega
        simp -implicitDefEqProofs (disch := omega) [List.getElem?_cons_zero, List.getElem?_cons_succ, wrap_id, hp, h1]
        (refine fin0 trivial rfl ?_; simp -implicitDefEqProofs (disch := omega) [List.getElem?_cons_zero, List.getElem?_cons_succ, idx, wrap_id, rootE, hg, hp', e])
      · by_cases h2 : (n : Int) ≤ q
        · have e : vtx n q = false := by simp [vtx]; omega
          simp -implicitDefEqProofs (disch := omega) [List.getElem?_cons_zero, List.getElem?_cons_succ, wrap_id, hp, h1, h2]
          (refine fin0 trivial rfl ?_; simp -implicitDefEqProofs (disch := omega) [List.getElem?_cons_zero, List.getElem?_cons_succ, idx, wrap_id, rootE, hg, hp', e])
        · have e : vtx n q = true := by simp [vtx]; omega
          simp -implicitDefEqProofs (disch := omega) [List.getElem?_cons_zero, List.getElem?_cons_succ, wrap_id, hp, h1, h2]
          (refine fin0 trivial rfl ?_; simp -implicitDefEqProofs (disch := omega) [List.getElem?_cons_zero, List.getElem?_cons_succ, idx, wrap_id, rootE, hg, hp', e])
    · have hp' : ¬ partsN es n = 1 := hp
      simp -implicitDefEqProofs (disch := omega) [List.getElem?_cons_zero, List.getElem?_cons_succ, wrap_id, hp]
      (refine fin0 trivial rfl ?_; simp -implicitDefEqProofs (disch := omega) [List.getElem?_cons_zero, List.getElem?_cons_succ, idx, wrap_id, rootE, hg, hp'])
  · refine HC_of_PC rfl (connected_err N es hel hg) ?_
    simp -implicitDefEqProofs (disch := omega) [List.getElem?_cons_zero, List.getElem?_cons_succ, wrap_id, hg]
    (refine fin0 trivial rfl ?_; simp -implicitDefEqProofs (disch := omega) [List.getElem?_cons_zero, List.getElem?_cons_succ, idx, wrap_id, rootE, hg])
include hd
end
end Go.Proofs.Ytojamfbdlfgedaa
end
section
set_option linter.unusedSimpArgs false
set_option linter.unusedVariables false
namespace Go.Proofs.Ytojamfbdlfgedaa
open Go.Abs Go.Sand
section
variable (N : Int) (es : List Ed) (q : Int) (d : List Int) (hel : es.length ≤ 900) (hd : d.length ≤ 1000)
include hel hd
end
theorem lisL_len (k : Nat) (f : Nat → Int) : (lisL k f).length = k := by simp [lisL]
section
variable (n : Nat) (es : List Ed) (q : Int) (d : List Int) (hel : es.length ≤ 900) (hg : GoodG n es) (hd : d.length = n)
include hel hg
include hd
end
end Go.Proofs.Ytojamfbdlfgedaa
end
section
set_option linter.unusedSimpArgs false
set_option linter.unusedVariables false
namespace Go.Proofs.Ytojamfbdlfgedaa
open Go.Abs Go.Sand
section
variable {n : Nat} {es : List Ed} {q : Int} {d : List Int}
end
/-- While the greatest stable configuration is laid out. -/
def topTo (n : Nat) (es : List Ed) (q : Int) (k : Nat) : List Int := lisL n fun v => if v < k then (if (v : Int) = q then 0 else valTo es v n - 1) else 0
theorem topTo_len (n : Nat) (es : List Ed) (q : Int) (k : Nat) : (topTo n es q k).length = n := by simp [topTo, lisL]
theorem topTo_0 (n : Nat) (es : List Ed) (q : Int) : List.replicate n 0 = topTo n es q 0 := by
  refine List.ext_getElem (by simp [topTo_len]) fun i h1 h2 => by simp [topTo, lisL]
theorem topTo_set {n : Nat} {es : List Ed} {q : Int} {k : Nat} (hk : k < n) (h : (k : Int) ≠ q) : (topTo n es q k).set k (valTo es k n - 1) = topTo n es q (k + 1) := by
  refine ext_getD (by simp [topTo_len]) fun u hu => ?_
  have hu' : u < n := by simpa [topTo_len] using hu
  rw [getD_set]
  simp only [topTo, lisL, rg_get, List.length_map, List.length_range, hu', if_true]
  by_cases h1 : k = u
  · subst h1; simp [hk, h]
  · have h2 : (u < k + 1) = (u < k) := by simp only [eq_iff_iff]; omega
    simp only [h1, false_and, if_false, h2]
theorem topTo_skip {n : Nat} {es : List Ed} {q : Int} {k : Nat} (h : (k : Int) = q) : topTo n es q (k + 1) = topTo n es q k := by
  unfold topTo lisL
  refine List.map_congr_left fun u _ => ?_
  by_cases h1 : u = k
  · subst h1; simp [h]
  · have h2 : (u < k + 1) = (u < k) := by simp only [eq_iff_iff]; omega
    simp only [h2]
theorem topTo_n (n : Nat) (es : List Ed) (q : Int) : topTo n es q n = lisL n fun v => if (v : Int) = q then 0 else valTo es v n - 1 := by
  unfold topTo lisL
  refine List.map_congr_left fun u hu => ?_
  rw [if_pos (List.mem_range.1 hu)]
section
variable (N : Int) (es : List Ed) (q : Int) (d : List Int) (hel : es.length ≤ 900) (hd : d.length ≤ 1000)
include hel hd
omit hd in
theorem maximal_ok : PC Try.prog 11 [G N es, .i q] (.tup [.p (.is (if rootE N es q = 0 then lisL N.toNat fun v => if (v : Int) = q then 0 else valTo es v N.toNat - 1 else [])), .i (rootE N es q)]) [] := by
  refine PC_of_W cfn11 ?_
  simp -implicitDefEqProofs (disch := omega) [c11, List.getElem?_cons_zero, List.getElem?_cons_succ, wrap_id]
  refine HC_of_PC rfl (rooted_ok N es q hel) ?_
  by_cases h0 : rootE N es q = 0
  · obtain ⟨n, rfl, hgc, hg, hp, hq0, hqn, hn1, hn⟩ := root_ok h0
    have hn6 : n ≤ 1048576 := by omega
    have hvl := valsL_len n es
    simp -implicitDefEqProofs (disch := omega) [List.getElem?_cons_zero, List.getElem?_cons_succ, wrap_id, h0, hn6]
    rw [← List.map_replicate (f := PV.i)]
    refine HC_of_PC (by simp [views, view, viewC, hn6]) (pileOf_ok n es q (List.replicate n 0) hgc (by omega) (by simp)) ?_
    simp -implicitDefEqProofs (disch := omega) [List.getElem?_cons_zero, List.getElem?_cons_succ, wrap_id, bw_ren, bw_calm, hn6, hvl]
    refine loopW n (fun k st => st = ⟨[(38, .i k), (37, .i n), (36, .p (.is (valsL n es))), (9, .os 0 0 n), (1, .i q)], [rowI (topTo n es q k)]⟩) (Wk_norm [5] [38, 37, 36, 9, 1] rfl) ?_ ?_
    · rw [← topTo_0, rowI, List.map_replicate]; rfl
    rintro k st hk rfl
    have htl := topTo_len n es q k
    by_cases hlt : k < n
    · have hkv : k < (valsL n es).length := by omega
      have hV : ∀ h, (valsL n es)[k]'h = valTo es k n := fun h => by simp [valsL]
      have hvb := val_bd hg k
      by_cases h3 : (k : Int) = q
      · have h3' : ((k : Int) = q) = True := eq_true h3
        have e := topTo_skip (n := n) (es := es) h3
        simp -implicitDefEqProofs (disch := omega) [List.getElem?_cons_zero, List.getElem?_cons_succ, wrap_id, hlt, h3', hkv, hV]
        exact round_keep [38, 37, 36, 9, 1] hlt (by rw [e]; rfl)
      · have e := congrArg (List.map PV.i) (topTo_set (es := es) hlt h3)
        rw [List.map_set] at e
        simp -implicitDefEqProofs (disch := omega) [List.getElem?_cons_zero, List.getElem?_cons_succ, wrap_id, hlt, h3, hkv, hV, htl, e]
        exact round_keep [38, 37, 36, 9, 1] hlt rfl
    · have hkn : k = n := by omega
      rw [hkn, topTo_n]
      have hll := lisL_len n fun v => if (v : Int) = q then 0 else valTo es v n - 1
      simp -implicitDefEqProofs (disch := omega) [List.getElem?_cons_zero, List.getElem?_cons_succ, wrap_id]
      (refine fin0 trivial rfl ?_; simp -implicitDefEqProofs (disch := omega) [List.getElem?_cons_zero, List.getElem?_cons_succ, idx, wrap_id, h0, hll])
  · simp -implicitDefEqProofs (disch := omega) [List.getElem?_cons_zero, List.getElem?_cons_succ, wrap_id, h0]
    refine finW (Wk_nil0 4 rfl) ?_
    (refine fin0 trivial rfl ?_; simp -implicitDefEqProofs (disch := omega) [List.getElem?_cons_zero, List.getElem?_cons_succ, idx, wrap_id, h0])
end
end Go.Proofs.Ytojamfbdlfgedaa
end
section
set_option linter.unusedSimpArgs false
set_option linter.unusedVariables false
namespace Go.Proofs.Ytojamfbdlfgedaa
open Go.Abs Go.Sand
theorem outE_val (v : Nat) : ∀ {es : List Ed}, (∀ x ∈ es, 0 ≤ x.a ∧ 0 ≤ x.b) → outE (fun u => !oneB v u) v es = valS es v
  | [], _ => rfl
  | x :: es, h => by
    have ih := outE_val v (es := es) fun y hy => h y (by simp [hy])
    have hx := h x (by simp)
    rw [outE, ih, show valS (x :: es) v = val1 v x + valS es v from rfl]
    congr 1
    unfold val1
    have e : (x.a ≠ x.b ∧ ((x.a = v ∧ (!oneB v x.b.toNat) = true) ∨ (x.b = v ∧ (!oneB v x.a.toNat) = true))) ↔ (x.a ≠ x.b ∧ (x.a = v ∨ x.b = v)) := by
      simp only [oneB, Bool.not_eq_true', decide_eq_false_iff_not]
      omega
    by_cases hc : x.a ≠ x.b ∧ (x.a = v ∨ x.b = v)
    · rw [if_pos (e.2 hc), if_pos hc]
    · rw [if_neg (fun h => hc (e.1 h)), if_neg hc]
theorem val_outD {n : Nat} {es : List Ed} (hr : ∀ x ∈ es, Right n x) (v : Nat) : (outD (oneB v) v (natE (endsL es)) : Int) = valS es v := by
  rw [outD_outE (by simp [oneB]) hr, outE_val v fun x hx => ⟨(hr x hx).a0, (hr x hx).b0⟩]
/-- Is it marked? -/
def mkF (M : List Bool) (u : Nat) : Bool := M.getD u false
theorem getD_getB {M : List Bool} {i : Nat} (h : i < M.length) : mkF M i = M[i] := by simp [mkF, h]
/-- A pile, as a value. -/
abbrev pileP (n : Nat) (es : List Ed) (q : Nat) (c : List Int) : PV := .agg [.i n, .sl (es.map edP), .i q, .is c]
theorem valence_ok (n : Nat) (es : List Ed) (q : Nat) (c : List Int) (hgc : gcheck n es = 0) (v : Nat) (hv : v < n) (hel : es.length ≤ 900) : PC Try.prog 45 [pileP n es q c, .i v] (.i (valS es v)) [] := by
  have hvt : vtx n v = true := by simp [vtx]; omega
  refine PC_of_W cfn45 ?_
  simp -implicitDefEqProofs (disch := omega) [c45, List.getElem?_cons_zero, List.getElem?_cons_succ, wrap_id]
  refine HC_of_PC rfl (val_ok n es v hgc hvt (by omega)) ?_
  simp -implicitDefEqProofs (disch := omega) [List.getElem?_cons_zero, List.getElem?_cons_succ, wrap_id]
  (refine fin0 trivial rfl ?_; simp -implicitDefEqProofs (disch := omega) [List.getElem?_cons_zero, List.getElem?_cons_succ, idx, wrap_id])
theorem joins_ok (n : Nat) (es : List Ed) (q : Nat) (c : List Int) (hr : ∀ x ∈ es, Right n x) (hel : es.length ≤ 900) (M : List Bool) (hM : M.length = n) (v : Nat) : PC Try.prog 55 [pileP n es q c, .i v, .bo M] (.i (outE (mkF M) v es)) [] := by
  have hb : ∀ k, 0 ≤ outE (mkF M) v (es.take k) ∧ outE (mkF M) v (es.take k) ≤ 45000 := fun k => by
    have hr' : ∀ x ∈ es.take k, Right n x := fun x hx => hr x (List.mem_of_mem_take hx)
    have h1 := outE_nn (mkF M) v hr'
    have h2 := outE_le (mkF M) v hr'
    have : (es.take k).length ≤ es.length := by rw [List.length_take]; omega
    omega
  refine PC_of_W cfn55 ?_
  simp -implicitDefEqProofs (disch := omega) [c55, List.getElem?_cons_zero, List.getElem?_cons_succ, wrap_id]
  refine loopW es.length (fun k st => st = ⟨[(14, .i k), (13, .i es.length), (12, .p (.sl (es.map edP))), (7, .i (outE (mkF M) v (es.take k))), (1, .i v), (2, .p (.bo M))], []⟩) (wk_norm [] [14, 13, 12, 7, 1, 2] rfl rfl) rfl ?_
  rintro k st hk rfl
  by_cases hlt : k < es.length
  · have hx := hr es[k] (List.getElem_mem hlt)
    have h1 := hb k
    have h2 := hb (k + 1)
    have hs : outE (mkF M) v (es.take (k + 1)) = outE (mkF M) v (es.take k) + outE (mkF M) v [es[k]] := by
      rw [List.take_succ_eq_append_getElem hlt, outE_app]
    obtain ⟨a, ha⟩ : ∃ a : Nat, es[k].a = a := ⟨es[k].a.toNat, by have := hx.a0; omega⟩
    obtain ⟨b, hbb⟩ : ∃ b : Nat, es[k].b = b := ⟨es[k].b.toNat, by have := hx.b0; omega⟩
    have han : a < n := by have := hx.an; omega
    have hbn : b < n := by have := hx.bn; omega
    have haM : a < M.length := by omega
    have hbM : b < M.length := by omega
    have hm1 := hx.m1
    have hm2 := hx.m50
    obtain ⟨m, hm⟩ : ∃ m, m = es[k].m := ⟨_, rfl⟩
    rw [← hm] at hm1 hm2
    have hx2 : edP es[k] = .agg [PV.i a, PV.i b, PV.i m] := by rw [edP, ha, hbb, hm]
    obtain ⟨S, hS⟩ : ∃ S, S = outE (mkF M) v (es.take k) := ⟨_, rfl⟩
    rw [← hS] at h1 hs ⊢
    have hone : outE (mkF M) v [es[k]] = if a ≠ b ∧ ((a = v ∧ M[b] = true) ∨ (b = v ∧ M[a] = true)) then m else 0 := by
      rw [outE, outE, ha, hbb, ← hm, Int.add_zero]
      simp only [Int.toNat_natCast, getD_getB haM, getD_getB hbM]
      have e : ((a : Int) ≠ b ∧ (((a : Int) = v ∧ M[b] = true) ∨ ((b : Int) = v ∧ M[a] = true))) ↔ (a ≠ b ∧ ((a = v ∧ M[b] = true) ∨ (b = v ∧ M[a] = true))) := by
        constructor <;> (intro h; refine ⟨by omega, ?_⟩; rcases h.2 with ⟨h1, h2⟩ | ⟨h1, h2⟩; exact .inl ⟨by omega, h2⟩; exact .inr ⟨by omega, h2⟩)
      by_cases hc : a ≠ b ∧ ((a = v ∧ M[b] = true) ∨ (b = v ∧ M[a] = true))
      · rw [if_pos hc, if_pos (e.2 hc)]
      · rw [if_neg hc, if_neg (fun h => hc (e.1 h))]
    by_cases hab : a = b
    · have f1 : ((a : Int) = (b : Int)) = True := eq_true (by omega)
      rw [if_neg (by simp [hab])] at hone
      simp -implicitDefEqProofs (disch := omega) [List.getElem?_cons_zero, List.getElem?_cons_succ, wrap_id, hlt, hx2, f1, han, hbn, haM, hbM]
      exact round_end [] [14, 13, 12, 7, 1, 2] hlt rfl (by rw [hs, hone, Int.add_zero]; rfl)
    have f1 : ((a : Int) = (b : Int)) = False := eq_false (by omega)
    by_cases hav : a = v
    · have f2 : ((a : Int) = (v : Int)) = True := eq_true (by omega)
      have f3 : ((b : Int) = (v : Int)) = False := eq_false (by omega)
      cases hB : M[b]
      · rw [if_neg (by rintro ⟨_, ⟨_, h⟩ | ⟨h, _⟩⟩; rw [hB] at h; cases h; omega)] at hone
        simp -implicitDefEqProofs (disch := omega) [List.getElem?_cons_zero, List.getElem?_cons_succ, wrap_id, hlt, hx2, f1, f2, f3, hB, haM, hbM]
        exact round_end [] [14, 13, 12, 7, 1, 2] hlt rfl (by rw [hs, hone, Int.add_zero]; rfl)
      · rw [if_pos ⟨hab, .inl ⟨hav, hB⟩⟩] at hone
        simp -implicitDefEqProofs (disch := omega) [List.getElem?_cons_zero, List.getElem?_cons_succ, wrap_id, hlt, hx2, f1, f2, f3, hB, haM, hbM]
        exact round_end [] [14, 13, 12, 7, 1, 2] hlt rfl (by rw [hs, hone]; rfl)
    have f2 : ((a : Int) = (v : Int)) = False := eq_false (by omega)
    by_cases hbv : b = v
    · have f3 : ((b : Int) = (v : Int)) = True := eq_true (by omega)
      cases hA : M[a]
      · rw [if_neg (by rintro ⟨_, ⟨h, _⟩ | ⟨_, h⟩⟩; omega; rw [hA] at h; cases h)] at hone
        simp -implicitDefEqProofs (disch := omega) [List.getElem?_cons_zero, List.getElem?_cons_succ, wrap_id, hlt, hx2, f1, f2, f3, hA, haM, hbM]
        exact round_end [] [14, 13, 12, 7, 1, 2] hlt rfl (by rw [hs, hone, Int.add_zero]; rfl)
      · rw [if_pos ⟨hab, .inr ⟨hbv, hA⟩⟩] at hone
        simp -implicitDefEqProofs (disch := omega) [List.getElem?_cons_zero, List.getElem?_cons_succ, wrap_id, hlt, hx2, f1, f2, f3, hA, haM, hbM]
        exact round_end [] [14, 13, 12, 7, 1, 2] hlt rfl (by rw [hs, hone]; rfl)
    · have f3 : ((b : Int) = (v : Int)) = False := eq_false (by omega)
      rw [if_neg (by omega)] at hone
      simp -implicitDefEqProofs (disch := omega) [List.getElem?_cons_zero, List.getElem?_cons_succ, wrap_id, hlt, hx2, f1, f2, f3, haM, hbM]
      exact round_end [] [14, 13, 12, 7, 1, 2] hlt rfl (by rw [hs, hone, Int.add_zero]; rfl)
  · simp -implicitDefEqProofs (disch := omega) [List.getElem?_cons_zero, List.getElem?_cons_succ, wrap_id, hlt]
    have hke : k = es.length := by omega
    subst hke
    rw [List.take_length]
    (refine fin0 trivial rfl ?_; simp -implicitDefEqProofs (disch := omega) [List.getElem?_cons_zero, List.getElem?_cons_succ, idx, wrap_id])
theorem catches_ok (n : Nat) (es : List Ed) (q : Nat) (c : List Int) (hgc : gcheck n es = 0) (hel : es.length ≤ 900) (hc : c.length = n) (hcb : ∀ v, v < n → 0 ≤ c.getD v 0 ∧ c.getD v 0 ≤ 1000000) (M : List Bool) (hM : M.length = n) (v : Nat) (hv : v < n) :
    PC Try.prog 46 [pileP n es q c, .i v, .bo M] (.b (decide (valS es v ≤ c.getD v 0 + outE (mkF M) v es))) [] := by
  have hr := (gcheck_ok hgc).right
  have hcv : v < c.length := by omega
  have hb := hcb v hv
  have hg := getD_get hcv
  have h1 := outE_nn (mkF M) v hr
  have h2 := outE_le (mkF M) v hr
  rw [hg] at hb ⊢
  obtain ⟨x, hx⟩ : ∃ x, x = c[v] := ⟨_, rfl⟩
  obtain ⟨S, hS⟩ : ∃ S, S = outE (mkF M) v es := ⟨_, rfl⟩
  have hj := joins_ok n es q c hr hel M hM v
  have hva := valence_ok n es q c hgc v hv hel
  rw [← hS] at h1 h2 hj ⊢
  rw [← hx] at hb ⊢
  refine PC_of_W cfn46 ?_
  simp -implicitDefEqProofs (disch := omega) [c46, List.getElem?_cons_zero, List.getElem?_cons_succ, wrap_id, hcv, ← hx]
  refine HC_of_PC rfl (hj) ?_
  simp -implicitDefEqProofs (disch := omega) [List.getElem?_cons_zero, List.getElem?_cons_succ, wrap_id]
  refine HC_of_PC rfl (hva) ?_
  simp -implicitDefEqProofs (disch := omega) [List.getElem?_cons_zero, List.getElem?_cons_succ, wrap_id]
  (refine fin0 trivial rfl ?_; simp -implicitDefEqProofs (disch := omega) [List.getElem?_cons_zero, List.getElem?_cons_succ, idx, wrap_id])
/-- A stable configuration that has no chips at the sink. -/
structure CfgOk (n : Nat) (es : List Ed) (q : Nat) (c : List Int) : Prop where
  len : c.length = n
  at_ : ∀ v, v < n → v ≠ q → 0 ≤ c.getD v 0 ∧ c.getD v 0 < valS es v
  sink : c.getD q 0 = 0
theorem CfgOk.bd {n : Nat} {es : List Ed} {q : Nat} {c : List Int} (h : CfgOk n es q c) (hr : ∀ x ∈ es, Right n x) (hel : es.length ≤ 900) : ∀ v, v < n → 0 ≤ c.getD v 0 ∧ c.getD v 0 ≤ 1000000 := fun v hv => by
  by_cases e : v = q
  · rw [e, h.sink]; omega
  · have h1 := h.at_ v hv e
    have h2 := outE_le (fun u => !oneB v u) v hr
    rw [outE_val v fun x hx => ⟨(hr x hx).a0, (hr x hx).b0⟩] at h2
    omega
theorem stb40_ok (n : Nat) (es : List Ed) (q : Nat) (c : List Int) (hgc : gcheck n es = 0) (hel : es.length ≤ 900) (hn : n ≤ 12) (h : CfgOk n es q c) : PC Try.prog 31 [pileP n es q c] (.b true) [] := by
  have hcl := h.len
  refine PC_of_W cfn31 ?_
  simp -implicitDefEqProofs (disch := omega) [c31, List.getElem?_cons_zero, List.getElem?_cons_succ, wrap_id]
  refine loopW n (fun k st => st = ⟨[(8, .i k), (7, .i n), (6, .p (.is c)), (1, .ptr 0 1 0 0)], [.box (.p (pileP n es q c))]⟩) (wk_norm [0] [8, 7, 6, 1] rfl rfl) (by show _ = _; simp [Abs.norm, Abs.get, AV.ren, AO.ren, Abs.idx, hcl]) ?_
  rintro k st hk rfl
  by_cases hlt : k < n
  · have hkc : k < c.length := by omega
    by_cases e : k = q
    · have e' : ((k : Int) = (q : Int)) = True := eq_true (by omega)
      simp -implicitDefEqProofs (disch := omega) [List.getElem?_cons_zero, List.getElem?_cons_succ, wrap_id, hlt, hkc, e']
      exact round_end [0] [8, 7, 6, 1] hlt rfl rfl
    · have e' : ((k : Int) = (q : Int)) = False := eq_false (by omega)
      have h1 := (h.at_ k hlt e).2
      rw [getD_get hkc] at h1
      have h2 : ¬ valS es k ≤ c[k] := by omega
      simp -implicitDefEqProofs (disch := omega) [List.getElem?_cons_zero, List.getElem?_cons_succ, wrap_id, hlt, hkc, e']
      refine HC_of_PC rfl (valence_ok n es q c hgc k hlt hel) ?_
      simp -implicitDefEqProofs (disch := omega) [List.getElem?_cons_zero, List.getElem?_cons_succ, wrap_id, h2]
      exact round_end [0] [8, 7, 6, 1] hlt rfl rfl
  · simp -implicitDefEqProofs (disch := omega) [List.getElem?_cons_zero, List.getElem?_cons_succ, wrap_id, hlt]
    (refine fin0 trivial rfl ?_; simp -implicitDefEqProofs (disch := omega) [List.getElem?_cons_zero, List.getElem?_cons_succ, idx, wrap_id])
end Go.Proofs.Ytojamfbdlfgedaa
end
