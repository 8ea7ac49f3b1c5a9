/-
  Texts joined: Zk Wl Wn.
-/
import Derived.Test.YtamiekhoaggpkaaKa28

section
set_option linter.unusedSimpArgs false
set_option linter.unusedVariables false
namespace Go.Proofs.Ytamiekhoaggpkaa
open Go.Abs Go.Sand
/-- A table of nothing. -/
def tab0 (o n k : Nat) (zr : AO) : List AO := .tab (tabE o n k) 25 false :: List.replicate k zr
theorem table_ok (n : Nat) (hn : n ≤ 1000) : PC Try.prog 85 [.i n] (.os 0 0 n) (tab0 1 n n (rowI (List.replicate n 0))) := by
  have hn6 : n ≤ 1048576 := by omega
  obtain ⟨zr, hzr⟩ : ∃ zr, zr = AO.row (List.replicate n (PV.i 0)) 1 3 false := ⟨_, rfl⟩
  have hz2 : rowI (List.replicate n 0) = zr := by rw [rowI, hzr, List.map_replicate]
  rw [hz2]
  refine PC_of_W cfn85 ?_
  simp -implicitDefEqProofs (disch := omega) [c85, List.getElem?_cons_zero, List.getElem?_cons_succ, wrap_id]
  refine loopW n (fun k st => st = ⟨[(4, .i k), (3, .os 0 0 k), (0, .i n)], tab0 1 n k zr⟩) ((Wk_nilT 3 25 rfl).trans (Wk_keep [4, 3, 0])) rfl ?_
  rintro k st hk rfl
  unfold tab0
  by_cases hlt : k < n
  · have hla2 : ∀ r x : AO, (List.replicate k zr ++ [r, x])[k]? = some r := fun r x => by simp
    have hla : ∀ r : AO, (List.replicate k zr ++ [r])[k]? = some r := fun r => by simp
    have hla3 : ∀ r x : AO, (List.replicate k zr ++ [r, x])[k + 1]? = some x := fun r x => by simp
    have hk6 : k ≤ 1048575 := by omega
    have htl := tabE_len 1 n k
    simp -implicitDefEqProofs (disch := omega) [List.getElem?_cons_zero, List.getElem?_cons_succ, wrap_id, hlt, hn6, hla, hla2, hla3, hk6, htl]
    refine round_end' hlt (Wk_pop (k + 2) [4, 3, 0] (by omega) (by simp) (H' := .tab (tabE 1 n (k + 1)) 25 false :: List.replicate (k + 1) zr) ?_ ?_ ?_) rfl
    · rw [← tabE_succ, hzr]
      simp [List.take_append, List.replicate_succ']
    · intro i hi
      simp only [List.mem_cons, List.not_mem_nil, or_false] at hi
      rcases hi with rfl | rfl | rfl <;> simp [Abs.get, loA]
    · intro ob hob
      simp only [List.mem_cons, List.mem_replicate] at hob
      have h1 := tabE_lo 1 n (k + 2) (k + 1) (by omega)
      rcases hob with rfl | ⟨-, rfl⟩ <;> simp [loO, loA, loL, hzr, h1]
  · have hkn : n = k := by omega
    subst hkn
    simp -implicitDefEqProofs (disch := omega) [List.getElem?_cons_zero, List.getElem?_cons_succ, wrap_id]
    exact finH trivial rfl ⟨rfl, rfl⟩
theorem tabE_ren {H : List AO} {ρ : Nat → Option Nat} {o o' n : Nat} : ∀ k, (∀ a, a < k → ρ (a + o) = some (a + o')) → renL H ρ (tabE o n k) = tabE o' n k := by
  intro k h
  rw [renL_eq]
  unfold tabE
  rw [List.map_map]
  refine List.map_congr_left fun a ha => ?_
  have := h a (List.mem_range.1 ha)
  show AV.ren H ρ (.os (a + o) 0 n) = _
  rw [AV.ren, this]
/-- Rows, laid one after the other. -/
def rowTo' (es : List Ed) (v w : Nat) (u x : Nat) : Int := if u < v ∨ u = v ∧ x < w then joinE es u x else 0
theorem tabR_one {n : Nat} {f g : Nat → Nat → Int} {v w : Nat} (hv : v < n) (h : ∀ u x, u < n → x < n → g u x = if u = v ∧ x = w then g v w else f u x) :
    (tabR n f).set v (.row (((lisL n (f v)).map PV.i).set w (PV.i (g v w))) 1 3 false) = tabR n g := by
  refine List.ext_getElem? fun i => ?_
  by_cases hi : i < n
  · rw [tabR_get hi, List.getElem?_set, tabR_len]
    by_cases h1 : v = i
    · subst h1
      rw [if_pos rfl, if_pos hv, ← List.map_set]
      have e : (lisL n (f v)).set w (g v w) = lisL n (g v) := by
        refine ext_getD (by simp [lisL]) fun j hj => ?_
        have hj' : j < n := by simpa [lisL] using hj
        rw [getD_set, lisL, rg_get, lisL, rg_get]
        have := h v j hv hj'
        simp only [hj', if_true, List.length_map, List.length_range, true_and] at this ⊢
        by_cases h2 : w = j
        · subst h2; simp [hj']
        · have h3 : ¬ j = w := fun e => h2 e.symm
          simp only [h2, h3, false_and, if_false] at this ⊢
          exact this.symm
      rw [e]
    · rw [if_neg h1, tabR_get hi]
      have e : lisL n (f i) = lisL n (g i) := by
        unfold lisL
        refine List.map_congr_left fun x hx => ?_
        rw [h i x hi (List.mem_range.1 hx), if_neg (fun e => h1 e.1.symm)]
      rw [e]
  · rw [List.getElem?_eq_none (by simp [tabR_len]; omega), List.getElem?_eq_none (by simp [tabR_len]; omega)]
theorem tabR_congr {n : Nat} {f g : Nat → Nat → Int} (h : ∀ u x, u < n → x < n → f u x = g u x) : tabR n f = tabR n g := by
  unfold tabR tabL
  rw [List.map_congr_left fun u hu => List.map_congr_left fun x hx => h u x (List.mem_range.1 hu) (List.mem_range.1 hx)]
section
variable (n : Nat) (es : List Ed) (q : Int) (d : List Int) (hel : es.length ≤ 900) (hg : GoodG n es)
include hel hg
set_option maxRecDepth 10000 in
theorem rows_ok : PC Try.prog 51 [G n es] (.p (.iss (rowsL n es))) [] := by
  have hn := hg.n12
  refine PC_of_W cfn51 ?_
  simp -implicitDefEqProofs (disch := omega) [c51, List.getElem?_cons_zero, List.getElem?_cons_succ, wrap_id]
  refine HC_of_PC rfl (table_ok n (by omega)) ?_
  have e1 : ∀ H : List AO, renL H (fun o => some (o + 1)) (tabE 1 n n) = tabE 2 n n := fun H => tabE_ren n fun a _ => rfl
  have e0 : List.replicate n (rowI (List.replicate n 0)) = tabR n (rowTo' es 0 0) := by
    refine List.ext_getElem? fun i => ?_
    by_cases hi : i < n
    · rw [tabR_get hi]
      have : lisL n (rowTo' es 0 0 i) = List.replicate n 0 := by
        refine List.ext_getElem (by simp [lisL]) fun j h1 h2 => by simp [lisL, rowTo']
      rw [this]
      simp only [List.getElem?_replicate, hi, if_true]
    · rw [List.getElem?_eq_none (by simp; omega), List.getElem?_eq_none (by simp [tabR_len]; omega)]
  rw [rowI, List.map_replicate] at e0
  simp -implicitDefEqProofs (disch := omega) [List.getElem?_cons_zero, List.getElem?_cons_succ, wrap_id, tab0, e1, ren_tab]
  rw [e0]
  have hLl : ∀ f, (lisL n f).length = n := fun f => by simp [lisL]
  have hTE1 : ∀ (i : Nat) (h : i < (tabE 2 n n).length), (tabE 2 n n)[i] = .os (i + 2) 0 n := fun i h => by simp [tabE]
  have hTEl := tabE_len 2 n n
  refine loopW n (fun v st => st = ⟨[(4, .i v), (3, .os 1 0 n), (1, .ptr 0 1 0 0)], .box (.p (G n es)) :: .tab (tabE 2 n n) 25 false :: tabR n (rowTo' es v 0)⟩) (Wk_keep [4, 3, 1]) rfl ?_
  rintro v st hv rfl
  by_cases hvn : v < n
  · simp -implicitDefEqProofs (disch := omega) [List.getElem?_cons_zero, List.getElem?_cons_succ, wrap_id, hvn]
    refine loopW n (fun w st => st = ⟨[(5, .i w), (4, .i v), (3, .os 1 0 n), (1, .ptr 0 1 0 0)], .box (.p (G n es)) :: .tab (tabE 2 n n) 25 false :: tabR n (rowTo' es v w)⟩) (Wk_keep [5, 4, 3, 1]) rfl ?_
    rintro w st hw rfl
    by_cases hwn : w < n
    · by_cases hvw : v = w
      · have e : tabR n (rowTo' es v (w + 1)) = tabR n (rowTo' es v w) := by
          refine tabR_congr fun u x hu hx => ?_
          unfold rowTo'
          by_cases h1 : u = v ∧ x = w
          · obtain ⟨rfl, rfl⟩ := h1
            rw [← hvw, joinE_self]; simp
          · have : (u < v ∨ u = v ∧ x < w + 1) = (u < v ∨ u = v ∧ x < w) := by simp only [eq_iff_iff]; omega
            simp only [this]
        simp -implicitDefEqProofs (disch := omega) [List.getElem?_cons_zero, List.getElem?_cons_succ, wrap_id, hwn, hvw]
        exact round_keep [5, 4, 3, 1] hwn (by rw [← hvw] at e ⊢; rw [e]; rfl)
      · have hvw' : ¬ (v : Int) = w := by omega
        have hb : betw es (min (v : Int) w) (max (v : Int) w) = joinE es v w := by
          rw [joinE, if_neg (fun e => hvw e.symm), Int.min_comm, Int.max_comm]
        have hT := tabR_len n (rowTo' es v w)
        have hT1 : v < (tabR n (rowTo' es v w)).length := by omega
        have hT3 := tabR_get (n := n) (f := rowTo' es v w) hvn
        have hT4 : ∀ h, (tabR n (rowTo' es v w))[v]'h = rowI (lisL n (rowTo' es v w v)) := fun h => by rw [List.getElem?_eq_getElem h] at hT3; exact Option.some.inj hT3
        have hT5 := tabR_one (n := n) (f := rowTo' es v w) (g := rowTo' es v (w + 1)) (v := v) (w := w) hvn (fun u x hu hx => by
          by_cases h1 : u = v ∧ x = w
          · rw [if_pos h1, h1.1, h1.2]
          · rw [if_neg h1]
            have : (u < v ∨ u = v ∧ x < w + 1) = (u < v ∨ u = v ∧ x < w) := by simp only [eq_iff_iff]; omega
            simp only [rowTo', this])
        have hT6 : rowTo' es v (w + 1) v w = joinE es v w := by unfold rowTo'; rw [if_pos (by omega)]
        rw [hT6] at hT5
        simp -implicitDefEqProofs (disch := omega) [List.getElem?_cons_zero, List.getElem?_cons_succ, wrap_id, hwn, hvw', hvn, hT, hT1, hT3, hT4, hTE1, hTEl, hLl]
        refine HC_of_PC rfl (rbetw_ok n v w es (by omega)) ?_
        have hLq : ∀ f : Nat → Int, (lisL n f)[w]? = some (f w) := fun f => by simp [lisL, hwn]
        simp -implicitDefEqProofs (disch := omega) [List.getElem?_cons_zero, List.getElem?_cons_succ, wrap_id, hwn, hvn, hT, hT1, hT3, hT4, hTEl, hLl, hLq, hb, hT5]
        exact round_keep [5, 4, 3, 1] hwn rfl
    · have hwe : n = w := by omega
      have e : tabR n (rowTo' es v n) = tabR n (rowTo' es (v + 1) 0) := by
        refine tabR_congr fun u x hu hx => ?_
        unfold rowTo'
        have : (u < v ∨ u = v ∧ x < n) = (u < v + 1 ∨ u = v + 1 ∧ x < 0) := by simp only [eq_iff_iff]; omega
        simp only [this]
      rw [← hwe, e]
      simp -implicitDefEqProofs (disch := omega) [List.getElem?_cons_zero, List.getElem?_cons_succ, wrap_id]
      exact round_keep [4, 3, 1] hvn rfl
  · have hve : v = n := by omega
    rw [hve]
    have e : tabR n (rowTo' es n 0) = (rowsL n es).map rowI := by
      rw [tabR, tabL, rowsL, List.map_map, List.map_map]
      refine List.map_congr_left fun u hu => ?_
      have hu := List.mem_range.1 hu
      have : (List.range n).map (rowTo' es n 0 u) = rowL n es u := List.map_congr_left fun x _ => by unfold rowTo'; rw [if_pos (.inl hu)]
      show rowI ((List.range n).map (rowTo' es n 0 u)) = rowI (rowL n es u)
      rw [this]
    have htr : ∀ (b : AO) (t : TypeId) (fz : Bool), AV.ren (b :: .tab (tabE 2 n n) t fz :: tabR n (rowTo' es n 0)) (Abs.idx [] 0) (.os 1 0 n) = .p (.iss (rowsL n es)) := by
      intro b t fz
      refine tab_rows (o' := 2) rfl rfl (by simp [rowsL]) (fun a ha => ⟨by simp [rowsL, rowL], rfl, ?_⟩)
      rw [e]
      show ((rowsL n es).map rowI)[a]? = _
      rw [List.getElem?_map, List.getElem?_eq_getElem (by simp [rowsL]; exact ha)]; rfl
    simp -implicitDefEqProofs (disch := omega) [List.getElem?_cons_zero, List.getElem?_cons_succ, wrap_id]
    exact fin0 (x := .os 1 0 n) trivial rfl (htr _ _ _)
end
end Go.Proofs.Ytamiekhoaggpkaa
end
section
set_option linter.unusedSimpArgs false
set_option linter.unusedVariables false
namespace Go.Proofs.Ytamiekhoaggpkaa
open Go.Abs Go.Sand
/-- The reference fires v: m columns are done. -/
def rfT (n : Nat) (es : List Ed) (c : List Int) (v m : Nat) : List Int := (List.range n).map fun u => c.getD u 0 + (if u < m then joinE es v u else 0) - if u = v then valTo es v m else 0
theorem rfT_len (n : Nat) (es : List Ed) (c : List Int) (v m : Nat) : (rfT n es c v m).length = n := by simp [rfT]
theorem rfT_get {n : Nat} {es : List Ed} {c : List Int} {v m u : Nat} (hu : u < n) : (rfT n es c v m).getD u 0 = c.getD u 0 + (if u < m then joinE es v u else 0) - if u = v then valTo es v m else 0 := by
  rw [rfT, rg_get]
  exact if_pos hu
theorem rfT_0 {n : Nat} {es : List Ed} {c : List Int} (hc : c.length = n) (v : Nat) : rfT n es c v 0 = c := by
  refine ext_getD (by simp [rfT, hc]) fun u hu => ?_
  rw [rfT_len] at hu
  rw [rfT_get hu]
  simp [valTo]
theorem rfT_n (n : Nat) (es : List Ed) (c : List Int) (v : Nat) : rfT n es c v n = firedL n es c v 1 := by
  refine ext_getD (by simp [rfT, firedL]) fun u hu => ?_
  rw [rfT_len] at hu
  rw [rfT_get hu, firedL, rg_get, if_pos hu, if_pos hu]
  simp
theorem joinE_self (es : List Ed) (v : Nat) : joinE es v v = 0 := by simp [joinE]
theorem valTo_join (es : List Ed) (v m : Nat) : valTo es v (m + 1) = valTo es v m + joinE es v m := by
  rw [valTo, joinE]
  by_cases h : m = v
  · subst h; simp
  · have h2 : ¬ (m : Int) = v := by omega
    rw [if_neg h2, if_neg h]
theorem rfT_succ {n : Nat} {es : List Ed} {c : List Int} {v m : Nat} (hv : v < n) (hm : m < n) :
    ((rfT n es c v m).set v ((rfT n es c v m).getD v 0 - joinE es v m)).set m (((rfT n es c v m).set v ((rfT n es c v m).getD v 0 - joinE es v m)).getD m 0 + joinE es v m) = rfT n es c v (m + 1) := by
  refine ext_getD (by simp [rfT]) fun u hu => ?_
  simp only [List.length_set, rfT_len] at hu
  simp only [getD_set, rfT_get hu, rfT_get hv, rfT_get hm, List.length_set, rfT_len, valTo_join]
  by_cases h1 : m = u
  · subst h1
    by_cases h2 : v = m
    · subst h2
      simp [joinE_self, hm]
    · have h3 : ¬ m = v := fun e => h2 e.symm
      simp [h2, h3, hm]
  · have h4 : (u < m + 1) = (u < m) := by simp only [eq_iff_iff]; omega
    by_cases h2 : v = u
    · subst h2
      simp only [h1, hv, and_self, if_true, false_and, if_false, h4]
      omega
    · have h3 : ¬ u = v := fun e => h2 e.symm
      simp only [h1, h2, h3, false_and, if_false, h4]
theorem valTo_50 {n : Nat} {es : List Ed} (hg : GoodG n es) (v : Nat) : ∀ m : Nat, 0 ≤ valTo es v m ∧ valTo es v m ≤ 50 * m
  | 0 => by simp [valTo]
  | m + 1 => by
    have := valTo_50 hg v m
    have := joinE_bd hg v m
    rw [valTo_join]
    push_cast
    omega
section
variable {n : Nat} {es : List Ed} (hg : GoodG n es) {q : Int} {c : List Int}
include hg
theorem rfT_bd {B : Int} (hb : Bd B c) (hB : 0 ≤ B) (v m : Nat) (hm : m ≤ n) : Bd (B + 1000) (rfT n es c v m) := fun i => by
  have h1 := hb i
  have hn := hg.n12
  by_cases hi : i < n
  · rw [rfT_get hi]
    have := joinE_bd hg v i
    have := valTo_50 hg v m
    split <;> split <;> omega
  · rw [List.getD_eq_getElem?_getD, List.getElem?_eq_none (by rw [rfT_len]; omega)]
    simp; omega
theorem rready_ok (hc : c.length = n) : PC Try.prog 48 [.is (valsL n es), .i q, .is c] (.p (.is (rdyL n es q c))) [] := by
  have hn := hg.n12
  have hvl := valsL_len n es
  refine PC_of_W cfn48 ?_
  simp -implicitDefEqProofs (disch := omega) [c48, List.getElem?_cons_zero, List.getElem?_cons_succ, wrap_id]
  refine loopW n (fun k st => st = ⟨[(8, .i k), (7, .os 0 0 (rdyK n es q c k).length), (0, .p (.is (valsL n es))), (1, .i q), (2, .p (.is c))], [rowI (rdyK n es q c k)]⟩) ((Wk_nil 7 1 3 rfl).trans (Wk_keep [8, 7, 0, 1, 2])) rfl ?_
  rintro k st hk rfl
  have hrl := rdyK_len (n := n) (es := es) (q := q) c k
  by_cases hlt : k < n
  · have hkv : k < (valsL n es).length := by omega
    have hkc : k < c.length := by omega
    have hva := valsL_at hkv
    have hk20 : (rdyK n es q c k).length + 1 ≤ 1048576 := by omega
    have hs := rdyK_succ (n := n) (es := es) (q := q) c k
    by_cases h1 : (k : Int) = q
    · subst h1
      have hbk : rdyB n es k c k = false := by simp [rdyB]
      have hs' : rdyK n es k c (k + 1) = rdyK n es k c k := by rw [hs, hbk]; simp
      simp -implicitDefEqProofs (disch := omega) [List.getElem?_cons_zero, List.getElem?_cons_succ, wrap_id, hlt, hvl, hkv, hva, hc]
      exact round_end [0] [8, 7, 0, 1, 2] hlt rfl (by rw [hs']; rfl)
    · by_cases h3 : valTo es k n ≤ c[k]
      · by_cases h2 : 0 < valTo es k n
        · have hbk : rdyB n es q c k = true := by simp [rdyB, h1, h2, h3, hkc]
          have hs' : rdyK n es q c (k + 1) = rdyK n es q c k ++ [(k : Int)] := by rw [hs, hbk]; simp
          simp -implicitDefEqProofs (disch := omega) [List.getElem?_cons_zero, List.getElem?_cons_succ, wrap_id, hlt, hvl, hkv, hc, hkc, hva, h1, h2, h3, hrl, hk20]
          exact round_end [0] [8, 7, 0, 1, 2] hlt rfl (by rw [hs']; simp [Abs.norm, Abs.get, AV.ren, Abs.idx, rowI])
        · have hbk : rdyB n es q c k = false := by simp [rdyB, h2]
          have hs' : rdyK n es q c (k + 1) = rdyK n es q c k := by rw [hs, hbk]; simp
          simp -implicitDefEqProofs (disch := omega) [List.getElem?_cons_zero, List.getElem?_cons_succ, wrap_id, hlt, hvl, hkv, hc, hkc, hva, h1, h2, h3]
          exact round_end [0] [8, 7, 0, 1, 2] hlt rfl (by rw [hs']; rfl)
      · have hbk : rdyB n es q c k = false := by simp [rdyB, h3, hkc]
        have hs' : rdyK n es q c (k + 1) = rdyK n es q c k := by rw [hs, hbk]; simp
        simp -implicitDefEqProofs (disch := omega) [List.getElem?_cons_zero, List.getElem?_cons_succ, wrap_id, hlt, hvl, hkv, hc, hkc, hva, h1, h3]
        exact round_end [0] [8, 7, 0, 1, 2] hlt rfl (by rw [hs']; rfl)
  · have hkn : k = n := by omega
    subst hkn
    simp -implicitDefEqProofs (disch := omega) [List.getElem?_cons_zero, List.getElem?_cons_succ, wrap_id, hc]
    (refine fin0 trivial rfl ?_; simp -implicitDefEqProofs (disch := omega) [List.getElem?_cons_zero, List.getElem?_cons_succ, idx, wrap_id, rdyL])
set_option maxRecDepth 10000 in
theorem rfired_ok (hc : c.length = n) (hcb : Bd 100000000000 c) (l : List Int) (hl : l.length ≤ 12) (hlv : ∀ v ∈ l, ∃ u : Nat, v = u ∧ u < n) : PC Try.prog 50 [.iss (rowsL n es), .is c, .is l] (.p (.is (fireL n es c l))) [] := by
  have hn := hg.n12
  have hc6 : c.length ≤ 1048576 := by omega
  refine PC_of_W cfn50 ?_
  simp -implicitDefEqProofs (disch := omega) [c50, List.getElem?_cons_zero, List.getElem?_cons_succ, wrap_id, hc6]
  refine loopW l.length (fun k st => st = ⟨[(8, .i k), (7, .os 0 0 n), (0, .p (.iss (rowsL n es))), (1, .p (.is c)), (2, .p (.is l))], [rowI (fireL n es c (l.take k))]⟩) (wk_norm [0] [8, 7, 0, 1, 2] rfl rfl) (by rw [List.take_zero, ← hc]; rfl) ?_
  rintro k st hk rfl
  have hCl0 : (fireL n es c (l.take k)).length = n := fireL_len hc _
  by_cases hlt : k < l.length
  · obtain ⟨u, hu, hun⟩ := hlv l[k] (List.getElem_mem hlt)
    obtain ⟨C, hC⟩ : ∃ C, C = fireL n es c (l.take k) := ⟨_, rfl⟩
    have hCl : C.length = n := by rw [hC]; exact fireL_len hc _
    have hCb : Bd 100000020000 C := by
      rw [hC]
      refine (fireL_bd hg (l.take k) hcb (by omega)).more ?_
      rw [List.length_take]; omega
    have hnx : fireL n es c (l.take (k + 1)) = firedL n es C u 1 := by
      rw [List.take_add_one, List.getElem?_eq_getElem hlt, Option.toList_some, fireL_snoc, hu, hC, Int.toNat_natCast]
    rw [← hC]
    have hR : ((rowsL n es).map PV.is)[u]? = some (.is (rowL n es u)) := by simp [rowsL, hun]
    have hrl := rowL_len n es u
    simp -implicitDefEqProofs (disch := omega) [List.getElem?_cons_zero, List.getElem?_cons_succ, wrap_id, hlt, hu, hun]
    refine loopW n (fun m st => st = ⟨[(10, .i m), (9, .i u), (8, .i k), (7, .os 0 0 n), (0, .p (.iss (rowsL n es))), (1, .p (.is c)), (2, .p (.is l))], [rowI (rfT n es C u m)]⟩) (wk_norm [0] [10, 9, 8, 7, 0, 1, 2] rfl rfl) (by rw [rfT_0 hCl]; rfl) ?_
    rintro m st hm rfl
    have hFl := rfT_len n es C u m
    by_cases hlm : m < n
    · have hFb := rfT_bd hg hCb (by omega) u m (by omega)
      have hj := joinE_bd hg u m
      have hmr : m < (rowL n es u).length := by rw [rowL_len]; exact hlm
      have hra := rowL_at hmr
      obtain ⟨F, hF⟩ : ∃ F, F = rfT n es C u m := ⟨_, rfl⟩
      have hsu := rfT_succ (n := n) (es := es) (c := C) (v := u) (m := m) hun hlm
      rw [← hF] at hsu hFl hFb ⊢
      have huF : u < F.length := by omega
      have hmF : m < F.length := by omega
      have hFu := hFb u
      have hFm := hFb m
      rw [getD_get huF] at hsu hFu
      obtain ⟨F2, hF2⟩ : ∃ F2, F2 = F.set u (F[u] - joinE es u m) := ⟨_, rfl⟩
      have hF2l : F2.length = n := by rw [hF2, List.length_set, hFl]
      have hmF2 : m < F2.length := by omega
      have hF2m : -200000000000 ≤ F2[m] ∧ F2[m] ≤ 200000000000 := by
        have e := getD_get hmF2
        have e2 : F2.getD m 0 = if u = m ∧ u < F.length then F[u] - joinE es u m else F.getD m 0 := by rw [hF2, getD_set]
        rw [e] at e2
        rw [e2]
        split <;> omega
      have hset1 : (F.map PV.i).set u (PV.i (F[u] - joinE es u m)) = F2.map PV.i := by rw [hF2, List.map_set]
      rw [← hF2, getD_get hmF2] at hsu
      have hset2 : (F2.map PV.i).set m (PV.i (F2[m] + joinE es u m)) = (rfT n es C u (m + 1)).map PV.i := by rw [← hsu, List.map_set]
      simp -implicitDefEqProofs (disch := omega) [List.getElem?_cons_zero, List.getElem?_cons_succ, wrap_id, hlm, hc, hun, hFl, huF, hmF, hR, hmr, hra, hrl, hset1, hF2l, hmF2, hset2]
      exact round_end [0] [10, 9, 8, 7, 0, 1, 2] hlm rfl rfl
    · have hmn : m = n := by omega
      subst hmn
      rw [rfT_n]
      simp -implicitDefEqProofs (disch := omega) [List.getElem?_cons_zero, List.getElem?_cons_succ, wrap_id, hc]
      exact round_end [0] [8, 7, 0, 1, 2] hlt rfl (by rw [hnx]; rfl)
  · have hkl : k = l.length := by omega
    subst hkl
    rw [List.take_length] at hCl0 ⊢
    simp -implicitDefEqProofs (disch := omega) [List.getElem?_cons_zero, List.getElem?_cons_succ, wrap_id]
    (refine fin0 trivial rfl ?_; simp -implicitDefEqProofs (disch := omega) [List.getElem?_cons_zero, List.getElem?_cons_succ, idx, wrap_id, hCl0])
end
end Go.Proofs.Ytamiekhoaggpkaa
end
section
set_option linter.unusedSimpArgs false
set_option linter.unusedVariables false
namespace Go.Proofs.Ytamiekhoaggpkaa
open Go.Abs Go.Sand
/-- The graph of cuts in Went. -/
noncomputable def wentD : List ADN := (dagOf c55.body).getD []
section
variable (n : Nat) (es : List Ed) (q : Int) (d : List Int) (kk : Int)
@[simp] abbrev wnT (l : List (Nat × AV)) : List (Nat × AV) := ((10, AV.p (PV.is (valsL n es))) :: (9, AV.p (PV.iss (rowsL n es))) :: (8, AV.ptr 1 1 0 0) :: (4, AV.ptr 0 1 0 0) :: (1, AV.i q) :: (2, AV.p (PV.is d)) :: (3, AV.i kk) :: l)
@[simp] abbrev wnB (l : List AO) : List AO := ((.box (.p (G n es)) : AO) :: (.box (.p (.agg [.nil, .nil, .i 0, .b false])) : AO) :: l)
@[simp] abbrev wno11 : AOper := (AOper.mk (some 11) (.zro 95 (.agg [.v (.slice none 0 0), .v (.slice none 0 0), .v (.int .i64 0), .v (.bool false)])) none)
@[simp] abbrev wno19 : AOper := (AOper.mk (some 19) (.bsl 3 1 []) none)
@[simp] abbrev wno20 : AOper := (AOper.mk (some 20) (.mov (.tmp 2)) none)
@[simp] abbrev wno21 : AOper := (AOper.mk (some 21) (.app 3 1 (.tmp 19) (.tmp 20)) none)
@[simp] abbrev wno22 : AOper := (AOper.mk (some 22) (.fadr 0 (.tmp 4)) none)
@[simp] abbrev wno23 : AOper := (AOper.mk (some 23) (.load false 1 (.tmp 22)) none)
@[simp] abbrev wno24 : AOper := (AOper.mk (some 24) (.mk 3 1 (.v (.int .i64 0)) (.tmp 23) (.tmp 23)) none)
@[simp] abbrev wno25 : AOper := (AOper.mk (some 25) (.bld [.v (.slice none 0 0), .v (.slice none 0 0), .v (.int .i64 0), .v (.bool false)] [(0, 1), (1, 1), (2, 1), (3, 1)] [(0, .tmp 21), (1, .tmp 24)]) none)
@[simp] abbrev wnos11 : AOper := (AOper.mk none (.store 4 (.tmp 11) (.tmp 25)) none)
@[simp] abbrev wnRW : AO := (AO.row (List.replicate n (PV.v (Value.int .i64 0))) 1 3 false)
def wnS0 : St := ⟨wnT n es q d kk [], wnB n es []⟩
def wnS1 : St := ⟨wnT n es q d kk [(20, .p (.is d)), (19, .os 2 0 0)], wnB n es [.row [] 1 3 false]⟩
def wnS2 : St := ⟨wnT n es q d kk [(20, .p (.is d)), (22, .ptr 0 1 0 0)], wnB n es []⟩
def wnS3 : St := ⟨wnT n es q d kk [(20, .p (.is d)), (11, .ptr 2 1 0 0)], wnB n es [.box (.p (.agg [.nil, .nil, .i 0, .b false]))]⟩
def wnS4 : St := ⟨wnT n es q d kk [(20, .p (.is d)), (21, .os 2 0 n)], wnB n es [rowI d]⟩
def wnS5 : St := ⟨wnT n es q d kk [(20, .p (.is d)), (19, .os 2 0 0), (22, .ptr 0 1 0 0)], wnB n es [.row [] 1 3 false]⟩
def wnS6 : St := ⟨wnT n es q d kk [(20, .p (.is d)), (19, .os 2 0 0), (11, .ptr 3 1 0 0)], wnB n es [.row [] 1 3 false, .box (.p (.agg [.nil, .nil, .i 0, .b false]))]⟩
def wnS7 : St := ⟨wnT n es q d kk [(20, .p (.is d)), (22, .ptr 0 1 0 0), (23, .i n)], wnB n es []⟩
def wnS8 : St := ⟨wnT n es q d kk [(20, .p (.is d)), (22, .ptr 0 1 0 0), (11, .ptr 2 1 0 0)], wnB n es [.box (.p (.agg [.nil, .nil, .i 0, .b false]))]⟩
def wnS9 : St := ⟨wnT n es q d kk [(20, .p (.is d)), (21, .os 2 0 n), (22, .ptr 0 1 0 0), (23, .i n), (24, .os 3 0 n)], wnB n es [rowI d, (wnRW n)]⟩
def wnS10 : St := ⟨wnT n es q d kk [(20, .p (.is d)), (21, .os 2 0 n), (22, .ptr 0 1 0 0), (23, .i n), (11, .ptr 3 1 0 0)], wnB n es [rowI d, .box (.p (.agg [.nil, .nil, .i 0, .b false]))]⟩
def wnS11 : St := ⟨wnT n es q d kk [(20, .p (.is d)), (21, .os 2 0 n), (22, .ptr 0 1 0 0)], wnB n es [rowI d]⟩
def wnS12 : St := ⟨wnT n es q d kk [(20, .p (.is d)), (19, .os 2 0 0), (22, .ptr 0 1 0 0), (23, .i n)], wnB n es [.row [] 1 3 false]⟩
def wnS13 : St := ⟨wnT n es q d kk [(20, .p (.is d)), (19, .os 2 0 0), (22, .ptr 0 1 0 0), (11, .ptr 3 1 0 0)], wnB n es [.row [] 1 3 false, .box (.p (.agg [.nil, .nil, .i 0, .b false]))]⟩
def wnS14 : St := ⟨wnT n es q d kk [(20, .p (.is d)), (21, .os 2 0 n), (11, .ptr 3 1 0 0)], wnB n es [rowI d, .box (.p (.agg [.nil, .nil, .i 0, .b false]))]⟩
def wnS15 : St := ⟨wnT n es q d kk [(20, .p (.is d)), (22, .ptr 0 1 0 0), (23, .i n), (24, .os 2 0 n)], wnB n es [(wnRW n)]⟩
def wnS16 : St := ⟨wnT n es q d kk [(20, .p (.is d)), (22, .ptr 0 1 0 0), (23, .i n), (11, .ptr 2 1 0 0)], wnB n es [.box (.p (.agg [.nil, .nil, .i 0, .b false]))]⟩
def wnS17 : St := ⟨wnT n es q d kk [(20, .p (.is d)), (21, .os 2 0 n), (22, .ptr 0 1 0 0), (23, .i n), (24, .os 3 0 n), (11, .ptr 4 1 0 0), (25, .agg [.os 2 0 n, .os 3 0 n, .i 0, .b false])], wnB n es [rowI d, (wnRW n), .box (.p (.agg [.nil, .nil, .i 0, .b false]))]⟩
def wnS18 : St := ⟨wnT n es q d kk [(20, .p (.is d)), (21, .os 2 0 n), (22, .ptr 0 1 0 0), (23, .i n), (24, .os 3 0 n), (11, .ptr 4 1 0 0)], wnB n es [rowI d, (wnRW n), .box (.p (.agg [.nil, .nil, .i 0, .b false]))]⟩
def wnS19 : St := ⟨wnT n es q d kk [(20, .p (.is d)), (21, .os 2 0 n), (22, .ptr 0 1 0 0), (23, .i n)], wnB n es [rowI d]⟩
def wnS20 : St := ⟨wnT n es q d kk [(20, .p (.is d)), (19, .os 2 0 0), (22, .ptr 0 1 0 0), (23, .i n), (24, .os 3 0 n)], wnB n es [.row [] 1 3 false, (wnRW n)]⟩
def wnS21 : St := ⟨wnT n es q d kk [(20, .p (.is d)), (19, .os 2 0 0), (22, .ptr 0 1 0 0), (23, .i n), (11, .ptr 3 1 0 0)], wnB n es [.row [] 1 3 false, .box (.p (.agg [.nil, .nil, .i 0, .b false]))]⟩
def wnS22 : St := ⟨wnT n es q d kk [(20, .p (.is d)), (21, .os 2 0 n), (22, .ptr 0 1 0 0), (11, .ptr 3 1 0 0)], wnB n es [rowI d, .box (.p (.agg [.nil, .nil, .i 0, .b false]))]⟩
def wnS23 : St := ⟨wnT n es q d kk [(20, .p (.is d)), (22, .ptr 0 1 0 0), (23, .i n), (24, .os 2 0 n), (11, .ptr 3 1 0 0)], wnB n es [(wnRW n), .box (.p (.agg [.nil, .nil, .i 0, .b false]))]⟩
def wnS24 : St := ⟨wnT n es q d kk [(20, .p (.is d)), (21, .os 2 0 n), (22, .ptr 0 1 0 0), (23, .i n), (24, .os 3 0 n), (11, .ptr 4 1 0 0), (25, .agg [.os 2 0 n, .os 3 0 n, .i 0, .b false])], wnB n es [rowI d, (wnRW n), .box (.agg [.os 2 0 n, .os 3 0 n, .i 0, .b false])]⟩
def wnS25 : St := ⟨wnT n es q d kk [(20, .p (.is d)), (19, .os 2 0 0), (22, .ptr 0 1 0 0), (23, .i n), (24, .os 3 0 n), (11, .ptr 4 1 0 0)], wnB n es [.row [] 1 3 false, (wnRW n), .box (.p (.agg [.nil, .nil, .i 0, .b false]))]⟩
def wnL : List St := [wnS0 n es q d kk, wnS1 n es q d kk, wnS2 n es q d kk, wnS3 n es q d kk, wnS4 n es q d kk, wnS5 n es q d kk, wnS6 n es q d kk, wnS7 n es q d kk, wnS8 n es q d kk, wnS9 n es q d kk, wnS10 n es q d kk, wnS11 n es q d kk, wnS12 n es q d kk, wnS13 n es q d kk, wnS14 n es q d kk, wnS15 n es q d kk, wnS16 n es q d kk, wnS17 n es q d kk, wnS18 n es q d kk, wnS19 n es q d kk, wnS20 n es q d kk, wnS21 n es q d kk, wnS22 n es q d kk, wnS23 n es q d kk, wnS24 n es q d kk, wnS25 n es q d kk]
def wnG (K : St → Prop) (c : ADN) (s : St) : Prop := Wops Try.prog c.look (fun s1 => (c.acts = [] → K s1) ∧ ∀ x ∈ c.acts, Wop Try.prog x.1 x.2.1 (fun s2 => ∃ s3, Wk 0 s2 s3 ∧ (wnL n es q d kk)[x.2.2]? = some s3) s1) s
def wnD0 : ADN := .mk [wno20] [(true, wno19, 1), (true, wno22, 2), (true, wno11, 3)]
def wnD1 : ADN := .mk [] [(false, wno21, 4), (true, wno22, 5), (true, wno11, 6)]
def wnD2 : ADN := .mk [] [(true, wno19, 5), (true, wno23, 7), (true, wno11, 8)]
def wnD3 : ADN := .mk [] [(true, wno19, 6), (true, wno22, 8)]
def wnD4 : ADN := .mk [wno22, wno23] [(true, wno24, 9), (true, wno11, 10)]
def wnD5 : ADN := .mk [] [(false, wno21, 11), (true, wno23, 12), (true, wno11, 13)]
def wnD6 : ADN := .mk [] [(false, wno21, 14), (true, wno22, 13)]
def wnD7 : ADN := .mk [] [(true, wno19, 12), (true, wno24, 15), (true, wno11, 16)]
def wnD8 : ADN := .mk [] [(true, wno19, 13), (true, wno23, 16)]
def wnD9 : ADN := .mk [wno25] [(true, wno11, 17)]
def wnD10 : ADN := .mk [] [(true, wno24, 18)]
def wnD11 : ADN := .mk [wno23] [(true, wno24, 9), (true, wno11, 10)]
def wnD12 : ADN := .mk [] [(false, wno21, 19), (true, wno24, 20), (true, wno11, 21)]
def wnD13 : ADN := .mk [] [(false, wno21, 22), (true, wno23, 21)]
def wnD14 : ADN := .mk [wno22, wno23] [(true, wno24, 18)]
def wnD15 : ADN := .mk [] [(true, wno19, 20), (true, wno11, 23)]
def wnD16 : ADN := .mk [] [(true, wno19, 21), (true, wno24, 23)]
def wnD17 : ADN := .mk [] [(false, wnos11, 24)]
def wnD18 : ADN := .mk [wno25] [(false, wnos11, 24)]
def wnD19 : ADN := .mk [] [(true, wno24, 9), (true, wno11, 10)]
def wnD20 : ADN := .mk [] [(false, wno21, 9), (true, wno11, 25)]
def wnD21 : ADN := .mk [] [(false, wno21, 10), (true, wno24, 25)]
def wnD22 : ADN := .mk [wno23] [(true, wno24, 18)]
def wnD23 : ADN := .mk [] [(true, wno19, 25)]
def wnD24 : ADN := .mk [] []
def wnD25 : ADN := .mk [] [(false, wno21, 18)]
theorem wng0 {K : St → Prop} (hn : n ≤ 1048576) (hd : d.length = n) : wnG n es q d kk K wnD0 (wnS0 n es q d kk) := by
  unfold wnG wnD0 wnS0
  simp -implicitDefEqProofs (disch := omega) [List.getElem?_cons_zero, List.getElem?_cons_succ, wrap_id, hn, hd, List.forall_mem_cons]
  refine ⟨?_, ?_, ?_⟩
  · exact ⟨_, wk_norm [0, 1, 2] [10, 9, 8, 4, 1, 2, 3, 20, 19] rfl rfl, rfl⟩
  · exact ⟨_, wk_norm [0, 1] [10, 9, 8, 4, 1, 2, 3, 20, 22] rfl rfl, rfl⟩
  · exact ⟨_, wk_norm [0, 1, 2] [10, 9, 8, 4, 1, 2, 3, 20, 11] rfl rfl, rfl⟩
theorem wng1 {K : St → Prop} (hn : n ≤ 1048576) (hd : d.length = n) : wnG n es q d kk K wnD1 (wnS1 n es q d kk) := by
  unfold wnG wnD1 wnS1
  simp -implicitDefEqProofs (disch := omega) [List.getElem?_cons_zero, List.getElem?_cons_succ, wrap_id, hn, hd, List.forall_mem_cons]
  refine ⟨?_, ?_, ?_⟩
  · exact ⟨_, wk_norm [0, 1, 2] [10, 9, 8, 4, 1, 2, 3, 20, 21] rfl rfl, rfl⟩
  · exact ⟨_, wk_norm [0, 1, 2] [10, 9, 8, 4, 1, 2, 3, 20, 19, 22] rfl rfl, rfl⟩
  · exact ⟨_, wk_norm [0, 1, 2, 3] [10, 9, 8, 4, 1, 2, 3, 20, 19, 11] rfl rfl, rfl⟩
theorem wng2 {K : St → Prop} (hn : n ≤ 1048576) (hd : d.length = n) : wnG n es q d kk K wnD2 (wnS2 n es q d kk) := by
  unfold wnG wnD2 wnS2
  simp -implicitDefEqProofs (disch := omega) [List.getElem?_cons_zero, List.getElem?_cons_succ, wrap_id, hn, hd, List.forall_mem_cons]
  refine ⟨?_, ?_, ?_⟩
  · exact ⟨_, wk_norm [0, 1, 2] [10, 9, 8, 4, 1, 2, 3, 20, 19, 22] rfl rfl, rfl⟩
  · exact ⟨_, wk_norm [0, 1] [10, 9, 8, 4, 1, 2, 3, 20, 22, 23] rfl rfl, rfl⟩
  · exact ⟨_, wk_norm [0, 1, 2] [10, 9, 8, 4, 1, 2, 3, 20, 22, 11] rfl rfl, rfl⟩
theorem wng3 {K : St → Prop} (hn : n ≤ 1048576) (hd : d.length = n) : wnG n es q d kk K wnD3 (wnS3 n es q d kk) := by
  unfold wnG wnD3 wnS3
  simp -implicitDefEqProofs (disch := omega) [List.getElem?_cons_zero, List.getElem?_cons_succ, wrap_id, hn, hd, List.forall_mem_cons]
  refine ⟨?_, ?_⟩
  · exact ⟨_, wk_norm [0, 1, 3, 2] [10, 9, 8, 4, 1, 2, 3, 20, 19, 11] rfl rfl, rfl⟩
  · exact ⟨_, wk_norm [0, 1, 2] [10, 9, 8, 4, 1, 2, 3, 20, 22, 11] rfl rfl, rfl⟩
theorem wng4 {K : St → Prop} (hn : n ≤ 1048576) (hd : d.length = n) : wnG n es q d kk K wnD4 (wnS4 n es q d kk) := by
  unfold wnG wnD4 wnS4
  simp -implicitDefEqProofs (disch := omega) [List.getElem?_cons_zero, List.getElem?_cons_succ, wrap_id, hn, hd, List.forall_mem_cons]
  refine ⟨?_, ?_⟩
  · exact ⟨_, wk_norm [0, 1, 2, 3] [10, 9, 8, 4, 1, 2, 3, 20, 21, 22, 23, 24] rfl rfl, rfl⟩
  · exact ⟨_, wk_norm [0, 1, 2, 3] [10, 9, 8, 4, 1, 2, 3, 20, 21, 22, 23, 11] rfl rfl, rfl⟩
theorem wng5 {K : St → Prop} (hn : n ≤ 1048576) (hd : d.length = n) : wnG n es q d kk K wnD5 (wnS5 n es q d kk) := by
  unfold wnG wnD5 wnS5
  simp -implicitDefEqProofs (disch := omega) [List.getElem?_cons_zero, List.getElem?_cons_succ, wrap_id, hn, hd, List.forall_mem_cons]
  refine ⟨?_, ?_, ?_⟩
  · exact ⟨_, wk_norm [0, 1, 2] [10, 9, 8, 4, 1, 2, 3, 20, 21, 22] rfl rfl, rfl⟩
  · exact ⟨_, wk_norm [0, 1, 2] [10, 9, 8, 4, 1, 2, 3, 20, 19, 22, 23] rfl rfl, rfl⟩
  · exact ⟨_, wk_norm [0, 1, 2, 3] [10, 9, 8, 4, 1, 2, 3, 20, 19, 22, 11] rfl rfl, rfl⟩
theorem wng6 {K : St → Prop} (hn : n ≤ 1048576) (hd : d.length = n) : wnG n es q d kk K wnD6 (wnS6 n es q d kk) := by
  unfold wnG wnD6 wnS6
  simp -implicitDefEqProofs (disch := omega) [List.getElem?_cons_zero, List.getElem?_cons_succ, wrap_id, hn, hd, List.forall_mem_cons]
  refine ⟨?_, ?_⟩
  · exact ⟨_, wk_norm [0, 1, 2, 3] [10, 9, 8, 4, 1, 2, 3, 20, 21, 11] rfl rfl, rfl⟩
  · exact ⟨_, wk_norm [0, 1, 2, 3] [10, 9, 8, 4, 1, 2, 3, 20, 19, 22, 11] rfl rfl, rfl⟩
theorem wng7 {K : St → Prop} (hn : n ≤ 1048576) (hd : d.length = n) : wnG n es q d kk K wnD7 (wnS7 n es q d kk) := by
  unfold wnG wnD7 wnS7
  simp -implicitDefEqProofs (disch := omega) [List.getElem?_cons_zero, List.getElem?_cons_succ, wrap_id, hn, hd, List.forall_mem_cons]
  refine ⟨?_, ?_, ?_⟩
  · exact ⟨_, wk_norm [0, 1, 2] [10, 9, 8, 4, 1, 2, 3, 20, 19, 22, 23] rfl rfl, rfl⟩
  · exact ⟨_, wk_norm [0, 1, 2] [10, 9, 8, 4, 1, 2, 3, 20, 22, 23, 24] rfl rfl, rfl⟩
  · exact ⟨_, wk_norm [0, 1, 2] [10, 9, 8, 4, 1, 2, 3, 20, 22, 23, 11] rfl rfl, rfl⟩
theorem wng8 {K : St → Prop} (hn : n ≤ 1048576) (hd : d.length = n) : wnG n es q d kk K wnD8 (wnS8 n es q d kk) := by
  unfold wnG wnD8 wnS8
  simp -implicitDefEqProofs (disch := omega) [List.getElem?_cons_zero, List.getElem?_cons_succ, wrap_id, hn, hd, List.forall_mem_cons]
  refine ⟨?_, ?_⟩
  · exact ⟨_, wk_norm [0, 1, 3, 2] [10, 9, 8, 4, 1, 2, 3, 20, 19, 22, 11] rfl rfl, rfl⟩
  · exact ⟨_, wk_norm [0, 1, 2] [10, 9, 8, 4, 1, 2, 3, 20, 22, 23, 11] rfl rfl, rfl⟩
theorem wng9 {K : St → Prop} (hn : n ≤ 1048576) (hd : d.length = n) : wnG n es q d kk K wnD9 (wnS9 n es q d kk) := by
  unfold wnG wnD9 wnS9
  simp -implicitDefEqProofs (disch := omega) [List.getElem?_cons_zero, List.getElem?_cons_succ, wrap_id, hn, hd, List.forall_mem_cons]
  exact ⟨_, wk_norm [0, 1, 2, 3, 4] [10, 9, 8, 4, 1, 2, 3, 20, 21, 22, 23, 24, 11, 25] rfl rfl, rfl⟩
theorem wng10 {K : St → Prop} (hn : n ≤ 1048576) (hd : d.length = n) : wnG n es q d kk K wnD10 (wnS10 n es q d kk) := by
  unfold wnG wnD10 wnS10
  simp -implicitDefEqProofs (disch := omega) [List.getElem?_cons_zero, List.getElem?_cons_succ, wrap_id, hn, hd, List.forall_mem_cons]
  exact ⟨_, wk_norm [0, 1, 2, 4, 3] [10, 9, 8, 4, 1, 2, 3, 20, 21, 22, 23, 24, 11] rfl rfl, rfl⟩
theorem wng11 {K : St → Prop} (hn : n ≤ 1048576) (hd : d.length = n) : wnG n es q d kk K wnD11 (wnS11 n es q d kk) := by
  unfold wnG wnD11 wnS11
  simp -implicitDefEqProofs (disch := omega) [List.getElem?_cons_zero, List.getElem?_cons_succ, wrap_id, hn, hd, List.forall_mem_cons]
  refine ⟨?_, ?_⟩
  · exact ⟨_, wk_norm [0, 1, 2, 3] [10, 9, 8, 4, 1, 2, 3, 20, 21, 22, 23, 24] rfl rfl, rfl⟩
  · exact ⟨_, wk_norm [0, 1, 2, 3] [10, 9, 8, 4, 1, 2, 3, 20, 21, 22, 23, 11] rfl rfl, rfl⟩
theorem wng12 {K : St → Prop} (hn : n ≤ 1048576) (hd : d.length = n) : wnG n es q d kk K wnD12 (wnS12 n es q d kk) := by
  unfold wnG wnD12 wnS12
  simp -implicitDefEqProofs (disch := omega) [List.getElem?_cons_zero, List.getElem?_cons_succ, wrap_id, hn, hd, List.forall_mem_cons]
  refine ⟨?_, ?_, ?_⟩
  · exact ⟨_, wk_norm [0, 1, 2] [10, 9, 8, 4, 1, 2, 3, 20, 21, 22, 23] rfl rfl, rfl⟩
  · exact ⟨_, wk_norm [0, 1, 2, 3] [10, 9, 8, 4, 1, 2, 3, 20, 19, 22, 23, 24] rfl rfl, rfl⟩
  · exact ⟨_, wk_norm [0, 1, 2, 3] [10, 9, 8, 4, 1, 2, 3, 20, 19, 22, 23, 11] rfl rfl, rfl⟩
theorem wng13 {K : St → Prop} (hn : n ≤ 1048576) (hd : d.length = n) : wnG n es q d kk K wnD13 (wnS13 n es q d kk) := by
  unfold wnG wnD13 wnS13
  simp -implicitDefEqProofs (disch := omega) [List.getElem?_cons_zero, List.getElem?_cons_succ, wrap_id, hn, hd, List.forall_mem_cons]
  refine ⟨?_, ?_⟩
  · exact ⟨_, wk_norm [0, 1, 2, 3] [10, 9, 8, 4, 1, 2, 3, 20, 21, 22, 11] rfl rfl, rfl⟩
  · exact ⟨_, wk_norm [0, 1, 2, 3] [10, 9, 8, 4, 1, 2, 3, 20, 19, 22, 23, 11] rfl rfl, rfl⟩
theorem wng14 {K : St → Prop} (hn : n ≤ 1048576) (hd : d.length = n) : wnG n es q d kk K wnD14 (wnS14 n es q d kk) := by
  unfold wnG wnD14 wnS14
  simp -implicitDefEqProofs (disch := omega) [List.getElem?_cons_zero, List.getElem?_cons_succ, wrap_id, hn, hd, List.forall_mem_cons]
  exact ⟨_, wk_norm [0, 1, 2, 4, 3] [10, 9, 8, 4, 1, 2, 3, 20, 21, 22, 23, 24, 11] rfl rfl, rfl⟩
theorem wng15 {K : St → Prop} (hn : n ≤ 1048576) (hd : d.length = n) : wnG n es q d kk K wnD15 (wnS15 n es q d kk) := by
  unfold wnG wnD15 wnS15
  simp -implicitDefEqProofs (disch := omega) [List.getElem?_cons_zero, List.getElem?_cons_succ, wrap_id, hn, hd, List.forall_mem_cons]
  refine ⟨?_, ?_⟩
  · exact ⟨_, wk_norm [0, 1, 3, 2] [10, 9, 8, 4, 1, 2, 3, 20, 19, 22, 23, 24] rfl rfl, rfl⟩
  · exact ⟨_, wk_norm [0, 1, 2, 3] [10, 9, 8, 4, 1, 2, 3, 20, 22, 23, 24, 11] rfl rfl, rfl⟩
theorem wng16 {K : St → Prop} (hn : n ≤ 1048576) (hd : d.length = n) : wnG n es q d kk K wnD16 (wnS16 n es q d kk) := by
  unfold wnG wnD16 wnS16
  simp -implicitDefEqProofs (disch := omega) [List.getElem?_cons_zero, List.getElem?_cons_succ, wrap_id, hn, hd, List.forall_mem_cons]
  refine ⟨?_, ?_⟩
  · exact ⟨_, wk_norm [0, 1, 3, 2] [10, 9, 8, 4, 1, 2, 3, 20, 19, 22, 23, 11] rfl rfl, rfl⟩
  · exact ⟨_, wk_norm [0, 1, 3, 2] [10, 9, 8, 4, 1, 2, 3, 20, 22, 23, 24, 11] rfl rfl, rfl⟩
theorem wng17 {K : St → Prop} (hn : n ≤ 1048576) (hd : d.length = n) : wnG n es q d kk K wnD17 (wnS17 n es q d kk) := by
  unfold wnG wnD17 wnS17
  simp -implicitDefEqProofs (disch := omega) [List.getElem?_cons_zero, List.getElem?_cons_succ, wrap_id, hn, hd, List.forall_mem_cons]
  exact ⟨_, wk_norm [0, 1, 2, 3, 4] [10, 9, 8, 4, 1, 2, 3, 20, 21, 22, 23, 24, 11, 25] rfl rfl, rfl⟩
theorem wng18 {K : St → Prop} (hn : n ≤ 1048576) (hd : d.length = n) : wnG n es q d kk K wnD18 (wnS18 n es q d kk) := by
  unfold wnG wnD18 wnS18
  simp -implicitDefEqProofs (disch := omega) [List.getElem?_cons_zero, List.getElem?_cons_succ, wrap_id, hn, hd, List.forall_mem_cons]
  exact ⟨_, wk_norm [0, 1, 2, 3, 4] [10, 9, 8, 4, 1, 2, 3, 20, 21, 22, 23, 24, 11, 25] rfl rfl, rfl⟩
theorem wng19 {K : St → Prop} (hn : n ≤ 1048576) (hd : d.length = n) : wnG n es q d kk K wnD19 (wnS19 n es q d kk) := by
  unfold wnG wnD19 wnS19
  simp -implicitDefEqProofs (disch := omega) [List.getElem?_cons_zero, List.getElem?_cons_succ, wrap_id, hn, hd, List.forall_mem_cons]
  refine ⟨?_, ?_⟩
  · exact ⟨_, wk_norm [0, 1, 2, 3] [10, 9, 8, 4, 1, 2, 3, 20, 21, 22, 23, 24] rfl rfl, rfl⟩
  · exact ⟨_, wk_norm [0, 1, 2, 3] [10, 9, 8, 4, 1, 2, 3, 20, 21, 22, 23, 11] rfl rfl, rfl⟩
theorem wng20 {K : St → Prop} (hn : n ≤ 1048576) (hd : d.length = n) : wnG n es q d kk K wnD20 (wnS20 n es q d kk) := by
  unfold wnG wnD20 wnS20
  simp -implicitDefEqProofs (disch := omega) [List.getElem?_cons_zero, List.getElem?_cons_succ, wrap_id, hn, hd, List.forall_mem_cons]
  refine ⟨?_, ?_⟩
  · exact ⟨_, wk_norm [0, 1, 2, 3] [10, 9, 8, 4, 1, 2, 3, 20, 21, 22, 23, 24] rfl rfl, rfl⟩
  · exact ⟨_, wk_norm [0, 1, 2, 3, 4] [10, 9, 8, 4, 1, 2, 3, 20, 19, 22, 23, 24, 11] rfl rfl, rfl⟩
theorem wng21 {K : St → Prop} (hn : n ≤ 1048576) (hd : d.length = n) : wnG n es q d kk K wnD21 (wnS21 n es q d kk) := by
  unfold wnG wnD21 wnS21
  simp -implicitDefEqProofs (disch := omega) [List.getElem?_cons_zero, List.getElem?_cons_succ, wrap_id, hn, hd, List.forall_mem_cons]
  refine ⟨?_, ?_⟩
  · exact ⟨_, wk_norm [0, 1, 2, 3] [10, 9, 8, 4, 1, 2, 3, 20, 21, 22, 23, 11] rfl rfl, rfl⟩
  · exact ⟨_, wk_norm [0, 1, 2, 4, 3] [10, 9, 8, 4, 1, 2, 3, 20, 19, 22, 23, 24, 11] rfl rfl, rfl⟩
theorem wng22 {K : St → Prop} (hn : n ≤ 1048576) (hd : d.length = n) : wnG n es q d kk K wnD22 (wnS22 n es q d kk) := by
  unfold wnG wnD22 wnS22
  simp -implicitDefEqProofs (disch := omega) [List.getElem?_cons_zero, List.getElem?_cons_succ, wrap_id, hn, hd, List.forall_mem_cons]
  exact ⟨_, wk_norm [0, 1, 2, 4, 3] [10, 9, 8, 4, 1, 2, 3, 20, 21, 22, 23, 24, 11] rfl rfl, rfl⟩
theorem wng23 {K : St → Prop} (hn : n ≤ 1048576) (hd : d.length = n) : wnG n es q d kk K wnD23 (wnS23 n es q d kk) := by
  unfold wnG wnD23 wnS23
  simp -implicitDefEqProofs (disch := omega) [List.getElem?_cons_zero, List.getElem?_cons_succ, wrap_id, hn, hd, List.forall_mem_cons]
  exact ⟨_, wk_norm [0, 1, 4, 2, 3] [10, 9, 8, 4, 1, 2, 3, 20, 19, 22, 23, 24, 11] rfl rfl, rfl⟩
theorem wng24 {K : St → Prop} (hn : n ≤ 1048576) (hd : d.length = n) (hK : K (wnS24 n es q d kk)) : wnG n es q d kk K wnD24 (wnS24 n es q d kk) := by
  unfold wnG wnD24 wnS24
  unfold wnS24 at hK
  simp -implicitDefEqProofs (disch := omega) [List.getElem?_cons_zero, List.getElem?_cons_succ, wrap_id, hn, hd, List.forall_mem_cons, hK]
theorem wng25 {K : St → Prop} (hn : n ≤ 1048576) (hd : d.length = n) : wnG n es q d kk K wnD25 (wnS25 n es q d kk) := by
  unfold wnG wnD25 wnS25
  simp -implicitDefEqProofs (disch := omega) [List.getElem?_cons_zero, List.getElem?_cons_succ, wrap_id, hn, hd, List.forall_mem_cons]
  exact ⟨_, wk_norm [0, 1, 2, 3, 4] [10, 9, 8, 4, 1, 2, 3, 20, 21, 22, 23, 24, 11] rfl rfl, rfl⟩
theorem wneq : wentD = [wnD0, wnD1, wnD2, wnD3, wnD4, wnD5, wnD6, wnD7, wnD8, wnD9, wnD10, wnD11, wnD12, wnD13, wnD14, wnD15, wnD16, wnD17, wnD18, wnD19, wnD20, wnD21, wnD22, wnD23, wnD24, wnD25] := by kernel_rfl
theorem wndag {Q : AExit → St → Prop} (hn : n ≤ 1048576) (hd : d.length = n) (hQ : Q .normal (wnS24 n es q d kk)) : W Try.prog 0 (.dag wentD) Q (wnS0 n es q d kk) := by
  have hz : ∀ p ∈ List.zip [wnD0, wnD1, wnD2, wnD3, wnD4, wnD5, wnD6, wnD7, wnD8, wnD9, wnD10, wnD11, wnD12, wnD13, wnD14, wnD15, wnD16, wnD17, wnD18, wnD19, wnD20, wnD21, wnD22, wnD23, wnD24, wnD25] (wnL n es q d kk), wnG n es q d kk (Q .normal) p.1 p.2 := by
    unfold wnL
    simp only [List.zip_cons_cons, List.zip_nil_left, List.forall_mem_cons]
    exact ⟨wng0 n es q d kk hn hd, wng1 n es q d kk hn hd, wng2 n es q d kk hn hd, wng3 n es q d kk hn hd, wng4 n es q d kk hn hd, wng5 n es q d kk hn hd, wng6 n es q d kk hn hd, wng7 n es q d kk hn hd, wng8 n es q d kk hn hd, wng9 n es q d kk hn hd, wng10 n es q d kk hn hd, wng11 n es q d kk hn hd, wng12 n es q d kk hn hd, wng13 n es q d kk hn hd, wng14 n es q d kk hn hd, wng15 n es q d kk hn hd, wng16 n es q d kk hn hd, wng17 n es q d kk hn hd, wng18 n es q d kk hn hd, wng19 n es q d kk hn hd, wng20 n es q d kk hn hd, wng21 n es q d kk hn hd, wng22 n es q d kk hn hd, wng23 n es q d kk hn hd, wng24 n es q d kk hn hd hQ, wng25 n es q d kk hn hd, fun x hx => by cases hx⟩
  refine ⟨fun i s => (wnL n es q d kk)[i]? = some s, ⟨_, Wk.refl _ _, rfl⟩, fun i c hc s hs => ?_⟩
  rw [wneq] at hc
  exact hz (c, s) (List.mem_iff_getElem?.2 ⟨i, by rw [List.getElem?_zip_eq_some]; exact ⟨hc, hs⟩⟩)
end
end Go.Proofs.Ytamiekhoaggpkaa
end
