/-
  Contracts: the reference's rows, and how it fires one after the other.
-/
import Derived.Test.YthdbmoflbnggpaaZj
set_option linter.unusedSimpArgs false
set_option linter.unusedVariables false
namespace Go.Proofs.Ythdbmoflbnggpaa
open Go.Abs Go.Sand

theorem lo_tab {m : Nat} {gs : List AO} (h1 : ∀ ob ∈ gs, loO m ob = true) (f : Nat → Nat → Int) (n : Nat) : ∀ ob ∈ gs ++ tabR n f, loO m ob = true := by
  intro ob hob
  rcases List.mem_append.1 hob with h | h
  · exact h1 ob h
  · simp only [tabR, List.mem_map] at h
    obtain ⟨y, -, rfl⟩ := h
    rfl
/-- A table of nothing. -/
def tab0 (o n k : Nat) (zr : AO) : List AO := .tab (tabE o n k) 25 false :: List.replicate k zr
theorem table_ok (n : Nat) (hn : n ≤ 1000) : PC Try.prog 102 [.i n] (.os 0 0 n) (tab0 1 n n (rowI (List.replicate n 0))) := by
  have hn6 : n ≤ 1048576 := by omega
  obtain ⟨zr, hzr⟩ : ∃ zr, zr = AO.row (List.replicate n (PV.i 0)) 1 3 false := ⟨_, rfl⟩
  have hz2 : rowI (List.replicate n 0) = zr := by rw [rowI, hzr, List.map_replicate]
  rw [hz2]
  refine PC_of_W cfn102 ?_
  simp -implicitDefEqProofs (disch := omega) [c102, List.getElem?_cons_zero, List.getElem?_cons_succ, wrap_id]
  refine loopW n (fun k st => st = ⟨[(4, .i k), (3, .os 0 0 k), (0, .i n)], tab0 1 n k zr⟩) ((Wk_nilT 3 25 rfl).trans (Wk_keep [4, 3, 0])) rfl ?_
  rintro k st hk rfl
  unfold tab0
  by_cases hlt : k < n
  · have hla2 : ∀ r x : AO, (List.replicate k zr ++ [r, x])[k]? = some r := fun r x => by simp
    have hla : ∀ r : AO, (List.replicate k zr ++ [r])[k]? = some r := fun r => by simp
    have hla3 : ∀ r x : AO, (List.replicate k zr ++ [r, x])[k + 1]? = some x := fun r x => by simp
    have hk6 : k ≤ 1048575 := by omega
    have htl := tabE_len 1 n k
    simp -implicitDefEqProofs (disch := omega) [List.getElem?_cons_zero, List.getElem?_cons_succ, wrap_id, hlt, hn6, hla, hla2, hla3, hk6, htl]
    refine round_end' hlt (Wk_pop (k + 2) [4, 3, 0] (by omega) (by simp) (H' := .tab (tabE 1 n (k + 1)) 25 false :: List.replicate (k + 1) zr) ?_ ?_ ?_) rfl
    · rw [← tabE_succ, hzr]
      simp [List.take_append, List.replicate_succ']
    · intro i hi
      simp only [List.mem_cons, List.not_mem_nil, or_false] at hi
      rcases hi with rfl | rfl | rfl <;> simp [Abs.get, loA]
    · intro ob hob
      simp only [List.mem_cons, List.mem_replicate] at hob
      have h1 := tabE_lo 1 n (k + 2) (k + 1) (by omega)
      rcases hob with rfl | ⟨-, rfl⟩ <;> simp [loO, loA, loL, hzr, h1]
  · have hkn : n = k := by omega
    subst hkn
    simp -implicitDefEqProofs (disch := omega) [List.getElem?_cons_zero, List.getElem?_cons_succ, wrap_id]
    exact finH trivial rfl ⟨rfl, rfl⟩
theorem tabE_ren {H : List AO} {ρ : Nat → Option Nat} {o o' n : Nat} : ∀ k, (∀ a, a < k → ρ (a + o) = some (a + o')) → renL H ρ (tabE o n k) = tabE o' n k := by
  intro k h
  rw [renL_eq]
  unfold tabE
  rw [List.map_map]
  refine List.map_congr_left fun a ha => ?_
  have := h a (List.mem_range.1 ha)
  show AV.ren H ρ (.os (a + o) 0 n) = _
  rw [AV.ren, this]
/-- Rows, laid one after the other. -/
def rowTo' (es : List Ed) (v w : Nat) (u x : Nat) : Int := if u < v ∨ u = v ∧ x < w then joinE es u x else 0
theorem tabR_one {n : Nat} {f g : Nat → Nat → Int} {v w : Nat} (hv : v < n) (h : ∀ u x, u < n → x < n → g u x = if u = v ∧ x = w then g v w else f u x) :
    (tabR n f).set v (.row (((lisL n (f v)).map PV.i).set w (PV.i (g v w))) 1 3 false) = tabR n g := by
  refine List.ext_getElem? fun i => ?_
  by_cases hi : i < n
  · rw [tabR_get hi, List.getElem?_set, tabR_len]
    by_cases h1 : v = i
    · subst h1
      rw [if_pos rfl, if_pos hv, ← List.map_set]
      have e : (lisL n (f v)).set w (g v w) = lisL n (g v) := by
        refine ext_getD (by simp [lisL]) fun j hj => ?_
        have hj' : j < n := by simpa [lisL] using hj
        rw [getD_set, lisL, rg_get, lisL, rg_get]
        have := h v j hv hj'
        simp only [hj', if_true, List.length_map, List.length_range, true_and] at this ⊢
        by_cases h2 : w = j
        · subst h2; simp [hj']
        · have h3 : ¬ j = w := fun e => h2 e.symm
          simp only [h2, h3, false_and, if_false] at this ⊢
          exact this.symm
      rw [e]
    · rw [if_neg h1, tabR_get hi]
      have e : lisL n (f i) = lisL n (g i) := by
        unfold lisL
        refine List.map_congr_left fun x hx => ?_
        rw [h i x hi (List.mem_range.1 hx), if_neg (fun e => h1 e.1.symm)]
      rw [e]
  · rw [List.getElem?_eq_none (by simp [tabR_len]; omega), List.getElem?_eq_none (by simp [tabR_len]; omega)]
theorem tabR_congr {n : Nat} {f g : Nat → Nat → Int} (h : ∀ u x, u < n → x < n → f u x = g u x) : tabR n f = tabR n g := by
  unfold tabR tabL
  rw [List.map_congr_left fun u hu => List.map_congr_left fun x hx => h u x (List.mem_range.1 hu) (List.mem_range.1 hx)]
section
variable (n : Nat) (es : List Ed) (q : Int) (d : List Int) (hel : es.length ≤ 900) (hg : GoodG n es)
include hel hg
set_option maxRecDepth 10000 in
theorem rows_ok : PC Try.prog 79 [G n es] (.p (.iss (rowsL n es))) [] := by
  have hn := hg.n12
  refine PC_of_W cfn79 ?_
  simp -implicitDefEqProofs (disch := omega) [c79, List.getElem?_cons_zero, List.getElem?_cons_succ, wrap_id]
  refine HC_of_PC rfl (table_ok n (by omega)) ?_
  have e1 : ∀ H : List AO, renL H (fun o => some (o + 1)) (tabE 1 n n) = tabE 2 n n := fun H => tabE_ren n fun a _ => rfl
  have e0 : List.replicate n (rowI (List.replicate n 0)) = tabR n (rowTo' es 0 0) := by
    refine List.ext_getElem? fun i => ?_
    by_cases hi : i < n
    · rw [tabR_get hi]
      have : lisL n (rowTo' es 0 0 i) = List.replicate n 0 := by
        refine List.ext_getElem (by simp [lisL]) fun j h1 h2 => by simp [lisL, rowTo']
      rw [this]
      simp only [List.getElem?_replicate, hi, if_true]
    · rw [List.getElem?_eq_none (by simp; omega), List.getElem?_eq_none (by simp [tabR_len]; omega)]
  rw [rowI, List.map_replicate] at e0
  simp -implicitDefEqProofs (disch := omega) [List.getElem?_cons_zero, List.getElem?_cons_succ, wrap_id, tab0, e1, ren_tab]
  rw [e0]
  have hLl : ∀ f, (lisL n f).length = n := fun f => by simp [lisL]
  have hTE1 : ∀ (i : Nat) (h : i < (tabE 2 n n).length), (tabE 2 n n)[i] = .os (i + 2) 0 n := fun i h => by simp [tabE]
  have hTEl := tabE_len 2 n n
  refine loopW n (fun v st => st = ⟨[(4, .i v), (3, .os 1 0 n), (1, .ptr 0 1 0 0)], .box (.p (G n es)) :: .tab (tabE 2 n n) 25 false :: tabR n (rowTo' es v 0)⟩) (Wk_keep [4, 3, 1]) rfl ?_
  rintro v st hv rfl
  by_cases hvn : v < n
  · simp -implicitDefEqProofs (disch := omega) [List.getElem?_cons_zero, List.getElem?_cons_succ, wrap_id, hvn]
    refine loopW n (fun w st => st = ⟨[(5, .i w), (4, .i v), (3, .os 1 0 n), (1, .ptr 0 1 0 0)], .box (.p (G n es)) :: .tab (tabE 2 n n) 25 false :: tabR n (rowTo' es v w)⟩) (Wk_keep [5, 4, 3, 1]) rfl ?_
    rintro w st hw rfl
    by_cases hwn : w < n
    · by_cases hvw : v = w
      · have e : tabR n (rowTo' es v (w + 1)) = tabR n (rowTo' es v w) := by
          refine tabR_congr fun u x hu hx => ?_
          unfold rowTo'
          by_cases h1 : u = v ∧ x = w
          · obtain ⟨rfl, rfl⟩ := h1
            rw [← hvw, joinE_self]; simp
          · have : (u < v ∨ u = v ∧ x < w + 1) = (u < v ∨ u = v ∧ x < w) := by simp only [eq_iff_iff]; omega
            simp only [this]
        simp -implicitDefEqProofs (disch := omega) [List.getElem?_cons_zero, List.getElem?_cons_succ, wrap_id, hwn, hvw]
        exact round_keep [5, 4, 3, 1] hwn (by rw [← hvw] at e ⊢; rw [e]; rfl)
      · have hvw' : ¬ (v : Int) = w := by omega
        have hb : betw es (min (v : Int) w) (max (v : Int) w) = joinE es v w := by
          rw [joinE, if_neg (fun e => hvw e.symm), Int.min_comm, Int.max_comm]
        have hT := tabR_len n (rowTo' es v w)
        have hT1 : v < (tabR n (rowTo' es v w)).length := by omega
        have hT3 := tabR_get (n := n) (f := rowTo' es v w) hvn
        have hT4 : ∀ h, (tabR n (rowTo' es v w))[v]'h = rowI (lisL n (rowTo' es v w v)) := fun h => by rw [List.getElem?_eq_getElem h] at hT3; exact Option.some.inj hT3
        have hT5 := tabR_one (n := n) (f := rowTo' es v w) (g := rowTo' es v (w + 1)) (v := v) (w := w) hvn (fun u x hu hx => by
          by_cases h1 : u = v ∧ x = w
          · rw [if_pos h1, h1.1, h1.2]
          · rw [if_neg h1]
            have : (u < v ∨ u = v ∧ x < w + 1) = (u < v ∨ u = v ∧ x < w) := by simp only [eq_iff_iff]; omega
            simp only [rowTo', this])
        have hT6 : rowTo' es v (w + 1) v w = joinE es v w := by unfold rowTo'; rw [if_pos (by omega)]
        rw [hT6] at hT5
        simp -implicitDefEqProofs (disch := omega) [List.getElem?_cons_zero, List.getElem?_cons_succ, wrap_id, hwn, hvw', hvn, hT, hT1, hT3, hT4, hTE1, hTEl, hLl]
        refine HC_of_PC rfl (rbetw_ok n v w es (by omega)) ?_
        have hLq : ∀ f : Nat → Int, (lisL n f)[w]? = some (f w) := fun f => by simp [lisL, hwn]
        simp -implicitDefEqProofs (disch := omega) [List.getElem?_cons_zero, List.getElem?_cons_succ, wrap_id, hwn, hvn, hT, hT1, hT3, hT4, hTEl, hLl, hLq, hb, hT5]
        exact round_keep [5, 4, 3, 1] hwn rfl
    · have hwe : n = w := by omega
      have e : tabR n (rowTo' es v n) = tabR n (rowTo' es (v + 1) 0) := by
        refine tabR_congr fun u x hu hx => ?_
        unfold rowTo'
        have : (u < v ∨ u = v ∧ x < n) = (u < v + 1 ∨ u = v + 1 ∧ x < 0) := by simp only [eq_iff_iff]; omega
        simp only [this]
      rw [← hwe, e]
      simp -implicitDefEqProofs (disch := omega) [List.getElem?_cons_zero, List.getElem?_cons_succ, wrap_id]
      exact round_keep [4, 3, 1] hvn rfl
  · have hve : v = n := by omega
    rw [hve]
    have e : tabR n (rowTo' es n 0) = (rowsL n es).map rowI := by
      rw [tabR, tabL, rowsL, List.map_map, List.map_map]
      refine List.map_congr_left fun u hu => ?_
      have hu := List.mem_range.1 hu
      have : (List.range n).map (rowTo' es n 0 u) = rowL n es u := List.map_congr_left fun x _ => by unfold rowTo'; rw [if_pos (.inl hu)]
      show rowI ((List.range n).map (rowTo' es n 0 u)) = rowI (rowL n es u)
      rw [this]
    have htr : ∀ (b : AO) (t : TypeId) (fz : Bool), AV.ren (b :: .tab (tabE 2 n n) t fz :: tabR n (rowTo' es n 0)) (Abs.idx [] 0) (.os 1 0 n) = .p (.iss (rowsL n es)) := by
      intro b t fz
      refine tab_rows (o' := 2) rfl rfl (by simp [rowsL]) (fun a ha => ⟨by simp [rowsL, rowL], rfl, ?_⟩)
      rw [e]
      show ((rowsL n es).map rowI)[a]? = _
      rw [List.getElem?_map, List.getElem?_eq_getElem (by simp [rowsL]; exact ha)]; rfl
    simp -implicitDefEqProofs (disch := omega) [List.getElem?_cons_zero, List.getElem?_cons_succ, wrap_id]
    exact fin0 (x := .os 1 0 n) trivial rfl (htr _ _ _)
end
end Go.Proofs.Ythdbmoflbnggpaa
