/-
  Plain laws of chapter 51: composition and identity.
-/
import Derived.Test.YtddgepjmfnodhaaSb
set_option linter.unusedSimpArgs false
set_option linter.unusedVariables false
namespace Go.Proofs.Ytddgepjmfnodhaa
open Go.Abs Go.Sand

theorem edgesE_of {vs : List Int} {down : List (Int × Int)} : ∀ {ps : List (Int × Int)} {el : List Int}, (∀ i (h : i < el.length) (h' : i < ps.length), stepE vs down ps[i] el[i] = 0) → edgesE vs down ps el = 0
  | [], _, _ => rfl
  | _ :: _, [], _ => rfl
  | p :: ps, e :: el, h => by
    have h0 := h 0 (by simp) (by simp)
    have h0' : stepE vs down p e = 0 := h0
    rw [edgesE, if_neg (by simp [h0'])]
    exact edgesE_of fun i hi hi' => h (i + 1) (by simpa using hi) (by simpa using hi')
/-- What makes a right map. -/
theorem cover_of {g h : Gr} {m : Mo} (e1 : graphE g.1 g.2 = 0) (e2 : graphE h.1 h.2 = 0) (h1 : (m.v.length : Int) = g.1) (h2 : m.e.length = nE g) (h3 : ∀ x ∈ m.v, 0 ≤ x ∧ x < h.1) (h4 : ∀ i, i < nE g → stepE m.v (endsL h.2) (eA g i) (m.e.getD i 0) = 0) : coverE g h m = 0 := by
  have he : errsE [g, h] = 0 := by simp [errsE, e1, e2]
  rw [coverE, if_neg (by simp [he]), rightE, if_neg (by rintro (h | h); exact h h1; exact h h2), if_pos (List.all_eq_true.2 fun x hx => vtx_iff.2 (h3 x hx))]
  refine edgesE_of fun i hi hi' => ?_
  have := h4 i hi'
  unfold eA at this
  rw [List.getD_eq_getElem?_getD, List.getElem?_eq_getElem hi', List.getD_eq_getElem?_getD, List.getElem?_eq_getElem hi] at this
  exact this
theorem stepE_minus {vs : List Int} {down : List (Int × Int)} {p : Int × Int} (h : vs.getD p.1.toNat 0 = vs.getD p.2.toNat 0) : stepE vs down p (-1) = 0 := by
  rw [stepE, if_neg (by omega), if_neg]
  rintro (⟨_, h2⟩ | ⟨h1, _⟩)
  · exact h2 h
  · omega
theorem stepE_to {vs : List Int} {down : List (Int × Int)} {p : Int × Int} {e : Nat} (he : e < down.length) (h : down.getD e (0, 0) = (min (vs.getD p.1.toNat 0) (vs.getD p.2.toNat 0), max (vs.getD p.1.toNat 0) (vs.getD p.2.toNat 0))) : stepE vs down p e = 0 := by
  rw [stepE, if_neg (by omega), if_neg]
  rintro (⟨h1, _⟩ | ⟨_, h2⟩)
  · omega
  · exact h2 h
theorem errs_zero {g h : Gr} {m : Mo} (hc : coverE g h m = 0) : graphE g.1 g.2 = 0 ∧ graphE h.1 h.2 = 0 := by
  unfold coverE at hc
  split at hc
  · rename_i h1; exact absurd hc h1
  · rename_i h1; exact errs_two (Decidable.not_not.1 h1)
theorem harm_of {g h : Gr} {m : Mo} (f : Nat → Int) (hf : ∀ v, v < m.v.length → ∀ e, e < nE h → tM h m v e = true → cM g m v e = f v) : harmM g h m = true := by
  refine List.all_eq_true.2 fun v hv => ?_
  have hv' : v < m.v.length := by simpa using hv
  rcases locK_const (t := tB m.v (endsL h.2) v) (c := fun e => cntK (endsL g.2) m.e v e m.e.length) (x := f v) (k := (endsL h.2).length) (fun e he ht => hf v hv' e he ht) with h1 | h1
  · rw [show locV (endsL g.2) (endsL h.2) m v (endsL h.2).length = some none from h1]; rfl
  · rw [show locV (endsL g.2) (endsL h.2) m v (endsL h.2).length = some (some (f v)) from h1]; rfl
section
variable {g h q : Gr} {m o : Mo} {n k l : Nat}
theorem compV_vI (c : Cov g h m n k) {v : Nat} (hv : v < n) : vI (compM m o) v = vI o (vI m v).toNat := by
  have hvl := c.vl
  have e : (compM m o).v = m.v.map fun v => atI o.v v := by simp [compM, compV]
  unfold vI
  rw [e, List.getD_eq_getElem?_getD, List.getElem?_map, List.getD_eq_getElem?_getD (l := m.v), List.getElem?_eq_getElem (by omega)]
  rfl
theorem compF_getD (m o : Mo) (i : Nat) (hi : i < m.e.length) : (compM m o).e.getD i 0 = compX o (m.e.getD i 0) := by
  have e : (compM m o).e = m.e.map fun x => compX o x := by simp [compM, compF]
  rw [e, List.getD_eq_getElem?_getD, List.getElem?_map, List.getD_eq_getElem?_getD, List.getElem?_eq_getElem hi]
  rfl
theorem comp_cover (hc : coverE g h m = 0) (hd : coverE h q o = 0) : coverE g q (compM m o) = 0 := by
  obtain ⟨n, k, c⟩ := cov_of hc
  obtain ⟨k', l, d⟩ := cov_of hd
  obtain rfl : k = k' := by have := c.hk; have := d.gn; omega
  have hvl := c.vl
  have hel := c.elg
  have hgn := c.gn
  have e1 : (compM m o).v = m.v.map fun v => atI o.v v := by simp [compM, compV]
  have e2 : (compM m o).e = m.e.map fun x => compX o x := by simp [compM, compF]
  refine cover_of (errs_zero hc).1 (errs_zero hd).2 (by rw [e1]; simp; omega) (by rw [e2]; simp; omega) (fun x hx => ?_) fun i hi => ?_
  · rw [e1] at hx
    obtain ⟨y, hy, rfl⟩ := List.mem_map.1 hx
    have hb := c.vb y hy
    have := d.vB (v := y.toNat) (by omega)
    have hqk := d.hk
    have e : atI o.v y = vI o y.toNat := rfl
    rw [e]; omega
  · have ge := c.gE hi
    have q1 := ge.a0
    have q2 := ge.ab
    have q3 := ge.bn
    have a1 := compV_vI (o := o) c (show (eA g i).1.toNat < n by omega)
    have a2 := compV_vI (o := o) c (show (eA g i).2.toNat < n by omega)
    rw [compF_getD m o i (by omega)]
    rcases c.im hi with ⟨hm, hv⟩ | ⟨e, hm, he, hdn⟩
    · rw [hm, show compX o (-1) = -1 from rfl]
      refine stepE_minus ?_
      change vI (compM m o) _ = vI (compM m o) _
      rw [a1, a2, hv]
    · have b1 := c.vB (show (eA g i).1.toNat < n by omega)
      have b2 := c.vB (show (eA g i).2.toNat < n by omega)
      have hx : compX o (m.e.getD i 0) = o.e.getD e 0 := by rw [hm, compX, if_neg (by omega)]; rfl
      rw [hx]
      have hh1 : (eA h e).1 = min (vI m (eA g i).1.toNat) (vI m (eA g i).2.toNat) := by rw [hdn]
      have hh2 : (eA h e).2 = max (vI m (eA g i).1.toNat) (vI m (eA g i).2.toNat) := by rw [hdn]
      have sym : (vI o (eA h e).1.toNat = vI (compM m o) (eA g i).1.toNat ∧ vI o (eA h e).2.toNat = vI (compM m o) (eA g i).2.toNat) ∨ (vI o (eA h e).1.toNat = vI (compM m o) (eA g i).2.toNat ∧ vI o (eA h e).2.toNat = vI (compM m o) (eA g i).1.toNat) := by
        rw [a1, a2]
        by_cases hle : vI m (eA g i).1.toNat ≤ vI m (eA g i).2.toNat
        · left; rw [hh1, hh2, Int.min_eq_left hle, Int.max_eq_right hle]; exact ⟨rfl, rfl⟩
        · right; rw [hh1, hh2, Int.min_eq_right (by omega), Int.max_eq_left (by omega)]; exact ⟨rfl, rfl⟩
      rcases d.im he with ⟨hm2, hv2⟩ | ⟨f, hm2, hf, hdn2⟩
      · rw [hm2]
        refine stepE_minus ?_
        change vI (compM m o) _ = vI (compM m o) _
        rcases sym with ⟨s1, s2⟩ | ⟨s1, s2⟩ <;> rw [← s1, ← s2, hv2]
      · rw [hm2]
        refine stepE_to hf ?_
        change eA q f = (min (vI (compM m o) _) (vI (compM m o) _), max (vI (compM m o) _) (vI (compM m o) _))
        rw [hdn2]
        rcases sym with ⟨s1, s2⟩ | ⟨s1, s2⟩
        · rw [s1, s2]
        · rw [s1, s2, Int.min_comm, Int.max_comm]
/-- A single edge of the composition, counted by its image in the middle. -/
theorem comp_split (c : Cov g h m n k) (d : Cov h q o k l) (f : Nat) (F : Nat → Int) {i : Nat} (hi : i < nE g) :
    (if compX o (m.e.getD i 0) = f then F i else 0) = sm (fun e => if o.e.getD e 0 = f then (if m.e.getD i 0 = e then F i else 0) else 0) (nE h) := by
  rcases c.im hi with ⟨hm, _⟩ | ⟨e, hm, he, _⟩
  · rw [hm, show compX o (-1) = -1 from rfl, if_neg (by omega)]
    refine (sm_zero fun e _ => ?_).symm
    rw [if_neg (show ¬ ((-1 : Int) = e) by omega)]
    simp
  · have hx : compX o (m.e.getD i 0) = o.e.getD e 0 := by rw [hm, compX, if_neg (by omega)]; rfl
    rw [hx]
    have : ∀ e', e' < nE h → (if o.e.getD e' 0 = f then (if m.e.getD i 0 = e' then F i else 0) else 0) = if (e' : Int) = (e : Int) then (if o.e.getD e' 0 = f then F i else 0) else 0 := fun e' _ => by
      rw [hm]
      by_cases h1 : (e : Int) = e'
      · rw [if_pos h1, if_pos h1.symm]
      · have h1' : ¬ (e' : Int) = (e : Int) := fun h => h1 h.symm
        rw [if_neg h1', if_neg h1]
        split <;> rfl
    rw [sm_congr this, sm_one, if_pos (show (0 : Int) ≤ e ∧ (e : Int) < nE h by omega)]
    rfl
theorem at1_if (p : Int × Int) (x v e : Int) : at1 p x v e = if x = e then (if p.1 = v then 1 else 0) + (if p.2 = v then 1 else 0) else 0 := rfl
theorem comp_cM (c : Cov g h m n k) (d : Cov h q o k l) (hh : harmM g h m = true) {v f : Nat} (hv : v < n) : cM g (compM m o) v f = mM g h m v * cM h o (vI m v).toNat f := by
  have hel := c.elg
  have hel2 := d.elg
  have hvb := c.vB hv
  have hcl : (compM m o).e.length = nE g := by simp [compM, compF, hel]
  unfold cM
  rw [cntK_sm, hcl]
  have s1 : ∀ i, i < nE g → at1 (eA g i) ((compM m o).e.getD i 0) v f = sm (fun e => if o.e.getD e 0 = f then at1 (eA g i) (m.e.getD i 0) v e else 0) (nE h) := fun i hi => by
    rw [compF_getD m o i (by omega), at1_if, comp_split c d f (fun i => (if (eA g i).1 = v then 1 else 0) + (if (eA g i).2 = v then 1 else 0)) hi]
    exact sm_congr fun e _ => by rw [at1_if]
  have e1 : sm (fun i => at1 (eA g i) ((compM m o).e.getD i 0) v f) (nE g) = sm (fun e => if o.e.getD e 0 = f then cM g m v e else 0) (nE h) := by
    rw [sm_congr s1, sm_comm]
    refine sm_congr fun e he => ?_
    by_cases hx : o.e.getD e 0 = f
    · rw [if_pos hx]
      simp only [if_pos hx]
      unfold cM
      rw [cntK_sm, hel]
    · rw [if_neg hx]
      simp only [if_neg hx]
      exact sm_zero fun _ _ => rfl
  refine e1.trans ?_
  rw [cntK_sm, hel2, ← sm_mul]
  refine sm_congr fun e he => ?_
  have hE := c.hE he
  have q2 := hE.ab
  rw [at1_if]
  by_cases hx : o.e.getD e 0 = f
  · rw [if_pos hx, if_pos hx]
    cases ht : tM h m v e
    · rw [cM_far c hv he ht]
      have : ¬ (vI m v = (eA h e).1 ∨ vI m v = (eA h e).2) := fun hcx => by rw [(tM_iff h m v e).2 hcx] at ht; cases ht
      rw [if_neg (show ¬ ((endsL h.2).getD e (0, 0)).1 = ((vI m v).toNat : Int) from fun hq => this (.inl (by rw [eA, hq]; omega))),
        if_neg (show ¬ ((endsL h.2).getD e (0, 0)).2 = ((vI m v).toNat : Int) from fun hq => this (.inr (by rw [eA, hq]; omega)))]
      simp
    · rw [harm_at c hh hv he ht]
      have ht' := (tM_iff h m v e).1 ht
      unfold eA at q2 ht'
      by_cases p1 : ((endsL h.2).getD e (0, 0)).1 = ((vI m v).toNat : Int)
      · rw [if_pos p1, if_neg (by omega)]; omega
      · rw [if_neg p1, if_pos (by omega)]; omega
  · rw [if_neg hx, if_neg hx]; omega
end
end Go.Proofs.Ytddgepjmfnodhaa
