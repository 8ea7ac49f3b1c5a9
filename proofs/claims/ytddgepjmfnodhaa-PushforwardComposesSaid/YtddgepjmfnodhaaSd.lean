/-
  The law MorphismMultiplies.
-/
import Derived.Test.YtddgepjmfnodhaaSc
set_option linter.unusedSimpArgs false
set_option linter.unusedVariables false
namespace Go.Proofs.Ytddgepjmfnodhaa
open Go.Abs Go.Sand

section
variable {g h q : Gr} {m o : Mo} {n k l : Nat}
theorem comp_len (m o : Mo) : (compM m o).v.length = m.v.length ∧ (compM m o).e.length = m.e.length := by simp [compM, compV, compF]
theorem comp_harm (c : Cov g h m n k) (d : Cov h q o k l) (hh : harmM g h m = true) (ho : harmM h q o = true) : harmM g q (compM m o) = true := by
  have hvl := c.vl
  refine harm_of (fun v => mM g h m v * mM h q o (vI m v).toNat) fun v hv e he ht => ?_
  rw [(comp_len m o).1] at hv
  have hvb := c.vB (show v < n by omega)
  rw [comp_cM c d hh (by omega)]
  have ht' := (tM_iff q _ v e).1 ht
  rw [compV_vI c (by omega)] at ht'
  rw [harm_at d ho (v := (vI m v).toNat) (by omega) he ((tM_iff q o _ e).2 ht')]
theorem comp_deg (c : Cov g h m n k) (d : Cov h q o k l) (hh : harmM g h m = true) : occ 0 (compM m o).e = occ 0 m.e * occ 0 o.e := by
  have hel := c.elg
  have hel2 := d.elg
  have hk := c.hk
  have h12 := c.n12
  rw [occ_sm, (comp_len m o).2, hel]
  have s1 : ∀ i, i < nE g → (if (compM m o).e.getD i 0 = 0 then (1 : Int) else 0) = sm (fun e => if o.e.getD e 0 = 0 then (if m.e.getD i 0 = e then 1 else 0) else 0) (nE h) := fun i hi => by
    rw [compF_getD m o i (by omega)]
    exact comp_split c d 0 (fun _ => 1) hi
  rw [sm_congr s1, sm_comm]
  have s2 : ∀ e, e < nE h → sm (fun i => if o.e.getD e 0 = 0 then (if m.e.getD i 0 = (e : Int) then (1 : Int) else 0) else 0) (nE g) = if o.e.getD e 0 = 0 then occ e m.e else 0 := fun e he => by
    by_cases hx : o.e.getD e 0 = 0
    · simp only [if_pos hx]
      rw [occ_sm, hel]
    · simp only [if_neg hx]
      exact sm_zero fun _ _ => rfl
  rw [sm_congr s2]
  by_cases h1 : k = 1
  · have z := one_none c (by omega)
    rw [z, Int.zero_mul]
    refine sm_zero fun e he => ?_
    have hE := c.hE he
    have y1 := hE.a0
    have y2 := hE.ab
    have y3 := hE.bn
    omega
  · have hds := (deg_same c hh (by omega)).2
    have s3 : ∀ e, e < nE h → (if o.e.getD e 0 = 0 then occ e m.e else 0) = occ 0 m.e * (if o.e.getD e 0 = 0 then 1 else 0) := fun e he => by
      rw [hds e he]
      split <;> simp
    rw [sm_congr s3, sm_mul, occ_sm 0 o.e, hel2]
theorem idL_getD (n i : Nat) (h : i < n) : (idL n).getD i 0 = i := by
  rw [List.getD_eq_getElem?_getD, List.getElem?_eq_getElem (by rw [idL_length]; exact h)]
  exact idL_get n i h
theorem unit_cover (he : graphE g.1 g.2 = 0) : coverE g g (unitM g) = 0 := by
  obtain ⟨hg, hl, hp⟩ := graph_good he
  have h1 := hg.n1
  obtain ⟨n, hn⟩ : ∃ n : Nat, g.1 = n := ⟨g.1.toNat, by omega⟩
  refine cover_of he he (by rw [unitM, idL_length]; omega) (by rw [unitM, idL_length]) (fun x hx => ?_) fun i hi => ?_
  · simp only [unitM, idL, List.mem_map, List.mem_range] at hx
    obtain ⟨j, hj, rfl⟩ := hx
    omega
  · have ge := gE_of hg hl hn hi
    have q1 := ge.a0
    have q2 := ge.ab
    have q3 := ge.bn
    have e1 : (unitM g).e.getD i 0 = i := idL_getD _ _ hi
    have e2 : (unitM g).v.getD (eA g i).1.toNat 0 = (eA g i).1 := by rw [unitM, idL_getD _ _ (by omega)]; omega
    have e3 : (unitM g).v.getD (eA g i).2.toNat 0 = (eA g i).2 := by rw [unitM, idL_getD _ _ (by omega)]; omega
    rw [e1]
    refine stepE_to hi ?_
    rw [e2, e3, Int.min_eq_left (by omega), Int.max_eq_right (by omega)]
theorem unit_harm (he : graphE g.1 g.2 = 0) : harmM g g (unitM g) = true := by
  obtain ⟨hg, hl, hp⟩ := graph_good he
  have h1 := hg.n1
  obtain ⟨n, hn⟩ : ∃ n : Nat, g.1 = n := ⟨g.1.toNat, by omega⟩
  refine harm_of (fun _ => 1) fun v hv e hee ht => ?_
  have hv' : v < n := by rw [unitM, idL_length] at hv; omega
  have ge := gE_of hg hl hn hee
  have q2 := ge.ab
  have ht' := (tM_iff g _ v e).1 ht
  have e2 : vI (unitM g) v = v := by unfold vI; rw [unitM, idL_getD _ _ (by omega)]
  rw [e2] at ht'
  unfold cM
  rw [cntK_sm, show (unitM g).e.length = nE g by rw [unitM, idL_length]]
  have s1 : ∀ i, i < nE g → at1 (eA g i) ((unitM g).e.getD i 0) v e = if (i : Int) = (e : Int) then (if (eA g i).1 = v then 1 else 0) + (if (eA g i).2 = v then 1 else 0) else 0 := fun i hi => by
    rw [show (unitM g).e.getD i 0 = i from idL_getD _ _ hi, at1_if]
  refine (sm_congr s1).trans ?_
  rw [sm_one, if_pos (show (0 : Int) ≤ e ∧ (e : Int) < nE g by omega)]
  change (if (eA g e).1 = v then (1 : Int) else 0) + (if (eA g e).2 = v then 1 else 0) = 1
  split <;> split <;> omega
theorem unit_deg (he : graphE g.1 g.2 = 0) (h2 : 2 ≤ g.1) : occ 0 (unitM g).e = 1 := by
  obtain ⟨hg, hl, hp⟩ := graph_good he
  have h12 := hg.n12
  obtain ⟨n, hn⟩ : ∃ n : Nat, g.1 = n := ⟨g.1.toNat, by omega⟩
  have hr : ∀ x ∈ g.2, Right n x := fun x hx => hn ▸ hg.right x hx
  rw [hn] at hp
  obtain ⟨x0, hx0, _⟩ := has_edge (by omega) hr hp (by omega) (show 0 < n by omega)
  obtain ⟨e0, he0, _⟩ := edge_at (fun x hx => (hr x hx).m1) hx0
  rw [occ_sm, show (unitM g).e.length = nE g by rw [unitM, idL_length]]
  have s1 : ∀ i, i < nE g → (if (unitM g).e.getD i 0 = 0 then (1 : Int) else 0) = if (i : Int) = 0 then 1 else 0 := fun i hi => by
    rw [show (unitM g).e.getD i 0 = i from idL_getD _ _ hi]
  rw [sm_congr s1, sm_one 0 (fun _ => 1), if_pos (by unfold nE; omega)]
theorem comp_unit (c : Cov g h m n k) : compM (unitM g) m = m := by
  have hvl := c.vl
  have hel := c.elg
  have hgn := c.gn
  have e1 : (compM (unitM g) m).v = (idL n).map fun v => atI m.v v := by simp [compM, compV, unitM, hgn]
  have e2 : (compM (unitM g) m).e = (idL (nE g)).map fun x => compX m x := by simp [compM, compF, unitM]
  have f1 : (compM (unitM g) m).v = m.v := by
    rw [e1]
    refine List.ext_getElem (by rw [List.length_map, idL_length, hvl]) fun i hi hi' => ?_
    rw [List.getElem_map, idL_get n i (by omega), atI, List.getD_eq_getElem?_getD]
    rw [show ((i : Int)).toNat = i from rfl, List.getElem?_eq_getElem hi']
    rfl
  have f2 : (compM (unitM g) m).e = m.e := by
    rw [e2]
    refine List.ext_getElem (by rw [List.length_map, idL_length, hel]) fun i hi hi' => ?_
    rw [List.getElem_map, idL_get (nE g) i (by omega), compX, if_neg (by omega), atI, List.getD_eq_getElem?_getD]
    rw [show ((i : Int)).toNat = i from rfl, List.getElem?_eq_getElem hi']
    rfl
  cases hx : compM (unitM g) m
  cases m
  rw [hx] at f1 f2
  dsimp only at f1 f2
  rw [f1, f2]
end
theorem degE_zero {g h : Gr} {m : Mo} (hc : coverE g h m = 0) (hh : harmM g h m = true) : degE g h m = 0 := by rw [degE, if_neg (by simp [hc]), if_neg (by simp [hh])]
end Go.Proofs.Ytddgepjmfnodhaa
