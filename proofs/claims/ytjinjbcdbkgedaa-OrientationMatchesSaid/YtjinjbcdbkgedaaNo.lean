/-
  Contracts: the orientations that fit.
-/
import Derived.Test.YtjinjbcdbkgedaaNn
set_option linter.unusedSimpArgs false
set_option linter.unusedVariables false
namespace Go.Abs
/-- At the end of a function that is given values alone: one object is handed back. -/
theorem fin_at {rs : List ARes} {s : St} {x r : AV} {ob ob' : AO} {e : AExit} (t : Nat) (he : match e with | .exit _ => False | _ => True) (h : resOf s rs = some x) (ht : s.H[t]? = some ob) (hr : x.ren s.H (idx [t] 0) = r) (hob : ob.ren s.H (idx [t] 0) = ob') :
    Fin 0 rs (fun r' H' => r' = r ∧ H' = [ob']) e s :=
  ⟨he, .inl ⟨s, x, [t], Wk.refl _ _, h, by simp [okσ, nodupB, firstB, (List.getElem?_eq_some_iff.1 ht).1], hr, by
    show [(s.H.getD t (.box .dead)).ren s.H (idx [t] 0)] = [ob']
    rw [List.getD_eq_getElem?_getD, ht, Option.getD_some, hob]⟩⟩
end Go.Abs
namespace Go.Sand
/-- Those among the first k lists of m truths of which p holds. -/
def pickK (p : List Bool → Bool) (m k : Nat) : List (List Bool) := ((List.range k).map (numB m)).filter p
theorem pickK_succ (p : List Bool → Bool) (m k : Nat) : pickK p m (k + 1) = pickK p m k ++ if p (numB m k) then [numB m k] else [] := by
  unfold pickK
  rw [List.range_succ, List.map_append, List.filter_append]
  cases h : p (numB m k) <;> simp [h]
theorem pickK_len (p : List Bool → Bool) (m k : Nat) : (pickK p m k).length ≤ k := by
  unfold pickK
  exact Nat.le_trans (List.length_filter_le _ _) (by simp)
def pickL (p : List Bool → Bool) (m : Nat) : List (List Bool) := (wholeL m).filter p
theorem pickL_eq (p : List Bool → Bool) (m : Nat) : pickK p m (2 ^ m) = pickL p m := rfl
end Go.Sand
namespace Go.Proofs.Ytjinjbcdbkgedaa
open Go.Abs Go.Sand

theorem app_0 {α : Type} (A L : List α) : (A ++ L)[A.length]? = L[0]? := by rw [List.getElem?_append_right (Nat.le_refl _), Nat.sub_self]
theorem app_i {α : Type} (A L : List α) (i : Nat) : (A ++ L)[A.length + i]? = L[i]? := by rw [List.getElem?_append_right (by omega), Nat.add_sub_cancel_left]
theorem set_0 {α : Type} (A L : List α) (x : α) : (A ++ L).set A.length x = A ++ L.set 0 x := by rw [List.set_append_right _ _ (Nat.le_refl _), Nat.sub_self]
theorem set_i {α : Type} (A L : List α) (i : Nat) (x : α) : (A ++ L).set (A.length + i) x = A ++ L.set i x := by rw [List.set_append_right _ _ (by omega), Nat.add_sub_cancel_left]
theorem calm_rowB (b : List Bool) : (b.map PV.b).all calmP = true := by simp [List.all_map, calmP]
theorem cloneN_hc {e : Bool} {A Z H : List AO} {x n : Nat} {b : List Bool} {K : AV → List AO → Prop} (he : H = A ++ Z) (hA : ∀ ob ∈ A, loO A.length ob = true) (hx : (A ++ Z)[x]? = some (rowB b)) (hn : b.length = n) (hb : n ≤ 1000000)
    (hK : ∀ Z', K (.p (.bo b)) (A ++ Z')) : HC Try.prog e 60 [.os x 0 n] H K := by
  subst hn he
  refine HC_norm (HC_of_PC (by simp [views, view, viewC, ownEls, hx]) (cloneB_ok b hb) ?_)
  have hc := calm_rowB b
  refine ⟨List.range (A ++ Z).length, okσ_range (Nat.le_refl _) (by simp [hpast, hc, calmA, calmO]), ?_⟩
  have hh : hpast (A ++ Z) [.os x 0 b.length] (.os 0 0 b.length) [rowB b] = (A ++ Z) ++ [rowB b] := by
    simp [hpast, hc, calmA, calmO, AO.ren]
  have h0 : (AV.os 0 0 b.length).ren [rowB b] (fun o => some (o + (A ++ Z).length)) = .os (A ++ Z).length 0 b.length := by
    simp [AV.ren]
  rw [hh, h0, renH_range, List.map_append, map_ren_lo hA (by simp)]
  have hr : (AV.os (A ++ Z).length 0 b.length).ren ((A ++ Z) ++ [rowB b]) (Abs.idx (List.range (A ++ Z).length) 0) = .p (.bo b) := by
    rw [AV.ren, idx_range_none (Nat.le_refl _)]
    simp
  rw [hr]
  exact hK _
/-- The objects while orientations are looked at. -/
abbrev someH (N : Int) (es : List Ed) (f : FuncId) (caps : List AV) (H0 : List AO) (m : Nat) (p : List Bool → Bool) (lp : AO) (k : Nat) (b : List Bool) : List AO :=
  H0 ++ [.box (.p (G N es)), .box (.fn (.func f) [] caps), .box (.os (H0.length + 6) 0 (pickK p m k).length), .box (.p (.i m)), lp, rowB b, .tab ((pickK p m k).map fun o => .p (.bo o)) 25 false]
theorem loL_bos (n : Nat) (l : List (List Bool)) : loL n (l.map fun o => AV.p (.bo o)) = true := by
  induction l with
  | nil => rfl
  | cons x l ih => rw [List.map_cons, loL, ih]; rfl
attribute [local simp ↓ 10000] lit_shl
attribute [local simp] app_0 app_i set_0 set_i
section
variable {n : Nat} {es : List Ed} {f : FuncId} {caps : List AV} {H0 : List AO} {p : List Bool → Bool}
theorem someH_len {N : Int} {m : Nat} {lp : AO} {k : Nat} {b : List Bool} : (someH N es f caps H0 m p lp k b).length = H0.length + 7 := by simp [someH]
theorem some_lim (N : Int) (es : List Ed) (f : FuncId) (caps : List AV) (hel : es.length ≤ 1000) {K : AV → List AO → Prop} (h : gcheck N es ≠ 0 ∨ 14 < (endsL es).length) (hK : ∀ Z, K (.tup [.p (.sl []), .i (if gcheck N es ≠ 0 then gcheck N es else 12)]) (H0 ++ Z)) :
    HC Try.prog false 66 [.p (G N es), .fn (.func f) [] caps] H0 K := by
  refine HC_of_W (af := _) ((by exact cfn66 : cfn _ _ _ = some _)) ?_
  simp -implicitDefEqProofs (disch := omega) [c66, List.getElem?_cons_zero, List.getElem?_cons_succ, wrap_id]
  refine HC_of_PC rfl (gsize_ok N es hel) ?_
  by_cases hg : gcheck N es = 0
  rotate_left
  · rw [if_pos hg] at hK
    simp -implicitDefEqProofs (disch := omega) [List.getElem?_cons_zero, List.getElem?_cons_succ, wrap_id, hg]
    refine finW (Wk_nil0 4 rfl) ?_
    simp -implicitDefEqProofs (disch := omega) [List.getElem?_cons_zero, List.getElem?_cons_succ, wrap_id]
    exact finH trivial rfl (hK _)
  rw [if_neg (by simp [hg])] at hK
  have hm : 14 < (endsL es).length := h.resolve_left (by simp [hg])
  by_cases h62 : (62 : Int) < (endsL es).length
  · simp -implicitDefEqProofs (disch := omega) [List.getElem?_cons_zero, List.getElem?_cons_succ, wrap_id, hg, h62]
    refine finW (Wk_nil0 4 rfl) ?_
    exact finH trivial rfl (hK _)
  · have hls := lit_shl (n := (endsL es).length) (by omega)
    have hpw : ¬ powN (endsL es).length ≤ 16384 := by
      have : 2 ^ 15 ≤ 2 ^ (endsL es).length := Nat.pow_le_pow_right (by omega) (by omega)
      unfold powN; omega
    have hpw3 : 16384 < powN (endsL es).length := by omega
    have hpw2 : (16384 : Int) < (powN (endsL es).length : Nat) := by omega
    have hle62 : (endsL es).length ≤ 62 := by omega
    simp -implicitDefEqProofs (disch := omega) [List.getElem?_cons_zero, List.getElem?_cons_succ, wrap_id, hg, h62, hpw, hpw2, hpw3, hle62]
    refine finW (Wk_nil0 4 rfl) ?_
    exact finH trivial rfl (hK _)
theorem someH_lo {m k : Nat} {b : List Bool} {t : List (Nat × AV)} {st : LSt} {ca cc : Code} (hlo : ∀ ob ∈ H0, loO (H0.length + 7) ob = true) (hcaps : loL (H0.length + 7) caps = true) (ht : loT (H0.length + 7) t = true) :
    ∀ ob ∈ someH n es f caps H0 m p (.lp 37 t [27] ca cc st) k b, loO (H0.length + 7) ob = true := by
  intro ob hob
  rcases List.mem_append.1 hob with h | h
  · exact hlo ob h
  · simp only [List.mem_cons, List.not_mem_nil, or_false] at h
    rcases h with rfl | rfl | rfl | rfl | rfl | rfl | rfl
    · rfl
    · simp [loO, loA, loL, hcaps]
    · simp [loO, loA]
    · rfl
    · exact ht
    · rfl
    · exact loL_bos _ _
theorem some_range {m : Nat} {t : List (Nat × AV)} (hm : m ≤ 14) (hc : callable Try.prog f = true) (hlo : ∀ ob ∈ H0, loO (H0.length + 7) ob = true) (hcaps : loL (H0.length + 7) caps = true)
    (hf : ∀ (H' : List AO) (r : Nat) (b : List Bool) (K' : AV → List AO → Prop), (∀ i, i < H0.length → H'[i]? = H0[i]?) → H'[r]? = some (rowB b) → b.length = m → (∀ Z, K' (.b (p b)) (H' ++ Z)) → HC Try.prog false f (.os r 0 m :: caps) H' K')
    (ht : loT (H0.length + 7) t = true) (ht3 : Abs.get t 3 = .ptr (H0.length + 1) 1 0 0) (ht8 : Abs.get t 8 = .ptr (H0.length + 2) 1 0 0) {K : AV → List AO → Prop}
    (hK : ∀ r b, K r (someH n es f caps H0 m p (.lp 37 t [27] rc66_0a rc66_0c .ready) (2 ^ m) b)) :
    HC Try.prog false 90 [.yl (H0.length + 4), .ptr (H0.length + 3) 1 0 0] (H0 ++ [.box (.p (G n es)), .box (.fn (.func f) [] caps), .box (.p .nil), .box (.p (.i m)), .lp 37 t [27] rc66_0a rc66_0c .ready]) K := by
  obtain ⟨LP, hLP⟩ : ∃ LP, LP = AO.lp 37 t [27] rc66_0a rc66_0c .ready := ⟨_, rfl⟩
  have hlp : ∀ k b, (someH n es f caps H0 m p LP k b)[H0.length + 4]? = some LP := fun k b => by simp [someH]
  have hLL : LP.len = 1 := by rw [hLP]; rfl
  rw [← hLP] at hK ⊢
  refine orients_range (L := H0.length + 5) (Hk := someH n es f caps H0 m p LP) (by omega) (by simp) (by simp) (fun k b => by simp [someH]) (fun k b => by simp [someH]) hlp hLL (fun k b b' => by simp [someH]) (fun T => ?_) (fun k hk K' hK' => ?_) hK
  · have hb : (H0 ++ [.box (.p (G n es)), .box (.fn (.func f) [] caps), .box (.p .nil), .box (.p (.i m)), LP] ++ [rowB (numB m 0)])[H0.length + 2]? = some (.box (.p .nil)) := by simp
    have h1 := Wk_nilBT (m0 := H0.length + 5) (s := ⟨T, H0 ++ [.box (.p (G n es)), .box (.fn (.func f) [] caps), .box (.p .nil), .box (.p (.i m)), LP] ++ [rowB (numB m 0)]⟩) (H0.length + 2) 0 25 hb rfl
    have h2 := Wk_flat (m0 := H0.length + 5) (s := ⟨T, H0 ++ [.box (.p (G n es)), .box (.fn (.func f) [] caps), .box (.agg [.os (H0.length + 6) 0 0]), .box (.p (.i m)), LP, rowB (numB m 0), .tab [] 25 false]⟩) (H0.length + 2) (x := .agg [.os (H0.length + 6) 0 0]) (y := .os (H0.length + 6) 0 0) (by simp) rfl
    have e1 : ((H0 ++ [.box (.p (G n es)), .box (.fn (.func f) [] caps), .box (.p .nil), .box (.p (.i m)), LP] ++ [rowB (numB m 0)]) ++ [AO.tab [] 25 false]).set (H0.length + 2) (.box (.agg ((AV.p .nil).flat.set 0 (.os (H0 ++ [.box (.p (G n es)), .box (.fn (.func f) [] caps), .box (.p .nil), .box (.p (.i m)), LP] ++ [rowB (numB m 0)]).length 0 0)))) =
        H0 ++ [.box (.p (G n es)), .box (.fn (.func f) [] caps), .box (.agg [.os (H0.length + 6) 0 0]), .box (.p (.i m)), LP, rowB (numB m 0), .tab [] 25 false] := by simp
    dsimp only at h1 h2
    rw [e1] at h1
    have e2 : (H0 ++ [.box (.p (G n es)), .box (.fn (.func f) [] caps), .box (.agg [.os (H0.length + 6) 0 0]), .box (.p (.i m)), LP, rowB (numB m 0), .tab [] 25 false]).set (H0.length + 2) (.box (.os (H0.length + 6) 0 0)) = someH n es f caps H0 m p LP 0 (numB m 0) := by simp [someH, pickK]
    rw [e2] at h2
    simp only [List.length_append, List.length_cons, List.length_nil]
    exact h1.trans h2
  · have hpl := pickK_len p m k
    have hps := pickK_succ p m k
    have hnl := numB_len m k
    have h16 : 2 ^ m ≤ 2 ^ 14 := Nat.pow_le_pow_right (by omega) hm
    have hp1 : (pickK p m k).length + 1 ≤ 1048576 := by omega
    subst hLP
    refine HY_norm (HY_of_W (hlp k (numB m k)) rcc66_0a rcc66_0c rfl rfl rfl rfl ?_)
    dsimp only [someH]
    simp -implicitDefEqProofs (disch := omega) [List.getElem?_cons_zero, List.getElem?_cons_succ, wrap_id, ra66_0a, ra66_0c, ht3, ht8]
    refine ⟨hc, ?_⟩
    refine hf _ _ (numB m k) _ (fun i hi => List.getElem?_append_left hi) (by simp) hnl fun Z => ?_
    cases hpv : p (numB m k)
    · rw [hpv] at hps
      simp only [Bool.false_eq_true, if_false, List.append_nil] at hps
      simp -implicitDefEqProofs (disch := omega) [List.getElem?_cons_zero, List.getElem?_cons_succ, wrap_id]
      refine ⟨List.range (H0.length + 7), okσ_range (Nat.le_refl _) (by simp), ?_⟩
      have hA := someH_lo (n := n) (es := es) (f := f) (p := p) (m := m) (k := k) (b := numB m k) (st := .ready) (ca := rc66_0a) (cc := rc66_0c) hlo hcaps ht
      have e1 : H0 ++ (AO.box (.p (G n es)) :: .box (.fn (.func f) [] caps) :: .box (.os (H0.length + 6) 0 (pickK p m k).length) :: .box (.p (.i m)) :: .lp 37 t [27] rc66_0a rc66_0c .ready :: rowB (numB m k) :: .tab ((pickK p m k).map fun o => .p (.bo o)) 25 false :: Z) =
        someH n es f caps H0 m p (.lp 37 t [27] rc66_0a rc66_0c .ready) k (numB m k) ++ Z := by simp [someH]
      rw [e1, ← someH_len (N := (n : Int)) (es := es) (f := f) (caps := caps) (H0 := H0) (p := p) (m := m) (lp := .lp 37 t [27] rc66_0a rc66_0c .ready) (k := k) (b := numB m k), renH_range, map_ren_lo hA (by simp)]
      dsimp only [someH] at hK' ⊢
      rw [hps] at hK'
      exact hK'
    · rw [hpv, if_pos rfl] at hps
      simp -implicitDefEqProofs (disch := omega) [List.getElem?_cons_zero, List.getElem?_cons_succ, wrap_id, ht8]
      refine cloneN_hc (A := someH n es f caps H0 m p (.lp 37 t [27] rc66_0a rc66_0c .busy) k (numB m k)) (Z := Z) (by simp [someH]) (by rw [someH_len]; exact someH_lo hlo hcaps ht) (by simp [someH]) hnl (by omega) fun Z' => ?_
      dsimp only [someH]
      simp -implicitDefEqProofs (disch := omega) [List.getElem?_cons_zero, List.getElem?_cons_succ, wrap_id, ht8, hp1]
      refine ⟨List.range (H0.length + 7), okσ_range (Nat.le_refl _) (by simp), ?_⟩
      have hA := someH_lo (n := n) (es := es) (f := f) (p := p) (m := m) (k := k + 1) (b := numB m k) (st := .ready) (ca := rc66_0a) (cc := rc66_0c) hlo hcaps ht
      have e1 : H0 ++ (AO.box (.p (G n es)) :: .box (.fn (.func f) [] caps) :: .box (.os (H0.length + 6) 0 ((pickK p m k).length + 1)) :: .box (.p (.i m)) :: .lp 37 t [27] rc66_0a rc66_0c .ready :: rowB (numB m k) :: .tab ((pickK p m k).map (fun o => .p (.bo o)) ++ [.p (.bo (numB m k))]) 25 false :: (Z' ++ [.tab [.p (.bo (numB m k))] 25 false])) =
        someH n es f caps H0 m p (.lp 37 t [27] rc66_0a rc66_0c .ready) (k + 1) (numB m k) ++ (Z' ++ [.tab [.p (.bo (numB m k))] 25 false]) := by simp [someH, hps]
      rw [e1, ← someH_len (N := (n : Int)) (es := es) (f := f) (caps := caps) (H0 := H0) (p := p) (m := m) (lp := .lp 37 t [27] rc66_0a rc66_0c .ready) (k := k + 1) (b := numB m k), renH_range, map_ren_lo hA (by simp)]
      exact hK'
/-- The orientations that fit: some. -/
theorem some_hc {m : Nat} (hg : gcheck n es = 0) (hel : es.length ≤ 1000) (hme : (endsL es).length = m) (hm : m ≤ 14) (hc : callable Try.prog f = true) (hlo : ∀ ob ∈ H0, loO H0.length ob = true) (hlo7 : ∀ ob ∈ H0, loO (H0.length + 7) ob = true) (hcaps : loL (H0.length + 7) caps = true)
    (hf : ∀ (H' : List AO) (r : Nat) (b : List Bool) (K' : AV → List AO → Prop), (∀ i, i < H0.length → H'[i]? = H0[i]?) → H'[r]? = some (rowB b) → b.length = m → (∀ Z, K' (.b (p b)) (H' ++ Z)) → HC Try.prog false f (.os r 0 m :: caps) H' K')
    {K : AV → List AO → Prop} (hK : ∀ Z t, (H0 ++ Z)[t]? = some (.tab ((pickL p m).map fun o => .p (.bo o)) 25 false) → K (.tup [.os t 0 (pickL p m).length, .i 0]) (H0 ++ Z)) :
    HC Try.prog false 66 [.p (G n es), .fn (.func f) [] caps] H0 K := by
  have hls := lit_shl (n := m) (by omega)
  have hpw : ¬ 16384 < powN m := by
    have : 2 ^ m ≤ 2 ^ 14 := Nat.pow_le_pow_right (by omega) hm
    unfold powN; omega
  have hpwI : ¬ (16384 : Int) < (powN m : Nat) := by omega
  have h62 : ¬ (62 : Int) < (m : Int) := by omega
  have h62' : ¬ 62 < m := by omega
  have hle62 : m ≤ 62 := by omega
  refine HC_of_W (af := _) ((by exact cfn66 : cfn _ _ _ = some _)) ?_
  simp -implicitDefEqProofs (disch := omega) [c66, List.getElem?_cons_zero, List.getElem?_cons_succ, wrap_id]
  refine HC_of_PC rfl (gsize_ok n es hel) ?_
  rw [hme, if_pos hg, hg]
  simp -implicitDefEqProofs (disch := omega) [List.getElem?_cons_zero, List.getElem?_cons_succ, wrap_id, h62, h62', hpw, hpwI, hle62]
  refine HC_of_PC rfl (orientations_ok m) ?_
  simp -implicitDefEqProofs (disch := omega) [List.getElem?_cons_zero, List.getElem?_cons_succ, wrap_id]
  refine ⟨by kernel_rfl, ?_⟩
  refine some_range hm hc hlo7 hcaps hf (by simp [loT, loA, loL, hcaps]) rfl rfl fun r b => ?_
  refine AfterR_ready (by simp [someH]; exact ⟨rfl, rfl, rfl, rfl, rfl⟩) ?_
  dsimp only [someH]
  rw [pickL_eq]
  simp -implicitDefEqProofs (disch := omega) [List.getElem?_cons_zero, List.getElem?_cons_succ, wrap_id]
  exact finH trivial rfl (hK _ _ (by simp))
end
theorem all1_hc {H' : List AO} {a : AV} {K : AV → List AO → Prop} (hK : ∀ Z, K (.b true) (H' ++ Z)) : HC Try.prog false 67 [a] H' K := by
  have := hK []
  rw [List.append_nil] at this
  refine HC_of_W (af := _) ((by exact cfn67 : cfn _ _ _ = some _)) ?_
  simp -implicitDefEqProofs (disch := omega) [c67, List.getElem?_cons_zero, List.getElem?_cons_succ, wrap_id]
  exact finH trivial rfl this
theorem aall_ok (n : Nat) (es : List Ed) (hel : es.length ≤ 1000) (hg : gcheck n es = 0) (hm : (endsL es).length ≤ 14) :
    PC Try.prog 18 [G n es] (.tup [.os 0 0 (wholeL (endsL es).length).length, .i 0]) [.tab ((wholeL (endsL es).length).map fun o => .p (.bo o)) 25 false] := by
  have hp : pickL (fun _ => true) (endsL es).length = wholeL (endsL es).length := by simp [pickL]
  refine PC_of_W cfn18 ?_
  simp -implicitDefEqProofs (disch := omega) [c18, List.getElem?_cons_zero, List.getElem?_cons_succ, wrap_id]
  refine some_hc (p := fun _ => true) (caps := []) hg hel rfl hm (by kernel_rfl) (by simp [loO, loA]) (by simp [loO, loA]) rfl (fun H' r b K' _ _ _ hK' => all1_hc hK') fun Z t ht => ?_
  rw [hp] at ht ⊢
  simp -implicitDefEqProofs (disch := omega) [List.getElem?_cons_zero, List.getElem?_cons_succ, wrap_id]
  exact fin_at t trivial rfl ht (by simp [AV.ren, Abs.idx]) (loO_ren (m := 0) (fun i h => by omega) _ (loL_bos 0 _))
theorem aall_err (N : Int) (es : List Ed) (hel : es.length ≤ 1000) (h : gcheck N es ≠ 0 ∨ 14 < (endsL es).length) :
    PC Try.prog 18 [G N es] (.tup [.p (.sl []), .i (if gcheck N es ≠ 0 then gcheck N es else 12)]) [] := by
  refine PC_of_W cfn18 ?_
  simp -implicitDefEqProofs (disch := omega) [c18, List.getElem?_cons_zero, List.getElem?_cons_succ, wrap_id]
  refine some_lim N es _ [] hel h fun Z => ?_
  simp -implicitDefEqProofs (disch := omega) [List.getElem?_cons_zero, List.getElem?_cons_succ, wrap_id]
  (refine fin0 trivial rfl ?_; simp -implicitDefEqProofs (disch := omega) [List.getElem?_cons_zero, List.getElem?_cons_succ, idx, wrap_id])
end Go.Proofs.Ytjinjbcdbkgedaa
