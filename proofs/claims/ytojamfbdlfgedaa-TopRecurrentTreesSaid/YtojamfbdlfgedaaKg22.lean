/-
  Texts joined: Dq Dr Ds Dt.
-/
import Derived.Test.YtojamfbdlfgedaaKg21

section
set_option linter.unusedSimpArgs false
set_option linter.unusedVariables false
namespace Go.Sand
/-- How many are marked. -/
def cT : List Bool → Nat
  | [] => 0
  | b :: l => (if b = true then 1 else 0) + cT l
theorem cT_le : ∀ l, cT l ≤ l.length
  | [] => Nat.le_refl _
  | b :: l => by have := cT_le l; simp only [cT, List.length_cons]; split <;> omega
theorem cT_set : ∀ (l : List Bool) (v : Nat) (h : v < l.length), l[v] = false → cT (l.set v true) = cT l + 1
  | b :: l, 0, _, h => by
    have : b = false := h
    subst this
    simp [cT]; omega
  | b :: l, v + 1, h, h2 => by
    have := cT_set l v (by simpa using h) h2
    simp only [List.set_cons_succ, cT, this]; omega
theorem cT_full : ∀ (l : List Bool), cT l = l.length ↔ ∀ v (h : v < l.length), l[v] = true
  | [] => by simp [cT]
  | b :: l => by
    have ih := cT_full l
    have hl := cT_le l
    constructor
    · intro h v hv
      simp only [cT, List.length_cons] at h
      cases b
      · simp at h; omega
      · match v with
        | 0 => rfl
        | v + 1 => exact ih.1 (by simp at h; omega) v (by simpa using hv)
    · intro h
      have h0 := h 0 (by simp)
      have : b = true := h0
      subst this
      have := ih.2 fun v hv => h (v + 1) (by simpa using hv)
      simp [cT, this]; omega
theorem cT_false (n : Nat) : cT (List.replicate n false) = 0 := by
  induction n with
  | zero => rfl
  | succ n ih => rw [List.replicate_succ, cT, ih]; rfl
end Go.Sand
namespace Go.Proofs.Ytojamfbdlfgedaa
open Go.Abs Go.Sand
/-- How much less than the most is at a vertex. -/
def slk (es : List Ed) (q : Nat) (c : List Int) (u : Nat) : Nat := if u = q then 0 else (valS es u - 1 - c.getD u 0).toNat
theorem off_outE (n : Nat) (M : List Bool) (v : Nat) : ∀ {es : List Ed}, (∀ x ∈ es, Right n x) → outE (fun u => !offB n M u) v es = outE (mkF M) v es
  | [], _ => rfl
  | x :: es, h => by
    have r := h x (by simp)
    have h1 := r.a0
    have h2 := r.an
    have h3 := r.b0
    have h4 := r.bn
    rw [outE, outE, off_outE n M v fun y hy => h y (by simp [hy])]
    have e : ∀ u : Int, 0 ≤ u → u < n → (!offB n M u.toNat) = mkF M u.toNat := fun u h0 hn => by
      have : u.toNat < n := by omega
      simp [offB, mkF, this]
    rw [e _ h1 h2, e _ h3 h4]
theorem cat_iff {n : Nat} {es : List Ed} {q : Nat} {c : List Int} (hr : ∀ x ∈ es, Right n x) (h : CfgOk n es q c) {M : List Bool} {v : Nat} (hv : v < n) (hvq : v ≠ q) (hm : M.getD v false = false) :
    valS es v ≤ c.getD v 0 + outE (mkF M) v es ↔ slk es q c v < outD (offB n M) v (natE (endsL es)) := by
  have h1 := outD_outE (A := offB n M) (v := v) (by simp only [offB, hm, hv]; rfl) hr
  rw [off_outE n M v hr] at h1
  have h2 := (h.at_ v hv hvq).2
  unfold slk
  rw [if_neg hvq]
  omega
/-- What fire leaves. -/
def FireR (n : Nat) (es : List Ed) (q : Nat) (c : List Int) (r : AV) (HR : List AO) : Prop := ∃ l : List Int, (l.length = n ↔ GoodB n (oneB q) (natE (endsL es)) (slk es q c)) ∧ l.length ≤ n ∧ r = .os 0 0 l.length ∧ HR = [rowI l]
/-- None of the first ones burns. -/
def NoC (es : List Ed) (c : List Int) (M : List Bool) (j : Nat) : Prop := ∀ u, u < j → M.getD u false = false → ¬ valS es u ≤ c.getD u 0 + outE (mkF M) u es
/-- What stands at the head of a round of the fire. -/
def FirS (n : Nat) (es : List Ed) (q : Nat) (c : List Int) (k : Nat) (s : St) : Prop := ∃ (M : List Bool) (l : List Int), M.length = n ∧ FireI n q (natE (endsL es)) (slk es q c) M ∧ cT M = l.length ∧ l.length = k + 1 ∧
  s = ⟨[(4, .os 2 0 l.length), (3, .os 1 0 n), (1, .ptr 0 1 0 0)], [.box (.p (pileP n es q c)), .row (M.map PV.b) 1 4 false, rowI l]⟩
set_option maxRecDepth 10000 in
theorem fire_ok (n : Nat) (es : List Ed) (q : Nat) (c : List Int) (hgc : gcheck n es = 0) (hel : es.length ≤ 900) (hn : n ≤ 12) (hq : q < n) (h : CfgOk n es q c) : PCR Try.prog 32 [pileP n es q c] (FireR n es q c) := by
  have hr := (gcheck_ok hgc).right
  have hcl := h.len
  have hcb := h.bd hr hel
  have hn6 : n ≤ 1048576 := by omega
  have hq0 : ¬ (q : Int) < 0 := by omega
  refine PCR_of_W cfn32 ?_
  simp -implicitDefEqProofs (disch := omega) [c32, List.getElem?_cons_zero, List.getElem?_cons_succ, wrap_id, hn6, hq]
  have hM0 : (List.replicate n (PV.v (Value.bool false))).set q (PV.v (Value.bool true)) = ((List.replicate n false).set q true).map PV.b := by rw [List.map_set, List.map_replicate]
  rw [hM0]
  refine loopW n (FirS n es q c) (Wk_norm [0, 1, 2] [4, 3, 1] rfl) ⟨(List.replicate n false).set q true, [(q : Int)], by simp, FireI.start hq _ _, by rw [cT_set _ _ (by simpa using hq) (by simp), cT_false]; rfl, rfl, rfl⟩ ?_
  rintro k st hk ⟨M, l, hM, hF, hct, hlk, rfl⟩
  have hctl := cT_le M
  by_cases hall : l.length = n
  · have hnl : ¬ (l.length : Int) < n := by omega
    have hnl2 : ¬ l.length < n := by omega
    have hgood : GoodB n (oneB q) (natE (endsL es)) (slk es q c) := by
      refine hF.good (by simp [slk]) fun v hv => ?_
      have := (cT_full M).1 (by omega) v (by omega)
      simp [hM, hv, this]
    simp -implicitDefEqProofs (disch := omega) [List.getElem?_cons_zero, List.getElem?_cons_succ, wrap_id, hnl, hnl2]
    exact finQ40 [2] trivial rfl rfl rfl rfl ⟨l, ⟨fun _ => hgood, fun _ => hall⟩, by omega, rfl, rfl⟩
  have hnl : (l.length : Int) < n := by omega
  have hnl2 : l.length < n := by omega
  simp -implicitDefEqProofs (disch := omega) [List.getElem?_cons_zero, List.getElem?_cons_succ, wrap_id, hnl, hnl2]
  refine loopW n (fun j s => s = ⟨[(27, .i j), (26, .i n), (5, .i (-1)), (4, .os 2 0 l.length), (3, .os 1 0 n), (1, .ptr 0 1 0 0)], [.box (.p (pileP n es q c)), .row (M.map PV.b) 1 4 false, rowI l]⟩ ∧ NoC es c M j) (wk_norm [0, 1, 2] [27, 26, 5, 4, 3, 1] rfl rfl) ⟨rfl, fun u hu => by omega⟩ ?_
  rintro j s hj ⟨rfl, hJ⟩
  by_cases hlt : j < n
  · have hjM : j < M.length := by omega
    have hgM : M.getD j false = M[j] := by simp [hjM]
    cases hMj : M[j]
    · rw [hMj] at hgM
      have hjq : j ≠ q := fun e => by rw [e, hF.1] at hgM; cases hgM
      have hci := cat_iff hr h hlt hjq hgM
      by_cases hcat : valS es j ≤ c.getD j 0 + outE (mkF M) j es
      · have hd : decide (valS es j ≤ c.getD j 0 + outE (mkF M) j es) = true := decide_eq_true hcat
        have hco := catches_ok n es q c hgc hel hcl hcb M hM j hlt
        rw [hd] at hco
        simp -implicitDefEqProofs (disch := omega) [List.getElem?_cons_zero, List.getElem?_cons_succ, wrap_id, hlt, hjM, hM, hMj]
        refine HC_of_PC (by simp [views, view, viewC, ownEls, hM]) hco ?_
        have hj0 : ¬ (j : Int) < 0 := by omega
        have hll : l.length ≤ 1048575 := by omega
        simp -implicitDefEqProofs (disch := omega) [List.getElem?_cons_zero, List.getElem?_cons_succ, wrap_id, hlt, hj0, hjM, hM, hll]
        refine round_end [0, 1, 2] [4, 3, 1] (by omega) rfl ⟨M.set j true, l ++ [(j : Int)], by simp [hM], hF.step hM hlt (hci.1 hcat), ?_, by simp [hlk], ?_⟩
        · rw [cT_set M j hjM hMj, hct]; simp
        · simp [Abs.norm, Abs.get, AV.ren, AO.ren, Abs.idx, List.map_set]
      · have hd : decide (valS es j ≤ c.getD j 0 + outE (mkF M) j es) = false := decide_eq_false hcat
        have hco := catches_ok n es q c hgc hel hcl hcb M hM j hlt
        rw [hd] at hco
        simp -implicitDefEqProofs (disch := omega) [List.getElem?_cons_zero, List.getElem?_cons_succ, wrap_id, hlt, hjM, hM, hMj]
        refine HC_of_PC (by simp [views, view, viewC, ownEls, hM]) hco ?_
        simp -implicitDefEqProofs (disch := omega) [List.getElem?_cons_zero, List.getElem?_cons_succ, wrap_id]
        refine round_end [0, 1, 2] [27, 26, 5, 4, 3, 1] hlt rfl ⟨rfl, fun u hu hm => ?_⟩
        by_cases e : u = j
        · subst e; exact hcat
        · exact hJ u (by omega) hm
    · simp -implicitDefEqProofs (disch := omega) [List.getElem?_cons_zero, List.getElem?_cons_succ, wrap_id, hlt, hjM, hM, hMj]
      refine round_end [0, 1, 2] [27, 26, 5, 4, 3, 1] hlt rfl ⟨rfl, fun u hu hm => ?_⟩
      by_cases e : u = j
      · subst e; rw [hgM, hMj] at hm; cases hm
      · exact hJ u (by omega) hm
  · have hjn : j = n := by omega
    subst hjn
    obtain ⟨v, hv, hvm⟩ : ∃ v, v < j ∧ M.getD v false = false := by
      refine Classical.byContradiction fun hc => ?_
      have := (cT_full M).2 fun v hv => by
        cases e : M[v]
        · exact absurd ⟨v, by omega, by simp [hv, e]⟩ hc
        · rfl
      omega
    have hbad : ¬ GoodB j (oneB q) (natE (endsL es)) (slk es q c) := hF.bad hv hvm fun u hu hm hlt' => by
      have huq : u ≠ q := fun e => by rw [e, hF.1] at hm; cases hm
      exact hJ u hu hm ((cat_iff hr h hu huq hm).2 hlt')
    simp -implicitDefEqProofs (disch := omega) [List.getElem?_cons_zero, List.getElem?_cons_succ, wrap_id, hlt]
    exact finQ40 [2] trivial rfl rfl rfl rfl ⟨l, ⟨fun e => absurd e hall, fun e => absurd e hbad⟩, by omega, rfl, rfl⟩
/-- Does it recur? -/
noncomputable def recB (n : Nat) (es : List Ed) (q : Nat) (c : List Int) : Bool := by
  classical exact decide (GoodB n (oneB q) (natE (endsL es)) (slk es q c))
theorem recB_iff {n : Nat} {es : List Ed} {q : Nat} {c : List Int} : recB n es q c = true ↔ GoodB n (oneB q) (natE (endsL es)) (slk es q c) := by classical unfold recB; exact decide_eq_true_iff
theorem recurs_ok (n : Nat) (es : List Ed) (q : Nat) (c : List Int) (hgc : gcheck n es = 0) (hel : es.length ≤ 900) (hn : n ≤ 12) (hq : q < n) (h : CfgOk n es q c) : PC Try.prog 21 [pileP n es q c] (.b (recB n es q c)) [] := by
  refine PC_of_W cfn21 ?_
  simp -implicitDefEqProofs (disch := omega) [c21, List.getElem?_cons_zero, List.getElem?_cons_succ, wrap_id]
  refine HC_of_PC rfl (stb40_ok n es q c hgc hel hn h) ?_
  simp -implicitDefEqProofs (disch := omega) [List.getElem?_cons_zero, List.getElem?_cons_succ, wrap_id]
  refine HC_of_PCR rfl (fire_ok n es q c hgc hel hn hq h) ?_
  rintro r HR ⟨l, hl, hl2, rfl, rfl⟩
  by_cases hln : l.length = n
  · have hb : recB n es q c = true := recB_iff.2 (hl.1 hln)
    have e : ((l.length : Int) = n) = True := eq_true (by omega)
    simp -implicitDefEqProofs (disch := omega) [List.getElem?_cons_zero, List.getElem?_cons_succ, wrap_id, e]
    (refine fin0 trivial rfl ?_; simp -implicitDefEqProofs (disch := omega) [List.getElem?_cons_zero, List.getElem?_cons_succ, idx, wrap_id, hb])
  · have hb : recB n es q c = false := by
      cases e : recB n es q c
      · rfl
      · exact absurd (hl.2 (recB_iff.1 e)) hln
    have e : ((l.length : Int) = n) = False := eq_false (by omega)
    simp -implicitDefEqProofs (disch := omega) [List.getElem?_cons_zero, List.getElem?_cons_succ, wrap_id, e]
    (refine fin0 trivial rfl ?_; simp -implicitDefEqProofs (disch := omega) [List.getElem?_cons_zero, List.getElem?_cons_succ, idx, wrap_id, hb])
end Go.Proofs.Ytojamfbdlfgedaa
end
section
set_option linter.unusedSimpArgs false
set_option linter.unusedVariables false
namespace Go.Proofs.Ytojamfbdlfgedaa
open Go.Abs Go.Sand
attribute [local simp] ap_0 ap_i
/-- The objects while recurrent configurations are listed. -/
abbrev rcA (n : Nat) (es : List Ed) (q : Nat) (top : List Int) (rw : AO) (lp : AO) (T : List AV) : List AO :=
  [.box (.p (G n es)), .box (.p .nil), .box (.p (.i 0)), rw, .box (.os 9 0 T.length), .box (.p (pileP n es q top)), .box (.p (.i 0)), .box (.p (.is top)), lp, .tab T 37 false]
/-- What stands in Z stands in Y. -/
def PreZ (Z Y : List AO) : Prop := ∀ (i : Nat) (ob : AO), Z[i]? = some ob → Y[i]? = some ob
theorem PreZ.refl (Z : List AO) : PreZ Z Z := fun _ _ h => h
theorem PreZ.trans {A B C : List AO} (h : PreZ A B) (k : PreZ B C) : PreZ A C := fun i ob hi => k i ob (h i ob hi)
theorem PreZ.app (Z X : List AO) : PreZ Z (Z ++ X) := fun i ob h => by rw [List.getElem?_append_left (List.getElem?_eq_some_iff.1 h).1]; exact h
theorem PreZ.set {Z Y : List AO} (h : PreZ Z Y) {j : Nat} (hj : Z[j]? = none) (x : AO) : PreZ Z (Y.set j x) := fun i ob hi => by
  have : i ≠ j := fun e => by rw [e, hj] at hi; cases hi
  rw [List.getElem?_set_ne (fun e => this e.symm)]; exact h i ob hi
def RF (R : List (Nat × AO)) (Z : List AO) : Prop := ∀ p ∈ R, Z[p.1]? = some p.2
theorem RF.pre {R : List (Nat × AO)} {Z Y : List AO} (h : RF R Z) (k : PreZ Z Y) : RF R Y := fun p hp => k _ _ (h p hp)
section
variable (n : Nat) (es : List Ed) (q : Nat) (top : List Int) (rw : AO) (lp : AO)
/-- A loop takes in what is yielded. -/
structure YG (o : Nat) (R : List (Nat × AO)) : Prop where
  sol : ∀ T Z, RF R Z → solid (rcA n es q top rw lp T ++ Z) (.yl o) = true
  yld : ∀ (T : List AV) (Z : List AO) (x : AV) (K : AV → List AO → Prop), RF R Z → YOk Z x → T.length < 16384 → (∀ Y, PreZ Z Y → K (.b true) (rcA n es q top rw lp (T ++ [x]) ++ Y)) → HY Try.prog o [x] (rcA n es q top rw lp T ++ Z) K
end
section
variable {n : Nat} {es : List Ed} {q : Nat} {top : List Int} {rw : AO} {t : List (Nat × AV)}
theorem yg_top (ht8 : Abs.get t 8 = .ptr 4 1 0 0) : YG n es q top rw (.lp 39 t [30] rc6_0a rc6_0c .ready) 8 [] := by
  refine ⟨fun T Z _ => rfl, fun T Z x K _ hx hT hK => ?_⟩
  have h1 : ¬ (T.length : Int) = 16384 := by omega
  have h2 : ¬ T.length = 16384 := by omega
  have h3 : T.length ≤ 1048575 := by omega
  have hZ0 : ∀ x : AO, (Z ++ [x])[Z.length]? = some x := fun x => by simp
  refine HY_of_W rfl rcc6_0a rcc6_0c rfl rfl rfl rfl ?_
  rcases hx with rfl | ⟨j, l, rfl, hj⟩
  · simp -implicitDefEqProofs (disch := omega) [List.getElem?_cons_zero, List.getElem?_cons_succ, wrap_id, ra6_0a, ra6_0c, ht8, h1, h2, h3, hZ0]
    have h := hK (Z ++ [.tab [.p .nil] 37 false]) (PreZ.app _ _)
    simpa using h
  · simp -implicitDefEqProofs (disch := omega) [List.getElem?_cons_zero, List.getElem?_cons_succ, wrap_id, ra6_0a, ra6_0c, ht8, h1, h2, h3, hZ0, hj]
    have h := hK (Z ++ [.tab [.os (j + 10) 0 l.length] 37 false]) (PreZ.app _ _)
    simpa using h
theorem rset_at (lp : AO) (T : List AV) {Z : List AO} (j : Nat) (x : AO) : (rcA n es q top rw lp T ++ Z).set (j + 10) x = rcA n es q top rw lp T ++ Z.set j x := by simp [rcA]
theorem rget_at (lp : AO) (T : List AV) {Z : List AO} (j : Nat) : (rcA n es q top rw lp T ++ Z)[j + 10]? = Z[j]? := by simp
theorem yg_in {lp : AO} {o : Nat} {R : List (Nat × AO)} (h : YG n es q top rw lp o R) {i j : Nat} (hij : i ≠ j) (hi : ∀ p ∈ R, p.1 ≠ i) (ht4 : Abs.get t 4 = .ptr (j + 10) 1 0 0) :
    YG n es q top rw lp (i + 10) ((i, .lp 53 t [47] rc20_0a rc20_0c .ready) :: (j, .box (.yl o)) :: R) := by
  refine ⟨fun T Z hR => ?_, fun T Z x K hR hx hT hK => ?_⟩
  · have hZi := hR _ (List.mem_cons_self)
    dsimp only at hZi
    unfold solid
    dsimp only
    rw [rget_at, hZi]; rfl
  have hZi : Z[i]? = _ := hR _ (List.mem_cons_self)
  have hZj : Z[j]? = _ := hR _ (List.mem_cons_of_mem _ List.mem_cons_self)
  have hRR : RF R Z := fun p hp => hR p (List.mem_cons_of_mem _ (List.mem_cons_of_mem _ hp))
  obtain ⟨LB, hLB⟩ : ∃ LB, LB = AO.lp 53 t [47] rc20_0a rc20_0c .busy := ⟨_, rfl⟩
  have hil := (List.getElem?_eq_some_iff.1 hZi).1
  have hSj : (Z.set i LB)[j]? = some (.box (.yl o)) := by rw [List.getElem?_set_ne hij]; exact hZj
  have hSi : (Z.set i LB)[i]? = some LB := List.getElem?_set_self hil
  have hSR : RF R (Z.set i LB) := fun p hp => by rw [List.getElem?_set_ne (fun e => hi p hp e.symm)]; exact hRR p hp
  have hsol := h.sol T _ hSR
  have hxS : YOk (Z.set i LB) x := by
    rcases hx with rfl | ⟨k, l, rfl, hk⟩
    · exact .inl rfl
    · refine .inr ⟨k, l, rfl, ?_⟩
      have : i ≠ k := fun e => by rw [← e, hZi] at hk; cases hk
      rw [List.getElem?_set_ne this]; exact hk
  have hH : (rcA n es q top rw lp T ++ Z)[i + 10]? = some (.lp 53 t [47] rc20_0a rc20_0c .ready) := by rw [rget_at]; exact hZi
  refine HY_of_W hH rcc20_0a rcc20_0c rfl rfl rfl rfl ?_
  dsimp only [rcA, List.cons_append, List.nil_append] at hsol
  simp -implicitDefEqProofs (disch := omega) [-solid, ra20_0a, ra20_0c, ht4, hZi, ← hLB, hSj, hsol, List.getElem?_cons_zero, List.getElem?_cons_succ, wrap_id]
  refine ⟨(List.getElem?_eq_some_iff.1 hZi).2, h.yld T (Z.set i LB) x _ hSR hxS hT fun Y hY => ?_⟩
  have hYi := hY i LB hSi
  subst hLB
  simp -implicitDefEqProofs (disch := omega) [List.getElem?_cons_zero, List.getElem?_cons_succ, wrap_id, hYi]
  have hpre : PreZ Z (Y.set i (.lp 53 t [47] rc20_0a rc20_0c .ready)) := ?_
  · have hk := hK _ hpre
    simpa using hk
  intro k ob hk
  by_cases e : i = k
  · subst e
    rw [hZi] at hk
    rw [List.getElem?_set_self (List.getElem?_eq_some_iff.1 hYi).1]; exact hk
  · rw [List.getElem?_set_ne e]
    exact hY k ob (by rw [List.getElem?_set_ne e]; exact hk)
end
end Go.Proofs.Ytojamfbdlfgedaa
end
section
set_option linter.unusedSimpArgs false
set_option linter.unusedVariables false
namespace Go.Proofs.Ytojamfbdlfgedaa
open Go.Abs Go.Sand
attribute [local simp] ap_0 ap_i
/-- How many recurrent configurations are found from vertex v on. -/
noncomputable def recN (n : Nat) (es : List Ed) (q : Nat) (top : List Int) : Nat → Nat → List Int → Nat
  | 0, _, c => if recB n es q c = true then 1 else 0
  | m + 1, v, c => if recB n es q c = true then sumTo (top.getD v 0 + 1).toNat fun k => recN n es q top m (v + 1) (c.set v (k : Int)) else 0
theorem recurrents_ok (n : Nat) (es : List Ed) (q : Nat) (c : List Int) (v : Int) (top : List Int) : PC Try.prog 13 [pileP n es q c, .i v, .is top] (.fn (.func 20) [] [.ptr 0 1 0 0, .ptr 1 1 0 0, .ptr 2 1 0 0]) [.box (.p (pileP n es q c)), .box (.p (.i v)), .box (.p (.is top))] := by
  refine PC_of_W cfn13 ?_
  simp -implicitDefEqProofs (disch := omega) [c13, List.getElem?_cons_zero, List.getElem?_cons_succ, wrap_id]
  exact fin1 [0, 1, 2] trivial rfl (by rfl) ⟨rfl, rfl⟩
section
variable {n : Nat} {es : List Ed} {q : Nat} {top : List Int} {rw lp : AO}
/-- What stands at a place, whatever comes behind Z. -/
def AtZ (n : Nat) (es : List Ed) (q : Nat) (top : List Int) (rw lp : AO) (Z : List AO) (p : Nat) (x : AO) : Prop := ∀ T Y, PreZ Z Y → (rcA n es q top rw lp T ++ Y)[p]? = some x
theorem AtZ.lit {Z : List AO} {p : Nat} {x : AO} (h : AtZ n es q top rw lp Z p x) (T : List AV) (Y : List AO) (hY : PreZ Z Y) :
    (AO.box (.p (G n es)) :: .box (.p .nil) :: .box (.p (.i 0)) :: rw :: .box (.os 9 0 T.length) :: .box (.p (pileP n es q top)) :: .box (.p (.i 0)) :: .box (.p (.is top)) :: lp :: .tab T 37 false :: Y)[p]? = some x := h T Y hY
theorem AtZ.pre {Z Y : List AO} {p : Nat} {x : AO} (h : AtZ n es q top rw lp Z p x) (hY : PreZ Z Y) : AtZ n es q top rw lp Y p x := fun T W hW => h T W (hY.trans hW)
theorem rec_leaf (hgc : gcheck n es = 0) (hel : es.length ≤ 900) (hn : n ≤ 12) (hq : q < n) {c : List Int} {o : Nat} {R : List (Nat × AO)} {T : List AV} {Z : List AO} {pa pv pt : Nat} {K : AV → List AO → Prop} (hc : CfgOk n es q c) (hY : YG n es q top rw lp o R) (hR : RF R Z)
    (hp : AtZ n es q top rw lp Z pa (.box (.p (pileP n es q c)))) (hv : AtZ n es q top rw lp Z pv (.box (.p (.i n)))) (ht : AtZ n es q top rw lp Z pt (.box (.p (.is top)))) (hT : T.length + recN n es q top 0 n c ≤ 16384)
    (hK : ∀ r T' Y, T'.length = T.length + recN n es q top 0 n c → PreZ Z Y → K r (rcA n es q top rw lp T' ++ Y)) :
    HC Try.prog false 20 [.yl o, .ptr pa 1 0 0, .ptr pv 1 0 0, .ptr pt 1 0 0] (rcA n es q top rw lp T ++ Z) K := by
  have hs0 := hY.sol T Z hR
  have hp1 := hp.lit T _ (PreZ.app Z [.box (.yl o)])
  have hv1 := hv.lit T _ (PreZ.app Z [.box (.yl o)])
  have hrc := recurs_ok n es q c hgc hel hn hq hc
  obtain ⟨b, hb⟩ : ∃ b, b = recB n es q c := ⟨_, rfl⟩
  rw [← hb] at hrc
  have hcl := hc.len
  dsimp only [rcA, List.cons_append, List.nil_append] at hs0
  refine HC_of_W (af := _) ((by exact cfn20 : cfn _ _ _ = some _)) ?_
  simp -implicitDefEqProofs (disch := omega) [-solid, c20, hs0, hp1, hv1, List.getElem?_cons_zero, List.getElem?_cons_succ, wrap_id]
  refine HC_of_PC rfl (hrc) ?_
  cases b
  · have h0 : recN n es q top 0 n c = 0 := by rw [recN, if_neg (by rw [← hb]; simp)]
    simp -implicitDefEqProofs (disch := omega) [List.getElem?_cons_zero, List.getElem?_cons_succ, wrap_id]
    refine finH trivial rfl ?_
    have h := hK (resT []) T (Z ++ [.box (.yl o)]) (by omega) (PreZ.app _ _)
    simpa using h
  have h0 : recN n es q top 0 n c = 1 := by rw [recN, if_pos hb.symm]
  simp -implicitDefEqProofs (disch := omega) [List.getElem?_cons_zero, List.getElem?_cons_succ, wrap_id, hp1, hv1]
  refine HC_of_PC rfl (clone_ok c (by omega)) ?_
  have hs2 := hY.sol T (Z ++ [.box (.yl o), .row (c.map PV.i) 1 3 false]) (hR.pre (PreZ.app _ _))
  dsimp only [rcA, List.cons_append, List.nil_append] at hs2
  simp -implicitDefEqProofs (disch := omega) [-solid, hs2, List.getElem?_cons_zero, List.getElem?_cons_succ, wrap_id]
  refine hY.yld T (Z ++ [.box (.yl o), .row (c.map PV.i) 1 3 false]) _ _ (hR.pre (PreZ.app _ _)) (.inr ⟨Z.length + 1, c.map PV.i, by simp, by simp⟩) (by omega) fun Y hYY => ?_
  simp -implicitDefEqProofs (disch := omega) [List.getElem?_cons_zero, List.getElem?_cons_succ, wrap_id]
  refine finH trivial rfl ?_
  have h := hK (resT []) (T ++ [.os (Z.length + 1 + 10) 0 c.length]) Y (by simp [h0]) ((PreZ.app _ _).trans hYY)
  simpa using h
theorem sumTo_mono (g : Nat → Nat) {k m : Nat} (h : k ≤ m) : sumTo k g ≤ sumTo m g := by
  induction m with
  | zero => obtain rfl : k = 0 := by omega
            exact Nat.le_refl _
  | succ m ih =>
    by_cases e : k = m + 1
    · subst e; exact Nat.le_refl _
    · have := ih (by omega)
      rw [sumTo]; omega
theorem W_eqH {Q : AExit → St → Prop} {t : List (Nat × AV)} {H H' : List AO} (h : H = H') (hQ : Q .normal ⟨t, H'⟩) : Q .normal ⟨t, H⟩ := h ▸ hQ
/-- A configuration with another number of chips. -/
theorem CfgOk.put {c : List Int} (h : CfgOk n es q c) (htop : CfgOk n es q top) {v k : Nat} (hv : v < n) (hk : (k : Int) ≤ top.getD v 0) : CfgOk n es q (c.set v (k : Int)) := by
  have hl := h.len
  refine ⟨by simp [hl], fun u hu huq => ?_, ?_⟩
  · by_cases e : v = u
    · subst e
      have := (htop.at_ v hv huq).2
      simp [hl, hv]; omega
    · have := h.at_ u hu huq
      simpa [List.getElem?_set, e] using this
  · by_cases e : v = q
    · subst e
      rw [htop.sink] at hk
      simp [hl, hv]; omega
    · have := h.sink
      simpa [List.getElem?_set, e] using this
theorem tree_any {P : Program} {m0 : Nat} {t : AT} {Q : AExit → St → Prop} {s : St} (I : St → Prop) (h : Wtree P t (fun s1 => ∃ s2, Wk m0 s1 s2 ∧ I s2) s) (hQ : ∀ s, I s → Q .normal s) : W P m0 (.tree t) Q s :=
  Wtree_mono (t := t) (fun _ ⟨s2, h1, h2⟩ => ⟨s2, h1, hQ s2 h2⟩) h
/-- What stands behind the next pile. -/
def RcT (n : Nat) (es : List Ed) (q : Nat) (top : List Int) (rw lp : AO) (c : List Int) (T' : List AV) (Y : List AO) (pa pv pt b : Nat) (N : Int) (k : Nat) (s : St) : Prop :=
  ∃ (X : List AO) (jr jb : Nat), PreZ Y X ∧ (Y[jr]? = none ∧ Y[jb]? = none) ∧ X[jr]? = some (.row (c.map PV.i) 1 3 false) ∧ X[jb]? = some (.box (.agg [.p (.i n), .p (.sl (es.map edP)), .p (.i q), .os (jr + 10) 0 n])) ∧
    s = ⟨[(6, .ptr (jb + 10) 1 0 0), (5, .i k), (26, .i k), (25, .i N), (4, .ptr b 1 0 0), (1, .ptr pa 1 0 0), (2, .ptr pv 1 0 0), (3, .ptr pt 1 0 0)], rcA n es q top rw lp T' ++ X⟩
/-- What stands at the head of a round. -/
def RcS (n : Nat) (es : List Ed) (q : Nat) (top : List Int) (rw lp : AO) (m v : Nat) (c : List Int) (T : List AV) (Z1 : List AO) (pa pv pt b : Nat) (N : Int) (k : Nat) (s : St) : Prop :=
  ∃ (T' : List AV) (Y : List AO), T'.length = T.length + sumTo k (fun k => recN n es q top m (v + 1) (c.set v (k : Int))) ∧ PreZ Z1 Y ∧
    s = ⟨[(26, .i k), (25, .i N), (4, .ptr b 1 0 0), (1, .ptr pa 1 0 0), (2, .ptr pv 1 0 0), (3, .ptr pt 1 0 0)], rcA n es q top rw lp T' ++ Y⟩
set_option maxRecDepth 20000 in
theorem rec_hc (hgc : gcheck n es = 0) (hel : es.length ≤ 900) (hn : n ≤ 12) (hq : q < n) (htop : CfgOk n es q top) : ∀ (m v : Nat) (c : List Int) (o : Nat) (R : List (Nat × AO)) (T : List AV) (Z : List AO) (pa pv pt : Nat) (K : AV → List AO → Prop), v + m = n → CfgOk n es q c → YG n es q top rw lp o R → RF R Z →
    AtZ n es q top rw lp Z pa (.box (.p (pileP n es q c))) → AtZ n es q top rw lp Z pv (.box (.p (.i v))) → AtZ n es q top rw lp Z pt (.box (.p (.is top))) → T.length + recN n es q top m v c ≤ 16384 →
    (∀ r T' Y, T'.length = T.length + recN n es q top m v c → PreZ Z Y → K r (rcA n es q top rw lp T' ++ Y)) →
    HC Try.prog false 20 [.yl o, .ptr pa 1 0 0, .ptr pv 1 0 0, .ptr pt 1 0 0] (rcA n es q top rw lp T ++ Z) K := by
  intro m
  induction m with
  | zero =>
    intro v c o R T Z pa pv pt K hvn hc hY hR hp hv ht hT hK
    obtain rfl : v = n := by omega
    exact rec_leaf hgc hel hn hq hc hY hR hp hv ht hT hK
  | succ m ih =>
    intro v c o R T Z pa pv pt K hvn hc hY hR hp hv ht hT hK
    have hs0 := hY.sol T Z hR
    have hp1 := hp.lit T _ (PreZ.app Z [.box (.yl o)])
    have hv1 := hv.lit T _ (PreZ.app Z [.box (.yl o)])
    have ht1 := ht.lit T _ (PreZ.app Z [.box (.yl o)])
    have hrc := recurs_ok n es q c hgc hel hn hq hc
    obtain ⟨b, hb⟩ : ∃ b, b = recB n es q c := ⟨_, rfl⟩
    rw [← hb] at hrc
    have hcl := hc.len
    have htl := htop.len
    have hvlt : v < n := by omega
    have hvt : v < top.length := by omega
    have hvn' : ((v : Int) = (n : Int)) = False := eq_false (by omega)
    have hv0 : ¬ (v : Int) < 0 := by omega
    have htb := htop.bd (gcheck_ok hgc).right hel v hvlt
    rw [getD_get hvt] at htb
    dsimp only [rcA, List.cons_append, List.nil_append] at hs0
    refine HC_of_W (af := _) ((by exact cfn20 : cfn _ _ _ = some _)) ?_
    simp -implicitDefEqProofs (disch := omega) [-solid, c20, hs0, hp1, hv1, List.getElem?_cons_zero, List.getElem?_cons_succ, wrap_id]
    refine HC_of_PC rfl (hrc) ?_
    cases b
    · have h0 : recN n es q top (m + 1) v c = 0 := by rw [recN, if_neg (by rw [← hb]; simp)]
      simp -implicitDefEqProofs (disch := omega) [List.getElem?_cons_zero, List.getElem?_cons_succ, wrap_id]
      refine finH trivial rfl ?_
      have h := hK (resT []) T (Z ++ [.box (.yl o)]) (by omega) (PreZ.app _ _)
      simpa using h
    have h0 : recN n es q top (m + 1) v c = sumTo (top.getD v 0 + 1).toNat fun k => recN n es q top m (v + 1) (c.set v (k : Int)) := by rw [recN, if_pos hb.symm]
    rw [h0] at hT hK
    rw [getD_get hvt] at hT hK
    simp -implicitDefEqProofs (disch := omega) [List.getElem?_cons_zero, List.getElem?_cons_succ, wrap_id, hp1, hv1, ht1, hvn', hvt, hv0]
    obtain ⟨N, hN⟩ : ∃ N, N = (top[v] + 1).toNat := ⟨_, rfl⟩
    have hNi : top[v] + 1 = (N : Int) := by omega
    rw [← hN] at hT hK
    rw [hNi]
    refine loopW N (RcS n es q top rw lp m v c T (Z ++ [.box (.yl o)]) pa pv pt (Z.length + 10) N) (Wk_keep [26, 25, 4, 1, 2, 3]) ⟨T, Z ++ [.box (.yl o)], by simp [sumTo], PreZ.refl _, rfl⟩ ?_
    rintro k s hk ⟨T', Y, hT', hYp, rfl⟩
    have hZY : PreZ Z Y := (PreZ.app _ _).trans hYp
    have hp2 := hp.lit T' Y hZY
    have hv2 := hv.lit T' Y hZY
    have ht2 := ht.lit T' Y hZY
    by_cases hlt : k < N
    rotate_left
    · have hkN : k = N := by omega
      subst hkN
      simp -implicitDefEqProofs (disch := omega) [List.getElem?_cons_zero, List.getElem?_cons_succ, wrap_id, hlt]
      refine finH trivial rfl ?_
      exact hK (resT []) T' Y hT' hZY
    have hki : (k : Int) < (N : Int) := by omega
    simp -implicitDefEqProofs (disch := omega) [List.getElem?_cons_zero, List.getElem?_cons_succ, wrap_id, hlt, hki]
    refine tree_any (RcT n es q top rw lp c T' Y pa pv pt (Z.length + 10) N k) ?_ ?_
    · simp -implicitDefEqProofs (disch := omega) [List.getElem?_cons_zero, List.getElem?_cons_succ, wrap_id, hp2]
      refine ⟨?_, ?_⟩
      · refine HC_of_PC rfl (clone_ok c (by omega)) ?_
        simp -implicitDefEqProofs (disch := omega) [List.getElem?_cons_zero, List.getElem?_cons_succ, wrap_id]
        exact ⟨_, Wk_keep [6, 5, 26, 25, 4, 1, 2, 3], Y ++ [.row (c.map PV.i) 1 3 false, .box (.agg [.p (.i n), .p (.sl (es.map edP)), .p (.i q), .os (Y.length + 10) 0 c.length])], Y.length, Y.length + 1, PreZ.app _ _, ⟨by simp, by simp⟩, by simp, by simp [hcl], rfl⟩
      · refine HC_of_PC rfl (clone_ok c (by omega)) ?_
        simp -implicitDefEqProofs (disch := omega) [List.getElem?_cons_zero, List.getElem?_cons_succ, wrap_id]
        exact ⟨_, Wk_keep [6, 5, 26, 25, 4, 1, 2, 3], Y ++ [.box (.agg [.p (.i n), .p (.sl (es.map edP)), .p (.i q), .os (Y.length + 1 + 10) 0 c.length]), .row (c.map PV.i) 1 3 false], Y.length + 1, Y.length, PreZ.app _ _, ⟨by simp, by simp⟩, by simp, by simp [hcl], rfl⟩
    · rintro s ⟨X, jr, jb, hX, ⟨hjr, hjb⟩, hXr, hXb, rfl⟩
      obtain ⟨c2, hc2⟩ : ∃ c2, c2 = c.set v (k : Int) := ⟨_, rfl⟩
      have hkt : (k : Int) ≤ top.getD v 0 := by rw [getD_get hvt]; omega
      have hcc : CfgOk n es q c2 := by rw [hc2]; exact hc.put htop hvlt hkt
      have hc2l := hcc.len
      have hms : (c.map PV.i).set v (PV.v (Value.int IntKind.i64 (k : Int))) = c2.map PV.i := by rw [hc2, List.map_set]
      have hrb : jr ≠ jb := fun e => by rw [e, hXb] at hXr; cases hXr
      have hrl := (List.getElem?_eq_some_iff.1 hXr).1
      have hpre : PreZ Y (X.set jr (.row (c2.map PV.i) 1 3 false)) := hX.set hjr _
      have hS1 : (X.set jr (.row (c2.map PV.i) 1 3 false))[jb]? = some (.box (.agg [.p (.i n), .p (.sl (es.map edP)), .p (.i q), .os (jr + 10) 0 n])) := by rw [List.getElem?_set_ne hrb]; exact hXb
      have hS2 : (X.set jr (.row (c2.map PV.i) 1 3 false))[jr]? = some (.row (c2.map PV.i) 1 3 false) := List.getElem?_set_self hrl
      have hv3 := hv.lit T' _ (hZY.trans hpre)
      have hv2' := hv.lit T' _ (hZY.trans hX)
      have ht3 := ht.lit T' _ (hZY.trans hpre)
      clear hrl
      simp -implicitDefEqProofs (disch := omega) [List.getElem?_cons_zero, List.getElem?_cons_succ, wrap_id, hXb, hXr, hcl, hv2', hvlt, hms, hv3, ht3, hS1]
      refine HC_of_PC (ps := [pileP n es q c2, .i ((v : Int) + 1), .is top]) (by simp [views, view, viewL, viewC, ownEls, hS2, hc2l]) (recurrents_ok n es q c2 ((v : Int) + 1) top) ?_
      simp -implicitDefEqProofs (disch := omega) [List.getElem?_cons_zero, List.getElem?_cons_succ, wrap_id, hS2]
      refine ⟨by kernel_rfl, ?_⟩
      have hZl : Z.length < X.length := (List.getElem?_eq_some_iff.1 ((hYp.trans hX) Z.length (.box (.yl o)) (by simp))).1
      have hYX : ∀ j, X.length ≤ j → Y[j]? = none := fun j hj => by
        cases e : Y[j]? with
        | none => rfl
        | some ob => have := (List.getElem?_eq_some_iff.1 (hX j ob e)).1; omega
      obtain ⟨X2, hX2⟩ : ∃ X2, X2 = X.set jr (.row (c2.map PV.i) 1 3 true) := ⟨_, rfl⟩
      have hX2l : X2.length = X.length := by rw [hX2]; simp
      have hYX2 : PreZ Y X2 := by rw [hX2]; exact hX.set hjr _
      rw [← hX2, ← hX2l]
      rw [← hX2l] at hZl hYX
      have e1 : 1 + (X2.length + 1 + 1 + 1 + 1 + 1 + 1 + 1 + 1 + 1 + 1) = X2.length + 1 + 10 := by omega
      have e2 : 2 + (X2.length + 1 + 1 + 1 + 1 + 1 + 1 + 1 + 1 + 1 + 1) = X2.length + 2 + 10 := by omega
      rw [e1, e2]
      have hsum : sumTo (k + 1) (fun k => recN n es q top m (v + 1) (c.set v (k : Int))) = sumTo k (fun k => recN n es q top m (v + 1) (c.set v (k : Int))) + recN n es q top m (v + 1) c2 := by rw [sumTo, hc2]
      have hmono := sumTo_mono (fun k => recN n es q top m (v + 1) (c.set v (k : Int))) (k := k + 1) (m := N) (by omega)
      have key : ∀ (t : List (Nat × AV)), Abs.get t 4 = .ptr (Z.length + 10) 1 0 0 → ∀ KK : AV → List AO → Prop,
          (∀ r T'' Y3, T''.length = T'.length + recN n es q top m (v + 1) c2 → PreZ (X2 ++ [.box (.p (pileP n es q c2)), .box (.p (.i ((v : Int) + 1))), .box (.p (.is top)), .lp 53 t [47] rc20_0a rc20_0c .ready]) Y3 → KK r (rcA n es q top rw lp T'' ++ Y3)) →
          HC Try.prog false 20 [.yl (X2.length + 3 + 10), .ptr (X2.length + 10) 1 0 0, .ptr (X2.length + 1 + 10) 1 0 0, .ptr (X2.length + 2 + 10) 1 0 0]
            (rcA n es q top rw lp T' ++ (X2 ++ [.box (.p (pileP n es q c2)), .box (.p (.i ((v : Int) + 1))), .box (.p (.is top)), .lp 53 t [47] rc20_0a rc20_0c .ready])) KK := by
        intro t ht4 KK hKK
        have hYGi := yg_in (t := t) hY (i := X2.length + 3) (j := Z.length) (by omega) (fun p hp e => by
          have := (List.getElem?_eq_some_iff.1 (hR p hp)).1; omega) ht4
        refine ih (v + 1) c2 (X2.length + 3 + 10) _ T' _ (X2.length + 10) (X2.length + 1 + 10) (X2.length + 2 + 10) KK (by omega) hcc hYGi ?_ ?_ ?_ ?_ (by omega) hKK
        · intro p hp
          rcases List.mem_cons.1 hp with rfl | hp
          · simp
          rcases List.mem_cons.1 hp with rfl | hp
          · exact PreZ.app X2 _ _ _ ((hYp.trans hYX2) _ _ (by simp))
          · exact PreZ.app X2 _ _ _ (((PreZ.app Z _).trans (hYp.trans hYX2)) _ _ (hR p hp))
        · intro T3 Y3 h3
          rw [rget_at]
          exact h3 _ _ (by simp)
        · intro T3 Y3 h3
          rw [rget_at]
          exact h3 _ _ (by simp)
        · intro T3 Y3 h3
          rw [rget_at]
          exact h3 _ _ (by simp)
      refine key _ rfl _ fun r T2 Y3 h1 h2 => ?_
      have hi3 : ∀ a b c d : AO, (X2 ++ [a, b, c, d])[X2.length + 3]? = some d := fun a b c d => by simp
      have hl3 := (rget_at (n := n) (es := es) (q := q) (top := top) (rw := rw) lp T2 (Z := Y3) (X2.length + 3)).trans (h2 (X2.length + 3) _ (hi3 _ _ _ _))
      refine AfterR_ready hl3 ?_
      have hset := fun x => rset_at (n := n) (es := es) (q := q) (top := top) (rw := rw) lp T2 (Z := Y3) (X2.length + 3) x
      have hpre3 : PreZ (Z ++ [.box (.yl o)]) Y3 := (hYp.trans hYX2).trans ((PreZ.app _ _).trans h2)
      have hnone : (Z ++ [AO.box (.yl o)])[X2.length + 3]? = none := by simp; omega
      refine W_eqH (hset _) ?_
      simp -implicitDefEqProofs (disch := omega) [List.getElem?_cons_zero, List.getElem?_cons_succ, wrap_id]
      refine round_keep [26, 25, 4, 1, 2, 3] hlt ⟨T2, Y3.set (X2.length + 3) _, by rw [hsum]; omega, hpre3.set hnone _, rfl⟩
end
end Go.Proofs.Ytojamfbdlfgedaa
end
section
set_option linter.unusedSimpArgs false
set_option linter.unusedVariables false
namespace Go.Proofs.Ytojamfbdlfgedaa
open Go.Abs Go.Sand
attribute [local simp] ap_0 ap_i
/-- The greatest stable configuration. -/
structure TopOk (n : Nat) (es : List Ed) (q : Nat) (top : List Int) : Prop where
  cfg : CfgOk n es q top
  at_ : ∀ v, v < n → v ≠ q → top.getD v 0 = valS es v - 1
theorem slk_put {n : Nat} {es : List Ed} {q : Nat} {top c : List Int} (ht : TopOk n es q top) (hc : CfgOk n es q c) {v k : Nat} (hv : v < n) (hk : k < (top.getD v 0 + 1).toNat) : slk es q (c.set v (k : Int)) = upd1 (slk es q c) v ((top.getD v 0 + 1).toNat - 1 - k) := by
  have hl := hc.len
  funext u
  unfold slk upd1
  by_cases e : u = v
  · subst e
    rw [if_pos rfl]
    by_cases eq : u = q
    · subst eq
      have := ht.cfg.sink
      rw [if_pos rfl]; omega
    · have := ht.at_ u hv eq
      rw [if_neg eq]
      have e1 : (c.set u (k : Int)).getD u 0 = k := by simp [hl, hv]
      rw [e1]; omega
  · rw [if_neg e]
    have e1 : (c.set v (k : Int)).getD u 0 = c.getD u 0 := by simp [List.getElem?_set, Ne.symm e]
    rw [e1]
theorem recN_box {n : Nat} {es : List Ed} {q : Nat} {top : List Int} (ht : TopOk n es q top) : ∀ (m v : Nat) (c : List Int), v + m = n → CfgOk n es q c → (∀ u, v ≤ u → u < n → c.getD u 0 = top.getD u 0) →
    recN n es q top m v c = boxU (fun u => (top.getD u 0 + 1).toNat) (goodN n (oneB q) (natE (endsL es))) m v (slk es q c)
  | 0, v, c, hv, hc, hct => by
    rw [recN, boxU]
    by_cases h : recB n es q c = true
    · rw [if_pos h, goodN_pos (recB_iff.1 h)]
    · rw [if_neg h, goodN_neg fun hg => h (recB_iff.2 hg)]
  | m + 1, v, c, hv, hc, hct => by
    rw [recN]
    by_cases h : recB n es q c = true
    · rw [if_pos h, boxU, ← sumTo_rev]
      refine sumTo_congr fun k hk => ?_
      have hkt : ((top.getD v 0 + 1).toNat - 1 - k) < (top.getD v 0 + 1).toNat := by omega
      rw [recN_box ht m (v + 1) _ (by omega) (hc.put ht.cfg (by omega) (by omega)) fun u h1 h2 => ?_, slk_put ht hc (by omega) hkt]
      · congr 2
        omega
      · have : v ≠ u := by omega
        have e1 : (c.set v (((top.getD v 0 + 1).toNat - 1 - k : Nat) : Int)).getD u 0 = c.getD u 0 := by simp [List.getElem?_set, this]
        rw [e1]; exact hct u (by omega) h2
    · rw [if_neg h]
      refine (boxU_zero (fun g => ∀ u, u < n → slk es q c u ≤ g u) (fun g hg => goodN_neg fun hgd => h (recB_iff.2 (hgd.less hg))) (m + 1) v _ (fun u k g hu hg w hw => ?_) fun u _ => Nat.le_refl _).symm
      unfold upd1
      by_cases e : w = u
      · rw [if_pos e]
        have h1 := hct w (by omega) hw
        unfold slk
        by_cases eq : w = q
        · rw [if_pos eq]; exact Nat.zero_le _
        · have := ht.at_ w hw eq
          rw [if_neg eq]; omega
      · rw [if_neg e]; exact hg w hw
theorem valS_out {n : Nat} {es : List Ed} (hr : ∀ x ∈ es, Right n x) {u : Nat} (hu : n ≤ u) : valS es u = 0 := by
  induction es with
  | nil => rfl
  | cons x es ih =>
    have h := hr x (by simp)
    have h2 := h.an
    have h4 := h.bn
    rw [show valS (x :: es) u = val1 u x + valS es u from rfl, ih fun y hy => hr y (by simp [hy])]
    unfold val1
    rw [if_neg (by omega)]; rfl
/-- AS MANY RECURRENT CONFIGURATIONS AS TREES. -/
theorem rec_trees {n : Nat} {es : List Ed} (hr : ∀ x ∈ es, Right n x) {q : Nat} (hq : q < n) {top : List Int} (ht : TopOk n es q top) : recN n es q top n 0 top = trN n id (natE (endsL es)) := by
  rw [recN_box ht n 0 top (by omega) ht.cfg fun u _ _ => rfl]
  have e0 : slk es q top = fun _ => 0 := by
    funext u
    unfold slk
    by_cases e : u = q
    · rw [if_pos e]
    · rw [if_neg e]
      by_cases hu : u < n
      · have := ht.at_ u hu e; omega
      · have h1 := valS_out hr (u := u) (by omega)
        have h2 : top.getD u 0 = 0 := by rw [List.getD_eq_getElem?_getD, List.getElem?_eq_none (by rw [ht.cfg.len]; omega)]; rfl
        omega
  have e1 : fireC (oneB q) q = id := by
    funext u
    unfold fireC oneB
    by_cases e : u = q <;> simp [e]
  rw [e0, ← e1]
  have hnn : ∀ u, 0 ≤ top.getD u 0 := fun u => by
    by_cases hu : u < n
    · by_cases e : u = q
      · rw [e, ht.cfg.sink]; exact Int.le_refl 0
      · exact (ht.cfg.at_ u hu e).1
    · rw [List.getD_eq_getElem?_getD, List.getElem?_eq_none (by rw [ht.cfg.len]; omega)]; exact Int.le_refl 0
  refine good_trees (fun v => by have := hnn v; omega) _ _ _ _ rfl hq (by simp [oneB]) (natE_lt hr) fun v hv hB => ?_
  have hvq : v ≠ q := by simpa [oneB] using hB
  have h1 := val_outD hr v
  have h2 := ht.at_ v hv hvq
  have h3 := hnn v
  omega
end Go.Proofs.Ytojamfbdlfgedaa
end
