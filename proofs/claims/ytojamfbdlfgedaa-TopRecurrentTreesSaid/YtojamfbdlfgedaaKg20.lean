/-
  Texts joined: Dm Dn Do Mza Zc Zd Zf.
-/
import Derived.Test.YtojamfbdlfgedaaKg19

section
set_option linter.unusedSimpArgs false
set_option linter.unusedVariables false
namespace Go.Proofs.Ytojamfbdlfgedaa
open Go.Abs Go.Sand
attribute [local simp] ap_0 ap_i
theorem wk_dag40 {P : Program} {m0 : Nat} {tab : List ADN} {Q : AExit → St → Prop} {s s' : St} (hw : Wk m0 s s') (h : W P m0 (.dag tab) Q s') : W P m0 (.dag tab) Q s := by
  obtain ⟨I, ⟨s2, h1, h2⟩, h3⟩ := h
  exact ⟨I, ⟨s2, hw.trans h1, h2⟩, h3⟩
theorem natE_drop (L : List (Int × Int)) {k : Nat} (h : k < L.length) {a b : Nat} (hx : L[k] = ((a : Int), (b : Int))) : natE (L.drop k) = (a, b) :: natE (L.drop (k + 1)) := by
  rw [List.drop_eq_getElem_cons h, natE, List.map_cons, hx]; rfl
theorem EIn.drop {n : Nat} {L : List (Int × Int)} (h : EIn n L) (k : Nat) : EIn n (L.drop k) := fun x hx => h x (List.mem_of_mem_drop hx)
theorem dag_lit {m0 : Nat} {Q : AExit → St → Prop} {s : St} (h : W Try.prog m0 (.dag grD) Q s) : W Try.prog m0 (.dag [grD0, grD1, grD2, grD3, grD4, grD5, grD6, grD7, grD8, grD9, grD10, grD11, grD12, grD13, grD14, grD15, grD16, grD17, grD18, grD19, grD20, grD21, grD22, grD23, grD24, grD25]) Q s := by
  rw [← grD_eq]; exact h
section
variable {n : Nat} {es : List Ed} {L : List (Int × Int)} {t : List (Nat × AV)}
/-- What stands at the head of the loop. -/
def GrI (n : Nat) (es : List Ed) (L : List (Int × Int)) (lp : AO) (c : Nat → Nat) (y : AV) (xs : List Int) (e : Nat) (T : List AV) (Z1 : List AO) (fb : Nat) (k : Nat) (s : St) : Prop :=
  ∃ (T' : List AV) (Z' : List AO), T'.length + trN n c (natE (L.drop (e + k))) = T.length + trN n c (natE (L.drop e)) ∧ FrT y xs Z1 Z' ∧ e + k ≤ L.length ∧
    s = ⟨[(11, .i ((e + k : Nat) : Int)), (9, .ptr fb 1 0 0), (0, y), (3, .ptr 4 1 0 0), (4, .ptr 8 1 0 0), (5, .ptr 5 1 0 0), (6, .ptr 9 1 0 0)], trA n es L lp T' ++ Z'⟩
set_option maxRecDepth 20000 in
theorem grow_hc (hn1 : 1 ≤ n) (hn : n ≤ 12) (hL : EIn n L) (hLl : L.length ≤ 1000) (ht6 : Abs.get t 6 = .ptr 3 1 0 0) : ∀ (m : Nat) (xs : List Int) (y : AV) (e : Nat) (F : List Int) (c : Nat → Nat) (T : List AV) (Z : List AO) (K : AV → List AO → Prop),
    xs.length + m + 1 = n → TF F c → Inn n c → rcnt c n + xs.length = n → TOk Z y xs → e ≤ L.length → T.length + trN n c (natE (L.drop e)) ≤ 16384 →
    (∀ T' Z', T'.length = T.length + trN n c (natE (L.drop e)) → FrT y xs Z Z' → K (.b true) (trA n es L (.lp 29 t [20] rc14_0a rc14_0c .ready) T' ++ Z')) →
    HC Try.prog false 36 [y, .i e, .p (.agg (F.map PV.i)), .ptr 4 1 0 0, .ptr 8 1 0 0, .ptr 5 1 0 0, .ptr 9 1 0 0] (trA n es L (.lp 29 t [20] rc14_0a rc14_0c .ready) T ++ Z) K := by
  have hn0 : 0 < n := by omega
  intro m
  induction m with
  | zero =>
    intro xs y e F c T Z K hx hF hi hr hT he hTl hK
    have hone : oneCl n c = true := (rcnt_one hi hn0).1 (by omega)
    have h1 : trN n c (natE (L.drop e)) = 1 := trN_one hone (hL.drop e).nat
    rw [h1] at hTl hK
    exact grow_leaf hn1 hn ht6 hLl (by omega) hF.len hT (by omega) hK
  | succ m ih =>
    intro xs y e F c T Z K hx hF hi hr hT he hTl hK
    have hT0 := hT
    obtain ⟨o, cap, rfl, -⟩ := hT
    obtain ⟨lp, hlp⟩ : ∃ lp, lp = AO.lp 29 t [20] rc14_0a rc14_0c .ready := ⟨_, rfl⟩
    have hlen := TOk.lenA n es L lp T hT0
    rw [← hlp] at hK ih ⊢
    dsimp only [trA, List.cons_append, List.nil_append] at hlen
    have hxn : ((xs.length : Int) = (n : Int) - 1) = False := eq_false (by omega)
    have hnone : oneCl n c = false := by
      cases h : oneCl n c
      · rfl
      · have := (rcnt_one hi hn0).2 h; omega
    have hFl := hF.len
    have hcat : ∀ X : List AO, AO.box (.p (G n es)) :: .box (.p .nil) :: .box (.p (.i 0)) :: .box (.os 7 0 T.length) :: .box (.p (.i n)) :: .box (.p (.ps L)) :: lp :: .tab T 36 false :: .box (.yl 6) :: .box (.fn (.func 36) [] [.ptr 4 1 0 0, .ptr 8 1 0 0, .ptr 5 1 0 0, .ptr 9 1 0 0]) :: X = trA n es L lp T ++ X := fun X => rfl
    refine HC_of_W (af := _) ((by exact cfn36 : cfn _ _ _ = some _)) ?_
    simp -implicitDefEqProofs (disch := omega) [c36, List.getElem?_cons_zero, List.getElem?_cons_succ, wrap_id, -lenA, hlen, hFl, hxn]
    rw [hcat]
    refine loopW (L.length - e) (GrI n es L lp c (.bc o xs.length cap) xs e T (Z ++ [boxF F]) (Z.length + 10)) (Wk_keep [11, 9, 0, 3, 4, 5, 6]) ⟨T, Z ++ [boxF F], rfl, FrT.refl _ _ _, he, rfl⟩ ?_
    rintro k s hk ⟨T', Z', hTe, hfr, hke, rfl⟩
    have hfb : Z'[Z.length]? = some (boxF F) := by
      refine hfr.keep (i := Z.length) (by simp) fun l c' e' => ?_
      obtain ⟨o', cap', he', hh⟩ := hT0
      injection he' with e1 e2 e3
      injection e' with f1 f2 f3
      rcases hh with ⟨_, _, h0⟩ | ⟨_, j, rest, h2, h3, _⟩
      · omega
      · have := (List.getElem?_eq_some_iff.1 h3).1; omega
    have hfb1 : ∀ X : List AO, (Z' ++ X)[Z.length]? = some (boxF F) := fun X => by rw [List.getElem?_append_left (List.getElem?_eq_some_iff.1 hfb).1]; exact hfb
    obtain ⟨e', he'⟩ : ∃ e', e' = e + k := ⟨_, rfl⟩
    rw [← he'] at hTe hke ⊢
    by_cases hlt : e' < L.length
    rotate_left
    · have hee : e' = L.length := by omega
      have h0 : trN n c (natE (L.drop e')) = 0 := by
        refine trN_out hn0 ?_
        rw [List.drop_eq_nil_of_le (by omega)]
        exact hnone
      have h1 : ¬ (e' : Int) < L.length := by omega
      simp -implicitDefEqProofs (disch := omega) [List.getElem?_cons_zero, List.getElem?_cons_succ, wrap_id, h1, hlt]
      refine finH trivial rfl ?_
      have := hK T' Z' (by omega) ((FrT.app (.bc o xs.length cap) xs Z [boxF F]).trans hfr)
      exact this
    obtain ⟨a, b, hab, ha, hb⟩ := hL.at hlt
    have h1 : (e' : Int) < L.length := by omega
    have h2 : (0 : Int) ≤ (e' : Int) := by omega
    have hdl : (L.drop e').length ≤ 100000 := by rw [List.length_drop]; omega
    have hpd : List.take (L.length - e') (List.drop e' (List.map pP L)) = (L.drop e').map pP := by
      rw [List.take_of_length_le (by simp), List.map_drop]
    have hco := connects_ok hn1 hn hF hi (L.drop e') (hL.drop e') hdl
    obtain ⟨bc, hbc⟩ : ∃ bc, bc = oneCl n (mrgA c (natE (L.drop e'))) := ⟨_, rfl⟩
    rw [← hbc] at hco
    simp -implicitDefEqProofs (disch := omega) [List.getElem?_cons_zero, List.getElem?_cons_succ, wrap_id, h1, h2, hlt, hfb, hFl, hke, hpd]
    rw [← List.map_drop]
    refine HC_of_PC rfl (hco) ?_
    cases bc
    · have h0 : trN n c (natE (L.drop e')) = 0 := trN_out hn0 hbc.symm
      simp -implicitDefEqProofs (disch := omega) [List.getElem?_cons_zero, List.getElem?_cons_succ, wrap_id]
      refine finH trivial rfl ?_
      have := hK T' Z' (by omega) ((FrT.app (.bc o xs.length cap) xs Z [boxF F]).trans hfr)
      exact this
    simp -implicitDefEqProofs (disch := omega) [List.getElem?_cons_zero, List.getElem?_cons_succ, wrap_id, hfb, hfb1, hFl]
    have hw : ∀ T0 : List (Nat × AV), Wk (Z.length + 10) ⟨(12, .ptr (Z'.length + 10) 1 0 0) :: T0, trA n es L lp T' ++ (Z' ++ [boxF F])⟩ ⟨[11, 9, 0, 3, 4, 5, 6, 12].map fun i => (i, Abs.get ((12, .ptr (Z'.length + 10) 1 0 0) :: T0) i), trA n es L lp T' ++ (Z' ++ [boxF F])⟩ := fun T0 => Wk_keep _
    have hTk' : TOk Z' (.bc o xs.length cap) xs := by
      refine hfr.tok ?_
      exact (FrT.app _ _ Z [boxF F]).tok hT0
    have hde := natE_drop L hlt hab
    refine wk_dag40 (s' := grS0 n es L lp T' (Z.length + 10) Z'.length (.bc o xs.length cap) e' (Z' ++ [boxF F])) (Wk_keep [11, 9, 0, 3, 4, 5, 6, 12]) (dag_lit ?_)
    by_cases hcab : c a = c b
    · refine gf_dag n es L lp T' (Z.length + 10) Z'.length (.bc o xs.length cap) xs e' (F.set (c a) ((c b : Nat) : Int)) _ Z' (Z' ++ [boxF F]) hF (by omega) (by omega) rfl rfl rfl hTk' hlt rfl hab hcab fun ZJ hJ => ?_
      have hcnt : trN n c (natE (L.drop e')) = trN n c (natE (L.drop (e' + 1))) := by rw [hde, trN, if_pos hcab, Nat.add_zero]
      simp -implicitDefEqProofs (disch := omega) [List.getElem?_cons_zero, List.getElem?_cons_succ, wrap_id]
      refine round_keep [11, 9, 0, 3, 4, 5, 6] (by omega) ⟨T', ZJ, ?_, hfr.trans hJ, by omega, ?_⟩
      · rw [show e + (k + 1) = e' + 1 by omega, ← hcnt]; exact hTe
      · rw [show e + (k + 1) = e' + 1 by omega]; rfl
    · have hcnt : trN n c (natE (L.drop e')) = trN n c (natE (L.drop (e' + 1))) + trN n (mrg c a b) (natE (L.drop (e' + 1))) := by rw [hde, trN, if_neg hcab]
      refine gr_dag n es L lp T' (Z.length + 10) Z'.length (.bc o xs.length cap) xs e' (F.set (c a) ((c b : Nat) : Int)) _ Z' (Z' ++ [boxF F]) (trN n (mrg c a b) (natE (L.drop (e' + 1)))) (by omega) (by omega) (by rw [List.length_set]; exact hFl) ?_ hF (by omega) (by omega) rfl rfl rfl hTk' hlt rfl hab hcab fun T2 Z3 h3 h4 => ?_
      · intro ZJ y2 Z2 hJ hO KK hKK
        have hr2 := rcnt_join hi.2 hcab n
        rw [if_pos (hi.1 a ha)] at hr2
        have hl2 : (xs ++ [(e' : Int)]).length = xs.length + 1 := by simp
        refine ih (xs ++ [(e' : Int)]) y2 (e' + 1) _ (mrg c a b) T' Z2 KK (by omega) (hF.join (by omega) (by omega)) (hi.mrg hb) (by omega) hO.1 (by omega) (by omega) fun T3 Z3 h3 h4 => ?_
        exact hKK T3 Z3 h3 (hJ.2.2.trans (hO.2.2 Z3 h4))
      · simp -implicitDefEqProofs (disch := omega) [List.getElem?_cons_zero, List.getElem?_cons_succ, wrap_id]
        refine round_keep [11, 9, 0, 3, 4, 5, 6] (by omega) ⟨T2, Z3, ?_, hfr.trans h4, by omega, ?_⟩
        · rw [show e + (k + 1) = e' + 1 by omega]; omega
        · rw [show e + (k + 1) = e' + 1 by omega]; rfl
end
end Go.Proofs.Ytojamfbdlfgedaa
end
section
set_option linter.unusedSimpArgs false
set_option linter.unusedVariables false
namespace Go.Proofs.Ytojamfbdlfgedaa
open Go.Abs Go.Sand
attribute [local simp] ap_0 ap_i
theorem trees_ok (n : Nat) (L : List (Int × Int)) : PC Try.prog 23 [.i n, .ps L] (.fn (.func 35) [] [.ptr 0 1 0 0, .ptr 1 1 0 0]) [.box (.p (.i n)), .box (.p (.ps L))] := by
  refine PC_of_W cfn23 ?_
  simp -implicitDefEqProofs (disch := omega) [c23, List.getElem?_cons_zero, List.getElem?_cons_succ, wrap_id]
  exact fin1 [0, 1] trivial rfl (by rfl) ⟨rfl, rfl⟩
section
variable {n : Nat} {es : List Ed} {L : List (Int × Int)} {t : List (Nat × AV)}
theorem trees1_hc (hn1 : 1 ≤ n) (hn : n ≤ 12) (hL : EIn n L) (hLl : L.length ≤ 1000) (ht6 : Abs.get t 6 = .ptr 3 1 0 0) (hcnt : trN n id (natE L) ≤ 16384) {K : AV → List AO → Prop}
    (hK : ∀ r T' Z', T'.length = trN n id (natE L) → K r (trA n es L (.lp 29 t [20] rc14_0a rc14_0c .ready) T' ++ Z')) :
    HC Try.prog false 35 [.yl 6, .ptr 4 1 0 0, .ptr 5 1 0 0] [.box (.p (G n es)), .box (.p .nil), .box (.p (.i 0)), .box (.p .nil), .box (.p (.i n)), .box (.p (.ps L)), .lp 29 t [20] rc14_0a rc14_0c .ready] K := by
  have hw := ((Wk_nilBT (m0 := 7) (s := ⟨initT 0 [.yl 6, .ptr 4 1 0 0, .ptr 5 1 0 0], [.box (.p (G n es)), .box (.p .nil), .box (.p (.i 0)), .box (.p .nil), .box (.p (.i n)), .box (.p (.ps L)), .lp 29 t [20] rc14_0a rc14_0c .ready]⟩) 3 0 36 rfl rfl).trans (Wk_flat 3 (x := .agg [.os 7 0 0]) (y := .os 7 0 0) rfl rfl))
  refine HC_wk (args' := [.yl 6, .ptr 4 1 0 0, .ptr 5 1 0 0]) (H' := [.box (.p (G n es)), .box (.p .nil), .box (.p (.i 0)), .box (.os 7 0 0), .box (.p (.i n)), .box (.p (.ps L)), .lp 29 t [20] rc14_0a rc14_0c .ready, .tab [] 36 false]) hw rfl ?_
  obtain ⟨F, hFe⟩ : ∃ F, F = (List.range 12).map fun i : Nat => (i : Int) := ⟨_, rfl⟩
  have hF : TF F id := by rw [hFe]; exact TF.start
  have hlo := loose_ok
  rw [← hFe] at hlo
  refine HC_of_W (af := _) ((by exact cfn35 : cfn _ _ _ = some _)) ?_
  simp -implicitDefEqProofs (disch := omega) [c35, List.getElem?_cons_zero, List.getElem?_cons_succ, wrap_id]
  refine HC_of_PC rfl (hlo) ?_
  simp -implicitDefEqProofs (disch := omega) [List.getElem?_cons_zero, List.getElem?_cons_succ, wrap_id]
  refine ⟨by kernel_rfl, ?_⟩
  refine HC_ra (args' := [.bc 0 0 0, .i 0, .p (.agg (F.map PV.i)), .ptr 4 1 0 0, .ptr 8 1 0 0, .ptr 5 1 0 0, .ptr 9 1 0 0]) (fun M vs hM hH ha => ⟨ha.1, fun i hi hi' => ?_⟩) ?_
  · match i with
    | 0 => exact RA_nilbc 0 (ha.2 0 (by simp) hi')
    | 1 => exact ha.2 1 (by simp) hi'
    | 2 => exact ha.2 2 (by simp) hi'
    | 3 => exact ha.2 3 (by simp) hi'
    | 4 => exact ha.2 4 (by simp) hi'
    | 5 => exact ha.2 5 (by simp) hi'
    | 6 => exact ha.2 6 (by simp) hi'
    | i + 7 => simp at hi; omega
  refine grow_hc hn1 hn hL hLl ht6 (n - 1) [] (.bc 0 0 0) 0 F id [] [] _ (by simp; omega) hF (Inn.id n) (by rw [rcnt_id]; rfl) ⟨0, 0, rfl, .inl ⟨rfl, rfl, rfl⟩⟩ (by omega) (by simpa using hcnt) fun T' Z' h1 h2 => ?_
  simp -implicitDefEqProofs (disch := omega) [List.getElem?_cons_zero, List.getElem?_cons_succ, wrap_id]
  refine finH trivial rfl ?_
  have h := hK (resT []) T' Z' (by simpa using h1)
  exact h
end
theorem finQ40 {m0 : Nat} {rs : List ARes} {R : AV → List AO → Prop} {e : AExit} {s : St} {x r : AV} {H' : List AO} (σ : List Nat) (he : match e with | .exit _ => False | _ => True) (hx : resOf s rs = some x) (hσ : okσ σ m0 s.H = true) (e1 : x.ren s.H (Abs.idx σ 0) = r) (e2 : renH σ s.H = H') (hR : R r H') : Abs.Fin m0 rs R e s :=
  ⟨he, .inl ⟨s, x, σ, Wk.refl _ _, hx, hσ, by rw [e1, e2]; exact hR⟩⟩
/-- What All leaves. -/
def TallR (k : Nat) (r : AV) (HR : List AO) : Prop := ∃ T : List AV, T.length = k ∧ r = .tup [.os 0 0 T.length, .i 0] ∧ HR = [.tab T 36 false]
theorem tall_ok (n : Nat) (es : List Ed) (hel : es.length ≤ 900) (hc : connE n es = 0) (hLl : (endsL es).length ≤ 1000) (hcnt : trN n id (natE (endsL es)) ≤ 16384) : PCR Try.prog 14 [G n es] (TallR (trN n id (natE (endsL es)))) := by
  obtain ⟨hgc, hp⟩ := conn_good hc
  have hg := gcheck_ok hgc
  have h1 := hg.n1
  have h12 := hg.n12
  have hL := ends_in hg.right
  have hgv := tgiven_ok n es hel hc
  obtain ⟨L, hLe⟩ : ∃ L, L = endsL es := ⟨_, rfl⟩
  rw [← hLe] at hL hLl hcnt hgv ⊢
  refine PCR_of_W cfn14 ?_
  simp -implicitDefEqProofs (disch := omega) [c14, List.getElem?_cons_zero, List.getElem?_cons_succ, wrap_id]
  refine HC_of_PC rfl (hgv) ?_
  simp -implicitDefEqProofs (disch := omega) [List.getElem?_cons_zero, List.getElem?_cons_succ, wrap_id]
  refine HC_of_PC rfl (trees_ok n L) ?_
  simp -implicitDefEqProofs (disch := omega) [List.getElem?_cons_zero, List.getElem?_cons_succ, wrap_id]
  refine ⟨by kernel_rfl, trees1_hc (by omega) (by omega) hL hLl rfl hcnt fun r T' Z' hT => AfterR_ready rfl ?_⟩
  simp -implicitDefEqProofs (disch := omega) [List.getElem?_cons_zero, List.getElem?_cons_succ, wrap_id]
  have hrl : ∀ (H : List AO) ρ, (renL H ρ T').length = T'.length := fun H ρ => by rw [renL_eq]; simp
  refine finQ40 [7] trivial rfl rfl rfl rfl ⟨_, (hrl _ _).trans hT, ?_, rfl⟩
  rw [hrl]; rfl
theorem count_ok (n : Nat) (es : List Ed) (hel : es.length ≤ 900) (hc : connE n es = 0) (hLl : (endsL es).length ≤ 1000) (hcnt : trN n id (natE (endsL es)) ≤ 16384) : PC Try.prog 7 [G n es] (.tup [.i (trN n id (natE (endsL es)) : Nat), .i 0]) [] := by
  refine PC_of_W cfn7 ?_
  simp -implicitDefEqProofs (disch := omega) [c7, List.getElem?_cons_zero, List.getElem?_cons_succ, wrap_id]
  refine HC_of_PCR rfl (tall_ok n es hel hc hLl hcnt) ?_
  rintro r HR ⟨T, hT, rfl, rfl⟩
  have hrl : ∀ (H : List AO) ρ, (renL H ρ T).length = T.length := fun H ρ => by rw [renL_eq]; simp
  simp -implicitDefEqProofs (disch := omega) [List.getElem?_cons_zero, List.getElem?_cons_succ, wrap_id, hrl]
  (refine fin0 trivial rfl ?_; simp -implicitDefEqProofs (disch := omega) [List.getElem?_cons_zero, List.getElem?_cons_succ, idx, wrap_id, hT])
end Go.Proofs.Ytojamfbdlfgedaa
end
section
set_option linter.unusedSimpArgs false
set_option linter.unusedVariables false
namespace Go.Sand
theorem outD_app (A : Nat → Bool) (u : Nat) : ∀ (l m : List (Nat × Nat)), outD A u (l ++ m) = outD A u l + outD A u m
  | [], m => by simp [outD]
  | x :: l, m => by simp only [List.cons_append, outD, outD_app A u l m]; omega
theorem outD_rep (A : Nat → Bool) (u : Nat) (x : Nat × Nat) : ∀ k, outD A u (List.replicate k x) = k * outD A u [x]
  | 0 => by simp [outD]
  | k + 1 => by
    rw [List.replicate_succ, outD, outD_rep A u x k, Nat.succ_mul]
    simp only [outD]; omega
/-- The number of single edges from v to places that p names. -/
def outE (p : Nat → Bool) (v : Nat) : List Ed → Int
  | [] => 0
  | x :: es => (if x.a ≠ x.b ∧ ((x.a = v ∧ p x.b.toNat = true) ∨ (x.b = v ∧ p x.a.toNat = true)) then x.m else 0) + outE p v es
theorem outE_app (p : Nat → Bool) (v : Nat) : ∀ (l m : List Ed), outE p v (l ++ m) = outE p v l + outE p v m
  | [], m => by simp [outE]
  | x :: l, m => by simp only [List.cons_append, outE, outE_app p v l m]; omega
theorem natE_app (l m : List (Int × Int)) : natE (l ++ m) = natE l ++ natE m := by simp [natE]
theorem endsL_cons' (x : Ed) (es : List Ed) : endsL (x :: es) = List.replicate x.m.toNat (x.a, x.b) ++ endsL es := by simp [endsL]
theorem outD_outE {n : Nat} {A : Nat → Bool} {v : Nat} (hv : A v = true) : ∀ {es : List Ed}, (∀ x ∈ es, Right n x) → (outD A v (natE (endsL es)) : Int) = outE (fun u => !A u) v es
  | [], _ => rfl
  | x :: es, h => by
    have ih := outD_outE hv (es := es) fun y hy => h y (by simp [hy])
    have r := h x (by simp)
    have h1 := r.a0
    have h2 := r.b0
    have h3 := r.m1
    rw [endsL_cons', natE_app, outD_app, outE]
    have e : natE (List.replicate x.m.toNat (x.a, x.b)) = List.replicate x.m.toNat (x.a.toNat, x.b.toNat) := by simp [natE]
    have em : ((x.m.toNat : Nat) : Int) = x.m := Int.toNat_of_nonneg (by omega)
    have key : outD A v [(x.a.toNat, x.b.toNat)] = if x.a ≠ x.b ∧ ((x.a = v ∧ (!A x.b.toNat) = true) ∨ (x.b = v ∧ (!A x.a.toNat) = true)) then 1 else 0 := by
      obtain ⟨a, ha⟩ : ∃ a : Nat, x.a = a := ⟨x.a.toNat, by omega⟩
      obtain ⟨b, hb⟩ : ∃ b : Nat, x.b = b := ⟨x.b.toNat, by omega⟩
      rw [ha, hb]
      simp only [outD, Int.toNat_natCast]
      by_cases e1 : a = v <;> by_cases e2 : b = v
      · subst e1; subst e2; simp [hv]
      · subst e1
        have e3 : ¬ (b : Int) = (a : Int) := by omega
        have e4 : ¬ (a : Int) = (b : Int) := by omega
        by_cases hB : A b = false <;> simp [e2, e3, e4, hB]
      · subst e2
        have e3 : ¬ (b : Int) = (a : Int) := by omega
        have e4 : ¬ (a : Int) = (b : Int) := by omega
        by_cases hB : A a = false <;> simp [e1, e3, e4, hB]
      · have e3 : ¬ (b : Int) = (v : Int) := by omega
        have e4 : ¬ (a : Int) = (v : Int) := by omega
        simp [e1, e2, e3, e4]
    rw [e, outD_rep, key]
    push_cast
    rw [ih]
    congr 1
    by_cases hc : x.a ≠ x.b ∧ ((x.a = v ∧ (!A x.b.toNat) = true) ∨ (x.b = v ∧ (!A x.a.toNat) = true))
    · rw [if_pos hc, if_pos hc, em]; simp
    · rw [if_neg hc, if_neg hc]; simp
theorem outE_nn {n : Nat} (p : Nat → Bool) (v : Nat) : ∀ {es : List Ed}, (∀ x ∈ es, Right n x) → 0 ≤ outE p v es
  | [], _ => Int.le_refl _
  | x :: es, h => by
    have ih := outE_nn p v (es := es) fun y hy => h y (by simp [hy])
    have := (h x (by simp)).m1
    rw [outE]
    split <;> omega
theorem outE_le {n : Nat} (p : Nat → Bool) (v : Nat) : ∀ {es : List Ed}, (∀ x ∈ es, Right n x) → outE p v es ≤ 50 * es.length
  | [], _ => Int.le_refl _
  | x :: es, h => by
    have ih := outE_le p v (es := es) fun y hy => h y (by simp [hy])
    have := (h x (by simp)).m50
    have := (h x (by simp)).m1
    rw [outE, List.length_cons]
    push_cast
    split <;> omega
/-- Who is not marked, among the first n. -/
def offB (n : Nat) (M : List Bool) : Nat → Bool := fun u => decide (u < n) && !M.getD u false
/-- What a fire that has reached the marked ones shows. -/
def FireI (n q : Nat) (E : List (Nat × Nat)) (f : Nat → Nat) (M : List Bool) : Prop :=
  M.getD q false = true ∧ ∀ A : Nat → Bool, (∀ v, A v = true → v < n ∧ oneB q v = false) → (∃ u, A u = true ∧ M.getD u false = true) → ∃ u, A u = true ∧ f u < outD A u E
theorem FireI.start {n q : Nat} (hq : q < n) (E : List (Nat × Nat)) (f : Nat → Nat) : FireI n q E f ((List.replicate n false).set q true) := by
  refine ⟨by simp [hq], fun A hA ⟨u, h1, h2⟩ => ?_⟩
  have h3 := hA u h1
  have : u = q := by
    by_cases e : u = q
    · exact e
    · simp [List.getElem?_set, Ne.symm e, h3.1] at h2
  simp [oneB, this] at h3
theorem FireI.step {n q : Nat} {E : List (Nat × Nat)} {f : Nat → Nat} {M : List Bool} (h : FireI n q E f M) (hM : M.length = n) {v : Nat} (hv : v < n) (hf : f v < outD (offB n M) v E) : FireI n q E f (M.set v true) := by
  refine ⟨?_, fun A hA ⟨u, h1, h2⟩ => ?_⟩
  · have := h.1
    by_cases e : v = q
    · subst e; simp [hM, hv]
    · simpa [List.getElem?_set, e] using this
  by_cases hm : ∃ u, A u = true ∧ M.getD u false = true
  · exact h.2 A hA hm
  · have hAv : A v = true := by
      by_cases e : v = u
      · rw [e]; exact h1
      · have : M.getD u false = true := by simpa [List.getElem?_set, e] using h2
        exact absurd ⟨u, h1, this⟩ hm
    refine ⟨v, hAv, Nat.lt_of_lt_of_le hf (outD_mono (fun w hw => ?_) v E)⟩
    have h3 : M.getD w false = false := by
      cases e : M.getD w false
      · rfl
      · exact absurd ⟨w, hw, e⟩ hm
    have h4 : w < n := (hA w hw).1
    simp only [offB, h3, h4]; rfl
theorem FireI.good {n q : Nat} {E : List (Nat × Nat)} {f : Nat → Nat} {M : List Bool} (h : FireI n q E f M) (hq : f q = 0) (hall : ∀ v, v < n → M.getD v false = true) : GoodB n (oneB q) E f := by
  refine ⟨fun v _ hv => ?_, fun A ⟨v, hv, hA⟩ hs => h.2 A hs ⟨v, hA, hall v hv⟩⟩
  have : v = q := by simpa [oneB] using hv
  rw [this]; exact hq
theorem FireI.bad {n q : Nat} {E : List (Nat × Nat)} {f : Nat → Nat} {M : List Bool} (h : FireI n q E f M) {v : Nat} (hv : v < n) (hm : M.getD v false = false) (hno : ∀ u, u < n → M.getD u false = false → ¬ f u < outD (offB n M) u E) : ¬ GoodB n (oneB q) E f := fun hg => by
  obtain ⟨u, h1, h2⟩ := hg.2 (offB n M) ⟨v, hv, by simp only [offB, hm, hv]; rfl⟩ fun w hw => by
    simp only [offB, Bool.and_eq_true, decide_eq_true_eq, Bool.not_eq_true'] at hw
    refine ⟨hw.1, ?_⟩
    have : w ≠ q := fun e => by rw [e, h.1] at hw; cases hw.2
    simp [oneB, this]
  simp only [offB, Bool.and_eq_true, decide_eq_true_eq, Bool.not_eq_true'] at h1
  exact hno u h1.1 h1.2 h2
end Go.Sand
end
section
namespace Go
namespace Sand
/-- How often two vertices are joined. -/
def joinE (es : List Ed) (v u : Nat) : Int := if u = v then 0 else betw es (min (u : Int) v) (max (u : Int) v)
/-- A sum over the first k vertices. -/
def sumN (f : Nat → Int) : Nat → Int
  | 0 => 0
  | k + 1 => sumN f k + f k
theorem sumN_nonneg {f : Nat → Int} {k : Nat} (h : ∀ u, u < k → 0 ≤ f u) : 0 ≤ sumN f k := by
  induction k with
  | zero => exact Int.le_refl 0
  | succ k ih => simp only [sumN]; have := ih fun u hu => h u (by omega); have := h k (by omega); omega
theorem sumN_sumI (l : List Int) : ∀ k, k ≤ l.length → sumN (fun u => l.getD u 0) k = sumI (l.take k)
  | 0, _ => rfl
  | k + 1, h => by
    simp only [sumN]
    rw [sumN_sumI l k (by omega), sumI_snoc l k (by omega), getD_get (by omega)]
theorem sumI_sumN (l : List Int) : sumI l = sumN (fun u => l.getD u 0) l.length := by rw [sumN_sumI l _ (Nat.le_refl _), List.take_length]
section
variable {n : Nat} {es : List Ed} (hg : GoodG n es)
include hg
theorem joinE_bd (v u : Nat) : 0 ≤ joinE es v u ∧ joinE es v u ≤ 50 := by
  unfold joinE
  split
  · omega
  · exact betw_bd hg.right _ _
omit hg in
theorem valTo_sum (v k : Nat) : valTo es v k = sumN (fun u => joinE es v u) k := by
  induction k with
  | zero => rfl
  | succ k ih =>
    simp only [valTo, sumN, ih, joinE]
    by_cases h : k = v
    · subst h; simp
    · rw [if_neg (by omega), if_neg h]
/-- Script s with vertex v firing k times more. -/
def moreS (s : List Int) (v : Nat) (k : Int) : List Int := s.set v (s.getD v 0 + k)
omit hg in
theorem moreS_len (s : List Int) (v : Nat) (k : Int) : (moreS s v k).length = s.length := by simp [moreS]
omit hg in
theorem moreS_get (s : List Int) (v : Nat) (k : Int) (hv : v < s.length) (i : Nat) : (moreS s v k).getD i 0 = s.getD i 0 + if i = v then k else 0 := by
  rw [moreS, getD_set]
  by_cases h : i = v
  · subst h; simp [hv]
  · rw [if_neg (by omega), if_neg h]; omega
omit hg in
theorem zeros_get (i : Nat) : (List.replicate n (0 : Int)).getD i 0 = 0 := by
  by_cases h : i < n <;> simp [List.getD_eq_getElem?_getD, h]
/-- Vertex v may fire k times. -/
structure May (n : Nat) (es : List Ed) (q : Int) (d : List Int) (v : Nat) (k : Int) : Prop where
  lt : v < n
  ne : (v : Int) ≠ q
  k1 : 1 ≤ k
  le : k * valTo es v n ≤ d.getD v 0
/-- A script that can be fired legally, without the sink. -/
inductive Leg (n : Nat) (es : List Ed) (q : Int) (d : List Int) : List Int → Prop
  | nil : Leg n es q d (List.replicate n 0)
  | more {s : List Int} {v : Nat} {k : Int} (h : Leg n es q d s) (m : May n es q (movedE es s d) v k) : Leg n es q d (moreS s v k)
omit hg in
theorem Leg.len {q : Int} {d s : List Int} (h : Leg n es q d s) : s.length = n := by
  induction h with
  | nil => simp
  | more _ _ ih => rw [moreS_len, ih]
omit hg in
theorem Leg.nn {q : Int} {d s : List Int} (h : Leg n es q d s) (i : Nat) : 0 ≤ s.getD i 0 := by
  induction h with
  | nil => rw [zeros_get]; exact Int.le_refl 0
  | more h m ih =>
    rw [moreS_get _ _ _ (by rw [h.len]; exact m.lt)]
    have := m.k1
    split <;> omega
omit hg in
theorem Leg.sink {q : Int} {d s : List Int} (h : Leg n es q d s) (i : Nat) (hi : (i : Int) = q) : s.getD i 0 = 0 := by
  induction h with
  | nil => exact zeros_get i
  | more h m ih =>
    have := m.ne
    rw [moreS_get _ _ _ (by rw [h.len]; exact m.lt), ih, if_neg (fun e => this (by rw [← e, hi]))]
    rfl
theorem valTo_nn (v k : Nat) : 0 ≤ valTo es v k := by
  rw [valTo_sum]; exact sumN_nonneg fun u _ => (joinE_bd hg v u).1
end
end Sand
end Go
/-
  Plain laws: what stabilizing computes, some firings at once, and one after the other. No program.
-/
namespace Go
namespace Sand
section
variable (n : Nat) (es : List Ed) (q : Int) (d : List Int)
def unstB (c : List Int) (v : Nat) : Bool := decide ((v : Int) ≠ q ∧ valTo es v n ≤ c.getD v 0)
end
section
variable {n : Nat} {es : List Ed} {q : Int} {d : List Int}
theorem sumI_zeros (n : Nat) : sumI (List.replicate n 0) = 0 := by
  induction n with
  | zero => rfl
  | succ n ih => simp [List.replicate_succ, sumI, ih]
theorem Leg.sum {s : List Int} (h : Leg n es q d s) : 0 ≤ sumI s := by
  rw [sumI_sumN]; exact sumN_nonneg fun u _ => h.nn u
end
end Sand
end Go
end
section
set_option linter.unusedSimpArgs false
set_option linter.unusedVariables false
namespace Go.Proofs.Ytojamfbdlfgedaa
open Go.Abs Go.Sand
/-- A list of lists of numbers. -/
abbrev _root_.Go.Abs.PV.iss (l : List (List Int)) : PV := .sl (l.map PV.is)
/-- Truths, a cell each. -/
abbrev bw (W : List Bool) : List AV := W.map AV.b
theorem bw_set (W : List Bool) (v : Nat) (b : Bool) : (bw W).set v (.b b) = bw (W.set v b) := by simp [bw, List.map_set]
theorem bw_ren {H : List AO} {ρ : Nat → Option Nat} : ∀ W : List Bool, renL H ρ (bw W) = bw W
  | [] => rfl
  | x :: W => by
    show AV.ren H ρ (.b x) :: renL H ρ (bw W) = _
    rw [bw_ren W, AV.ren]; rfl
/-- A configuration's variable: its rows and its valences read alone; its chips are object o+1, what has fired is object o+2. -/
abbrev pileA (o n : Nat) (q : Int) (R : List (List Int)) (V : List Int) (tot : Int) (W : List Bool) : AV :=
  .agg (.os (o + 1) 0 n :: .i q :: .p (.iss R) :: .p (.is V) :: .os (o + 2) 0 n :: .i tot :: bw W)
abbrev rowI (c : List Int) : AO := .row (c.map PV.i) 1 3 false
/-- Whether a vertex waits. -/
def waitB (q : Int) (V c : List Int) (v : Nat) : Bool := decide ((v : Int) ≠ q) && decide (V.getD v 0 ≤ c.getD v 0)
section
variable {n : Nat} {q : Int} {R : List (List Int)} {V c s : List Int} {tot : Int} {W : List Bool} {b0 : AO} {T : List AO} {K : AV → List AO → Prop}
theorem bw_view (H : List AO) : ∀ W : List Bool, viewL H (bw W) = some (W.map PV.b)
  | [] => rfl
  | x :: W => by
    show viewL H (.b x :: bw W) = _
    rw [viewL, bw_view H W]; rfl
/-- What a configuration's variable reads as. -/
abbrev pileR (q : Int) (R : List (List Int)) (V c s : List Int) (tot : Int) (W : List Bool) : List PV := .is c :: .i q :: .iss R :: .is V :: .is s :: .i tot :: W.map PV.b
theorem pile_view (hc : c.length = n) (hs : s.length = n) : view (b0 :: .box (pileA 1 n q R V tot W) :: rowI c :: rowI s :: T) (.agg (pileA 1 n q R V tot W).flat) = some (.agg (pileR q R V c s tot W)) := by
  simp [view, viewL, viewC, ownEls, hc, hs, bw_view, AV.flat]
theorem unst_ok {e : Bool} (v : Nat) (hv : v < n) (hc : c.length = n) (hs : s.length = n) (hV : V.length = n) (hK : K (.b (waitB q V c v)) (b0 :: .box (pileA 1 n q R V tot W) :: rowI c :: rowI s :: T)) :
    HC Try.prog e 44 [.ptr 1 1 0 0, .i v] (b0 :: .box (pileA 1 n q R V tot W) :: rowI c :: rowI s :: T) K := by
  have hcv : v < c.length := by omega
  have hVv : v < V.length := by omega
  refine HC_ptr (rest := [.i v]) (ps := pileR q R V c s tot W) (x := .bool (waitB q V c v)) cfn44 rfl (pile_view hc hs) ?_ hK
  by_cases h1 : (v : Int) = q
  · simp -implicitDefEqProofs (disch := omega) [c44, List.getElem?_cons_zero, List.getElem?_cons_succ, wrap_id, h1]
    (refine fin0 trivial rfl ?_; simp -implicitDefEqProofs (disch := omega) [List.getElem?_cons_zero, List.getElem?_cons_succ, idx, wrap_id, waitB, h1])
  · simp -implicitDefEqProofs (disch := omega) [c44, List.getElem?_cons_zero, List.getElem?_cons_succ, wrap_id, h1, hcv, hVv]
    (refine fin0 trivial rfl ?_; simp -implicitDefEqProofs (disch := omega) [List.getElem?_cons_zero, List.getElem?_cons_succ, idx, wrap_id, waitB, h1, hcv, hVv])
theorem wait_ok (v : Nat) (hv : v < n) (hn : n ≤ 12) (hc : c.length = n) (hs : s.length = n) (hV : V.length = n) (hW : W.length = 12) (hK : K (.tup []) (b0 :: .box (pileA 1 n q R V tot (W.set v (waitB q V c v))) :: rowI c :: rowI s :: T)) :
    HC Try.prog false 30 [.ptr 1 1 0 0, .i v] (b0 :: .box (pileA 1 n q R V tot W) :: rowI c :: rowI s :: T) K := by
  have hv12 : v < 12 := by omega
  refine HC_of_W (af := _) ((by exact cfn30 : cfn _ _ _ = some _)) ?_
  simp -implicitDefEqProofs (disch := omega) [c30, List.getElem?_cons_zero, List.getElem?_cons_succ, wrap_id]
  refine unst_ok v hv hc hs hV ?_
  have h18 : v + 6 < 18 := by omega
  simp -implicitDefEqProofs (disch := omega) [List.getElem?_cons_zero, List.getElem?_cons_succ, wrap_id, hv12, h18, hW, Nat.add_comm 6 v]
  refine finH trivial rfl ?_
  show K _ (b0 :: .box (.agg (.os 2 0 n :: .i q :: .p (.iss R) :: .p (.is V) :: .os 3 0 n :: .i tot :: (bw W).set v (.b (waitB q V c v)))) :: rowI c :: rowI s :: T)
  rw [bw_set]
  exact hK
end
end Go.Proofs.Ytojamfbdlfgedaa
end
section
set_option linter.unusedSimpArgs false
set_option linter.unusedVariables false
namespace Go.Proofs.Ytojamfbdlfgedaa
open Go.Abs Go.Sand
def valsL (n : Nat) (es : List Ed) : List Int := (List.range n).map fun v : Nat => valTo es v n
def rowL (n : Nat) (es : List Ed) (v : Nat) : List Int := (List.range n).map fun u => joinE es v u
def rowsL (n : Nat) (es : List Ed) : List (List Int) := (List.range n).map fun v => rowL n es v
def waitsL (n : Nat) (es : List Ed) (q : Int) (c : List Int) : List Bool := (List.range 12).map fun u => decide (u < n) && unstB n es q c u
theorem rg_get (f : Nat → Int) (n v : Nat) : ((List.range n).map f).getD v 0 = if v < n then f v else 0 := by
  by_cases h : v < n <;> simp [List.getD_eq_getElem?_getD, h]
theorem wait_unst {n : Nat} {es : List Ed} {q : Int} {c : List Int} {v : Nat} (hv : v < n) : waitB q (valsL n es) c v = unstB n es q c v := by
  rw [waitB, unstB, valsL, rg_get]
  simp only [hv, if_true]
  by_cases h1 : (v : Int) = q <;> simp [h1]
theorem valsL_len (n : Nat) (es : List Ed) : (valsL n es).length = n := by simp [valsL]
theorem val_bd {n : Nat} {es : List Ed} (hg : GoodG n es) (v : Nat) : 0 ≤ valTo es v n ∧ valTo es v n ≤ 600 := by
  refine ⟨valTo_nn hg v n, ?_⟩
  rw [valTo_sum]
  have : ∀ k : Nat, sumN (fun u => joinE es v u) k ≤ 50 * k := by
    intro k
    induction k with
    | zero => simp [sumN]
    | succ k ih => simp only [sumN]; have := (joinE_bd hg v k).2; push_cast; omega
  have := this n
  have := hg.n12
  omega
section
variable {n : Nat} {es : List Ed} {q : Int} {c s : List Int} {b0 : AO} {T : List AO} {K : AV → List AO → Prop}
end
end Go.Proofs.Ytojamfbdlfgedaa
end
section
set_option linter.unusedSimpArgs false
set_option linter.unusedVariables false
namespace Go.Proofs.Ytojamfbdlfgedaa
open Go.Abs Go.Sand
/-- How many single edges join two vertices. -/
def joinC (l : List (Int × Int)) (u w : Nat) : Int := if w = u then 0 else ((l.filter fun x => decide (x = ((u : Int), (w : Int)) ∨ x = ((w : Int), (u : Int)))).length : Int)
/-- How many single edges, but loops, are at a vertex. -/
def valC (l : List (Int × Int)) (u : Nat) : Int := ((l.filter fun x => decide (x.1 ≠ x.2 ∧ (x.1 = (u : Int) ∨ x.2 = (u : Int)))).length : Int)
theorem joinC_snoc (l : List (Int × Int)) (x : Int × Int) (u w : Nat) : joinC (l ++ [x]) u w = joinC l u w + if w ≠ u ∧ (x = ((u : Int), (w : Int)) ∨ x = ((w : Int), (u : Int))) then 1 else 0 := by
  unfold joinC
  by_cases h : w = u
  · simp [h]
  · by_cases h2 : x = ((u : Int), (w : Int)) ∨ x = ((w : Int), (u : Int)) <;> simp [h, h2, List.filter_append]
theorem valC_snoc (l : List (Int × Int)) (x : Int × Int) (u : Nat) : valC (l ++ [x]) u = valC l u + if x.1 ≠ x.2 ∧ (x.1 = (u : Int) ∨ x.2 = (u : Int)) then 1 else 0 := by
  unfold valC
  by_cases h2 : x.1 ≠ x.2 ∧ (x.1 = (u : Int) ∨ x.2 = (u : Int)) <;> simp [h2, List.filter_append]
theorem joinC_app (a b : List (Int × Int)) (u w : Nat) : joinC (a ++ b) u w = joinC a u w + joinC b u w := by
  unfold joinC
  split
  · rfl
  · simp [List.filter_append]
theorem valC_app (a b : List (Int × Int)) (u : Nat) : valC (a ++ b) u = valC a u + valC b u := by
  unfold valC
  simp [List.filter_append]
theorem filter_rep {α : Type} (p : α → Bool) (m : Nat) (x : α) : ((List.replicate m x).filter p).length = if p x = true then m else 0 := by
  by_cases h : p x = true <;> simp [List.filter_replicate, h]
theorem joinC_ends {n : Nat} : ∀ {es : List Ed}, (∀ x ∈ es, Right n x) → es.Pairwise ltE → ∀ v u : Nat, joinC (endsL es) v u = joinE es v u
  | [], _, _, v, u => by
    unfold joinC joinE endsL
    split
    · rfl
    · simp [betw]
  | x :: es, hr, hp, v, u => by
    have ih := joinC_ends (fun y hy => hr y (by simp [hy])) (List.pairwise_cons.1 hp).2 v u
    have hx := hr x (by simp)
    have e1 : endsL (x :: es) = List.replicate x.m.toNat (x.a, x.b) ++ endsL es := by simp [endsL]
    rw [e1, joinC_app, ih]
    have h1 := hx.m1
    have h2 := hx.ab
    unfold joinC joinE
    by_cases h : u = v
    · simp [h]
    · simp only [h, if_false]
      rw [betw_cons hp, filter_rep]
      by_cases hh : x.a = min (u : Int) v ∧ x.b = max (u : Int) v
      · rw [if_pos hh, if_pos]
        · omega
        · simp only [Prod.mk.injEq, decide_eq_true_eq]; omega
      · rw [if_neg hh, if_neg]
        · rfl
        · simp only [Prod.mk.injEq, decide_eq_true_eq]; omega
theorem valC_ends {n : Nat} : ∀ {es : List Ed}, (∀ x ∈ es, Right n x) → ∀ v : Nat, valC (endsL es) v = valS es v
  | [], _, v => by simp [valC, endsL, valS, sumI]
  | x :: es, hr, v => by
    have ih := valC_ends (es := es) (fun y hy => hr y (by simp [hy])) v
    have hx := hr x (by simp)
    have e1 : endsL (x :: es) = List.replicate x.m.toNat (x.a, x.b) ++ endsL es := by simp [endsL]
    have h1 := hx.m1
    rw [e1, valC_app, ih]
    have e2 : valS (x :: es) v = val1 v x + valS es v := by simp [valS, sumI]
    rw [e2]
    congr 1
    unfold valC val1
    rw [filter_rep]
    by_cases hh : x.a ≠ x.b ∧ (x.a = (v : Int) ∨ x.b = (v : Int))
    · rw [if_pos hh, if_pos (by simpa using hh)]; omega
    · rw [if_neg hh, if_neg (by simpa using hh)]; rfl
theorem ends_in' {n : Int} {es : List Ed} (hr : ∀ x ∈ es, Right n x) : ∀ p ∈ endsL es, (0 ≤ p.1 ∧ p.1 < n) ∧ 0 ≤ p.2 ∧ p.2 < n := fun p hp => by
  simp only [endsL, List.mem_flatMap, List.mem_replicate] at hp
  obtain ⟨x, hx, _, rfl⟩ := hp
  have r := hr x hx
  exact ⟨⟨r.a0, r.an⟩, r.b0, r.bn⟩
theorem joinC_bd (l : List (Int × Int)) (u w : Nat) : 0 ≤ joinC l u w ∧ joinC l u w ≤ l.length := by
  unfold joinC
  split
  · omega
  · have := List.length_filter_le (fun x => decide (x = ((u : Int), (w : Int)) ∨ x = ((w : Int), (u : Int)))) l
    omega
theorem valC_bd (l : List (Int × Int)) (u : Nat) : 0 ≤ valC l u ∧ valC l u ≤ l.length := by
  unfold valC
  have := List.length_filter_le (fun x => decide (x.1 ≠ x.2 ∧ (x.1 = (u : Int) ∨ x.2 = (u : Int)))) l
  omega
/-- A table, and a list, of n numbers. -/
def tabL (n : Nat) (f : Nat → Nat → Int) : List (List Int) := (List.range n).map fun u => (List.range n).map (f u)
def lisL (n : Nat) (f : Nat → Int) : List Int := (List.range n).map f
theorem tabL_rows {n : Nat} {es : List Ed} (hg : GoodG n es) : tabL n (joinC (endsL es)) = rowsL n es := by
  unfold tabL rowsL rowL
  refine List.map_congr_left fun u _ => List.map_congr_left fun w _ => ?_
  exact joinC_ends hg.right hg.asc u w
theorem lisL_vals {n : Nat} {es : List Ed} (hg : GoodG n es) : lisL n (valC (endsL es)) = valsL n es := by
  unfold lisL valsL
  refine List.map_congr_left fun u hu => ?_
  have := List.mem_range.1 hu
  rw [valC_ends hg.right, valTo_all hg.right hg.asc u ⟨by omega, by omega⟩]
theorem lisL_zero (n : Nat) : List.replicate n 0 = lisL n (valC []) := by
  unfold lisL valC
  refine List.ext_getElem (by simp) fun i h1 h2 => by simp
theorem zrow (n : Nat) (u : Nat) : (List.replicate n 0) = (List.range n).map (joinC [] u) := by
  refine List.ext_getElem (by simp) fun i h1 h2 => by simp [joinC]
theorem lisL_set {n : Nat} {l : List (Int × Int)} {a b : Nat} (ha : a < n) (hb : b < n) (hab : a ≠ b) :
    (((lisL n (valC l)).map PV.i).set a (PV.i (valC l a + 1))).set b (PV.i (valC l b + 1)) = (lisL n (valC (l ++ [((a : Int), (b : Int))]))).map PV.i := by
  rw [← List.map_set, ← List.map_set]
  congr 1
  refine ext_getD (by simp [lisL]) fun u hu => ?_
  have hu' : u < n := by simpa [lisL] using hu
  simp only [getD_set, List.length_set, lisL, rg_get, List.length_map, List.length_range, valC_snoc, hu', if_true, ha, hb, and_true]
  by_cases h1 : b = u
  · subst h1
    have h3 : (a : Int) ≠ b := by omega
    simp [h3]
  · by_cases h2 : a = u
    · subst h2
      have h3 : (a : Int) ≠ b := by omega
      simp [h1, h3]
    · have h3 : ¬ ((a : Int) ≠ b ∧ ((a : Int) = u ∨ (b : Int) = u)) := by omega
      simp only [h1, h2, if_false, if_neg h3, Int.add_zero]
def tabR (n : Nat) (f : Nat → Nat → Int) : List AO := (tabL n f).map rowI
theorem tabR_len (n : Nat) (f : Nat → Nat → Int) : (tabR n f).length = n := by simp [tabR, tabL]
theorem tabR_get {n : Nat} {f : Nat → Nat → Int} {a : Nat} (ha : a < n) : (tabR n f)[a]? = some (rowI (lisL n (f a))) := by simp [tabR, tabL, lisL, ha]
theorem row_get {n : Nat} {f : Nat → Int} {a : Nat} (ha : a < n) : ((lisL n f).map PV.i)[a]? = some (.i (f a)) := by simp [lisL, ha]
theorem tabR_set {n : Nat} {l : List (Int × Int)} {a b : Nat} (ha : a < n) (hb : b < n) (hab : a ≠ b) :
    ((tabR n (joinC l)).set a (.row (((lisL n (joinC l a)).map PV.i).set b (PV.i (joinC l a b + 1))) 1 3 false)).set b (.row (((lisL n (joinC l b)).map PV.i).set a (PV.i (joinC l b a + 1))) 1 3 false) = tabR n (joinC (l ++ [((a : Int), (b : Int))])) := by
  have key : ∀ u w : Nat, u < n → w < n → (u = a ∧ w = b ∨ u = b ∧ w = a) → (lisL n (joinC l u)).set w (joinC l u w + 1) = lisL n (joinC (l ++ [((a : Int), (b : Int))]) u) := by
    intro u w hu hw h
    refine ext_getD (by simp [lisL]) fun i hi => ?_
    have hi' : i < n := by simpa [lisL] using hi
    simp only [getD_set, lisL, rg_get, List.length_map, List.length_range, hi', hw, and_true, if_true, joinC_snoc, Prod.mk.injEq]
    by_cases h1 : w = i
    · subst h1
      rw [if_pos rfl, if_pos]
      omega
    · rw [if_neg h1, if_neg]
      · omega
      · omega
  refine List.ext_getElem? fun i => ?_
  by_cases hi : i < n
  · rw [tabR_get hi, List.getElem?_set, List.getElem?_set]
    simp only [List.length_set, tabR_len]
    by_cases h1 : b = i
    · subst h1
      rw [if_pos rfl, if_pos hb, ← List.map_set, key b a hb ha (.inr ⟨rfl, rfl⟩)]
    · rw [if_neg h1]
      by_cases h2 : a = i
      · subst h2
        rw [if_pos rfl, if_pos ha, ← List.map_set, key a b ha hb (.inl ⟨rfl, rfl⟩)]
      · rw [if_neg h2, tabR_get hi]
        have e : joinC l i = joinC (l ++ [((a : Int), (b : Int))]) i := funext fun w => by
          rw [joinC_snoc, if_neg (by simp only [Prod.mk.injEq]; omega)]
          omega
        rw [e]
  · rw [List.getElem?_eq_none (by simp [tabR_len]; omega), List.getElem?_eq_none (by simp [tabR_len]; omega)]
end Go.Proofs.Ytojamfbdlfgedaa
end
