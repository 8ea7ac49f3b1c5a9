/-
  Texts joined: Acd Wi Wh.
-/
import Derived.Test.YtamiekhoaggpkaaKa26

section
namespace Go
namespace Abs
open Go.RowKit
theorem HC_norm {P : Program} {e : Bool} {f : FuncId} {args : List AV} {H : List AO} {K : AV → List AO → Prop} (h : HC P e f args H fun r H' => ∃ σ, okσ σ H.length H' = true ∧ K (r.ren H' (idx σ 0)) (renH σ H')) : HC P e f args H K := by
  intro M vs hM hH ha
  refine (h M vs hM hH ha).mono ?_
  rintro en w' ⟨v, r, H', φ', rfl, ⟨σ, hσ, hK⟩, hM', hle, hrv, hbel, hext⟩
  subst hH
  obtain ⟨M', e1, e2, e3, e4, hM'', hle', -, hx⟩ := mem_norm (M := ⟨w', H', φ', M.base, M.S⟩) hM' hle rfl hσ
  obtain ⟨w1, H1, φ1, base1, S1⟩ := M'
  dsimp only at e1 e2 e3 e4
  subst e1 e2 e3 e4
  exact ⟨v, _, _, φ1, rfl, hK, hM'', hle', hx hrv, hbel, hext⟩
theorem renH_range (A B : List AO) : renH (List.range A.length) (A ++ B) = A.map fun ob => ob.ren (A ++ B) (idx (List.range A.length) 0) := by
  unfold renH
  apply List.ext_getElem?
  intro i
  by_cases h : i < A.length
  · simp [h, List.getD_eq_getElem?_getD, List.getElem?_append_left h]
  · simp [h]
theorem idx_range_none {n o : Nat} (h : n ≤ o) : idx (List.range n) 0 o = none := by
  cases hi : idx (List.range n) 0 o with
  | none => rfl
  | some j =>
    obtain ⟨_, h2⟩ := idx_some hi
    have hj := (List.getElem?_eq_some_iff.1 h2)
    obtain ⟨hj1, hj2⟩ := hj
    simp at hj1 hj2
    omega
theorem map_ren_lo {A : List AO} {m : Nat} (h : ∀ ob ∈ A, loO m ob = true) {n : Nat} (hmn : m ≤ n) (H : List AO) : A.map (fun ob => ob.ren H (idx (List.range n) 0)) = A := by
  conv => rhs; rw [← List.map_id A]
  exact List.map_congr_left fun ob hob => loO_ren (fun i hi => idx_range (by omega)) ob (h ob hob)
end Abs
end Go
end
section
set_option linter.unusedSimpArgs false
set_option linter.unusedVariables false
namespace Go.Proofs.Ytamiekhoaggpkaa
open Go.Abs Go.Sand
theorem H_read {A G : List AO} {xs : List Int} {m : Nat} (h : ∀ ob ∈ A, loO A.length ob = true) (hm : m = xs.length) :
    okσ (List.range A.length) A.length (A ++ rowI xs :: G) = true ∧ (AV.os A.length 0 m).ren (A ++ rowI xs :: G) (Abs.idx (List.range A.length) 0) = .p (.is xs) ∧ renH (List.range A.length) (A ++ rowI xs :: G) = A := by
  refine ⟨okσ_range (Nat.le_refl _) (by simp), ?_, ?_⟩
  · rw [AV.ren, idx_range_none (Nat.le_refl _)]
    simp [hm]
  · rw [renH_range]; exact map_ren_lo h (Nat.le_refl _) _
section
variable {n : Nat} {es : List Ed} (hg : GoodG n es) {q : Int} {c : List Int} {o : Nat} {H : List AO} {K : AV → List AO → Prop}
include hg
theorem readyP (hb : BdH n es q o H) (hc : c.length = n) (hlo : ∀ ob ∈ H, loO H.length ob = true) (hK : K (.p (.is (rdyL n es q c))) H) :
    HC Try.prog false 44 [.ptr o 1 0 0, .p (.is c)] H K :=
  HC_norm (qready_ok hg hb hc fun G => by
    obtain ⟨h1, h2, h3⟩ := H_read (G := G) (xs := rdyL n es q c) hlo rfl
    exact ⟨_, h1, by rw [h2, h3]; exact hK⟩)
omit hg in
theorem rdyL_lt (c : List Int) : ∀ v ∈ rdyL n es q c, ∃ u : Nat, v = u ∧ u < n := fun v hv => by
  obtain ⟨u, h1, h2, -⟩ := rdyK_mem hv
  exact ⟨u, h1, h2⟩
theorem rdyL_12 (c : List Int) : (rdyL n es q c).length ≤ 12 := by
  have := rdyK_len (n := n) (es := es) (q := q) c n
  have := hg.n12
  have e : rdyL n es q c = rdyK n es q c n := rfl
  rw [e]; omega
theorem fireP (hb : BdH n es q o H) {l : List Int} (hc : c.length = n) (hcb : Bd 100000000000 c) (hl : l.length ≤ 12) (hlv : ∀ v ∈ l, ∃ u : Nat, v = u ∧ u < n)
    (hlo : ∀ ob ∈ H, loO H.length ob = true) (hK : K (.p (.is (fireL n es c l))) H) : HC Try.prog false 45 [.ptr o 1 0 0, .p (.is c), .p (.is l)] H K :=
  HC_norm (qfire_ok hg hb hc hcb hl hlv fun G => by
    obtain ⟨h1, h2, h3⟩ := H_read (G := G) (xs := fireL n es c l) (m := n) hlo (fireL_len hc l).symm
    exact ⟨_, h1, by rw [h2, h3]; exact hK⟩)
end
section
variable {n : Nat} {es : List Ed} (hg : GoodG n es) {q : Int} {d : List Int} (hd : d.length = n)
include hg hd
theorem rdC_zero : rdC n es q d 0 = d := aft_zero hg hd
omit hg in
theorem rdC_len (k : Nat) : (rdC n es q d k).length = n := by rw [rdC, movedE_length, hd]
theorem rdC_succ (k : Nat) : rdC n es q d (k + 1) = fireL n es (rdC n es q d k) (rdyL n es q (rdC n es q d k)) := by
  rw [rdC, rdC, fireL_moved hg hd _ (rdyL_lt _) (rdS_len k)]
  rfl
theorem rdC_bd {B : Int} (hb : Bd B d) (hB : 0 ≤ B) : ∀ k : Nat, Bd (B + 12000 * k) (rdC n es q d k)
  | 0 => by rw [rdC_zero hg hd]; exact hb.more (by omega)
  | k + 1 => by
    rw [rdC_succ hg hd]
    have h12 := rdyL_12 hg (q := q) (rdC n es q d k)
    exact (fireL_bd hg _ (rdC_bd hb hB k) (by omega)).more (by push_cast; omega)
end
theorem rounds_hc {c : List Int} {o : Nat} {H : List AO} {K : AV → List AO → Prop} (ho : o < H.length) (hs : ∀ L, solid (H ++ L) (.ptr o 1 0 0) = true)
    (hK : K (.fn (.func 88) [] [.ptr H.length 1 0 0, .ptr (H.length + 1) 1 0 0]) (H ++ [.box (.ptr o 1 0 0), .box (.p (.is c))])) : HC Try.prog false 59 [.ptr o 1 0 0, .p (.is c)] H K := by
  have b4 : boxable H (.ptr o 1 0 0) = true := by have := hs []; rwa [List.append_nil] at this
  have b5 : ∀ L, boxable L (AV.p (PV.is c)) = true := fun _ => rfl
  refine HC_of_W (af := _) ((by exact cfn59 : cfn _ _ _ = some _)) ?_
  simp -implicitDefEqProofs (disch := omega) [c59, -boxable, -solid, b4, b5, List.getElem?_cons_zero, List.getElem?_cons_succ, wrap_id]
  refine finH trivial rfl ?_
  simpa using hK
section
variable {n : Nat} {es : List Ed} (hg : GoodG n es) {q : Int} {d : List Int} (hd : d.length = n)
include hg hd
theorem rounds_range {N ob od o lp : Nat} {I : Nat → Prop} {Hk : Nat → List AO} {Out : List AO → Prop} {K : AV → List AO → Prop}
    (hbd : ∀ k, I k → Bd 100000000000 (rdC n es q d k)) (hN : ∀ k, I k → k ≤ N) (hne : od ≠ lp)
    (hob : ∀ k, (Hk k)[ob]? = some (.box (.ptr o 1 0 0))) (hod : ∀ k, (Hk k)[od]? = some (.box (.p (.is (rdC n es q d k)))))
    (ho : ∀ k, BdH n es q o (Hk k)) (hlp : ∀ k, ∃ lo, (Hk k)[lp]? = some lo ∧ lo.len = 1) (hlo : ∀ k, ∀ ob ∈ Hk k, loO (Hk k).length ob = true)
    (hL : ∀ k, (Hk k).length = (Hk 0).length) (hI0 : I 0)
    (hy : ∀ k, I k → rdyL n es q (rdC n es q d k) ≠ [] → ∀ K' : AV → List AO → Prop, (k < N → I (k + 1) → K' (.b true) (Hk (k + 1))) → (∀ H', Out H' → K' (.b false) H') →
      HY Try.prog lp [.p (.is (rdyL n es q (rdC n es q d k))), .p (.is (rdC n es q d (k + 1)))] ((Hk k).set od (.box (.p (.is (rdC n es q d (k + 1)))))) K')
    (hK0 : ∀ k r, I k → rdyL n es q (rdC n es q d k) = [] → K r (Hk k)) (hK1 : ∀ r H', Out H' → K r H') :
    HC Try.prog false 88 [.yl lp, .ptr ob 1 0 0, .ptr od 1 0 0] (Hk 0) K := by
  have hob0 := hob 0
  have hod0 := hod 0
  refine HC_of_W (af := _) ((by exact cfn88 : cfn _ _ _ = some _)) ?_
  simp -implicitDefEqProofs (disch := omega) [c88, List.getElem?_cons_zero, List.getElem?_cons_succ, wrap_id, hob0, hod0]
  refine readyP hg (ho 0) (rdC_len hd 0) (hlo 0) ?_
  simp -implicitDefEqProofs (disch := omega) [List.getElem?_cons_zero, List.getElem?_cons_succ, wrap_id]
  refine loopW N (fun k st => st = ⟨[(4, .p (.is (rdyL n es q (rdC n es q d k)))), (0, .yl lp), (1, .ptr ob 1 0 0), (2, .ptr od 1 0 0)], Hk k⟩ ∧ I k) (Wk_keep [4, 0, 1, 2]) ⟨rfl, hI0⟩ ?_
  rintro k st hk ⟨rfl, hI⟩
  have hobk := hob k
  have hodk := hod k
  obtain ⟨lo, hlo1, hlo2⟩ := hlp k
  by_cases h0 : rdyL n es q (rdC n es q d k) = []
  · rw [h0]
    simp -implicitDefEqProofs (disch := omega) [List.getElem?_cons_zero, List.getElem?_cons_succ, wrap_id]
    exact finH trivial rfl (hK0 k _ hI h0)
  have hpos : 0 < (rdyL n es q (rdC n es q d k)).length := List.length_pos_iff.2 h0
  have h12 := rdyL_12 hg (q := q) (rdC n es q d k)
  have hlv := rdyL_lt (n := n) (es := es) (q := q) (rdC n es q d k)
  have f1 : ∀ x, ((Hk k).set od x)[od]? = some x := fun x => by rw [List.getElem?_set_self (List.getElem?_eq_some_iff.1 hodk).1]
  have f2 : ∀ x, ((Hk k).set od x)[lp]? = some lo := fun x => by rw [List.getElem?_set_ne hne]; exact hlo1
  have hyk := hy k hI h0
  have hsu := rdC_succ hg hd (q := q) k
  obtain ⟨l, hl⟩ : ∃ l, l = rdyL n es q (rdC n es q d k) := ⟨_, rfl⟩
  rw [← hl] at hpos h12 hlv hyk hsu ⊢
  simp -implicitDefEqProofs (disch := omega) [List.getElem?_cons_zero, List.getElem?_cons_succ, wrap_id, hpos, hobk, hodk]
  refine fireP hg (ho k) (rdC_len hd k) (hbd k hI) h12 hlv (hlo k) ?_
  rw [← hsu]
  simp -implicitDefEqProofs (disch := omega) [List.getElem?_cons_zero, List.getElem?_cons_succ, wrap_id, hobk, hodk, f1, f2]
  refine ⟨hlo2, hyk _ (fun hkN hI' => ?_) (fun H' hO => ?_)⟩
  · have hob1 := hob (k + 1)
    have hod1 := hod (k + 1)
    simp -implicitDefEqProofs (disch := omega) [List.getElem?_cons_zero, List.getElem?_cons_succ, wrap_id, hob1, hod1]
    refine readyP hg (ho (k + 1)) (rdC_len hd (k + 1)) (hlo (k + 1)) ?_
    simp -implicitDefEqProofs (disch := omega) [List.getElem?_cons_zero, List.getElem?_cons_succ, wrap_id]
    exact round_keep [4, 0, 1, 2] hkN ⟨rfl, hI'⟩
  · simp -implicitDefEqProofs (disch := omega) [List.getElem?_cons_zero, List.getElem?_cons_succ, wrap_id]
    exact finH trivial rfl (hK1 _ _ hO)
end
end Go.Proofs.Ytamiekhoaggpkaa
end
section
set_option linter.unusedSimpArgs false
set_option linter.unusedVariables false
namespace Go.Proofs.Ytamiekhoaggpkaa
open Go.Abs Go.Sand
theorem played_dag' {n : Nat} {eds : List PV} {d : List Int} {kx y1 y2 y3 : PV} {tab : List ADN} (ht : tab = playedD) {Q : AExit → St → Prop} (hn : n ≤ 1048576) (hd : d.length ≤ 1000000) (hQ : Q .normal (kS134 n eds d kx y1 y2 y3)) : W Try.prog 0 (.dag tab) Q (kS0 n eds d kx y1 y2 y3) := ht ▸ played_dag n eds d kx y1 y2 y3 hn hd hQ
theorem incL_bd : ∀ (l s : List Int) (i : Nat), s.getD i 0 ≤ (incL s l).getD i 0 ∧ (incL s l).getD i 0 ≤ s.getD i 0 + l.length
  | [], s, i => by simp [incL]
  | v :: l, s, i => by
    have h := incL_bd l (moreS s v.toNat 1) i
    have h2 : s.getD i 0 ≤ (moreS s v.toNat 1).getD i 0 ∧ (moreS s v.toNat 1).getD i 0 ≤ s.getD i 0 + 1 := by
      by_cases hv : v.toNat < s.length
      · rw [moreS_get _ _ _ hv]; split <;> omega
      · rw [moreS, List.set_eq_of_length_le (by omega)]; omega
    have e : incL s (v :: l) = incL (moreS s v.toNat 1) l := rfl
    rw [e, List.length_cons]
    push_cast
    omega
theorem rdS_bd {n : Nat} (hn : n ≤ 12) {es : List Ed} {q : Int} {d : List Int} (i : Nat) : ∀ k : Nat, 0 ≤ (rdS n es q d k).getD i 0 ∧ (rdS n es q d k).getD i 0 ≤ 12 * k
  | 0 => by
    rw [rdS, zeros_get]
    omega
  | k + 1 => by
    have ih := rdS_bd hn (es := es) (q := q) (d := d) i k
    have h := incL_bd (rdyL n es q (movedE es (rdS n es q d k) d)) (rdS n es q d k) i
    rw [rdS]
    have h12 := hn
    have hl := rdyK_len (n := n) (es := es) (q := q) (movedE es (rdS n es q d k) d) n
    have e : rdyL n es q (movedE es (rdS n es q d k) d) = rdyK n es q (movedE es (rdS n es q d k) d) n := rfl
    rw [e] at h ⊢
    push_cast
    omega
/-- What stands in the memory behind k rounds. -/
def plQ (n : Nat) (es : List Ed) (q kk a5 : Int) (c : List Int) (k f : Int) (s c2 : List Int) (lo : AO) : List AO :=
  [.box (.p (.agg [PV.i n, PV.sl (es.map edP)])), .box (.p (.i kk)), .box (.p .nil), .box (.p .nil), .box (.i 0), .box (.i a5), .box (.agg [.p (.is (valsL n es)), .p (.iss (rowsL n es)), .i q]),
   .box (.p (.is c)), .box (.os 11 0 n), .box (.i k), .box (.i f), rowI s, .box (.ptr 6 1 0 0), .box (.p (.is c2)), lo]
def plT (n : Nat) (d : List Int) : List (Nat × AV) := [(32, AV.fn (Fn.func 88) [] [AV.ptr 12 1 0 0, AV.ptr 13 1 0 0]), (31, AV.p (PV.is d)), (30, AV.ptr 6 1 0 0),
            (12, AV.ptr 6 1 0 0), (11, AV.ptr 5 1 0 0), (10, AV.ptr 4 1 0 0), (9, AV.ptr 3 1 0 0), (8, AV.ptr 2 1 0 0),
            (7, AV.ptr 1 1 0 0), (4, AV.ptr 0 1 0 0), (2, AV.p (PV.is d)), (25, AV.p (PV.is d)), (26, AV.p (PV.is d)),
            (27, AV.ptr 0 1 0 0), (28, AV.i n), (29, AV.os 11 0 n), (13, AV.ptr 7 1 0 0), (14, AV.ptr 8 1 0 0),
            (15, AV.ptr 9 1 0 0), (16, AV.ptr 10 1 0 0)]
noncomputable abbrev plL (t : List (Nat × AV)) (st : LSt) : AO := .lp 68 t [33, 34] rc54_0a rc54_0c st
section
variable {n : Nat} {es : List Ed} (hg : GoodG n es) {q kk : Int} {d : List Int}
include hg
theorem played_body {c s l c2 : List Int} {k f : Nat} (hs : s.length = n) (hk : k ≤ 2000000) (hf : f ≤ 1048576) (hl : l.length ≤ 12) (hsb : ∀ i, 0 ≤ s.getD i 0 ∧ s.getD i 0 ≤ 100000000) (hlv : ∀ v ∈ l, ∃ u : Nat, v = u ∧ u < n) {K' : AV → List AO → Prop} {t : List (Nat × AV)}
    (t7 : Abs.get t 7 = .ptr 1 1 0 0) (t8 : Abs.get t 8 = .ptr 2 1 0 0) (t9 : Abs.get t 9 = .ptr 3 1 0 0) (t10 : Abs.get t 10 = .ptr 4 1 0 0) (t11 : Abs.get t 11 = .ptr 5 1 0 0) (t13 : Abs.get t 13 = .ptr 7 1 0 0) (t14 : Abs.get t 14 = .ptr 8 1 0 0) (t15 : Abs.get t 15 = .ptr 9 1 0 0) (t16 : Abs.get t 16 = .ptr 10 1 0 0)
    (h1 : (k : Int) = kk → K' (.b false) (plQ n es q kk 0 c k f s c2 (plL t (.done (.exit 0)))))
    (h2 : (k : Int) ≠ kk → 1048576 < f + l.length → K' (.b false) (plQ n es q kk 12 c k (f + l.length) s c2 (plL t (.done .ret))))
    (h3 : (k : Int) ≠ kk → f + l.length ≤ 1048576 → K' (.b true) (plQ n es q kk 0 c2 (k + 1) (f + l.length) (incL s l) c2 (plL t .ready))) :
    HY Try.prog 14 [.p (.is l), .p (.is c2)] (plQ n es q kk 0 c k f s c2 (plL t .ready)) K' := by
  have hn := hg.n12
  refine HY_of_W rfl rcc54_0a rcc54_0c rfl rfl rfl rfl ?_
  unfold plQ
  by_cases e1 : (k : Int) = kk
  · subst e1
    simp -implicitDefEqProofs (disch := omega) [List.getElem?_cons_zero, List.getElem?_cons_succ, wrap_id, ra54_0a, ra54_0c, t7, t8, t9, t10, t11, t13, t14, t15, t16]
    exact h1 rfl
  by_cases e2 : 1048576 < f + l.length
  · have e2' : (1048576 : Int) < (f : Int) + l.length := by omega
    simp -implicitDefEqProofs (disch := omega) [List.getElem?_cons_zero, List.getElem?_cons_succ, wrap_id, ra54_0a, ra54_0c, t7, t8, t9, t10, t11, t13, t14, t15, t16, e1, e2']
    exact h2 e1 e2
  have e2' : ¬ (1048576 : Int) < (f : Int) + l.length := by omega
  simp -implicitDefEqProofs (disch := omega) [List.getElem?_cons_zero, List.getElem?_cons_succ, wrap_id, ra54_0a, ra54_0c, t7, t8, t9, t10, t11, t13, t14, t15, t16, e1, e2']
  refine loopW l.length (fun j st => st = ⟨[(46, .i j), (45, .i l.length), (44, .p (.is l)), (18, .p (.is c2)), (16, .ptr 10 1 0 0), (15, .ptr 9 1 0 0), (14, .ptr 8 1 0 0), (13, .ptr 7 1 0 0)], plQ n es q kk 0 c k (f + l.length) (incL s (l.take j)) c2 (plL t .busy)⟩) (Wk_keep [46, 45, 44, 18, 16, 15, 14, 13]) (by simp [Abs.get, t13, t14, t15, t16, plQ, incL]) ?_
  rintro j st hj rfl
  unfold plQ
  by_cases hlt : j < l.length
  · obtain ⟨u, hu, hun⟩ := hlv l[j] (List.getElem_mem hlt)
    obtain ⟨S, hS⟩ : ∃ S, S = incL s (l.take j) := ⟨_, rfl⟩
    have hSl : S.length = n := by rw [hS, incL_len, hs]
    have huS : u < S.length := by omega
    have hSb : 0 ≤ S[u] ∧ S[u] ≤ 100000012 := by
      have := incL_bd (l.take j) s u
      have h2 := hsb u
      rw [← hS, getD_get huS] at this
      rw [List.length_take] at this
      omega
    have hnx : incL s (l.take (j + 1)) = moreS S u 1 := by
      rw [List.take_add_one, List.getElem?_eq_getElem hlt, Option.toList_some, incL_snoc, hu, hS, Int.toNat_natCast]
    have hset : AO.row ((S.map PV.i).set u (PV.i (S[u] + 1))) 1 3 false = rowI (moreS S u 1) := by
      rw [moreS, getD_get huS, rowI, List.map_set]
    rw [← hS]
    simp -implicitDefEqProofs (disch := omega) [List.getElem?_cons_zero, List.getElem?_cons_succ, wrap_id, hlt, hu, hun, hSl, huS, hset]
    exact round_keep [46, 45, 44, 18, 16, 15, 14, 13] hlt (by rw [hnx]; rfl)
  · have hjl : j = l.length := by omega
    subst hjl
    rw [List.take_length]
    simp -implicitDefEqProofs (disch := omega) [List.getElem?_cons_zero, List.getElem?_cons_succ, wrap_id]
    exact h3 e1 (by omega)
end
theorem largeP_ok (c : List Int) (hc : c.length ≤ 1000) : PC Try.prog 46 [.is c] (.i (largeE c)) [] := by
  by_cases h0 : dcheck c c.length = 0
  · have e : largeE c = 0 := by rw [largeE, if_pos h0]
    refine PC_of_W cfn46 ?_
    simp -implicitDefEqProofs (disch := omega) [c46, List.getElem?_cons_zero, List.getElem?_cons_succ, wrap_id]
    refine HC_of_PC rfl (chk_ok c c.length (by omega)) ?_
    simp -implicitDefEqProofs (disch := omega) [List.getElem?_cons_zero, List.getElem?_cons_succ, wrap_id, h0]
    (refine fin0 trivial rfl ?_; simp -implicitDefEqProofs (disch := omega) [List.getElem?_cons_zero, List.getElem?_cons_succ, idx, wrap_id, e])
  · have e : largeE c = 11 := by rw [largeE, if_neg h0]
    refine PC_of_W cfn46 ?_
    simp -implicitDefEqProofs (disch := omega) [c46, List.getElem?_cons_zero, List.getElem?_cons_succ, wrap_id]
    refine HC_of_PC rfl (chk_ok c c.length (by omega)) ?_
    simp -implicitDefEqProofs (disch := omega) [List.getElem?_cons_zero, List.getElem?_cons_succ, wrap_id, h0]
    (refine fin0 trivial rfl ?_; simp -implicitDefEqProofs (disch := omega) [List.getElem?_cons_zero, List.getElem?_cons_succ, idx, wrap_id, e])
/-- What is played. -/
def plF (kk : Int) : Nat := if kk < 0 then 1048577 else kk.toNat
def playedR (n : Nat) (es : List Ed) (q : Int) (d : List Int) (kk : Int) : List Int × List Int × Int × Int :=
  if (wentN n es q d (plF kk) 0).2 = true then ([], [], 0, 12) else if largeE (rdC n es q d (wentN n es q d (plF kk) 0).1) = 0 then (rdC n es q d (wentN n es q d (plF kk) 0).1, rdS n es q d (wentN n es q d (plF kk) 0).1, (wentN n es q d (plF kk) 0).1, 0) else ([], [], 0, 11)
theorem largeE_or (c : List Int) : largeE c = 0 ∨ largeE c = 11 := by unfold largeE; split <;> simp
def PlI (n : Nat) (es : List Ed) (q : Int) (d : List Int) (F k : Nat) : Prop := k ≤ F ∧ wentN n es q d (F - k) k = wentN n es q d F 0 ∧ (k : Int) ≤ sumI (rdS n es q d k) ∧ sumI (rdS n es q d k) ≤ 1048576
def PlO (n : Nat) (es : List Ed) (q : Int) (d : List Int) (kk : Int) (H' : List AO) : Prop :=
  (∃ k x, wentN n es q d (plF kk) 0 = (k, false) ∧ H' = plQ n es q kk 0 (rdC n es q d k) k (sumI (rdS n es q d k)) (rdS n es q d k) x (plL (plT n d) (.done (.exit 0)))) ∨
  (∃ (k : Nat) (f : Int) (c s x : List Int), (wentN n es q d (plF kk) 0).2 = true ∧ H' = plQ n es q kk 12 c k f s x (plL (plT n d) (.done .ret)))
section
variable {n : Nat} {es : List Ed} (hg : GoodG n es) {q kk : Int} {d : List Int} (hd : d.length = n) (hdb : Bd 1000000000 d)
include hg hd hdb
set_option maxRecDepth 10000 in
theorem played_range (hkk : kk = -1 ∨ 0 ≤ kk ∧ kk ≤ 1048576) {K : AV → List AO → Prop}
    (hK0 : ∀ r k, wentN n es q d (plF kk) 0 = (k, false) → K r (plQ n es q kk 0 (rdC n es q d k) k (sumI (rdS n es q d k)) (rdS n es q d k) (rdC n es q d k) (plL (plT n d) .ready)))
    (hK1 : ∀ r H', PlO n es q d kk H' → K r H') :
    HC Try.prog false 88 [.yl 14, .ptr 12 1 0 0, .ptr 13 1 0 0] (plQ n es q kk 0 d 0 0 (List.replicate n 0) d (plL (plT n d) .ready)) K := by
  have hn := hg.n12
  have hF : plF kk = if kk < 0 then 1048577 else kk.toNat := rfl
  obtain ⟨F, hF2⟩ : ∃ F, F = plF kk := ⟨_, rfl⟩
  rw [← hF2] at hF
  have h0 : (plQ n es q kk 0 d 0 0 (List.replicate n 0) d (plL (plT n d) .ready)) = plQ n es q kk 0 (rdC n es q d 0) (0 : Nat) (sumI (rdS n es q d 0)) (rdS n es q d 0) (rdC n es q d 0) (plL (plT n d) .ready) := by
    rw [rdC_zero hg hd, rdS, sumI_zeros]; rfl
  rw [h0]
  refine rounds_range hg hd (N := 1048576) (ob := 12) (od := 13) (o := 6) (lp := 14) (I := PlI n es q d F) (Hk := fun k => plQ n es q kk 0 (rdC n es q d k) k (sumI (rdS n es q d k)) (rdS n es q d k) (rdC n es q d k) (plL (plT n d) .ready)) (Out := PlO n es q d kk)
    (fun k hI => (rdC_bd hg hd hdb (by omega) k).more (by have := hI.2.2; omega)) (fun k hI => by have := hI.2.2; omega) (by omega) (fun k => rfl) (fun k => rfl) (fun k => rfl) (fun k => ⟨_, rfl, rfl⟩) (fun k => List.all_eq_true.1 (by rfl)) (fun k => rfl)
    ⟨Nat.zero_le _, rfl, by rw [rdS, sumI_zeros]; omega, by rw [rdS, sumI_zeros]; omega⟩ ?_ ?_ hK1
  · rintro k ⟨hI1, hI2, hI3, hI4⟩ hne K' hT hF'
    obtain ⟨f, hf⟩ : ∃ f : Nat, sumI (rdS n es q d k) = f := ⟨(sumI (rdS n es q d k)).toNat, by omega⟩
    have hsum := rdS_sum (n := n) (es := es) (q := q) (d := d) k
    have h12 := rdyL_12 hg (q := q) (rdC n es q d k)
    have hpos : 0 < (rdyL n es q (rdC n es q d k)).length := List.length_pos_iff.2 hne
    have hkF : (k : Int) ≠ kk → ∃ g, F - k = g + 1 := fun h => ⟨F - k - 1, by
      rcases hkk with h2 | h2
      · rw [if_pos (by omega)] at hF; omega
      · rw [if_neg (by omega)] at hF; omega⟩
    show HY _ 14 _ (plQ n es q kk 0 (rdC n es q d k) k (sumI (rdS n es q d k)) (rdS n es q d k) (rdC n es q d (k + 1)) (plL (plT n d) .ready)) K'
    rw [hf] at hI3 hI4 hsum ⊢
    refine played_body hg (rdS_len k) (by omega) (by omega) h12 (fun i => by have := rdS_bd (n := n) (by omega) (es := es) (q := q) (d := d) i k; omega) (rdyL_lt _) rfl rfl rfl rfl rfl rfl rfl rfl rfl (fun e => ?_) (fun e h => ?_) (fun e h => ?_)
    · refine hF' _ (.inl ⟨k, rdC n es q d (k + 1), ?_, by rw [hf]⟩)
      rw [← hF2, ← hI2]
      rw [if_neg (by omega)] at hF
      rw [show F - k = 0 by omega]; rfl
    · refine hF' _ (.inr ⟨k, _, _, _, _, ?_, rfl⟩)
      obtain ⟨g, hg'⟩ := hkF e
      rw [← hF2, ← hI2, hg', wentN_succ, if_neg hne, if_pos (by omega)]
    · obtain ⟨g, hg'⟩ := hkF e
      have hw : wentN n es q d (F - (k + 1)) (k + 1) = wentN n es q d F 0 := by
        rw [← hI2, hg', wentN_succ, if_neg hne, if_neg (by omega)]
        congr 1
        omega
      have hT2 := hT (by omega) ⟨by omega, hw, by omega, by omega⟩
      have e1 : sumI (rdS n es q d (k + 1)) = (f : Int) + (rdyL n es q (rdC n es q d k)).length := by rw [hsum]
      have e2 : ((k + 1 : Nat) : Int) = (k : Int) + 1 := by push_cast; rfl
      rw [e1, e2] at hT2
      exact hT2
  · rintro k r ⟨hI1, hI2, hI3, hI4⟩ he
    refine hK0 r k ?_
    rw [← hF2, ← hI2]
    cases hg' : F - k with
    | zero => rfl
    | succ g => rw [wentN_succ, if_pos he]
set_option maxRecDepth 10000 in
set_option maxHeartbeats 1000000 in
theorem played_ok (hkk : kk = -1 ∨ 0 ≤ kk ∧ kk ≤ 1048576) (hel : es.length ≤ 1000) : PC Try.prog 54 [G n es, .i q, .is d, .i kk] (.tup [.p (.is (playedR n es q d kk).1), .p (.is (playedR n es q d kk).2.1), .i (playedR n es q d kk).2.2.1, .i (playedR n es q d kk).2.2.2]) [] := by
  have hn12 := hg.n12
  obtain ⟨R, e2⟩ : ∃ R, R = playedR n es q d kk := ⟨_, rfl⟩
  rw [← e2]
  rw [playedR] at e2
  refine PC_of_W cfn54 ?_
  simp -implicitDefEqProofs (disch := omega) [c54, List.getElem?_cons_zero, List.getElem?_cons_succ, wrap_id]
  refine HC_of_PC rfl (qof_ok n es q hg hel) ?_
  simp -implicitDefEqProofs (disch := omega) [List.getElem?_cons_zero, List.getElem?_cons_succ, wrap_id]
  refine wk_dag (Wk_keep [12, 11, 10, 9, 8, 7, 4, 2]) ?_
  refine played_dag' (by kernel_rfl) (by omega) (by omega) ?_
  unfold kS134
  simp -implicitDefEqProofs (disch := omega) [List.getElem?_cons_zero, List.getElem?_cons_succ, wrap_id]
  refine rounds_hc (by simp) (fun L => by simp) ?_
  simp -implicitDefEqProofs (disch := omega) [List.getElem?_cons_zero, List.getElem?_cons_succ, wrap_id]
  refine ⟨by kernel_rfl, ?_⟩
  rw [← List.map_replicate (f := PV.i)]
  refine played_range hg hd hdb hkk (fun r k hw => AfterR_ready rfl ?_) (fun r H' hO => ?_)
  · rw [hw, if_neg (by simp)] at e2
    dsimp only at e2
    unfold plQ
    have hcl := rdC_len (q := q) (es := es) hd k
    have hsl := rdS_len (n := n) (es := es) (q := q) (d := d) k
    simp -implicitDefEqProofs (disch := omega) [List.getElem?_cons_zero, List.getElem?_cons_succ, wrap_id]
    refine HC_of_PC rfl (largeP_ok (rdC n es q d k) (by omega)) ?_
    by_cases hL : largeE (rdC n es q d k) = 0
    · rw [hL, if_pos rfl] at e2
      rw [hL]
      simp -implicitDefEqProofs (disch := omega) [List.getElem?_cons_zero, List.getElem?_cons_succ, wrap_id]
      refine tree_join (s0 := ⟨[(8, .ptr 2 1 0 0), (9, .ptr 3 1 0 0), (10, .ptr 4 1 0 0), (11, .ptr 5 1 0 0)], [.box (.p (.agg [PV.i n, PV.sl (es.map edP)])), .box (.p (.i kk)), .box (.p (.is (rdC n es q d k))), .box (.os 11 0 n), .box (.i k), .box (.i 0), .box (.agg [.p (.is (valsL n es)), .p (.iss (rowsL n es)), .i q]),
        .box (.p (.is (rdC n es q d k))), .box (.os 11 0 n), .box (.i k), .box (.i (sumI (rdS n es q d k))), rowI (rdS n es q d k)]⟩) ?_ ?_
      · simp -implicitDefEqProofs (disch := omega) [List.getElem?_cons_zero, List.getElem?_cons_succ, wrap_id, hsl]
        (refine fin0 trivial rfl ?_; simp -implicitDefEqProofs (disch := omega) [List.getElem?_cons_zero, List.getElem?_cons_succ, idx, wrap_id, e2, hsl])
      · simp -implicitDefEqProofs (disch := omega) [List.getElem?_cons_zero, List.getElem?_cons_succ, wrap_id, hsl]
        repeat' (first
          | refine ⟨?_, ?_⟩
          | exact wk_norm [0, 1, 2, 3, 4, 5, 6, 7, 8, 9, 10, 11] [8, 9, 10, 11] rfl rfl)
    · have hL' : largeE (rdC n es q d k) = 11 := (largeE_or _).resolve_left hL
      rw [hL', if_neg (by omega)] at e2
      rw [hL']
      simp -implicitDefEqProofs (disch := omega) [List.getElem?_cons_zero, List.getElem?_cons_succ, wrap_id]
      refine finW (Wk_nilB 2 0 1 3 rfl rfl) ?_
      refine finW (Wk_nilB 3 0 1 3 rfl rfl) ?_
      (refine fin0 trivial rfl ?_; simp -implicitDefEqProofs (disch := omega) [List.getElem?_cons_zero, List.getElem?_cons_succ, idx, wrap_id, e2])
  · rcases hO with ⟨k, x, hw, rfl⟩ | ⟨k, f, c, s, x, hw, rfl⟩
    · refine AfterR_exit rfl ?_
      rw [hw, if_neg (by simp)] at e2
      dsimp only at e2
      unfold plQ
      have hcl := rdC_len (q := q) (es := es) hd k
      have hsl := rdS_len (n := n) (es := es) (q := q) (d := d) k
      simp -implicitDefEqProofs (disch := omega) [List.getElem?_cons_zero, List.getElem?_cons_succ, wrap_id]
      refine HC_of_PC rfl (largeP_ok (rdC n es q d k) (by omega)) ?_
      by_cases hL : largeE (rdC n es q d k) = 0
      · rw [hL, if_pos rfl] at e2
        rw [hL]
        simp -implicitDefEqProofs (disch := omega) [List.getElem?_cons_zero, List.getElem?_cons_succ, wrap_id]
        refine tree_join (s0 := ⟨[(8, .ptr 2 1 0 0), (9, .ptr 3 1 0 0), (10, .ptr 4 1 0 0), (11, .ptr 5 1 0 0)], [.box (.p (.agg [PV.i n, PV.sl (es.map edP)])), .box (.p (.i kk)), .box (.p (.is (rdC n es q d k))), .box (.os 11 0 n), .box (.i k), .box (.i 0), .box (.agg [.p (.is (valsL n es)), .p (.iss (rowsL n es)), .i q]),
          .box (.p (.is (rdC n es q d k))), .box (.os 11 0 n), .box (.i k), .box (.i (sumI (rdS n es q d k))), rowI (rdS n es q d k)]⟩) ?_ ?_
        · simp -implicitDefEqProofs (disch := omega) [List.getElem?_cons_zero, List.getElem?_cons_succ, wrap_id, hsl]
          (refine fin0 trivial rfl ?_; simp -implicitDefEqProofs (disch := omega) [List.getElem?_cons_zero, List.getElem?_cons_succ, idx, wrap_id, e2, hsl])
        · simp -implicitDefEqProofs (disch := omega) [List.getElem?_cons_zero, List.getElem?_cons_succ, wrap_id, hsl]
          repeat' (first
            | refine ⟨?_, ?_⟩
            | exact wk_norm [0, 1, 2, 3, 4, 5, 6, 7, 8, 9, 10, 11] [8, 9, 10, 11] rfl rfl)
      · have hL' : largeE (rdC n es q d k) = 11 := (largeE_or _).resolve_left hL
        rw [hL', if_neg (by omega)] at e2
        rw [hL']
        simp -implicitDefEqProofs (disch := omega) [List.getElem?_cons_zero, List.getElem?_cons_succ, wrap_id]
        refine finW (Wk_nilB 2 0 1 3 rfl rfl) ?_
        refine finW (Wk_nilB 3 0 1 3 rfl rfl) ?_
        (refine fin0 trivial rfl ?_; simp -implicitDefEqProofs (disch := omega) [List.getElem?_cons_zero, List.getElem?_cons_succ, idx, wrap_id, e2])
    · refine AfterR_ret rfl ?_
      rw [hw, if_pos rfl] at e2
      unfold plQ
      simp -implicitDefEqProofs (disch := omega) [List.getElem?_cons_zero, List.getElem?_cons_succ, wrap_id]
      refine finW (Wk_nilB 2 0 1 3 rfl rfl) ?_
      refine finW (Wk_nilB 3 0 1 3 rfl rfl) ?_
      (refine fin0 trivial rfl ?_; simp -implicitDefEqProofs (disch := omega) [List.getElem?_cons_zero, List.getElem?_cons_succ, idx, wrap_id, e2])
end
end Go.Proofs.Ytamiekhoaggpkaa
end
