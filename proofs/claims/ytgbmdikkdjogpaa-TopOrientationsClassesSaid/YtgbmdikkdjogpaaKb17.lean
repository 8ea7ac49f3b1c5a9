/-
  Texts joined: Acd Nn No Np Nq Nr.
-/
import Derived.Test.YtgbmdikkdjogpaaKb16

section
namespace Go
namespace Abs
open Go.RowKit
theorem HC_norm {P : Program} {e : Bool} {f : FuncId} {args : List AV} {H : List AO} {K : AV → List AO → Prop} (h : HC P e f args H fun r H' => ∃ σ, okσ σ H.length H' = true ∧ K (r.ren H' (idx σ 0)) (renH σ H')) : HC P e f args H K := by
  intro M vs hM hH ha
  refine (h M vs hM hH ha).mono ?_
  rintro en w' ⟨v, r, H', φ', rfl, ⟨σ, hσ, hK⟩, hM', hle, hrv, hbel, hext⟩
  subst hH
  obtain ⟨M', e1, e2, e3, e4, hM'', hle', -, hx⟩ := mem_norm (M := ⟨w', H', φ', M.base, M.S⟩) hM' hle rfl hσ
  obtain ⟨w1, H1, φ1, base1, S1⟩ := M'
  dsimp only at e1 e2 e3 e4
  subst e1 e2 e3 e4
  exact ⟨v, _, _, φ1, rfl, hK, hM'', hle', hx hrv, hbel, hext⟩
theorem HY_norm {P : Program} {o : Nat} {args : List AV} {H : List AO} {K : AV → List AO → Prop} (h : HY P o args H fun r H' => ∃ σ, okσ σ H.length H' = true ∧ K (r.ren H' (idx σ 0)) (renH σ H')) : HY P o args H K := by
  intro M vs hM hH ha b hb
  obtain ⟨fn, tm, x, y, h1, h2⟩ := h M vs hM hH ha b hb
  refine ⟨fn, tm, x, y, h1, h2.mono ?_⟩
  rintro en w' ⟨v, r, H', φ', rfl, ⟨σ, hσ, hK⟩, hM', hle, hrv, hbel⟩
  subst hH
  obtain ⟨M', e1, e2, e3, e4, hM'', hle', -, hx⟩ := mem_norm (M := ⟨w', H', φ', M.base, M.S⟩) hM' hle rfl hσ
  obtain ⟨w1, H1, φ1, base1, S1⟩ := M'
  dsimp only at e1 e2 e3 e4
  subst e1 e2 e3 e4
  exact ⟨v, _, _, φ1, rfl, hK, hM'', hle', hx hrv, hbel⟩
theorem renH_range (A B : List AO) : renH (List.range A.length) (A ++ B) = A.map fun ob => ob.ren (A ++ B) (idx (List.range A.length) 0) := by
  unfold renH
  apply List.ext_getElem?
  intro i
  by_cases h : i < A.length
  · simp [h, List.getD_eq_getElem?_getD, List.getElem?_append_left h]
  · simp [h]
theorem idx_range_none {n o : Nat} (h : n ≤ o) : idx (List.range n) 0 o = none := by
  cases hi : idx (List.range n) 0 o with
  | none => rfl
  | some j =>
    obtain ⟨_, h2⟩ := idx_some hi
    have hj := (List.getElem?_eq_some_iff.1 h2)
    obtain ⟨hj1, hj2⟩ := hj
    simp at hj1 hj2
    omega
theorem map_ren_lo {A : List AO} {m : Nat} (h : ∀ ob ∈ A, loO m ob = true) {n : Nat} (hmn : m ≤ n) (H : List AO) : A.map (fun ob => ob.ren H (idx (List.range n) 0)) = A := by
  conv => rhs; rw [← List.map_id A]
  exact List.map_congr_left fun ob hob => loO_ren (fun i hi => idx_range (by omega)) ob (h ob hob)
end Abs
end Go
end
section
set_option linter.unusedSimpArgs false
set_option linter.unusedVariables false
namespace Go.Sand
theorem numB_pow : ∀ m, numB m (2 ^ m) = List.replicate m false
  | 0 => rfl
  | m + 1 => by
    rw [numB, Nat.pow_succ, Nat.mul_div_cancel _ (by omega), numB_pow m, List.replicate_succ', show 2 ^ m * 2 % 2 = 0 by omega]
    rfl
end Go.Sand
namespace Go.Proofs.Ytgbmdikkdjogpaa
open Go.Abs Go.Sand
theorem orientations_ok (m : Nat) : PC Try.prog 28 [.i m] (.fn (.func 47) [] [.ptr 0 1 0 0]) [.box (.p (.i m))] := by
  refine PC_of_W cfn28 ?_
  simp -implicitDefEqProofs (disch := omega) [c28, List.getElem?_cons_zero, List.getElem?_cons_succ, wrap_id]
  exact fin1 [0] trivial rfl (by rfl) ⟨rfl, rfl⟩
theorem orients_range {m L ni lp : Nat} {Hk : Nat → List Bool → List AO} {Hi : List AO} {lo : AO} {K : AV → List AO → Prop} (hm : m ≤ 1000) (hL : Hi.length = L) (hn : Hi[ni]? = some (.box (.p (.i m))))
    (h2 : ∀ k b, (Hk k b)[L]? = some (rowB b)) (h1 : ∀ k b, (Hk k b)[ni]? = some (.box (.p (.i m)))) (h3 : ∀ k b, (Hk k b)[lp]? = some lo) (hlo : lo.len = 1) (h4 : ∀ k b b', (Hk k b).set L (rowB b') = Hk k b')
    (hw : ∀ T, Wk Hi.length ⟨T, Hi ++ [rowB (numB m 0)]⟩ ⟨T, Hk 0 (numB m 0)⟩)
    (hy : ∀ k, k < 2 ^ m → ∀ K' : AV → List AO → Prop, K' (.b true) (Hk (k + 1) (numB m k)) → HY Try.prog lp [.os L 0 m] (Hk k (numB m k)) K') (hK : ∀ r b, K r (Hk (2 ^ m) b)) :
    HC Try.prog false 47 [.yl lp, .ptr ni 1 0 0] Hi K := by
  have hm2 : m ≤ 1048576 := by omega
  have hpos : 0 < 2 ^ m := Nat.pow_pos (by omega)
  have e0 : List.replicate m (PV.v (Value.bool false)) = (numB m 0).map PV.b := by rw [numB_zero, List.map_replicate]
  subst hL
  refine HC_of_W (af := _) ((by exact cfn47 : cfn _ _ _ = some _)) ?_
  simp -implicitDefEqProofs (disch := omega) [c47, List.getElem?_cons_zero, List.getElem?_cons_succ, wrap_id, hn, hm2]
  rw [e0]
  refine loopW (2 ^ m) (fun k s => s = ⟨[(3, .os Hi.length 0 m), (0, .yl lp), (1, .ptr ni 1 0 0)], Hk k (numB m k)⟩ ∧ k < 2 ^ m) ((hw _).trans (Wk_keep [3, 0, 1])) ⟨rfl, hpos⟩ ?_
  rintro k s hk ⟨rfl, hkl⟩
  have hnl := numB_len m k
  simp -implicitDefEqProofs (disch := omega) [List.getElem?_cons_zero, List.getElem?_cons_succ, wrap_id, h3]
  refine ⟨hlo, hy k hkl _ ?_⟩
  simp -implicitDefEqProofs (disch := omega) [List.getElem?_cons_zero, List.getElem?_cons_succ, wrap_id, h1]
  refine loopW m (fun j s => s = ⟨[(4, .i ((m : Int) - 1 - j)), (3, .os Hi.length 0 m), (0, .yl lp), (1, .ptr ni 1 0 0)], Hk (k + 1) ((numB m k).take (m - j) ++ List.replicate j false)⟩ ∧ ∀ i, m - j ≤ i → i < m → (numB m k)[i]? = some true) (Wk_keep [4, 3, 0, 1]) ⟨by
    have e5 : (numB m k).take (m - 0) ++ List.replicate 0 false = numB m k := by rw [Nat.sub_zero, List.take_of_length_le (by omega)]; simp
    rw [e5]; simp [Abs.get], fun i h1 h2 => by omega⟩ ?_
  rintro j s hj ⟨rfl, hI⟩
  have hbl : ((numB m k).take (m - j) ++ List.replicate j false).length = m := by rw [List.length_append, List.length_take, List.length_replicate]; omega
  by_cases hlj : j < m
  · obtain ⟨v, hv⟩ : ∃ v, v = m - 1 - j := ⟨_, rfl⟩
    have hvm : v < m := by omega
    have hx : (m : Int) - 1 - j = (v : Int) := by omega
    have hv0 : (0 : Int) ≤ (v : Int) := by omega
    have hv1 : ¬ (v : Int) < 0 := by omega
    have hat : ((numB m k).take (m - j) ++ List.replicate j false)[v]'(by omega) = (numB m k)[v]'(by omega) := by
      rw [List.getElem_append_left (by rw [List.length_take]; omega), List.getElem_take]
    have hvg : (numB m k)[v]? = some ((numB m k)[v]'(by omega)) := List.getElem?_eq_getElem _
    have hcut : (numB m k).take (m - j) = (numB m k).take v ++ [(numB m k)[v]'(by omega)] := by
      rw [show m - j = v + 1 by omega, List.take_succ_eq_append_getElem (by omega)]
    have hset : ∀ x, ((numB m k).take (m - j) ++ List.replicate j false).set v x = (numB m k).take v ++ x :: List.replicate j false := fun x => by
      have htl : ((numB m k).take v).length = v := by rw [List.length_take]; omega
      rw [hcut, List.append_assoc, List.set_append_right _ _ (by omega), htl, Nat.sub_self]
      rfl
    obtain ⟨B, hB⟩ : ∃ B, B = (numB m k).take (m - j) ++ List.replicate j false := ⟨_, rfl⟩
    rw [hx]
    simp only [← hB] at hbl hat hset ⊢
    have hvB : v < B.length := by omega
    cases hb : (numB m k)[v]'(by omega)
    · rw [hb] at hat hvg
      have hinc := numB_inc m k j hlj hI (by rw [← hv]; exact hvg)
      rw [← hv] at hinc
      have hs1 := hset true
      rw [← hinc] at hs1
      have hk1 : k + 1 < 2 ^ m := by
        refine Classical.byContradiction fun h => ?_
        have hke : k + 1 = 2 ^ m := by omega
        rw [hke, numB_pow] at hinc
        have := congrArg (fun l => l[v]?) hinc
        have htl : ((numB m k).take v).length = v := by rw [List.length_take]; omega
        simp only [List.getElem?_append_right (Nat.le_of_eq htl), htl, Nat.sub_self, List.getElem?_cons_zero, List.getElem?_replicate, hvm, if_true] at this
        cases this
      have hms : (B.map PV.b).set v (PV.v (Value.bool true)) = (numB m (k + 1)).map PV.b := by rw [← hs1, List.map_set]
      have h4' : ∀ l, (Hk (k + 1) B).set Hi.length (.row ((numB m (k + 1)).map PV.b) 1 4 false) = l → l = Hk (k + 1) (numB m (k + 1)) := fun l hl => by rw [← hl]; exact h4 _ _ _
      simp -implicitDefEqProofs (disch := omega) [List.getElem?_cons_zero, List.getElem?_cons_succ, wrap_id, h2, hv0, hv1, hbl, hvm, hvB, hat, hms, h4]
      exact round_keep [3, 0, 1] (by omega) ⟨rfl, hk1⟩
    · rw [hb] at hat hvg
      obtain ⟨C, hC⟩ : ∃ C, C = (numB m k).take v ++ false :: List.replicate j false := ⟨_, rfl⟩
      have hs1 := hset false
      rw [← hC] at hs1
      have hms : (B.map PV.b).set v (PV.v (Value.bool false)) = C.map PV.b := by rw [← hs1, List.map_set]
      simp -implicitDefEqProofs (disch := omega) [List.getElem?_cons_zero, List.getElem?_cons_succ, wrap_id, h2, hv0, hv1, hbl, hvm, hvB, hat, hms, h4]
      refine round_keep [4, 3, 0, 1] hlj ⟨?_, fun i hi1 hi2 => ?_⟩
      · rw [show m - (j + 1) = v by omega, List.replicate_succ, ← hC]
        have e3 : (v : Int) - 1 = (m : Int) - 1 - ((j + 1 : Nat) : Int) := by omega
        rw [← e3]
        simp [Abs.get, h4]
      · by_cases e : i = v
        · rw [e]; exact hvg
        · exact hI i (by omega) hi2
  · have hje : j = m := by omega
    subst hje
    have hfull := numB_full j k hkl (fun i hi => hI i (by omega) hi)
    have e1 : (j : Int) - 1 - (j : Int) = -1 := by omega
    rw [e1, hfull]
    simp -implicitDefEqProofs (disch := omega) [List.getElem?_cons_zero, List.getElem?_cons_succ, wrap_id]
    exact finH trivial rfl (hK _ _)
end Go.Proofs.Ytgbmdikkdjogpaa
end
section
set_option linter.unusedSimpArgs false
set_option linter.unusedVariables false
namespace Go.Abs
end Go.Abs
namespace Go.Sand
end Go.Sand
namespace Go.Proofs.Ytgbmdikkdjogpaa
open Go.Abs Go.Sand
theorem app_0 {α : Type} (A L : List α) : (A ++ L)[A.length]? = L[0]? := by rw [List.getElem?_append_right (Nat.le_refl _), Nat.sub_self]
theorem app_i {α : Type} (A L : List α) (i : Nat) : (A ++ L)[A.length + i]? = L[i]? := by rw [List.getElem?_append_right (by omega), Nat.add_sub_cancel_left]
theorem calm_rowB (b : List Bool) : (b.map PV.b).all calmP = true := by simp [List.all_map, calmP]
theorem cloneN_hc {e : Bool} {A Z H : List AO} {x n : Nat} {b : List Bool} {K : AV → List AO → Prop} (he : H = A ++ Z) (hA : ∀ ob ∈ A, loO A.length ob = true) (hx : (A ++ Z)[x]? = some (rowB b)) (hn : b.length = n) (hb : n ≤ 1000000)
    (hK : ∀ Z', K (.p (.bo b)) (A ++ Z')) : HC Try.prog e 24 [.os x 0 n] H K := by
  subst hn he
  refine HC_norm (HC_of_PC (by simp [views, view, viewC, ownEls, hx]) (cloneB_ok b hb) ?_)
  have hc := calm_rowB b
  refine ⟨List.range (A ++ Z).length, okσ_range (Nat.le_refl _) (by simp [hpast, hc, calmA, calmO]), ?_⟩
  have hh : hpast (A ++ Z) [.os x 0 b.length] (.os 0 0 b.length) [rowB b] = (A ++ Z) ++ [rowB b] := by
    simp [hpast, hc, calmA, calmO, AO.ren]
  have h0 : (AV.os 0 0 b.length).ren [rowB b] (fun o => some (o + (A ++ Z).length)) = .os (A ++ Z).length 0 b.length := by
    simp [AV.ren]
  rw [hh, h0, renH_range, List.map_append, map_ren_lo hA (by simp)]
  have hr : (AV.os (A ++ Z).length 0 b.length).ren ((A ++ Z) ++ [rowB b]) (Abs.idx (List.range (A ++ Z).length) 0) = .p (.bo b) := by
    rw [AV.ren, idx_range_none (Nat.le_refl _)]
    simp
  rw [hr]
  exact hK _
theorem loL_bos (n : Nat) (l : List (List Bool)) : loL n (l.map fun o => AV.p (.bo o)) = true := by
  induction l with
  | nil => rfl
  | cons x l ih => rw [List.map_cons, loL, ih]; rfl
attribute [local simp ↓ 10000] lit_shl
attribute [local simp] app_0 app_i
section
variable {n : Nat} {es : List Ed} {f : FuncId} {caps : List AV} {H0 : List AO} {p : List Bool → Bool}
end
end Go.Proofs.Ytgbmdikkdjogpaa
end
section
set_option linter.unusedSimpArgs false
set_option linter.unusedVariables false
namespace Go.Sand
end Go.Sand
namespace Go.Proofs.Ytgbmdikkdjogpaa
open Go.Abs Go.Sand
theorem calm_rowZ (c : List Int) : (c.map PV.i).all calmP = true := by simp [List.all_map, calmP]
attribute [local simp] app_0 app_i
end Go.Proofs.Ytgbmdikkdjogpaa
end
section
set_option linter.unusedSimpArgs false
set_option linter.unusedVariables false
namespace Go.Sand
end Go.Sand
namespace Go.Proofs.Ytgbmdikkdjogpaa
open Go.Abs Go.Sand
theorem renL_bos (l : List (List Bool)) (H : List AO) (ρ : Nat → Option Nat) : renL H ρ (l.map fun o => AV.p (.bo o)) = l.map fun o => AV.p (.bo o) := loL_ren (m := 0) (fun i h => by omega) _ (loL_bos 0 _)
end Go.Proofs.Ytgbmdikkdjogpaa
end
section
set_option linter.unusedSimpArgs false
set_option linter.unusedVariables false
namespace Go.Sand
/-- The cut of a set of marks reversed. -/
def turn1 (ins : List Bool) (p : Int × Int) (d : Bool) : Bool := if (mkB ins p.1 != mkB ins p.2) = true then !d else d
def turnL (es : List Ed) (ins o : List Bool) : List Bool := ((endsL es).zip o).map fun x => turn1 ins x.1 x.2
theorem turnL_len {es : List Ed} {ins o : List Bool} (h : o.length = (endsL es).length) : (turnL es ins o).length = (endsL es).length := by simp [turnL, h]
theorem turnL_at {es : List Ed} {ins o : List Bool} (h : o.length = (endsL es).length) (k : Nat) (hk : k < (endsL es).length) : (turnL es ins o)[k]'(by rw [turnL_len h]; exact hk) = turn1 ins (endsL es)[k] (o[k]'(by omega)) := by simp [turnL]
theorem inL_mem_bd {n : Nat} {es : List Ed} (hg : ∀ x ∈ es, Right (n : Int) x) {o : List Bool} (hol : o.length = (endsL es).length) {x : Int} (hx : x ∈ inL n es o) : 0 ≤ x ∧ x ≤ (endsL es).length := by
  obtain ⟨v, hv, rfl⟩ := List.mem_iff_getElem.1 hx
  have hv' : v < n := by rw [inL_len] at hv; exact hv
  rw [← getD_get hv]
  unfold inL
  rw [degL_get (fun u hu => (hdsL_mem hg u hu).1) v hv']
  have h1 : (hdsL es o).count (v : Int) ≤ (hdsL es o).length := List.count_le_length
  rw [hdsL_len, arwsL_len hol] at h1
  omega
end Go.Sand
namespace Go.Proofs.Ytgbmdikkdjogpaa
open Go.Abs Go.Sand
theorem wrap8 {x : Int} (h1 : 0 ≤ x) (h2 : x < 256) : IntKind.u8.wrap x = x := by
  simp [IntKind.wrap, IntKind.bits, IntKind.signed]
  omega
abbrev byP (n : Int) : PV := .v (.int .u8 n)
abbrev rowY (c : List Int) : AO := .row (c.map byP) 1 5 false
theorem bytesL_map : ∀ l : List Int, bytesL (l.map byP) = some l
  | [] => rfl
  | x :: l => by rw [List.map_cons, bytesL, bytesL_map l]; rfl
abbrev _root_.Go.Abs.PV.st (l : List Int) : PV := .v (.string (strN l))
theorem aev_str {t : List (Nat × AV)} {x : ByteArray} : aev t (.const (.string x)) = some (.p (.v (.string x))) := rfl
attribute [local simp] aev_str
theorem key_ok (l : List Int) (hl : l.length ≤ 1000) (hb : ∀ x ∈ l, 0 ≤ x ∧ x < 256) : PC Try.prog 29 [.is l] (.p (.st l)) [] := by
  have hl2 : l.length ≤ 1048576 := by omega
  refine PC_of_W cfn29 ?_
  simp -implicitDefEqProofs (disch := omega) [c29, List.getElem?_cons_zero, List.getElem?_cons_succ, wrap_id, hl2]
  refine loopW l.length (fun k s => s = ⟨[(11, .i k), (10, .i l.length), (9, .p (.is l)), (3, .os 0 0 l.length)], [rowY (l.take k ++ List.replicate (l.length - k) 0)]⟩) (wk_norm [0] [11, 10, 9, 3] rfl rfl) (by simp only [rowY, List.map_replicate, List.take_zero, List.nil_append, Nat.sub_zero]; rfl) ?_
  rintro k s hk rfl
  by_cases hlt : k < l.length
  · have hbk := hb _ (List.getElem_mem hlt)
    have hwr := wrap8 hbk.1 hbk.2
    have htl : (l.take k).length = k := by rw [List.length_take]; omega
    have hln : (l.take k ++ List.replicate (l.length - k) 0).length = l.length := by rw [List.length_append, htl, List.length_replicate]; omega
    have hset : (l.take k ++ List.replicate (l.length - k) 0).set k l[k] = l.take (k + 1) ++ List.replicate (l.length - (k + 1)) 0 := by
      rw [List.set_append_right _ _ (by omega), htl, Nat.sub_self, show l.length - k = (l.length - (k + 1)) + 1 by omega, List.replicate_succ, List.set_cons_zero, List.take_succ_eq_append_getElem hlt, List.append_assoc]
      rfl
    obtain ⟨D, hD⟩ : ∃ D, D = l.take k ++ List.replicate (l.length - k) 0 := ⟨_, rfl⟩
    rw [← hD] at hln hset ⊢
    have hkD : k < D.length := by omega
    simp -implicitDefEqProofs (disch := omega) [List.getElem?_cons_zero, List.getElem?_cons_succ, wrap_id, hlt, hln, hkD, hwr]
    exact round_end [0] [11, 10, 9, 3] hlt rfl (by rw [← hset, rowY, List.map_set]; rfl)
  · have hke : k = l.length := by omega
    have e1 : l.take k ++ List.replicate (l.length - k) 0 = l := by rw [hke, List.take_length, Nat.sub_self]; simp
    have hbm := bytesL_map l
    rw [e1]
    simp -implicitDefEqProofs (disch := omega) [List.getElem?_cons_zero, List.getElem?_cons_succ, wrap_id, hlt, hbm]
    (refine fin0 trivial rfl ?_; simp -implicitDefEqProofs (disch := omega) [List.getElem?_cons_zero, List.getElem?_cons_succ, idx, wrap_id])
theorem turned_ok (n : Nat) (es : List Ed) (o ins : List Bool) (hg : gcheck n es = 0) (hel : es.length ≤ 1000) (hol : o.length = (endsL es).length) (hi : ins.length = n) :
    PC Try.prog 31 [G n es, .bo o, .bo ins] (.os 0 0 (endsL es).length) [rowB (turnL es ins o)] := by
  have hgood := gcheck_ok hg
  have he := endsL_len hgood.right
  refine PC_of_W cfn31 ?_
  simp -implicitDefEqProofs (disch := omega) [c31, List.getElem?_cons_zero, List.getElem?_cons_succ, wrap_id]
  refine HC_of_PC rfl (cloneB_ok o (by omega)) ?_
  simp -implicitDefEqProofs (disch := omega) [List.getElem?_cons_zero, List.getElem?_cons_succ, wrap_id]
  refine HC_of_PC rfl (gends_ok n es hel hg) ?_
  simp -implicitDefEqProofs (disch := omega) [List.getElem?_cons_zero, List.getElem?_cons_succ, wrap_id]
  refine loopW (endsL es).length (fun k s => s = ⟨[(21, .i k), (20, .i (endsL es).length), (19, .p (.ps (endsL es))), (7, .os 0 0 o.length), (2, .p (.bo ins))], [rowB ((turnL es ins o).take k ++ o.drop k)]⟩) (wk_norm [1] [21, 20, 19, 7, 2] rfl rfl) rfl ?_
  rintro k s hk rfl
  have htl := turnL_len (es := es) (ins := ins) hol
  by_cases hlt : k < (endsL es).length
  · obtain ⟨m1, m2, m3⟩ := endsL_mem hgood.right _ (List.getElem_mem hlt)
    obtain ⟨u, hu⟩ : ∃ u : Nat, (endsL es)[k].1 = u := ⟨(endsL es)[k].1.toNat, by omega⟩
    obtain ⟨v, hv⟩ : ∃ v : Nat, (endsL es)[k].2 = v := ⟨(endsL es)[k].2.toNat, by omega⟩
    have hun : u < ins.length := by omega
    have hvn : v < ins.length := by omega
    have hko : k < o.length := by omega
    have hkt : k < (turnL es ins o).length := by omega
    have hat := turnL_at (ins := ins) hol k hlt
    have ht1 : turn1 ins (endsL es)[k] o[k] = if (ins[u] != ins[v]) = true then !o[k] else o[k] := by simp only [turn1, mkB, hu, hv, Int.toNat_natCast, getDB_get hun, getDB_get hvn]
    have htk : ((turnL es ins o).take k).length = k := by rw [List.length_take]; omega
    have hDl : ((turnL es ins o).take k ++ o.drop k).length = o.length := by rw [List.length_append, htk, List.length_drop]; omega
    have hDk : ((turnL es ins o).take k ++ o.drop k)[k]'(by omega) = o[k] := by
      rw [List.getElem_append_right (by omega)]
      simp [htk, List.getElem_drop, Nat.min_eq_left (show k ≤ (turnL es ins o).length by omega)]
    have hset : ((turnL es ins o).take k ++ o.drop k).set k (turnL es ins o)[k] = (turnL es ins o).take (k + 1) ++ o.drop (k + 1) := by
      rw [List.set_append_right _ _ (by omega), htk, Nat.sub_self, List.drop_eq_getElem_cons hko, List.set_cons_zero, List.take_succ_eq_append_getElem hkt, List.append_assoc]
      rfl
    rw [hat, ht1] at hset
    obtain ⟨D, hD⟩ : ∃ D, D = (turnL es ins o).take k ++ o.drop k := ⟨_, rfl⟩
    simp only [← hD] at hDl hDk hset ⊢
    have hkD : k < D.length := by omega
    cases hx : (ins[u] != ins[v])
    · rw [hx] at hset
      simp only [Bool.false_eq_true, if_false] at hset
      simp -implicitDefEqProofs (disch := omega) [List.getElem?_cons_zero, List.getElem?_cons_succ, wrap_id, hlt, hu, hv, hun, hvn, hx, hDl, hkD, hDk]
      refine round_end [0] [21, 20, 19, 7, 2] hlt rfl ?_
      rw [← hset, ← hDk, List.set_getElem_self]
      rfl
    · rw [hx, if_pos rfl] at hset
      simp -implicitDefEqProofs (disch := omega) [List.getElem?_cons_zero, List.getElem?_cons_succ, wrap_id, hlt, hu, hv, hun, hvn, hx, hDl, hko, hkD, hDk]
      exact round_end [0] [21, 20, 19, 7, 2] hlt rfl (by rw [← hset, rowB, List.map_set]; rfl)
  · have hke : k = (endsL es).length := by omega
    have e1 : (turnL es ins o).take k ++ o.drop k = turnL es ins o := by rw [hke, ← htl, List.take_length, List.drop_of_length_le (by omega), List.append_nil]
    rw [e1, hol]
    simp -implicitDefEqProofs (disch := omega) [List.getElem?_cons_zero, List.getElem?_cons_succ, wrap_id, hlt]
    exact fin1 [0] trivial rfl (by rfl) ⟨rfl, rfl⟩
end Go.Proofs.Ytgbmdikkdjogpaa
end
