/-
  Contracts: all orientations, one after the other.
-/
import Derived.Test.YtjinjbcdbkgedaaNl
import Derived.Test.YtjinjbcdbkgedaaNm
import Derived.Test.YtjinjbcdbkgedaaAcd
set_option linter.unusedSimpArgs false
set_option linter.unusedVariables false
namespace Go.Sand
theorem numB_pow : ∀ m, numB m (2 ^ m) = List.replicate m false
  | 0 => rfl
  | m + 1 => by
    rw [numB, Nat.pow_succ, Nat.mul_div_cancel _ (by omega), numB_pow m, List.replicate_succ', show 2 ^ m * 2 % 2 = 0 by omega]
    rfl
end Go.Sand
namespace Go.Proofs.Ytjinjbcdbkgedaa
open Go.Abs Go.Sand

theorem orientations_ok (m : Nat) : PC Try.prog 57 [.i m] (.fn (.func 90) [] [.ptr 0 1 0 0]) [.box (.p (.i m))] := by
  refine PC_of_W cfn57 ?_
  simp -implicitDefEqProofs (disch := omega) [c57, List.getElem?_cons_zero, List.getElem?_cons_succ, wrap_id]
  exact fin1 [0] trivial rfl (by rfl) ⟨rfl, rfl⟩
theorem orients_range {m L ni lp : Nat} {Hk : Nat → List Bool → List AO} {Hi : List AO} {lo : AO} {K : AV → List AO → Prop} (hm : m ≤ 1000) (hL : Hi.length = L) (hn : Hi[ni]? = some (.box (.p (.i m))))
    (h2 : ∀ k b, (Hk k b)[L]? = some (rowB b)) (h1 : ∀ k b, (Hk k b)[ni]? = some (.box (.p (.i m)))) (h3 : ∀ k b, (Hk k b)[lp]? = some lo) (hlo : lo.len = 1) (h4 : ∀ k b b', (Hk k b).set L (rowB b') = Hk k b')
    (hw : ∀ T, Wk Hi.length ⟨T, Hi ++ [rowB (numB m 0)]⟩ ⟨T, Hk 0 (numB m 0)⟩)
    (hy : ∀ k, k < 2 ^ m → ∀ K' : AV → List AO → Prop, K' (.b true) (Hk (k + 1) (numB m k)) → HY Try.prog lp [.os L 0 m] (Hk k (numB m k)) K') (hK : ∀ r b, K r (Hk (2 ^ m) b)) :
    HC Try.prog false 90 [.yl lp, .ptr ni 1 0 0] Hi K := by
  have hm2 : m ≤ 1048576 := by omega
  have hpos : 0 < 2 ^ m := Nat.pow_pos (by omega)
  have e0 : List.replicate m (PV.v (Value.bool false)) = (numB m 0).map PV.b := by rw [numB_zero, List.map_replicate]
  subst hL
  refine HC_of_W (af := _) ((by exact cfn90 : cfn _ _ _ = some _)) ?_
  simp -implicitDefEqProofs (disch := omega) [c90, List.getElem?_cons_zero, List.getElem?_cons_succ, wrap_id, hn, hm2]
  rw [e0]
  refine loopW (2 ^ m) (fun k s => s = ⟨[(3, .os Hi.length 0 m), (0, .yl lp), (1, .ptr ni 1 0 0)], Hk k (numB m k)⟩ ∧ k < 2 ^ m) ((hw _).trans (Wk_keep [3, 0, 1])) ⟨rfl, hpos⟩ ?_
  rintro k s hk ⟨rfl, hkl⟩
  have hnl := numB_len m k
  simp -implicitDefEqProofs (disch := omega) [List.getElem?_cons_zero, List.getElem?_cons_succ, wrap_id, h3]
  refine ⟨hlo, hy k hkl _ ?_⟩
  simp -implicitDefEqProofs (disch := omega) [List.getElem?_cons_zero, List.getElem?_cons_succ, wrap_id, h1]
  refine loopW m (fun j s => s = ⟨[(4, .i ((m : Int) - 1 - j)), (3, .os Hi.length 0 m), (0, .yl lp), (1, .ptr ni 1 0 0)], Hk (k + 1) ((numB m k).take (m - j) ++ List.replicate j false)⟩ ∧ ∀ i, m - j ≤ i → i < m → (numB m k)[i]? = some true) (Wk_keep [4, 3, 0, 1]) ⟨by
    have e5 : (numB m k).take (m - 0) ++ List.replicate 0 false = numB m k := by rw [Nat.sub_zero, List.take_of_length_le (by omega)]; simp
    rw [e5]; simp [Abs.get], fun i h1 h2 => by omega⟩ ?_
  rintro j s hj ⟨rfl, hI⟩
  have hbl : ((numB m k).take (m - j) ++ List.replicate j false).length = m := by rw [List.length_append, List.length_take, List.length_replicate]; omega
  by_cases hlj : j < m
  · obtain ⟨v, hv⟩ : ∃ v, v = m - 1 - j := ⟨_, rfl⟩
    have hvm : v < m := by omega
    have hx : (m : Int) - 1 - j = (v : Int) := by omega
    have hv0 : (0 : Int) ≤ (v : Int) := by omega
    have hv1 : ¬ (v : Int) < 0 := by omega
    have hat : ((numB m k).take (m - j) ++ List.replicate j false)[v]'(by omega) = (numB m k)[v]'(by omega) := by
      rw [List.getElem_append_left (by rw [List.length_take]; omega), List.getElem_take]
    have hvg : (numB m k)[v]? = some ((numB m k)[v]'(by omega)) := List.getElem?_eq_getElem _
    have hcut : (numB m k).take (m - j) = (numB m k).take v ++ [(numB m k)[v]'(by omega)] := by
      rw [show m - j = v + 1 by omega, List.take_succ_eq_append_getElem (by omega)]
    have hset : ∀ x, ((numB m k).take (m - j) ++ List.replicate j false).set v x = (numB m k).take v ++ x :: List.replicate j false := fun x => by
      have htl : ((numB m k).take v).length = v := by rw [List.length_take]; omega
      rw [hcut, List.append_assoc, List.set_append_right _ _ (by omega), htl, Nat.sub_self]
      rfl
    obtain ⟨B, hB⟩ : ∃ B, B = (numB m k).take (m - j) ++ List.replicate j false := ⟨_, rfl⟩
    rw [hx]
    simp only [← hB] at hbl hat hset ⊢
    have hvB : v < B.length := by omega
    cases hb : (numB m k)[v]'(by omega)
    · rw [hb] at hat hvg
      have hinc := numB_inc m k j hlj hI (by rw [← hv]; exact hvg)
      rw [← hv] at hinc
      have hs1 := hset true
      rw [← hinc] at hs1
      have hk1 : k + 1 < 2 ^ m := by
        refine Classical.byContradiction fun h => ?_
        have hke : k + 1 = 2 ^ m := by omega
        rw [hke, numB_pow] at hinc
        have := congrArg (fun l => l[v]?) hinc
        have htl : ((numB m k).take v).length = v := by rw [List.length_take]; omega
        simp only [List.getElem?_append_right (Nat.le_of_eq htl), htl, Nat.sub_self, List.getElem?_cons_zero, List.getElem?_replicate, hvm, if_true] at this
        cases this
      have hms : (B.map PV.b).set v (PV.v (Value.bool true)) = (numB m (k + 1)).map PV.b := by rw [← hs1, List.map_set]
      have h4' : ∀ l, (Hk (k + 1) B).set Hi.length (.row ((numB m (k + 1)).map PV.b) 1 4 false) = l → l = Hk (k + 1) (numB m (k + 1)) := fun l hl => by rw [← hl]; exact h4 _ _ _
      simp -implicitDefEqProofs (disch := omega) [List.getElem?_cons_zero, List.getElem?_cons_succ, wrap_id, h2, hv0, hv1, hbl, hvm, hvB, hat, hms, h4]
      exact round_keep [3, 0, 1] (by omega) ⟨rfl, hk1⟩
    · rw [hb] at hat hvg
      obtain ⟨C, hC⟩ : ∃ C, C = (numB m k).take v ++ false :: List.replicate j false := ⟨_, rfl⟩
      have hs1 := hset false
      rw [← hC] at hs1
      have hms : (B.map PV.b).set v (PV.v (Value.bool false)) = C.map PV.b := by rw [← hs1, List.map_set]
      simp -implicitDefEqProofs (disch := omega) [List.getElem?_cons_zero, List.getElem?_cons_succ, wrap_id, h2, hv0, hv1, hbl, hvm, hvB, hat, hms, h4]
      refine round_keep [4, 3, 0, 1] hlj ⟨?_, fun i hi1 hi2 => ?_⟩
      · rw [show m - (j + 1) = v by omega, List.replicate_succ, ← hC]
        have e3 : (v : Int) - 1 = (m : Int) - 1 - ((j + 1 : Nat) : Int) := by omega
        rw [← e3]
        simp [Abs.get, h4]
      · by_cases e : i = v
        · rw [e]; exact hvg
        · exact hI i (by omega) hi2
  · have hje : j = m := by omega
    subst hje
    have hfull := numB_full j k hkl (fun i hi => hI i (by omega) hi)
    have e1 : (j : Int) - 1 - (j : Int) = -1 := by omega
    rw [e1, hfull]
    simp -implicitDefEqProofs (disch := omega) [List.getElem?_cons_zero, List.getElem?_cons_succ, wrap_id]
    exact finH trivial rfl (hK _ _)
end Go.Proofs.Ytjinjbcdbkgedaa
