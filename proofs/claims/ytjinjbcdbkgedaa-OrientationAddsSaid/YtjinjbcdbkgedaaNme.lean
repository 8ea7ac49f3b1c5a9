/-
  The law Adds: indegrees and outdegrees.
-/
import Derived.Test.YtjinjbcdbkgedaaNmb
import Derived.Test.YtjinjbcdbkgedaaNmd
set_option linter.unusedSimpArgs false
set_option linter.unusedVariables false
namespace Go.Proofs.Ytjinjbcdbkgedaa
open Go.Abs Go.Sand

theorem degree_ok (n : Nat) (v : Nat) (es : List Ed) (hg : gcheck n es = 0) (hel : es.length ≤ 1000) (hv : v < n) : PC Try.prog 46 [G n es, .i v] (.i (valS es v + 2 * betw es v v)) [] := by
  have hgood := gcheck_ok hg
  have hn12 := hgood.n12
  have h1 := rval_ok n v es (by omega) hgood.right (by omega)
  have h2 := rbetw_ok n v v es (by omega)
  rw [valTo_all hgood.right hgood.asc v (by omega)] at h1
  rw [show min (v : Int) v = v by omega, show max (v : Int) v = v by omega] at h2
  have b1 := valS_bd hgood.right (v : Int)
  have b2 := betw_bd hgood.right (v : Int) v
  refine PC_of_W cfn46 ?_
  simp -implicitDefEqProofs (disch := omega) [c46, List.getElem?_cons_zero, List.getElem?_cons_succ, wrap_id]
  refine HC_of_PC rfl (h1) ?_
  simp -implicitDefEqProofs (disch := omega) [List.getElem?_cons_zero, List.getElem?_cons_succ, wrap_id]
  refine HC_of_PC rfl (h2) ?_
  simp -implicitDefEqProofs (disch := omega) [List.getElem?_cons_zero, List.getElem?_cons_succ, wrap_id]
  (refine fin0 trivial rfl ?_; simp -implicitDefEqProofs (disch := omega) [List.getElem?_cons_zero, List.getElem?_cons_succ, idx, wrap_id])
theorem sum_take {A : List Int} {k : Nat} (h : k < A.length) : sumI (A.take (k + 1)) = sumI (A.take k) + A[k] := by
  rw [List.take_succ_eq_append_getElem h, sumI_append]; simp [sumI]
theorem sum_take_bd {A : List Int} {B : Int} (h : ∀ x ∈ A, 0 ≤ x ∧ x ≤ B) (hB : 0 ≤ B) : ∀ k, 0 ≤ sumI (A.take k) ∧ sumI (A.take k) ≤ B * k
  | 0 => by simp [sumI]
  | k + 1 => by
    have ih := sum_take_bd h hB k
    by_cases hk : k < A.length
    · rw [sum_take hk]
      have := h _ (List.getElem_mem hk)
      push_cast
      rw [Int.mul_add]
      omega
    · have e : A.take (k + 1) = A.take k := by rw [List.take_of_length_le (by omega), List.take_of_length_le (by omega)]
      rw [e]
      push_cast
      rw [Int.mul_add]
      omega
set_option maxRecDepth 100000 in
theorem adds14_law (N : Int) (es : List Ed) (o : List Bool) : PC Try.prog 9 [G N es, .bo o] (.b true) [] := by
  refine PC_of_W cfn9 ?_
  simp -implicitDefEqProofs (disch := omega) [c9, List.getElem?_cons_zero, List.getElem?_cons_succ, wrap_id]
  refine HC_of_PC rfl (right14_ok N es o) ?_
  cases hr : rightB N es o
  · simp -implicitDefEqProofs (disch := omega) [List.getElem?_cons_zero, List.getElem?_cons_succ, wrap_id]
    refine HC_of_PC rfl (awake14_ok) ?_
    simp -implicitDefEqProofs (disch := omega) [List.getElem?_cons_zero, List.getElem?_cons_succ, wrap_id]
    (refine fin0 trivial rfl ?_; simp -implicitDefEqProofs (disch := omega) [List.getElem?_cons_zero, List.getElem?_cons_succ, idx, wrap_id])
  obtain ⟨n, rfl, h, hel, ho9, hn1, hn6⟩ := right_ok hr
  have ho1 : o.length ≤ 100 := by omega
  obtain ⟨hg, hla⟩ := oE_ok h
  have hgood := gcheck_ok hg
  obtain ⟨nb, hnb⟩ : ∃ nb, nb = o.map fun b => !b := ⟨_, rfl⟩
  have hnl : nb.length = o.length := by rw [hnb]; simp
  have h2 : oE n es nb = 0 := oE_of hg (by omega)
  have hul := upK_len o.length
  have c1 := areverse_ok n es o (upK o.length) hel ho1 (by omega) (rv_up h)
  rw [flip_all, ← hnb] at c1
  have hrv2 := rv_up h2
  rw [hnl] at hrv2
  have c2 := areverse_ok n es nb (upK o.length) hel (by omega) (by omega) hrv2
  have hfb := flip_back o
  rw [← hnb] at hfb
  rw [hfb] at c2
  obtain ⟨A, hA⟩ : ∃ A, A = inL n es o := ⟨_, rfl⟩
  obtain ⟨B, hB⟩ : ∃ B, B = inL n es nb := ⟨_, rfl⟩
  obtain ⟨D, hD⟩ : ∃ D, D = divL n es o := ⟨_, rfl⟩
  have hAl : A.length = n := by rw [hA, inL_len]
  have hBl : B.length = n := by rw [hB, inL_len]
  have hDl : D.length = n := by rw [hD, divL_len]
  have hAb : ∀ x ∈ A, 0 ≤ x ∧ x ≤ 9 := fun x hx => by have := inL_mem_bd hgood.right hla (hA ▸ hx); omega
  have hBb : ∀ x ∈ B, 0 ≤ x ∧ x ≤ 9 := fun x hx => by have := inL_mem_bd hgood.right (by omega) (hB ▸ hx); omega
  have hAB : ∀ v, (hv : v < n) → A[v]'(by omega) + B[v]'(by omega) = valS es v + 2 * betw es v v := fun v hv => by
    have := in_out hgood hla hv
    rw [← hnb, ← hA, ← hB, getD_get (by omega), getD_get (by omega)] at this
    exact this
  have hDA : ∀ v, (hv : v < n) → D[v]'(by omega) = A[v]'(by omega) - 1 := fun v hv => by
    have : D = A.map (· - 1) := by rw [hD, hA]; rfl
    subst this
    simp
  have hsum : sumI A = o.length := by rw [hA]; exact sum_in hgood.right hla
  have c3 := aindegrees_ok n es o hel ho1 h
  have c4 := aindegrees_ok n es nb hel (by omega) h2
  have c5 := adivisor_ok n es o hel ho1 h
  rw [← hA] at c3
  rw [← hB] at c4
  rw [← hD] at c5
  simp -implicitDefEqProofs (disch := omega) [List.getElem?_cons_zero, List.getElem?_cons_succ, wrap_id]
  refine loopW o.length (fun k s => s = ⟨[(26, .i k), (25, .i o.length), (5, .os 1 0 k), (1, .p (.bo o)), (2, .ptr 0 1 0 0)], [.box (.p (G n es)), rowZ (upK k)]⟩) ((Wk_nil 5 1 3 rfl).trans (Wk_keep [26, 25, 5, 1, 2])) rfl ?_
  rintro k s hk rfl
  have huk := upK_len k
  have hus := upK_succ k
  by_cases hlt : k < o.length
  · have hk1 : k + 1 ≤ 1048576 := by omega
    obtain ⟨U, hU⟩ : ∃ U, U = upK k := ⟨_, rfl⟩
    rw [← hU] at huk hus ⊢
    simp -implicitDefEqProofs (disch := omega) [List.getElem?_cons_zero, List.getElem?_cons_succ, wrap_id, hlt, huk, hk1]
    exact round_end [0, 1] [26, 25, 5, 1, 2] hlt rfl (by simp only [hus, rowZ, List.map_append]; rfl)
  have hke : k = o.length := by omega
  subst hke
  obtain ⟨U, hU⟩ : ∃ U, U = upK o.length := ⟨_, rfl⟩
  rw [← hU] at huk c1 c2 ⊢
  simp -implicitDefEqProofs (disch := omega) [List.getElem?_cons_zero, List.getElem?_cons_succ, wrap_id]
  refine HC_of_PC (by simp [views, view, viewC, ownEls, huk]) (c1) ?_
  simp -implicitDefEqProofs (disch := omega) [List.getElem?_cons_zero, List.getElem?_cons_succ, wrap_id]
  refine HC_of_PC (by simp [views, view, viewC, ownEls, huk, hnl]) (c2) ?_
  simp -implicitDefEqProofs (disch := omega) [List.getElem?_cons_zero, List.getElem?_cons_succ, wrap_id]
  refine HC_of_PC rfl (c3) ?_
  simp -implicitDefEqProofs (disch := omega) [List.getElem?_cons_zero, List.getElem?_cons_succ, wrap_id]
  refine HC_of_PC (by simp [views, view, viewC, ownEls, hnl]) (c4) ?_
  simp -implicitDefEqProofs (disch := omega) [List.getElem?_cons_zero, List.getElem?_cons_succ, wrap_id]
  refine HC_of_PC rfl (c5) ?_
  simp -implicitDefEqProofs (disch := omega) [List.getElem?_cons_zero, List.getElem?_cons_succ, wrap_id]
  refine HC_of_PC (by simp [views, view, viewC, ownEls, hnl]) (equalB_ok o o (by omega)) ?_
  have hAl' := hAl.symm
  have hBl' := hBl.symm
  have hDl' := hDl.symm
  simp -implicitDefEqProofs (disch := omega) [List.getElem?_cons_zero, List.getElem?_cons_succ, wrap_id, hAl, hBl, hDl]
  have hsb := sum_take_bd hAb (by decide)
  refine loopW n (fun k s => s = ⟨[(105, .i k), (104, .i n), (17, .i (sumI (A.take k))), (11, .os 4 0 n), (13, .os 5 0 n), (15, .os 6 0 n), (1, .p (.bo o)), (2, .ptr 0 1 0 0)], [.box (.p (G n es)), rowZ U, rowB nb, rowB o, rowZ A, rowZ B, rowZ D]⟩) (Wk_keep [105, 104, 17, 11, 13, 15, 1, 2]) rfl ?_
  rintro k s hk rfl
  have hs1 := hsb k
  by_cases hlt : k < n
  · have hkA : k < A.length := by omega
    have hkB : k < B.length := by omega
    have hkD : k < D.length := by omega
    have a1 := hAb _ (List.getElem_mem hkA)
    have a2 := hBb _ (List.getElem_mem hkB)
    have a3 := hAB k hlt
    have a4 := hDA k hlt
    have a5 := sum_take hkA
    have b1 := valS_bd hgood.right (k : Int)
    have b2 := betw_bd hgood.right (k : Int) k
    obtain ⟨x, hx⟩ : ∃ x, x = A[k] := ⟨_, rfl⟩
    obtain ⟨y, hy⟩ : ∃ y, y = B[k] := ⟨_, rfl⟩
    obtain ⟨z, hz⟩ : ∃ z, z = D[k] := ⟨_, rfl⟩
    rw [← hx] at a1 a3 a4 a5
    rw [← hy] at a2 a3
    rw [← hz] at a4
    have hx' := hx.symm
    have hy' := hy.symm
    have hz' := hz.symm
    obtain ⟨S, hS⟩ : ∃ S, S = sumI (A.take k) := ⟨_, rfl⟩
    rw [← hS] at hs1 a5 ⊢
    simp -implicitDefEqProofs (disch := omega) [List.getElem?_cons_zero, List.getElem?_cons_succ, wrap_id, hlt, hAl, hBl, hDl, hkA, hkB, hkD, hx', hy', hz']
    refine HC_of_PC rfl (degree_ok n k es hg hel hlt) ?_
    simp -implicitDefEqProofs (disch := omega) [List.getElem?_cons_zero, List.getElem?_cons_succ, wrap_id, hlt, a3, a4, hAl, hBl, hDl, hkA, hkB, hkD, hx', hy', hz']
    exact round_end [0, 1, 2, 3, 4, 5, 6] [105, 104, 17, 11, 13, 15, 1, 2] hlt rfl (by rw [a5]; rfl)
  · have hkn : k = n := by omega
    subst hkn
    rw [List.take_of_length_le (by omega), hsum]
    simp -implicitDefEqProofs (disch := omega) [List.getElem?_cons_zero, List.getElem?_cons_succ, wrap_id]
    refine HC_of_PC rfl (awake14_ok) ?_
    simp -implicitDefEqProofs (disch := omega) [List.getElem?_cons_zero, List.getElem?_cons_succ, wrap_id]
    (refine fin0 trivial rfl ?_; simp -implicitDefEqProofs (disch := omega) [List.getElem?_cons_zero, List.getElem?_cons_succ, idx, wrap_id])
end Go.Proofs.Ytjinjbcdbkgedaa
