/-
  Contracts: the acyclic orientations with one source; all orientations, in the reference.
-/
import Derived.Test.YtjinjbcdbkgedaaNo
set_option linter.unusedSimpArgs false
set_option linter.unusedVariables false
namespace Go.Sand
/-- Acyclic, with one source alone. -/
def uniB (n : Nat) (es : List Ed) (q : Int) (b : List Bool) : Bool := decide ((sortL n (arwsL es b)).length = n) && decide (srcL n es b = [q])
end Go.Sand
namespace Go.Proofs.Ytjinjbcdbkgedaa
open Go.Abs Go.Sand

theorem equalZ_ok (xs ys : List Int) (hx : xs.length ≤ 4611686018427387904) : PC Try.prog 25 [.is xs, .is ys] (.b (decide (xs = ys))) [] := by
  refine PC_of_W cfn25 ?_
  by_cases hl : xs.length = ys.length
  rotate_left
  · have hne : xs ≠ ys := fun e => hl (by rw [e])
    have hl' : ¬ (xs.length : Int) = ys.length := by omega
    simp -implicitDefEqProofs (disch := omega) [c25, List.getElem?_cons_zero, List.getElem?_cons_succ, wrap_id, hl']
    (refine fin0 trivial rfl ?_; simp -implicitDefEqProofs (disch := omega) [List.getElem?_cons_zero, List.getElem?_cons_succ, idx, wrap_id, hne])
  have hl' : (xs.length : Int) = ys.length := by omega
  simp -implicitDefEqProofs (disch := omega) [c25, List.getElem?_cons_zero, List.getElem?_cons_succ, wrap_id, hl']
  refine loopW ys.length (fun k s => s = ⟨[(13, .i k), (12, .i ys.length), (0, .p (.is xs)), (1, .p (.is ys))], []⟩ ∧ xs.take k = ys.take k) (wk_norm [] [13, 12, 0, 1] rfl rfl) ⟨rfl, rfl⟩ ?_
  rintro k s hk ⟨rfl, hI⟩
  by_cases hlt' : k < ys.length
  · have hlt : k < xs.length := by omega
    by_cases h1 : xs[k] = ys[k]
    · simp -implicitDefEqProofs (disch := omega) [List.getElem?_cons_zero, List.getElem?_cons_succ, wrap_id, hlt, hlt', h1]
      exact round_end [] [13, 12, 0, 1] hlt' rfl ⟨rfl, by rw [List.take_succ_eq_append_getElem hlt, List.take_succ_eq_append_getElem hlt', hI, h1]⟩
    · have hne : xs ≠ ys := fun e => h1 (by subst e; rfl)
      simp -implicitDefEqProofs (disch := omega) [List.getElem?_cons_zero, List.getElem?_cons_succ, wrap_id, hlt, hlt', h1]
      (refine fin0 trivial rfl ?_; simp -implicitDefEqProofs (disch := omega) [List.getElem?_cons_zero, List.getElem?_cons_succ, idx, wrap_id, hne])
  · have heq : xs = ys := by rwa [List.take_of_length_le (by omega), List.take_of_length_le (by omega)] at hI
    simp -implicitDefEqProofs (disch := omega) [List.getElem?_cons_zero, List.getElem?_cons_succ, wrap_id, hlt']
    (refine fin0 trivial rfl ?_; simp -implicitDefEqProofs (disch := omega) [List.getElem?_cons_zero, List.getElem?_cons_succ, idx, wrap_id, heq])
theorem equalDv_ok (xs ys : List Int) (hx : xs.length ≤ 4611686018427387904) : PC Try.prog 56 [.is xs, .is ys] (.b (decide (xs = ys))) [] := by
  refine PC_of_W cfn56 ?_
  by_cases hl : xs.length = ys.length
  rotate_left
  · have hne : xs ≠ ys := fun e => hl (by rw [e])
    have hl' : ¬ (xs.length : Int) = ys.length := by omega
    simp -implicitDefEqProofs (disch := omega) [c56, List.getElem?_cons_zero, List.getElem?_cons_succ, wrap_id, hl']
    (refine fin0 trivial rfl ?_; simp -implicitDefEqProofs (disch := omega) [List.getElem?_cons_zero, List.getElem?_cons_succ, idx, wrap_id, hne])
  have hl' : (xs.length : Int) = ys.length := by omega
  simp -implicitDefEqProofs (disch := omega) [c56, List.getElem?_cons_zero, List.getElem?_cons_succ, wrap_id, hl']
  refine loopW ys.length (fun k s => s = ⟨[(13, .i k), (12, .i ys.length), (0, .p (.is xs)), (1, .p (.is ys))], []⟩ ∧ xs.take k = ys.take k) (wk_norm [] [13, 12, 0, 1] rfl rfl) ⟨rfl, rfl⟩ ?_
  rintro k s hk ⟨rfl, hI⟩
  by_cases hlt' : k < ys.length
  · have hlt : k < xs.length := by omega
    by_cases h1 : xs[k] = ys[k]
    · simp -implicitDefEqProofs (disch := omega) [List.getElem?_cons_zero, List.getElem?_cons_succ, wrap_id, hlt, hlt', h1]
      exact round_end [] [13, 12, 0, 1] hlt' rfl ⟨rfl, by rw [List.take_succ_eq_append_getElem hlt, List.take_succ_eq_append_getElem hlt', hI, h1]⟩
    · have hne : xs ≠ ys := fun e => h1 (by subst e; rfl)
      simp -implicitDefEqProofs (disch := omega) [List.getElem?_cons_zero, List.getElem?_cons_succ, wrap_id, hlt, hlt', h1]
      (refine fin0 trivial rfl ?_; simp -implicitDefEqProofs (disch := omega) [List.getElem?_cons_zero, List.getElem?_cons_succ, idx, wrap_id, hne])
  · have heq : xs = ys := by rwa [List.take_of_length_le (by omega), List.take_of_length_le (by omega)] at hI
    simp -implicitDefEqProofs (disch := omega) [List.getElem?_cons_zero, List.getElem?_cons_succ, wrap_id, hlt']
    (refine fin0 trivial rfl ?_; simp -implicitDefEqProofs (disch := omega) [List.getElem?_cons_zero, List.getElem?_cons_succ, idx, wrap_id, heq])
theorem equalB_ok (xs ys : List Bool) (hx : xs.length ≤ 4611686018427387904) : PC Try.prog 45 [.bo xs, .bo ys] (.b (decide (xs = ys))) [] := by
  refine PC_of_W cfn45 ?_
  by_cases hl : xs.length = ys.length
  rotate_left
  · have hne : xs ≠ ys := fun e => hl (by rw [e])
    have hl' : ¬ (xs.length : Int) = ys.length := by omega
    simp -implicitDefEqProofs (disch := omega) [c45, List.getElem?_cons_zero, List.getElem?_cons_succ, wrap_id, hl']
    (refine fin0 trivial rfl ?_; simp -implicitDefEqProofs (disch := omega) [List.getElem?_cons_zero, List.getElem?_cons_succ, idx, wrap_id, hne])
  have hl' : (xs.length : Int) = ys.length := by omega
  simp -implicitDefEqProofs (disch := omega) [c45, List.getElem?_cons_zero, List.getElem?_cons_succ, wrap_id, hl']
  refine loopW ys.length (fun k s => s = ⟨[(13, .i k), (12, .i ys.length), (0, .p (.bo xs)), (1, .p (.bo ys))], []⟩ ∧ xs.take k = ys.take k) (wk_norm [] [13, 12, 0, 1] rfl rfl) ⟨rfl, rfl⟩ ?_
  rintro k s hk ⟨rfl, hI⟩
  by_cases hlt' : k < ys.length
  · have hlt : k < xs.length := by omega
    by_cases h1 : xs[k] = ys[k]
    · simp -implicitDefEqProofs (disch := omega) [List.getElem?_cons_zero, List.getElem?_cons_succ, wrap_id, hlt, hlt', h1]
      exact round_end [] [13, 12, 0, 1] hlt' rfl ⟨rfl, by rw [List.take_succ_eq_append_getElem hlt, List.take_succ_eq_append_getElem hlt', hI, h1]⟩
    · have hne : xs ≠ ys := fun e => h1 (by subst e; rfl)
      have hb : (xs[k] != ys[k]) = true := by simpa using h1
      simp -implicitDefEqProofs (disch := omega) [List.getElem?_cons_zero, List.getElem?_cons_succ, wrap_id, hlt, hlt', h1, hb]
      (refine fin0 trivial rfl ?_; simp -implicitDefEqProofs (disch := omega) [List.getElem?_cons_zero, List.getElem?_cons_succ, idx, wrap_id, hne])
  · have heq : xs = ys := by rwa [List.take_of_length_le (by omega), List.take_of_length_le (by omega)] at hI
    simp -implicitDefEqProofs (disch := omega) [List.getElem?_cons_zero, List.getElem?_cons_succ, wrap_id, hlt']
    (refine fin0 trivial rfl ?_; simp -implicitDefEqProofs (disch := omega) [List.getElem?_cons_zero, List.getElem?_cons_succ, idx, wrap_id, heq])
theorem calm_rowZ (c : List Int) : (c.map PV.i).all calmP = true := by simp [List.all_map, calmP]
attribute [local simp] app_0 app_i set_0 set_i
theorem uni1_hc {n : Nat} {es : List Ed} {q : Int} (hg : gcheck n es = 0) (hel : es.length ≤ 1000) {H' : List AO} {r m : Nat} {b : List Bool} {K : AV → List AO → Prop} (hm : (endsL es).length = m) (h0 : H'[0]? = some (.box (.p (G n es)))) (h1 : H'[1]? = some (.box (.p (.i q)))) (hr : H'[r]? = some (rowB b)) (hb : b.length = m)
    (hK : ∀ Z, K (.b (uniB n es q b)) (H' ++ Z)) : HC Try.prog false 70 [.os r 0 m, .ptr 0 1 0 0, .ptr 1 1 0 0] H' K := by
  have hol : b.length = (endsL es).length := by omega
  have hgood := gcheck_ok hg
  have hn := hgood.n12
  refine HC_of_W (af := _) ((by exact cfn70 : cfn _ _ _ = some _)) ?_
  simp -implicitDefEqProofs (disch := omega) [c70, List.getElem?_cons_zero, List.getElem?_cons_succ, wrap_id, h0, h1, -Wtree_fork]
  have g0 : ∀ Z, (H' ++ Z)[0]? = some (.box (.p (G n es))) := fun Z => by rw [List.getElem?_append_left (List.getElem?_eq_some_iff.1 h0).1]; exact h0
  have g1 : ∀ Z, (H' ++ Z)[1]? = some (.box (.p (.i q))) := fun Z => by rw [List.getElem?_append_left (List.getElem?_eq_some_iff.1 h1).1]; exact h1
  have gr : ∀ Z, (H' ++ Z)[r]? = some (rowB b) := fun Z => by rw [List.getElem?_append_left (List.getElem?_eq_some_iff.1 hr).1]; exact hr
  by_cases hd : (sortL n (arwsL es b)).length = n
  rotate_left
  · have hu : uniB n es q b = false := by simp [uniB, hd]
    rw [hu] at hK
    have hK0 := hK []
    rw [List.append_nil] at hK0
    refine HC_of_PC (by simp [views, view, viewC, ownEls, hr, hb]) (sorted_no n es b hg hel hol hd) ?_
    simp -implicitDefEqProofs (disch := omega) [List.getElem?_cons_zero, List.getElem?_cons_succ, wrap_id, hr]
    refine tree_all ?_
    simp -implicitDefEqProofs (disch := omega) [List.getElem?_cons_zero, List.getElem?_cons_succ, wrap_id, h0, h1]
    exact ⟨finH trivial rfl hK0, finH trivial rfl hK0⟩
  have hu : uniB n es q b = decide (srcL n es b = [q]) := by simp [uniB, hd]
  rw [hu] at hK
  have hc1 := calm_rowZ (sortL n (arwsL es b))
  have hc2 := calm_rowZ (srcL n es b)
  have hsl : (srcL n es b).length ≤ n := selK_len _ _
  refine HC_of_PC (by simp [views, view, viewC, ownEls, hr, hb]) (sorted_ok n es b hg hel hol hd) ?_
  simp -implicitDefEqProofs (disch := omega) [List.getElem?_cons_zero, List.getElem?_cons_succ, wrap_id, hc1, hr]
  refine tree_all ?_
  simp -implicitDefEqProofs (disch := omega) [List.getElem?_cons_zero, List.getElem?_cons_succ, wrap_id, g0, g1]
  refine ⟨?_, ?_⟩
  · refine HC_of_PC (by simp [views, view, viewC, ownEls, gr, hb]) (sources_ok n es b hg hel hol) ?_
    simp -implicitDefEqProofs (disch := omega) [List.getElem?_cons_zero, List.getElem?_cons_succ, wrap_id, hc2]
    refine HC_of_PC (by simp [views, view, viewC, ownEls]) (equalZ_ok (srcL n es b) [q] (by omega)) ?_
    simp -implicitDefEqProofs (disch := omega) [List.getElem?_cons_zero, List.getElem?_cons_succ, wrap_id]
    exact finH trivial rfl (hK _)
  · refine HC_of_PC (by simp [views, view, viewC, ownEls, gr, hb]) (sources_ok n es b hg hel hol) ?_
    simp -implicitDefEqProofs (disch := omega) [List.getElem?_cons_zero, List.getElem?_cons_succ, wrap_id, hc2]
    refine HC_of_PC (by simp [views, view, viewC, ownEls]) (equalZ_ok (srcL n es b) [q] (by omega)) ?_
    simp -implicitDefEqProofs (disch := omega) [List.getElem?_cons_zero, List.getElem?_cons_succ, wrap_id]
    exact finH trivial rfl (hK _)
end Go.Proofs.Ytjinjbcdbkgedaa
