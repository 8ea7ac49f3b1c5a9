/-
  Contracts: reducing the fixed example.
-/
import Derived.Test.YtgbmdikkdjogpaaYm
set_option linter.unusedSimpArgs false
set_option linter.unusedVariables false
namespace Go.Proofs.Ytgbmdikkdjogpaa
open Go.Abs Go.Sand

theorem tri20_conn : connE 3 tri20 = 0 := by decide +kernel
theorem red20_ok (hdist : ∀ K : AV → List AO → Prop, (∀ far : List Int, far.length = 3 → far.getD 0 0 = 0 → (∀ v, -1 ≤ far.getD v 0 ∧ far.getD v 0 ≤ 3) → K (.os 4 0 3) (stH 3 tri20 0 [-1, 0, 1] [0, 0, 0] 0 ++ [rowZ far])) → HC Try.prog false 69 [.ptr 1 1 0 0] (stH 3 tri20 0 [-1, 0, 1] [0, 0, 0] 0) K) :
    PC Try.prog 33 [G 3 tri20, .i 0, .is [-1, 0, 1]] (.tup [.os 0 0 3, .os 1 0 3, .i 0]) [rowZ [-1, 0, 1], rowZ [0, 0, 0]] := by
  have hg := gcheck_ok (conn_good tri20_conn).1
  have hd0 : dcheck [-1, 0, 1] 3 = 0 := by decide
  have hs0 : dcheck ([0, 0, 0].map (· - (0 : Int))) 3 = 0 := by decide
  have hag : agB 3 tri20 0 [-1, 0, 1] 2 = false := by decide +kernel
  have hbs : (bS 3 tri20 0 [-1, 0, 1] 1).any (!·) = false := by decide +kernel
  have hbs2 : (bS 3 tri20 0 [-1, 0, 1] 2).any (!·) = false := by decide +kernel
  have hall : ∀ k, agB 3 tri20 0 [-1, 0, 1] k = false → (∀ j, j < k → agB 3 tri20 0 [-1, 0, 1] j = true) → (bS 3 tri20 0 [-1, 0, 1] k).any (!·) = false := fun k h1 h2 => by
    match k, h1, h2 with
    | 0, h1, _ => cases h1
    | 1, _, _ => exact hbs
    | 2, _, _ => exact hbs2
    | k + 3, _, h2 => have := h2 2 (by omega); rw [hag] at this; cases this
  refine PC_of_W cfn33 ?_
  simp -implicitDefEqProofs (disch := omega) [c33, List.getElem?_cons_zero, List.getElem?_cons_succ, wrap_id]
  refine HC_of_PC rfl (given20_ok 3 tri20 (by decide) tri20_conn 0 (by omega) [-1, 0, 1] (by decide)) ?_
  simp -implicitDefEqProofs (disch := omega) [List.getElem?_cons_zero, List.getElem?_cons_succ, wrap_id, hd0]
  refine HC_of_PC rfl (begin_ok 3 tri20 0 [-1, 0, 1] rfl (by omega) (by omega)) ?_
  simp -implicitDefEqProofs (disch := omega) [List.getElem?_cons_zero, List.getElem?_cons_succ, wrap_id]
  refine lend_done (n := 3) (es := tri20) (q := 0) (d := [-1, 0, 1]) (s := [0, 0, 0]) (by omega) (by omega) rfl rfl ?_ hdist fun r => ?_
  · intro v hv hne
    match v, hv, hne with
    | 1, _, _ => decide
    | 2, _, _ => decide
  simp -implicitDefEqProofs (disch := omega) [List.getElem?_cons_zero, List.getElem?_cons_succ, wrap_id]
  refine settle_done (n := 3) (es := tri20) (q := 0) (d := [-1, 0, 1]) (s := [0, 0, 0]) hg.right (by omega) (by decide) (by omega) rfl rfl hall fun r2 => ?_
  simp -implicitDefEqProofs (disch := omega) [List.getElem?_cons_zero, List.getElem?_cons_succ, wrap_id]
  refine result_hc (n := 3) (es := tri20) (q := 0) (d := [-1, 0, 1]) (s := [0, 0, 0]) (by omega) (by omega) rfl rfl ?_ (w := 0) rfl hd0 hs0 ?_
  · intro i
    have : ([0, 0, 0] : List Int).getD i 0 = 0 := by
      match i with
      | 0 => rfl
      | 1 => rfl
      | 2 => rfl
      | i + 3 => rfl
    rw [this]; omega
  simp -implicitDefEqProofs (disch := omega) [List.getElem?_cons_zero, List.getElem?_cons_succ, wrap_id]
  exact fin1 [2, 3] trivial rfl (by rfl) ⟨rfl, rfl⟩
end Go.Proofs.Ytgbmdikkdjogpaa
