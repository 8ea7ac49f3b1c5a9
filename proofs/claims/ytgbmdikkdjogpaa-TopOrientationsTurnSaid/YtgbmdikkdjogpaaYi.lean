/-
  Contracts: how the state of a divisor begins.
-/
import Derived.Test.YtgbmdikkdjogpaaYh
set_option linter.unusedSimpArgs false
set_option linter.unusedVariables false
namespace Go.Proofs.Ytgbmdikkdjogpaa
open Go.Abs Go.Sand

theorem clone20_ok (xs : List Int) (hx : xs.length ≤ 1000000) : PC Try.prog 68 [.is xs] (.os 0 0 xs.length) [rowZ xs] := by
  refine PC_of_W cfn68 ?_
  simp -implicitDefEqProofs (disch := omega) [c68, List.getElem?_cons_zero, List.getElem?_cons_succ, wrap_id, stepK_eqn, eqnP]
  have hx' : xs.length ≤ 1048576 := by omega
  refine ⟨?_, ?_⟩
  · rintro rfl
    simp -implicitDefEqProofs (disch := omega) [List.getElem?_cons_zero, List.getElem?_cons_succ, wrap_id]
    refine finW (Wk_nil 2 1 3 rfl) ?_
    exact fin1 [0] trivial rfl rfl ⟨rfl, rfl⟩
  · simp -implicitDefEqProofs (disch := omega) [List.getElem?_cons_zero, List.getElem?_cons_succ, wrap_id, hx']
    exact fin1 [0] trivial rfl rfl ⟨rfl, rfl⟩
theorem begin_ok (n : Nat) (es : List Ed) (q : Nat) (d : List Int) (hd : d.length = n) (hn : n ≤ 12) (hn1 : 1 ≤ n) : PC Try.prog 51 [G n es, .i q, .is d] (.ptr 0 1 0 0)
    [.box (.agg [.p (.i n), .p (.sl (es.map edP)), .p (.i q), .os 1 0 n, .os 2 0 n, .p (.i 0)]), rowZ d, .row (List.replicate n (PV.v (.int .i64 0))) 1 3 false] := by
  have hn2 : n ≤ 1048576 := by omega
  refine PC_of_W cfn51 ?_
  simp -implicitDefEqProofs (disch := omega) [c51, List.getElem?_cons_zero, List.getElem?_cons_succ, wrap_id, hn2]
  refine tree_join (s0 := ⟨[(6, .ptr 0 1 0 0)], [.box (.agg [.p (.i n), .p (.sl (es.map edP)), .p (.i q), .os 1 0 n, .os 2 0 n, .p (.i 0)]), rowZ d, .row (List.replicate n (PV.v (.int .i64 0))) 1 3 false]⟩) ?_ ?_
  rotate_left
  · simp -implicitDefEqProofs (disch := omega) [List.getElem?_cons_zero, List.getElem?_cons_succ, wrap_id, hn2]
    refine ⟨?_, ?_⟩
    · refine HC_of_PC rfl (clone20_ok d (by omega)) ?_
      simp -implicitDefEqProofs (disch := omega) [List.getElem?_cons_zero, List.getElem?_cons_succ, wrap_id, hn2, hd]
      exact wk_norm [3, 1, 2] [6] rfl rfl
    · refine HC_of_PC rfl (clone20_ok d (by omega)) ?_
      simp -implicitDefEqProofs (disch := omega) [List.getElem?_cons_zero, List.getElem?_cons_succ, wrap_id, hn2, hd]
      exact wk_norm [3, 2, 1] [6] rfl rfl
  simp -implicitDefEqProofs (disch := omega) [List.getElem?_cons_zero, List.getElem?_cons_succ, wrap_id]
  exact fin1 [0, 1, 2] trivial rfl (by rfl) ⟨rfl, rfl⟩
end Go.Proofs.Ytgbmdikkdjogpaa
