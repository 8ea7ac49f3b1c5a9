/-
  The fixed example of the turned orientation.
-/
import Derived.Test.YtgbmdikkdjogpaaYg
set_option linter.unusedSimpArgs false
set_option linter.unusedVariables false
namespace Go.Proofs.Ytgbmdikkdjogpaa
open Go.Abs Go.Sand

def tri20 : List Ed := [⟨0, 1, 1⟩, ⟨0, 2, 1⟩, ⟨1, 2, 1⟩]
theorem tri20_ok : PC Try.prog 19 [] (.agg [.p (.i 3), .p (.sl (tri20.map edP))]) [] := by
  refine PC_of_W cfn19 ?_
  simp -implicitDefEqProofs (disch := omega) [c19, List.getElem?_cons_zero, List.getElem?_cons_succ, wrap_id]
  (refine fin0 trivial rfl ?_; simp -implicitDefEqProofs (disch := omega) [List.getElem?_cons_zero, List.getElem?_cons_succ, idx, wrap_id, tri20])
theorem div20_ok : PC Try.prog 9 [G 3 tri20, .bo [true, true, true]] (.tup [.os 0 0 3, .i 0]) [rowZ [-1, 0, 1]] := by
  have h := adivisor_ok 3 tri20 [true, true, true] (by decide) (by decide) (by decide +kernel)
  rwa [show divL 3 tri20 [true, true, true] = [-1, 0, 1] by decide +kernel] at h
theorem eq20_ok (xs ys : List Int) (hx : xs.length ≤ 4611686018427387904) : PC Try.prog 21 [.is xs, .is ys] (.b (decide (xs = ys))) [] := by
  refine PC_of_W cfn21 ?_
  by_cases hl : xs.length = ys.length
  rotate_left
  · have hne : xs ≠ ys := fun e => hl (by rw [e])
    have hl' : ¬ (xs.length : Int) = ys.length := by omega
    simp -implicitDefEqProofs (disch := omega) [c21, List.getElem?_cons_zero, List.getElem?_cons_succ, wrap_id, hl']
    (refine fin0 trivial rfl ?_; simp -implicitDefEqProofs (disch := omega) [List.getElem?_cons_zero, List.getElem?_cons_succ, idx, wrap_id, hne])
  have hl' : (xs.length : Int) = ys.length := by omega
  simp -implicitDefEqProofs (disch := omega) [c21, List.getElem?_cons_zero, List.getElem?_cons_succ, wrap_id, hl']
  refine loopW ys.length (fun k s => s = ⟨[(13, .i k), (12, .i ys.length), (0, .p (.is xs)), (1, .p (.is ys))], []⟩ ∧ xs.take k = ys.take k) (wk_norm [] [13, 12, 0, 1] rfl rfl) ⟨rfl, rfl⟩ ?_
  rintro k s hk ⟨rfl, hI⟩
  by_cases hlt' : k < ys.length
  · have hlt : k < xs.length := by omega
    by_cases h1 : xs[k] = ys[k]
    · simp -implicitDefEqProofs (disch := omega) [List.getElem?_cons_zero, List.getElem?_cons_succ, wrap_id, hlt, hlt', h1]
      exact round_end [] [13, 12, 0, 1] hlt' rfl ⟨rfl, by rw [List.take_succ_eq_append_getElem hlt, List.take_succ_eq_append_getElem hlt', hI, h1]⟩
    · have hne : xs ≠ ys := fun e => h1 (by subst e; rfl)
      simp -implicitDefEqProofs (disch := omega) [List.getElem?_cons_zero, List.getElem?_cons_succ, wrap_id, hlt, hlt', h1]
      (refine fin0 trivial rfl ?_; simp -implicitDefEqProofs (disch := omega) [List.getElem?_cons_zero, List.getElem?_cons_succ, idx, wrap_id, hne])
  · have heq : xs = ys := by rwa [List.take_of_length_le (by omega), List.take_of_length_le (by omega)] at hI
    simp -implicitDefEqProofs (disch := omega) [List.getElem?_cons_zero, List.getElem?_cons_succ, wrap_id, hlt']
    (refine fin0 trivial rfl ?_; simp -implicitDefEqProofs (disch := omega) [List.getElem?_cons_zero, List.getElem?_cons_succ, idx, wrap_id, heq])
theorem turned20_ok (hw : PC Try.prog 20 [G 3 tri20, .is [-1, 0, 1]] (.tup [.b false, .os 0 0 3, .os 1 0 3, .i 0]) [rowZ [-1, 0, 1], rowZ [0, 0, 0]]) : PC Try.prog 7 [] (.b true) [] := by
  refine PC_of_W cfn7 ?_
  simp -implicitDefEqProofs (disch := omega) [c7, List.getElem?_cons_zero, List.getElem?_cons_succ, wrap_id]
  refine HC_of_PC rfl (tri20_ok) ?_
  simp -implicitDefEqProofs (disch := omega) [List.getElem?_cons_zero, List.getElem?_cons_succ, wrap_id]
  refine HC_of_PC rfl (div20_ok) ?_
  simp -implicitDefEqProofs (disch := omega) [List.getElem?_cons_zero, List.getElem?_cons_succ, wrap_id]
  refine HC_of_PC rfl (tri20_ok) ?_
  simp -implicitDefEqProofs (disch := omega) [List.getElem?_cons_zero, List.getElem?_cons_succ, wrap_id]
  refine HC_of_PC rfl (hw) ?_
  simp -implicitDefEqProofs (disch := omega) [List.getElem?_cons_zero, List.getElem?_cons_succ, wrap_id]
  refine HC_of_PC rfl (eq20_ok [-1, 0, 1] [-1, 0, 1] (by decide)) ?_
  simp -implicitDefEqProofs (disch := omega) [List.getElem?_cons_zero, List.getElem?_cons_succ, wrap_id]
  (refine fin0 trivial rfl ?_; simp -implicitDefEqProofs (disch := omega) [List.getElem?_cons_zero, List.getElem?_cons_succ, idx, wrap_id])
theorem win20_ok (hr : PC Try.prog 33 [G 3 tri20, .i 0, .is [-1, 0, 1]] (.tup [.os 0 0 3, .os 1 0 3, .i 0]) [rowZ [-1, 0, 1], rowZ [0, 0, 0]]) :
    PC Try.prog 20 [G 3 tri20, .is [-1, 0, 1]] (.tup [.b false, .os 0 0 3, .os 1 0 3, .i 0]) [rowZ [-1, 0, 1], rowZ [0, 0, 0]] := by
  refine PC_of_W cfn20 ?_
  simp -implicitDefEqProofs (disch := omega) [c20, List.getElem?_cons_zero, List.getElem?_cons_succ, wrap_id]
  refine HC_of_PC rfl (hr) ?_
  simp -implicitDefEqProofs (disch := omega) [List.getElem?_cons_zero, List.getElem?_cons_succ, wrap_id]
  exact fin1 [1, 2] trivial rfl (by rfl) ⟨rfl, rfl⟩
theorem given20_ok (n : Nat) (es : List Ed) (hel : es.length ≤ 900) (hc : connE n es = 0) (q : Nat) (hq : q < n) (d : List Int) (hd : d.length ≤ 1000) : PC Try.prog 50 [G n es, .i q, .is d] (.i (dcheck d n)) [] := by
  obtain ⟨hg, hp⟩ := conn_good hc
  rw [Int.toNat_natCast] at hp
  have hr : (rootsL es n).length = 1 := hp
  refine PC_of_W cfn50 ?_
  simp -implicitDefEqProofs (disch := omega) [c50, List.getElem?_cons_zero, List.getElem?_cons_succ, wrap_id]
  refine HC_of_PC rfl (connected_ok n es hel hg) ?_
  simp -implicitDefEqProofs (disch := omega) [List.getElem?_cons_zero, List.getElem?_cons_succ, wrap_id, hr, hq, (show ¬ n ≤ q by omega), (show ¬ (q : Int) < 0 by omega)]
  refine HC_of_PC rfl (chk_ok d n (by omega)) ?_
  simp -implicitDefEqProofs (disch := omega) [List.getElem?_cons_zero, List.getElem?_cons_succ, wrap_id]
  (refine fin0 trivial rfl ?_; simp -implicitDefEqProofs (disch := omega) [List.getElem?_cons_zero, List.getElem?_cons_succ, idx, wrap_id])
end Go.Proofs.Ytgbmdikkdjogpaa
