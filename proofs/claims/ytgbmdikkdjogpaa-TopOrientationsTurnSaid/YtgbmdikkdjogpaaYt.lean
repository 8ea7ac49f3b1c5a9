/-
  The law of the turned orientation.
-/
import Derived.Test.YtgbmdikkdjogpaaYs
set_option linter.unusedSimpArgs false
set_option linter.unusedVariables false
namespace Go.Proofs.Ytgbmdikkdjogpaa
open Go.Abs Go.Sand

theorem played20_ok : PC Try.prog 7 [] (.b true) [] := by
  have hg := gcheck_ok (conn_good tri20_conn).1
  refine turned20_ok (win20_ok (red20_ok fun K hK => dist_hc (n := 3) (q := 0) (er := 0) hg.right (by omega) (by decide) (by omega) rfl rfl fun far hf => hK far hf.len hf.q0 fun v => ?_))
  by_cases h : v < 3
  · have := hf.rng v h
    omega
  · rw [List.getD_eq_getElem?_getD, List.getElem?_eq_none (by rw [hf.len]; omega)]
    decide
theorem turn20_law (N : Int) (es : List Ed) (o : List Bool) : PC Try.prog 3 [G N es, .bo o] (.b true) [] := turn_law played20_ok N es o
end Go.Proofs.Ytgbmdikkdjogpaa
