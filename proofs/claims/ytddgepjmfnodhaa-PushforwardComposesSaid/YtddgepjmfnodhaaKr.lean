/-
  Contracts: the identity, on both sides.
-/
import Derived.Test.YtddgepjmfnodhaaMkd
set_option linter.unusedSimpArgs false
set_option linter.unusedVariables false
namespace Go.Proofs.Ytddgepjmfnodhaa
open Go.Abs Go.Sand

def idL (k : Nat) : List Int := (List.range k).map fun i : Nat => (i : Int)
theorem idL_length (k : Nat) : (idL k).length = k := by simp [idL]
theorem idL_succ (k : Nat) : idL (k + 1) = idL k ++ [(k : Int)] := by simp [idL, List.range_succ]
theorem idL_get (k i : Nat) (h : i < k) : (idL k)[i]'(by rw [idL_length]; exact h) = i := by simp [idL]
/-- What a map is that stands in a result. -/
abbrev MoA (m : Mo) : AV := .agg [.p (.is m.v), .p (.is m.e)]
abbrev mo0 : Mo := ⟨[], []⟩
def unitM (g : Gr) : Mo := ⟨idL g.1.toNat, idL (endsL g.2).length⟩
def idM (g : Gr) : Mo := if graphE g.1 g.2 = 0 then unitM g else mo0
end Go.Proofs.Ytddgepjmfnodhaa
