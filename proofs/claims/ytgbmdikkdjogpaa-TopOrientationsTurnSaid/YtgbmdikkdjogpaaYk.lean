/-
  Contracts: when nothing is left unburnt, settling ends at once.
-/
import Derived.Test.YtgbmdikkdjogpaaYj
set_option linter.unusedSimpArgs false
set_option linter.unusedVariables false
namespace Go.Proofs.Ytgbmdikkdjogpaa
open Go.Abs Go.Sand

section
variable {n : Nat} {es : List Ed} (hr : ∀ x ∈ es, Right n x) (hn : n ≤ 12) (hel : es.length ≤ 1000) {q : Nat} (hq : q < n) {d s : List Int} (hd : d.length = n) (hs : s.length = n)
include hr hn hel hq hd hs
theorem settle_done {K : AV → List AO → Prop} (hall : ∀ k, agB n es q d k = false → (∀ j, j < k → agB n es q d j = true) → (bS n es q d k).any (!·) = false) (hK : ∀ r, K r (stH n es q d s 0)) :
    HC Try.prog false 53 [.ptr 1 1 0 0] (stH n es q d s 0) K := by
  refine HC_norm ?_
  refine HC_of_W (af := _) ((by exact cfn53 : cfn _ _ _ = some _)) ?_
  simp -implicitDefEqProofs (disch := omega) [c53, List.getElem?_cons_zero, List.getElem?_cons_succ, wrap_id]
  refine loopN_at 1 ?_
  rw [LoopN_succ]
  simp -implicitDefEqProofs (disch := omega) [List.getElem?_cons_zero, List.getElem?_cons_succ, wrap_id]
  refine unburnt_hc hr hn hel hq hd hs fun k h1 h2 => ?_
  rw [hall k h1 h2]
  have hbl := bS_len n es q d k
  simp -implicitDefEqProofs (disch := omega) [List.getElem?_cons_zero, List.getElem?_cons_succ, wrap_id, LoopK_ret, hbl]
  exact finH trivial rfl ⟨[0, 1, 2, 3], rfl, hK _⟩
end
end Go.Proofs.Ytgbmdikkdjogpaa
