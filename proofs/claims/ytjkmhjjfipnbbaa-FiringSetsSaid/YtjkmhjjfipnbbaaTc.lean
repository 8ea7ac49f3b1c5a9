/-
  Contracts: graphs, in the reference, the rest.
-/
import Derived.Test.YtjkmhjjfipnbbaaTb
set_option linter.unusedSimpArgs false
namespace Go.Proofs.Ytjkmhjjfipnbbaa
open Go.Abs Go.Sand

def edAt (N : Int) (es : List Ed) (k : Nat) (h : k < es.length) : Int := edgeErr N (prvA es k) (prvB es k) es[k]
theorem edge_ok (N : Int) (es : List Ed) (k : Nat) (hk : k < es.length) (hel : es.length ≤ 4611686018427387904) : PC Try.prog 89 [G N es, .i k] (.i (edAt N es k hk)) [] := by
  refine PC_of_W cfn89 ?_
  simp -implicitDefEqProofs (disch := omega) [c89, List.getElem?_cons_zero, List.getElem?_cons_succ, wrap_id, hk]
  refine HC_of_PC rfl (rvertex_ok _ _ _) ?_
  simp -implicitDefEqProofs (disch := omega) [List.getElem?_cons_zero, List.getElem?_cons_succ, wrap_id]
  cases h1 : vtx N es[k].a
  · simp -implicitDefEqProofs (disch := omega) [List.getElem?_cons_zero, List.getElem?_cons_succ, wrap_id]
    (refine fin0 trivial rfl ?_; simp -implicitDefEqProofs (disch := omega) [List.getElem?_cons_zero, List.getElem?_cons_succ, idx, wrap_id, edAt, edgeErr, h1])
  simp -implicitDefEqProofs (disch := omega) [List.getElem?_cons_zero, List.getElem?_cons_succ, wrap_id]
  refine HC_of_PC rfl (rvertex_ok _ _ _) ?_
  simp -implicitDefEqProofs (disch := omega) [List.getElem?_cons_zero, List.getElem?_cons_succ, wrap_id]
  cases h2 : vtx N es[k].b
  · simp -implicitDefEqProofs (disch := omega) [List.getElem?_cons_zero, List.getElem?_cons_succ, wrap_id]
    (refine fin0 trivial rfl ?_; simp -implicitDefEqProofs (disch := omega) [List.getElem?_cons_zero, List.getElem?_cons_succ, idx, wrap_id, edAt, edgeErr, h1, h2])
  by_cases h3 : es[k].m < 1
  · simp -implicitDefEqProofs (disch := omega) [List.getElem?_cons_zero, List.getElem?_cons_succ, wrap_id, h3]
    (refine fin0 trivial rfl ?_; simp -implicitDefEqProofs (disch := omega) [List.getElem?_cons_zero, List.getElem?_cons_succ, idx, wrap_id, edAt, edgeErr, h1, h2, h3])
  by_cases h4 : 50 < es[k].m
  · simp -implicitDefEqProofs (disch := omega) [List.getElem?_cons_zero, List.getElem?_cons_succ, wrap_id, h3, h4]
    (refine fin0 trivial rfl ?_; simp -implicitDefEqProofs (disch := omega) [List.getElem?_cons_zero, List.getElem?_cons_succ, idx, wrap_id, edAt, edgeErr, h1, h2, h3, h4])
  by_cases h5 : es[k].b < es[k].a
  · simp -implicitDefEqProofs (disch := omega) [List.getElem?_cons_zero, List.getElem?_cons_succ, wrap_id, h3, h4, h5]
    (refine fin0 trivial rfl ?_; simp -implicitDefEqProofs (disch := omega) [List.getElem?_cons_zero, List.getElem?_cons_succ, idx, wrap_id, edAt, edgeErr, h1, h2, h3, h4, h5])
  have hv := vtx_iff.1 h1
  rcases Nat.eq_zero_or_pos k with h0 | h0
  · subst h0
    simp -implicitDefEqProofs (disch := omega) [List.getElem?_cons_zero, List.getElem?_cons_succ, wrap_id, h3, h4, h5]
    have hb : behind (-1) (-1) es[0].a es[0].b = true := by simp [behind]; omega
    (refine fin0 trivial rfl ?_; simp -implicitDefEqProofs (disch := omega) [List.getElem?_cons_zero, List.getElem?_cons_succ, idx, wrap_id, edAt, edgeErr, h1, h2, h3, h4, h5, prvA, prvB, hb])
  · obtain ⟨j, rfl⟩ : ∃ j, k = j + 1 := ⟨k - 1, by omega⟩
    have hj : j < es.length := by omega
    have hA : prvA es (j + 1) = es[j].a := prvA_succ hj
    have hB : prvB es (j + 1) = es[j].b := prvB_succ hj
    have e1 : ((j : Int) + 1 - 1) = j := by omega
    by_cases h6 : es[j + 1].a < es[j].a
    · have hb : behind es[j].a es[j].b es[j + 1].a es[j + 1].b = false := by simp [behind]; omega
      simp -implicitDefEqProofs (disch := omega) [List.getElem?_cons_zero, List.getElem?_cons_succ, wrap_id, h3, h4, h5, h6, e1, hj]
      (refine fin0 trivial rfl ?_; simp -implicitDefEqProofs (disch := omega) [List.getElem?_cons_zero, List.getElem?_cons_succ, idx, wrap_id, edAt, edgeErr, h1, h2, h3, h4, h5, hA, hB, hb])
    by_cases h7 : es[j + 1].a = es[j].a
    · by_cases h8 : es[j + 1].b ≤ es[j].b
      · have hb : behind es[j].a es[j].b es[j + 1].a es[j + 1].b = false := by simp [behind]; omega
        rw [h7] at hb h5 h6 h1
        simp -implicitDefEqProofs (disch := omega) [List.getElem?_cons_zero, List.getElem?_cons_succ, wrap_id, h3, h4, h5, h6, h7, h8, e1, hj]
        (refine fin0 trivial rfl ?_; simp -implicitDefEqProofs (disch := omega) [List.getElem?_cons_zero, List.getElem?_cons_succ, idx, wrap_id, edAt, edgeErr, h1, h2, h3, h4, h5, hA, hB, h7, hb])
      · have hb : behind es[j].a es[j].b es[j + 1].a es[j + 1].b = true := by simp [behind]; omega
        rw [h7] at hb h5 h6 h1
        simp -implicitDefEqProofs (disch := omega) [List.getElem?_cons_zero, List.getElem?_cons_succ, wrap_id, h3, h4, h5, h6, h7, h8, e1, hj]
        (refine fin0 trivial rfl ?_; simp -implicitDefEqProofs (disch := omega) [List.getElem?_cons_zero, List.getElem?_cons_succ, idx, wrap_id, edAt, edgeErr, h1, h2, h3, h4, h5, hA, hB, h7, hb])
    · have hb : behind es[j].a es[j].b es[j + 1].a es[j + 1].b = true := by simp [behind]; omega
      simp -implicitDefEqProofs (disch := omega) [List.getElem?_cons_zero, List.getElem?_cons_succ, wrap_id, h3, h4, h5, h6, h7, e1, hj]
      (refine fin0 trivial rfl ?_; simp -implicitDefEqProofs (disch := omega) [List.getElem?_cons_zero, List.getElem?_cons_succ, idx, wrap_id, edAt, edgeErr, h1, h2, h3, h4, h5, hA, hB, hb])
end Go.Proofs.Ytjkmhjjfipnbbaa
