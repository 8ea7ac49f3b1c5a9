/-
  Contracts: the check of the reference, for lists of any length.
-/
import Derived.Test.YtjinjbcdbkgedaaNy
set_option linter.unusedSimpArgs false
set_option linter.unusedVariables false
namespace Go.Proofs.Ytjinjbcdbkgedaa
open Go.Abs Go.Sand

theorem edge_okB (N : Int) (es : List Ed) (k : Nat) (hk : k < es.length) (hel : k ≤ 1000000) : PC Try.prog 65 [G N es, .i k] (.i (edAt N es k hk)) [] := by
  refine PC_of_W cfn65 ?_
  simp -implicitDefEqProofs (disch := omega) [c65, List.getElem?_cons_zero, List.getElem?_cons_succ, wrap_id, hk]
  refine HC_of_PC rfl (rvertex_ok _ _ _) ?_
  simp -implicitDefEqProofs (disch := omega) [List.getElem?_cons_zero, List.getElem?_cons_succ, wrap_id]
  cases h1 : vtx N es[k].a
  · simp -implicitDefEqProofs (disch := omega) [List.getElem?_cons_zero, List.getElem?_cons_succ, wrap_id]
    (refine fin0 trivial rfl ?_; simp -implicitDefEqProofs (disch := omega) [List.getElem?_cons_zero, List.getElem?_cons_succ, idx, wrap_id, edAt, edgeErr, h1])
  simp -implicitDefEqProofs (disch := omega) [List.getElem?_cons_zero, List.getElem?_cons_succ, wrap_id]
  refine HC_of_PC rfl (rvertex_ok _ _ _) ?_
  simp -implicitDefEqProofs (disch := omega) [List.getElem?_cons_zero, List.getElem?_cons_succ, wrap_id]
  cases h2 : vtx N es[k].b
  · simp -implicitDefEqProofs (disch := omega) [List.getElem?_cons_zero, List.getElem?_cons_succ, wrap_id]
    (refine fin0 trivial rfl ?_; simp -implicitDefEqProofs (disch := omega) [List.getElem?_cons_zero, List.getElem?_cons_succ, idx, wrap_id, edAt, edgeErr, h1, h2])
  by_cases h3 : es[k].m < 1
  · simp -implicitDefEqProofs (disch := omega) [List.getElem?_cons_zero, List.getElem?_cons_succ, wrap_id, h3]
    (refine fin0 trivial rfl ?_; simp -implicitDefEqProofs (disch := omega) [List.getElem?_cons_zero, List.getElem?_cons_succ, idx, wrap_id, edAt, edgeErr, h1, h2, h3])
  by_cases h4 : 50 < es[k].m
  · simp -implicitDefEqProofs (disch := omega) [List.getElem?_cons_zero, List.getElem?_cons_succ, wrap_id, h3, h4]
    (refine fin0 trivial rfl ?_; simp -implicitDefEqProofs (disch := omega) [List.getElem?_cons_zero, List.getElem?_cons_succ, idx, wrap_id, edAt, edgeErr, h1, h2, h3, h4])
  by_cases h5 : es[k].b < es[k].a
  · simp -implicitDefEqProofs (disch := omega) [List.getElem?_cons_zero, List.getElem?_cons_succ, wrap_id, h3, h4, h5]
    (refine fin0 trivial rfl ?_; simp -implicitDefEqProofs (disch := omega) [List.getElem?_cons_zero, List.getElem?_cons_succ, idx, wrap_id, edAt, edgeErr, h1, h2, h3, h4, h5])
  have hv := vtx_iff.1 h1
  rcases Nat.eq_zero_or_pos k with h0 | h0
  · subst h0
    simp -implicitDefEqProofs (disch := omega) [List.getElem?_cons_zero, List.getElem?_cons_succ, wrap_id, h3, h4, h5]
    have hb : behind (-1) (-1) es[0].a es[0].b = true := by simp [behind]; omega
    (refine fin0 trivial rfl ?_; simp -implicitDefEqProofs (disch := omega) [List.getElem?_cons_zero, List.getElem?_cons_succ, idx, wrap_id, edAt, edgeErr, h1, h2, h3, h4, h5, prvA, prvB, hb])
  · obtain ⟨j, rfl⟩ : ∃ j, k = j + 1 := ⟨k - 1, by omega⟩
    have hj : j < es.length := by omega
    have hA : prvA es (j + 1) = es[j].a := prvA_succ hj
    have hB : prvB es (j + 1) = es[j].b := prvB_succ hj
    have e1 : ((j : Int) + 1 - 1) = j := by omega
    by_cases h6 : es[j + 1].a < es[j].a
    · have hb : behind es[j].a es[j].b es[j + 1].a es[j + 1].b = false := by simp [behind]; omega
      simp -implicitDefEqProofs (disch := omega) [List.getElem?_cons_zero, List.getElem?_cons_succ, wrap_id, h3, h4, h5, h6, e1, hj]
      (refine fin0 trivial rfl ?_; simp -implicitDefEqProofs (disch := omega) [List.getElem?_cons_zero, List.getElem?_cons_succ, idx, wrap_id, edAt, edgeErr, h1, h2, h3, h4, h5, hA, hB, hb])
    by_cases h7 : es[j + 1].a = es[j].a
    · by_cases h8 : es[j + 1].b ≤ es[j].b
      · have hb : behind es[j].a es[j].b es[j + 1].a es[j + 1].b = false := by simp [behind]; omega
        rw [h7] at hb h5 h6 h1
        simp -implicitDefEqProofs (disch := omega) [List.getElem?_cons_zero, List.getElem?_cons_succ, wrap_id, h3, h4, h5, h6, h7, h8, e1, hj]
        (refine fin0 trivial rfl ?_; simp -implicitDefEqProofs (disch := omega) [List.getElem?_cons_zero, List.getElem?_cons_succ, idx, wrap_id, edAt, edgeErr, h1, h2, h3, h4, h5, hA, hB, h7, hb])
      · have hb : behind es[j].a es[j].b es[j + 1].a es[j + 1].b = true := by simp [behind]; omega
        rw [h7] at hb h5 h6 h1
        simp -implicitDefEqProofs (disch := omega) [List.getElem?_cons_zero, List.getElem?_cons_succ, wrap_id, h3, h4, h5, h6, h7, h8, e1, hj]
        (refine fin0 trivial rfl ?_; simp -implicitDefEqProofs (disch := omega) [List.getElem?_cons_zero, List.getElem?_cons_succ, idx, wrap_id, edAt, edgeErr, h1, h2, h3, h4, h5, hA, hB, h7, hb])
    · have hb : behind es[j].a es[j].b es[j + 1].a es[j + 1].b = true := by simp [behind]; omega
      simp -implicitDefEqProofs (disch := omega) [List.getElem?_cons_zero, List.getElem?_cons_succ, wrap_id, h3, h4, h5, h6, h7, e1, hj]
      (refine fin0 trivial rfl ?_; simp -implicitDefEqProofs (disch := omega) [List.getElem?_cons_zero, List.getElem?_cons_succ, idx, wrap_id, edAt, edgeErr, h1, h2, h3, h4, h5, hA, hB, hb])
theorem edAt_zero {N : Int} {es : List Ed} {k : Nat} {h : k < es.length} (he : edAt N es k h = 0) : behind (prvA es k) (prvB es k) es[k].a es[k].b = true ∧ vtx N es[k].a = true ∧ vtx N es[k].b = true := by
  unfold edAt edgeErr at he
  split at he
  · cases he
  · rename_i h1
    split at he
    · cases he
    · rename_i h2
      refine ⟨?_, ?_, ?_⟩
      · cases h : behind (prvA es k) (prvB es k) es[k].a es[k].b
        · exact absurd (.inr h) h2
        · rfl
      · cases h : vtx N es[k].a
        · exact absurd (.inl h) h1
        · rfl
      · cases h : vtx N es[k].b
        · exact absurd (.inr (.inl h)) h1
        · rfl
theorem rcheck_any (N : Int) (es : List Ed) : PC Try.prog 16 [G N es] (.i (gcheck N es)) [] := by
  refine PC_of_W cfn16 ?_
  by_cases h1 : N < 1
  · simp -implicitDefEqProofs (disch := omega) [c16, List.getElem?_cons_zero, List.getElem?_cons_succ, wrap_id, h1]
    (refine fin0 trivial rfl ?_; simp -implicitDefEqProofs (disch := omega) [List.getElem?_cons_zero, List.getElem?_cons_succ, idx, wrap_id, gcheck, h1])
  by_cases h2 : 12 < N
  · simp -implicitDefEqProofs (disch := omega) [c16, List.getElem?_cons_zero, List.getElem?_cons_succ, wrap_id, h1, h2]
    (refine fin0 trivial rfl ?_; simp -implicitDefEqProofs (disch := omega) [List.getElem?_cons_zero, List.getElem?_cons_succ, idx, wrap_id, gcheck, h1, h2])
  simp -implicitDefEqProofs (disch := omega) [c16, List.getElem?_cons_zero, List.getElem?_cons_succ, wrap_id, h1, h2]
  refine loopW es.length (fun k s => s = ⟨[(3, .i k), (1, .ptr 0 1 0 0)], [.box (.p (G N es))]⟩ ∧ gloop N es (-1) (-1) = gloop N (es.drop k) (prvA es k) (prvB es k) ∧ prvA es k < 12 ∧ prvB es k < 12 ∧ (k : Int) ≤ 12 * prvA es k + prvB es k + 14) (wk_norm [0] [3, 1] rfl rfl) ⟨rfl, rfl, by simp [prvA], by simp [prvB], by simp [prvA, prvB]⟩ ?_
  rintro k s hk ⟨rfl, hI, hA, hB, hK⟩
  have hk2 : k ≤ 1000000 := by omega
  by_cases hlt : k < es.length
  · have hd := gloop_drop N es k hlt
    simp -implicitDefEqProofs (disch := omega) [List.getElem?_cons_zero, List.getElem?_cons_succ, wrap_id, hlt]
    refine HC_of_PC rfl (edge_okB N es k hlt hk2) ?_
    by_cases he : edAt N es k hlt = 0
    · simp -implicitDefEqProofs (disch := omega) [List.getElem?_cons_zero, List.getElem?_cons_succ, wrap_id, he]
      obtain ⟨e1, e2, e3⟩ := edAt_zero he
      have e2' := vtx_iff.1 e2
      have e3' := vtx_iff.1 e3
      refine round_end [0] [3, 1] hlt rfl ⟨rfl, by rw [hI, hd, he]; rfl, ?_, ?_, ?_⟩
      · rw [prvA_succ hlt]; omega
      · rw [prvB_succ hlt]; omega
      · rw [prvA_succ hlt, prvB_succ hlt]
        simp [behind] at e1
        omega
    · simp -implicitDefEqProofs (disch := omega) [List.getElem?_cons_zero, List.getElem?_cons_succ, wrap_id, he]
      (refine fin0 trivial rfl ?_; simp -implicitDefEqProofs (disch := omega) [List.getElem?_cons_zero, List.getElem?_cons_succ, idx, wrap_id, gcheck, h1, h2, hI, hd, he])
  · simp -implicitDefEqProofs (disch := omega) [List.getElem?_cons_zero, List.getElem?_cons_succ, wrap_id, hlt]
    (refine fin0 trivial rfl ?_; simp -implicitDefEqProofs (disch := omega) [List.getElem?_cons_zero, List.getElem?_cons_succ, idx, wrap_id, gcheck, h1, h2, hI, gloop, List.drop_of_length_le (Nat.le_of_not_lt hlt)])
end Go.Proofs.Ytjinjbcdbkgedaa
