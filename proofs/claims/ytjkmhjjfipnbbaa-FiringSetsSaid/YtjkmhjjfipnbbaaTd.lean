/-
  Contracts: graphs, in the reference: the checks.
-/
import Derived.Test.YtjkmhjjfipnbbaaTc
set_option linter.unusedSimpArgs false
namespace Go.Proofs.Ytjkmhjjfipnbbaa
open Go.Abs Go.Sand

theorem gloop_drop (N : Int) (es : List Ed) (k : Nat) (h : k < es.length) : gloop N (es.drop k) (prvA es k) (prvB es k) = if edAt N es k h ≠ 0 then edAt N es k h else gloop N (es.drop (k + 1)) (prvA es (k + 1)) (prvB es (k + 1)) := by
  rw [List.drop_eq_getElem_cons h, gloop, prvA_succ h, prvB_succ h]; rfl
theorem rcheck_ok (N : Int) (es : List Ed) (hel : es.length ≤ 4611686018427387904) : PC Try.prog 55 [G N es] (.i (gcheck N es)) [] := by
  refine PC_of_W cfn55 ?_
  by_cases h1 : N < 1
  · simp -implicitDefEqProofs (disch := omega) [c55, List.getElem?_cons_zero, List.getElem?_cons_succ, wrap_id, h1]
    (refine fin0 trivial rfl ?_; simp -implicitDefEqProofs (disch := omega) [List.getElem?_cons_zero, List.getElem?_cons_succ, idx, wrap_id, gcheck, h1])
  by_cases h2 : 12 < N
  · simp -implicitDefEqProofs (disch := omega) [c55, List.getElem?_cons_zero, List.getElem?_cons_succ, wrap_id, h1, h2]
    (refine fin0 trivial rfl ?_; simp -implicitDefEqProofs (disch := omega) [List.getElem?_cons_zero, List.getElem?_cons_succ, idx, wrap_id, gcheck, h1, h2])
  simp -implicitDefEqProofs (disch := omega) [c55, List.getElem?_cons_zero, List.getElem?_cons_succ, wrap_id, h1, h2]
  refine loopW es.length (fun k s => s = ⟨[(3, .i k), (1, .ptr 0 1 0 0)], [.box (.p (G N es))]⟩ ∧ gloop N es (-1) (-1) = gloop N (es.drop k) (prvA es k) (prvB es k)) (wk_norm [0] [3, 1] rfl rfl) ⟨rfl, rfl⟩ ?_
  rintro k s hk ⟨rfl, hI⟩
  by_cases hlt : k < es.length
  · have hd := gloop_drop N es k hlt
    simp -implicitDefEqProofs (disch := omega) [List.getElem?_cons_zero, List.getElem?_cons_succ, wrap_id, hlt]
    refine HC_of_PC rfl (edge_ok N es k hlt hel) ?_
    by_cases he : edAt N es k hlt = 0
    · simp -implicitDefEqProofs (disch := omega) [List.getElem?_cons_zero, List.getElem?_cons_succ, wrap_id, he]
      exact round_end [0] [3, 1] hlt rfl ⟨rfl, by rw [hI, hd, he]; rfl⟩
    · simp -implicitDefEqProofs (disch := omega) [List.getElem?_cons_zero, List.getElem?_cons_succ, wrap_id, he]
      (refine fin0 trivial rfl ?_; simp -implicitDefEqProofs (disch := omega) [List.getElem?_cons_zero, List.getElem?_cons_succ, idx, wrap_id, gcheck, h1, h2, hI, hd, he])
  · simp -implicitDefEqProofs (disch := omega) [List.getElem?_cons_zero, List.getElem?_cons_succ, wrap_id, hlt]
    (refine fin0 trivial rfl ?_; simp -implicitDefEqProofs (disch := omega) [List.getElem?_cons_zero, List.getElem?_cons_succ, idx, wrap_id, gcheck, h1, h2, hI, gloop, List.drop_of_length_le (Nat.le_of_not_lt hlt)])
theorem valTo_bd {n : Int} {es : List Ed} (h : ∀ x ∈ es, Right n x) (v : Int) (k : Nat) : 0 ≤ valTo es v k ∧ valTo es v k ≤ 50 * k := by
  induction k with
  | zero => simp [valTo]
  | succ k ih =>
    have := betw_bd h (min (k : Int) v) (max (k : Int) v)
    rw [valTo]
    push_cast
    split <;> omega
theorem rval_ok (n : Nat) (v : Int) (es : List Ed) (hn : n ≤ 1000) (hg : ∀ x ∈ es, Right n x) (hel : es.length ≤ 4611686018427387904) : PC Try.prog 93 [G n es, .i v] (.i (valTo es v n)) [] := by
  refine PC_of_W cfn93 ?_
  simp -implicitDefEqProofs (disch := omega) [c93, List.getElem?_cons_zero, List.getElem?_cons_succ, wrap_id]
  refine loopW n (fun k s => s = ⟨[(6, .i k), (5, .i (valTo es v k)), (2, .ptr 0 1 0 0), (1, .i v)], [.box (.p (G n es))]⟩) (wk_norm [0] [6, 5, 2, 1] rfl rfl) rfl ?_
  rintro k s hk rfl
  have hb := valTo_bd hg v k
  have hb1 := betw_bd hg (min (k : Int) v) (max (k : Int) v)
  by_cases hlt : k < n
  · have hv : valTo es v (k + 1) = valTo es v k + if (k : Int) = v then 0 else betw es (min (k : Int) v) (max (k : Int) v) := rfl
    by_cases he : (k : Int) = v
    · subst he
      rw [if_pos rfl, Int.add_zero] at hv
      simp -implicitDefEqProofs (disch := omega) [List.getElem?_cons_zero, List.getElem?_cons_succ, wrap_id, hlt]
      exact round_end [0] [6, 5, 2, 1] hlt rfl (by rw [hv]; rfl)
    · rw [if_neg he] at hv
      simp -implicitDefEqProofs (disch := omega) [List.getElem?_cons_zero, List.getElem?_cons_succ, wrap_id, hlt, he]
      refine HC_of_PC rfl (rbetw_ok n k v es hel) ?_
      simp -implicitDefEqProofs (disch := omega) [List.getElem?_cons_zero, List.getElem?_cons_succ, wrap_id]
      exact round_end [0] [6, 5, 2, 1] hlt rfl (by rw [hv]; rfl)
  · have : k = n := by omega
    subst this
    simp -implicitDefEqProofs (disch := omega) [List.getElem?_cons_zero, List.getElem?_cons_succ, wrap_id, hlt]
    (refine fin0 trivial rfl ?_; simp -implicitDefEqProofs (disch := omega) [List.getElem?_cons_zero, List.getElem?_cons_succ, idx, wrap_id])
theorem subErr_drop (N : Int) (xs : List Int) (k : Nat) (h : k < xs.length) : subErr N (prvI xs k) (xs.drop k) = if vtx N xs[k] = false then 2 else if xs[k] ≤ prvI xs k then 9 else subErr N (prvI xs (k + 1)) (xs.drop (k + 1)) := by
  rw [List.drop_eq_getElem_cons h, subErr, prvI_succ h]
theorem rsubset_ok (N : Int) (es : List Ed) (xs : List Int) (hx : xs.length ≤ 4611686018427387904) : PC Try.prog 30 [G N es, .is xs] (.i (subErr N (-1) xs)) [] := by
  refine PC_of_W cfn30 ?_
  simp -implicitDefEqProofs (disch := omega) [c30, List.getElem?_cons_zero, List.getElem?_cons_succ, wrap_id]
  refine loopW xs.length (fun k s => s = ⟨[(5, .i k), (2, .ptr 0 1 0 0), (1, .p (.is xs))], [.box (.p (G N es))]⟩ ∧ subErr N (-1) xs = subErr N (prvI xs k) (xs.drop k)) (wk_norm [0] [5, 2, 1] rfl rfl) ⟨rfl, rfl⟩ ?_
  rintro k s hk ⟨rfl, hI⟩
  by_cases hlt : k < xs.length
  · have hd := subErr_drop N xs k hlt
    simp -implicitDefEqProofs (disch := omega) [List.getElem?_cons_zero, List.getElem?_cons_succ, wrap_id, hlt]
    refine HC_of_PC rfl (rvertex_ok N xs[k] es) ?_
    cases hv : vtx N xs[k]
    · simp -implicitDefEqProofs (disch := omega) [List.getElem?_cons_zero, List.getElem?_cons_succ, wrap_id]
      (refine fin0 trivial rfl ?_; simp -implicitDefEqProofs (disch := omega) [List.getElem?_cons_zero, List.getElem?_cons_succ, idx, wrap_id, hI, hd, hv])
    rcases Nat.eq_zero_or_pos k with h0 | h0
    · subst h0
      have hnn : ¬ xs[0] ≤ prvI xs 0 := by have := vtx_iff.1 hv; simp only [prvI]; omega
      simp -implicitDefEqProofs (disch := omega) [List.getElem?_cons_zero, List.getElem?_cons_succ, wrap_id]
      exact round_end [0] [5, 2, 1] hlt rfl ⟨rfl, by rw [hI, hd, hv, if_neg hnn]; rfl⟩
    · obtain ⟨j, rfl⟩ : ∃ j, k = j + 1 := ⟨k - 1, by omega⟩
      have hj : j < xs.length := by omega
      have e1 : ((j : Int) + 1 - 1) = j := by omega
      have hA : prvI xs (j + 1) = xs[j] := prvI_succ hj
      rw [hA] at hI hd
      by_cases h6 : xs[j + 1] ≤ xs[j]
      · simp -implicitDefEqProofs (disch := omega) [List.getElem?_cons_zero, List.getElem?_cons_succ, wrap_id, h6, e1, hj]
        (refine fin0 trivial rfl ?_; simp -implicitDefEqProofs (disch := omega) [List.getElem?_cons_zero, List.getElem?_cons_succ, idx, wrap_id, hI, hd, hv, h6])
      · simp -implicitDefEqProofs (disch := omega) [List.getElem?_cons_zero, List.getElem?_cons_succ, wrap_id, h6, e1, hj]
        exact round_end [0] [5, 2, 1] hlt rfl ⟨rfl, by rw [hI, hd, hv, if_neg h6]; rfl⟩
  · simp -implicitDefEqProofs (disch := omega) [List.getElem?_cons_zero, List.getElem?_cons_succ, wrap_id, hlt]
    (refine fin0 trivial rfl ?_; simp -implicitDefEqProofs (disch := omega) [List.getElem?_cons_zero, List.getElem?_cons_succ, idx, wrap_id, hI, subErr, List.drop_of_length_le (Nat.le_of_not_lt hlt)])
end Go.Proofs.Ytjkmhjjfipnbbaa
