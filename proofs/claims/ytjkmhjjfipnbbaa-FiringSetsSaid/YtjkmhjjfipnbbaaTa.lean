/-
  Contracts: divisors, in the reference and in package chips.
-/
import Derived.Test.YtjkmhjjfipnbbaaAbsq
import Derived.Test.YtjkmhjjfipnbbaaCod
import Derived.Test.YtjkmhjjfipnbbaaLaw
set_option linter.unusedSimpArgs false
namespace Go.Proofs.Ytjkmhjjfipnbbaa
open Go.Abs Go.Sand

/-- An edge, a graph. -/
abbrev edP (e : Ed) : PV := .agg [.i e.a, .i e.b, .i e.m]
abbrev G (N : Int) (es : List Ed) : PV := .agg [.i N, .sl (es.map edP)]

theorem in_ok (k : Int) : PC Try.prog 86 [.i k] (.b (inB k)) [] := by
  refine PC_of_W cfn86 ?_
  by_cases h1 : -1048576 ≤ k <;> by_cases h2 : k ≤ 1048576
  all_goals
    simp -implicitDefEqProofs (disch := omega) [c86, List.getElem?_cons_zero, List.getElem?_cons_succ, wrap_id, h1, h2]
    (refine fin0 trivial rfl ?_; simp -implicitDefEqProofs (disch := omega) [List.getElem?_cons_zero, List.getElem?_cons_succ, idx, wrap_id, inB, h1, h2])
theorem within_ok (k : Int) : PC Try.prog 101 [.i k] (.b (inB k)) [] := by
  refine PC_of_W cfn101 ?_
  by_cases h1 : -1048576 ≤ k <;> by_cases h2 : k ≤ 1048576
  all_goals
    simp -implicitDefEqProofs (disch := omega) [c101, List.getElem?_cons_zero, List.getElem?_cons_succ, wrap_id, h1, h2]
    (refine fin0 trivial rfl ?_; simp -implicitDefEqProofs (disch := omega) [List.getElem?_cons_zero, List.getElem?_cons_succ, idx, wrap_id, inB, h1, h2])
def vertsErr (n : Int) : Int := if n < 1 ∨ 12 < n then 2 else 0
theorem vertices_ok (n : Int) : PC Try.prog 100 [.i n] (.i (vertsErr n)) [] := by
  refine PC_of_W cfn100 ?_
  by_cases h1 : n < 1 <;> by_cases h2 : 12 < n
  all_goals
    simp -implicitDefEqProofs (disch := omega) [c100, List.getElem?_cons_zero, List.getElem?_cons_succ, wrap_id, h1, h2]
    (refine fin0 trivial rfl ?_; simp -implicitDefEqProofs (disch := omega) [List.getElem?_cons_zero, List.getElem?_cons_succ, idx, wrap_id, vertsErr, h1, h2])
theorem drop_all {α : Type} (p : α → Bool) (xs : List α) (k : Nat) (h : k < xs.length) : (xs.drop k).all p = (p xs[k] && (xs.drop (k + 1)).all p) := by
  rw [List.drop_eq_getElem_cons h, List.all_cons]
theorem dcheck_ok (xs : List Int) (n : Int) (hx : xs.length ≤ 4611686018427387904) : PC Try.prog 56 [.is xs, .i n] (.i (dcheck xs n)) [] := by
  refine PC_of_W cfn56 ?_
  by_cases h1 : n < 1
  · simp -implicitDefEqProofs (disch := omega) [c56, List.getElem?_cons_zero, List.getElem?_cons_succ, wrap_id, h1]
    (refine fin0 trivial rfl ?_; simp -implicitDefEqProofs (disch := omega) [List.getElem?_cons_zero, List.getElem?_cons_succ, idx, wrap_id, dcheck, h1])
  by_cases h2 : 12 < n
  · simp -implicitDefEqProofs (disch := omega) [c56, List.getElem?_cons_zero, List.getElem?_cons_succ, wrap_id, h1, h2]
    (refine fin0 trivial rfl ?_; simp -implicitDefEqProofs (disch := omega) [List.getElem?_cons_zero, List.getElem?_cons_succ, idx, wrap_id, dcheck, h1, h2])
  by_cases h3 : (xs.length : Int) = n
  rotate_left
  · simp -implicitDefEqProofs (disch := omega) [c56, List.getElem?_cons_zero, List.getElem?_cons_succ, wrap_id, h1, h2, h3]
    (refine fin0 trivial rfl ?_; simp -implicitDefEqProofs (disch := omega) [List.getElem?_cons_zero, List.getElem?_cons_succ, idx, wrap_id, dcheck, h1, h2, h3])
  subst h3
  simp -implicitDefEqProofs (disch := omega) [c56, List.getElem?_cons_zero, List.getElem?_cons_succ, wrap_id, h1, h2]
  refine loopW xs.length (fun k s => s = ⟨[(5, .i k), (0, .p (.is xs)), (1, .i xs.length)], []⟩ ∧ xs.all inB = (xs.drop k).all inB) (wk_norm [] [5, 0, 1] rfl rfl) ⟨rfl, rfl⟩ ?_
  rintro k s hk ⟨rfl, hI⟩
  by_cases hlt : k < xs.length
  · have hd := drop_all inB xs k hlt
    simp -implicitDefEqProofs (disch := omega) [List.getElem?_cons_zero, List.getElem?_cons_succ, wrap_id, hlt]
    refine HC_of_PC rfl (in_ok _) ?_
    simp -implicitDefEqProofs (disch := omega) [List.getElem?_cons_zero, List.getElem?_cons_succ, wrap_id]
    cases hv : inB xs[k]
    · rw [hv] at hd
      simp -implicitDefEqProofs (disch := omega) [List.getElem?_cons_zero, List.getElem?_cons_succ, wrap_id]
      (refine fin0 trivial rfl ?_; simp -implicitDefEqProofs (disch := omega) [List.getElem?_cons_zero, List.getElem?_cons_succ, idx, wrap_id, dcheck, h1, h2, hI, hd])
    · rw [hv] at hd
      simp -implicitDefEqProofs (disch := omega) [List.getElem?_cons_zero, List.getElem?_cons_succ, wrap_id]
      exact round_end [] [5, 0, 1] hlt rfl ⟨rfl, by rw [hI, hd]; rfl⟩
  · simp -implicitDefEqProofs (disch := omega) [List.getElem?_cons_zero, List.getElem?_cons_succ, wrap_id, hlt]
    (refine fin0 trivial rfl ?_; simp -implicitDefEqProofs (disch := omega) [List.getElem?_cons_zero, List.getElem?_cons_succ, idx, wrap_id, dcheck, h1, h2, hI, List.drop_of_length_le (Nat.le_of_not_lt hlt)])
theorem chk_ok (xs : List Int) (n : Int) (hx : xs.length ≤ 4611686018427387904) : PC Try.prog 88 [.is xs, .i n] (.i (dcheck xs n)) [] := by
  refine PC_of_W cfn88 ?_
  simp -implicitDefEqProofs (disch := omega) [c88, List.getElem?_cons_zero, List.getElem?_cons_succ, wrap_id]
  refine HC_of_PC rfl (vertices_ok n) ?_
  by_cases h1 : n < 1 ∨ 12 < n
  · simp -implicitDefEqProofs (disch := omega) [List.getElem?_cons_zero, List.getElem?_cons_succ, wrap_id, vertsErr, h1]
    (refine fin0 trivial rfl ?_; simp -implicitDefEqProofs (disch := omega) [List.getElem?_cons_zero, List.getElem?_cons_succ, idx, wrap_id, dcheck, h1])
  by_cases h3 : (xs.length : Int) = n
  rotate_left
  · simp -implicitDefEqProofs (disch := omega) [List.getElem?_cons_zero, List.getElem?_cons_succ, wrap_id, vertsErr, h1, h3]
    (refine fin0 trivial rfl ?_; simp -implicitDefEqProofs (disch := omega) [List.getElem?_cons_zero, List.getElem?_cons_succ, idx, wrap_id, dcheck, h1, h3])
  subst h3
  simp -implicitDefEqProofs (disch := omega) [List.getElem?_cons_zero, List.getElem?_cons_succ, wrap_id, vertsErr, h1]
  refine loopW xs.length (fun k s => s = ⟨[(19, .i k), (18, .i xs.length), (17, .p (.is xs))], []⟩ ∧ xs.all inB = (xs.drop k).all inB) (wk_norm [] [19, 18, 17] rfl rfl) ⟨rfl, rfl⟩ ?_
  rintro k s hk ⟨rfl, hI⟩
  by_cases hlt : k < xs.length
  · have hd := drop_all inB xs k hlt
    simp -implicitDefEqProofs (disch := omega) [List.getElem?_cons_zero, List.getElem?_cons_succ, wrap_id, hlt]
    refine HC_of_PC rfl (within_ok _) ?_
    simp -implicitDefEqProofs (disch := omega) [List.getElem?_cons_zero, List.getElem?_cons_succ, wrap_id]
    cases hv : inB xs[k]
    · rw [hv] at hd
      simp -implicitDefEqProofs (disch := omega) [List.getElem?_cons_zero, List.getElem?_cons_succ, wrap_id]
      (refine fin0 trivial rfl ?_; simp -implicitDefEqProofs (disch := omega) [List.getElem?_cons_zero, List.getElem?_cons_succ, idx, wrap_id, dcheck, h1, hI, hd])
    · rw [hv] at hd
      simp -implicitDefEqProofs (disch := omega) [List.getElem?_cons_zero, List.getElem?_cons_succ, wrap_id]
      exact round_end [] [19, 18, 17] hlt rfl ⟨rfl, by rw [hI, hd]; rfl⟩
  · simp -implicitDefEqProofs (disch := omega) [List.getElem?_cons_zero, List.getElem?_cons_succ, wrap_id, hlt]
    (refine fin0 trivial rfl ?_; simp -implicitDefEqProofs (disch := omega) [List.getElem?_cons_zero, List.getElem?_cons_succ, idx, wrap_id, dcheck, h1, hI, List.drop_of_length_le (Nat.le_of_not_lt hlt)])
end Go.Proofs.Ytjkmhjjfipnbbaa
