/-
  Texts joined: Mra Mrb.
-/
import Derived.Test.YtekniokkmgencaaGreatKh15

section
set_option linter.unusedSimpArgs false
namespace Go.Proofs.YtekniokkmgencaaGreat
open Go.Abs Go.Sand
abbrev edP (e : Ed) : PV := .agg [.i e.a, .i e.b, .i e.m]
abbrev G (N : Int) (es : List Ed) : PV := .agg [.i N, .sl (es.map edP)]
theorem in_ok (k : Int) : PC Tryz.prog 58 [.i k] (.b (inB k)) [] := by
  refine PC_of_W cfn58 ?_
  by_cases h1 : -1048576 ≤ k <;> by_cases h2 : k ≤ 1048576
  all_goals
    simp -implicitDefEqProofs (disch := omega) [c58, List.getElem?_cons_zero, List.getElem?_cons_succ, wrap_id, h1, h2]
    (refine fin0 trivial rfl ?_; simp -implicitDefEqProofs (disch := omega) [List.getElem?_cons_zero, List.getElem?_cons_succ, idx, wrap_id, inB, h1, h2])
theorem within_ok (k : Int) : PC Tryz.prog 61 [.i k] (.b (inB k)) [] := by
  refine PC_of_W cfn61 ?_
  by_cases h1 : -1048576 ≤ k <;> by_cases h2 : k ≤ 1048576
  all_goals
    simp -implicitDefEqProofs (disch := omega) [c61, List.getElem?_cons_zero, List.getElem?_cons_succ, wrap_id, h1, h2]
    (refine fin0 trivial rfl ?_; simp -implicitDefEqProofs (disch := omega) [List.getElem?_cons_zero, List.getElem?_cons_succ, idx, wrap_id, inB, h1, h2])
def vertsErr (n : Int) : Int := if n < 1 ∨ 12 < n then 2 else 0
theorem vertices_ok (n : Int) : PC Tryz.prog 60 [.i n] (.i (vertsErr n)) [] := by
  refine PC_of_W cfn60 ?_
  by_cases h1 : n < 1 <;> by_cases h2 : 12 < n
  all_goals
    simp -implicitDefEqProofs (disch := omega) [c60, List.getElem?_cons_zero, List.getElem?_cons_succ, wrap_id, h1, h2]
    (refine fin0 trivial rfl ?_; simp -implicitDefEqProofs (disch := omega) [List.getElem?_cons_zero, List.getElem?_cons_succ, idx, wrap_id, vertsErr, h1, h2])
theorem drop_all {α : Type} (p : α → Bool) (xs : List α) (k : Nat) (h : k < xs.length) : (xs.drop k).all p = (p xs[k] && (xs.drop (k + 1)).all p) := by
  rw [List.drop_eq_getElem_cons h, List.all_cons]
theorem dcheck_ok (xs : List Int) (n : Int) (hx : xs.length ≤ 4611686018427387904) : PC Tryz.prog 34 [.is xs, .i n] (.i (dcheck xs n)) [] := by
  refine PC_of_W cfn34 ?_
  by_cases h1 : n < 1
  · simp -implicitDefEqProofs (disch := omega) [c34, List.getElem?_cons_zero, List.getElem?_cons_succ, wrap_id, h1]
    (refine fin0 trivial rfl ?_; simp -implicitDefEqProofs (disch := omega) [List.getElem?_cons_zero, List.getElem?_cons_succ, idx, wrap_id, dcheck, h1])
  by_cases h2 : 12 < n
  · simp -implicitDefEqProofs (disch := omega) [c34, List.getElem?_cons_zero, List.getElem?_cons_succ, wrap_id, h1, h2]
    (refine fin0 trivial rfl ?_; simp -implicitDefEqProofs (disch := omega) [List.getElem?_cons_zero, List.getElem?_cons_succ, idx, wrap_id, dcheck, h1, h2])
  by_cases h3 : (xs.length : Int) = n
  rotate_left
  · simp -implicitDefEqProofs (disch := omega) [c34, List.getElem?_cons_zero, List.getElem?_cons_succ, wrap_id, h1, h2, h3]
    (refine fin0 trivial rfl ?_; simp -implicitDefEqProofs (disch := omega) [List.getElem?_cons_zero, List.getElem?_cons_succ, idx, wrap_id, dcheck, h1, h2, h3])
  subst h3
  simp -implicitDefEqProofs (disch := omega) [c34, List.getElem?_cons_zero, List.getElem?_cons_succ, wrap_id, h1, h2]
  refine loopW xs.length (fun k s => s = ⟨[(5, .i k), (0, .p (.is xs)), (1, .i xs.length)], []⟩ ∧ xs.all inB = (xs.drop k).all inB) (wk_norm [] [5, 0, 1] rfl rfl) ⟨rfl, rfl⟩ ?_
  rintro k s hk ⟨rfl, hI⟩
  by_cases hlt : k < xs.length
  · have hd := drop_all inB xs k hlt
    simp -implicitDefEqProofs (disch := omega) [List.getElem?_cons_zero, List.getElem?_cons_succ, wrap_id, hlt]
    refine HC_of_PC rfl (in_ok _) ?_
    simp -implicitDefEqProofs (disch := omega) [List.getElem?_cons_zero, List.getElem?_cons_succ, wrap_id]
    cases hv : inB xs[k]
    · rw [hv] at hd
      simp -implicitDefEqProofs (disch := omega) [List.getElem?_cons_zero, List.getElem?_cons_succ, wrap_id]
      (refine fin0 trivial rfl ?_; simp -implicitDefEqProofs (disch := omega) [List.getElem?_cons_zero, List.getElem?_cons_succ, idx, wrap_id, dcheck, h1, h2, hI, hd])
    · rw [hv] at hd
      simp -implicitDefEqProofs (disch := omega) [List.getElem?_cons_zero, List.getElem?_cons_succ, wrap_id]
      exact round_end [] [5, 0, 1] hlt rfl ⟨rfl, by rw [hI, hd]; rfl⟩
  · simp -implicitDefEqProofs (disch := omega) [List.getElem?_cons_zero, List.getElem?_cons_succ, wrap_id, hlt]
    (refine fin0 trivial rfl ?_; simp -implicitDefEqProofs (disch := omega) [List.getElem?_cons_zero, List.getElem?_cons_succ, idx, wrap_id, dcheck, h1, h2, hI, List.drop_of_length_le (Nat.le_of_not_lt hlt)])
theorem chk_ok (xs : List Int) (n : Int) (hx : xs.length ≤ 4611686018427387904) : PC Tryz.prog 36 [.is xs, .i n] (.i (dcheck xs n)) [] := by
  refine PC_of_W cfn36 ?_
  simp -implicitDefEqProofs (disch := omega) [c36, List.getElem?_cons_zero, List.getElem?_cons_succ, wrap_id]
  refine HC_of_PC rfl (vertices_ok n) ?_
  by_cases h1 : n < 1 ∨ 12 < n
  · simp -implicitDefEqProofs (disch := omega) [List.getElem?_cons_zero, List.getElem?_cons_succ, wrap_id, vertsErr, h1]
    (refine fin0 trivial rfl ?_; simp -implicitDefEqProofs (disch := omega) [List.getElem?_cons_zero, List.getElem?_cons_succ, idx, wrap_id, dcheck, h1])
  by_cases h3 : (xs.length : Int) = n
  rotate_left
  · simp -implicitDefEqProofs (disch := omega) [List.getElem?_cons_zero, List.getElem?_cons_succ, wrap_id, vertsErr, h1, h3]
    (refine fin0 trivial rfl ?_; simp -implicitDefEqProofs (disch := omega) [List.getElem?_cons_zero, List.getElem?_cons_succ, idx, wrap_id, dcheck, h1, h3])
  subst h3
  simp -implicitDefEqProofs (disch := omega) [List.getElem?_cons_zero, List.getElem?_cons_succ, wrap_id, vertsErr, h1]
  refine loopW xs.length (fun k s => s = ⟨[(19, .i k), (18, .i xs.length), (17, .p (.is xs))], []⟩ ∧ xs.all inB = (xs.drop k).all inB) (wk_norm [] [19, 18, 17] rfl rfl) ⟨rfl, rfl⟩ ?_
  rintro k s hk ⟨rfl, hI⟩
  by_cases hlt : k < xs.length
  · have hd := drop_all inB xs k hlt
    simp -implicitDefEqProofs (disch := omega) [List.getElem?_cons_zero, List.getElem?_cons_succ, wrap_id, hlt]
    refine HC_of_PC rfl (within_ok _) ?_
    simp -implicitDefEqProofs (disch := omega) [List.getElem?_cons_zero, List.getElem?_cons_succ, wrap_id]
    cases hv : inB xs[k]
    · rw [hv] at hd
      simp -implicitDefEqProofs (disch := omega) [List.getElem?_cons_zero, List.getElem?_cons_succ, wrap_id]
      (refine fin0 trivial rfl ?_; simp -implicitDefEqProofs (disch := omega) [List.getElem?_cons_zero, List.getElem?_cons_succ, idx, wrap_id, dcheck, h1, hI, hd])
    · rw [hv] at hd
      simp -implicitDefEqProofs (disch := omega) [List.getElem?_cons_zero, List.getElem?_cons_succ, wrap_id]
      exact round_end [] [19, 18, 17] hlt rfl ⟨rfl, by rw [hI, hd]; rfl⟩
  · simp -implicitDefEqProofs (disch := omega) [List.getElem?_cons_zero, List.getElem?_cons_succ, wrap_id, hlt]
    (refine fin0 trivial rfl ?_; simp -implicitDefEqProofs (disch := omega) [List.getElem?_cons_zero, List.getElem?_cons_succ, idx, wrap_id, dcheck, h1, hI, List.drop_of_length_le (Nat.le_of_not_lt hlt)])
end Go.Proofs.YtekniokkmgencaaGreat
/-
  Contracts: graphs, in the reference.
-/
set_option linter.unusedSimpArgs false
namespace Go.Proofs.YtekniokkmgencaaGreat
open Go.Abs Go.Sand
theorem rvertex_ok (N v : Int) (es : List Ed) : PC Tryz.prog 57 [G N es, .i v] (.b (vtx N v)) [] := by
  refine PC_of_W cfn57 ?_
  by_cases h1 : 0 ≤ v <;> by_cases h2 : v < N
  all_goals
    simp -implicitDefEqProofs (disch := omega) [c57, List.getElem?_cons_zero, List.getElem?_cons_succ, wrap_id, h1, h2]
    (refine fin0 trivial rfl ?_; simp -implicitDefEqProofs (disch := omega) [List.getElem?_cons_zero, List.getElem?_cons_succ, idx, wrap_id, vtx, h1, h2])
theorem betw_drop (es : List Ed) (lo hi : Int) (k : Nat) (h : k < es.length) : betw (es.drop k) lo hi = if es[k].a = lo ∧ es[k].b = hi then es[k].m else betw (es.drop (k + 1)) lo hi := by
  rw [List.drop_eq_getElem_cons h, betw]
theorem rbetw_ok (N a b : Int) (es : List Ed) (hel : es.length ≤ 4611686018427387904) : PC Tryz.prog 109 [G N es, .i a, .i b] (.i (betw es (min a b) (max a b))) [] := by
  refine PC_of_W cfn109 ?_
  simp -implicitDefEqProofs (disch := omega) [c109, List.getElem?_cons_zero, List.getElem?_cons_succ, wrap_id]
  refine loopW es.length (fun k s => s = ⟨[(7, .i k), (3, .ptr 0 1 0 0), (1, .i a), (2, .i b)], [.box (.p (G N es))]⟩ ∧ betw es (min a b) (max a b) = betw (es.drop k) (min a b) (max a b)) (wk_norm [0] [7, 3, 1, 2] rfl rfl) ⟨rfl, rfl⟩ ?_
  rintro k s hk ⟨rfl, hI⟩
  by_cases hlt : k < es.length
  · have hd := betw_drop es (min a b) (max a b) k hlt
    by_cases h1 : es[k].a = min a b <;> by_cases h2 : es[k].b = max a b
    · simp -implicitDefEqProofs (disch := omega) [List.getElem?_cons_zero, List.getElem?_cons_succ, wrap_id, hlt, h1, h2]
      (refine fin0 trivial rfl ?_; simp -implicitDefEqProofs (disch := omega) [List.getElem?_cons_zero, List.getElem?_cons_succ, idx, wrap_id, hI, hd, h1, h2])
    all_goals
      simp -implicitDefEqProofs (disch := omega) [List.getElem?_cons_zero, List.getElem?_cons_succ, wrap_id, hlt, h1, h2]
      exact round_end [0] [7, 3, 1, 2] hlt rfl ⟨rfl, by rw [hI, hd]; simp [h1, h2]⟩
  · simp -implicitDefEqProofs (disch := omega) [List.getElem?_cons_zero, List.getElem?_cons_succ, wrap_id, hlt]
    (refine fin0 trivial rfl ?_; simp -implicitDefEqProofs (disch := omega) [List.getElem?_cons_zero, List.getElem?_cons_succ, idx, wrap_id, hI, betw, List.drop_of_length_le (Nat.le_of_not_lt hlt)])
theorem dfew_ok (xs : List Int) : PC Tryz.prog 32 [.is xs] (.b (decide (xs.length ≤ 24))) [] := by
  refine PC_of_W cfn32 ?_
  simp -implicitDefEqProofs (disch := omega) [c32, List.getElem?_cons_zero, List.getElem?_cons_succ, wrap_id]
  (refine fin0 trivial rfl ?_; simp -implicitDefEqProofs (disch := omega) [List.getElem?_cons_zero, List.getElem?_cons_succ, idx, wrap_id])
  omega
def in60 (x : Int) : Bool := decide (-60 ≤ x ∧ x ≤ 60)
theorem dsmall_ok (xs : List Int) (hx : xs.length ≤ 4611686018427387904) : PC Tryz.prog 13 [.is xs] (.b (xs.all in60)) [] := by
  refine PC_of_W cfn13 ?_
  simp -implicitDefEqProofs (disch := omega) [c13, List.getElem?_cons_zero, List.getElem?_cons_succ, wrap_id]
  refine loopW xs.length (fun k s => s = ⟨[(3, .i k), (0, .p (.is xs))], []⟩ ∧ xs.all in60 = (xs.drop k).all in60) (wk_norm [] [3, 0] rfl rfl) ⟨rfl, rfl⟩ ?_
  rintro k s hk ⟨rfl, hI⟩
  by_cases hlt : k < xs.length
  · rw [drop_all in60 xs k hlt] at hI
    by_cases h1 : xs[k] < -60
    · have hv : in60 xs[k] = false := by simp [in60]; omega
      simp -implicitDefEqProofs (disch := omega) [List.getElem?_cons_zero, List.getElem?_cons_succ, wrap_id, hlt, h1]
      (refine fin0 trivial rfl ?_; simp -implicitDefEqProofs (disch := omega) [List.getElem?_cons_zero, List.getElem?_cons_succ, idx, wrap_id, hI, hv])
    by_cases h2 : 60 < xs[k]
    · have hv : in60 xs[k] = false := by simp [in60]; omega
      simp -implicitDefEqProofs (disch := omega) [List.getElem?_cons_zero, List.getElem?_cons_succ, wrap_id, hlt, h1, h2]
      (refine fin0 trivial rfl ?_; simp -implicitDefEqProofs (disch := omega) [List.getElem?_cons_zero, List.getElem?_cons_succ, idx, wrap_id, hI, hv])
    · have hv : in60 xs[k] = true := by simp [in60]; omega
      simp -implicitDefEqProofs (disch := omega) [List.getElem?_cons_zero, List.getElem?_cons_succ, wrap_id, hlt, h1, h2]
      exact round_end [] [3, 0] hlt rfl ⟨rfl, by rw [hI, hv]; rfl⟩
  · simp -implicitDefEqProofs (disch := omega) [List.getElem?_cons_zero, List.getElem?_cons_succ, wrap_id, hlt]
    (refine fin0 trivial rfl ?_; simp -implicitDefEqProofs (disch := omega) [List.getElem?_cons_zero, List.getElem?_cons_succ, idx, wrap_id, hI, List.drop_of_length_le (Nat.le_of_not_lt hlt)])
end Go.Proofs.YtekniokkmgencaaGreat
/-
  Contracts: graphs, in the reference, the rest.
-/
set_option linter.unusedSimpArgs false
namespace Go.Proofs.YtekniokkmgencaaGreat
open Go.Abs Go.Sand
def edAt (N : Int) (es : List Ed) (k : Nat) (h : k < es.length) : Int := edgeErr N (prvA es k) (prvB es k) es[k]
theorem edge_ok (N : Int) (es : List Ed) (k : Nat) (hk : k < es.length) (hel : es.length ≤ 4611686018427387904) : PC Tryz.prog 87 [G N es, .i k] (.i (edAt N es k hk)) [] := by
  refine PC_of_W cfn87 ?_
  simp -implicitDefEqProofs (disch := omega) [c87, List.getElem?_cons_zero, List.getElem?_cons_succ, wrap_id, hk]
  refine HC_of_PC rfl (rvertex_ok _ _ _) ?_
  simp -implicitDefEqProofs (disch := omega) [List.getElem?_cons_zero, List.getElem?_cons_succ, wrap_id]
  cases h1 : vtx N es[k].a
  · simp -implicitDefEqProofs (disch := omega) [List.getElem?_cons_zero, List.getElem?_cons_succ, wrap_id]
    (refine fin0 trivial rfl ?_; simp -implicitDefEqProofs (disch := omega) [List.getElem?_cons_zero, List.getElem?_cons_succ, idx, wrap_id, edAt, edgeErr, h1])
  simp -implicitDefEqProofs (disch := omega) [List.getElem?_cons_zero, List.getElem?_cons_succ, wrap_id]
  refine HC_of_PC rfl (rvertex_ok _ _ _) ?_
  simp -implicitDefEqProofs (disch := omega) [List.getElem?_cons_zero, List.getElem?_cons_succ, wrap_id]
  cases h2 : vtx N es[k].b
  · simp -implicitDefEqProofs (disch := omega) [List.getElem?_cons_zero, List.getElem?_cons_succ, wrap_id]
    (refine fin0 trivial rfl ?_; simp -implicitDefEqProofs (disch := omega) [List.getElem?_cons_zero, List.getElem?_cons_succ, idx, wrap_id, edAt, edgeErr, h1, h2])
  by_cases h3 : es[k].m < 1
  · simp -implicitDefEqProofs (disch := omega) [List.getElem?_cons_zero, List.getElem?_cons_succ, wrap_id, h3]
    (refine fin0 trivial rfl ?_; simp -implicitDefEqProofs (disch := omega) [List.getElem?_cons_zero, List.getElem?_cons_succ, idx, wrap_id, edAt, edgeErr, h1, h2, h3])
  by_cases h4 : 50 < es[k].m
  · simp -implicitDefEqProofs (disch := omega) [List.getElem?_cons_zero, List.getElem?_cons_succ, wrap_id, h3, h4]
    (refine fin0 trivial rfl ?_; simp -implicitDefEqProofs (disch := omega) [List.getElem?_cons_zero, List.getElem?_cons_succ, idx, wrap_id, edAt, edgeErr, h1, h2, h3, h4])
  by_cases h5 : es[k].b < es[k].a
  · simp -implicitDefEqProofs (disch := omega) [List.getElem?_cons_zero, List.getElem?_cons_succ, wrap_id, h3, h4, h5]
    (refine fin0 trivial rfl ?_; simp -implicitDefEqProofs (disch := omega) [List.getElem?_cons_zero, List.getElem?_cons_succ, idx, wrap_id, edAt, edgeErr, h1, h2, h3, h4, h5])
  have hv := vtx_iff.1 h1
  rcases Nat.eq_zero_or_pos k with h0 | h0
  · subst h0
    simp -implicitDefEqProofs (disch := omega) [List.getElem?_cons_zero, List.getElem?_cons_succ, wrap_id, h3, h4, h5]
    have hb : behind (-1) (-1) es[0].a es[0].b = true := by simp [behind]; omega
    (refine fin0 trivial rfl ?_; simp -implicitDefEqProofs (disch := omega) [List.getElem?_cons_zero, List.getElem?_cons_succ, idx, wrap_id, edAt, edgeErr, h1, h2, h3, h4, h5, prvA, prvB, hb])
  · obtain ⟨j, rfl⟩ : ∃ j, k = j + 1 := ⟨k - 1, by omega⟩
    have hj : j < es.length := by omega
    have hA : prvA es (j + 1) = es[j].a := prvA_succ hj
    have hB : prvB es (j + 1) = es[j].b := prvB_succ hj
    have e1 : ((j : Int) + 1 - 1) = j := by omega
    by_cases h6 : es[j + 1].a < es[j].a
    · have hb : behind es[j].a es[j].b es[j + 1].a es[j + 1].b = false := by simp [behind]; omega
      simp -implicitDefEqProofs (disch := omega) [List.getElem?_cons_zero, List.getElem?_cons_succ, wrap_id, h3, h4, h5, h6, e1, hj]
      (refine fin0 trivial rfl ?_; simp -implicitDefEqProofs (disch := omega) [List.getElem?_cons_zero, List.getElem?_cons_succ, idx, wrap_id, edAt, edgeErr, h1, h2, h3, h4, h5, hA, hB, hb])
    by_cases h7 : es[j + 1].a = es[j].a
    · by_cases h8 : es[j + 1].b ≤ es[j].b
      · have hb : behind es[j].a es[j].b es[j + 1].a es[j + 1].b = false := by simp [behind]; omega
        rw [h7] at hb h5 h6 h1
        simp -implicitDefEqProofs (disch := omega) [List.getElem?_cons_zero, List.getElem?_cons_succ, wrap_id, h3, h4, h5, h6, h7, h8, e1, hj]
        (refine fin0 trivial rfl ?_; simp -implicitDefEqProofs (disch := omega) [List.getElem?_cons_zero, List.getElem?_cons_succ, idx, wrap_id, edAt, edgeErr, h1, h2, h3, h4, h5, hA, hB, h7, hb])
      · have hb : behind es[j].a es[j].b es[j + 1].a es[j + 1].b = true := by simp [behind]; omega
        rw [h7] at hb h5 h6 h1
        simp -implicitDefEqProofs (disch := omega) [List.getElem?_cons_zero, List.getElem?_cons_succ, wrap_id, h3, h4, h5, h6, h7, h8, e1, hj]
        (refine fin0 trivial rfl ?_; simp -implicitDefEqProofs (disch := omega) [List.getElem?_cons_zero, List.getElem?_cons_succ, idx, wrap_id, edAt, edgeErr, h1, h2, h3, h4, h5, hA, hB, h7, hb])
    · have hb : behind es[j].a es[j].b es[j + 1].a es[j + 1].b = true := by simp [behind]; omega
      simp -implicitDefEqProofs (disch := omega) [List.getElem?_cons_zero, List.getElem?_cons_succ, wrap_id, h3, h4, h5, h6, h7, e1, hj]
      (refine fin0 trivial rfl ?_; simp -implicitDefEqProofs (disch := omega) [List.getElem?_cons_zero, List.getElem?_cons_succ, idx, wrap_id, edAt, edgeErr, h1, h2, h3, h4, h5, hA, hB, hb])
end Go.Proofs.YtekniokkmgencaaGreat
/-
  Contracts: graphs, in the reference: the checks.
-/
set_option linter.unusedSimpArgs false
namespace Go.Proofs.YtekniokkmgencaaGreat
open Go.Abs Go.Sand
theorem gloop_drop (N : Int) (es : List Ed) (k : Nat) (h : k < es.length) : gloop N (es.drop k) (prvA es k) (prvB es k) = if edAt N es k h ≠ 0 then edAt N es k h else gloop N (es.drop (k + 1)) (prvA es (k + 1)) (prvB es (k + 1)) := by
  rw [List.drop_eq_getElem_cons h, gloop, prvA_succ h, prvB_succ h]; rfl
theorem rcheck_ok (N : Int) (es : List Ed) (hel : es.length ≤ 4611686018427387904) : PC Tryz.prog 55 [G N es] (.i (gcheck N es)) [] := by
  refine PC_of_W cfn55 ?_
  by_cases h1 : N < 1
  · simp -implicitDefEqProofs (disch := omega) [c55, List.getElem?_cons_zero, List.getElem?_cons_succ, wrap_id, h1]
    (refine fin0 trivial rfl ?_; simp -implicitDefEqProofs (disch := omega) [List.getElem?_cons_zero, List.getElem?_cons_succ, idx, wrap_id, gcheck, h1])
  by_cases h2 : 12 < N
  · simp -implicitDefEqProofs (disch := omega) [c55, List.getElem?_cons_zero, List.getElem?_cons_succ, wrap_id, h1, h2]
    (refine fin0 trivial rfl ?_; simp -implicitDefEqProofs (disch := omega) [List.getElem?_cons_zero, List.getElem?_cons_succ, idx, wrap_id, gcheck, h1, h2])
  simp -implicitDefEqProofs (disch := omega) [c55, List.getElem?_cons_zero, List.getElem?_cons_succ, wrap_id, h1, h2]
  refine loopW es.length (fun k s => s = ⟨[(3, .i k), (1, .ptr 0 1 0 0)], [.box (.p (G N es))]⟩ ∧ gloop N es (-1) (-1) = gloop N (es.drop k) (prvA es k) (prvB es k)) (wk_norm [0] [3, 1] rfl rfl) ⟨rfl, rfl⟩ ?_
  rintro k s hk ⟨rfl, hI⟩
  by_cases hlt : k < es.length
  · have hd := gloop_drop N es k hlt
    simp -implicitDefEqProofs (disch := omega) [List.getElem?_cons_zero, List.getElem?_cons_succ, wrap_id, hlt]
    refine HC_of_PC rfl (edge_ok N es k hlt hel) ?_
    by_cases he : edAt N es k hlt = 0
    · simp -implicitDefEqProofs (disch := omega) [List.getElem?_cons_zero, List.getElem?_cons_succ, wrap_id, he]
      exact round_end [0] [3, 1] hlt rfl ⟨rfl, by rw [hI, hd, he]; rfl⟩
    · simp -implicitDefEqProofs (disch := omega) [List.getElem?_cons_zero, List.getElem?_cons_succ, wrap_id, he]
      (refine fin0 trivial rfl ?_; simp -implicitDefEqProofs (disch := omega) [List.getElem?_cons_zero, List.getElem?_cons_succ, idx, wrap_id, gcheck, h1, h2, hI, hd, he])
  · simp -implicitDefEqProofs (disch := omega) [List.getElem?_cons_zero, List.getElem?_cons_succ, wrap_id, hlt]
    (refine fin0 trivial rfl ?_; simp -implicitDefEqProofs (disch := omega) [List.getElem?_cons_zero, List.getElem?_cons_succ, idx, wrap_id, gcheck, h1, h2, hI, gloop, List.drop_of_length_le (Nat.le_of_not_lt hlt)])
end Go.Proofs.YtekniokkmgencaaGreat
/-
  Contracts: graphs, in the reference: ends, sizes.
-/
set_option linter.unusedSimpArgs false
namespace Go.Proofs.YtekniokkmgencaaGreat
open Go.Abs Go.Sand
abbrev pP (p : Int × Int) : PV := .agg [.i p.1, .i p.2]
abbrev _root_.Go.Abs.PV.ps (l : List (Int × Int)) : PV := .sl (l.map pP)
theorem endsL_take_len {n : Int} {es : List Ed} (hg : ∀ x ∈ es, Right n x) (he : es.length ≤ 1000) (k : Nat) : (endsL (es.take k)).length ≤ 50000 := by
  have h1 := endsL_len (n := n) (es := es.take k) (fun x hx => hg x (List.mem_of_mem_take hx))
  have : (es.take k).length ≤ 1000 := by rw [List.length_take]; omega
  omega
theorem ends_ok (N : Int) (es : List Ed) (hg : ∀ x ∈ es, Right N x) (he : es.length ≤ 1000) : PC Tryz.prog 101 [G N es] (.p (.ps (endsL es))) [] := by
  refine PC_of_W cfn101 ?_
  simp -implicitDefEqProofs (disch := omega) [c101, List.getElem?_cons_zero, List.getElem?_cons_succ, wrap_id]
  refine loopW es.length (fun k s => s = ⟨[(4, .i k), (3, .os 1 0 (endsL (es.take k)).length), (1, .ptr 0 1 0 0)], [.box (.p (G N es)), .row ((endsL (es.take k)).map pP) 2 134 false]⟩) ((Wk_nil 3 2 134 rfl).trans (wk_norm [0, 1] [4, 3, 1] rfl rfl)) rfl ?_
  rintro k s hk rfl
  have hL := endsL_take_len hg he k
  by_cases hlt : k < es.length
  · have hr := hg es[k] (List.getElem_mem hlt)
    obtain ⟨m, hm⟩ : ∃ m : Nat, es[k].m = m := ⟨es[k].m.toNat, by have := hr.m1; omega⟩
    have hm50 : m ≤ 50 := by have := hr.m50; omega
    simp -implicitDefEqProofs (disch := omega) [List.getElem?_cons_zero, List.getElem?_cons_succ, wrap_id, hlt]
    refine loopW m (fun j s => s = ⟨[(5, .i j), (4, .i k), (3, .os 1 0 ((endsL (es.take k)).length + j)), (1, .ptr 0 1 0 0)], [.box (.p (G N es)), .row ((endsL (es.take k)).map pP ++ List.replicate j (pP (es[k].a, es[k].b))) 2 134 false]⟩) (wk_norm [0, 1] [5, 4, 3, 1] rfl rfl) (by rw [List.replicate_zero, List.append_nil]; rfl) ?_
    rintro j s hj rfl
    by_cases hlj : j < m
    · have hL2 : (endsL (es.take k)).length + j ≤ 1048575 := by omega
      simp -implicitDefEqProofs (disch := omega) [List.getElem?_cons_zero, List.getElem?_cons_succ, wrap_id, hlt, hlj, hm, hL2]
      exact round_end [0, 1] [5, 4, 3, 1] hlj rfl (by rw [List.replicate_succ', ← List.append_assoc]; rfl)
    · have hjm : j = m := by omega
      subst hjm
      have hs := endsL_snoc es k hlt
      rw [hm, Int.toNat_natCast] at hs
      simp -implicitDefEqProofs (disch := omega) [List.getElem?_cons_zero, List.getElem?_cons_succ, wrap_id, hlt, hm]
      exact round_end [0, 1] [4, 3, 1] hlt rfl (by rw [hs, List.length_append, List.map_append, List.map_replicate, List.length_replicate]; rfl)
  · have hk : k = es.length := by omega
    subst hk
    rw [List.take_length]
    simp -implicitDefEqProofs (disch := omega) [List.getElem?_cons_zero, List.getElem?_cons_succ, wrap_id]
    (refine fin0 trivial rfl ?_; simp -implicitDefEqProofs (disch := omega) [List.getElem?_cons_zero, List.getElem?_cons_succ, idx, wrap_id, idx])
theorem size_ok (N : Int) (es : List Ed) (hg : ∀ x ∈ es, Right N x) (he : es.length ≤ 1000) : PC Tryz.prog 86 [G N es] (.i (endsL es).length) [] := by
  refine PC_of_W cfn86 ?_
  simp -implicitDefEqProofs (disch := omega) [c86, List.getElem?_cons_zero, List.getElem?_cons_succ, wrap_id]
  refine HC_of_PC rfl (ends_ok N es hg he) ?_
  simp -implicitDefEqProofs (disch := omega) [List.getElem?_cons_zero, List.getElem?_cons_succ, wrap_id]
  (refine fin0 trivial rfl ?_; simp -implicitDefEqProofs (disch := omega) [List.getElem?_cons_zero, List.getElem?_cons_succ, idx, wrap_id])
theorem small_ok (N : Int) (es : List Ed) (nv ne : Int) : PC Tryz.prog 54 [G N es, .i nv, .i ne] (.b (smallG N es nv ne)) [] := by
  refine PC_of_W cfn54 ?_
  by_cases h1 : (40 : Int) < es.length
  · have h1' : ¬ es.length ≤ 40 := by omega
    simp -implicitDefEqProofs (disch := omega) [c54, List.getElem?_cons_zero, List.getElem?_cons_succ, wrap_id, h1]
    (refine fin0 trivial rfl ?_; simp -implicitDefEqProofs (disch := omega) [List.getElem?_cons_zero, List.getElem?_cons_succ, idx, wrap_id, smallG, h1'])
  have h1' : es.length ≤ 40 := by omega
  simp -implicitDefEqProofs (disch := omega) [c54, List.getElem?_cons_zero, List.getElem?_cons_succ, wrap_id, h1]
  refine HC_of_PC rfl (rcheck_ok N es (by omega)) ?_
  by_cases h2 : gcheck N es = 0
  rotate_left
  · simp -implicitDefEqProofs (disch := omega) [List.getElem?_cons_zero, List.getElem?_cons_succ, wrap_id, h2]
    (refine fin0 trivial rfl ?_; simp -implicitDefEqProofs (disch := omega) [List.getElem?_cons_zero, List.getElem?_cons_succ, idx, wrap_id, smallG, h1', h2])
  have hg := (gcheck_ok h2).right
  by_cases h3 : N ≤ nv
  · simp -implicitDefEqProofs (disch := omega) [List.getElem?_cons_zero, List.getElem?_cons_succ, wrap_id, h2, h3]
    refine HC_of_PC rfl (size_ok N es hg (by omega)) ?_
    simp -implicitDefEqProofs (disch := omega) [List.getElem?_cons_zero, List.getElem?_cons_succ, wrap_id]
    (refine fin0 trivial rfl ?_; simp -implicitDefEqProofs (disch := omega) [List.getElem?_cons_zero, List.getElem?_cons_succ, idx, wrap_id, smallG, h1', h2, h3])
  · simp -implicitDefEqProofs (disch := omega) [List.getElem?_cons_zero, List.getElem?_cons_succ, wrap_id, h2, h3]
    (refine fin0 trivial rfl ?_; simp -implicitDefEqProofs (disch := omega) [List.getElem?_cons_zero, List.getElem?_cons_succ, idx, wrap_id, smallG, h1', h2, h3])
theorem few8_ok (N : Int) (es : List Ed) : PC Tryz.prog 31 [G N es] (.b (smallG N es 6 9)) [] := by
  refine PC_of_W cfn31 ?_
  simp -implicitDefEqProofs (disch := omega) [c31, List.getElem?_cons_zero, List.getElem?_cons_succ, wrap_id]
  refine HC_of_PC rfl (small_ok N es 6 9) ?_
  simp -implicitDefEqProofs (disch := omega) [List.getElem?_cons_zero, List.getElem?_cons_succ, wrap_id]
  (refine fin0 trivial rfl ?_; simp -implicitDefEqProofs (disch := omega) [List.getElem?_cons_zero, List.getElem?_cons_succ, idx, wrap_id])
end Go.Proofs.YtekniokkmgencaaGreat
/-
  Contracts: package graph.
-/
set_option linter.unusedSimpArgs false
namespace Go.Proofs.YtekniokkmgencaaGreat
open Go.Abs Go.Sand
theorem isNaN_ok (a : Int) : PC Tryz.prog 105 [.i a] (.b false) [] := by
  refine PC_of_W cfn105 ?_
  simp -implicitDefEqProofs (disch := omega) [c105, List.getElem?_cons_zero, List.getElem?_cons_succ, wrap_id]
  (refine fin0 trivial rfl ?_; simp -implicitDefEqProofs (disch := omega) [List.getElem?_cons_zero, List.getElem?_cons_succ, idx, wrap_id])
theorem compare_ok (a b : Int) : PC Tryz.prog 93 [.i a, .i b] (.i (cmpI a b)) [] := by
  refine PC_of_W cfn93 ?_
  simp -implicitDefEqProofs (disch := omega) [c93, List.getElem?_cons_zero, List.getElem?_cons_succ, wrap_id]
  refine HC_of_PC rfl (isNaN_ok a) ?_
  simp -implicitDefEqProofs (disch := omega) [List.getElem?_cons_zero, List.getElem?_cons_succ, wrap_id]
  refine HC_of_PC rfl (isNaN_ok b) ?_
  by_cases h1 : a < b
  · simp -implicitDefEqProofs (disch := omega) [List.getElem?_cons_zero, List.getElem?_cons_succ, wrap_id, h1]
    (refine fin0 trivial rfl ?_; simp -implicitDefEqProofs (disch := omega) [List.getElem?_cons_zero, List.getElem?_cons_succ, idx, wrap_id, cmpI, h1])
  by_cases h2 : b < a
  · simp -implicitDefEqProofs (disch := omega) [List.getElem?_cons_zero, List.getElem?_cons_succ, wrap_id, h1, h2]
    (refine fin0 trivial rfl ?_; simp -implicitDefEqProofs (disch := omega) [List.getElem?_cons_zero, List.getElem?_cons_succ, idx, wrap_id, cmpI, h1, h2])
  · simp -implicitDefEqProofs (disch := omega) [List.getElem?_cons_zero, List.getElem?_cons_succ, wrap_id, h1, h2]
    (refine fin0 trivial rfl ?_; simp -implicitDefEqProofs (disch := omega) [List.getElem?_cons_zero, List.getElem?_cons_succ, idx, wrap_id, cmpI, h1, h2])
theorem orI_drop (xs : List Int) (k : Nat) (h : k < xs.length) : orI (xs.drop k) = if xs[k] ≠ 0 then xs[k] else orI (xs.drop (k + 1)) := by
  rw [List.drop_eq_getElem_cons h, orI]
theorem or_ok (xs : List Int) (hx : xs.length ≤ 4611686018427387904) : PC Tryz.prog 92 [.is xs] (.i (orI xs)) [] := by
  refine PC_of_W cfn92 ?_
  simp -implicitDefEqProofs (disch := omega) [c92, List.getElem?_cons_zero, List.getElem?_cons_succ, wrap_id]
  refine loopW xs.length (fun k s => s = ⟨[(8, .i k), (7, .i xs.length), (6, .p (.is xs)), (3, .i 0)], []⟩ ∧ orI xs = orI (xs.drop k)) (wk_norm [] [8, 7, 6, 3] rfl rfl) ⟨rfl, rfl⟩ ?_
  rintro k s hk ⟨rfl, hI⟩
  by_cases hlt : k < xs.length
  · have hd := orI_drop xs k hlt
    by_cases h1 : xs[k] = 0
    · simp -implicitDefEqProofs (disch := omega) [List.getElem?_cons_zero, List.getElem?_cons_succ, wrap_id, hlt, h1]
      exact round_end [] [8, 7, 6, 3] hlt rfl ⟨rfl, by rw [hI, hd, h1]; rfl⟩
    · simp -implicitDefEqProofs (disch := omega) [List.getElem?_cons_zero, List.getElem?_cons_succ, wrap_id, hlt, h1]
      (refine fin0 trivial rfl ?_; simp -implicitDefEqProofs (disch := omega) [List.getElem?_cons_zero, List.getElem?_cons_succ, idx, wrap_id, hI, hd, h1])
  · simp -implicitDefEqProofs (disch := omega) [List.getElem?_cons_zero, List.getElem?_cons_succ, wrap_id, hlt]
    (refine fin0 trivial rfl ?_; simp -implicitDefEqProofs (disch := omega) [List.getElem?_cons_zero, List.getElem?_cons_succ, idx, wrap_id, hI, orI, List.drop_of_length_le (Nat.le_of_not_lt hlt)])
theorem pcompare_ok (a b c d : Int) : PC Tryz.prog 66 [pP (a, b), pP (c, d)] (.i (cmpP a b c d)) [] := by
  refine PC_of_W cfn66 ?_
  simp -implicitDefEqProofs (disch := omega) [c66, List.getElem?_cons_zero, List.getElem?_cons_succ, wrap_id]
  refine HC_of_PC rfl (compare_ok a c) ?_
  simp -implicitDefEqProofs (disch := omega) [List.getElem?_cons_zero, List.getElem?_cons_succ, wrap_id]
  refine HC_of_PC rfl (compare_ok b d) ?_
  simp -implicitDefEqProofs (disch := omega) [List.getElem?_cons_zero, List.getElem?_cons_succ, wrap_id]
  refine HC_of_PC rfl (or_ok [cmpI a c, cmpI b d] (by simp)) ?_
  simp -implicitDefEqProofs (disch := omega) [List.getElem?_cons_zero, List.getElem?_cons_succ, wrap_id]
  (refine fin0 trivial rfl ?_; simp -implicitDefEqProofs (disch := omega) [List.getElem?_cons_zero, List.getElem?_cons_succ, idx, wrap_id, cmpP])
theorem gvertex_ok (N v : Int) : PC Tryz.prog 91 [.i N, .i v] (.b (vtx N v)) [] := by
  refine PC_of_W cfn91 ?_
  by_cases h1 : 0 ≤ v <;> by_cases h2 : v < N
  all_goals
    simp -implicitDefEqProofs (disch := omega) [c91, List.getElem?_cons_zero, List.getElem?_cons_succ, wrap_id, h1, h2]
    (refine fin0 trivial rfl ?_; simp -implicitDefEqProofs (disch := omega) [List.getElem?_cons_zero, List.getElem?_cons_succ, idx, wrap_id, vtx, h1, h2])
theorem edgeErr_bad1 {N la lb : Int} {x : Ed} (h : vtx N x.a = false) : edgeErr N la lb x = 2 := by rw [edgeErr, if_pos (.inl h)]
theorem edgeErr_bad2 {N la lb : Int} {x : Ed} (h : vtx N x.b = false) : edgeErr N la lb x = 2 := by rw [edgeErr, if_pos (.inr (.inl h))]
theorem edgeErr_bad3 {N la lb : Int} {x : Ed} (h : x.m < 1) : edgeErr N la lb x = 2 := by rw [edgeErr, if_pos (.inr (.inr (.inl h)))]
theorem edgeErr_bad4 {N la lb : Int} {x : Ed} (h : 50 < x.m) : edgeErr N la lb x = 2 := by rw [edgeErr, if_pos (.inr (.inr (.inr h)))]
theorem gloop_drop' (N : Int) (es : List Ed) (k : Nat) (h : k < es.length) : gloop N (es.drop k) (prvA es k) (prvB es k) = if edgeErr N (prvA es k) (prvB es k) es[k] ≠ 0 then edgeErr N (prvA es k) (prvB es k) es[k] else gloop N (es.drop (k + 1)) es[k].a es[k].b := by
  rw [List.drop_eq_getElem_cons h, gloop]
theorem gcheck_ok' (N : Int) (es : List Ed) (hel : es.length ≤ 4611686018427387904) : PC Tryz.prog 90 [G N es] (.i (gcheck N es)) [] := by
  refine PC_of_W cfn90 ?_
  by_cases h1 : N < 1
  · simp -implicitDefEqProofs (disch := omega) [c90, List.getElem?_cons_zero, List.getElem?_cons_succ, wrap_id, h1]
    (refine fin0 trivial rfl ?_; simp -implicitDefEqProofs (disch := omega) [List.getElem?_cons_zero, List.getElem?_cons_succ, idx, wrap_id, gcheck, h1])
  by_cases h2 : 12 < N
  · simp -implicitDefEqProofs (disch := omega) [c90, List.getElem?_cons_zero, List.getElem?_cons_succ, wrap_id, h1, h2]
    (refine fin0 trivial rfl ?_; simp -implicitDefEqProofs (disch := omega) [List.getElem?_cons_zero, List.getElem?_cons_succ, idx, wrap_id, gcheck, h1, h2])
  simp -implicitDefEqProofs (disch := omega) [c90, List.getElem?_cons_zero, List.getElem?_cons_succ, wrap_id, h1, h2]
  refine loopW es.length (fun k s => s = ⟨[(19, .i k), (18, .i es.length), (17, .p (.sl (es.map edP))), (1, .ptr 0 1 0 0), (3, .ptr 1 1 0 0)], [.box (.p (G N es)), .box (.p (pP (prvA es k, prvB es k)))]⟩ ∧ gloop N es (-1) (-1) = gloop N (es.drop k) (prvA es k) (prvB es k)) (wk_norm [0, 1] [19, 18, 17, 1, 3] rfl rfl) ⟨rfl, rfl⟩ ?_
  rintro k s hk ⟨rfl, hI⟩
  by_cases hlt : k < es.length
  rotate_left
  · simp -implicitDefEqProofs (disch := omega) [List.getElem?_cons_zero, List.getElem?_cons_succ, wrap_id, hlt]
    (refine fin0 trivial rfl ?_; simp -implicitDefEqProofs (disch := omega) [List.getElem?_cons_zero, List.getElem?_cons_succ, idx, wrap_id, gcheck, h1, h2, hI, gloop, List.drop_of_length_le (Nat.le_of_not_lt hlt)])
  have hd := gloop_drop' N es k hlt
  simp -implicitDefEqProofs (disch := omega) [List.getElem?_cons_zero, List.getElem?_cons_succ, wrap_id, hlt]
  refine HC_of_PC rfl (gvertex_ok _ _) ?_
  cases g1 : vtx N es[k].a
  · have he := edgeErr_bad1 (la := prvA es k) (lb := prvB es k) g1
    simp -implicitDefEqProofs (disch := omega) [List.getElem?_cons_zero, List.getElem?_cons_succ, wrap_id]
    (refine fin0 trivial rfl ?_; simp -implicitDefEqProofs (disch := omega) [List.getElem?_cons_zero, List.getElem?_cons_succ, idx, wrap_id, gcheck, h1, h2, hI, hd, he])
  simp -implicitDefEqProofs (disch := omega) [List.getElem?_cons_zero, List.getElem?_cons_succ, wrap_id]
  refine HC_of_PC rfl (gvertex_ok _ _) ?_
  cases g2 : vtx N es[k].b
  · have he := edgeErr_bad2 (la := prvA es k) (lb := prvB es k) g2
    simp -implicitDefEqProofs (disch := omega) [List.getElem?_cons_zero, List.getElem?_cons_succ, wrap_id]
    (refine fin0 trivial rfl ?_; simp -implicitDefEqProofs (disch := omega) [List.getElem?_cons_zero, List.getElem?_cons_succ, idx, wrap_id, gcheck, h1, h2, hI, hd, he])
  by_cases g3 : es[k].m < 1
  · have he := edgeErr_bad3 (N := N) (la := prvA es k) (lb := prvB es k) g3
    simp -implicitDefEqProofs (disch := omega) [List.getElem?_cons_zero, List.getElem?_cons_succ, wrap_id, g3]
    (refine fin0 trivial rfl ?_; simp -implicitDefEqProofs (disch := omega) [List.getElem?_cons_zero, List.getElem?_cons_succ, idx, wrap_id, gcheck, h1, h2, hI, hd, he])
  by_cases g4 : 50 < es[k].m
  · have he := edgeErr_bad4 (N := N) (la := prvA es k) (lb := prvB es k) g4
    simp -implicitDefEqProofs (disch := omega) [List.getElem?_cons_zero, List.getElem?_cons_succ, wrap_id, g3, g4]
    (refine fin0 trivial rfl ?_; simp -implicitDefEqProofs (disch := omega) [List.getElem?_cons_zero, List.getElem?_cons_succ, idx, wrap_id, gcheck, h1, h2, hI, hd, he])
  by_cases g5 : es[k].b < es[k].a
  · have he := edgeErr_nine (la := prvA es k) (lb := prvB es k) g1 g2 g3 g4 (.inl g5)
    simp -implicitDefEqProofs (disch := omega) [List.getElem?_cons_zero, List.getElem?_cons_succ, wrap_id, g3, g4, g5]
    (refine fin0 trivial rfl ?_; simp -implicitDefEqProofs (disch := omega) [List.getElem?_cons_zero, List.getElem?_cons_succ, idx, wrap_id, gcheck, h1, h2, hI, hd, he])
  simp -implicitDefEqProofs (disch := omega) [List.getElem?_cons_zero, List.getElem?_cons_succ, wrap_id, g3, g4, g5]
  refine HC_of_PC rfl (pcompare_ok _ _ _ _) ?_
  by_cases g6 : 0 ≤ cmpP (prvA es k) (prvB es k) es[k].a es[k].b
  · have he := edgeErr_nine (la := prvA es k) (lb := prvB es k) g1 g2 g3 g4 (.inr ((cmpP_ge _ _ _ _).1 g6))
    simp -implicitDefEqProofs (disch := omega) [List.getElem?_cons_zero, List.getElem?_cons_succ, wrap_id, g6]
    (refine fin0 trivial rfl ?_; simp -implicitDefEqProofs (disch := omega) [List.getElem?_cons_zero, List.getElem?_cons_succ, idx, wrap_id, gcheck, h1, h2, hI, hd, he])
  · have he := edgeErr_zero (la := prvA es k) (lb := prvB es k) g1 g2 g3 g4 g5 (Decidable.not_not.1 fun h => g6 ((cmpP_ge _ _ _ _).2 h))
    simp -implicitDefEqProofs (disch := omega) [List.getElem?_cons_zero, List.getElem?_cons_succ, wrap_id, g6]
    exact round_end [0, 1] [19, 18, 17, 1, 3] hlt rfl ⟨by rw [prvA_succ hlt, prvB_succ hlt]; rfl, by rw [hI, hd, he, prvA_succ hlt, prvB_succ hlt]; rfl⟩
end Go.Proofs.YtekniokkmgencaaGreat
end
section
set_option linter.unusedSimpArgs false
namespace Go.Proofs.YtekniokkmgencaaGreat
open Go.Abs Go.Sand
def atErr (N : Int) (es : List Ed) (vs : List Int) : Int := if gcheck N es ≠ 0 then gcheck N es else atE N vs
theorem at_ok (N : Int) (es : List Ed) (xs : List Int) (hel : es.length ≤ 4611686018427387904) (hx : xs.length ≤ 4611686018427387904) : PC Tryz.prog 62 [G N es, .is xs] (.i (atErr N es xs)) [] := by
  refine PC_of_W cfn62 ?_
  simp -implicitDefEqProofs (disch := omega) [c62, List.getElem?_cons_zero, List.getElem?_cons_succ, wrap_id]
  refine HC_of_PC rfl (gcheck_ok' N es hel) ?_
  by_cases h0 : gcheck N es = 0
  rotate_left
  · simp -implicitDefEqProofs (disch := omega) [List.getElem?_cons_zero, List.getElem?_cons_succ, wrap_id, h0]
    (refine fin0 trivial rfl ?_; simp -implicitDefEqProofs (disch := omega) [List.getElem?_cons_zero, List.getElem?_cons_succ, idx, wrap_id, atErr, h0])
  simp -implicitDefEqProofs (disch := omega) [List.getElem?_cons_zero, List.getElem?_cons_succ, wrap_id, h0]
  refine loopW xs.length (fun k s => s = ⟨[(15, .i k), (14, .i xs.length), (13, .p (.is xs)), (2, .ptr 0 1 0 0)], [.box (.p (G N es))]⟩ ∧ xs.all (vtx N) = (xs.drop k).all (vtx N)) (wk_norm [0] [15, 14, 13, 2] rfl rfl) ⟨rfl, rfl⟩ ?_
  rintro k s hk ⟨rfl, hI⟩
  by_cases hlt : k < xs.length
  · have hd := drop_all (vtx N) xs k hlt
    simp -implicitDefEqProofs (disch := omega) [List.getElem?_cons_zero, List.getElem?_cons_succ, wrap_id, hlt]
    refine HC_of_PC rfl (gvertex_ok N xs[k]) ?_
    cases hv : vtx N xs[k]
    · rw [hv] at hd
      simp -implicitDefEqProofs (disch := omega) [List.getElem?_cons_zero, List.getElem?_cons_succ, wrap_id]
      (refine fin0 trivial rfl ?_; simp -implicitDefEqProofs (disch := omega) [List.getElem?_cons_zero, List.getElem?_cons_succ, idx, wrap_id, atErr, atE, h0, hI, hd])
    · rw [hv] at hd
      simp -implicitDefEqProofs (disch := omega) [List.getElem?_cons_zero, List.getElem?_cons_succ, wrap_id]
      exact round_end [0] [15, 14, 13, 2] hlt rfl ⟨rfl, by rw [hI, hd]; rfl⟩
  · simp -implicitDefEqProofs (disch := omega) [List.getElem?_cons_zero, List.getElem?_cons_succ, wrap_id, hlt]
    (refine fin0 trivial rfl ?_; simp -implicitDefEqProofs (disch := omega) [List.getElem?_cons_zero, List.getElem?_cons_succ, idx, wrap_id, atErr, atE, h0, hI, List.drop_of_length_le (Nat.le_of_not_lt hlt)])
theorem rfew_ok (N : Int) (es : List Ed) (d : List Int) : PC Tryz.prog 11 [G N es, .is d] (.b (few18 N es d)) [] := by
  refine PC_of_W cfn11 ?_
  simp -implicitDefEqProofs (disch := omega) [c11, List.getElem?_cons_zero, List.getElem?_cons_succ, wrap_id]
  refine HC_of_PC rfl (few8_ok N es) ?_
  cases h : smallG N es 6 9
  · simp -implicitDefEqProofs (disch := omega) [List.getElem?_cons_zero, List.getElem?_cons_succ, wrap_id]
    (refine fin0 trivial rfl ?_; simp -implicitDefEqProofs (disch := omega) [List.getElem?_cons_zero, List.getElem?_cons_succ, idx, wrap_id, few18, h])
  · simp -implicitDefEqProofs (disch := omega) [List.getElem?_cons_zero, List.getElem?_cons_succ, wrap_id]
    refine HC_of_PC rfl (dfew_ok d) ?_
    simp -implicitDefEqProofs (disch := omega) [List.getElem?_cons_zero, List.getElem?_cons_succ, wrap_id]
    (refine fin0 trivial rfl ?_; simp -implicitDefEqProofs (disch := omega) [List.getElem?_cons_zero, List.getElem?_cons_succ, idx, wrap_id, few18, h])
end Go.Proofs.YtekniokkmgencaaGreat
/-
  Contracts: package slices; what a script changes.
-/
set_option linter.unusedSimpArgs false
namespace Go.Proofs.YtekniokkmgencaaGreat
open Go.Abs Go.Sand
theorem cloneI_ok (xs : List Int) (hx : xs.length ≤ 1000000) : PC Tryz.prog 43 [.is xs] (.os 0 0 xs.length) [.row (xs.map .i) 1 3 false] := by
  refine PC_of_W cfn43 ?_
  simp -implicitDefEqProofs (disch := omega) [c43, List.getElem?_cons_zero, List.getElem?_cons_succ, wrap_id, stepK_eqn, eqnP]
  have hx' : xs.length ≤ 1048576 := by omega
  refine ⟨?_, ?_⟩
  · rintro rfl
    simp -implicitDefEqProofs (disch := omega) [List.getElem?_cons_zero, List.getElem?_cons_succ, wrap_id]
    refine finW (Wk_nil 2 1 3 rfl) ?_
    exact fin1 [0] trivial rfl rfl ⟨rfl, rfl⟩
  · simp -implicitDefEqProofs (disch := omega) [List.getElem?_cons_zero, List.getElem?_cons_succ, wrap_id, hx']
    exact fin1 [0] trivial rfl rfl ⟨rfl, rfl⟩
theorem drop_any {α : Type} (p : α → Bool) (xs : List α) (k : Nat) (h : k < xs.length) : (xs.drop k).any p = (p xs[k] || (xs.drop (k + 1)).any p) := by
  rw [List.drop_eq_getElem_cons h, List.any_cons]
section
variable {e : Bool} {f : FuncId} {fs cs : List AV} {H : List AO} {p : Int → Bool} {R : AV → List AO → Prop}
end
end Go.Proofs.YtekniokkmgencaaGreat
/-
  Contracts: what a script changes, in package firing.
-/
set_option linter.unusedSimpArgs false
namespace Go.Proofs.YtekniokkmgencaaGreat
open Go.Abs Go.Sand
theorem Bd.get {B : Int} {d : List Int} (h : Bd B d) {k : Nat} (hk : k < d.length) : -B ≤ d[k] ∧ d[k] ≤ B := by
  have := h k
  rwa [getD_get hk] at this
end Go.Proofs.YtekniokkmgencaaGreat
/-
  Contracts: what a script changes, in the reference.
-/
set_option linter.unusedSimpArgs false
namespace Go.Proofs.YtekniokkmgencaaGreat
open Go.Abs Go.Sand
end Go.Proofs.YtekniokkmgencaaGreat
/-
  Contracts: what a script changes, and bounds it.
-/
set_option linter.unusedSimpArgs false
set_option linter.unusedVariables false
namespace Go.Proofs.YtekniokkmgencaaGreat
open Go.Abs Go.Sand
end Go.Proofs.YtekniokkmgencaaGreat
end
