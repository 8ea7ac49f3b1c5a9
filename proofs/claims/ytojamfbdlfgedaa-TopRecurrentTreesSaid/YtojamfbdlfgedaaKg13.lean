/-
  Texts joined: Mra.
-/
import Derived.Test.YtojamfbdlfgedaaKg12

section
set_option linter.unusedSimpArgs false
namespace Go.Proofs.Ytojamfbdlfgedaa
open Go.Abs Go.Sand
/-- An edge, a graph. -/
abbrev edP (e : Ed) : PV := .agg [.i e.a, .i e.b, .i e.m]
abbrev G (N : Int) (es : List Ed) : PV := .agg [.i N, .sl (es.map edP)]
theorem drop_all {α : Type} (p : α → Bool) (xs : List α) (k : Nat) (h : k < xs.length) : (xs.drop k).all p = (p xs[k] && (xs.drop (k + 1)).all p) := by
  rw [List.drop_eq_getElem_cons h, List.all_cons]
end Go.Proofs.Ytojamfbdlfgedaa
/-
  Contracts: graphs, in the reference.
-/
set_option linter.unusedSimpArgs false
namespace Go.Proofs.Ytojamfbdlfgedaa
open Go.Abs Go.Sand
theorem rvertex_ok (N v : Int) (es : List Ed) : PC Try.prog 39 [G N es, .i v] (.b (vtx N v)) [] := by
  refine PC_of_W cfn39 ?_
  by_cases h1 : 0 ≤ v <;> by_cases h2 : v < N
  all_goals
    simp -implicitDefEqProofs (disch := omega) [c39, List.getElem?_cons_zero, List.getElem?_cons_succ, wrap_id, h1, h2]
    (refine fin0 trivial rfl ?_; simp -implicitDefEqProofs (disch := omega) [List.getElem?_cons_zero, List.getElem?_cons_succ, idx, wrap_id, vtx, h1, h2])
theorem betw_drop (es : List Ed) (lo hi : Int) (k : Nat) (h : k < es.length) : betw (es.drop k) lo hi = if es[k].a = lo ∧ es[k].b = hi then es[k].m else betw (es.drop (k + 1)) lo hi := by
  rw [List.drop_eq_getElem_cons h, betw]
theorem rbetw_ok (N a b : Int) (es : List Ed) (hel : es.length ≤ 4611686018427387904) : PC Try.prog 48 [G N es, .i a, .i b] (.i (betw es (min a b) (max a b))) [] := by
  refine PC_of_W cfn48 ?_
  simp -implicitDefEqProofs (disch := omega) [c48, List.getElem?_cons_zero, List.getElem?_cons_succ, wrap_id]
  refine loopW es.length (fun k s => s = ⟨[(7, .i k), (3, .ptr 0 1 0 0), (1, .i a), (2, .i b)], [.box (.p (G N es))]⟩ ∧ betw es (min a b) (max a b) = betw (es.drop k) (min a b) (max a b)) (wk_norm [0] [7, 3, 1, 2] rfl rfl) ⟨rfl, rfl⟩ ?_
  rintro k s hk ⟨rfl, hI⟩
  by_cases hlt : k < es.length
  · have hd := betw_drop es (min a b) (max a b) k hlt
    by_cases h1 : es[k].a = min a b <;> by_cases h2 : es[k].b = max a b
    · simp -implicitDefEqProofs (disch := omega) [List.getElem?_cons_zero, List.getElem?_cons_succ, wrap_id, hlt, h1, h2]
      (refine fin0 trivial rfl ?_; simp -implicitDefEqProofs (disch := omega) [List.getElem?_cons_zero, List.getElem?_cons_succ, idx, wrap_id, hI, hd, h1, h2])
    all_goals
      simp -implicitDefEqProofs (disch := omega) [List.getElem?_cons_zero, List.getElem?_cons_succ, wrap_id, hlt, h1, h2]
      exact round_end [0] [7, 3, 1, 2] hlt rfl ⟨rfl, by rw [hI, hd]; simp [h1, h2]⟩
  · simp -implicitDefEqProofs (disch := omega) [List.getElem?_cons_zero, List.getElem?_cons_succ, wrap_id, hlt]
    (refine fin0 trivial rfl ?_; simp -implicitDefEqProofs (disch := omega) [List.getElem?_cons_zero, List.getElem?_cons_succ, idx, wrap_id, hI, betw, List.drop_of_length_le (Nat.le_of_not_lt hlt)])
end Go.Proofs.Ytojamfbdlfgedaa
/-
  Contracts: graphs, in the reference, the rest.
-/
set_option linter.unusedSimpArgs false
namespace Go.Proofs.Ytojamfbdlfgedaa
open Go.Abs Go.Sand
def edAt (N : Int) (es : List Ed) (k : Nat) (h : k < es.length) : Int := edgeErr N (prvA es k) (prvB es k) es[k]
theorem edge_ok (N : Int) (es : List Ed) (k : Nat) (hk : k < es.length) (hel : es.length ≤ 4611686018427387904) : PC Try.prog 25 [G N es, .i k] (.i (edAt N es k hk)) [] := by
  refine PC_of_W cfn25 ?_
  simp -implicitDefEqProofs (disch := omega) [c25, List.getElem?_cons_zero, List.getElem?_cons_succ, wrap_id, hk]
  refine HC_of_PC rfl (rvertex_ok _ _ _) ?_
  simp -implicitDefEqProofs (disch := omega) [List.getElem?_cons_zero, List.getElem?_cons_succ, wrap_id]
  cases h1 : vtx N es[k].a
  · simp -implicitDefEqProofs (disch := omega) [List.getElem?_cons_zero, List.getElem?_cons_succ, wrap_id]
    (refine fin0 trivial rfl ?_; simp -implicitDefEqProofs (disch := omega) [List.getElem?_cons_zero, List.getElem?_cons_succ, idx, wrap_id, edAt, edgeErr, h1])
  simp -implicitDefEqProofs (disch := omega) [List.getElem?_cons_zero, List.getElem?_cons_succ, wrap_id]
  refine HC_of_PC rfl (rvertex_ok _ _ _) ?_
  simp -implicitDefEqProofs (disch := omega) [List.getElem?_cons_zero, List.getElem?_cons_succ, wrap_id]
  cases h2 : vtx N es[k].b
  · simp -implicitDefEqProofs (disch := omega) [List.getElem?_cons_zero, List.getElem?_cons_succ, wrap_id]
    (refine fin0 trivial rfl ?_; simp -implicitDefEqProofs (disch := omega) [List.getElem?_cons_zero, List.getElem?_cons_succ, idx, wrap_id, edAt, edgeErr, h1, h2])
  by_cases h3 : es[k].m < 1
  · simp -implicitDefEqProofs (disch := omega) [List.getElem?_cons_zero, List.getElem?_cons_succ, wrap_id, h3]
    (refine fin0 trivial rfl ?_; simp -implicitDefEqProofs (disch := omega) [List.getElem?_cons_zero, List.getElem?_cons_succ, idx, wrap_id, edAt, edgeErr, h1, h2, h3])
  by_cases h4 : 50 < es[k].m
  · simp -implicitDefEqProofs (disch := omega) [List.getElem?_cons_zero, List.getElem?_cons_succ, wrap_id, h3, h4]
    (refine fin0 trivial rfl ?_; simp -implicitDefEqProofs (disch := omega) [List.getElem?_cons_zero, List.getElem?_cons_succ, idx, wrap_id, edAt, edgeErr, h1, h2, h3, h4])
  by_cases h5 : es[k].b < es[k].a
  · simp -implicitDefEqProofs (disch := omega) [List.getElem?_cons_zero, List.getElem?_cons_succ, wrap_id, h3, h4, h5]
    (refine fin0 trivial rfl ?_; simp -implicitDefEqProofs (disch := omega) [List.getElem?_cons_zero, List.getElem?_cons_succ, idx, wrap_id, edAt, edgeErr, h1, h2, h3, h4, h5])
  have hv := vtx_iff.1 h1
  rcases Nat.eq_zero_or_pos k with h0 | h0
  · subst h0
    simp -implicitDefEqProofs (disch := omega) [List.getElem?_cons_zero, List.getElem?_cons_succ, wrap_id, h3, h4, h5]
    have hb : behind (-1) (-1) es[0].a es[0].b = true := by simp [behind]; omega
    (refine fin0 trivial rfl ?_; simp -implicitDefEqProofs (disch := omega) [List.getElem?_cons_zero, List.getElem?_cons_succ, idx, wrap_id, edAt, edgeErr, h1, h2, h3, h4, h5, prvA, prvB, hb])
  · obtain ⟨j, rfl⟩ : ∃ j, k = j + 1 := ⟨k - 1, by omega⟩
    have hj : j < es.length := by omega
    have hA : prvA es (j + 1) = es[j].a := prvA_succ hj
    have hB : prvB es (j + 1) = es[j].b := prvB_succ hj
    have e1 : ((j : Int) + 1 - 1) = j := by omega
    by_cases h6 : es[j + 1].a < es[j].a
    · have hb : behind es[j].a es[j].b es[j + 1].a es[j + 1].b = false := by simp [behind]; omega
      simp -implicitDefEqProofs (disch := omega) [List.getElem?_cons_zero, List.getElem?_cons_succ, wrap_id, h3, h4, h5, h6, e1, hj]
      (refine fin0 trivial rfl ?_; simp -implicitDefEqProofs (disch := omega) [List.getElem?_cons_zero, List.getElem?_cons_succ, idx, wrap_id, edAt, edgeErr, h1, h2, h3, h4, h5, hA, hB, hb])
    by_cases h7 : es[j + 1].a = es[j].a
    · by_cases h8 : es[j + 1].b ≤ es[j].b
      · have hb : behind es[j].a es[j].b es[j + 1].a es[j + 1].b = false := by simp [behind]; omega
        rw [h7] at hb h5 h6 h1
        simp -implicitDefEqProofs (disch := omega) [List.getElem?_cons_zero, List.getElem?_cons_succ, wrap_id, h3, h4, h5, h6, h7, h8, e1, hj]
        (refine fin0 trivial rfl ?_; simp -implicitDefEqProofs (disch := omega) [List.getElem?_cons_zero, List.getElem?_cons_succ, idx, wrap_id, edAt, edgeErr, h1, h2, h3, h4, h5, hA, hB, h7, hb])
      · have hb : behind es[j].a es[j].b es[j + 1].a es[j + 1].b = true := by simp [behind]; omega
        rw [h7] at hb h5 h6 h1
        simp -implicitDefEqProofs (disch := omega) [List.getElem?_cons_zero, List.getElem?_cons_succ, wrap_id, h3, h4, h5, h6, h7, h8, e1, hj]
        (refine fin0 trivial rfl ?_; simp -implicitDefEqProofs (disch := omega) [List.getElem?_cons_zero, List.getElem?_cons_succ, idx, wrap_id, edAt, edgeErr, h1, h2, h3, h4, h5, hA, hB, h7, hb])
    · have hb : behind es[j].a es[j].b es[j + 1].a es[j + 1].b = true := by simp [behind]; omega
      simp -implicitDefEqProofs (disch := omega) [List.getElem?_cons_zero, List.getElem?_cons_succ, wrap_id, h3, h4, h5, h6, h7, e1, hj]
      (refine fin0 trivial rfl ?_; simp -implicitDefEqProofs (disch := omega) [List.getElem?_cons_zero, List.getElem?_cons_succ, idx, wrap_id, edAt, edgeErr, h1, h2, h3, h4, h5, hA, hB, hb])
end Go.Proofs.Ytojamfbdlfgedaa
/-
  Contracts: graphs, in the reference: the checks.
-/
set_option linter.unusedSimpArgs false
namespace Go.Proofs.Ytojamfbdlfgedaa
open Go.Abs Go.Sand
theorem gloop_drop (N : Int) (es : List Ed) (k : Nat) (h : k < es.length) : gloop N (es.drop k) (prvA es k) (prvB es k) = if edAt N es k h ≠ 0 then edAt N es k h else gloop N (es.drop (k + 1)) (prvA es (k + 1)) (prvB es (k + 1)) := by
  rw [List.drop_eq_getElem_cons h, gloop, prvA_succ h, prvB_succ h]; rfl
theorem rcheck_ok (N : Int) (es : List Ed) (hel : es.length ≤ 4611686018427387904) : PC Try.prog 16 [G N es] (.i (gcheck N es)) [] := by
  refine PC_of_W cfn16 ?_
  by_cases h1 : N < 1
  · simp -implicitDefEqProofs (disch := omega) [c16, List.getElem?_cons_zero, List.getElem?_cons_succ, wrap_id, h1]
    (refine fin0 trivial rfl ?_; simp -implicitDefEqProofs (disch := omega) [List.getElem?_cons_zero, List.getElem?_cons_succ, idx, wrap_id, gcheck, h1])
  by_cases h2 : 12 < N
  · simp -implicitDefEqProofs (disch := omega) [c16, List.getElem?_cons_zero, List.getElem?_cons_succ, wrap_id, h1, h2]
    (refine fin0 trivial rfl ?_; simp -implicitDefEqProofs (disch := omega) [List.getElem?_cons_zero, List.getElem?_cons_succ, idx, wrap_id, gcheck, h1, h2])
  simp -implicitDefEqProofs (disch := omega) [c16, List.getElem?_cons_zero, List.getElem?_cons_succ, wrap_id, h1, h2]
  refine loopW es.length (fun k s => s = ⟨[(3, .i k), (1, .ptr 0 1 0 0)], [.box (.p (G N es))]⟩ ∧ gloop N es (-1) (-1) = gloop N (es.drop k) (prvA es k) (prvB es k)) (wk_norm [0] [3, 1] rfl rfl) ⟨rfl, rfl⟩ ?_
  rintro k s hk ⟨rfl, hI⟩
  by_cases hlt : k < es.length
  · have hd := gloop_drop N es k hlt
    simp -implicitDefEqProofs (disch := omega) [List.getElem?_cons_zero, List.getElem?_cons_succ, wrap_id, hlt]
    refine HC_of_PC rfl (edge_ok N es k hlt hel) ?_
    by_cases he : edAt N es k hlt = 0
    · simp -implicitDefEqProofs (disch := omega) [List.getElem?_cons_zero, List.getElem?_cons_succ, wrap_id, he]
      exact round_end [0] [3, 1] hlt rfl ⟨rfl, by rw [hI, hd, he]; rfl⟩
    · simp -implicitDefEqProofs (disch := omega) [List.getElem?_cons_zero, List.getElem?_cons_succ, wrap_id, he]
      (refine fin0 trivial rfl ?_; simp -implicitDefEqProofs (disch := omega) [List.getElem?_cons_zero, List.getElem?_cons_succ, idx, wrap_id, gcheck, h1, h2, hI, hd, he])
  · simp -implicitDefEqProofs (disch := omega) [List.getElem?_cons_zero, List.getElem?_cons_succ, wrap_id, hlt]
    (refine fin0 trivial rfl ?_; simp -implicitDefEqProofs (disch := omega) [List.getElem?_cons_zero, List.getElem?_cons_succ, idx, wrap_id, gcheck, h1, h2, hI, gloop, List.drop_of_length_le (Nat.le_of_not_lt hlt)])
end Go.Proofs.Ytojamfbdlfgedaa
/-
  Contracts: graphs, in the reference: ends, sizes.
-/
set_option linter.unusedSimpArgs false
namespace Go.Proofs.Ytojamfbdlfgedaa
open Go.Abs Go.Sand
abbrev pP (p : Int × Int) : PV := .agg [.i p.1, .i p.2]
abbrev _root_.Go.Abs.PV.ps (l : List (Int × Int)) : PV := .sl (l.map pP)
theorem endsL_take_len {n : Int} {es : List Ed} (hg : ∀ x ∈ es, Right n x) (he : es.length ≤ 1000) (k : Nat) : (endsL (es.take k)).length ≤ 50000 := by
  have h1 := endsL_len (n := n) (es := es.take k) (fun x hx => hg x (List.mem_of_mem_take hx))
  have : (es.take k).length ≤ 1000 := by rw [List.length_take]; omega
  omega
theorem ends_ok (N : Int) (es : List Ed) (hg : ∀ x ∈ es, Right N x) (he : es.length ≤ 1000) : PC Try.prog 38 [G N es] (.p (.ps (endsL es))) [] := by
  refine PC_of_W cfn38 ?_
  simp -implicitDefEqProofs (disch := omega) [c38, List.getElem?_cons_zero, List.getElem?_cons_succ, wrap_id]
  refine loopW es.length (fun k s => s = ⟨[(4, .i k), (3, .os 1 0 (endsL (es.take k)).length), (1, .ptr 0 1 0 0)], [.box (.p (G N es)), .row ((endsL (es.take k)).map pP) 2 70 false]⟩) ((Wk_nil 3 2 70 rfl).trans (wk_norm [0, 1] [4, 3, 1] rfl rfl)) rfl ?_
  rintro k s hk rfl
  have hL := endsL_take_len hg he k
  by_cases hlt : k < es.length
  · have hr := hg es[k] (List.getElem_mem hlt)
    obtain ⟨m, hm⟩ : ∃ m : Nat, es[k].m = m := ⟨es[k].m.toNat, by have := hr.m1; omega⟩
    have hm50 : m ≤ 50 := by have := hr.m50; omega
    simp -implicitDefEqProofs (disch := omega) [List.getElem?_cons_zero, List.getElem?_cons_succ, wrap_id, hlt]
    refine loopW m (fun j s => s = ⟨[(5, .i j), (4, .i k), (3, .os 1 0 ((endsL (es.take k)).length + j)), (1, .ptr 0 1 0 0)], [.box (.p (G N es)), .row ((endsL (es.take k)).map pP ++ List.replicate j (pP (es[k].a, es[k].b))) 2 70 false]⟩) (wk_norm [0, 1] [5, 4, 3, 1] rfl rfl) (by rw [List.replicate_zero, List.append_nil]; rfl) ?_
    rintro j s hj rfl
    by_cases hlj : j < m
    · have hL2 : (endsL (es.take k)).length + j ≤ 1048575 := by omega
      simp -implicitDefEqProofs (disch := omega) [List.getElem?_cons_zero, List.getElem?_cons_succ, wrap_id, hlt, hlj, hm, hL2]
      exact round_end [0, 1] [5, 4, 3, 1] hlj rfl (by rw [List.replicate_succ', ← List.append_assoc]; rfl)
    · have hjm : j = m := by omega
      subst hjm
      have hs := endsL_snoc es k hlt
      rw [hm, Int.toNat_natCast] at hs
      simp -implicitDefEqProofs (disch := omega) [List.getElem?_cons_zero, List.getElem?_cons_succ, wrap_id, hlt, hm]
      exact round_end [0, 1] [4, 3, 1] hlt rfl (by rw [hs, List.length_append, List.map_append, List.map_replicate, List.length_replicate]; rfl)
  · have hk : k = es.length := by omega
    subst hk
    rw [List.take_length]
    simp -implicitDefEqProofs (disch := omega) [List.getElem?_cons_zero, List.getElem?_cons_succ, wrap_id]
    (refine fin0 trivial rfl ?_; simp -implicitDefEqProofs (disch := omega) [List.getElem?_cons_zero, List.getElem?_cons_succ, idx, wrap_id, idx])
theorem size_ok (N : Int) (es : List Ed) (hg : ∀ x ∈ es, Right N x) (he : es.length ≤ 1000) : PC Try.prog 24 [G N es] (.i (endsL es).length) [] := by
  refine PC_of_W cfn24 ?_
  simp -implicitDefEqProofs (disch := omega) [c24, List.getElem?_cons_zero, List.getElem?_cons_succ, wrap_id]
  refine HC_of_PC rfl (ends_ok N es hg he) ?_
  simp -implicitDefEqProofs (disch := omega) [List.getElem?_cons_zero, List.getElem?_cons_succ, wrap_id]
  (refine fin0 trivial rfl ?_; simp -implicitDefEqProofs (disch := omega) [List.getElem?_cons_zero, List.getElem?_cons_succ, idx, wrap_id])
theorem small_ok (N : Int) (es : List Ed) (nv ne : Int) : PC Try.prog 15 [G N es, .i nv, .i ne] (.b (smallG N es nv ne)) [] := by
  refine PC_of_W cfn15 ?_
  by_cases h1 : (40 : Int) < es.length
  · have h1' : ¬ es.length ≤ 40 := by omega
    simp -implicitDefEqProofs (disch := omega) [c15, List.getElem?_cons_zero, List.getElem?_cons_succ, wrap_id, h1]
    (refine fin0 trivial rfl ?_; simp -implicitDefEqProofs (disch := omega) [List.getElem?_cons_zero, List.getElem?_cons_succ, idx, wrap_id, smallG, h1'])
  have h1' : es.length ≤ 40 := by omega
  simp -implicitDefEqProofs (disch := omega) [c15, List.getElem?_cons_zero, List.getElem?_cons_succ, wrap_id, h1]
  refine HC_of_PC rfl (rcheck_ok N es (by omega)) ?_
  by_cases h2 : gcheck N es = 0
  rotate_left
  · simp -implicitDefEqProofs (disch := omega) [List.getElem?_cons_zero, List.getElem?_cons_succ, wrap_id, h2]
    (refine fin0 trivial rfl ?_; simp -implicitDefEqProofs (disch := omega) [List.getElem?_cons_zero, List.getElem?_cons_succ, idx, wrap_id, smallG, h1', h2])
  have hg := (gcheck_ok h2).right
  by_cases h3 : N ≤ nv
  · simp -implicitDefEqProofs (disch := omega) [List.getElem?_cons_zero, List.getElem?_cons_succ, wrap_id, h2, h3]
    refine HC_of_PC rfl (size_ok N es hg (by omega)) ?_
    simp -implicitDefEqProofs (disch := omega) [List.getElem?_cons_zero, List.getElem?_cons_succ, wrap_id]
    (refine fin0 trivial rfl ?_; simp -implicitDefEqProofs (disch := omega) [List.getElem?_cons_zero, List.getElem?_cons_succ, idx, wrap_id, smallG, h1', h2, h3])
  · simp -implicitDefEqProofs (disch := omega) [List.getElem?_cons_zero, List.getElem?_cons_succ, wrap_id, h2, h3]
    (refine fin0 trivial rfl ?_; simp -implicitDefEqProofs (disch := omega) [List.getElem?_cons_zero, List.getElem?_cons_succ, idx, wrap_id, smallG, h1', h2, h3])
end Go.Proofs.Ytojamfbdlfgedaa
/-
  Contracts: package graph.
-/
set_option linter.unusedSimpArgs false
namespace Go.Proofs.Ytojamfbdlfgedaa
open Go.Abs Go.Sand
theorem isNaN_ok (a : Int) : PC Try.prog 62 [.i a] (.b false) [] := by
  refine PC_of_W cfn62 ?_
  simp -implicitDefEqProofs (disch := omega) [c62, List.getElem?_cons_zero, List.getElem?_cons_succ, wrap_id]
  (refine fin0 trivial rfl ?_; simp -implicitDefEqProofs (disch := omega) [List.getElem?_cons_zero, List.getElem?_cons_succ, idx, wrap_id])
theorem compare_ok (a b : Int) : PC Try.prog 60 [.i a, .i b] (.i (cmpI a b)) [] := by
  refine PC_of_W cfn60 ?_
  simp -implicitDefEqProofs (disch := omega) [c60, List.getElem?_cons_zero, List.getElem?_cons_succ, wrap_id]
  refine HC_of_PC rfl (isNaN_ok a) ?_
  simp -implicitDefEqProofs (disch := omega) [List.getElem?_cons_zero, List.getElem?_cons_succ, wrap_id]
  refine HC_of_PC rfl (isNaN_ok b) ?_
  by_cases h1 : a < b
  · simp -implicitDefEqProofs (disch := omega) [List.getElem?_cons_zero, List.getElem?_cons_succ, wrap_id, h1]
    (refine fin0 trivial rfl ?_; simp -implicitDefEqProofs (disch := omega) [List.getElem?_cons_zero, List.getElem?_cons_succ, idx, wrap_id, cmpI, h1])
  by_cases h2 : b < a
  · simp -implicitDefEqProofs (disch := omega) [List.getElem?_cons_zero, List.getElem?_cons_succ, wrap_id, h1, h2]
    (refine fin0 trivial rfl ?_; simp -implicitDefEqProofs (disch := omega) [List.getElem?_cons_zero, List.getElem?_cons_succ, idx, wrap_id, cmpI, h1, h2])
  · simp -implicitDefEqProofs (disch := omega) [List.getElem?_cons_zero, List.getElem?_cons_succ, wrap_id, h1, h2]
    (refine fin0 trivial rfl ?_; simp -implicitDefEqProofs (disch := omega) [List.getElem?_cons_zero, List.getElem?_cons_succ, idx, wrap_id, cmpI, h1, h2])
theorem orI_drop (xs : List Int) (k : Nat) (h : k < xs.length) : orI (xs.drop k) = if xs[k] ≠ 0 then xs[k] else orI (xs.drop (k + 1)) := by
  rw [List.drop_eq_getElem_cons h, orI]
theorem or_ok (xs : List Int) (hx : xs.length ≤ 4611686018427387904) : PC Try.prog 59 [.is xs] (.i (orI xs)) [] := by
  refine PC_of_W cfn59 ?_
  simp -implicitDefEqProofs (disch := omega) [c59, List.getElem?_cons_zero, List.getElem?_cons_succ, wrap_id]
  refine loopW xs.length (fun k s => s = ⟨[(8, .i k), (7, .i xs.length), (6, .p (.is xs)), (3, .i 0)], []⟩ ∧ orI xs = orI (xs.drop k)) (wk_norm [] [8, 7, 6, 3] rfl rfl) ⟨rfl, rfl⟩ ?_
  rintro k s hk ⟨rfl, hI⟩
  by_cases hlt : k < xs.length
  · have hd := orI_drop xs k hlt
    by_cases h1 : xs[k] = 0
    · simp -implicitDefEqProofs (disch := omega) [List.getElem?_cons_zero, List.getElem?_cons_succ, wrap_id, hlt, h1]
      exact round_end [] [8, 7, 6, 3] hlt rfl ⟨rfl, by rw [hI, hd, h1]; rfl⟩
    · simp -implicitDefEqProofs (disch := omega) [List.getElem?_cons_zero, List.getElem?_cons_succ, wrap_id, hlt, h1]
      (refine fin0 trivial rfl ?_; simp -implicitDefEqProofs (disch := omega) [List.getElem?_cons_zero, List.getElem?_cons_succ, idx, wrap_id, hI, hd, h1])
  · simp -implicitDefEqProofs (disch := omega) [List.getElem?_cons_zero, List.getElem?_cons_succ, wrap_id, hlt]
    (refine fin0 trivial rfl ?_; simp -implicitDefEqProofs (disch := omega) [List.getElem?_cons_zero, List.getElem?_cons_succ, idx, wrap_id, hI, orI, List.drop_of_length_le (Nat.le_of_not_lt hlt)])
theorem pcompare_ok (a b c d : Int) : PC Try.prog 52 [pP (a, b), pP (c, d)] (.i (cmpP a b c d)) [] := by
  refine PC_of_W cfn52 ?_
  simp -implicitDefEqProofs (disch := omega) [c52, List.getElem?_cons_zero, List.getElem?_cons_succ, wrap_id]
  refine HC_of_PC rfl (compare_ok a c) ?_
  simp -implicitDefEqProofs (disch := omega) [List.getElem?_cons_zero, List.getElem?_cons_succ, wrap_id]
  refine HC_of_PC rfl (compare_ok b d) ?_
  simp -implicitDefEqProofs (disch := omega) [List.getElem?_cons_zero, List.getElem?_cons_succ, wrap_id]
  refine HC_of_PC rfl (or_ok [cmpI a c, cmpI b d] (by simp)) ?_
  simp -implicitDefEqProofs (disch := omega) [List.getElem?_cons_zero, List.getElem?_cons_succ, wrap_id]
  (refine fin0 trivial rfl ?_; simp -implicitDefEqProofs (disch := omega) [List.getElem?_cons_zero, List.getElem?_cons_succ, idx, wrap_id, cmpP])
theorem gvertex_ok (N v : Int) : PC Try.prog 51 [.i N, .i v] (.b (vtx N v)) [] := by
  refine PC_of_W cfn51 ?_
  by_cases h1 : 0 ≤ v <;> by_cases h2 : v < N
  all_goals
    simp -implicitDefEqProofs (disch := omega) [c51, List.getElem?_cons_zero, List.getElem?_cons_succ, wrap_id, h1, h2]
    (refine fin0 trivial rfl ?_; simp -implicitDefEqProofs (disch := omega) [List.getElem?_cons_zero, List.getElem?_cons_succ, idx, wrap_id, vtx, h1, h2])
theorem edgeErr_bad1 {N la lb : Int} {x : Ed} (h : vtx N x.a = false) : edgeErr N la lb x = 2 := by rw [edgeErr, if_pos (.inl h)]
theorem edgeErr_bad2 {N la lb : Int} {x : Ed} (h : vtx N x.b = false) : edgeErr N la lb x = 2 := by rw [edgeErr, if_pos (.inr (.inl h))]
theorem edgeErr_bad3 {N la lb : Int} {x : Ed} (h : x.m < 1) : edgeErr N la lb x = 2 := by rw [edgeErr, if_pos (.inr (.inr (.inl h)))]
theorem edgeErr_bad4 {N la lb : Int} {x : Ed} (h : 50 < x.m) : edgeErr N la lb x = 2 := by rw [edgeErr, if_pos (.inr (.inr (.inr h)))]
theorem gloop_drop' (N : Int) (es : List Ed) (k : Nat) (h : k < es.length) : gloop N (es.drop k) (prvA es k) (prvB es k) = if edgeErr N (prvA es k) (prvB es k) es[k] ≠ 0 then edgeErr N (prvA es k) (prvB es k) es[k] else gloop N (es.drop (k + 1)) es[k].a es[k].b := by
  rw [List.drop_eq_getElem_cons h, gloop]
theorem gcheck_ok' (N : Int) (es : List Ed) (hel : es.length ≤ 4611686018427387904) : PC Try.prog 42 [G N es] (.i (gcheck N es)) [] := by
  refine PC_of_W cfn42 ?_
  by_cases h1 : N < 1
  · simp -implicitDefEqProofs (disch := omega) [c42, List.getElem?_cons_zero, List.getElem?_cons_succ, wrap_id, h1]
    (refine fin0 trivial rfl ?_; simp -implicitDefEqProofs (disch := omega) [List.getElem?_cons_zero, List.getElem?_cons_succ, idx, wrap_id, gcheck, h1])
  by_cases h2 : 12 < N
  · simp -implicitDefEqProofs (disch := omega) [c42, List.getElem?_cons_zero, List.getElem?_cons_succ, wrap_id, h1, h2]
    (refine fin0 trivial rfl ?_; simp -implicitDefEqProofs (disch := omega) [List.getElem?_cons_zero, List.getElem?_cons_succ, idx, wrap_id, gcheck, h1, h2])
  simp -implicitDefEqProofs (disch := omega) [c42, List.getElem?_cons_zero, List.getElem?_cons_succ, wrap_id, h1, h2]
  refine loopW es.length (fun k s => s = ⟨[(19, .i k), (18, .i es.length), (17, .p (.sl (es.map edP))), (1, .ptr 0 1 0 0), (3, .ptr 1 1 0 0)], [.box (.p (G N es)), .box (.p (pP (prvA es k, prvB es k)))]⟩ ∧ gloop N es (-1) (-1) = gloop N (es.drop k) (prvA es k) (prvB es k)) (wk_norm [0, 1] [19, 18, 17, 1, 3] rfl rfl) ⟨rfl, rfl⟩ ?_
  rintro k s hk ⟨rfl, hI⟩
  by_cases hlt : k < es.length
  rotate_left
  · simp -implicitDefEqProofs (disch := omega) [List.getElem?_cons_zero, List.getElem?_cons_succ, wrap_id, hlt]
    (refine fin0 trivial rfl ?_; simp -implicitDefEqProofs (disch := omega) [List.getElem?_cons_zero, List.getElem?_cons_succ, idx, wrap_id, gcheck, h1, h2, hI, gloop, List.drop_of_length_le (Nat.le_of_not_lt hlt)])
  have hd := gloop_drop' N es k hlt
  simp -implicitDefEqProofs (disch := omega) [List.getElem?_cons_zero, List.getElem?_cons_succ, wrap_id, hlt]
  refine HC_of_PC rfl (gvertex_ok _ _) ?_
  cases g1 : vtx N es[k].a
  · have he := edgeErr_bad1 (la := prvA es k) (lb := prvB es k) g1
    simp -implicitDefEqProofs (disch := omega) [List.getElem?_cons_zero, List.getElem?_cons_succ, wrap_id]
    (refine fin0 trivial rfl ?_; simp -implicitDefEqProofs (disch := omega) [List.getElem?_cons_zero, List.getElem?_cons_succ, idx, wrap_id, gcheck, h1, h2, hI, hd, he])
  simp -implicitDefEqProofs (disch := omega) [List.getElem?_cons_zero, List.getElem?_cons_succ, wrap_id]
  refine HC_of_PC rfl (gvertex_ok _ _) ?_
  cases g2 : vtx N es[k].b
  · have he := edgeErr_bad2 (la := prvA es k) (lb := prvB es k) g2
    simp -implicitDefEqProofs (disch := omega) [List.getElem?_cons_zero, List.getElem?_cons_succ, wrap_id]
    (refine fin0 trivial rfl ?_; simp -implicitDefEqProofs (disch := omega) [List.getElem?_cons_zero, List.getElem?_cons_succ, idx, wrap_id, gcheck, h1, h2, hI, hd, he])
  by_cases g3 : es[k].m < 1
  · have he := edgeErr_bad3 (N := N) (la := prvA es k) (lb := prvB es k) g3
    simp -implicitDefEqProofs (disch := omega) [List.getElem?_cons_zero, List.getElem?_cons_succ, wrap_id, g3]
    (refine fin0 trivial rfl ?_; simp -implicitDefEqProofs (disch := omega) [List.getElem?_cons_zero, List.getElem?_cons_succ, idx, wrap_id, gcheck, h1, h2, hI, hd, he])
  by_cases g4 : 50 < es[k].m
  · have he := edgeErr_bad4 (N := N) (la := prvA es k) (lb := prvB es k) g4
    simp -implicitDefEqProofs (disch := omega) [List.getElem?_cons_zero, List.getElem?_cons_succ, wrap_id, g3, g4]
    (refine fin0 trivial rfl ?_; simp -implicitDefEqProofs (disch := omega) [List.getElem?_cons_zero, List.getElem?_cons_succ, idx, wrap_id, gcheck, h1, h2, hI, hd, he])
  by_cases g5 : es[k].b < es[k].a
  · have he := edgeErr_nine (la := prvA es k) (lb := prvB es k) g1 g2 g3 g4 (.inl g5)
    simp -implicitDefEqProofs (disch := omega) [List.getElem?_cons_zero, List.getElem?_cons_succ, wrap_id, g3, g4, g5]
    (refine fin0 trivial rfl ?_; simp -implicitDefEqProofs (disch := omega) [List.getElem?_cons_zero, List.getElem?_cons_succ, idx, wrap_id, gcheck, h1, h2, hI, hd, he])
  simp -implicitDefEqProofs (disch := omega) [List.getElem?_cons_zero, List.getElem?_cons_succ, wrap_id, g3, g4, g5]
  refine HC_of_PC rfl (pcompare_ok _ _ _ _) ?_
  by_cases g6 : 0 ≤ cmpP (prvA es k) (prvB es k) es[k].a es[k].b
  · have he := edgeErr_nine (la := prvA es k) (lb := prvB es k) g1 g2 g3 g4 (.inr ((cmpP_ge _ _ _ _).1 g6))
    simp -implicitDefEqProofs (disch := omega) [List.getElem?_cons_zero, List.getElem?_cons_succ, wrap_id, g6]
    (refine fin0 trivial rfl ?_; simp -implicitDefEqProofs (disch := omega) [List.getElem?_cons_zero, List.getElem?_cons_succ, idx, wrap_id, gcheck, h1, h2, hI, hd, he])
  · have he := edgeErr_zero (la := prvA es k) (lb := prvB es k) g1 g2 g3 g4 g5 (Decidable.not_not.1 fun h => g6 ((cmpP_ge _ _ _ _).2 h))
    simp -implicitDefEqProofs (disch := omega) [List.getElem?_cons_zero, List.getElem?_cons_succ, wrap_id, g6]
    exact round_end [0, 1] [19, 18, 17, 1, 3] hlt rfl ⟨by rw [prvA_succ hlt, prvB_succ hlt]; rfl, by rw [hI, hd, he, prvA_succ hlt, prvB_succ hlt]; rfl⟩
end Go.Proofs.Ytojamfbdlfgedaa
end
