/-
  Contracts: package graph.
-/
import Derived.Test.YtjkmhjjfipnbbaaTe
set_option linter.unusedSimpArgs false
namespace Go.Proofs.Ytjkmhjjfipnbbaa
open Go.Abs Go.Sand

theorem isNaN_ok (a : Int) : PC Try.prog 107 [.i a] (.b false) [] := by
  refine PC_of_W cfn107 ?_
  simp -implicitDefEqProofs (disch := omega) [c107, List.getElem?_cons_zero, List.getElem?_cons_succ, wrap_id]
  (refine fin0 trivial rfl ?_; simp -implicitDefEqProofs (disch := omega) [List.getElem?_cons_zero, List.getElem?_cons_succ, idx, wrap_id])
theorem compare_ok (a b : Int) : PC Try.prog 105 [.i a, .i b] (.i (cmpI a b)) [] := by
  refine PC_of_W cfn105 ?_
  simp -implicitDefEqProofs (disch := omega) [c105, List.getElem?_cons_zero, List.getElem?_cons_succ, wrap_id]
  refine HC_of_PC rfl (isNaN_ok a) ?_
  simp -implicitDefEqProofs (disch := omega) [List.getElem?_cons_zero, List.getElem?_cons_succ, wrap_id]
  refine HC_of_PC rfl (isNaN_ok b) ?_
  by_cases h1 : a < b
  · simp -implicitDefEqProofs (disch := omega) [List.getElem?_cons_zero, List.getElem?_cons_succ, wrap_id, h1]
    (refine fin0 trivial rfl ?_; simp -implicitDefEqProofs (disch := omega) [List.getElem?_cons_zero, List.getElem?_cons_succ, idx, wrap_id, cmpI, h1])
  by_cases h2 : b < a
  · simp -implicitDefEqProofs (disch := omega) [List.getElem?_cons_zero, List.getElem?_cons_succ, wrap_id, h1, h2]
    (refine fin0 trivial rfl ?_; simp -implicitDefEqProofs (disch := omega) [List.getElem?_cons_zero, List.getElem?_cons_succ, idx, wrap_id, cmpI, h1, h2])
  · simp -implicitDefEqProofs (disch := omega) [List.getElem?_cons_zero, List.getElem?_cons_succ, wrap_id, h1, h2]
    (refine fin0 trivial rfl ?_; simp -implicitDefEqProofs (disch := omega) [List.getElem?_cons_zero, List.getElem?_cons_succ, idx, wrap_id, cmpI, h1, h2])
theorem orI_drop (xs : List Int) (k : Nat) (h : k < xs.length) : orI (xs.drop k) = if xs[k] ≠ 0 then xs[k] else orI (xs.drop (k + 1)) := by
  rw [List.drop_eq_getElem_cons h, orI]
theorem or_ok (xs : List Int) (hx : xs.length ≤ 4611686018427387904) : PC Try.prog 104 [.is xs] (.i (orI xs)) [] := by
  refine PC_of_W cfn104 ?_
  simp -implicitDefEqProofs (disch := omega) [c104, List.getElem?_cons_zero, List.getElem?_cons_succ, wrap_id]
  refine loopW xs.length (fun k s => s = ⟨[(8, .i k), (7, .i xs.length), (6, .p (.is xs)), (3, .i 0)], []⟩ ∧ orI xs = orI (xs.drop k)) (wk_norm [] [8, 7, 6, 3] rfl rfl) ⟨rfl, rfl⟩ ?_
  rintro k s hk ⟨rfl, hI⟩
  by_cases hlt : k < xs.length
  · have hd := orI_drop xs k hlt
    by_cases h1 : xs[k] = 0
    · simp -implicitDefEqProofs (disch := omega) [List.getElem?_cons_zero, List.getElem?_cons_succ, wrap_id, hlt, h1]
      exact round_end [] [8, 7, 6, 3] hlt rfl ⟨rfl, by rw [hI, hd, h1]; rfl⟩
    · simp -implicitDefEqProofs (disch := omega) [List.getElem?_cons_zero, List.getElem?_cons_succ, wrap_id, hlt, h1]
      (refine fin0 trivial rfl ?_; simp -implicitDefEqProofs (disch := omega) [List.getElem?_cons_zero, List.getElem?_cons_succ, idx, wrap_id, hI, hd, h1])
  · simp -implicitDefEqProofs (disch := omega) [List.getElem?_cons_zero, List.getElem?_cons_succ, wrap_id, hlt]
    (refine fin0 trivial rfl ?_; simp -implicitDefEqProofs (disch := omega) [List.getElem?_cons_zero, List.getElem?_cons_succ, idx, wrap_id, hI, orI, List.drop_of_length_le (Nat.le_of_not_lt hlt)])
theorem pcompare_ok (a b c d : Int) : PC Try.prog 97 [pP (a, b), pP (c, d)] (.i (cmpP a b c d)) [] := by
  refine PC_of_W cfn97 ?_
  simp -implicitDefEqProofs (disch := omega) [c97, List.getElem?_cons_zero, List.getElem?_cons_succ, wrap_id]
  refine HC_of_PC rfl (compare_ok a c) ?_
  simp -implicitDefEqProofs (disch := omega) [List.getElem?_cons_zero, List.getElem?_cons_succ, wrap_id]
  refine HC_of_PC rfl (compare_ok b d) ?_
  simp -implicitDefEqProofs (disch := omega) [List.getElem?_cons_zero, List.getElem?_cons_succ, wrap_id]
  refine HC_of_PC rfl (or_ok [cmpI a c, cmpI b d] (by simp)) ?_
  simp -implicitDefEqProofs (disch := omega) [List.getElem?_cons_zero, List.getElem?_cons_succ, wrap_id]
  (refine fin0 trivial rfl ?_; simp -implicitDefEqProofs (disch := omega) [List.getElem?_cons_zero, List.getElem?_cons_succ, idx, wrap_id, cmpP])
theorem gvertex_ok (N v : Int) : PC Try.prog 96 [.i N, .i v] (.b (vtx N v)) [] := by
  refine PC_of_W cfn96 ?_
  by_cases h1 : 0 ≤ v <;> by_cases h2 : v < N
  all_goals
    simp -implicitDefEqProofs (disch := omega) [c96, List.getElem?_cons_zero, List.getElem?_cons_succ, wrap_id, h1, h2]
    (refine fin0 trivial rfl ?_; simp -implicitDefEqProofs (disch := omega) [List.getElem?_cons_zero, List.getElem?_cons_succ, idx, wrap_id, vtx, h1, h2])
theorem edgeErr_bad1 {N la lb : Int} {x : Ed} (h : vtx N x.a = false) : edgeErr N la lb x = 2 := by rw [edgeErr, if_pos (.inl h)]
theorem edgeErr_bad2 {N la lb : Int} {x : Ed} (h : vtx N x.b = false) : edgeErr N la lb x = 2 := by rw [edgeErr, if_pos (.inr (.inl h))]
theorem edgeErr_bad3 {N la lb : Int} {x : Ed} (h : x.m < 1) : edgeErr N la lb x = 2 := by rw [edgeErr, if_pos (.inr (.inr (.inl h)))]
theorem edgeErr_bad4 {N la lb : Int} {x : Ed} (h : 50 < x.m) : edgeErr N la lb x = 2 := by rw [edgeErr, if_pos (.inr (.inr (.inr h)))]
theorem gloop_drop' (N : Int) (es : List Ed) (k : Nat) (h : k < es.length) : gloop N (es.drop k) (prvA es k) (prvB es k) = if edgeErr N (prvA es k) (prvB es k) es[k] ≠ 0 then edgeErr N (prvA es k) (prvB es k) es[k] else gloop N (es.drop (k + 1)) es[k].a es[k].b := by
  rw [List.drop_eq_getElem_cons h, gloop]
theorem gcheck_ok' (N : Int) (es : List Ed) (hel : es.length ≤ 4611686018427387904) : PC Try.prog 80 [G N es] (.i (gcheck N es)) [] := by
  refine PC_of_W cfn80 ?_
  by_cases h1 : N < 1
  · simp -implicitDefEqProofs (disch := omega) [c80, List.getElem?_cons_zero, List.getElem?_cons_succ, wrap_id, h1]
    (refine fin0 trivial rfl ?_; simp -implicitDefEqProofs (disch := omega) [List.getElem?_cons_zero, List.getElem?_cons_succ, idx, wrap_id, gcheck, h1])
  by_cases h2 : 12 < N
  · simp -implicitDefEqProofs (disch := omega) [c80, List.getElem?_cons_zero, List.getElem?_cons_succ, wrap_id, h1, h2]
    (refine fin0 trivial rfl ?_; simp -implicitDefEqProofs (disch := omega) [List.getElem?_cons_zero, List.getElem?_cons_succ, idx, wrap_id, gcheck, h1, h2])
  simp -implicitDefEqProofs (disch := omega) [c80, List.getElem?_cons_zero, List.getElem?_cons_succ, wrap_id, h1, h2]
  refine loopW es.length (fun k s => s = ⟨[(19, .i k), (18, .i es.length), (17, .p (.sl (es.map edP))), (1, .ptr 0 1 0 0), (3, .ptr 1 1 0 0)], [.box (.p (G N es)), .box (.p (pP (prvA es k, prvB es k)))]⟩ ∧ gloop N es (-1) (-1) = gloop N (es.drop k) (prvA es k) (prvB es k)) (wk_norm [0, 1] [19, 18, 17, 1, 3] rfl rfl) ⟨rfl, rfl⟩ ?_
  rintro k s hk ⟨rfl, hI⟩
  by_cases hlt : k < es.length
  rotate_left
  · simp -implicitDefEqProofs (disch := omega) [List.getElem?_cons_zero, List.getElem?_cons_succ, wrap_id, hlt]
    (refine fin0 trivial rfl ?_; simp -implicitDefEqProofs (disch := omega) [List.getElem?_cons_zero, List.getElem?_cons_succ, idx, wrap_id, gcheck, h1, h2, hI, gloop, List.drop_of_length_le (Nat.le_of_not_lt hlt)])
  have hd := gloop_drop' N es k hlt
  simp -implicitDefEqProofs (disch := omega) [List.getElem?_cons_zero, List.getElem?_cons_succ, wrap_id, hlt]
  refine HC_of_PC rfl (gvertex_ok _ _) ?_
  cases g1 : vtx N es[k].a
  · have he := edgeErr_bad1 (la := prvA es k) (lb := prvB es k) g1
    simp -implicitDefEqProofs (disch := omega) [List.getElem?_cons_zero, List.getElem?_cons_succ, wrap_id]
    (refine fin0 trivial rfl ?_; simp -implicitDefEqProofs (disch := omega) [List.getElem?_cons_zero, List.getElem?_cons_succ, idx, wrap_id, gcheck, h1, h2, hI, hd, he])
  simp -implicitDefEqProofs (disch := omega) [List.getElem?_cons_zero, List.getElem?_cons_succ, wrap_id]
  refine HC_of_PC rfl (gvertex_ok _ _) ?_
  cases g2 : vtx N es[k].b
  · have he := edgeErr_bad2 (la := prvA es k) (lb := prvB es k) g2
    simp -implicitDefEqProofs (disch := omega) [List.getElem?_cons_zero, List.getElem?_cons_succ, wrap_id]
    (refine fin0 trivial rfl ?_; simp -implicitDefEqProofs (disch := omega) [List.getElem?_cons_zero, List.getElem?_cons_succ, idx, wrap_id, gcheck, h1, h2, hI, hd, he])
  by_cases g3 : es[k].m < 1
  · have he := edgeErr_bad3 (N := N) (la := prvA es k) (lb := prvB es k) g3
    simp -implicitDefEqProofs (disch := omega) [List.getElem?_cons_zero, List.getElem?_cons_succ, wrap_id, g3]
    (refine fin0 trivial rfl ?_; simp -implicitDefEqProofs (disch := omega) [List.getElem?_cons_zero, List.getElem?_cons_succ, idx, wrap_id, gcheck, h1, h2, hI, hd, he])
  by_cases g4 : 50 < es[k].m
  · have he := edgeErr_bad4 (N := N) (la := prvA es k) (lb := prvB es k) g4
    simp -implicitDefEqProofs (disch := omega) [List.getElem?_cons_zero, List.getElem?_cons_succ, wrap_id, g3, g4]
    (refine fin0 trivial rfl ?_; simp -implicitDefEqProofs (disch := omega) [List.getElem?_cons_zero, List.getElem?_cons_succ, idx, wrap_id, gcheck, h1, h2, hI, hd, he])
  by_cases g5 : es[k].b < es[k].a
  · have he := edgeErr_nine (la := prvA es k) (lb := prvB es k) g1 g2 g3 g4 (.inl g5)
    simp -implicitDefEqProofs (disch := omega) [List.getElem?_cons_zero, List.getElem?_cons_succ, wrap_id, g3, g4, g5]
    (refine fin0 trivial rfl ?_; simp -implicitDefEqProofs (disch := omega) [List.getElem?_cons_zero, List.getElem?_cons_succ, idx, wrap_id, gcheck, h1, h2, hI, hd, he])
  simp -implicitDefEqProofs (disch := omega) [List.getElem?_cons_zero, List.getElem?_cons_succ, wrap_id, g3, g4, g5]
  refine HC_of_PC rfl (pcompare_ok _ _ _ _) ?_
  by_cases g6 : 0 ≤ cmpP (prvA es k) (prvB es k) es[k].a es[k].b
  · have he := edgeErr_nine (la := prvA es k) (lb := prvB es k) g1 g2 g3 g4 (.inr ((cmpP_ge _ _ _ _).1 g6))
    simp -implicitDefEqProofs (disch := omega) [List.getElem?_cons_zero, List.getElem?_cons_succ, wrap_id, g6]
    (refine fin0 trivial rfl ?_; simp -implicitDefEqProofs (disch := omega) [List.getElem?_cons_zero, List.getElem?_cons_succ, idx, wrap_id, gcheck, h1, h2, hI, hd, he])
  · have he := edgeErr_zero (la := prvA es k) (lb := prvB es k) g1 g2 g3 g4 g5 (Decidable.not_not.1 fun h => g6 ((cmpP_ge _ _ _ _).2 h))
    simp -implicitDefEqProofs (disch := omega) [List.getElem?_cons_zero, List.getElem?_cons_succ, wrap_id, g6]
    exact round_end [0, 1] [19, 18, 17, 1, 3] hlt rfl ⟨by rw [prvA_succ hlt, prvB_succ hlt]; rfl, by rw [hI, hd, he, prvA_succ hlt, prvB_succ hlt]; rfl⟩
end Go.Proofs.Ytjkmhjjfipnbbaa
