/-
  Contracts: package graph, sets and valences; what is given.
-/
import Derived.Test.YtjkmhjjfipnbbaaTf
set_option linter.unusedSimpArgs false
namespace Go.Proofs.Ytjkmhjjfipnbbaa
open Go.Abs Go.Sand

theorem gsubset_ok (N : Int) (es : List Ed) (xs : List Int) (hel : es.length ≤ 4611686018427387904) (hx : xs.length ≤ 4611686018427387904) : PC Try.prog 90 [G N es, .is xs] (.i (subCheck N es xs)) [] := by
  refine PC_of_W cfn90 ?_
  simp -implicitDefEqProofs (disch := omega) [c90, List.getElem?_cons_zero, List.getElem?_cons_succ, wrap_id]
  refine HC_of_PC rfl (gcheck_ok' N es hel) ?_
  by_cases h0 : gcheck N es = 0
  rotate_left
  · simp -implicitDefEqProofs (disch := omega) [List.getElem?_cons_zero, List.getElem?_cons_succ, wrap_id, h0]
    (refine fin0 trivial rfl ?_; simp -implicitDefEqProofs (disch := omega) [List.getElem?_cons_zero, List.getElem?_cons_succ, idx, wrap_id, subCheck, h0])
  simp -implicitDefEqProofs (disch := omega) [List.getElem?_cons_zero, List.getElem?_cons_succ, wrap_id, h0]
  refine loopW xs.length (fun k s => s = ⟨[(15, .i k), (14, .i xs.length), (13, .p (.is xs)), (2, .ptr 0 1 0 0), (1, .p (.is xs))], [.box (.p (G N es))]⟩ ∧ subErr N (-1) xs = subErr N (prvI xs k) (xs.drop k)) (wk_norm [0] [15, 14, 13, 2, 1] rfl rfl) ⟨rfl, rfl⟩ ?_
  rintro k s hk ⟨rfl, hI⟩
  by_cases hlt : k < xs.length
  · have hd := subErr_drop N xs k hlt
    simp -implicitDefEqProofs (disch := omega) [List.getElem?_cons_zero, List.getElem?_cons_succ, wrap_id, hlt]
    refine HC_of_PC rfl (gvertex_ok N xs[k]) ?_
    cases hv : vtx N xs[k]
    · simp -implicitDefEqProofs (disch := omega) [List.getElem?_cons_zero, List.getElem?_cons_succ, wrap_id]
      (refine fin0 trivial rfl ?_; simp -implicitDefEqProofs (disch := omega) [List.getElem?_cons_zero, List.getElem?_cons_succ, idx, wrap_id, subCheck, h0, hI, hd, hv])
    rcases Nat.eq_zero_or_pos k with h1 | h1
    · subst h1
      have hnn : ¬ xs[0] ≤ prvI xs 0 := by have := vtx_iff.1 hv; simp only [prvI]; omega
      simp -implicitDefEqProofs (disch := omega) [List.getElem?_cons_zero, List.getElem?_cons_succ, wrap_id]
      exact round_end [0] [15, 14, 13, 2, 1] hlt rfl ⟨rfl, by rw [hI, hd, hv, if_neg hnn]; rfl⟩
    · obtain ⟨j, rfl⟩ : ∃ j, k = j + 1 := ⟨k - 1, by omega⟩
      have hj : j < xs.length := by omega
      have e1 : ((j : Int) + 1 - 1) = j := by omega
      have hA : prvI xs (j + 1) = xs[j] := prvI_succ hj
      rw [hA] at hI hd
      by_cases h6 : xs[j + 1] ≤ xs[j]
      · simp -implicitDefEqProofs (disch := omega) [List.getElem?_cons_zero, List.getElem?_cons_succ, wrap_id, h6, e1, hj]
        (refine fin0 trivial rfl ?_; simp -implicitDefEqProofs (disch := omega) [List.getElem?_cons_zero, List.getElem?_cons_succ, idx, wrap_id, subCheck, h0, hI, hd, hv, h6])
      · simp -implicitDefEqProofs (disch := omega) [List.getElem?_cons_zero, List.getElem?_cons_succ, wrap_id, h6, e1, hj]
        exact round_end [0] [15, 14, 13, 2, 1] hlt rfl ⟨rfl, by rw [hI, hd, hv, if_neg h6]; rfl⟩
  · simp -implicitDefEqProofs (disch := omega) [List.getElem?_cons_zero, List.getElem?_cons_succ, wrap_id, hlt]
    (refine fin0 trivial rfl ?_; simp -implicitDefEqProofs (disch := omega) [List.getElem?_cons_zero, List.getElem?_cons_succ, idx, wrap_id, subCheck, h0, hI, subErr, List.drop_of_length_le (Nat.le_of_not_lt hlt)])
def atErr (N : Int) (es : List Ed) (vs : List Int) : Int := if gcheck N es ≠ 0 then gcheck N es else atE N vs
theorem at_ok (N : Int) (es : List Ed) (xs : List Int) (hel : es.length ≤ 4611686018427387904) (hx : xs.length ≤ 4611686018427387904) : PC Try.prog 102 [G N es, .is xs] (.i (atErr N es xs)) [] := by
  refine PC_of_W cfn102 ?_
  simp -implicitDefEqProofs (disch := omega) [c102, List.getElem?_cons_zero, List.getElem?_cons_succ, wrap_id]
  refine HC_of_PC rfl (gcheck_ok' N es hel) ?_
  by_cases h0 : gcheck N es = 0
  rotate_left
  · simp -implicitDefEqProofs (disch := omega) [List.getElem?_cons_zero, List.getElem?_cons_succ, wrap_id, h0]
    (refine fin0 trivial rfl ?_; simp -implicitDefEqProofs (disch := omega) [List.getElem?_cons_zero, List.getElem?_cons_succ, idx, wrap_id, atErr, h0])
  simp -implicitDefEqProofs (disch := omega) [List.getElem?_cons_zero, List.getElem?_cons_succ, wrap_id, h0]
  refine loopW xs.length (fun k s => s = ⟨[(15, .i k), (14, .i xs.length), (13, .p (.is xs)), (2, .ptr 0 1 0 0)], [.box (.p (G N es))]⟩ ∧ xs.all (vtx N) = (xs.drop k).all (vtx N)) (wk_norm [0] [15, 14, 13, 2] rfl rfl) ⟨rfl, rfl⟩ ?_
  rintro k s hk ⟨rfl, hI⟩
  by_cases hlt : k < xs.length
  · have hd := drop_all (vtx N) xs k hlt
    simp -implicitDefEqProofs (disch := omega) [List.getElem?_cons_zero, List.getElem?_cons_succ, wrap_id, hlt]
    refine HC_of_PC rfl (gvertex_ok N xs[k]) ?_
    cases hv : vtx N xs[k]
    · rw [hv] at hd
      simp -implicitDefEqProofs (disch := omega) [List.getElem?_cons_zero, List.getElem?_cons_succ, wrap_id]
      (refine fin0 trivial rfl ?_; simp -implicitDefEqProofs (disch := omega) [List.getElem?_cons_zero, List.getElem?_cons_succ, idx, wrap_id, atErr, atE, h0, hI, hd])
    · rw [hv] at hd
      simp -implicitDefEqProofs (disch := omega) [List.getElem?_cons_zero, List.getElem?_cons_succ, wrap_id]
      exact round_end [0] [15, 14, 13, 2] hlt rfl ⟨rfl, by rw [hI, hd]; rfl⟩
  · simp -implicitDefEqProofs (disch := omega) [List.getElem?_cons_zero, List.getElem?_cons_succ, wrap_id, hlt]
    (refine fin0 trivial rfl ?_; simp -implicitDefEqProofs (disch := omega) [List.getElem?_cons_zero, List.getElem?_cons_succ, idx, wrap_id, atErr, atE, h0, hI, List.drop_of_length_le (Nat.le_of_not_lt hlt)])
theorem val_ok (N : Int) (es : List Ed) (v : Int) (hgc : gcheck N es = 0) (hv : vtx N v = true) (hel : es.length ≤ 1000) : PC Try.prog 92 [G N es, .i v] (.tup [.i (valS es v), .i 0]) [] := by
  refine PC_of_W cfn92 ?_
  simp -implicitDefEqProofs (disch := omega) [c92, List.getElem?_cons_zero, List.getElem?_cons_succ, wrap_id]
  have hg := gcheck_ok hgc
  have hat : atErr N es [v] = 0 := by simp [atErr, hgc, atE, hv]
  refine HC_of_PC rfl (at_ok N es [v] (by omega) (by simp)) ?_
  simp -implicitDefEqProofs (disch := omega) [List.getElem?_cons_zero, List.getElem?_cons_succ, wrap_id, hat]
  refine loopW es.length (fun k s => s = ⟨[(20, .i k), (19, .i es.length), (18, .p (.sl (es.map edP))), (7, .i (valS (es.take k) v)), (1, .i v)], []⟩) (wk_norm [] [20, 19, 18, 7, 1] rfl rfl) rfl ?_
  rintro k s hk rfl
  by_cases hlt : k < es.length
  rotate_left
  · have : k = es.length := by omega
    subst this
    rw [List.take_length]
    simp -implicitDefEqProofs (disch := omega) [List.getElem?_cons_zero, List.getElem?_cons_succ, wrap_id]
    (refine fin0 trivial rfl ?_; simp -implicitDefEqProofs (disch := omega) [List.getElem?_cons_zero, List.getElem?_cons_succ, idx, wrap_id])
  have hs := valS_snoc es v k hlt
  have hb := valS_bd (n := N) (es := es.take k) (fun x hx => hg.right x (List.mem_of_mem_take hx)) v
  have hb2 := valS_bd (n := N) (es := es.take (k + 1)) (fun x hx => hg.right x (List.mem_of_mem_take hx)) v
  have hl2 : (es.take k).length ≤ 1000 := by rw [List.length_take]; omega
  have hl3 : (es.take (k + 1)).length ≤ 1000 := by rw [List.length_take]; omega
  by_cases h1 : es[k].a = es[k].b
  · have hv1 : val1 v es[k] = 0 := by simp [val1, h1]
    rw [hv1, Int.add_zero] at hs
    simp -implicitDefEqProofs (disch := omega) [List.getElem?_cons_zero, List.getElem?_cons_succ, wrap_id, hlt, h1]
    exact round_end [] [20, 19, 18, 7, 1] hlt rfl (by rw [hs]; rfl)
  by_cases h2 : es[k].a = v
  · have hv1 : val1 v es[k] = es[k].m := by simp [val1, h1, h2]; intro h; exact absurd (h2.trans h) h1
    rw [hv1] at hs
    rw [hs] at hb2
    have h1v : ¬ v = es[k].b := fun h => h1 (h2.trans h)
    simp -implicitDefEqProofs (disch := omega) [List.getElem?_cons_zero, List.getElem?_cons_succ, wrap_id, hlt, h1v, h2]
    exact round_end [] [20, 19, 18, 7, 1] hlt rfl (by rw [hs]; rfl)
  by_cases h3 : es[k].b = v
  · have hv1 : val1 v es[k] = es[k].m := by simp [val1, h1, h2, h3]
    rw [hv1] at hs
    rw [hs] at hb2
    simp -implicitDefEqProofs (disch := omega) [List.getElem?_cons_zero, List.getElem?_cons_succ, wrap_id, hlt, h1, h2, h3]
    exact round_end [] [20, 19, 18, 7, 1] hlt rfl (by rw [hs]; rfl)
  · have hv1 : val1 v es[k] = 0 := by simp [val1, h1, h2, h3]
    rw [hv1, Int.add_zero] at hs
    simp -implicitDefEqProofs (disch := omega) [List.getElem?_cons_zero, List.getElem?_cons_succ, wrap_id, hlt, h1, h2, h3]
    exact round_end [] [20, 19, 18, 7, 1] hlt rfl (by rw [hs]; rfl)
theorem given_ok' (N : Int) (es : List Ed) (d : List Int) (hel : es.length ≤ 4611686018427387904) (hd : d.length ≤ 4611686018427387904) : PC Try.prog 54 [G N es, .is d] (.i (givenE N es d)) [] := by
  refine PC_of_W cfn54 ?_
  simp -implicitDefEqProofs (disch := omega) [c54, List.getElem?_cons_zero, List.getElem?_cons_succ, wrap_id]
  refine HC_of_PC rfl (gcheck_ok' N es hel) ?_
  by_cases h0 : gcheck N es = 0
  · simp -implicitDefEqProofs (disch := omega) [List.getElem?_cons_zero, List.getElem?_cons_succ, wrap_id, h0]
    refine HC_of_PC rfl (chk_ok d N hd) ?_
    simp -implicitDefEqProofs (disch := omega) [List.getElem?_cons_zero, List.getElem?_cons_succ, wrap_id]
    (refine fin0 trivial rfl ?_; simp -implicitDefEqProofs (disch := omega) [List.getElem?_cons_zero, List.getElem?_cons_succ, idx, wrap_id, givenE, h0])
  · simp -implicitDefEqProofs (disch := omega) [List.getElem?_cons_zero, List.getElem?_cons_succ, wrap_id, h0]
    (refine fin0 trivial rfl ?_; simp -implicitDefEqProofs (disch := omega) [List.getElem?_cons_zero, List.getElem?_cons_succ, idx, wrap_id, givenE, h0])
theorem fcheck_ok (N : Int) (es : List Ed) (d : List Int) (hel : es.length ≤ 4611686018427387904) (hd : d.length ≤ 4611686018427387904) : PC Try.prog 16 [G N es, .is d] (.i (givenE N es d)) [] := by
  refine PC_of_W cfn16 ?_
  simp -implicitDefEqProofs (disch := omega) [c16, List.getElem?_cons_zero, List.getElem?_cons_succ, wrap_id]
  refine HC_of_PC rfl (given_ok' N es d hel hd) ?_
  simp -implicitDefEqProofs (disch := omega) [List.getElem?_cons_zero, List.getElem?_cons_succ, wrap_id]
  (refine fin0 trivial rfl ?_; simp -implicitDefEqProofs (disch := omega) [List.getElem?_cons_zero, List.getElem?_cons_succ, idx, wrap_id])
theorem rgiven_ok (N : Int) (es : List Ed) (d : List Int) (hel : es.length ≤ 4611686018427387904) (hd : d.length ≤ 4611686018427387904) : PC Try.prog 60 [G N es, .is d] (.i (givenE N es d)) [] := by
  refine PC_of_W cfn60 ?_
  simp -implicitDefEqProofs (disch := omega) [c60, List.getElem?_cons_zero, List.getElem?_cons_succ, wrap_id]
  refine HC_of_PC rfl (rcheck_ok N es hel) ?_
  by_cases h0 : gcheck N es = 0
  · simp -implicitDefEqProofs (disch := omega) [List.getElem?_cons_zero, List.getElem?_cons_succ, wrap_id, h0]
    refine HC_of_PC rfl (dcheck_ok d N hd) ?_
    simp -implicitDefEqProofs (disch := omega) [List.getElem?_cons_zero, List.getElem?_cons_succ, wrap_id]
    (refine fin0 trivial rfl ?_; simp -implicitDefEqProofs (disch := omega) [List.getElem?_cons_zero, List.getElem?_cons_succ, idx, wrap_id, givenE, h0])
  · simp -implicitDefEqProofs (disch := omega) [List.getElem?_cons_zero, List.getElem?_cons_succ, wrap_id, h0]
    (refine fin0 trivial rfl ?_; simp -implicitDefEqProofs (disch := omega) [List.getElem?_cons_zero, List.getElem?_cons_succ, idx, wrap_id, givenE, h0])
theorem rscheck_ok (N : Int) (es : List Ed) (d : List Int) (hel : es.length ≤ 4611686018427387904) (hd : d.length ≤ 4611686018427387904) : PC Try.prog 17 [G N es, .is d] (.i (givenE N es d)) [] := by
  refine PC_of_W cfn17 ?_
  simp -implicitDefEqProofs (disch := omega) [c17, List.getElem?_cons_zero, List.getElem?_cons_succ, wrap_id]
  refine HC_of_PC rfl (rcheck_ok N es hel) ?_
  by_cases h0 : gcheck N es = 0
  · simp -implicitDefEqProofs (disch := omega) [List.getElem?_cons_zero, List.getElem?_cons_succ, wrap_id, h0]
    refine HC_of_PC rfl (dcheck_ok d N hd) ?_
    simp -implicitDefEqProofs (disch := omega) [List.getElem?_cons_zero, List.getElem?_cons_succ, wrap_id]
    (refine fin0 trivial rfl ?_; simp -implicitDefEqProofs (disch := omega) [List.getElem?_cons_zero, List.getElem?_cons_succ, idx, wrap_id, givenE, h0])
  · simp -implicitDefEqProofs (disch := omega) [List.getElem?_cons_zero, List.getElem?_cons_succ, wrap_id, h0]
    (refine fin0 trivial rfl ?_; simp -implicitDefEqProofs (disch := omega) [List.getElem?_cons_zero, List.getElem?_cons_succ, idx, wrap_id, givenE, h0])
theorem rfew_ok (N : Int) (es : List Ed) (d : List Int) : PC Try.prog 12 [G N es, .is d] (.b (few18 N es d)) [] := by
  refine PC_of_W cfn12 ?_
  simp -implicitDefEqProofs (disch := omega) [c12, List.getElem?_cons_zero, List.getElem?_cons_succ, wrap_id]
  refine HC_of_PC rfl (few8_ok N es) ?_
  cases h : smallG N es 6 9
  · simp -implicitDefEqProofs (disch := omega) [List.getElem?_cons_zero, List.getElem?_cons_succ, wrap_id]
    (refine fin0 trivial rfl ?_; simp -implicitDefEqProofs (disch := omega) [List.getElem?_cons_zero, List.getElem?_cons_succ, idx, wrap_id, few18, h])
  · simp -implicitDefEqProofs (disch := omega) [List.getElem?_cons_zero, List.getElem?_cons_succ, wrap_id]
    refine HC_of_PC rfl (dfew_ok d) ?_
    simp -implicitDefEqProofs (disch := omega) [List.getElem?_cons_zero, List.getElem?_cons_succ, wrap_id]
    (refine fin0 trivial rfl ?_; simp -implicitDefEqProofs (disch := omega) [List.getElem?_cons_zero, List.getElem?_cons_succ, idx, wrap_id, few18, h])
theorem right_ok (d : List Int) (hd : d.length ≤ 4611686018427387904) : PC Try.prog 52 [.is d] (.tup [.p (.is (Sand.resL 0 d)), .i (resE 0 d)]) [] := by
  refine PC_of_W cfn52 ?_
  simp -implicitDefEqProofs (disch := omega) [c52, List.getElem?_cons_zero, List.getElem?_cons_succ, wrap_id]
  refine loopW d.length (fun k s => s = ⟨[(4, .i k), (0, .p (.is d))], []⟩ ∧ d.all inB = (d.drop k).all inB) (wk_norm [] [4, 0] rfl rfl) ⟨rfl, rfl⟩ ?_
  rintro k s hk ⟨rfl, hI⟩
  by_cases hlt : k < d.length
  · have hd := drop_all inB d k hlt
    simp -implicitDefEqProofs (disch := omega) [List.getElem?_cons_zero, List.getElem?_cons_succ, wrap_id, hlt]
    refine HC_of_PC rfl (in_ok _) ?_
    cases hv : inB d[k]
    · rw [hv] at hd
      simp -implicitDefEqProofs (disch := omega) [List.getElem?_cons_zero, List.getElem?_cons_succ, wrap_id]
      refine finW (Wk_nil0 2 rfl) ?_
      (refine fin0 trivial rfl ?_; simp -implicitDefEqProofs (disch := omega) [List.getElem?_cons_zero, List.getElem?_cons_succ, idx, wrap_id, Sand.resL, resE, bndE, hI, hd])
    · rw [hv] at hd
      simp -implicitDefEqProofs (disch := omega) [List.getElem?_cons_zero, List.getElem?_cons_succ, wrap_id]
      exact round_end [] [4, 0] hlt rfl ⟨rfl, by rw [hI, hd]; rfl⟩
  · simp -implicitDefEqProofs (disch := omega) [List.getElem?_cons_zero, List.getElem?_cons_succ, wrap_id, hlt]
    (refine fin0 trivial rfl ?_; simp -implicitDefEqProofs (disch := omega) [List.getElem?_cons_zero, List.getElem?_cons_succ, idx, wrap_id, Sand.resL, resE, bndE, hI, List.drop_of_length_le (Nat.le_of_not_lt hlt)])
theorem fvertex_ok (N : Int) (es : List Ed) (d : List Int) (v : Int) (hel : es.length ≤ 4611686018427387904) (hd : d.length ≤ 4611686018427387904) : PC Try.prog 58 [G N es, .is d, .i v] (.i (vtxE N es d v)) [] := by
  refine PC_of_W cfn58 ?_
  simp -implicitDefEqProofs (disch := omega) [c58, List.getElem?_cons_zero, List.getElem?_cons_succ, wrap_id]
  refine HC_of_PC rfl (given_ok' N es d hel hd) ?_
  by_cases h0 : givenE N es d = 0
  rotate_left
  · simp -implicitDefEqProofs (disch := omega) [List.getElem?_cons_zero, List.getElem?_cons_succ, wrap_id, h0]
    (refine fin0 trivial rfl ?_; simp -implicitDefEqProofs (disch := omega) [List.getElem?_cons_zero, List.getElem?_cons_succ, idx, wrap_id, vtxE, h0])
  by_cases h1 : v < 0
  · have hv : vtx N v = false := vtx_not.2 (by omega)
    simp -implicitDefEqProofs (disch := omega) [List.getElem?_cons_zero, List.getElem?_cons_succ, wrap_id, h0, h1]
    (refine fin0 trivial rfl ?_; simp -implicitDefEqProofs (disch := omega) [List.getElem?_cons_zero, List.getElem?_cons_succ, idx, wrap_id, vtxE, h0, hv])
  by_cases h2 : N ≤ v
  · have hv : vtx N v = false := vtx_not.2 (by omega)
    simp -implicitDefEqProofs (disch := omega) [List.getElem?_cons_zero, List.getElem?_cons_succ, wrap_id, h0, h1, h2]
    (refine fin0 trivial rfl ?_; simp -implicitDefEqProofs (disch := omega) [List.getElem?_cons_zero, List.getElem?_cons_succ, idx, wrap_id, vtxE, h0, hv])
  · have hv : vtx N v = true := vtx_iff.2 (by omega)
    simp -implicitDefEqProofs (disch := omega) [List.getElem?_cons_zero, List.getElem?_cons_succ, wrap_id, h0, h1, h2]
    (refine fin0 trivial rfl ?_; simp -implicitDefEqProofs (disch := omega) [List.getElem?_cons_zero, List.getElem?_cons_succ, idx, wrap_id, vtxE, h0, hv])
theorem fsubset_ok (N : Int) (es : List Ed) (d set : List Int) (hel : es.length ≤ 4611686018427387904) (hd : d.length ≤ 4611686018427387904) (hs : set.length ≤ 4611686018427387904) : PC Try.prog 63 [G N es, .is d, .is set] (.i (subE N es d set)) [] := by
  refine PC_of_W cfn63 ?_
  simp -implicitDefEqProofs (disch := omega) [c63, List.getElem?_cons_zero, List.getElem?_cons_succ, wrap_id]
  refine HC_of_PC rfl (given_ok' N es d hel hd) ?_
  by_cases h0 : givenE N es d = 0
  · simp -implicitDefEqProofs (disch := omega) [List.getElem?_cons_zero, List.getElem?_cons_succ, wrap_id, h0]
    refine HC_of_PC rfl (gsubset_ok N es set hel hs) ?_
    simp -implicitDefEqProofs (disch := omega) [List.getElem?_cons_zero, List.getElem?_cons_succ, wrap_id]
    (refine fin0 trivial rfl ?_; simp -implicitDefEqProofs (disch := omega) [List.getElem?_cons_zero, List.getElem?_cons_succ, idx, wrap_id, subE, h0, subCheck, given_gcheck h0])
  · simp -implicitDefEqProofs (disch := omega) [List.getElem?_cons_zero, List.getElem?_cons_succ, wrap_id, h0]
    (refine fin0 trivial rfl ?_; simp -implicitDefEqProofs (disch := omega) [List.getElem?_cons_zero, List.getElem?_cons_succ, idx, wrap_id, subE, h0])
end Go.Proofs.Ytjkmhjjfipnbbaa
