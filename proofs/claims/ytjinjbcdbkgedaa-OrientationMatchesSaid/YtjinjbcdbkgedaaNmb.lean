/-
  The law Ranks: orders and the orientations out of them.
-/
import Derived.Test.YtjinjbcdbkgedaaNy
import Derived.Test.YtjinjbcdbkgedaaNma
set_option linter.unusedSimpArgs false
set_option linter.unusedVariables false
namespace Go.Proofs.Ytjinjbcdbkgedaa
open Go.Abs Go.Sand

theorem rocheck_any (N : Int) (es : List Ed) (o : List Bool) (hel : es.length ≤ 1000) : PC Try.prog 33 [G N es, .bo o] (.i (oE N es o)) [] := by
  refine PC_of_W cfn33 ?_
  simp -implicitDefEqProofs (disch := omega) [c33, List.getElem?_cons_zero, List.getElem?_cons_succ, wrap_id]
  refine HC_of_PC rfl (rcheck_ok N es (by omega)) ?_
  by_cases h : gcheck N es = 0
  · have hgood := gcheck_ok h
    simp -implicitDefEqProofs (disch := omega) [List.getElem?_cons_zero, List.getElem?_cons_succ, wrap_id, h]
    refine HC_of_PC rfl (size_ok N es hgood.right hel) ?_
    by_cases h2 : o.length = (endsL es).length
    · have h2' : (o.length : Int) = (endsL es).length := by omega
      simp -implicitDefEqProofs (disch := omega) [List.getElem?_cons_zero, List.getElem?_cons_succ, wrap_id, h2']
      (refine fin0 trivial rfl ?_; simp -implicitDefEqProofs (disch := omega) [List.getElem?_cons_zero, List.getElem?_cons_succ, idx, wrap_id, oE, h, h2])
    · have h2' : ¬ (o.length : Int) = (endsL es).length := by omega
      simp -implicitDefEqProofs (disch := omega) [List.getElem?_cons_zero, List.getElem?_cons_succ, wrap_id, h2']
      (refine fin0 trivial rfl ?_; simp -implicitDefEqProofs (disch := omega) [List.getElem?_cons_zero, List.getElem?_cons_succ, idx, wrap_id, oE, h, h2])
  · simp -implicitDefEqProofs (disch := omega) [List.getElem?_cons_zero, List.getElem?_cons_succ, wrap_id, h]
    (refine fin0 trivial rfl ?_; simp -implicitDefEqProofs (disch := omega) [List.getElem?_cons_zero, List.getElem?_cons_succ, idx, wrap_id, oE, h])
def rightB (N : Int) (es : List Ed) (o : List Bool) : Bool := smallG N es 6 9 && decide (oE N es o = 0)
theorem right14_ok (N : Int) (es : List Ed) (o : List Bool) : PC Try.prog 23 [G N es, .bo o] (.b (rightB N es o)) [] := by
  refine PC_of_W cfn23 ?_
  simp -implicitDefEqProofs (disch := omega) [c23, List.getElem?_cons_zero, List.getElem?_cons_succ, wrap_id]
  refine HC_of_PC rfl (few8_ok N es) ?_
  cases hf : smallG N es 6 9
  · simp -implicitDefEqProofs (disch := omega) [List.getElem?_cons_zero, List.getElem?_cons_succ, wrap_id]
    (refine fin0 trivial rfl ?_; simp -implicitDefEqProofs (disch := omega) [List.getElem?_cons_zero, List.getElem?_cons_succ, idx, wrap_id, rightB, hf])
  have hel := small_len14 hf (by decide)
  simp -implicitDefEqProofs (disch := omega) [List.getElem?_cons_zero, List.getElem?_cons_succ, wrap_id]
  refine HC_of_PC rfl (rocheck_any N es o hel) ?_
  simp -implicitDefEqProofs (disch := omega) [List.getElem?_cons_zero, List.getElem?_cons_succ, wrap_id]
  (refine fin0 trivial rfl ?_; simp -implicitDefEqProofs (disch := omega) [List.getElem?_cons_zero, List.getElem?_cons_succ, idx, wrap_id, rightB, hf])
theorem right_ok {N : Int} {es : List Ed} {o : List Bool} (h : rightB N es o = true) : ∃ n : Nat, N = n ∧ oE n es o = 0 ∧ es.length ≤ 1000 ∧ o.length ≤ 9 ∧ 1 ≤ n ∧ n ≤ 6 := by
  simp only [rightB, Bool.and_eq_true, decide_eq_true_eq] at h
  obtain ⟨hs, ho⟩ := h
  have hel := small_len14 hs (by decide)
  obtain ⟨n, rfl⟩ := oE_nat ho
  obtain ⟨hg, hl⟩ := oE_ok ho
  have := (gcheck_ok hg).n1
  simp only [smallG, Bool.and_eq_true, Bool.or_eq_true, decide_eq_true_eq] at hs
  rcases hs.2 with h2 | h2
  · exact absurd hg h2
  · exact ⟨n, rfl, ho, hel, by omega, by omega, by omega⟩
theorem renaming_ne (N : Int) (order : List Int) (h : (order.length : Int) ≠ N) : PC Try.prog 51 [.i N, .is order] (.i (renE N order)) [] := by
  refine PC_of_W cfn51 ?_
  simp -implicitDefEqProofs (disch := omega) [c51, List.getElem?_cons_zero, List.getElem?_cons_succ, wrap_id]
  simp -implicitDefEqProofs (disch := omega) [List.getElem?_cons_zero, List.getElem?_cons_succ, wrap_id, h]
  (refine fin0 trivial rfl ?_; simp -implicitDefEqProofs (disch := omega) [List.getElem?_cons_zero, List.getElem?_cons_succ, idx, wrap_id, renE, h])
theorem loop1_ok (x : Ed) : PC Try.prog 53 [edP x] (.b (loopB x)) [] := by
  refine PC_of_W cfn53 ?_
  simp -implicitDefEqProofs (disch := omega) [c53, List.getElem?_cons_zero, List.getElem?_cons_succ, wrap_id]
  (refine fin0 trivial rfl ?_; simp -implicitDefEqProofs (disch := omega) [List.getElem?_cons_zero, List.getElem?_cons_succ, idx, wrap_id, loopB])
section
variable {f : FuncId} {H : List AO} {p : Ed → Bool} {R : AV → List AO → Prop}
theorem idxfE_ok (xs : List Ed) (hx : xs.length ≤ 4611686018427387904) (hc : callable Try.prog f = true) (hf : ∀ q K, K (.b (p q)) H → HC Try.prog false f [.p (edP q)] H K) (hR : ∀ i : Int, (0 ≤ i ↔ xs.any p = true) → R (.i i) H) :
    HC Try.prog false 89 [.p (.sl (xs.map edP)), .fn (.func f) [] []] H R := by
  refine HC_of_W (af := _) ((by exact cfn89 : cfn _ _ _ = some _)) ?_
  simp -implicitDefEqProofs (disch := omega) [c89, List.getElem?_cons_zero, List.getElem?_cons_succ, wrap_id]
  refine loopW xs.length (fun k s => s = ⟨[(8, .i k), (7, .i xs.length), (0, .p (.sl (xs.map edP))), (1, .fn (.func f) [] [])], H⟩ ∧ xs.any p = (xs.drop k).any p) (Wk_keep [8, 7, 0, 1]) ⟨rfl, rfl⟩ ?_
  rintro k s hk ⟨rfl, hI⟩
  by_cases hlt : k < xs.length
  · have hd : (xs.drop k).any p = (p xs[k] || (xs.drop (k + 1)).any p) := by rw [List.drop_eq_getElem_cons hlt, List.any_cons]
    simp -implicitDefEqProofs (disch := omega) [List.getElem?_cons_zero, List.getElem?_cons_succ, wrap_id, hlt]
    refine ⟨hc, ?_⟩
    refine hf _ _ ?_
    cases hv : p xs[k]
    · rw [hv] at hd
      simp -implicitDefEqProofs (disch := omega) [List.getElem?_cons_zero, List.getElem?_cons_succ, wrap_id]
      exact round_keep [8, 7, 0, 1] hlt ⟨rfl, by rw [hI, hd]; rfl⟩
    · rw [hv] at hd
      simp -implicitDefEqProofs (disch := omega) [List.getElem?_cons_zero, List.getElem?_cons_succ, wrap_id]
      exact finH trivial rfl (hR _ (by rw [hI, hd]; simp))
  · simp -implicitDefEqProofs (disch := omega) [List.getElem?_cons_zero, List.getElem?_cons_succ, wrap_id, hlt]
    exact finH trivial rfl (hR _ (by rw [hI, List.drop_of_length_le (Nat.le_of_not_lt hlt)]; simp))
theorem hasfE_ok (xs : List Ed) (hx : xs.length ≤ 4611686018427387904) (hc : callable Try.prog f = true) (hf : ∀ q K, K (.b (p q)) H → HC Try.prog false f [.p (edP q)] H K) (hR : R (.b (xs.any p)) H) :
    HC Try.prog false 52 [.p (.sl (xs.map edP)), .fn (.func f) [] []] H R := by
  refine HC_of_W (af := _) ((by exact cfn52 : cfn _ _ _ = some _)) ?_
  simp -implicitDefEqProofs (disch := omega) [c52, List.getElem?_cons_zero, List.getElem?_cons_succ, wrap_id]
  refine idxfE_ok xs hx hc hf fun i hi => ?_
  by_cases h : 0 ≤ i
  · have hxs := hi.1 h
    rw [hxs] at hR
    simp -implicitDefEqProofs (disch := omega) [List.getElem?_cons_zero, List.getElem?_cons_succ, wrap_id, h]
    exact finH trivial rfl hR
  · have hxs : xs.any p = false := by
      cases hv : xs.any p
      · rfl
      · exact absurd (hi.2 hv) h
    rw [hxs] at hR
    simp -implicitDefEqProofs (disch := omega) [List.getElem?_cons_zero, List.getElem?_cons_succ, wrap_id, h]
    exact finH trivial rfl hR
end
end Go.Proofs.Ytjinjbcdbkgedaa
