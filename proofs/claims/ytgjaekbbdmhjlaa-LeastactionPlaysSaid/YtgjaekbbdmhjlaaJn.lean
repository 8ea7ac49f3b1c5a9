/-
  Contracts: the examples of the chapter; the laws Settles, Witnesses, Falls, Orders, Meets.
-/
import Derived.Test.YtgjaekbbdmhjlaaJm
set_option linter.unusedSimpArgs false
set_option linter.unusedVariables false
namespace Go.Proofs.Ytgjaekbbdmhjlaa
open Go.Abs Go.Sand

def tri22 : List Ed := [⟨0, 1, 1⟩, ⟨0, 2, 1⟩, ⟨1, 2, 1⟩]
theorem tri22_ok : PC Try.prog 39 [] (.agg [.p (.i 3), .p (.sl (tri22.map edP))]) [] := by
  refine PC_of_W cfn39 ?_
  simp -implicitDefEqProofs (disch := omega) [c39, List.getElem?_cons_zero, List.getElem?_cons_succ, wrap_id]
  refine fin0 trivial rfl rfl
theorem PC_is22 {f : FuncId} {ps : List PV} {r r' : AV} {HR : List AO} (h : PC Try.prog f ps r HR) (e : r = r') : PC Try.prog f ps r' HR := e ▸ h
theorem same22_ok (a b : List Int) (ha : a.length ≤ 1000) : PC Try.prog 25 [.is a, .is b] (.b (decide (a = b))) [] := by
  refine PC_of_W cfn25 ?_
  simp -implicitDefEqProofs (disch := omega) [c25, List.getElem?_cons_zero, List.getElem?_cons_succ, wrap_id]
  refine HC_of_PC rfl (same_ok a b (by omega)) ?_
  simp -implicitDefEqProofs (disch := omega) [List.getElem?_cons_zero, List.getElem?_cons_succ, wrap_id]
  (refine fin0 trivial rfl ?_; simp -implicitDefEqProofs (disch := omega) [List.getElem?_cons_zero, List.getElem?_cons_succ, idx, wrap_id])
theorem equal22_refl (xs : List Int) (hx : xs.length ≤ 4611686018427387904) : PC Try.prog 19 [.is xs, .is xs] (.b true) [] := by
  refine PC_of_W cfn19 ?_
  simp -implicitDefEqProofs (disch := omega) [c19, List.getElem?_cons_zero, List.getElem?_cons_succ, wrap_id]
  refine loopW xs.length (fun k s => s = ⟨[(13, .i k), (12, .i xs.length), (0, .p (.is xs)), (1, .p (.is xs))], []⟩) (wk_norm [] [13, 12, 0, 1] rfl rfl) rfl ?_
  rintro k s hk rfl
  by_cases hlt : k < xs.length
  · simp -implicitDefEqProofs (disch := omega) [List.getElem?_cons_zero, List.getElem?_cons_succ, wrap_id, hlt]
    exact round_end [] [13, 12, 0, 1] hlt rfl rfl
  · simp -implicitDefEqProofs (disch := omega) [List.getElem?_cons_zero, List.getElem?_cons_succ, wrap_id, hlt]
    (refine fin0 trivial rfl ?_; simp -implicitDefEqProofs (disch := omega) [List.getElem?_cons_zero, List.getElem?_cons_succ, idx, wrap_id])
theorem a22_1 : PC Try.prog 14 [G 3 tri22, .i 0, .is [0, 2, 1], .is [0, 2, 2]] (.tup [.b true, .i 0]) [] := PC_is22 (stabilizing_ok 3 tri22 0 [0, 2, 1] [0, 2, 2] (by decide) (by decide) (by decide)) (by kernel_rfl)
theorem a22_2 : PC Try.prog 14 [G 3 tri22, .i 0, .is [0, 2, 1], .is [0, 1, 0]] (.tup [.b false, .i 0]) [] := PC_is22 (stabilizing_ok 3 tri22 0 [0, 2, 1] [0, 1, 0] (by decide) (by decide) (by decide)) (by kernel_rfl)
theorem a22_3 : PC Try.prog 17 [G 3 tri22, .i 0, .is [0, 2, 1], .is [0, 2, 2]] (.tup [.p (.is [1, 2]), .i 0]) [] := PC_is22 (witness_ok 3 tri22 0 [0, 2, 1] [0, 2, 2] (by decide) (by decide) (by decide)) (by kernel_rfl)
theorem a22_4 : PC Try.prog 20 [G 3 tri22, .i 0, .is [0, 2, 1], .is [0, 1, 1]] (.i 0) [] := PC_is22 (verify_ok 3 tri22 0 [0, 2, 1] [0, 1, 1] (by decide) (by decide) (by decide)) (by kernel_rfl)
theorem a22_5 : PC Try.prog 20 [G 3 tri22, .i 0, .is [0, 2, 1], .is [0, 2, 2]] (.i 16) [] := PC_is22 (verify_ok 3 tri22 0 [0, 2, 1] [0, 2, 2] (by decide) (by decide) (by decide)) (by kernel_rfl)
theorem a22_6 : PC Try.prog 26 [G 3 tri22, .i 0, .is [0, 2, 1], .is [0, 1, 1]] (.tup [.p (.is [1, 2]), .b true, .i 0]) [] := PC_is22 (legal22_ok 3 tri22 0 [0, 2, 1] [0, 1, 1] (by decide) (by decide) (by decide)) (by kernel_rfl)
theorem a22_7 : PC Try.prog 26 [G 3 tri22, .i 0, .is [0, 2, 1], .is [0, 0, 1]] (.tup [.p (.is []), .b false, .i 0]) [] := PC_is22 (legal22_ok 3 tri22 0 [0, 2, 1] [0, 0, 1] (by decide) (by decide) (by decide)) (by kernel_rfl)
theorem a22_8 : PC Try.prog 23 [G 3 tri22, .i 0, .is [0, 2, 1], .is [0, 3, 2]] (.tup [.p (.is [0, 1, 1]), .i 2, .i 0]) [] := PC_is22 (descend_ok 3 tri22 0 [0, 2, 1] [0, 3, 2] (by decide) (by decide) (by decide)) (by kernel_rfl)
theorem a22_9 : PC Try.prog 28 [G 3 tri22, .is [0, 2, 1], .is [5, 1, 1]] (.tup [.p (.is [0, 1, 1]), .i 0]) [] := PC_is22 (meet_ok 3 tri22 [0, 2, 1] [5, 1, 1] (by decide) (by decide) (by decide)) (by kernel_rfl)
set_option maxRecDepth 10000 in
theorem awake22_ok : PC Try.prog 13 [] (.b true) [] := by
  refine PC_of_W cfn13 ?_
  simp -implicitDefEqProofs (disch := omega) [c13, List.getElem?_cons_zero, List.getElem?_cons_succ, wrap_id]
  refine HC_of_PC rfl (tri22_ok) ?_
  simp -implicitDefEqProofs (disch := omega) [List.getElem?_cons_zero, List.getElem?_cons_succ, wrap_id]
  refine HC_of_PC rfl (a22_1) ?_
  simp -implicitDefEqProofs (disch := omega) [List.getElem?_cons_zero, List.getElem?_cons_succ, wrap_id]
  refine HC_of_PC rfl (a22_2) ?_
  simp -implicitDefEqProofs (disch := omega) [List.getElem?_cons_zero, List.getElem?_cons_succ, wrap_id]
  refine HC_of_PC rfl (a22_3) ?_
  simp -implicitDefEqProofs (disch := omega) [List.getElem?_cons_zero, List.getElem?_cons_succ, wrap_id]
  refine HC_of_PC rfl (equal22_refl [1, 2] (by decide)) ?_
  simp -implicitDefEqProofs (disch := omega) [List.getElem?_cons_zero, List.getElem?_cons_succ, wrap_id]
  refine HC_of_PC rfl (a22_4) ?_
  simp -implicitDefEqProofs (disch := omega) [List.getElem?_cons_zero, List.getElem?_cons_succ, wrap_id]
  refine HC_of_PC rfl (a22_5) ?_
  simp -implicitDefEqProofs (disch := omega) [List.getElem?_cons_zero, List.getElem?_cons_succ, wrap_id]
  refine HC_of_PC rfl (a22_6) ?_
  simp -implicitDefEqProofs (disch := omega) [List.getElem?_cons_zero, List.getElem?_cons_succ, wrap_id]
  refine HC_of_PC rfl (a22_7) ?_
  simp -implicitDefEqProofs (disch := omega) [List.getElem?_cons_zero, List.getElem?_cons_succ, wrap_id]
  refine HC_of_PC rfl (a22_8) ?_
  simp -implicitDefEqProofs (disch := omega) [List.getElem?_cons_zero, List.getElem?_cons_succ, wrap_id]
  refine HC_of_PC rfl (a22_9) ?_
  simp -implicitDefEqProofs (disch := omega) [List.getElem?_cons_zero, List.getElem?_cons_succ, wrap_id]
  refine HC_of_PC rfl (equal22_refl [1, 2] (by decide)) ?_
  simp -implicitDefEqProofs (disch := omega) [List.getElem?_cons_zero, List.getElem?_cons_succ, wrap_id]
  refine HC_of_PC rfl (same22_ok [0, 1, 1] [0, 1, 1] (by decide)) ?_
  simp -implicitDefEqProofs (disch := omega) [List.getElem?_cons_zero, List.getElem?_cons_succ, wrap_id]
  refine HC_of_PC rfl (same22_ok [0, 1, 1] [0, 1, 1] (by decide)) ?_
  simp -implicitDefEqProofs (disch := omega) [List.getElem?_cons_zero, List.getElem?_cons_succ, wrap_id]
  (refine fin0 trivial rfl ?_; simp -implicitDefEqProofs (disch := omega) [List.getElem?_cons_zero, List.getElem?_cons_succ, idx, wrap_id])
theorem few22_len {N : Int} {es : List Ed} {d : List Int} (h : few18 N es d = true) : es.length ≤ 900 ∧ d.length ≤ 1000 := by
  simp only [few18, smallG, Bool.and_eq_true, decide_eq_true_eq] at h
  have h1 := h.1.1
  have h2 := h.2
  exact ⟨by omega, by omega⟩
theorem settles_law (N : Int) (es : List Ed) (q : Int) (d s : List Int) : PC Try.prog 3 [G N es, .is d, .agg [.i q, .is s]] (.b true) [] := by
  refine PC_of_W cfn3 ?_
  simp -implicitDefEqProofs (disch := omega) [c3, List.getElem?_cons_zero, List.getElem?_cons_succ, wrap_id]
  refine HC_of_PC rfl (rfew_ok N es d) ?_
  cases hf : few18 N es d
  · simp -implicitDefEqProofs (disch := omega) [List.getElem?_cons_zero, List.getElem?_cons_succ, wrap_id]
    refine HC_of_PC rfl (awake22_ok) ?_
    simp -implicitDefEqProofs (disch := omega) [List.getElem?_cons_zero, List.getElem?_cons_succ, wrap_id]
    (refine fin0 trivial rfl ?_; simp -implicitDefEqProofs (disch := omega) [List.getElem?_cons_zero, List.getElem?_cons_succ, idx, wrap_id])
  obtain ⟨he, hd⟩ := few22_len hf
  simp -implicitDefEqProofs (disch := omega) [List.getElem?_cons_zero, List.getElem?_cons_succ, wrap_id]
  refine HC_of_PC rfl (dfew_ok s) ?_
  by_cases hs : s.length ≤ 24
  rotate_left
  · simp -implicitDefEqProofs (disch := omega) [List.getElem?_cons_zero, List.getElem?_cons_succ, wrap_id, hs]
    refine HC_of_PC rfl (awake22_ok) ?_
    simp -implicitDefEqProofs (disch := omega) [List.getElem?_cons_zero, List.getElem?_cons_succ, wrap_id]
    (refine fin0 trivial rfl ?_; simp -implicitDefEqProofs (disch := omega) [List.getElem?_cons_zero, List.getElem?_cons_succ, idx, wrap_id])
  simp -implicitDefEqProofs (disch := omega) [List.getElem?_cons_zero, List.getElem?_cons_succ, wrap_id, hs]
  refine HC_of_PC rfl (stabilizing_ok N es q d s he hd (by omega)) ?_
  simp -implicitDefEqProofs (disch := omega) [List.getElem?_cons_zero, List.getElem?_cons_succ, wrap_id]
  refine HC_of_PC rfl (rstabilizing_ok N es q d s he hd (by omega)) ?_
  simp -implicitDefEqProofs (disch := omega) [List.getElem?_cons_zero, List.getElem?_cons_succ, wrap_id]
  refine HC_of_PC rfl (awake22_ok) ?_
  simp -implicitDefEqProofs (disch := omega) [List.getElem?_cons_zero, List.getElem?_cons_succ, wrap_id]
  (refine fin0 trivial rfl ?_; simp -implicitDefEqProofs (disch := omega) [List.getElem?_cons_zero, List.getElem?_cons_succ, idx, wrap_id])
theorem wtL_len (N : Int) (es : List Ed) (q : Int) (d s : List Int) : (wtL N es q d s).length ≤ 12 := by
  unfold wtL
  split
  · exact memK_len _ _
  · simp
theorem witnesses_law (N : Int) (es : List Ed) (q : Int) (d s : List Int) : PC Try.prog 4 [G N es, .is d, .agg [.i q, .is s]] (.b true) [] := by
  have hwl := wtL_len N es q d s
  refine PC_of_W cfn4 ?_
  simp -implicitDefEqProofs (disch := omega) [c4, List.getElem?_cons_zero, List.getElem?_cons_succ, wrap_id]
  refine HC_of_PC rfl (rfew_ok N es d) ?_
  cases hf : few18 N es d
  · simp -implicitDefEqProofs (disch := omega) [List.getElem?_cons_zero, List.getElem?_cons_succ, wrap_id]
    refine HC_of_PC rfl (awake22_ok) ?_
    simp -implicitDefEqProofs (disch := omega) [List.getElem?_cons_zero, List.getElem?_cons_succ, wrap_id]
    (refine fin0 trivial rfl ?_; simp -implicitDefEqProofs (disch := omega) [List.getElem?_cons_zero, List.getElem?_cons_succ, idx, wrap_id])
  obtain ⟨he, hd⟩ := few22_len hf
  simp -implicitDefEqProofs (disch := omega) [List.getElem?_cons_zero, List.getElem?_cons_succ, wrap_id]
  refine HC_of_PC rfl (dfew_ok s) ?_
  by_cases hs : s.length ≤ 24
  rotate_left
  · simp -implicitDefEqProofs (disch := omega) [List.getElem?_cons_zero, List.getElem?_cons_succ, wrap_id, hs]
    refine HC_of_PC rfl (awake22_ok) ?_
    simp -implicitDefEqProofs (disch := omega) [List.getElem?_cons_zero, List.getElem?_cons_succ, wrap_id]
    (refine fin0 trivial rfl ?_; simp -implicitDefEqProofs (disch := omega) [List.getElem?_cons_zero, List.getElem?_cons_succ, idx, wrap_id])
  by_cases h6 : 6 < N
  · simp -implicitDefEqProofs (disch := omega) [List.getElem?_cons_zero, List.getElem?_cons_succ, wrap_id, hs, h6]
    refine HC_of_PC rfl (rgiven22_ok N es q d s he hd (by omega)) ?_
    by_cases h0 : gvE N es q d s = 0
    · simp -implicitDefEqProofs (disch := omega) [List.getElem?_cons_zero, List.getElem?_cons_succ, wrap_id, h0]
      refine HC_of_PC rfl (awake22_ok) ?_
      simp -implicitDefEqProofs (disch := omega) [List.getElem?_cons_zero, List.getElem?_cons_succ, wrap_id]
      (refine fin0 trivial rfl ?_; simp -implicitDefEqProofs (disch := omega) [List.getElem?_cons_zero, List.getElem?_cons_succ, idx, wrap_id])
    · simp -implicitDefEqProofs (disch := omega) [List.getElem?_cons_zero, List.getElem?_cons_succ, wrap_id, h0]
      refine HC_of_PC rfl (witness_ok N es q d s he hd (by omega)) ?_
      simp -implicitDefEqProofs (disch := omega) [List.getElem?_cons_zero, List.getElem?_cons_succ, wrap_id]
      refine HC_of_PC rfl (rwitness_ok N es q d s he hd (by omega)) ?_
      simp -implicitDefEqProofs (disch := omega) [List.getElem?_cons_zero, List.getElem?_cons_succ, wrap_id]
      refine HC_of_PC rfl (equal22_refl (wtL N es q d s) (by omega)) ?_
      simp -implicitDefEqProofs (disch := omega) [List.getElem?_cons_zero, List.getElem?_cons_succ, wrap_id]
      refine HC_of_PC rfl (verify_ok N es q d s he hd (by omega)) ?_
      simp -implicitDefEqProofs (disch := omega) [List.getElem?_cons_zero, List.getElem?_cons_succ, wrap_id]
      refine HC_of_PC rfl (rverify_ok N es q d s he hd (by omega)) ?_
      simp -implicitDefEqProofs (disch := omega) [List.getElem?_cons_zero, List.getElem?_cons_succ, wrap_id]
      refine HC_of_PC rfl (awake22_ok) ?_
      simp -implicitDefEqProofs (disch := omega) [List.getElem?_cons_zero, List.getElem?_cons_succ, wrap_id]
      (refine fin0 trivial rfl ?_; simp -implicitDefEqProofs (disch := omega) [List.getElem?_cons_zero, List.getElem?_cons_succ, idx, wrap_id])
  · simp -implicitDefEqProofs (disch := omega) [List.getElem?_cons_zero, List.getElem?_cons_succ, wrap_id, hs, h6]
    refine HC_of_PC rfl (witness_ok N es q d s he hd (by omega)) ?_
    simp -implicitDefEqProofs (disch := omega) [List.getElem?_cons_zero, List.getElem?_cons_succ, wrap_id]
    refine HC_of_PC rfl (rwitness_ok N es q d s he hd (by omega)) ?_
    simp -implicitDefEqProofs (disch := omega) [List.getElem?_cons_zero, List.getElem?_cons_succ, wrap_id]
    refine HC_of_PC rfl (equal22_refl (wtL N es q d s) (by omega)) ?_
    simp -implicitDefEqProofs (disch := omega) [List.getElem?_cons_zero, List.getElem?_cons_succ, wrap_id]
    refine HC_of_PC rfl (verify_ok N es q d s he hd (by omega)) ?_
    simp -implicitDefEqProofs (disch := omega) [List.getElem?_cons_zero, List.getElem?_cons_succ, wrap_id]
    refine HC_of_PC rfl (rverify_ok N es q d s he hd (by omega)) ?_
    simp -implicitDefEqProofs (disch := omega) [List.getElem?_cons_zero, List.getElem?_cons_succ, wrap_id]
    refine HC_of_PC rfl (awake22_ok) ?_
    simp -implicitDefEqProofs (disch := omega) [List.getElem?_cons_zero, List.getElem?_cons_succ, wrap_id]
    (refine fin0 trivial rfl ?_; simp -implicitDefEqProofs (disch := omega) [List.getElem?_cons_zero, List.getElem?_cons_succ, idx, wrap_id])
def few22 (N : Int) (es : List Ed) (q : Int) (d s : List Int) : Bool := few18 N es d && decide (s.length ≤ 24) && (decide (gvE N es q d s ≠ 0) || (d.all in60 && s.all in60))
theorem few22_ok (N : Int) (es : List Ed) (q : Int) (d s : List Int) : PC Try.prog 22 [G N es, .i q, .is d, .is s] (.b (few22 N es q d s)) [] := by
  refine PC_of_W cfn22 ?_
  simp -implicitDefEqProofs (disch := omega) [c22, List.getElem?_cons_zero, List.getElem?_cons_succ, wrap_id]
  refine HC_of_PC rfl (rfew_ok N es d) ?_
  cases hf : few18 N es d
  · simp -implicitDefEqProofs (disch := omega) [List.getElem?_cons_zero, List.getElem?_cons_succ, wrap_id]
    (refine fin0 trivial rfl ?_; simp -implicitDefEqProofs (disch := omega) [List.getElem?_cons_zero, List.getElem?_cons_succ, idx, wrap_id, few22, hf])
  obtain ⟨he, hd⟩ := few22_len hf
  simp -implicitDefEqProofs (disch := omega) [List.getElem?_cons_zero, List.getElem?_cons_succ, wrap_id]
  refine HC_of_PC rfl (dfew_ok s) ?_
  by_cases hs : s.length ≤ 24
  rotate_left
  · simp -implicitDefEqProofs (disch := omega) [List.getElem?_cons_zero, List.getElem?_cons_succ, wrap_id, hs]
    (refine fin0 trivial rfl ?_; simp -implicitDefEqProofs (disch := omega) [List.getElem?_cons_zero, List.getElem?_cons_succ, idx, wrap_id, few22, hf, hs])
  simp -implicitDefEqProofs (disch := omega) [List.getElem?_cons_zero, List.getElem?_cons_succ, wrap_id, hs]
  refine HC_of_PC rfl (rgiven22_ok N es q d s he hd (by omega)) ?_
  by_cases h0 : gvE N es q d s = 0
  rotate_left
  · simp -implicitDefEqProofs (disch := omega) [List.getElem?_cons_zero, List.getElem?_cons_succ, wrap_id, h0]
    (refine fin0 trivial rfl ?_; simp -implicitDefEqProofs (disch := omega) [List.getElem?_cons_zero, List.getElem?_cons_succ, idx, wrap_id, few22, hf, hs, h0])
  simp -implicitDefEqProofs (disch := omega) [List.getElem?_cons_zero, List.getElem?_cons_succ, wrap_id, h0]
  refine HC_of_PC rfl (dsmall_ok d (by omega)) ?_
  cases h1 : d.all in60
  · simp -implicitDefEqProofs (disch := omega) [List.getElem?_cons_zero, List.getElem?_cons_succ, wrap_id]
    (refine fin0 trivial rfl ?_; simp -implicitDefEqProofs (disch := omega) [List.getElem?_cons_zero, List.getElem?_cons_succ, idx, wrap_id, few22, hf, hs, h0, h1])
  simp -implicitDefEqProofs (disch := omega) [List.getElem?_cons_zero, List.getElem?_cons_succ, wrap_id]
  refine HC_of_PC rfl (dsmall_ok s (by omega)) ?_
  simp -implicitDefEqProofs (disch := omega) [List.getElem?_cons_zero, List.getElem?_cons_succ, wrap_id]
  (refine fin0 trivial rfl ?_; simp -implicitDefEqProofs (disch := omega) [List.getElem?_cons_zero, List.getElem?_cons_succ, idx, wrap_id, few22, hf, hs, h0, h1])
theorem few22_at {N : Int} {es : List Ed} {q : Int} {d s : List Int} (h : few22 N es q d s = true) : es.length ≤ 900 ∧ d.length ≤ 1000 ∧ s.length ≤ 24 := by
  simp only [few22, Bool.and_eq_true, decide_eq_true_eq] at h
  obtain ⟨h1, h2⟩ := few22_len h.1.1
  exact ⟨h1, h2, h.1.2⟩
theorem desF_len {n : Nat} {es : List Ed} {d : List Int} : ∀ (m : Nat) (s : List Int) (k : Nat), s.length ≤ 1000 → n ≤ 12 → (desF n es d m s k).1.length ≤ 1000
  | 0, s, k, h, _ => h
  | m + 1, s, k, h, hn => by
    rw [desF_succ]
    split
    · exact h
    · split
      · simp
      · exact desF_len m _ _ (by rw [lessB_len]; omega) hn
theorem desR_len (N : Int) (es : List Ed) (q : Int) (d s : List Int) (hs : s.length ≤ 1000) : (desR N es q d s).1.length ≤ 1000 := by
  unfold desR
  split
  · simp
  · rename_i h
    obtain ⟨n, rfl, h2, -, -⟩ := settledR_ok (Decidable.not_not.1 h)
    have := h2.st.n12
    rw [Int.toNat_natCast]
    exact desF_len _ _ _ hs this
theorem falls22_law (N : Int) (es : List Ed) (q : Int) (d s : List Int) : PC Try.prog 5 [G N es, .is d, .agg [.i q, .is s]] (.b true) [] := by
  refine PC_of_W cfn5 ?_
  simp -implicitDefEqProofs (disch := omega) [c5, List.getElem?_cons_zero, List.getElem?_cons_succ, wrap_id]
  refine HC_of_PC rfl (few22_ok N es q d s) ?_
  cases hf : few22 N es q d s
  · simp -implicitDefEqProofs (disch := omega) [List.getElem?_cons_zero, List.getElem?_cons_succ, wrap_id]
    refine HC_of_PC rfl (awake22_ok) ?_
    simp -implicitDefEqProofs (disch := omega) [List.getElem?_cons_zero, List.getElem?_cons_succ, wrap_id]
    (refine fin0 trivial rfl ?_; simp -implicitDefEqProofs (disch := omega) [List.getElem?_cons_zero, List.getElem?_cons_succ, idx, wrap_id])
  obtain ⟨he, hd, hs⟩ := few22_at hf
  simp -implicitDefEqProofs (disch := omega) [List.getElem?_cons_zero, List.getElem?_cons_succ, wrap_id]
  refine HC_of_PC rfl (descend_ok N es q d s he hd (by omega)) ?_
  simp -implicitDefEqProofs (disch := omega) [List.getElem?_cons_zero, List.getElem?_cons_succ, wrap_id]
  refine HC_of_PC rfl (rdescend_ok N es q d s he hd (by omega)) ?_
  simp -implicitDefEqProofs (disch := omega) [List.getElem?_cons_zero, List.getElem?_cons_succ, wrap_id]
  refine HC_of_PC rfl (same22_ok (desR N es q d s).1 (desR N es q d s).1 (desR_len N es q d s (by omega))) ?_
  simp -implicitDefEqProofs (disch := omega) [List.getElem?_cons_zero, List.getElem?_cons_succ, wrap_id]
  refine HC_of_PC rfl (awake22_ok) ?_
  simp -implicitDefEqProofs (disch := omega) [List.getElem?_cons_zero, List.getElem?_cons_succ, wrap_id]
  (refine fin0 trivial rfl ?_; simp -implicitDefEqProofs (disch := omega) [List.getElem?_cons_zero, List.getElem?_cons_succ, idx, wrap_id])
theorem lgR_len (N : Int) (es : List Ed) (q : Int) (d s : List Int) : (lgR N es q d s).1.length ≤ 4096 := by
  unfold lgR
  split
  · rename_i h
    have hT : (sumI s).toNat ≤ 4096 := by
      unfold lgE at h
      split at h
      · rename_i h1; exact absurd h h1
      · split at h
        · cases h
        · split at h
          · cases h
          · omega
    unfold ordR
    split
    · rename_i h2
      dsimp only
      omega
    · simp
  · simp
theorem mtL_len (N : Int) (es : List Ed) (s t : List Int) : (mtL N es s t).length ≤ 1000 := by
  unfold mtL
  split
  · rename_i h
    unfold mtE at h
    split at h
    · rename_i h1; exact absurd h h1
    · obtain ⟨n, rfl, hg, -⟩ := given_ok h
      have := hg.n12
      rw [minTo_len, Int.toNat_natCast]
      omega
  · simp
theorem orders_law (N : Int) (es : List Ed) (q : Int) (d s : List Int) : PC Try.prog 6 [G N es, .is d, .agg [.i q, .is s]] (.b true) [] := by
  refine PC_of_W cfn6 ?_
  simp -implicitDefEqProofs (disch := omega) [c6, List.getElem?_cons_zero, List.getElem?_cons_succ, wrap_id]
  refine HC_of_PC rfl (few22_ok N es q d s) ?_
  cases hf : few22 N es q d s
  · simp -implicitDefEqProofs (disch := omega) [List.getElem?_cons_zero, List.getElem?_cons_succ, wrap_id]
    refine HC_of_PC rfl (awake22_ok) ?_
    simp -implicitDefEqProofs (disch := omega) [List.getElem?_cons_zero, List.getElem?_cons_succ, wrap_id]
    (refine fin0 trivial rfl ?_; simp -implicitDefEqProofs (disch := omega) [List.getElem?_cons_zero, List.getElem?_cons_succ, idx, wrap_id])
  obtain ⟨he, hd, hs⟩ := few22_at hf
  have hl := lgR_len N es q d s
  simp -implicitDefEqProofs (disch := omega) [List.getElem?_cons_zero, List.getElem?_cons_succ, wrap_id]
  refine HC_of_PC rfl (legal22_ok N es q d s he hd (by omega)) ?_
  simp -implicitDefEqProofs (disch := omega) [List.getElem?_cons_zero, List.getElem?_cons_succ, wrap_id]
  refine HC_of_PC rfl (rlegal22_ok N es q d s he hd (by omega)) ?_
  simp -implicitDefEqProofs (disch := omega) [List.getElem?_cons_zero, List.getElem?_cons_succ, wrap_id]
  refine HC_of_PC rfl (meet_ok N es s d he (by omega) hd) ?_
  simp -implicitDefEqProofs (disch := omega) [List.getElem?_cons_zero, List.getElem?_cons_succ, wrap_id]
  refine HC_of_PC rfl (rmeet_ok N es s d he (by omega) hd) ?_
  simp -implicitDefEqProofs (disch := omega) [List.getElem?_cons_zero, List.getElem?_cons_succ, wrap_id]
  refine HC_of_PC rfl (equal22_refl (lgR N es q d s).1 (by omega)) ?_
  simp -implicitDefEqProofs (disch := omega) [List.getElem?_cons_zero, List.getElem?_cons_succ, wrap_id]
  refine HC_of_PC rfl (same22_ok (mtL N es s d) (mtL N es s d) (mtL_len N es s d)) ?_
  simp -implicitDefEqProofs (disch := omega) [List.getElem?_cons_zero, List.getElem?_cons_succ, wrap_id]
  refine HC_of_PC rfl (awake22_ok) ?_
  simp -implicitDefEqProofs (disch := omega) [List.getElem?_cons_zero, List.getElem?_cons_succ, wrap_id]
  (refine fin0 trivial rfl ?_; simp -implicitDefEqProofs (disch := omega) [List.getElem?_cons_zero, List.getElem?_cons_succ, idx, wrap_id])
end Go.Proofs.Ytgjaekbbdmhjlaa
