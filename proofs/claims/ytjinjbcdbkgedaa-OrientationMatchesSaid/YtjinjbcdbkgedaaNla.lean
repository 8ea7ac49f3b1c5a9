/-
  The law Lists.
-/
import Derived.Test.YtjinjbcdbkgedaaNy
import Derived.Test.YtjinjbcdbkgedaaNlb
set_option linter.unusedSimpArgs false
set_option linter.unusedVariables false
namespace Go.Proofs.Ytjinjbcdbkgedaa
open Go.Abs Go.Sand

theorem fewT_ok (N : Int) (es : List Ed) : PC Try.prog 12 [G N es] (.b (smallG N es 5 8)) [] := by
  refine PC_of_W cfn12 ?_
  simp -implicitDefEqProofs (disch := omega) [c12, List.getElem?_cons_zero, List.getElem?_cons_succ, wrap_id]
  refine HC_of_PC rfl (small_ok N es 5 8) ?_
  simp -implicitDefEqProofs (disch := omega) [List.getElem?_cons_zero, List.getElem?_cons_succ, wrap_id]
  (refine fin0 trivial rfl ?_; simp -implicitDefEqProofs (disch := omega) [List.getElem?_cons_zero, List.getElem?_cons_succ, idx, wrap_id])
theorem allP_bos (l : List (List Bool)) : allP (l.map fun o => AV.p (.bo o)) = some (l.map PV.bo) := by
  have e1 : (l.map fun o => AV.p (.bo o)) = (l.map PV.bo).map AV.p := by rw [List.map_map]; rfl
  rw [e1, allP_ps]
theorem uqE_size {N : Int} {es : List Ed} {q : Int} (h : uqE N es q = 0) : gcheck N es = 0 ∧ (endsL es).length ≤ 14 := by
  unfold uqE at h
  split at h
  · rename_i h1; exact absurd h h1
  · rename_i h1
    split at h
    · cases h
    · split at h
      · cases h
      · exact ⟨by simpa using h1, by omega⟩
theorem uqE_nat {N : Int} {es : List Ed} {q : Int} (h : uqE N es q = 0) : ∃ n : Nat, N = n := ⟨N.toNat, by have := (gcheck_ok (uqE_size h).1).n1; omega⟩
theorem pick_len {p : List Bool → Bool} {es : List Ed} (h : (endsL es).length ≤ 14) : (pickL p (endsL es).length).length ≤ 16384 ∧ ∀ x ∈ pickL p (endsL es).length, x.length ≤ 4611686018427387904 := by
  refine ⟨?_, fun x hx => ?_⟩
  · have h1 := List.length_filter_le p (wholeL (endsL es).length)
    have h2 := wholeL_len (endsL es).length
    have h3 := pow_small h
    unfold pickL
    omega
  · have := wholeL_mem.1 (List.mem_filter.1 hx).1
    omega
set_option maxRecDepth 100000 in
theorem lists14_law (N : Int) (es : List Ed) (q : Int) : PC Try.prog 4 [G N es, .i q] (.b true) [] := by
  refine PC_of_W cfn4 ?_
  simp -implicitDefEqProofs (disch := omega) [c4, List.getElem?_cons_zero, List.getElem?_cons_succ, wrap_id]
  refine HC_of_PC rfl (fewT_ok N es) ?_
  cases hf : smallG N es 5 8
  rotate_left
  · have hel := small_len14 hf (by decide)
    simp -implicitDefEqProofs (disch := omega) [List.getElem?_cons_zero, List.getElem?_cons_succ, wrap_id]
    by_cases h1 : gcheck N es = 0 ∧ (endsL es).length ≤ 14
    · obtain ⟨n, hn⟩ : ∃ n : Nat, N = n := ⟨N.toNat, by have := (gcheck_ok h1.1).n1; omega⟩
      have h1g : gcheck n es = 0 := by rw [← hn]; exact h1.1
      have hwl := wholeL_len (endsL es).length
      have hpw := pow_small h1.2
      have hwm : ∀ x ∈ wholeL (endsL es).length, x.length ≤ 4611686018427387904 := fun x hx => by have := wholeL_mem.1 hx; omega
      rw [hn]
      refine HC_of_PC rfl (aall_ok n es hel h1g h1.2) ?_
      simp -implicitDefEqProofs (disch := omega) [List.getElem?_cons_zero, List.getElem?_cons_succ, wrap_id]
      refine HC_of_PC rfl (rall_ok n es hel h1g h1.2) ?_
      simp -implicitDefEqProofs (disch := omega) [List.getElem?_cons_zero, List.getElem?_cons_succ, wrap_id]
      rw [← hn]
      by_cases h2 : uqE N es q = 0
      · obtain ⟨n', hn'⟩ : ∃ n : Nat, N = n := uqE_nat h2
        rw [hn'] at h2 ⊢
        have hpl := pick_len (p := uniB n' es q) (uqE_size h2).2
        refine HC_of_PC rfl (auniq_ok n' es q hel h2) ?_
        simp -implicitDefEqProofs (disch := omega) [List.getElem?_cons_zero, List.getElem?_cons_succ, wrap_id]
        refine HC_of_PC rfl (runiq_ok n' es q hel h2) ?_
        simp -implicitDefEqProofs (disch := omega) [List.getElem?_cons_zero, List.getElem?_cons_succ, wrap_id]
        refine HC_of_PC rfl (awake14_ok) ?_
        simp -implicitDefEqProofs (disch := omega) [List.getElem?_cons_zero, List.getElem?_cons_succ, wrap_id]
        refine HC_of_PC (by simp [views, view, viewC, ownEls, allP_bos, renL_bos]) (sameBs_ok (wholeL (endsL es).length) (wholeL (endsL es).length) (by omega) hwm) ?_
        simp -implicitDefEqProofs (disch := omega) [List.getElem?_cons_zero, List.getElem?_cons_succ, wrap_id]
        refine HC_of_PC (by simp [views, view, viewC, ownEls, allP_bos, renL_bos]) (sameBs_ok (pickL (uniB n' es q) (endsL es).length) (pickL (uniB n' es q) (endsL es).length) (by omega) hpl.2) ?_
        simp -implicitDefEqProofs (disch := omega) [List.getElem?_cons_zero, List.getElem?_cons_succ, wrap_id]
        (refine fin0 trivial rfl ?_; simp -implicitDefEqProofs (disch := omega) [List.getElem?_cons_zero, List.getElem?_cons_succ, idx, wrap_id])
      · refine HC_of_PC rfl (auniq_err N es q hel h2) ?_
        simp -implicitDefEqProofs (disch := omega) [List.getElem?_cons_zero, List.getElem?_cons_succ, wrap_id]
        refine HC_of_PC rfl (runiq_err N es q hel h2) ?_
        simp -implicitDefEqProofs (disch := omega) [List.getElem?_cons_zero, List.getElem?_cons_succ, wrap_id]
        refine HC_of_PC rfl (awake14_ok) ?_
        simp -implicitDefEqProofs (disch := omega) [List.getElem?_cons_zero, List.getElem?_cons_succ, wrap_id]
        refine HC_of_PC (by simp [views, view, viewC, ownEls, allP_bos, renL_bos]) (sameBs_ok (wholeL (endsL es).length) (wholeL (endsL es).length) (by omega) hwm) ?_
        simp -implicitDefEqProofs (disch := omega) [List.getElem?_cons_zero, List.getElem?_cons_succ, wrap_id]
        refine HC_of_PC rfl (sameBs_ok [] [] (by decide) (by simp)) ?_
        simp -implicitDefEqProofs (disch := omega) [List.getElem?_cons_zero, List.getElem?_cons_succ, wrap_id]
        (refine fin0 trivial rfl ?_; simp -implicitDefEqProofs (disch := omega) [List.getElem?_cons_zero, List.getElem?_cons_succ, idx, wrap_id])
    · have h1' : gcheck N es ≠ 0 ∨ 14 < (endsL es).length := by
        by_cases h : gcheck N es = 0
        · exact .inr (by have := fun h2 => h1 ⟨h, h2⟩; omega)
        · exact .inl h
      refine HC_of_PC rfl (aall_err N es hel h1') ?_
      simp -implicitDefEqProofs (disch := omega) [List.getElem?_cons_zero, List.getElem?_cons_succ, wrap_id]
      refine HC_of_PC rfl (rall_err N es hel h1') ?_
      simp -implicitDefEqProofs (disch := omega) [List.getElem?_cons_zero, List.getElem?_cons_succ, wrap_id]
      by_cases h2 : uqE N es q = 0
      · obtain ⟨n', hn'⟩ : ∃ n : Nat, N = n := uqE_nat h2
        rw [hn'] at h2 ⊢
        have hpl := pick_len (p := uniB n' es q) (uqE_size h2).2
        refine HC_of_PC rfl (auniq_ok n' es q hel h2) ?_
        simp -implicitDefEqProofs (disch := omega) [List.getElem?_cons_zero, List.getElem?_cons_succ, wrap_id]
        refine HC_of_PC rfl (runiq_ok n' es q hel h2) ?_
        simp -implicitDefEqProofs (disch := omega) [List.getElem?_cons_zero, List.getElem?_cons_succ, wrap_id]
        refine HC_of_PC rfl (awake14_ok) ?_
        simp -implicitDefEqProofs (disch := omega) [List.getElem?_cons_zero, List.getElem?_cons_succ, wrap_id]
        refine HC_of_PC rfl (sameBs_ok [] [] (by decide) (by simp)) ?_
        simp -implicitDefEqProofs (disch := omega) [List.getElem?_cons_zero, List.getElem?_cons_succ, wrap_id]
        refine HC_of_PC (by simp [views, view, viewC, ownEls, allP_bos, renL_bos]) (sameBs_ok (pickL (uniB n' es q) (endsL es).length) (pickL (uniB n' es q) (endsL es).length) (by omega) hpl.2) ?_
        simp -implicitDefEqProofs (disch := omega) [List.getElem?_cons_zero, List.getElem?_cons_succ, wrap_id]
        (refine fin0 trivial rfl ?_; simp -implicitDefEqProofs (disch := omega) [List.getElem?_cons_zero, List.getElem?_cons_succ, idx, wrap_id])
      · refine HC_of_PC rfl (auniq_err N es q hel h2) ?_
        simp -implicitDefEqProofs (disch := omega) [List.getElem?_cons_zero, List.getElem?_cons_succ, wrap_id]
        refine HC_of_PC rfl (runiq_err N es q hel h2) ?_
        simp -implicitDefEqProofs (disch := omega) [List.getElem?_cons_zero, List.getElem?_cons_succ, wrap_id]
        refine HC_of_PC rfl (awake14_ok) ?_
        simp -implicitDefEqProofs (disch := omega) [List.getElem?_cons_zero, List.getElem?_cons_succ, wrap_id]
        refine HC_of_PC rfl (sameBs_ok [] [] (by decide) (by simp)) ?_
        simp -implicitDefEqProofs (disch := omega) [List.getElem?_cons_zero, List.getElem?_cons_succ, wrap_id]
        refine HC_of_PC rfl (sameBs_ok [] [] (by decide) (by simp)) ?_
        simp -implicitDefEqProofs (disch := omega) [List.getElem?_cons_zero, List.getElem?_cons_succ, wrap_id]
        (refine fin0 trivial rfl ?_; simp -implicitDefEqProofs (disch := omega) [List.getElem?_cons_zero, List.getElem?_cons_succ, idx, wrap_id])
  · simp -implicitDefEqProofs (disch := omega) [List.getElem?_cons_zero, List.getElem?_cons_succ, wrap_id, hf]
    refine HC_of_PC rfl (rcheck_any N es) ?_
    by_cases hg : gcheck N es = 0
    rotate_left
    · simp -implicitDefEqProofs (disch := omega) [List.getElem?_cons_zero, List.getElem?_cons_succ, wrap_id, hg]
      refine HC_of_PC rfl (awake14_ok) ?_
      simp -implicitDefEqProofs (disch := omega) [List.getElem?_cons_zero, List.getElem?_cons_succ, wrap_id]
      (refine fin0 trivial rfl ?_; simp -implicitDefEqProofs (disch := omega) [List.getElem?_cons_zero, List.getElem?_cons_succ, idx, wrap_id])
    by_cases h20 : (es.length : Int) < 20
    rotate_left
    · simp -implicitDefEqProofs (disch := omega) [List.getElem?_cons_zero, List.getElem?_cons_succ, wrap_id, hg, h20]
      refine HC_of_PC rfl (awake14_ok) ?_
      simp -implicitDefEqProofs (disch := omega) [List.getElem?_cons_zero, List.getElem?_cons_succ, wrap_id]
      (refine fin0 trivial rfl ?_; simp -implicitDefEqProofs (disch := omega) [List.getElem?_cons_zero, List.getElem?_cons_succ, idx, wrap_id])
    have hel : es.length ≤ 1000 := by omega
    simp -implicitDefEqProofs (disch := omega) [List.getElem?_cons_zero, List.getElem?_cons_succ, wrap_id, hg, h20]
    refine HC_of_PC rfl (size_ok N es (gcheck_ok hg).right hel) ?_
    by_cases h14 : (14 : Int) < (endsL es).length
    rotate_left
    · simp -implicitDefEqProofs (disch := omega) [List.getElem?_cons_zero, List.getElem?_cons_succ, wrap_id, h14]
      refine HC_of_PC rfl (awake14_ok) ?_
      simp -implicitDefEqProofs (disch := omega) [List.getElem?_cons_zero, List.getElem?_cons_succ, wrap_id]
      (refine fin0 trivial rfl ?_; simp -implicitDefEqProofs (disch := omega) [List.getElem?_cons_zero, List.getElem?_cons_succ, idx, wrap_id])
    simp -implicitDefEqProofs (disch := omega) [List.getElem?_cons_zero, List.getElem?_cons_succ, wrap_id, h14]
    by_cases h1 : gcheck N es = 0 ∧ (endsL es).length ≤ 14
    · obtain ⟨n, hn⟩ : ∃ n : Nat, N = n := ⟨N.toNat, by have := (gcheck_ok h1.1).n1; omega⟩
      have h1g : gcheck n es = 0 := by rw [← hn]; exact h1.1
      have hwl := wholeL_len (endsL es).length
      have hpw := pow_small h1.2
      have hwm : ∀ x ∈ wholeL (endsL es).length, x.length ≤ 4611686018427387904 := fun x hx => by have := wholeL_mem.1 hx; omega
      rw [hn]
      refine HC_of_PC rfl (aall_ok n es hel h1g h1.2) ?_
      simp -implicitDefEqProofs (disch := omega) [List.getElem?_cons_zero, List.getElem?_cons_succ, wrap_id]
      refine HC_of_PC rfl (rall_ok n es hel h1g h1.2) ?_
      simp -implicitDefEqProofs (disch := omega) [List.getElem?_cons_zero, List.getElem?_cons_succ, wrap_id]
      rw [← hn]
      by_cases h2 : uqE N es q = 0
      · obtain ⟨n', hn'⟩ : ∃ n : Nat, N = n := uqE_nat h2
        rw [hn'] at h2 ⊢
        have hpl := pick_len (p := uniB n' es q) (uqE_size h2).2
        refine HC_of_PC rfl (auniq_ok n' es q hel h2) ?_
        simp -implicitDefEqProofs (disch := omega) [List.getElem?_cons_zero, List.getElem?_cons_succ, wrap_id]
        refine HC_of_PC rfl (runiq_ok n' es q hel h2) ?_
        simp -implicitDefEqProofs (disch := omega) [List.getElem?_cons_zero, List.getElem?_cons_succ, wrap_id]
        refine HC_of_PC rfl (awake14_ok) ?_
        simp -implicitDefEqProofs (disch := omega) [List.getElem?_cons_zero, List.getElem?_cons_succ, wrap_id]
        refine HC_of_PC (by simp [views, view, viewC, ownEls, allP_bos, renL_bos]) (sameBs_ok (wholeL (endsL es).length) (wholeL (endsL es).length) (by omega) hwm) ?_
        simp -implicitDefEqProofs (disch := omega) [List.getElem?_cons_zero, List.getElem?_cons_succ, wrap_id]
        refine HC_of_PC (by simp [views, view, viewC, ownEls, allP_bos, renL_bos]) (sameBs_ok (pickL (uniB n' es q) (endsL es).length) (pickL (uniB n' es q) (endsL es).length) (by omega) hpl.2) ?_
        simp -implicitDefEqProofs (disch := omega) [List.getElem?_cons_zero, List.getElem?_cons_succ, wrap_id]
        (refine fin0 trivial rfl ?_; simp -implicitDefEqProofs (disch := omega) [List.getElem?_cons_zero, List.getElem?_cons_succ, idx, wrap_id])
      · refine HC_of_PC rfl (auniq_err N es q hel h2) ?_
        simp -implicitDefEqProofs (disch := omega) [List.getElem?_cons_zero, List.getElem?_cons_succ, wrap_id]
        refine HC_of_PC rfl (runiq_err N es q hel h2) ?_
        simp -implicitDefEqProofs (disch := omega) [List.getElem?_cons_zero, List.getElem?_cons_succ, wrap_id]
        refine HC_of_PC rfl (awake14_ok) ?_
        simp -implicitDefEqProofs (disch := omega) [List.getElem?_cons_zero, List.getElem?_cons_succ, wrap_id]
        refine HC_of_PC (by simp [views, view, viewC, ownEls, allP_bos, renL_bos]) (sameBs_ok (wholeL (endsL es).length) (wholeL (endsL es).length) (by omega) hwm) ?_
        simp -implicitDefEqProofs (disch := omega) [List.getElem?_cons_zero, List.getElem?_cons_succ, wrap_id]
        refine HC_of_PC rfl (sameBs_ok [] [] (by decide) (by simp)) ?_
        simp -implicitDefEqProofs (disch := omega) [List.getElem?_cons_zero, List.getElem?_cons_succ, wrap_id]
        (refine fin0 trivial rfl ?_; simp -implicitDefEqProofs (disch := omega) [List.getElem?_cons_zero, List.getElem?_cons_succ, idx, wrap_id])
    · have h1' : gcheck N es ≠ 0 ∨ 14 < (endsL es).length := by
        by_cases h : gcheck N es = 0
        · exact .inr (by have := fun h2 => h1 ⟨h, h2⟩; omega)
        · exact .inl h
      refine HC_of_PC rfl (aall_err N es hel h1') ?_
      simp -implicitDefEqProofs (disch := omega) [List.getElem?_cons_zero, List.getElem?_cons_succ, wrap_id]
      refine HC_of_PC rfl (rall_err N es hel h1') ?_
      simp -implicitDefEqProofs (disch := omega) [List.getElem?_cons_zero, List.getElem?_cons_succ, wrap_id]
      by_cases h2 : uqE N es q = 0
      · obtain ⟨n', hn'⟩ : ∃ n : Nat, N = n := uqE_nat h2
        rw [hn'] at h2 ⊢
        have hpl := pick_len (p := uniB n' es q) (uqE_size h2).2
        refine HC_of_PC rfl (auniq_ok n' es q hel h2) ?_
        simp -implicitDefEqProofs (disch := omega) [List.getElem?_cons_zero, List.getElem?_cons_succ, wrap_id]
        refine HC_of_PC rfl (runiq_ok n' es q hel h2) ?_
        simp -implicitDefEqProofs (disch := omega) [List.getElem?_cons_zero, List.getElem?_cons_succ, wrap_id]
        refine HC_of_PC rfl (awake14_ok) ?_
        simp -implicitDefEqProofs (disch := omega) [List.getElem?_cons_zero, List.getElem?_cons_succ, wrap_id]
        refine HC_of_PC rfl (sameBs_ok [] [] (by decide) (by simp)) ?_
        simp -implicitDefEqProofs (disch := omega) [List.getElem?_cons_zero, List.getElem?_cons_succ, wrap_id]
        refine HC_of_PC (by simp [views, view, viewC, ownEls, allP_bos, renL_bos]) (sameBs_ok (pickL (uniB n' es q) (endsL es).length) (pickL (uniB n' es q) (endsL es).length) (by omega) hpl.2) ?_
        simp -implicitDefEqProofs (disch := omega) [List.getElem?_cons_zero, List.getElem?_cons_succ, wrap_id]
        (refine fin0 trivial rfl ?_; simp -implicitDefEqProofs (disch := omega) [List.getElem?_cons_zero, List.getElem?_cons_succ, idx, wrap_id])
      · refine HC_of_PC rfl (auniq_err N es q hel h2) ?_
        simp -implicitDefEqProofs (disch := omega) [List.getElem?_cons_zero, List.getElem?_cons_succ, wrap_id]
        refine HC_of_PC rfl (runiq_err N es q hel h2) ?_
        simp -implicitDefEqProofs (disch := omega) [List.getElem?_cons_zero, List.getElem?_cons_succ, wrap_id]
        refine HC_of_PC rfl (awake14_ok) ?_
        simp -implicitDefEqProofs (disch := omega) [List.getElem?_cons_zero, List.getElem?_cons_succ, wrap_id]
        refine HC_of_PC rfl (sameBs_ok [] [] (by decide) (by simp)) ?_
        simp -implicitDefEqProofs (disch := omega) [List.getElem?_cons_zero, List.getElem?_cons_succ, wrap_id]
        refine HC_of_PC rfl (sameBs_ok [] [] (by decide) (by simp)) ?_
        simp -implicitDefEqProofs (disch := omega) [List.getElem?_cons_zero, List.getElem?_cons_succ, wrap_id]
        (refine fin0 trivial rfl ?_; simp -implicitDefEqProofs (disch := omega) [List.getElem?_cons_zero, List.getElem?_cons_succ, idx, wrap_id])
end Go.Proofs.Ytjinjbcdbkgedaa
