/-
  The laws: Checks, Falls, Topples, Avalanches.
-/
import Derived.Test.YthdbmoflbnggpaaZp
set_option linter.unusedSimpArgs false
set_option linter.unusedVariables false
namespace Go.Proofs.Ythdbmoflbnggpaa
open Go.Abs Go.Sand

theorem few19_len {N : Int} {es : List Ed} {d : List Int} (h : few18 N es d = true) : es.length ≤ 900 ∧ d.length ≤ 1000 := by
  simp only [few18, smallG, Bool.and_eq_true, decide_eq_true_eq] at h
  have h1 := h.1.1
  have h2 := h.2
  exact ⟨by omega, by omega⟩
theorem fallD_len {N : Int} {es : List Ed} {q : Int} {d : List Int} (h : d.length ≤ 1000) : (fallD N es q d).length ≤ 1000 := by
  unfold fallD
  split
  · rw [movedE_length]; exact h
  · simp
theorem fall_st {N : Int} {es : List Ed} {q : Int} {d : List Int} (h : fallE N es q d = 0) : stE N es q d = 0 ∧ settledE N.toNat es q d = 0 := by
  unfold fallE at h
  split at h
  · rename_i h1; exact absurd h h1
  · rename_i h1; exact ⟨Decidable.not_not.1 h1, h⟩
theorem fallS_len {N : Int} {es : List Ed} {q : Int} {d : List Int} : (fallS N es q d).length ≤ 1000 := by
  unfold fallS
  split
  · rename_i h
    obtain ⟨n, rfl, hs⟩ := st_ok (fall_st h).1
    have := (stabF_spec (d := d) hs.v).1.len
    have := hs.n12
    rw [Int.toNat_natCast]
    omega
  · simp
theorem unsR_len {N : Int} {es : List Ed} {q : Int} {d : List Int} : (if stE N es q d = 0 then unsK N.toNat es q d N.toNat else []).length ≤ 1000 := by
  split
  · rename_i h
    obtain ⟨n, rfl, hs⟩ := st_ok h
    have := unsK_len n es q d n
    have := hs.n12
    rw [Int.toNat_natCast]
    omega
  · simp
theorem topR_len {N : Int} {es : List Ed} {q : Int} {d : List Int} : (if stE N es q d = 0 then (topR N.toNat es q d).1 else []).length ≤ 4611686018427387904 := by
  split
  · rename_i h
    obtain ⟨n, rfl, hs⟩ := st_ok h
    obtain ⟨k, over, hf⟩ := exists_falls n es q d
    rw [Int.toNat_natCast, falls_top hf]
    split
    · simp
    · rename_i h2
      rw [(stp_sum k hf.all).2]
      have := hf.le
      omega
  · simp
theorem maxR_len {N : Int} {es : List Ed} {q : Int} : (if rootE N es q = 0 then lisL N.toNat fun v => if (v : Int) = q then 0 else valTo es v N.toNat - 1 else []).length ≤ 1000 := by
  split
  · rename_i h
    obtain ⟨n, rfl, -, -, -, -, -, -, hn⟩ := root_ok h
    rw [Int.toNat_natCast, lisL_len]
    omega
  · simp
theorem avD_len {N : Int} {es : List Ed} {q : Int} {d : List Int} {v : Int} (h : d.length ≤ 1000) : (avD N es q d v).length ≤ 1000 := by
  unfold avD
  split
  · rw [movedE_length, moreD_len]; exact h
  · simp
theorem av_st {N : Int} {es : List Ed} {q : Int} {d : List Int} {v : Int} (h : avE N es q d v = 0) : stE N es q d = 0 := by
  unfold avE at h
  split at h
  · rename_i h1; exact absurd h h1
  · rename_i h1; exact Decidable.not_not.1 h1
theorem avS_len {N : Int} {es : List Ed} {q : Int} {d : List Int} {v : Int} : (avS N es q d v).length ≤ 1000 := by
  unfold avS
  split
  · rename_i h
    have h0 := av_st h
    obtain ⟨n, rfl, hs⟩ := st_ok h0
    have := (stabF_spec (d := moreD d v.toNat) (more_conf hs (st_bd h0) v.toNat).v).1.len
    have := hs.n12
    rw [Int.toNat_natCast]
    omega
  · simp
theorem falls_law (N : Int) (es : List Ed) (q : Int) (d : List Int) : PC Try.prog 3 [G N es, .i q, .is d] (.b true) [] := by
  refine PC_of_W cfn3 ?_
  simp -implicitDefEqProofs (disch := omega) [c3, List.getElem?_cons_zero, List.getElem?_cons_succ, wrap_id]
  refine HC_of_PC rfl (rfew_ok N es d) ?_
  cases hf : few18 N es d
  · simp -implicitDefEqProofs (disch := omega) [List.getElem?_cons_zero, List.getElem?_cons_succ, wrap_id]
    refine HC_of_PC rfl (awake19_ok) ?_
    simp -implicitDefEqProofs (disch := omega) [List.getElem?_cons_zero, List.getElem?_cons_succ, wrap_id]
    (refine fin0 trivial rfl ?_; simp -implicitDefEqProofs (disch := omega) [List.getElem?_cons_zero, List.getElem?_cons_succ, idx, wrap_id])
  obtain ⟨he, hd⟩ := few19_len hf
  simp -implicitDefEqProofs (disch := omega) [List.getElem?_cons_zero, List.getElem?_cons_succ, wrap_id]
  refine HC_of_PC rfl (stabilize_ok N es q d he hd) ?_
  simp -implicitDefEqProofs (disch := omega) [List.getElem?_cons_zero, List.getElem?_cons_succ, wrap_id]
  refine HC_of_PC rfl (rstabilize_ok N es q d he hd) ?_
  simp -implicitDefEqProofs (disch := omega) [List.getElem?_cons_zero, List.getElem?_cons_succ, wrap_id]
  refine HC_of_PC rfl (same19_refl _ _ (fallD_len hd) fallS_len) ?_
  simp -implicitDefEqProofs (disch := omega) [List.getElem?_cons_zero, List.getElem?_cons_succ, wrap_id]
  refine HC_of_PC rfl (awake19_ok) ?_
  simp -implicitDefEqProofs (disch := omega) [List.getElem?_cons_zero, List.getElem?_cons_succ, wrap_id]
  (refine fin0 trivial rfl ?_; simp -implicitDefEqProofs (disch := omega) [List.getElem?_cons_zero, List.getElem?_cons_succ, idx, wrap_id])
theorem checks19_law (N : Int) (es : List Ed) (q : Int) (d : List Int) : PC Try.prog 6 [G N es, .i q, .is d] (.b true) [] := by
  refine PC_of_W cfn6 ?_
  simp -implicitDefEqProofs (disch := omega) [c6, List.getElem?_cons_zero, List.getElem?_cons_succ, wrap_id]
  refine HC_of_PC rfl (rfew_ok N es d) ?_
  cases hf : few18 N es d
  · simp -implicitDefEqProofs (disch := omega) [List.getElem?_cons_zero, List.getElem?_cons_succ, wrap_id]
    refine HC_of_PC rfl (awake19_ok) ?_
    simp -implicitDefEqProofs (disch := omega) [List.getElem?_cons_zero, List.getElem?_cons_succ, wrap_id]
    (refine fin0 trivial rfl ?_; simp -implicitDefEqProofs (disch := omega) [List.getElem?_cons_zero, List.getElem?_cons_succ, idx, wrap_id])
  obtain ⟨he, hd⟩ := few19_len hf
  simp -implicitDefEqProofs (disch := omega) [List.getElem?_cons_zero, List.getElem?_cons_succ, wrap_id]
  refine HC_of_PC rfl (unstable_ok N es q d he hd) ?_
  simp -implicitDefEqProofs (disch := omega) [List.getElem?_cons_zero, List.getElem?_cons_succ, wrap_id]
  refine HC_of_PC rfl (runstable_ok N es q d he hd) ?_
  simp -implicitDefEqProofs (disch := omega) [List.getElem?_cons_zero, List.getElem?_cons_succ, wrap_id]
  refine HC_of_PC rfl (stable_ok N es q d he hd) ?_
  simp -implicitDefEqProofs (disch := omega) [List.getElem?_cons_zero, List.getElem?_cons_succ, wrap_id]
  refine HC_of_PC rfl (rstable_ok N es q d he hd) ?_
  simp -implicitDefEqProofs (disch := omega) [List.getElem?_cons_zero, List.getElem?_cons_succ, wrap_id]
  refine HC_of_PC rfl (scheck_ok N es q d he hd) ?_
  simp -implicitDefEqProofs (disch := omega) [List.getElem?_cons_zero, List.getElem?_cons_succ, wrap_id]
  refine HC_of_PC rfl (r19check_ok N es q d he hd) ?_
  simp -implicitDefEqProofs (disch := omega) [List.getElem?_cons_zero, List.getElem?_cons_succ, wrap_id]
  refine HC_of_PC rfl (equal19_refl _ (by have := unsR_len (N := N) (es := es) (q := q) (d := d); omega)) ?_
  simp -implicitDefEqProofs (disch := omega) [List.getElem?_cons_zero, List.getElem?_cons_succ, wrap_id]
  refine HC_of_PC rfl (awake19_ok) ?_
  simp -implicitDefEqProofs (disch := omega) [List.getElem?_cons_zero, List.getElem?_cons_succ, wrap_id]
  (refine fin0 trivial rfl ?_; simp -implicitDefEqProofs (disch := omega) [List.getElem?_cons_zero, List.getElem?_cons_succ, idx, wrap_id])
theorem topples_law (N : Int) (es : List Ed) (q : Int) (d : List Int) : PC Try.prog 4 [G N es, .i q, .is d] (.b true) [] := by
  refine PC_of_W cfn4 ?_
  simp -implicitDefEqProofs (disch := omega) [c4, List.getElem?_cons_zero, List.getElem?_cons_succ, wrap_id]
  refine HC_of_PC rfl (rfew_ok N es d) ?_
  cases hf : few18 N es d
  · simp -implicitDefEqProofs (disch := omega) [List.getElem?_cons_zero, List.getElem?_cons_succ, wrap_id]
    refine HC_of_PC rfl (awake19_ok) ?_
    simp -implicitDefEqProofs (disch := omega) [List.getElem?_cons_zero, List.getElem?_cons_succ, wrap_id]
    (refine fin0 trivial rfl ?_; simp -implicitDefEqProofs (disch := omega) [List.getElem?_cons_zero, List.getElem?_cons_succ, idx, wrap_id])
  obtain ⟨he, hd⟩ := few19_len hf
  simp -implicitDefEqProofs (disch := omega) [List.getElem?_cons_zero, List.getElem?_cons_succ, wrap_id]
  refine HC_of_PC rfl (topple_ok N es q d he hd) ?_
  simp -implicitDefEqProofs (disch := omega) [List.getElem?_cons_zero, List.getElem?_cons_succ, wrap_id]
  refine HC_of_PC rfl (rtopple_ok N es q d he hd) ?_
  simp -implicitDefEqProofs (disch := omega) [List.getElem?_cons_zero, List.getElem?_cons_succ, wrap_id]
  refine HC_of_PC rfl (maximal_ok N es q he) ?_
  simp -implicitDefEqProofs (disch := omega) [List.getElem?_cons_zero, List.getElem?_cons_succ, wrap_id]
  refine HC_of_PC rfl (rmaximal_ok N es q he) ?_
  simp -implicitDefEqProofs (disch := omega) [List.getElem?_cons_zero, List.getElem?_cons_succ, wrap_id]
  refine HC_of_PC rfl (equal19_refl _ topR_len) ?_
  simp -implicitDefEqProofs (disch := omega) [List.getElem?_cons_zero, List.getElem?_cons_succ, wrap_id]
  refine HC_of_PC rfl (same17_refl _ maxR_len) ?_
  simp -implicitDefEqProofs (disch := omega) [List.getElem?_cons_zero, List.getElem?_cons_succ, wrap_id]
  refine HC_of_PC rfl (awake19_ok) ?_
  simp -implicitDefEqProofs (disch := omega) [List.getElem?_cons_zero, List.getElem?_cons_succ, wrap_id]
  (refine fin0 trivial rfl ?_; simp -implicitDefEqProofs (disch := omega) [List.getElem?_cons_zero, List.getElem?_cons_succ, idx, wrap_id])
theorem avalanches_law (N : Int) (es : List Ed) (q v : Int) (d : List Int) : PC Try.prog 5 [G N es, .agg [.i q, .i v], .is d] (.b true) [] := by
  refine PC_of_W cfn5 ?_
  simp -implicitDefEqProofs (disch := omega) [c5, List.getElem?_cons_zero, List.getElem?_cons_succ, wrap_id]
  refine HC_of_PC rfl (rfew_ok N es d) ?_
  cases hf : few18 N es d
  · simp -implicitDefEqProofs (disch := omega) [List.getElem?_cons_zero, List.getElem?_cons_succ, wrap_id]
    refine HC_of_PC rfl (awake19_ok) ?_
    simp -implicitDefEqProofs (disch := omega) [List.getElem?_cons_zero, List.getElem?_cons_succ, wrap_id]
    (refine fin0 trivial rfl ?_; simp -implicitDefEqProofs (disch := omega) [List.getElem?_cons_zero, List.getElem?_cons_succ, idx, wrap_id])
  obtain ⟨he, hd⟩ := few19_len hf
  simp -implicitDefEqProofs (disch := omega) [List.getElem?_cons_zero, List.getElem?_cons_succ, wrap_id]
  refine HC_of_PC rfl (avalanche_ok N es q d v he hd) ?_
  simp -implicitDefEqProofs (disch := omega) [List.getElem?_cons_zero, List.getElem?_cons_succ, wrap_id]
  refine HC_of_PC rfl (ravalanche_ok N es q d v he hd) ?_
  simp -implicitDefEqProofs (disch := omega) [List.getElem?_cons_zero, List.getElem?_cons_succ, wrap_id]
  refine HC_of_PC rfl (largest_ok N es q d he hd) ?_
  simp -implicitDefEqProofs (disch := omega) [List.getElem?_cons_zero, List.getElem?_cons_succ, wrap_id]
  refine HC_of_PC rfl (rlargest_ok N es q d he hd) ?_
  simp -implicitDefEqProofs (disch := omega) [List.getElem?_cons_zero, List.getElem?_cons_succ, wrap_id]
  refine HC_of_PC rfl (same19_refl _ _ (avD_len hd) avS_len) ?_
  simp -implicitDefEqProofs (disch := omega) [List.getElem?_cons_zero, List.getElem?_cons_succ, wrap_id]
  refine HC_of_PC rfl (awake19_ok) ?_
  simp -implicitDefEqProofs (disch := omega) [List.getElem?_cons_zero, List.getElem?_cons_succ, wrap_id]
  (refine fin0 trivial rfl ?_; simp -implicitDefEqProofs (disch := omega) [List.getElem?_cons_zero, List.getElem?_cons_succ, idx, wrap_id])
end Go.Proofs.Ythdbmoflbnggpaa
