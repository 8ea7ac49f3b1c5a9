/-
  Contracts: the sets of a script, in the reference; small inputs.
-/
import Derived.Test.YtjkmhjjfipnbbaaTu
set_option linter.unusedSimpArgs false
namespace Go.Proofs.Ytjkmhjjfipnbbaa
open Go.Abs Go.Sand

theorem rends_ok (s : List Int) (hs : 0 < s.length) (hx : s.length ≤ 4611686018427387904) : PC Try.prog 67 [.is s] (.tup [.i (loT s), .i (hiT s)]) [] := by
  refine PC_of_W cfn67 ?_
  have m0 : minT s 0 = s[0] := by rw [minT, getD_get hs]
  have m1 : maxT s 0 = s[0] := by rw [maxT, getD_get hs]
  simp -implicitDefEqProofs (disch := omega) [c67, List.getElem?_cons_zero, List.getElem?_cons_succ, wrap_id, hs]
  refine loopW s.length (fun k st => st = ⟨[(6, .i k), (4, .i (minT s k)), (5, .i (maxT s k)), (0, .p (.is s))], []⟩) (wk_norm [] [6, 4, 5, 0] rfl rfl) (by rw [m0, m1]; rfl) ?_
  rintro k st hk rfl
  by_cases hlt : k < s.length
  · have t0 : minT s (k + 1) = min (minT s k) s[k] := by rw [minT, getD_get hlt]
    have t1 : maxT s (k + 1) = max (maxT s k) s[k] := by rw [maxT, getD_get hlt]
    simp -implicitDefEqProofs (disch := omega) [List.getElem?_cons_zero, List.getElem?_cons_succ, wrap_id, hlt]
    exact round_end [] [6, 4, 5, 0] hlt rfl (by rw [t0, t1]; rfl)
  · have : k = s.length := by omega
    subst this
    simp -implicitDefEqProofs (disch := omega) [List.getElem?_cons_zero, List.getElem?_cons_succ, wrap_id]
    (refine fin0 trivial rfl ?_; simp -implicitDefEqProofs (disch := omega) [List.getElem?_cons_zero, List.getElem?_cons_succ, idx, wrap_id, loT, hiT])
theorem rsets_ok (N : Int) (es : List Ed) (s : List Int) (he : es.length ≤ 1000) (hs : s.length ≤ 4611686018427387904) :
    PC Try.prog 26 [G N es, .is s] (.tup [.p (.iss (setsR N es s)), .i (setsE N es s)]) [] := by
  refine PC_of_W cfn26 ?_
  simp -implicitDefEqProofs (disch := omega) [c26, List.getElem?_cons_zero, List.getElem?_cons_succ, wrap_id]
  refine HC_of_PC rfl (rscheck_ok N es s (by omega) hs) ?_
  by_cases h0 : givenE N es s = 0
  rotate_left
  · have h1 : setsE N es s = givenE N es s := by rw [setsE, if_pos h0]
    have h2 : setsR N es s = [] := by rw [setsR, if_neg (by rw [h1]; exact h0)]
    simp -implicitDefEqProofs (disch := omega) [List.getElem?_cons_zero, List.getElem?_cons_succ, wrap_id, h0]
    refine finW (Wk_nil0 4 rfl) ?_
    (refine fin0 trivial rfl ?_; simp -implicitDefEqProofs (disch := omega) [List.getElem?_cons_zero, List.getElem?_cons_succ, idx, wrap_id, h1, h2])
  obtain ⟨n, rfl, hg, hl, hb, hn1, hn⟩ := given_ok h0
  have hb1 : -1048576 ≤ loT s ∧ loT s ≤ 1048576 := minT_bd hb s.length
  have hb2 : -1048576 ≤ hiT s ∧ hiT s ≤ 1048576 := maxT_bd hb s.length
  simp -implicitDefEqProofs (disch := omega) [List.getElem?_cons_zero, List.getElem?_cons_succ, wrap_id, h0]
  refine HC_of_PC rfl (rends_ok s (by omega) hs) ?_
  by_cases h3 : 256 < hiT s - loT s
  · have h1 : setsE n es s = 12 := by rw [setsE, if_neg (by simp [h0]), if_pos h3]
    have h2 : setsR n es s = [] := by rw [setsR, if_neg (by rw [h1]; simp)]
    simp -implicitDefEqProofs (disch := omega) [List.getElem?_cons_zero, List.getElem?_cons_succ, wrap_id, h3]
    refine finW (Wk_nil0 4 rfl) ?_
    (refine fin0 trivial rfl ?_; simp -implicitDefEqProofs (disch := omega) [List.getElem?_cons_zero, List.getElem?_cons_succ, idx, wrap_id, h1, h2])
  have h1 : setsE n es s = 0 := by rw [setsE, if_neg (by simp [h0]), if_neg h3]
  have h2 : setsR n es s = setsL s := by rw [setsR, if_pos h1]
  simp -implicitDefEqProofs (disch := omega) [List.getElem?_cons_zero, List.getElem?_cons_succ, wrap_id, h3]
  obtain ⟨D, hD⟩ : ∃ D, D = (hiT s - loT s).toNat := ⟨_, rfl⟩
  refine loopW D (fun k st => st = ⟨[(10, .i (hiT s - (k + 1))), (9, .os 1 0 k), (7, .i (loT s)), (2, .ptr 0 1 0 0), (1, .p (.is s))], [.box (.p (G n es)), .row ((List.range k).map fun i : Nat => .is (upTo s (hiT s - (i + 1)) s.length)) 1 25 false]⟩) ((Wk_nil 9 1 25 rfl).trans (wk_norm [0, 1] [10, 9, 7, 2, 1] rfl rfl)) rfl ?_
  rintro k st hk rfl
  by_cases hlt : k < D
  rotate_left
  · have hkD : k = D := by omega
    have hc : ¬ loT s ≤ hiT s - ((k : Int) + 1) := by omega
    subst hkD
    simp -implicitDefEqProofs (disch := omega) [List.getElem?_cons_zero, List.getElem?_cons_succ, wrap_id, hc]
    (refine fin0 trivial rfl ?_; simp -implicitDefEqProofs (disch := omega) [List.getElem?_cons_zero, List.getElem?_cons_succ, idx, wrap_id, h1, h2, setsL, hD])
  have hc : loT s ≤ hiT s - ((k : Int) + 1) := by omega
  have hk2 : k ≤ 1048575 := by omega
  simp -implicitDefEqProofs (disch := omega) [List.getElem?_cons_zero, List.getElem?_cons_succ, wrap_id, hc]
  refine loopW n (fun j st => st = ⟨[(12, .i j), (11, .os 2 0 (upTo s (hiT s - (k + 1)) j).length), (10, .i (hiT s - (k + 1))), (9, .os 1 0 k), (7, .i (loT s)), (2, .ptr 0 1 0 0), (1, .p (.is s))], [.box (.p (G n es)), .row ((List.range k).map fun i : Nat => .is (upTo s (hiT s - (i + 1)) s.length)) 1 25 false, .row ((upTo s (hiT s - (k + 1)) j).map .i) 1 3 false]⟩) ((Wk_nil 11 1 3 rfl).trans (wk_norm [0, 1, 2] [12, 11, 10, 9, 7, 2, 1] rfl rfl)) rfl ?_
  rintro j st hj rfl
  have hul := upTo_len s (hiT s - (k + 1)) j
  have hul2 : (upTo s (hiT s - (k + 1)) j).length ≤ 1048575 := by omega
  by_cases hlj : j < n
  · have hlj' : j < s.length := by omega
    have hsn := upTo_snoc s (hiT s - (k + 1)) j hlj'
    by_cases h4 : hiT s - (k + 1) < s[j]
    · rw [if_pos h4] at hsn
      simp -implicitDefEqProofs (disch := omega) [List.getElem?_cons_zero, List.getElem?_cons_succ, wrap_id, hlj, hlj', h4, hul2]
      exact round_end [0, 1, 2] [12, 11, 10, 9, 7, 2, 1] hlj rfl (by rw [hsn, List.length_append, List.map_append]; rfl)
    · rw [if_neg h4, List.append_nil] at hsn
      simp -implicitDefEqProofs (disch := omega) [List.getElem?_cons_zero, List.getElem?_cons_succ, wrap_id, hlj, hlj', h4]
      exact round_end [0, 1, 2] [12, 11, 10, 9, 7, 2, 1] hlj rfl (by rw [hsn]; rfl)
  · have hjl : j = n := by omega
    subst hjl
    have e4 : hiT s - ((k : Int) + 1) - 1 = hiT s - ((k : Int) + 1 + 1) := by omega
    simp -implicitDefEqProofs (disch := omega) [List.getElem?_cons_zero, List.getElem?_cons_succ, wrap_id, hk2, e4]
    exact round_end [0, 1] [10, 9, 7, 2, 1] hlt rfl (by rw [List.range_succ, List.map_append, ← hl]; rfl)
def smallB (N : Int) (es : List Ed) (d : List Int) : Bool := few18 N es d && decide (givenE N es d = 0) && d.all in60
theorem small18_ok (N : Int) (es : List Ed) (d : List Int) : PC Try.prog 29 [G N es, .is d] (.b (smallB N es d)) [] := by
  refine PC_of_W cfn29 ?_
  simp -implicitDefEqProofs (disch := omega) [c29, List.getElem?_cons_zero, List.getElem?_cons_succ, wrap_id]
  refine HC_of_PC rfl (rfew_ok N es d) ?_
  cases hf : few18 N es d
  · simp -implicitDefEqProofs (disch := omega) [List.getElem?_cons_zero, List.getElem?_cons_succ, wrap_id]
    (refine fin0 trivial rfl ?_; simp -implicitDefEqProofs (disch := omega) [List.getElem?_cons_zero, List.getElem?_cons_succ, idx, wrap_id, smallB, hf])
  have hl := few_len hf
  simp -implicitDefEqProofs (disch := omega) [List.getElem?_cons_zero, List.getElem?_cons_succ, wrap_id]
  refine HC_of_PC rfl (rgiven_ok N es d (by omega) (by omega)) ?_
  by_cases h0 : givenE N es d = 0
  · simp -implicitDefEqProofs (disch := omega) [List.getElem?_cons_zero, List.getElem?_cons_succ, wrap_id, h0]
    refine HC_of_PC rfl (dsmall_ok d (by omega)) ?_
    simp -implicitDefEqProofs (disch := omega) [List.getElem?_cons_zero, List.getElem?_cons_succ, wrap_id]
    (refine fin0 trivial rfl ?_; simp -implicitDefEqProofs (disch := omega) [List.getElem?_cons_zero, List.getElem?_cons_succ, idx, wrap_id, smallB, hf, h0])
  · simp -implicitDefEqProofs (disch := omega) [List.getElem?_cons_zero, List.getElem?_cons_succ, wrap_id, h0]
    (refine fin0 trivial rfl ?_; simp -implicitDefEqProofs (disch := omega) [List.getElem?_cons_zero, List.getElem?_cons_succ, idx, wrap_id, smallB, hf, h0])
end Go.Proofs.Ytjkmhjjfipnbbaa
