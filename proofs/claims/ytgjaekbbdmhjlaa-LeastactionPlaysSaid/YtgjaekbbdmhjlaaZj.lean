/-
  Contracts: the reference's checks, valences, rows, unstable vertices.
-/
import Derived.Test.YtgjaekbbdmhjlaaZi
import Derived.Test.YtgjaekbbdmhjlaaMra
set_option linter.unusedSimpArgs false
set_option linter.unusedVariables false
namespace Go.Proofs.Ytgjaekbbdmhjlaa
open Go.Abs Go.Sand

theorem rconn19_ok (n : Nat) (es : List Ed) (hn : n ≤ 12) (hr : ∀ x ∈ es, Right n x) (hel : es.length ≤ 900) : PC Try.prog 99 [G n es] (.b (decide (partsN es n = 1))) [] := by
  have hq : (((partsN es n : Nat) : Int) = 1) = (partsN es n = 1) := by simp only [eq_iff_iff]; omega
  refine PC_of_W cfn99 ?_
  simp -implicitDefEqProofs (disch := omega) [c99, List.getElem?_cons_zero, List.getElem?_cons_succ, wrap_id]
  refine HC_of_PC rfl (rparts_ok n es hn hr hel) ?_
  simp -implicitDefEqProofs (disch := omega) [List.getElem?_cons_zero, List.getElem?_cons_succ, wrap_id]
  (refine fin0 trivial rfl ?_; simp -implicitDefEqProofs (disch := omega) [List.getElem?_cons_zero, List.getElem?_cons_succ, idx, wrap_id, hq])
theorem rrooted_ok (N : Int) (es : List Ed) (q : Int) (hel : es.length ≤ 900) : PC Try.prog 72 [G N es, .i q] (.i (rootE N es q)) [] := by
  refine PC_of_W cfn72 ?_
  simp -implicitDefEqProofs (disch := omega) [c72, List.getElem?_cons_zero, List.getElem?_cons_succ, wrap_id]
  refine HC_of_PC rfl (rcheck_ok N es (by omega)) ?_
  by_cases hg : gcheck N es = 0
  · have hgg := gcheck_ok hg
    have hn1 := hgg.n1
    have hn12 := hgg.n12
    obtain ⟨n, rfl⟩ : ∃ n : Nat, N = n := ⟨N.toNat, by omega⟩
    simp -implicitDefEqProofs (disch := omega) [List.getElem?_cons_zero, List.getElem?_cons_succ, wrap_id, hg]
    refine HC_of_PC rfl (rconn19_ok n es (by omega) hgg.right hel) ?_
    by_cases hp : partsN es n = 1
    · simp -implicitDefEqProofs (disch := omega) [List.getElem?_cons_zero, List.getElem?_cons_succ, wrap_id, hp]
      refine HC_of_PC rfl (rvertex_ok n q es) ?_
      cases hv : vtx n q
      · simp -implicitDefEqProofs (disch := omega) [List.getElem?_cons_zero, List.getElem?_cons_succ, wrap_id, hv]
        (refine fin0 trivial rfl ?_; simp -implicitDefEqProofs (disch := omega) [List.getElem?_cons_zero, List.getElem?_cons_succ, idx, wrap_id, rootE, hg, hp, hv])
      · simp -implicitDefEqProofs (disch := omega) [List.getElem?_cons_zero, List.getElem?_cons_succ, wrap_id, hv]
        (refine fin0 trivial rfl ?_; simp -implicitDefEqProofs (disch := omega) [List.getElem?_cons_zero, List.getElem?_cons_succ, idx, wrap_id, rootE, hg, hp, hv])
    · simp -implicitDefEqProofs (disch := omega) [List.getElem?_cons_zero, List.getElem?_cons_succ, wrap_id, hp]
      (refine fin0 trivial rfl ?_; simp -implicitDefEqProofs (disch := omega) [List.getElem?_cons_zero, List.getElem?_cons_succ, idx, wrap_id, rootE, hg, hp])
  · simp -implicitDefEqProofs (disch := omega) [List.getElem?_cons_zero, List.getElem?_cons_succ, wrap_id, hg]
    (refine fin0 trivial rfl ?_; simp -implicitDefEqProofs (disch := omega) [List.getElem?_cons_zero, List.getElem?_cons_succ, idx, wrap_id, rootE, hg])
theorem dcheck_len {N : Int} {d : List Int} (h : dcheck d N = 0) (hN : 0 ≤ N) : (d.length : Int) = N := by
  unfold dcheck at h
  split at h
  · cases h
  · split at h
    · cases h
    · rename_i h2; omega
section
variable (N : Int) (es : List Ed) (q : Int) (d : List Int) (hel : es.length ≤ 900) (hd : d.length ≤ 1000)
include hel hd
theorem r19check_ok : PC Try.prog 42 [G N es, .i q, .is d] (.i (stE N es q d)) [] := by
  refine PC_of_W cfn42 ?_
  simp -implicitDefEqProofs (disch := omega) [c42, List.getElem?_cons_zero, List.getElem?_cons_succ, wrap_id]
  refine HC_of_PC rfl (rrooted_ok N es q hel) ?_
  by_cases h1 : rootE N es q = 0
  · simp -implicitDefEqProofs (disch := omega) [List.getElem?_cons_zero, List.getElem?_cons_succ, wrap_id, h1]
    refine HC_of_PC rfl (dcheck_ok d N (by omega)) ?_
    by_cases h2 : dcheck d N = 0
    · obtain ⟨n, rfl, -, -, -, -, -, -, hn⟩ := root_ok h1
      have hdl := dcheck_len h2 (by omega)
      have hdn : d.length = n := by omega
      simp -implicitDefEqProofs (disch := omega) [List.getElem?_cons_zero, List.getElem?_cons_succ, wrap_id, h2]
      refine loopW n (fun k s => s = ⟨[(9, .i k), (3, .ptr 0 1 0 0), (2, .p (.is d)), (1, .i q)], [.box (.p (G n es))]⟩ ∧ NN q d k) (wk_norm [0] [9, 3, 2, 1] rfl rfl) ⟨rfl, fun u hu => by omega⟩ ?_
      rintro k s hk ⟨rfl, hI⟩
      by_cases hlt : k < n
      · have hkd : k < d.length := by omega
        have hg := getD_get hkd
        by_cases h3 : (k : Int) = q
        · have hI' := hI.succ (fun h => h.1 h3)
          have h3' : ((k : Int) = q) = True := eq_true h3
          simp -implicitDefEqProofs (disch := omega) [List.getElem?_cons_zero, List.getElem?_cons_succ, wrap_id, hlt, h3']
          exact round_end [0] [9, 3, 2, 1] hlt rfl ⟨rfl, hI'⟩
        · by_cases h4 : d[k] < 0
          · have hr := negB_take (q := q) hkd ⟨h3, by rw [hg]; exact h4⟩
            simp -implicitDefEqProofs (disch := omega) [List.getElem?_cons_zero, List.getElem?_cons_succ, wrap_id, hlt, h3, h4, hkd]
            (refine fin0 trivial rfl ?_; simp -implicitDefEqProofs (disch := omega) [List.getElem?_cons_zero, List.getElem?_cons_succ, idx, wrap_id, stE, h1, h2, hr])
          · have hI' := hI.succ (fun h => h4 (by rw [← hg]; exact h.2))
            simp -implicitDefEqProofs (disch := omega) [List.getElem?_cons_zero, List.getElem?_cons_succ, wrap_id, hlt, h3, h4, hkd]
            exact round_end [0] [9, 3, 2, 1] hlt rfl ⟨rfl, hI'⟩
      · have hkn : k = n := by omega
        subst hkn
        have hr := negB_none (q := q) (d := d) (by rw [hdn]; exact hI)
        simp -implicitDefEqProofs (disch := omega) [List.getElem?_cons_zero, List.getElem?_cons_succ, wrap_id, hlt]
        (refine fin0 trivial rfl ?_; simp -implicitDefEqProofs (disch := omega) [List.getElem?_cons_zero, List.getElem?_cons_succ, idx, wrap_id, stE, h1, h2, hr])
    · simp -implicitDefEqProofs (disch := omega) [List.getElem?_cons_zero, List.getElem?_cons_succ, wrap_id, h2]
      (refine fin0 trivial rfl ?_; simp -implicitDefEqProofs (disch := omega) [List.getElem?_cons_zero, List.getElem?_cons_succ, idx, wrap_id, stE, h1, h2])
  · simp -implicitDefEqProofs (disch := omega) [List.getElem?_cons_zero, List.getElem?_cons_succ, wrap_id, h1]
    (refine fin0 trivial rfl ?_; simp -implicitDefEqProofs (disch := omega) [List.getElem?_cons_zero, List.getElem?_cons_succ, idx, wrap_id, stE, h1])
end
theorem lisL_len (k : Nat) (f : Nat → Int) : (lisL k f).length = k := by simp [lisL]
theorem lisL_succ (k : Nat) (f : Nat → Int) : lisL (k + 1) f = lisL k f ++ [f k] := by simp [lisL, List.range_succ]
section
variable (n : Nat) (es : List Ed) (q : Int) (d : List Int) (hel : es.length ≤ 900) (hg : GoodG n es) (hd : d.length = n)
include hel hg
theorem valences_ok : PC Try.prog 61 [G n es] (.p (.is (valsL n es))) [] := by
  have hn := hg.n12
  refine PC_of_W cfn61 ?_
  simp -implicitDefEqProofs (disch := omega) [c61, List.getElem?_cons_zero, List.getElem?_cons_succ, wrap_id]
  refine loopW n (fun k s => s = ⟨[(4, .i k), (3, .os 1 0 k), (1, .ptr 0 1 0 0)], [.box (.p (G n es)), rowI (lisL k fun v : Nat => valTo es v n)]⟩)
    ((Wk_nil 3 1 3 rfl).trans (Wk_keep [4, 3, 1])) rfl ?_
  rintro k s hk rfl
  by_cases hlt : k < n
  · have hk1 : k ≤ 1048575 := by omega
    have hll := lisL_len k fun v : Nat => valTo es v n
    simp -implicitDefEqProofs (disch := omega) [List.getElem?_cons_zero, List.getElem?_cons_succ, wrap_id, hlt, hll]
    refine HC_of_PC rfl (rval_ok n k es (by omega) hg.right (by omega)) ?_
    simp -implicitDefEqProofs (disch := omega) [List.getElem?_cons_zero, List.getElem?_cons_succ, wrap_id, hk1, hll]
    exact round_end [0, 1] [4, 3, 1] hlt rfl (by rw [lisL_succ]; simp [Abs.norm, Abs.get, AV.ren, Abs.idx])
  · have hkn : k = n := by omega
    subst hkn
    have hll := lisL_len k fun v : Nat => valTo es v k
    have e : valsL k es = lisL k fun v : Nat => valTo es v k := rfl
    simp -implicitDefEqProofs (disch := omega) [List.getElem?_cons_zero, List.getElem?_cons_succ, wrap_id]
    (refine fin0 trivial rfl ?_; simp -implicitDefEqProofs (disch := omega) [List.getElem?_cons_zero, List.getElem?_cons_succ, idx, wrap_id, e, hll])
include hd
theorem waiting_ok : PC Try.prog 78 [G n es, .i q, .is d] (.p (.is (unsK n es q d n))) [] := by
  have hn := hg.n12
  refine PC_of_W cfn78 ?_
  simp -implicitDefEqProofs (disch := omega) [c78, List.getElem?_cons_zero, List.getElem?_cons_succ, wrap_id]
  refine loopW n (fun k s => s = ⟨[(8, .i k), (7, .os 1 0 (unsK n es q d k).length), (3, .ptr 0 1 0 0), (2, .p (.is d)), (1, .i q)], [.box (.p (G n es)), rowI (unsK n es q d k)]⟩)
    ((Wk_nil 7 1 3 rfl).trans (Wk_keep [8, 7, 3, 2, 1])) rfl ?_
  rintro k s hk rfl
  by_cases hlt : k < n
  · have hkd : k < d.length := by omega
    have hs := unsK_succ n es q d k
    have hl := unsK_len n es q d k
    have hl1 : (unsK n es q d k).length ≤ 1048575 := by omega
    have hgk := getD_get hkd
    by_cases h3 : (k : Int) = q
    · have hu : unstB n es q d k = false := by simp [unstB, h3]
      rw [hu] at hs
      simp only [Bool.false_eq_true, if_false, List.append_nil] at hs
      have h3' : ((k : Int) = q) = True := eq_true h3
      simp -implicitDefEqProofs (disch := omega) [List.getElem?_cons_zero, List.getElem?_cons_succ, wrap_id, hlt, h3']
      exact round_end [0, 1] [8, 7, 3, 2, 1] hlt rfl (by rw [hs]; rfl)
    · simp -implicitDefEqProofs (disch := omega) [List.getElem?_cons_zero, List.getElem?_cons_succ, wrap_id, hlt, h3, hkd]
      refine HC_of_PC rfl (rval_ok n k es (by omega) hg.right (by omega)) ?_
      by_cases h4 : valTo es k n ≤ d[k]
      · have hu : unstB n es q d k = true := by simp only [unstB, decide_eq_true_eq]; exact ⟨h3, by rw [hgk]; exact h4⟩
        rw [hu, if_pos rfl] at hs
        simp -implicitDefEqProofs (disch := omega) [List.getElem?_cons_zero, List.getElem?_cons_succ, wrap_id, h4, hl1]
        exact round_end [0, 1] [8, 7, 3, 2, 1] hlt rfl (by rw [hs]; simp [Abs.norm, Abs.get, AV.ren, Abs.idx])
      · have hu : unstB n es q d k = false := by simp only [unstB, decide_eq_false_iff_not]; rintro ⟨-, h⟩; exact h4 (by rw [← hgk]; exact h)
        rw [hu] at hs
        simp only [Bool.false_eq_true, if_false, List.append_nil] at hs
        simp -implicitDefEqProofs (disch := omega) [List.getElem?_cons_zero, List.getElem?_cons_succ, wrap_id, h4, hl1]
        exact round_end [0, 1] [8, 7, 3, 2, 1] hlt rfl (by rw [hs]; rfl)
  · have hkn : n = k := by omega
    subst hkn
    simp -implicitDefEqProofs (disch := omega) [List.getElem?_cons_zero, List.getElem?_cons_succ, wrap_id]
    (refine fin0 trivial rfl ?_; simp -implicitDefEqProofs (disch := omega) [List.getElem?_cons_zero, List.getElem?_cons_succ, idx, wrap_id])
end
end Go.Proofs.Ytgjaekbbdmhjlaa
