/-
  The law Ranks.
-/
import Derived.Test.YtjinjbcdbkgedaaNmb
set_option linter.unusedSimpArgs false
set_option linter.unusedVariables false
namespace Go.Proofs.Ytjinjbcdbkgedaa
open Go.Abs Go.Sand

set_option maxRecDepth 100000 in
theorem ranks14_law (N : Int) (es : List Ed) (o : List Bool) (order : List Int) : PC Try.prog 11 [G N es, .bo o, .is order] (.b true) [] := by
  refine PC_of_W cfn11 ?_
  simp -implicitDefEqProofs (disch := omega) [c11, List.getElem?_cons_zero, List.getElem?_cons_succ, wrap_id]
  refine HC_of_PC rfl (right14_ok N es o) ?_
  cases hr : rightB N es o
  · simp -implicitDefEqProofs (disch := omega) [List.getElem?_cons_zero, List.getElem?_cons_succ, wrap_id]
    refine HC_of_PC rfl (awake14_ok) ?_
    simp -implicitDefEqProofs (disch := omega) [List.getElem?_cons_zero, List.getElem?_cons_succ, wrap_id]
    (refine fin0 trivial rfl ?_; simp -implicitDefEqProofs (disch := omega) [List.getElem?_cons_zero, List.getElem?_cons_succ, idx, wrap_id])
  obtain ⟨n, rfl, h, hel, ho9, hn1, hn6⟩ := right_ok hr
  have ho1 : o.length ≤ 100 := by omega
  obtain ⟨hg, hla⟩ := oE_ok h
  have hgood := gcheck_ok hg
  by_cases hlo : (order.length : Int) = (n : Int)
  rotate_left
  · have hne : renE n order ≠ 0 := by unfold renE; rw [if_pos hlo]; decide
    simp -implicitDefEqProofs (disch := omega) [List.getElem?_cons_zero, List.getElem?_cons_succ, wrap_id]
    refine HC_of_PC rfl (renaming_ne n order hlo) ?_
    simp -implicitDefEqProofs (disch := omega) [List.getElem?_cons_zero, List.getElem?_cons_succ, wrap_id, hne]
    refine HC_of_PC rfl (awake14_ok) ?_
    simp -implicitDefEqProofs (disch := omega) [List.getElem?_cons_zero, List.getElem?_cons_succ, wrap_id]
    (refine fin0 trivial rfl ?_; simp -implicitDefEqProofs (disch := omega) [List.getElem?_cons_zero, List.getElem?_cons_succ, idx, wrap_id])
  have hlo1 : order.length ≤ 1000 := by omega
  simp -implicitDefEqProofs (disch := omega) [List.getElem?_cons_zero, List.getElem?_cons_succ, wrap_id]
  refine HC_of_PC rfl (renaming_ok n order hlo1) ?_
  by_cases hre : renE n order = 0
  rotate_left
  · simp -implicitDefEqProofs (disch := omega) [List.getElem?_cons_zero, List.getElem?_cons_succ, wrap_id, hre]
    refine HC_of_PC rfl (awake14_ok) ?_
    simp -implicitDefEqProofs (disch := omega) [List.getElem?_cons_zero, List.getElem?_cons_succ, wrap_id]
    (refine fin0 trivial rfl ?_; simp -implicitDefEqProofs (disch := omega) [List.getElem?_cons_zero, List.getElem?_cons_succ, idx, wrap_id])
  have hor : ordE n es order = 0 := by rw [ordE, if_neg (by simp [hg])]; exact hre
  have hall : (alongL es order).length = (endsL es).length := by simp [alongL]
  have hal9 : (alongL es order).length ≤ 100 := by omega
  have hoa : oE n es (alongL es order) = 0 := oE_of hg hall
  have hfull := along_full hgood.right hre
  simp -implicitDefEqProofs (disch := omega) [List.getElem?_cons_zero, List.getElem?_cons_succ, wrap_id, hre]
  refine hasfE_ok (p := loopB) es (by omega) (by kernel_rfl) (fun q K hK => HC_of_PC rfl (loop1_ok q) (by simpa using hK)) ?_
  simp -implicitDefEqProofs (disch := omega) [List.getElem?_cons_zero, List.getElem?_cons_succ, wrap_id]
  refine HC_of_PC rfl (aorder_ok n es order hel hlo1 hor) ?_
  simp -implicitDefEqProofs (disch := omega) [List.getElem?_cons_zero, List.getElem?_cons_succ, wrap_id]
  cases hlp : es.any loopB
  · have hd1 := hfull.2 hlp
    refine HC_of_PC (by simp [views, view, viewC, ownEls, hall]) (aacyclic_ok n es (alongL es order) hel hal9 hoa hd1) ?_
    simp -implicitDefEqProofs (disch := omega) [List.getElem?_cons_zero, List.getElem?_cons_succ, wrap_id]
    by_cases hd : (sortL n (arwsL es o)).length = n
    rotate_left
    · refine HC_of_PC rfl (aacyclic_no n es o hel ho1 h hd) ?_
      simp -implicitDefEqProofs (disch := omega) [List.getElem?_cons_zero, List.getElem?_cons_succ, wrap_id]
      refine HC_of_PC rfl (awake14_ok) ?_
      simp -implicitDefEqProofs (disch := omega) [List.getElem?_cons_zero, List.getElem?_cons_succ, wrap_id]
      (refine fin0 trivial rfl ?_; simp -implicitDefEqProofs (disch := omega) [List.getElem?_cons_zero, List.getElem?_cons_succ, idx, wrap_id])
    obtain ⟨v, r, r', hs1, hs2⟩ := src_head hn1 hgood.right hd
    have hord : ordE n es (sortL n (arwsL es o)) = 0 := by rw [ordE, if_neg (by simp [hg])]; exact ren_of hd (sortK_mem n) (sortK_nodup n)
    have hal := along_sort hgood.right hla hd
    have c1 := aacyclic_ok n es o hel ho1 h hd
    have c2 := aorder_ok n es (sortL n (arwsL es o)) hel (by omega) hord
    have c3 := asources_ok n es o hel ho1 h
    rw [hal] at c2
    rw [hs1] at c1 c2 hd
    rw [hs2] at c3
    have hsl := selK_len (zeroB (inL n es o)) n
    have hr1 : r.length + 1 = n := by simpa using hd
    have hr2 : r'.length + 1 ≤ n := by
      have : (srcL n es o).length ≤ n := hsl
      rw [hs2] at this
      simpa using this
    refine HC_of_PC rfl (c1) ?_
    simp -implicitDefEqProofs (disch := omega) [List.getElem?_cons_zero, List.getElem?_cons_succ, wrap_id]
    refine HC_of_PC (by simp [views, view, viewC, ownEls, hr1]) (c2) ?_
    simp -implicitDefEqProofs (disch := omega) [List.getElem?_cons_zero, List.getElem?_cons_succ, wrap_id]
    refine HC_of_PC rfl (c3) ?_
    simp -implicitDefEqProofs (disch := omega) [List.getElem?_cons_zero, List.getElem?_cons_succ, wrap_id]
    have hrn : n = r.length + 1 ∧ 0 < n := ⟨by omega, by omega⟩
    refine HC_of_PC (by simp [views, view, viewC, ownEls, hla]) (equalB_ok o o (by omega)) ?_
    simp -implicitDefEqProofs (disch := omega) [List.getElem?_cons_zero, List.getElem?_cons_succ, wrap_id, hrn]
    refine HC_of_PC rfl (awake14_ok) ?_
    simp -implicitDefEqProofs (disch := omega) [List.getElem?_cons_zero, List.getElem?_cons_succ, wrap_id]
    (refine fin0 trivial rfl ?_; simp -implicitDefEqProofs (disch := omega) [List.getElem?_cons_zero, List.getElem?_cons_succ, idx, wrap_id])
  · have hd1 : (sortL n (arwsL es (alongL es order))).length ≠ n := fun e => by rw [hfull.1 e] at hlp; cases hlp
    refine HC_of_PC (by simp [views, view, viewC, ownEls, hall]) (aacyclic_no n es (alongL es order) hel hal9 hoa hd1) ?_
    simp -implicitDefEqProofs (disch := omega) [List.getElem?_cons_zero, List.getElem?_cons_succ, wrap_id]
    by_cases hd : (sortL n (arwsL es o)).length = n
    rotate_left
    · refine HC_of_PC rfl (aacyclic_no n es o hel ho1 h hd) ?_
      simp -implicitDefEqProofs (disch := omega) [List.getElem?_cons_zero, List.getElem?_cons_succ, wrap_id]
      refine HC_of_PC rfl (awake14_ok) ?_
      simp -implicitDefEqProofs (disch := omega) [List.getElem?_cons_zero, List.getElem?_cons_succ, wrap_id]
      (refine fin0 trivial rfl ?_; simp -implicitDefEqProofs (disch := omega) [List.getElem?_cons_zero, List.getElem?_cons_succ, idx, wrap_id])
    obtain ⟨v, r, r', hs1, hs2⟩ := src_head hn1 hgood.right hd
    have hord : ordE n es (sortL n (arwsL es o)) = 0 := by rw [ordE, if_neg (by simp [hg])]; exact ren_of hd (sortK_mem n) (sortK_nodup n)
    have hal := along_sort hgood.right hla hd
    have c1 := aacyclic_ok n es o hel ho1 h hd
    have c2 := aorder_ok n es (sortL n (arwsL es o)) hel (by omega) hord
    have c3 := asources_ok n es o hel ho1 h
    rw [hal] at c2
    rw [hs1] at c1 c2 hd
    rw [hs2] at c3
    have hsl := selK_len (zeroB (inL n es o)) n
    have hr1 : r.length + 1 = n := by simpa using hd
    have hr2 : r'.length + 1 ≤ n := by
      have : (srcL n es o).length ≤ n := hsl
      rw [hs2] at this
      simpa using this
    refine HC_of_PC rfl (c1) ?_
    simp -implicitDefEqProofs (disch := omega) [List.getElem?_cons_zero, List.getElem?_cons_succ, wrap_id]
    refine HC_of_PC (by simp [views, view, viewC, ownEls, hr1]) (c2) ?_
    simp -implicitDefEqProofs (disch := omega) [List.getElem?_cons_zero, List.getElem?_cons_succ, wrap_id]
    refine HC_of_PC rfl (c3) ?_
    simp -implicitDefEqProofs (disch := omega) [List.getElem?_cons_zero, List.getElem?_cons_succ, wrap_id]
    have hrn : n = r.length + 1 ∧ 0 < n := ⟨by omega, by omega⟩
    refine HC_of_PC (by simp [views, view, viewC, ownEls, hla]) (equalB_ok o o (by omega)) ?_
    simp -implicitDefEqProofs (disch := omega) [List.getElem?_cons_zero, List.getElem?_cons_succ, wrap_id, hrn]
    refine HC_of_PC rfl (awake14_ok) ?_
    simp -implicitDefEqProofs (disch := omega) [List.getElem?_cons_zero, List.getElem?_cons_succ, wrap_id]
    (refine fin0 trivial rfl ?_; simp -implicitDefEqProofs (disch := omega) [List.getElem?_cons_zero, List.getElem?_cons_succ, idx, wrap_id])
end Go.Proofs.Ytjinjbcdbkgedaa
