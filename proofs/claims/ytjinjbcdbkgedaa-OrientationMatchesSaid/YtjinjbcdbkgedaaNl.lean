/-
  Contracts: orientations out of orders, by a map.
-/
import Derived.Test.YtjinjbcdbkgedaaNk
set_option linter.unusedSimpArgs false
set_option linter.unusedVariables false
namespace Go.Proofs.Ytjinjbcdbkgedaa
open Go.Abs Go.Sand

theorem posD_ren2 {x : AV} {kd : KD} {L : List Int} {Hr : List AO} {keep : List Nat} {T : List (Nat × AV)} : norm [0, 1] keep ⟨T, .box x :: .dict kd (posD L) :: Hr⟩ =
    ⟨keep.map fun i => (i, (Abs.get T i).ren (.box x :: .dict kd (posD L) :: Hr) (Abs.idx [0, 1] 0)), [.box (x.ren (.box x :: .dict kd (posD L) :: Hr) (Abs.idx [0, 1] 0)), .dict kd (posD L)]⟩ := by
  simp [norm, AO.ren, posD_ren]
theorem aorder_ok (n : Nat) (es : List Ed) (order : List Int) (hel : es.length ≤ 1000) (hol : order.length ≤ 1000) (h : ordE n es order = 0) :
    PC Try.prog 43 [G n es, .is order] (.tup [.os 0 0 (endsL es).length, .i 0]) [rowB (alongL es order)] := by
  obtain ⟨hg, hl, hr⟩ := ordE_ok h
  have hgood := gcheck_ok hg
  have he := endsL_len hgood.right
  obtain ⟨hs, hnd, _⟩ := revErr_ok hr
  have hall : ∀ v : Int, 0 ≤ v → v < n → v ∈ order := fun v h0 hv => perm_all (by omega) hs hnd h0 hv
  have hal : (alongL es order).length = (endsL es).length := by simp [alongL]
  obtain rfl : n = order.length := by omega
  refine PC_of_W cfn43 ?_
  simp -implicitDefEqProofs (disch := omega) [c43, List.getElem?_cons_zero, List.getElem?_cons_succ, wrap_id]
  refine HC_of_PC rfl (gends_ok order.length es hel hg) ?_
  simp -implicitDefEqProofs (disch := omega) [List.getElem?_cons_zero, List.getElem?_cons_succ, wrap_id]
  refine loopW order.length (fun k s => s = ⟨[(32, .i k), (31, .i order.length), (30, .p (.is order)), (8, .mp 1), (6, .p (.ps (endsL es))), (2, .ptr 0 1 0 0), (1, .p (.is order))], [.box (.p (G order.length es)), .dict (.int .i64) (posD (order.take k))]⟩ ∧ revErr order.length (order.take k) (order.drop k) = 0) (wk_norm [0, 1] [32, 31, 30, 8, 6, 2, 1] rfl rfl) ⟨rfl, hr⟩ ?_
  rintro k s hk ⟨rfl, hI⟩
  by_cases hlt : k < order.length
  · have hd := revErr_drop order.length order k hlt
    have h1 := hs _ (List.getElem_mem hlt)
    have h1a : ¬ order[k] < 0 := by omega
    have h1b : ¬ (order.length : Int) ≤ order[k] := by omega
    rw [if_neg (by omega)] at hd
    by_cases hm : order[k] ∈ order.take k
    · rw [if_pos hm, hI] at hd; cases hd
    · rw [if_neg hm] at hd
      have hdx := posD_dIdx (order.take k) order[k]
      rw [if_neg hm] at hdx
      have hwf := wf_small (n := order[k]) (by have := hgood.n12; omega) (by have := hgood.n12; omega)
      have hsn := posD_snoc (order.take k) order[k]
      rw [← List.take_succ_eq_append_getElem hlt, show (order.take k).length = k by rw [List.length_take]; omega] at hsn
      generalize hP : posD (order.take k) = D at *
      simp -implicitDefEqProofs (disch := omega) [List.getElem?_cons_zero, List.getElem?_cons_succ, wrap_id, hlt, h1a, h1b, hwf, hdx]
      rw [← hsn]
      exact round_end [0, 1] [32, 31, 30, 8, 6, 2, 1] hlt rfl ⟨posD_ren2.trans rfl, by rw [← hd]; exact hI⟩
  · have hke : k = order.length := by omega
    subst hke
    rw [List.take_length]
    simp -implicitDefEqProofs (disch := omega) [List.getElem?_cons_zero, List.getElem?_cons_succ, wrap_id]
    refine loopW (endsL es).length (fun k s => s = ⟨[(58, .i k), (57, .i (endsL es).length), (56, .p (.ps (endsL es))), (13, .os 2 0 k), (8, .mp 1)], [.box (.p (G order.length es)), .dict (.int .i64) (posD order), rowB ((alongL es order).take k)]⟩) ((Wk_nil 13 1 4 rfl).trans (wk_norm [0, 1, 2] [58, 57, 56, 13, 8] rfl (norm_pos.trans rfl))) rfl ?_
    rintro k s hk rfl
    by_cases hlt : k < (endsL es).length
    · obtain ⟨m1, m2, m3⟩ := endsL_mem hgood.right _ (List.getElem_mem hlt)
      have hka : k < (alongL es order).length := by omega
      have hat : (alongL es order)[k] = decide (order.idxOf (endsL es)[k].1 ≤ order.idxOf (endsL es)[k].2) := by simp [alongL]
      have hx1 := posD_dIdx order (endsL es)[k].1
      have hx2 := posD_dIdx order (endsL es)[k].2
      have hm1 := hall _ m1 (by omega)
      have hm2 := hall _ (by omega) m3
      rw [if_pos hm1] at hx1
      rw [if_pos hm2] at hx2
      obtain ⟨y1, hg1⟩ : ∃ y, (posD order)[order.idxOf (endsL es)[k].1]? = some (y, _) := ⟨_, posD_at order _ (List.idxOf_lt_length_of_mem hm1)⟩
      obtain ⟨y2, hg2⟩ : ∃ y, (posD order)[order.idxOf (endsL es)[k].2]? = some (y, _) := ⟨_, posD_at order _ (List.idxOf_lt_length_of_mem hm2)⟩
      have hwf1 := wf_small (n := (endsL es)[k].1) (by have := hgood.n12; omega) (by have := hgood.n12; omega)
      have hwf2 := wf_small (n := (endsL es)[k].2) (by have := hgood.n12; omega) (by have := hgood.n12; omega)
      have htl : ((alongL es order).take k).length = k := by rw [List.length_take]; omega
      have hk1 : k + 1 ≤ 1048576 := by omega
      have hts : (alongL es order).take (k + 1) = (alongL es order).take k ++ [decide (order.idxOf (endsL es)[k].1 ≤ order.idxOf (endsL es)[k].2)] := by rw [List.take_succ_eq_append_getElem hka, hat]
      generalize hA : (alongL es order).take k = A at *
      generalize order.idxOf (endsL es)[k].1 = i1 at *
      generalize order.idxOf (endsL es)[k].2 = i2 at *
      generalize hP : posD order = D at *
      simp -implicitDefEqProofs (disch := omega) [List.getElem?_cons_zero, List.getElem?_cons_succ, wrap_id, hlt, hwf1, hwf2, hx1, hx2, hg1, hg2, htl, hk1]
      rw [← hP]
      exact round_end [0, 1, 2] [58, 57, 56, 13, 8] hlt rfl (by rw [hts, rowB, List.map_append]; exact norm_pos.trans rfl)
    · have hke : k = (endsL es).length := by omega
      have e1 : (alongL es order).take k = alongL es order := by rw [hke, ← hal, List.take_length]
      rw [e1, hke]
      simp -implicitDefEqProofs (disch := omega) [List.getElem?_cons_zero, List.getElem?_cons_succ, wrap_id]
      exact fin1 [2] trivial rfl (by rfl) ⟨rfl, rfl⟩
theorem aorder_err (N : Int) (es : List Ed) (order : List Int) (hel : es.length ≤ 1000) (hol : order.length ≤ 1000) (h : ordE N es order ≠ 0) :
    PC Try.prog 43 [G N es, .is order] (.tup [.p (.is []), .i (ordE N es order)]) [] := by
  refine PC_of_W cfn43 ?_
  simp -implicitDefEqProofs (disch := omega) [c43, List.getElem?_cons_zero, List.getElem?_cons_succ, wrap_id]
  by_cases hg : gcheck N es = 0
  rotate_left
  · refine HC_of_PC rfl (gends_err N es (by omega) hg) ?_
    simp -implicitDefEqProofs (disch := omega) [List.getElem?_cons_zero, List.getElem?_cons_succ, wrap_id, hg]
    refine finW (Wk_nil0 4 rfl) ?_
    (refine fin0 trivial rfl ?_; simp -implicitDefEqProofs (disch := omega) [List.getElem?_cons_zero, List.getElem?_cons_succ, idx, wrap_id, ordE, hg])
  have hgood := gcheck_ok hg
  have hrn : ordE N es order = renE N order := by rw [ordE, if_neg (by simp [hg])]
  rw [hrn] at h ⊢
  refine HC_of_PC rfl (gends_ok N es hel hg) ?_
  by_cases hl : (order.length : Int) = N
  rotate_left
  · simp -implicitDefEqProofs (disch := omega) [List.getElem?_cons_zero, List.getElem?_cons_succ, wrap_id, hl]
    refine finW (Wk_nil0 4 rfl) ?_
    (refine fin0 trivial rfl ?_; simp -implicitDefEqProofs (disch := omega) [List.getElem?_cons_zero, List.getElem?_cons_succ, idx, wrap_id, renE, hl])
  subst hl
  simp -implicitDefEqProofs (disch := omega) [List.getElem?_cons_zero, List.getElem?_cons_succ, wrap_id]
  refine loopW order.length (fun k s => s = ⟨[(32, .i k), (31, .i order.length), (30, .p (.is order)), (8, .mp 1), (6, .p (.ps (endsL es))), (2, .ptr 0 1 0 0), (1, .p (.is order)), (4, .p .nil)], [.box (.p (G order.length es)), .dict (.int .i64) (posD (order.take k))]⟩ ∧ renE order.length order = revErr order.length (order.take k) (order.drop k)) (wk_norm [0, 1] [32, 31, 30, 8, 6, 2, 1, 4] rfl rfl) ⟨rfl, by simp [renE]⟩ ?_
  rintro k s hk ⟨rfl, hI⟩
  by_cases hlt : k < order.length
  · have hd := revErr_drop order.length order k hlt
    by_cases h1 : order[k] < 0
    · rw [if_pos (.inl h1)] at hd
      simp -implicitDefEqProofs (disch := omega) [List.getElem?_cons_zero, List.getElem?_cons_succ, wrap_id, hlt, h1]
      refine finW (Wk_nil0 4 rfl) ?_
      (refine fin0 trivial rfl ?_; simp -implicitDefEqProofs (disch := omega) [List.getElem?_cons_zero, List.getElem?_cons_succ, idx, wrap_id, hI, hd])
    · by_cases h2 : (order.length : Int) ≤ order[k]
      · rw [if_pos (.inr h2)] at hd
        simp -implicitDefEqProofs (disch := omega) [List.getElem?_cons_zero, List.getElem?_cons_succ, wrap_id, hlt, h1, h2]
        refine finW (Wk_nil0 4 rfl) ?_
        (refine fin0 trivial rfl ?_; simp -implicitDefEqProofs (disch := omega) [List.getElem?_cons_zero, List.getElem?_cons_succ, idx, wrap_id, hI, hd])
      · rw [if_neg (by omega)] at hd
        have hwf := wf_small (n := order[k]) (by omega) (by have := hgood.n12; omega)
        by_cases hm : order[k] ∈ order.take k
        · have hdx := posD_dIdx (order.take k) order[k]
          rw [if_pos hm] at hdx
          rw [if_pos hm] at hd
          obtain ⟨y, hgx⟩ : ∃ y, (posD (order.take k))[(order.take k).idxOf order[k]]? = some (y, _) := ⟨_, posD_at (order.take k) _ (List.idxOf_lt_length_of_mem hm)⟩
          generalize (order.take k).idxOf order[k] = i at *
          generalize hP : posD (order.take k) = D at *
          simp -implicitDefEqProofs (disch := omega) [List.getElem?_cons_zero, List.getElem?_cons_succ, wrap_id, hlt, h1, h2, hwf, hdx, hgx]
          refine finW (Wk_nil0 4 rfl) ?_
          (refine fin0 trivial rfl ?_; simp -implicitDefEqProofs (disch := omega) [List.getElem?_cons_zero, List.getElem?_cons_succ, idx, wrap_id, hI, hd])
        · have hdx := posD_dIdx (order.take k) order[k]
          rw [if_neg hm] at hdx hd
          have hsn := posD_snoc (order.take k) order[k]
          rw [← List.take_succ_eq_append_getElem hlt, show (order.take k).length = k by rw [List.length_take]; omega] at hsn
          generalize hP : posD (order.take k) = D at *
          simp -implicitDefEqProofs (disch := omega) [List.getElem?_cons_zero, List.getElem?_cons_succ, wrap_id, hlt, h1, h2, hwf, hdx]
          rw [← hsn]
          exact round_end [0, 1] [32, 31, 30, 8, 6, 2, 1, 4] hlt rfl ⟨posD_ren2.trans rfl, by rw [hI, hd]⟩
  · rw [revErr_end _ _ _ (by omega)] at hI
    exact absurd hI h
end Go.Proofs.Ytjinjbcdbkgedaa
