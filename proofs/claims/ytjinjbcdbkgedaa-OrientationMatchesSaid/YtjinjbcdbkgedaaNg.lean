/-
  Contracts: orientations, in the reference: cuts, directed sets.
-/
import Derived.Test.YtjinjbcdbkgedaaNf
set_option linter.unusedSimpArgs false
set_option linter.unusedVariables false
namespace Go.Proofs.Ytjinjbcdbkgedaa
open Go.Abs Go.Sand

theorem rcut_ok (n : Nat) (es : List Ed) (set : List Int) (hg : gcheck n es = 0) (hel : es.length ≤ 1000) (hsl : set.length ≤ 1000) :
    PC Try.prog 48 [G n es, .is set] (.os 0 0 (cutL (memB set) es).length) [rowZ (cutL (memB set) es)] := by
  have hgood := gcheck_ok hg
  have he := endsL_len hgood.right
  refine PC_of_W cfn48 ?_
  simp -implicitDefEqProofs (disch := omega) [c48, List.getElem?_cons_zero, List.getElem?_cons_succ, wrap_id]
  refine HC_of_PC rfl (ends_ok n es hgood.right hel) ?_
  simp -implicitDefEqProofs (disch := omega) [List.getElem?_cons_zero, List.getElem?_cons_succ, wrap_id]
  refine loopW (endsL es).length (fun k s => s = ⟨[(7, .i k), (6, .p (.ps (endsL es))), (5, .os 0 0 (selK (cutB (memB set) (endsL es)) k).length), (1, .p (.is set))], [rowZ (selK (cutB (memB set) (endsL es)) k)]⟩) ((Wk_nil 5 1 3 rfl).trans (wk_norm [1] [7, 6, 5, 1] rfl rfl)) rfl ?_
  rintro k s hk rfl
  have hsl2 := selK_len (cutB (memB set) (endsL es)) k
  have hss := selK_succ (cutB (memB set) (endsL es)) k
  by_cases hlt : k < (endsL es).length
  · have hc : cutB (memB set) (endsL es) k = (memB set (endsL es)[k].1 != memB set (endsL es)[k].2) := by unfold cutB; rw [List.getElem?_eq_getElem hlt]
    rw [hc] at hss
    generalize hS : selK (cutB (memB set) (endsL es)) k = S at *
    have hS1 : S.length ≤ 1048575 := by omega
    simp -implicitDefEqProofs (disch := omega) [List.getElem?_cons_zero, List.getElem?_cons_succ, wrap_id, hlt]
    refine HC_of_PC rfl (holds_ok set (endsL es)[k].1 (by omega)) ?_
    simp -implicitDefEqProofs (disch := omega) [List.getElem?_cons_zero, List.getElem?_cons_succ, wrap_id]
    refine HC_of_PC rfl (holds_ok set (endsL es)[k].2 (by omega)) ?_
    rw [show decide ((endsL es)[k].1 ∈ set) = memB set (endsL es)[k].1 from rfl, show decide ((endsL es)[k].2 ∈ set) = memB set (endsL es)[k].2 from rfl]
    cases hx : (memB set (endsL es)[k].1 != memB set (endsL es)[k].2)
    · rw [hx] at hss
      simp only [Bool.false_eq_true, if_false, List.append_nil] at hss
      simp -implicitDefEqProofs (disch := omega) [List.getElem?_cons_zero, List.getElem?_cons_succ, wrap_id, hx]
      exact round_end [0] [7, 6, 5, 1] hlt rfl (by rw [hss]; rfl)
    · rw [hx, if_pos rfl] at hss
      simp -implicitDefEqProofs (disch := omega) [List.getElem?_cons_zero, List.getElem?_cons_succ, wrap_id, hx, hS1]
      exact round_end [0] [7, 6, 5, 1] hlt rfl (by rw [hss, List.length_append, rowZ, List.map_append]; rfl)
  · have hke : k = (endsL es).length := by omega
    subst hke
    simp -implicitDefEqProofs (disch := omega) [List.getElem?_cons_zero, List.getElem?_cons_succ, wrap_id, hlt]
    exact fin1 [0] trivial rfl (by rfl) ⟨rfl, rfl⟩
theorem cutL_mem {f : Int → Bool} {es : List Ed} {x : Int} (h : x ∈ cutL f es) : 0 ≤ x ∧ x < (endsL es).length := by
  obtain ⟨v, rfl, h1, _⟩ := selK_mem.1 h
  omega
theorem rway_ok (n : Nat) (es : List Ed) (o : List Bool) (set : List Int) (hg : gcheck n es = 0) (hel : es.length ≤ 1000) (hol : o.length = (endsL es).length) (hsl : set.length ≤ 1000) :
    PC Try.prog 80 [G n es, .bo o, .is set] (.i (wayP (memB set) es o)) [] := by
  have hgood := gcheck_ok hg
  have he := endsL_len hgood.right
  obtain ⟨hw1, hw2⟩ := way_cut (memB set) hol
  have hcm := fun x hx => cutL_mem (f := memB set) (es := es) (x := x) hx
  have hml := arwsL_len hol
  unfold wayP
  obtain ⟨C, hC⟩ : ∃ C, C = cutL (memB set) es := ⟨_, rfl⟩
  rw [← hC] at hw1 hw2 hcm
  have hcl : C.length ≤ 50000 := by rw [hC]; exact Nat.le_trans (selK_len _ _) (by omega)
  refine PC_of_W cfn80 ?_
  simp -implicitDefEqProofs (disch := omega) [c80, List.getElem?_cons_zero, List.getElem?_cons_succ, wrap_id]
  refine HC_of_PC rfl (rcut_ok n es set hg hel hsl) ?_
  rw [← hC]
  simp -implicitDefEqProofs (disch := omega) [List.getElem?_cons_zero, List.getElem?_cons_succ, wrap_id]
  refine HC_of_PC rfl (ends_ok n es hgood.right hel) ?_
  simp -implicitDefEqProofs (disch := omega) [List.getElem?_cons_zero, List.getElem?_cons_succ, wrap_id]
  refine loopW C.length (fun k s => s = ⟨[(10, .i k), (9, .i ((C.take k).countP (tailB (memB set) (arwsL es o)))), (8, .p (.ps (endsL es))), (7, .p (.is C)), (1, .p (.bo o)), (2, .p (.is set))], []⟩) (wk_norm [] [10, 9, 8, 7, 1, 2] rfl (by simp -implicitDefEqProofs [-AO.ren, norm, renH, ren_box, ren_fbx, ren_row, ren_tab, ren_dict, Abs.get, AV.ren, idx_at, idx_at0, ])) rfl ?_
  rintro k s hk rfl
  have hcb : (C.take k).countP (tailB (memB set) (arwsL es o)) ≤ 50000 := by
    refine Nat.le_trans List.countP_le_length ?_
    rw [List.length_take]; omega
  by_cases hlt : k < C.length
  · obtain ⟨h0, h1⟩ := hcm _ (List.getElem_mem hlt)
    have hnx := countP_take (tailB (memB set) (arwsL es o)) C k hlt
    obtain ⟨u, hu⟩ : ∃ u : Nat, C[k] = u := ⟨(C[k]).toNat, by omega⟩
    have hue : u < (endsL es).length := by omega
    have huo : u < o.length := by omega
    have hua : u < (arwsL es o).length := by omega
    have hat := arwsL_at hol u hue
    have ht : tailB (memB set) (arwsL es o) C[k] = memB set (arw (endsL es)[u] o[u]).1 := by
      unfold tailB
      rw [hu, Int.toNat_natCast, List.getElem?_eq_getElem hua, hat]
    rw [ht] at hnx
    generalize hcc : (C.take k).countP (tailB (memB set) (arwsL es o)) = c at *
    simp -implicitDefEqProofs (disch := omega) [List.getElem?_cons_zero, List.getElem?_cons_succ, wrap_id, hlt, hu, hue, huo]
    refine HC_of_PC rfl (tail_ok (endsL es)[u] o[u]) ?_
    simp -implicitDefEqProofs (disch := omega) [List.getElem?_cons_zero, List.getElem?_cons_succ, wrap_id]
    refine HC_of_PC rfl (holds_ok set (arw (endsL es)[u] o[u]).1 (by omega)) ?_
    rw [show decide ((arw (endsL es)[u] o[u]).1 ∈ set) = memB set (arw (endsL es)[u] o[u]).1 from rfl]
    cases hx : memB set (arw (endsL es)[u] o[u]).1
    · rw [hx] at hnx
      simp only [Bool.false_eq_true, if_false, Nat.add_zero] at hnx
      simp -implicitDefEqProofs (disch := omega) [List.getElem?_cons_zero, List.getElem?_cons_succ, wrap_id, hx]
      exact round_end [] [10, 9, 8, 7, 1, 2] hlt rfl (by rw [hnx]; rfl)
    · rw [hx, if_pos rfl] at hnx
      simp -implicitDefEqProofs (disch := omega) [List.getElem?_cons_zero, List.getElem?_cons_succ, wrap_id, hx]
      exact round_end [] [10, 9, 8, 7, 1, 2] hlt rfl (by rw [hnx]; rfl)
  · have hke : k = C.length := by omega
    have hct : (C.take k).countP (tailB (memB set) (arwsL es o)) = outN (memB set) (arwsL es o) := by rw [hke, List.take_length]; exact hw1
    rw [hct]
    generalize outN (memB set) (arwsL es o) = a at *
    generalize intN (memB set) (arwsL es o) = b at *
    by_cases ha : 0 < a <;> by_cases hb : 0 < b
    · have hw : wayN a b = 0 := by rw [wayN, if_neg (by omega), if_neg (by omega)]
      have e1 : ¬ C.length = 0 := by omega
      have e2 : a < C.length := by omega
      simp -implicitDefEqProofs (disch := omega) [List.getElem?_cons_zero, List.getElem?_cons_succ, wrap_id, hlt, e1, e2, ha]
      (refine fin0 trivial rfl ?_; simp -implicitDefEqProofs (disch := omega) [List.getElem?_cons_zero, List.getElem?_cons_succ, idx, wrap_id, hw])
    · obtain rfl : b = 0 := by omega
      have hw : wayN a 0 = 1 := by rw [wayN, if_pos (by omega)]
      have e1 : ¬ C.length = 0 := by omega
      have e2 : ¬ a < C.length := by omega
      simp -implicitDefEqProofs (disch := omega) [List.getElem?_cons_zero, List.getElem?_cons_succ, wrap_id, hlt, e1, e2, ha]
      (refine fin0 trivial rfl ?_; simp -implicitDefEqProofs (disch := omega) [List.getElem?_cons_zero, List.getElem?_cons_succ, idx, wrap_id, hw])
    · obtain rfl : a = 0 := by omega
      have hw : wayN 0 b = -1 := by rw [wayN, if_neg (by omega), if_pos (by omega)]
      have e1 : ¬ C.length = 0 := by omega
      simp -implicitDefEqProofs (disch := omega) [List.getElem?_cons_zero, List.getElem?_cons_succ, wrap_id, hlt, e1]
      (refine fin0 trivial rfl ?_; simp -implicitDefEqProofs (disch := omega) [List.getElem?_cons_zero, List.getElem?_cons_succ, idx, wrap_id, hw])
    · obtain rfl : a = 0 := by omega
      obtain rfl : b = 0 := by omega
      have e1 : C = [] := List.length_eq_zero_iff.1 (by omega)
      subst e1
      obtain rfl : k = 0 := by simpa using hke
      simp -implicitDefEqProofs (disch := omega) [List.getElem?_cons_zero, List.getElem?_cons_succ, wrap_id]
      (refine fin0 trivial rfl ?_; simp -implicitDefEqProofs (disch := omega) [List.getElem?_cons_zero, List.getElem?_cons_succ, idx, wrap_id, show wayN 0 0 = 0 from rfl])
theorem rdirected_ok (N : Int) (es : List Ed) (o : List Bool) (set : List Int) (hel : es.length ≤ 1000) (ho : o.length ≤ 100) (hsl : set.length ≤ 1000) :
    PC Try.prog 37 [G N es, .bo o, .is set] (.tup [.i (if dirE N es o set = 0 then wayP (memB set) es o else 0), .i (dirE N es o set)]) [] := by
  refine PC_of_W cfn37 ?_
  simp -implicitDefEqProofs (disch := omega) [c37, List.getElem?_cons_zero, List.getElem?_cons_succ, wrap_id]
  refine HC_of_PC rfl (rocheck_ok N es o hel (by omega)) ?_
  by_cases h0 : oE N es o = 0
  rotate_left
  · simp -implicitDefEqProofs (disch := omega) [List.getElem?_cons_zero, List.getElem?_cons_succ, wrap_id, h0]
    (refine fin0 trivial rfl ?_; simp -implicitDefEqProofs (disch := omega) [List.getElem?_cons_zero, List.getElem?_cons_succ, idx, wrap_id, dirE, h0])
  obtain ⟨hg, hol⟩ := oE_ok h0
  have hgood := gcheck_ok hg
  obtain ⟨n, rfl⟩ : ∃ n : Nat, N = n := ⟨N.toNat, by have := hgood.n1; omega⟩
  simp -implicitDefEqProofs (disch := omega) [List.getElem?_cons_zero, List.getElem?_cons_succ, wrap_id, h0]
  refine HC_of_PC rfl (rsubset_ok n es set (by omega)) ?_
  by_cases h1 : subErr n (-1) set = 0
  rotate_left
  · simp -implicitDefEqProofs (disch := omega) [List.getElem?_cons_zero, List.getElem?_cons_succ, wrap_id, h1]
    (refine fin0 trivial rfl ?_; simp -implicitDefEqProofs (disch := omega) [List.getElem?_cons_zero, List.getElem?_cons_succ, idx, wrap_id, dirE, h0, h1])
  have hdd : dirE n es o set = 0 := by rw [dirE, if_neg (by simp [h0]), h1]
  simp -implicitDefEqProofs (disch := omega) [List.getElem?_cons_zero, List.getElem?_cons_succ, wrap_id, h1]
  refine HC_of_PC rfl (rway_ok n es o set hg hel hol hsl) ?_
  simp -implicitDefEqProofs (disch := omega) [List.getElem?_cons_zero, List.getElem?_cons_succ, wrap_id]
  (refine fin0 trivial rfl ?_; simp -implicitDefEqProofs (disch := omega) [List.getElem?_cons_zero, List.getElem?_cons_succ, idx, wrap_id, hdd])
end Go.Proofs.Ytjinjbcdbkgedaa
