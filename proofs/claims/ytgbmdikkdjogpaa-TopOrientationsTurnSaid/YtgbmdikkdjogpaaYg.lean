/-
  The law of the turned orientation, up to its fixed example.
-/
import Derived.Test.YtgbmdikkdjogpaaYf
set_option linter.unusedSimpArgs false
set_option linter.unusedVariables false
namespace Go.Proofs.Ytgbmdikkdjogpaa
open Go.Abs Go.Sand

theorem rocheck_any (N : Int) (es : List Ed) (o : List Bool) (hel : es.length ≤ 1000) : PC Try.prog 6 [G N es, .bo o] (.i (oE N es o)) [] := by
  refine PC_of_W cfn6 ?_
  simp -implicitDefEqProofs (disch := omega) [c6, List.getElem?_cons_zero, List.getElem?_cons_succ, wrap_id]
  refine HC_of_PC rfl (rcheck_ok N es (by omega)) ?_
  by_cases h : gcheck N es = 0
  · have hgood := gcheck_ok h
    simp -implicitDefEqProofs (disch := omega) [List.getElem?_cons_zero, List.getElem?_cons_succ, wrap_id, h]
    refine HC_of_PC rfl (size_ok N es hgood.right hel) ?_
    by_cases h2 : o.length = (endsL es).length
    · have h2' : (o.length : Int) = (endsL es).length := by omega
      simp -implicitDefEqProofs (disch := omega) [List.getElem?_cons_zero, List.getElem?_cons_succ, wrap_id, h2']
      (refine fin0 trivial rfl ?_; simp -implicitDefEqProofs (disch := omega) [List.getElem?_cons_zero, List.getElem?_cons_succ, idx, wrap_id, oE, h, h2])
    · have h2' : ¬ (o.length : Int) = (endsL es).length := by omega
      simp -implicitDefEqProofs (disch := omega) [List.getElem?_cons_zero, List.getElem?_cons_succ, wrap_id, h2']
      (refine fin0 trivial rfl ?_; simp -implicitDefEqProofs (disch := omega) [List.getElem?_cons_zero, List.getElem?_cons_succ, idx, wrap_id, oE, h, h2])
  · simp -implicitDefEqProofs (disch := omega) [List.getElem?_cons_zero, List.getElem?_cons_succ, wrap_id, h]
    (refine fin0 trivial rfl ?_; simp -implicitDefEqProofs (disch := omega) [List.getElem?_cons_zero, List.getElem?_cons_succ, idx, wrap_id, oE, h])
theorem plain_at {N : Int} {es : List Ed} (h : plainB N es = true) : ∃ n : Nat, N = n ∧ connE n es = 0 ∧ GoodG n es ∧ es.any lpB = false ∧ es.length ≤ 40 ∧ (endsL es).length ≤ 7 ∧ 1 ≤ n ∧ n ≤ 5 := by
  simp only [plainB, Bool.and_eq_true, decide_eq_true_eq, Bool.not_eq_true'] at h
  obtain ⟨⟨hs, hc⟩, hl⟩ := h
  have hg := (conn_good hc).1
  have hgg := gcheck_ok hg
  have h1 := hgg.n1
  obtain ⟨n, rfl⟩ : ∃ n : Nat, N = n := ⟨N.toNat, by omega⟩
  have hel := smallG_len hs
  simp only [smallG, Bool.and_eq_true, Bool.or_eq_true, decide_eq_true_eq] at hs
  rcases hs.2 with h2 | h2
  · exact absurd hg h2
  · exact ⟨n, rfl, hc, hgg, hl, hel, by omega, by omega, by omega⟩
set_option maxRecDepth 10000 in
theorem turn_law (hplay : PC Try.prog 7 [] (.b true) []) (N : Int) (es : List Ed) (o : List Bool) : PC Try.prog 3 [G N es, .bo o] (.b true) [] := by
  refine PC_of_W cfn3 ?_
  simp -implicitDefEqProofs (disch := omega) [c3, List.getElem?_cons_zero, List.getElem?_cons_succ, wrap_id]
  refine HC_of_PC rfl (plain_ok N es) ?_
  cases hp : plainB N es
  · simp -implicitDefEqProofs (disch := omega) [List.getElem?_cons_zero, List.getElem?_cons_succ, wrap_id]
    refine HC_of_PC rfl (hplay) ?_
    simp -implicitDefEqProofs (disch := omega) [List.getElem?_cons_zero, List.getElem?_cons_succ, wrap_id]
    (refine fin0 trivial rfl ?_; simp -implicitDefEqProofs (disch := omega) [List.getElem?_cons_zero, List.getElem?_cons_succ, idx, wrap_id])
  obtain ⟨n, rfl, hc, hgg, hlp, hel, hm7, hn1, hn5⟩ := plain_at hp
  have hg := (conn_good hc).1
  simp -implicitDefEqProofs (disch := omega) [List.getElem?_cons_zero, List.getElem?_cons_succ, wrap_id]
  refine HC_of_PC rfl (rocheck_any n es o (by omega)) ?_
  by_cases ho : oE n es o = 0
  rotate_left
  · simp -implicitDefEqProofs (disch := omega) [List.getElem?_cons_zero, List.getElem?_cons_succ, wrap_id, ho]
    refine HC_of_PC rfl (hplay) ?_
    simp -implicitDefEqProofs (disch := omega) [List.getElem?_cons_zero, List.getElem?_cons_succ, wrap_id]
    (refine fin0 trivial rfl ?_; simp -implicitDefEqProofs (disch := omega) [List.getElem?_cons_zero, List.getElem?_cons_succ, idx, wrap_id])
  obtain ⟨-, hol⟩ := oE_ok ho
  simp -implicitDefEqProofs (disch := omega) [List.getElem?_cons_zero, List.getElem?_cons_succ, wrap_id, ho]
  obtain ⟨m, hm⟩ : ∃ m, m = o.length := ⟨_, rfl⟩
  have hm7' : m ≤ 7 := by omega
  have h0 : (St.mk [(28, AV.i 0), (27, .i m), (5, .os 1 0 0), (2, .ptr 0 1 0 0), (1, .p (.bo o))] [.box (.p (G n es)), .row [] 1 3 false]) = St.mk [(28, AV.i (0 : Nat)), (27, .i m), (5, .os 1 0 (0 : Nat)), (2, .ptr 0 1 0 0), (1, .p (.bo o))] [.box (.p (G n es)), rowZ (allI 0)] := rfl
  rw [← hm]
  refine loopW m (fun k st => st = ⟨[(28, .i k), (27, .i m), (5, .os 1 0 k), (2, .ptr 0 1 0 0), (1, .p (.bo o))], [.box (.p (G n es)), rowZ (allI k)]⟩)
    ((Wk_nil 5 1 3 rfl).trans (wk_norm [0, 1] [28, 27, 5, 2, 1] rfl rfl)) h0 ?_
  rintro k st hk rfl
  have hak := allI_len k
  by_cases hkt : k < m
  · have hsn : rowZ (allI (k + 1)) = .row ((allI k).map PV.i ++ [PV.i k]) 1 3 false := by rw [allI_succ, rowZ, List.map_append]; rfl
    obtain ⟨A, hA⟩ : ∃ A, A = allI k := ⟨_, rfl⟩
    rw [← hA] at hak hsn ⊢
    have hkb : k ≤ 1048575 := by omega
    simp -implicitDefEqProofs (disch := omega) [List.getElem?_cons_zero, List.getElem?_cons_succ, wrap_id, hkt, hak, hkb]
    exact round_end [0, 1] [28, 27, 5, 2, 1] hkt rfl (by show _ = _; rw [hsn]; rfl)
  have hkm : k = m := by omega
  subst hkm
  have hrv : rvE n es o (allI k) = 0 := by
    rw [rvE, if_neg (by simp [ho])]
    exact revErr_of (fun x hx => by rw [← hm]; exact allI_mem hx) (allI_nodup k) (fun x _ h => by simp at h)
  have hfl : flipL o (allI k) = o.map (!·) := by rw [hm]; exact flip_full o
  have hol2 : oE n es (o.map (!·)) = 0 := oE_of hg (by rw [List.length_map]; exact hol)
  have hnl : (o.map (!·)).length = k := by rw [List.length_map, hm]
  have hdl := inL_len n es o
  have hdl1 : (divL n es o).length = n := by simp [divL, inL_len]
  have hdl2 : (divL n es (o.map (!·))).length = n := by simp [divL, inL_len]
  have hcl := canL_len n es
  have hsum := turn_sum hgg hlp hol
  simp -implicitDefEqProofs (disch := omega) [List.getElem?_cons_zero, List.getElem?_cons_succ, wrap_id, hkt, hak]
  refine HC_of_PC (by simp [views, view, viewC, hak]) (areverse_ok n es o (allI k) (by omega) (by omega) (by omega) hrv) ?_
  rw [hfl]
  obtain ⟨o2, ho2⟩ : ∃ o2, o2 = o.map (!·) := ⟨_, rfl⟩
  rw [← ho2] at hol2 hnl hdl2 hsum ⊢
  rw [← hm]
  simp -implicitDefEqProofs (disch := omega) [List.getElem?_cons_zero, List.getElem?_cons_succ, wrap_id, hnl]
  refine HC_of_PC rfl (adivisor_ok n es o (by omega) (by omega) ho) ?_
  obtain ⟨D1, hD1⟩ : ∃ D1, D1 = divL n es o := ⟨_, rfl⟩
  rw [← hD1] at hdl1 hsum ⊢
  simp -implicitDefEqProofs (disch := omega) [List.getElem?_cons_zero, List.getElem?_cons_succ, wrap_id, hnl, hdl1]
  refine HC_of_PC (by simp [views, view, viewC, hnl]) (adivisor_ok n es o2 (by omega) (by omega) hol2) ?_
  obtain ⟨D2, hD2⟩ : ∃ D2, D2 = divL n es o2 := ⟨_, rfl⟩
  rw [← hD2] at hdl2 hsum ⊢
  simp -implicitDefEqProofs (disch := omega) [List.getElem?_cons_zero, List.getElem?_cons_succ, wrap_id, hnl, hdl1, hdl2]
  refine HC_of_PC rfl (canonical_ok n es (by omega) hc) ?_
  obtain ⟨C, hC⟩ : ∃ C, C = canL n es := ⟨_, rfl⟩
  rw [← hC] at hcl hsum ⊢
  simp -implicitDefEqProofs (disch := omega) [List.getElem?_cons_zero, List.getElem?_cons_succ, wrap_id, hnl, hdl1, hdl2, hcl]
  have hcb : ∀ v : Nat, v < n → -2 ≤ C.getD v 0 ∧ C.getD v 0 ≤ 2000 := fun v hv => by
    have h1 := valS_bd hgg.right (v : Int)
    have h2 : C.getD v 0 = valS es v - 2 := by rw [hC]; simp [canL, List.getD_eq_getElem?_getD, hv]
    omega
  refine loopW n (fun v st => st = ⟨[(91, .i v), (90, .i n), (9, .os 0 0 n), (11, .os 1 0 n), (13, .os 2 0 n)], [rowZ D1, rowZ D2, rowZ C]⟩)
    (wk_norm [3, 4, 5] [91, 90, 9, 11, 13] rfl rfl) rfl ?_
  rintro v st hv rfl
  by_cases hvt : v < n
  · have h1 := hsum v hvt
    have h2 := hcb v hvt
    have v1 : v < D1.length := by omega
    have v2 : v < D2.length := by omega
    have v3 : v < C.length := by omega
    rw [getD_get v1, getD_get v2, getD_get v3] at h1
    rw [getD_get v3] at h2
    simp -implicitDefEqProofs (disch := omega) [List.getElem?_cons_zero, List.getElem?_cons_succ, wrap_id, hvt, v1, v2, v3, hdl1, hdl2, hcl, h1]
    exact round_end [0, 1, 2] [91, 90, 9, 11, 13] hvt rfl rfl
  simp -implicitDefEqProofs (disch := omega) [List.getElem?_cons_zero, List.getElem?_cons_succ, wrap_id, hvt]
  refine HC_of_PC rfl (hplay) ?_
  simp -implicitDefEqProofs (disch := omega) [List.getElem?_cons_zero, List.getElem?_cons_succ, wrap_id]
  (refine fin0 trivial rfl ?_; simp -implicitDefEqProofs (disch := omega) [List.getElem?_cons_zero, List.getElem?_cons_succ, idx, wrap_id])
end Go.Proofs.Ytgbmdikkdjogpaa
