/-
  Contracts: the single edges, one after the other: graph.Ends.
-/
import Derived.Test.YtgbmdikkdjogpaaMra
import Derived.Test.YtgbmdikkdjogpaaMae
set_option linter.unusedSimpArgs false
set_option linter.unusedVariables false
namespace Go.Proofs.Ytgbmdikkdjogpaa
open Go.Abs Go.Sand

theorem singles_ok (N : Int) (es : List Ed) : PC Try.prog 65 [G N es] (.fn (.func 82) [] [.ptr 0 1 0 0]) [.box (.p (G N es))] := by
  refine PC_of_W cfn65 ?_
  simp -implicitDefEqProofs (disch := omega) [c65, List.getElem?_cons_zero, List.getElem?_cons_succ, wrap_id]
  exact fin1 [0] trivial rfl (by rfl) ⟨rfl, rfl⟩
/-- The objects while the edges are ranged over. -/
abbrev endsH (N : Int) (es : List Ed) (lp : AO) (L : List (Int × Int)) (T : List AO) : List AO := .box (.p (G N es)) :: .box (.os 4 0 L.length) :: .box (.p (G N es)) :: lp :: .row (L.map pP) 2 92 false :: T
theorem ends_range (N : Int) (es : List Ed) (hg : ∀ x ∈ es, Right N x) (he : es.length ≤ 1000) (t : List (Nat × AV)) (ht : Abs.get t 5 = .ptr 1 1 0 0) (hf : loT 4 t = true) {K : AV → List AO → Prop}
    (hK : ∀ r, K r (endsH N es (.lp 26 t [15, 16] rc48_0a rc48_0c .ready) (endsL es) [])) :
    HC Try.prog false 82 [.yl 3, .ptr 2 1 0 0] [.box (.p (G N es)), .box (.p .nil), .box (.p (G N es)), .lp 26 t [15, 16] rc48_0a rc48_0c .ready] K := by
  have hlp : ∀ H, AO.ren H (Abs.idx [0, 1, 2, 3, 4] 0) (.lp 26 t [15, 16] rc48_0a rc48_0c .ready) = .lp 26 t [15, 16] rc48_0a rc48_0c .ready := fun H => lp_ren hf (by decide)
  have hlp5 : ∀ H, AO.ren H (Abs.idx [0, 1, 2, 3, 4, 5] 0) (.lp 26 t [15, 16] rc48_0a rc48_0c .ready) = .lp 26 t [15, 16] rc48_0a rc48_0c .ready := fun H => lp_ren hf (by decide)
  refine HC_of_W (af := _) ((by exact cfn82 : cfn _ _ _ = some _)) ?_
  simp -implicitDefEqProofs (disch := omega) [c82, List.getElem?_cons_zero, List.getElem?_cons_succ, wrap_id]
  refine loopW es.length (fun k s => s = ⟨[(9, .i k), (8, .i es.length), (7, .p (.sl (es.map edP))), (3, .i (endsL (es.take k)).length), (0, .yl 3), (1, .ptr 2 1 0 0)], endsH N es (.lp 26 t [15, 16] rc48_0a rc48_0c .ready) (endsL (es.take k)) []⟩)
    (((Wk_nilB 1 0 2 92 rfl rfl).trans (Wk_flat 1 (x := .agg [.os 4 0 0]) (y := .os 4 0 0) rfl rfl)).trans (wk_norm [0, 1, 2, 3, 4] [9, 8, 7, 3, 0, 1] rfl (by simp -implicitDefEqProofs [-AO.ren, norm, renH, ren_box, ren_fbx, ren_row, ren_tab, ren_dict, Abs.get, AV.ren, idx_at, idx_at0, hlp, show endsL [] = [] from rfl]))) rfl ?_
  rintro k s hk rfl
  have hL := endsL_take_len hg he k
  by_cases hlt : k < es.length
  · have hr := hg es[k] (List.getElem_mem hlt)
    obtain ⟨m, hm⟩ : ∃ m : Nat, es[k].m = m := ⟨es[k].m.toNat, by have := hr.m1; omega⟩
    have hm50 : m ≤ 50 := by have := hr.m50; omega
    simp -implicitDefEqProofs (disch := omega) [List.getElem?_cons_zero, List.getElem?_cons_succ, wrap_id, hlt, hm]
    refine loopS m (fun j s => s = ⟨[(15, .i j), (14, .i m), (5, .ptr 5 1 0 0), (9, .i k), (8, .i es.length), (7, .p (.sl (es.map edP))), (3, .i ((endsL (es.take k)).length + j : Nat)), (0, .yl 3), (1, .ptr 2 1 0 0)], endsH N es (.lp 26 t [15, 16] rc48_0a rc48_0c .ready) (endsL (es.take k) ++ List.replicate j (es[k].a, es[k].b)) [.box (.p (edP es[k]))]⟩)
      [0, 1, 2, 3, 4, 5] [15, 14, 5, 9, 8, 7, 3, 0, 1] rfl (by simp -implicitDefEqProofs [-AO.ren, norm, renH, ren_box, ren_fbx, ren_row, ren_tab, ren_dict, Abs.get, AV.ren, idx_at, idx_at0, hlp5, hm, endsH]) ?_
    rintro j s hj rfl
    by_cases hlj : j < m
    · have hL2 : (endsL (es.take k)).length + (j + 1) ≤ 1048576 := by omega
      simp -implicitDefEqProofs (disch := omega) [List.getElem?_cons_zero, List.getElem?_cons_succ, wrap_id, hlj]
      refine HY_of_W rfl rcc48_0a rcc48_0c rfl rfl rfl rfl ?_
      simp -implicitDefEqProofs (disch := omega) [List.getElem?_cons_zero, List.getElem?_cons_succ, wrap_id, ra48_0a, ra48_0c, ht, hL2, Nat.add_assoc]
      exact round_end [0, 1, 2, 3, 4, 5] [15, 14, 5, 9, 8, 7, 3, 0, 1] hlj rfl (by simp -implicitDefEqProofs [-AO.ren, norm, renH, ren_box, ren_fbx, ren_row, ren_tab, ren_dict, Abs.get, AV.ren, idx_at, idx_at0, hlp5, List.replicate_succ', endsH, Int.add_assoc])
    · have hjm : j = m := by omega
      subst hjm
      have hs := endsL_snoc es k hlt
      rw [hm, Int.toNat_natCast] at hs
      simp -implicitDefEqProofs (disch := omega) [List.getElem?_cons_zero, List.getElem?_cons_succ, wrap_id]
      exact round_end [0, 1, 2, 3, 4] [9, 8, 7, 3, 0, 1] hlt rfl (by simp -implicitDefEqProofs [-AO.ren, norm, renH, ren_box, ren_fbx, ren_row, ren_tab, ren_dict, Abs.get, AV.ren, idx_at, idx_at0, hlp, hs, endsH])
  · have hk : k = es.length := by omega
    subst hk
    rw [List.take_length]
    simp -implicitDefEqProofs (disch := omega) [List.getElem?_cons_zero, List.getElem?_cons_succ, wrap_id]
    exact finH trivial rfl (hK _)
theorem gends_ok (N : Int) (es : List Ed) (hel : es.length ≤ 1000) (hgc : gcheck N es = 0) : PC Try.prog 48 [G N es] (.tup [.p (.ps (endsL es)), .i 0]) [] := by
  have hg := gcheck_ok hgc
  refine PC_of_W cfn48 ?_
  simp -implicitDefEqProofs (disch := omega) [c48, List.getElem?_cons_zero, List.getElem?_cons_succ, wrap_id]
  refine HC_of_PC rfl (gcheck_ok' N es (by omega)) ?_
  simp -implicitDefEqProofs (disch := omega) [List.getElem?_cons_zero, List.getElem?_cons_succ, wrap_id, hgc]
  refine HC_of_PC rfl (singles_ok N es) ?_
  simp -implicitDefEqProofs (disch := omega) [List.getElem?_cons_zero, List.getElem?_cons_succ, wrap_id]
  refine ⟨by kernel_rfl, ends_range N es hg.right hel _ rfl rfl fun r => AfterR_ready rfl ?_⟩
  simp -implicitDefEqProofs (disch := omega) [List.getElem?_cons_zero, List.getElem?_cons_succ, wrap_id]
  (refine fin0 trivial rfl ?_; simp -implicitDefEqProofs (disch := omega) [List.getElem?_cons_zero, List.getElem?_cons_succ, idx, wrap_id])
theorem gends_err (N : Int) (es : List Ed) (hel : es.length ≤ 4611686018427387904) (hgc : gcheck N es ≠ 0) : PC Try.prog 48 [G N es] (.tup [.p .nil, .i (gcheck N es)]) [] := by
  refine PC_of_W cfn48 ?_
  simp -implicitDefEqProofs (disch := omega) [c48, List.getElem?_cons_zero, List.getElem?_cons_succ, wrap_id]
  refine HC_of_PC rfl (gcheck_ok' N es (by omega)) ?_
  simp -implicitDefEqProofs (disch := omega) [List.getElem?_cons_zero, List.getElem?_cons_succ, wrap_id, hgc]
  (refine fin0 trivial rfl ?_; simp -implicitDefEqProofs (disch := omega) [List.getElem?_cons_zero, List.getElem?_cons_succ, idx, wrap_id])
end Go.Proofs.Ytgbmdikkdjogpaa
