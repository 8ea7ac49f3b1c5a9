/-
  Texts joined: Gn Mrb Nb Nc.
-/
import Derived.Test.YtolfhldbfeffaaaKf14

section
set_option linter.unusedSimpArgs false
set_option linter.unusedVariables false
namespace Go.Proofs.Ytolfhldbfeffaaa
open Go.Abs Go.Sand
theorem singles_ok (N : Int) (es : List Ed) : PC Try.prog 50 [G N es] (.fn (.func 68) [] [.ptr 0 1 0 0]) [.box (.p (G N es))] := by
  refine PC_of_W cfn50 ?_
  simp -implicitDefEqProofs (disch := omega) [c50, List.getElem?_cons_zero, List.getElem?_cons_succ, wrap_id]
  exact fin1 [0] trivial rfl (by rfl) ⟨rfl, rfl⟩
/-- The objects while the edges are ranged over. -/
abbrev endsH (N : Int) (es : List Ed) (lp : AO) (L : List (Int × Int)) (T : List AO) : List AO := .box (.p (G N es)) :: .box (.os 4 0 L.length) :: .box (.p (G N es)) :: lp :: .row (L.map pP) 2 96 false :: T
theorem ends_range (N : Int) (es : List Ed) (hg : ∀ x ∈ es, Right N x) (he : es.length ≤ 1000) (t : List (Nat × AV)) (ht : Abs.get t 5 = .ptr 1 1 0 0) (hf : loT 4 t = true) {K : AV → List AO → Prop}
    (hK : ∀ r, K r (endsH N es (.lp 26 t [15, 16] rc34_0a rc34_0c .ready) (endsL es) [])) :
    HC Try.prog false 68 [.yl 3, .ptr 2 1 0 0] [.box (.p (G N es)), .box (.p .nil), .box (.p (G N es)), .lp 26 t [15, 16] rc34_0a rc34_0c .ready] K := by
  have hlp : ∀ H, AO.ren H (Abs.idx [0, 1, 2, 3, 4] 0) (.lp 26 t [15, 16] rc34_0a rc34_0c .ready) = .lp 26 t [15, 16] rc34_0a rc34_0c .ready := fun H => lp_ren hf (by decide)
  have hlp5 : ∀ H, AO.ren H (Abs.idx [0, 1, 2, 3, 4, 5] 0) (.lp 26 t [15, 16] rc34_0a rc34_0c .ready) = .lp 26 t [15, 16] rc34_0a rc34_0c .ready := fun H => lp_ren hf (by decide)
  refine HC_of_W (af := _) ((by exact cfn68 : cfn _ _ _ = some _)) ?_
  simp -implicitDefEqProofs (disch := omega) [c68, List.getElem?_cons_zero, List.getElem?_cons_succ, wrap_id]
  refine loopW es.length (fun k s => s = ⟨[(9, .i k), (8, .i es.length), (7, .p (.sl (es.map edP))), (3, .i (endsL (es.take k)).length), (0, .yl 3), (1, .ptr 2 1 0 0)], endsH N es (.lp 26 t [15, 16] rc34_0a rc34_0c .ready) (endsL (es.take k)) []⟩)
    (((Wk_nilB 1 0 2 96 rfl rfl).trans (Wk_flat 1 (x := .agg [.os 4 0 0]) (y := .os 4 0 0) rfl rfl)).trans (wk_norm [0, 1, 2, 3, 4] [9, 8, 7, 3, 0, 1] rfl (by simp -implicitDefEqProofs [-AO.ren, norm, renH, ren_box, ren_fbx, ren_row, ren_tab, ren_dict, Abs.get, AV.ren, idx_at, idx_at0, hlp, show endsL [] = [] from rfl]))) rfl ?_
  rintro k s hk rfl
  have hL := endsL_take_len hg he k
  by_cases hlt : k < es.length
  · have hr := hg es[k] (List.getElem_mem hlt)
    obtain ⟨m, hm⟩ : ∃ m : Nat, es[k].m = m := ⟨es[k].m.toNat, by have := hr.m1; omega⟩
    have hm50 : m ≤ 50 := by have := hr.m50; omega
    simp -implicitDefEqProofs (disch := omega) [List.getElem?_cons_zero, List.getElem?_cons_succ, wrap_id, hlt, hm]
    refine loopS m (fun j s => s = ⟨[(15, .i j), (14, .i m), (5, .ptr 5 1 0 0), (9, .i k), (8, .i es.length), (7, .p (.sl (es.map edP))), (3, .i ((endsL (es.take k)).length + j : Nat)), (0, .yl 3), (1, .ptr 2 1 0 0)], endsH N es (.lp 26 t [15, 16] rc34_0a rc34_0c .ready) (endsL (es.take k) ++ List.replicate j (es[k].a, es[k].b)) [.box (.p (edP es[k]))]⟩)
      [0, 1, 2, 3, 4, 5] [15, 14, 5, 9, 8, 7, 3, 0, 1] rfl (by simp -implicitDefEqProofs [-AO.ren, norm, renH, ren_box, ren_fbx, ren_row, ren_tab, ren_dict, Abs.get, AV.ren, idx_at, idx_at0, hlp5, hm, endsH]) ?_
    rintro j s hj rfl
    by_cases hlj : j < m
    · have hL2 : (endsL (es.take k)).length + (j + 1) ≤ 1048576 := by omega
      simp -implicitDefEqProofs (disch := omega) [List.getElem?_cons_zero, List.getElem?_cons_succ, wrap_id, hlj]
      refine HY_of_W rfl rcc34_0a rcc34_0c rfl rfl rfl rfl ?_
      simp -implicitDefEqProofs (disch := omega) [List.getElem?_cons_zero, List.getElem?_cons_succ, wrap_id, ra34_0a, ra34_0c, ht, hL2, Nat.add_assoc]
      exact round_end [0, 1, 2, 3, 4, 5] [15, 14, 5, 9, 8, 7, 3, 0, 1] hlj rfl (by simp -implicitDefEqProofs [-AO.ren, norm, renH, ren_box, ren_fbx, ren_row, ren_tab, ren_dict, Abs.get, AV.ren, idx_at, idx_at0, hlp5, List.replicate_succ', endsH, Int.add_assoc])
    · have hjm : j = m := by omega
      subst hjm
      have hs := endsL_snoc es k hlt
      rw [hm, Int.toNat_natCast] at hs
      simp -implicitDefEqProofs (disch := omega) [List.getElem?_cons_zero, List.getElem?_cons_succ, wrap_id]
      exact round_end [0, 1, 2, 3, 4] [9, 8, 7, 3, 0, 1] hlt rfl (by simp -implicitDefEqProofs [-AO.ren, norm, renH, ren_box, ren_fbx, ren_row, ren_tab, ren_dict, Abs.get, AV.ren, idx_at, idx_at0, hlp, hs, endsH])
  · have hk : k = es.length := by omega
    subst hk
    rw [List.take_length]
    simp -implicitDefEqProofs (disch := omega) [List.getElem?_cons_zero, List.getElem?_cons_succ, wrap_id]
    exact finH trivial rfl (hK _)
theorem gends_ok (N : Int) (es : List Ed) (hel : es.length ≤ 1000) (hgc : gcheck N es = 0) : PC Try.prog 34 [G N es] (.tup [.p (.ps (endsL es)), .i 0]) [] := by
  have hg := gcheck_ok hgc
  refine PC_of_W cfn34 ?_
  simp -implicitDefEqProofs (disch := omega) [c34, List.getElem?_cons_zero, List.getElem?_cons_succ, wrap_id]
  refine HC_of_PC rfl (gcheck_ok' N es (by omega)) ?_
  simp -implicitDefEqProofs (disch := omega) [List.getElem?_cons_zero, List.getElem?_cons_succ, wrap_id, hgc]
  refine HC_of_PC rfl (singles_ok N es) ?_
  simp -implicitDefEqProofs (disch := omega) [List.getElem?_cons_zero, List.getElem?_cons_succ, wrap_id]
  refine ⟨by kernel_rfl, ends_range N es hg.right hel _ rfl rfl fun r => AfterR_ready rfl ?_⟩
  simp -implicitDefEqProofs (disch := omega) [List.getElem?_cons_zero, List.getElem?_cons_succ, wrap_id]
  (refine fin0 trivial rfl ?_; simp -implicitDefEqProofs (disch := omega) [List.getElem?_cons_zero, List.getElem?_cons_succ, idx, wrap_id])
theorem gends_err (N : Int) (es : List Ed) (hel : es.length ≤ 4611686018427387904) (hgc : gcheck N es ≠ 0) : PC Try.prog 34 [G N es] (.tup [.p .nil, .i (gcheck N es)]) [] := by
  refine PC_of_W cfn34 ?_
  simp -implicitDefEqProofs (disch := omega) [c34, List.getElem?_cons_zero, List.getElem?_cons_succ, wrap_id]
  refine HC_of_PC rfl (gcheck_ok' N es (by omega)) ?_
  simp -implicitDefEqProofs (disch := omega) [List.getElem?_cons_zero, List.getElem?_cons_succ, wrap_id, hgc]
  (refine fin0 trivial rfl ?_; simp -implicitDefEqProofs (disch := omega) [List.getElem?_cons_zero, List.getElem?_cons_succ, idx, wrap_id])
end Go.Proofs.Ytolfhldbfeffaaa
end
section
set_option linter.unusedSimpArgs false
namespace Go.Proofs.Ytolfhldbfeffaaa
open Go.Abs Go.Sand
end Go.Proofs.Ytolfhldbfeffaaa
/-
  Contracts: package slices; what a script changes.
-/
set_option linter.unusedSimpArgs false
namespace Go.Proofs.Ytolfhldbfeffaaa
open Go.Abs Go.Sand
theorem drop_any {α : Type} (p : α → Bool) (xs : List α) (k : Nat) (h : k < xs.length) : (xs.drop k).any p = (p xs[k] || (xs.drop (k + 1)).any p) := by
  rw [List.drop_eq_getElem_cons h, List.any_cons]
section
variable {e : Bool} {f : FuncId} {fs cs : List AV} {H : List AO} {p : Int → Bool} {R : AV → List AO → Prop}
end
end Go.Proofs.Ytolfhldbfeffaaa
/-
  Contracts: what a script changes, in package firing.
-/
set_option linter.unusedSimpArgs false
namespace Go.Proofs.Ytolfhldbfeffaaa
open Go.Abs Go.Sand
theorem Bd.get {B : Int} {d : List Int} (h : Bd B d) {k : Nat} (hk : k < d.length) : -B ≤ d[k] ∧ d[k] ≤ B := by
  have := h k
  rwa [getD_get hk] at this
end Go.Proofs.Ytolfhldbfeffaaa
/-
  Contracts: what a script changes, in the reference.
-/
set_option linter.unusedSimpArgs false
namespace Go.Proofs.Ytolfhldbfeffaaa
open Go.Abs Go.Sand
end Go.Proofs.Ytolfhldbfeffaaa
/-
  Contracts: what a script changes, and bounds it.
-/
set_option linter.unusedSimpArgs false
set_option linter.unusedVariables false
namespace Go.Proofs.Ytolfhldbfeffaaa
open Go.Abs Go.Sand
end Go.Proofs.Ytolfhldbfeffaaa
end
section
set_option linter.unusedSimpArgs false
set_option linter.unusedVariables false
namespace Go.Proofs.Ytolfhldbfeffaaa
open Go.Abs Go.Sand
abbrev _root_.Go.Abs.PV.bo (o : List Bool) : PV := .sl (o.map PV.b)
abbrev rowZ (c : List Int) : AO := .row (c.map PV.i) 1 3 false
abbrev rowB (o : List Bool) : AO := .row (o.map PV.b) 1 4 false
theorem gsize_ok (N : Int) (es : List Ed) (hel : es.length ≤ 1000) : PC Try.prog 18 [G N es] (.tup [.i (if gcheck N es = 0 then ((endsL es).length : Int) else 0), .i (gcheck N es)]) [] := by
  refine PC_of_W cfn18 ?_
  simp -implicitDefEqProofs (disch := omega) [c18, List.getElem?_cons_zero, List.getElem?_cons_succ, wrap_id]
  by_cases h : gcheck N es = 0
  · refine HC_of_PC rfl (gends_ok N es hel h) ?_
    simp -implicitDefEqProofs (disch := omega) [List.getElem?_cons_zero, List.getElem?_cons_succ, wrap_id, h]
    (refine fin0 trivial rfl ?_; simp -implicitDefEqProofs (disch := omega) [List.getElem?_cons_zero, List.getElem?_cons_succ, idx, wrap_id, h])
  · refine HC_of_PC rfl (gends_err N es (by omega) h) ?_
    simp -implicitDefEqProofs (disch := omega) [List.getElem?_cons_zero, List.getElem?_cons_succ, wrap_id, h]
    (refine fin0 trivial rfl ?_; simp -implicitDefEqProofs (disch := omega) [List.getElem?_cons_zero, List.getElem?_cons_succ, idx, wrap_id, h])
section
variable {N : Int} {es : List Ed} {o : List Bool} (hg : gcheck N es = 0) (hel : es.length ≤ 1000) (hol : o.length = (endsL es).length)
include hg hel hol
end
end Go.Proofs.Ytolfhldbfeffaaa
end
section
set_option linter.unusedSimpArgs false
set_option linter.unusedVariables false
namespace Go.Sand
/-- The first k of a list changed. -/
def mapK {α : Type} (f : α → α) (l : List α) (k : Nat) : List α := (l.take k).map f ++ l.drop k
theorem mapK_zero {α : Type} (f : α → α) (l : List α) : mapK f l 0 = l := by simp [mapK]
theorem mapK_all {α : Type} (f : α → α) (l : List α) : mapK f l l.length = l.map f := by simp [mapK]
theorem mapK_len {α : Type} (f : α → α) (l : List α) (k : Nat) : (mapK f l k).length = l.length := by
  simp only [mapK, List.length_append, List.length_map, List.length_take, List.length_drop]; omega
theorem mapK_at {α : Type} (f : α → α) (l : List α) (k : Nat) (h : k < l.length) : (mapK f l k)[k]'(by rw [mapK_len]; exact h) = l[k] := by
  unfold mapK
  have hm : ((l.take k).map f).length = k := by rw [List.length_map, List.length_take]; omega
  rw [List.getElem_append_right (by omega)]
  simp only [hm, Nat.sub_self, List.getElem_drop, Nat.add_zero]
theorem mapK_set {α : Type} (f : α → α) (l : List α) (k : Nat) (h : k < l.length) : (mapK f l k).set k (f l[k]) = mapK f l (k + 1) := by
  unfold mapK
  have hm : ((l.take k).map f).length = k := by rw [List.length_map, List.length_take]; omega
  rw [List.set_append_right _ _ (by omega), hm, Nat.sub_self, List.drop_eq_getElem_cons h, List.set_cons_zero, List.take_succ_eq_append_getElem h, List.map_append, List.append_assoc]
  rfl
end Go.Sand
namespace Go.Proofs.Ytolfhldbfeffaaa
open Go.Abs Go.Sand
end Go.Proofs.Ytolfhldbfeffaaa
end
