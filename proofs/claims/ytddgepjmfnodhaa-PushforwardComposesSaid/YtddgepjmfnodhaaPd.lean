/-
  Contracts: Push, Pull, PushScript and PullScript, on both sides.
-/
import Derived.Test.YtddgepjmfnodhaaPc
set_option linter.unusedSimpArgs false
set_option linter.unusedVariables false
namespace Go.Proofs.Ytddgepjmfnodhaa
open Go.Abs Go.Sand

theorem wgt_f (g h : Gr) (m : Mo) (v : Nat) : wgt g h m false v = 1 := rfl
theorem wgt_t (g h : Gr) (m : Mo) (v : Nat) : wgt g h m true v = mM g h m v := rfl
abbrev pushL (g h : Gr) (m : Mo) (b : Bool) (d : List Int) : List Int := sumF m (wgt g h m b) d h.1.toNat g.1.toNat
abbrev pullL (g h : Gr) (m : Mo) (b : Bool) (d : List Int) : List Int := lifF m (wgt g h m b) d g.1.toNat
theorem graph_gc {N : Int} {es : List Ed} (h : graphE N es = 0) : gcheck N es = 0 := by
  unfold graphE at h
  split at h
  · rename_i h1; exact absurd h h1
  · rename_i h1; exact (conn_good (Decidable.not_not.1 h1)).1
theorem errs_gc {g h : Gr} {m : Mo} (hc : coverE g h m = 0) : gcheck g.1 g.2 = 0 ∧ gcheck h.1 h.2 = 0 := ⟨graph_gc (errs_zero hc).1, graph_gc (errs_zero hc).2⟩
section
variable (g h : Gr) (m : Mo) (hs : Sm g h m)
include hs
theorem rpush_ok (d : List Int) (hd : d.length ≤ 4611686018427387904) (by' : Bool) : PC Try.prog 13 [GrP g, GrP h, MoP m, .is d, .b true, .b by'] (puR (degE g h m) (dcheck d g.1) (pushL g h m by' d)) [] := by
  suffices key : ∀ E : Int, E = puE (degE g h m) (dcheck d g.1) (pushL g h m by' d) → PC Try.prog 13 [GrP g, GrP h, MoP m, .is d, .b true, .b by'] (.tup [.p (if E = 0 then .is (pushL g h m by' d) else .nil), .i E]) [] from key _ rfl
  intro E hE0
  refine PC_of_W cfn13 ?_
  simp -implicitDefEqProofs (disch := omega) [c13, List.getElem?_cons_zero, List.getElem?_cons_succ, wrap_id]
  refine HC_of_PC rfl (given52_ok g h m hs) ?_
  by_cases h1 : degE g h m = 0
  rotate_left
  · have hE : E = degE g h m := hE0.trans (pu_1 h1)
    simp -implicitDefEqProofs (disch := omega) [List.getElem?_cons_zero, List.getElem?_cons_succ, wrap_id, h1]
    (refine fin0 trivial rfl ?_; simp -implicitDefEqProofs (disch := omega) [List.getElem?_cons_zero, List.getElem?_cons_succ, idx, wrap_id, hE, h1])
  simp -implicitDefEqProofs (disch := omega) [List.getElem?_cons_zero, List.getElem?_cons_succ, wrap_id, h1]
  refine HC_of_PC rfl (dcheck_ok d g.1 hd) ?_
  by_cases h2 : dcheck d g.1 = 0
  rotate_left
  · have hE : E = dcheck d g.1 := hE0.trans (pu_2 h1 h2)
    simp -implicitDefEqProofs (disch := omega) [List.getElem?_cons_zero, List.getElem?_cons_succ, wrap_id, h2]
    (refine fin0 trivial rfl ?_; simp -implicitDefEqProofs (disch := omega) [List.getElem?_cons_zero, List.getElem?_cons_succ, idx, wrap_id, hE, h2, h1])
  obtain ⟨hc, hh⟩ := deg_ok h1
  obtain ⟨n, k, c⟩ := cov_of hc
  have hgn := c.gn
  have hhk := c.hk
  have n12 := c.gg.n12
  have k12 := c.hg.n12
  have hL : pushL g h m by' d = sumF m (wgt g h m by') d k n := by simp only [pushL, pullL, hgn, hhk, Int.toNat_natCast]
  rw [hL]
  have hE : E = bndE (sumF m (wgt g h m by') d k n) := by rw [hE0, hL]; exact pu_3 h1 h2
  have h2' := h2
  simp only [hgn, hhk] at h2'
  have hdl := (dchk_good h2').1
  have hbd := (dchk_good h2').2.2
  simp -implicitDefEqProofs (disch := omega) [List.getElem?_cons_zero, List.getElem?_cons_succ, wrap_id, h2]
  refine HC_of_PC rfl (summed_ok g h m n k hs c d hdl hbd by') ?_
  simp -implicitDefEqProofs (disch := omega) [List.getElem?_cons_zero, List.getElem?_cons_succ, wrap_id]
  refine HC_of_PC rfl (rbnd_ok _ (by simp only [sumF, lifF, lsF_len]; omega)) ?_
  simp -implicitDefEqProofs (disch := omega) [List.getElem?_cons_zero, List.getElem?_cons_succ, wrap_id]
  (refine fin0 trivial rfl ?_; simp -implicitDefEqProofs (disch := omega) [List.getElem?_cons_zero, List.getElem?_cons_succ, idx, wrap_id, hE])
theorem rpull_ok (d : List Int) (hd : d.length ≤ 4611686018427387904) (by' : Bool) : PC Try.prog 13 [GrP g, GrP h, MoP m, .is d, .b false, .b by'] (puR (degE g h m) (dcheck d h.1) (pullL g h m by' d)) [] := by
  suffices key : ∀ E : Int, E = puE (degE g h m) (dcheck d h.1) (pullL g h m by' d) → PC Try.prog 13 [GrP g, GrP h, MoP m, .is d, .b false, .b by'] (.tup [.p (if E = 0 then .is (pullL g h m by' d) else .nil), .i E]) [] from key _ rfl
  intro E hE0
  refine PC_of_W cfn13 ?_
  simp -implicitDefEqProofs (disch := omega) [c13, List.getElem?_cons_zero, List.getElem?_cons_succ, wrap_id]
  refine HC_of_PC rfl (given52_ok g h m hs) ?_
  by_cases h1 : degE g h m = 0
  rotate_left
  · have hE : E = degE g h m := hE0.trans (pu_1 h1)
    simp -implicitDefEqProofs (disch := omega) [List.getElem?_cons_zero, List.getElem?_cons_succ, wrap_id, h1]
    (refine fin0 trivial rfl ?_; simp -implicitDefEqProofs (disch := omega) [List.getElem?_cons_zero, List.getElem?_cons_succ, idx, wrap_id, hE, h1])
  simp -implicitDefEqProofs (disch := omega) [List.getElem?_cons_zero, List.getElem?_cons_succ, wrap_id, h1]
  refine HC_of_PC rfl (dcheck_ok d h.1 hd) ?_
  by_cases h2 : dcheck d h.1 = 0
  rotate_left
  · have hE : E = dcheck d h.1 := hE0.trans (pu_2 h1 h2)
    simp -implicitDefEqProofs (disch := omega) [List.getElem?_cons_zero, List.getElem?_cons_succ, wrap_id, h2]
    (refine fin0 trivial rfl ?_; simp -implicitDefEqProofs (disch := omega) [List.getElem?_cons_zero, List.getElem?_cons_succ, idx, wrap_id, hE, h2, h1])
  obtain ⟨hc, hh⟩ := deg_ok h1
  obtain ⟨n, k, c⟩ := cov_of hc
  have hgn := c.gn
  have hhk := c.hk
  have n12 := c.gg.n12
  have k12 := c.hg.n12
  have hL : pullL g h m by' d = lifF m (wgt g h m by') d n := by simp only [pushL, pullL, hgn, hhk, Int.toNat_natCast]
  rw [hL]
  have hE : E = bndE (lifF m (wgt g h m by') d n) := by rw [hE0, hL]; exact pu_3 h1 h2
  have h2' := h2
  simp only [hgn, hhk] at h2'
  have hdl := (dchk_good h2').1
  have hbd := (dchk_good h2').2.2
  simp -implicitDefEqProofs (disch := omega) [List.getElem?_cons_zero, List.getElem?_cons_succ, wrap_id, h2]
  refine HC_of_PC rfl (rlifted_ok g h m n k hs c d hdl hbd by') ?_
  simp -implicitDefEqProofs (disch := omega) [List.getElem?_cons_zero, List.getElem?_cons_succ, wrap_id]
  refine HC_of_PC rfl (rbnd_ok _ (by simp only [sumF, lifF, lsF_len]; omega)) ?_
  simp -implicitDefEqProofs (disch := omega) [List.getElem?_cons_zero, List.getElem?_cons_succ, wrap_id]
  (refine fin0 trivial rfl ?_; simp -implicitDefEqProofs (disch := omega) [List.getElem?_cons_zero, List.getElem?_cons_succ, idx, wrap_id, hE])
theorem push_ok (d : List Int) (hd : d.length ≤ 4611686018427387904) : PC Try.prog 12 [GrP g, GrP h, MoP m, .is d] (puR (degE g h m) (dcheck d g.1) (pushL g h m false d)) [] := by
  suffices key : ∀ E : Int, E = puE (degE g h m) (dcheck d g.1) (pushL g h m false d) → PC Try.prog 12 [GrP g, GrP h, MoP m, .is d] (.tup [.p (if E = 0 then .is (pushL g h m false d) else .nil), .i E]) [] from key _ rfl
  intro E hE0
  refine PC_of_W cfn12 ?_
  simp -implicitDefEqProofs (disch := omega) [c12, List.getElem?_cons_zero, List.getElem?_cons_succ, wrap_id]
  refine HC_of_PC rfl (mults52_ok g h m hs) ?_
  by_cases h1 : degE g h m = 0
  rotate_left
  · have hE : E = degE g h m := hE0.trans (pu_1 h1)
    simp -implicitDefEqProofs (disch := omega) [List.getElem?_cons_zero, List.getElem?_cons_succ, wrap_id, h1]
    (refine fin0 trivial rfl ?_; simp -implicitDefEqProofs (disch := omega) [List.getElem?_cons_zero, List.getElem?_cons_succ, idx, wrap_id, hE, h1])
  obtain ⟨hc, hh⟩ := deg_ok h1
  obtain ⟨n, k, c⟩ := cov_of hc
  have hgn := c.gn
  have hhk := c.hk
  have n12 := c.gg.n12
  have k12 := c.hg.n12
  have n12' := c.n12
  have hgl := hs.g
  have hhl := hs.h
  have hgo : gcheck g.1 g.2 = 0 := (errs_gc hc).1
  have hho : gcheck h.1 h.2 = 0 := (errs_gc hc).2
  simp -implicitDefEqProofs (disch := omega) [List.getElem?_cons_zero, List.getElem?_cons_succ, wrap_id, h1]
  refine HC_of_PC rfl (chk_ok d g.1 hd) ?_
  by_cases h2 : dcheck d g.1 = 0
  rotate_left
  · have hE : E = dcheck d g.1 := hE0.trans (pu_2 h1 h2)
    simp -implicitDefEqProofs (disch := omega) [List.getElem?_cons_zero, List.getElem?_cons_succ, wrap_id, h2, h2]
    (refine fin0 trivial rfl ?_; simp -implicitDefEqProofs (disch := omega) [List.getElem?_cons_zero, List.getElem?_cons_succ, idx, wrap_id, hE, h2, h1])
  have hL : pushL g h m false d = sumF m (wgt g h m false) d k n := by simp only [pushL, pullL, hgn, hhk, Int.toNat_natCast]
  rw [hL]
  have hE : E = bndE (sumF m (wgt g h m false) d k n) := by rw [hE0, hL]; exact pu_3 h1 h2
  have h2' := h2
  simp only [hgn, hhk] at h2'
  have hdl := (dchk_good h2').1
  have hbd := (dchk_good h2').2.2
  have hml : mulL g h m = mulK g h m n := by rw [mulL, hgn]; rfl
  simp -implicitDefEqProofs (disch := omega) [List.getElem?_cons_zero, List.getElem?_cons_succ, wrap_id, h2, h2, hml]
  refine sumsD_ok (L := []) (W := wgt g h m false) h m d n k (num_of hs c false hbd) hhk hdl (fun v _ => rfl) ?_
  simp -implicitDefEqProofs (disch := omega) [List.getElem?_cons_zero, List.getElem?_cons_succ, wrap_id]
  (refine fin0 trivial rfl ?_; simp -implicitDefEqProofs (disch := omega) [List.getElem?_cons_zero, List.getElem?_cons_succ, idx, wrap_id, hE])
theorem pull_ok (d : List Int) (hd : d.length ≤ 4611686018427387904) : PC Try.prog 14 [GrP g, GrP h, MoP m, .is d] (puR (degE g h m) (dcheck d h.1) (pullL g h m true d)) [] := by
  suffices key : ∀ E : Int, E = puE (degE g h m) (dcheck d h.1) (pullL g h m true d) → PC Try.prog 14 [GrP g, GrP h, MoP m, .is d] (.tup [.p (if E = 0 then .is (pullL g h m true d) else .nil), .i E]) [] from key _ rfl
  intro E hE0
  refine PC_of_W cfn14 ?_
  simp -implicitDefEqProofs (disch := omega) [c14, List.getElem?_cons_zero, List.getElem?_cons_succ, wrap_id]
  refine HC_of_PC rfl (mults52_ok g h m hs) ?_
  by_cases h1 : degE g h m = 0
  rotate_left
  · have hE : E = degE g h m := hE0.trans (pu_1 h1)
    simp -implicitDefEqProofs (disch := omega) [List.getElem?_cons_zero, List.getElem?_cons_succ, wrap_id, h1]
    (refine fin0 trivial rfl ?_; simp -implicitDefEqProofs (disch := omega) [List.getElem?_cons_zero, List.getElem?_cons_succ, idx, wrap_id, hE, h1])
  obtain ⟨hc, hh⟩ := deg_ok h1
  obtain ⟨n, k, c⟩ := cov_of hc
  have hgn := c.gn
  have hhk := c.hk
  have n12 := c.gg.n12
  have k12 := c.hg.n12
  have n12' := c.n12
  have hgl := hs.g
  have hhl := hs.h
  have hgo : gcheck g.1 g.2 = 0 := (errs_gc hc).1
  have hho : gcheck h.1 h.2 = 0 := (errs_gc hc).2
  simp -implicitDefEqProofs (disch := omega) [List.getElem?_cons_zero, List.getElem?_cons_succ, wrap_id, h1]
  refine HC_of_PC rfl (chk_ok d h.1 hd) ?_
  by_cases h2 : dcheck d h.1 = 0
  rotate_left
  · have hE : E = dcheck d h.1 := hE0.trans (pu_2 h1 h2)
    simp -implicitDefEqProofs (disch := omega) [List.getElem?_cons_zero, List.getElem?_cons_succ, wrap_id, h2, h2]
    (refine fin0 trivial rfl ?_; simp -implicitDefEqProofs (disch := omega) [List.getElem?_cons_zero, List.getElem?_cons_succ, idx, wrap_id, hE, h2, h1])
  have hL : pullL g h m true d = lifF m (wgt g h m true) d n := by simp only [pushL, pullL, hgn, hhk, Int.toNat_natCast]
  rw [hL]
  have hE : E = bndE (lifF m (wgt g h m true) d n) := by rw [hE0, hL]; exact pu_3 h1 h2
  have h2' := h2
  simp only [hgn, hhk] at h2'
  have hdl := (dchk_good h2').1
  have hbd := (dchk_good h2').2.2
  have hml : mulL g h m = mulK g h m n := by rw [mulL, hgn]; rfl
  simp -implicitDefEqProofs (disch := omega) [List.getElem?_cons_zero, List.getElem?_cons_succ, wrap_id, h2, h2, hml]
  refine liftD_ok (L := mulK g h m n) (W := wgt g h m true) m d n k (num_of hs c true hbd) hdl (mulK_len g h m n) (fun v hv => mulK_get g h m n v (by rwa [mulK_len] at hv)) ?_
  simp -implicitDefEqProofs (disch := omega) [List.getElem?_cons_zero, List.getElem?_cons_succ, wrap_id]
  (refine fin0 trivial rfl ?_; simp -implicitDefEqProofs (disch := omega) [List.getElem?_cons_zero, List.getElem?_cons_succ, idx, wrap_id, hE])
theorem pushS_ok (d : List Int) (hd : d.length ≤ 4611686018427387904) : PC Try.prog 25 [GrP g, GrP h, MoP m, .is d] (puR (degE g h m) (dcheck d g.1) (pushL g h m true d)) [] := by
  suffices key : ∀ E : Int, E = puE (degE g h m) (dcheck d g.1) (pushL g h m true d) → PC Try.prog 25 [GrP g, GrP h, MoP m, .is d] (.tup [.p (if E = 0 then .is (pushL g h m true d) else .nil), .i E]) [] from key _ rfl
  intro E hE0
  refine PC_of_W cfn25 ?_
  simp -implicitDefEqProofs (disch := omega) [c25, List.getElem?_cons_zero, List.getElem?_cons_succ, wrap_id]
  refine HC_of_PC rfl (mults52_ok g h m hs) ?_
  by_cases h1 : degE g h m = 0
  rotate_left
  · have hE : E = degE g h m := hE0.trans (pu_1 h1)
    simp -implicitDefEqProofs (disch := omega) [List.getElem?_cons_zero, List.getElem?_cons_succ, wrap_id, h1]
    (refine fin0 trivial rfl ?_; simp -implicitDefEqProofs (disch := omega) [List.getElem?_cons_zero, List.getElem?_cons_succ, idx, wrap_id, hE, h1])
  obtain ⟨hc, hh⟩ := deg_ok h1
  obtain ⟨n, k, c⟩ := cov_of hc
  have hgn := c.gn
  have hhk := c.hk
  have n12 := c.gg.n12
  have k12 := c.hg.n12
  have n12' := c.n12
  have hgl := hs.g
  have hhl := hs.h
  have hgo : gcheck g.1 g.2 = 0 := (errs_gc hc).1
  have hho : gcheck h.1 h.2 = 0 := (errs_gc hc).2
  simp -implicitDefEqProofs (disch := omega) [List.getElem?_cons_zero, List.getElem?_cons_succ, wrap_id, h1]
  refine HC_of_PC rfl (fcheck_ok g.1 g.2 d (by omega) hd) ?_
  by_cases h2 : dcheck d g.1 = 0
  rotate_left
  · have hE : E = dcheck d g.1 := hE0.trans (pu_2 h1 h2)
    simp -implicitDefEqProofs (disch := omega) [List.getElem?_cons_zero, List.getElem?_cons_succ, wrap_id, h2, given_dchk hgo]
    (refine fin0 trivial rfl ?_; simp -implicitDefEqProofs (disch := omega) [List.getElem?_cons_zero, List.getElem?_cons_succ, idx, wrap_id, hE, h2, h1])
  have hL : pushL g h m true d = sumF m (wgt g h m true) d k n := by simp only [pushL, pullL, hgn, hhk, Int.toNat_natCast]
  rw [hL]
  have hE : E = bndE (sumF m (wgt g h m true) d k n) := by rw [hE0, hL]; exact pu_3 h1 h2
  have h2' := h2
  simp only [hgn, hhk] at h2'
  have hdl := (dchk_good h2').1
  have hbd := (dchk_good h2').2.2
  have hml : mulL g h m = mulK g h m n := by rw [mulL, hgn]; rfl
  simp -implicitDefEqProofs (disch := omega) [List.getElem?_cons_zero, List.getElem?_cons_succ, wrap_id, h2, given_dchk hgo, hml]
  refine sumsS_ok (L := mulK g h m n) (W := wgt g h m true) h m d n k (num_of hs c true hbd) hhk hdl (mulK_len g h m n) (fun v hv => mulK_get g h m n v (by rwa [mulK_len] at hv)) ?_
  simp -implicitDefEqProofs (disch := omega) [List.getElem?_cons_zero, List.getElem?_cons_succ, wrap_id]
  (refine fin0 trivial rfl ?_; simp -implicitDefEqProofs (disch := omega) [List.getElem?_cons_zero, List.getElem?_cons_succ, idx, wrap_id, hE])
theorem pullS_ok (d : List Int) (hd : d.length ≤ 4611686018427387904) : PC Try.prog 26 [GrP g, GrP h, MoP m, .is d] (puR (degE g h m) (dcheck d h.1) (pullL g h m false d)) [] := by
  suffices key : ∀ E : Int, E = puE (degE g h m) (dcheck d h.1) (pullL g h m false d) → PC Try.prog 26 [GrP g, GrP h, MoP m, .is d] (.tup [.p (if E = 0 then .is (pullL g h m false d) else .nil), .i E]) [] from key _ rfl
  intro E hE0
  refine PC_of_W cfn26 ?_
  simp -implicitDefEqProofs (disch := omega) [c26, List.getElem?_cons_zero, List.getElem?_cons_succ, wrap_id]
  refine HC_of_PC rfl (mults52_ok g h m hs) ?_
  by_cases h1 : degE g h m = 0
  rotate_left
  · have hE : E = degE g h m := hE0.trans (pu_1 h1)
    simp -implicitDefEqProofs (disch := omega) [List.getElem?_cons_zero, List.getElem?_cons_succ, wrap_id, h1]
    (refine fin0 trivial rfl ?_; simp -implicitDefEqProofs (disch := omega) [List.getElem?_cons_zero, List.getElem?_cons_succ, idx, wrap_id, hE, h1])
  obtain ⟨hc, hh⟩ := deg_ok h1
  obtain ⟨n, k, c⟩ := cov_of hc
  have hgn := c.gn
  have hhk := c.hk
  have n12 := c.gg.n12
  have k12 := c.hg.n12
  have n12' := c.n12
  have hgl := hs.g
  have hhl := hs.h
  have hgo : gcheck g.1 g.2 = 0 := (errs_gc hc).1
  have hho : gcheck h.1 h.2 = 0 := (errs_gc hc).2
  simp -implicitDefEqProofs (disch := omega) [List.getElem?_cons_zero, List.getElem?_cons_succ, wrap_id, h1]
  refine HC_of_PC rfl (fcheck_ok h.1 h.2 d (by omega) hd) ?_
  by_cases h2 : dcheck d h.1 = 0
  rotate_left
  · have hE : E = dcheck d h.1 := hE0.trans (pu_2 h1 h2)
    simp -implicitDefEqProofs (disch := omega) [List.getElem?_cons_zero, List.getElem?_cons_succ, wrap_id, h2, given_dchk hho]
    (refine fin0 trivial rfl ?_; simp -implicitDefEqProofs (disch := omega) [List.getElem?_cons_zero, List.getElem?_cons_succ, idx, wrap_id, hE, h2, h1])
  have hL : pullL g h m false d = lifF m (wgt g h m false) d n := by simp only [pushL, pullL, hgn, hhk, Int.toNat_natCast]
  rw [hL]
  have hE : E = bndE (lifF m (wgt g h m false) d n) := by rw [hE0, hL]; exact pu_3 h1 h2
  have h2' := h2
  simp only [hgn, hhk] at h2'
  have hdl := (dchk_good h2').1
  have hbd := (dchk_good h2').2.2
  have hml : mulL g h m = mulK g h m n := by rw [mulL, hgn]; rfl
  simp -implicitDefEqProofs (disch := omega) [List.getElem?_cons_zero, List.getElem?_cons_succ, wrap_id, h2, given_dchk hho, hml]
  refine liftS_ok (L := []) (W := wgt g h m false) m d n k (num_of hs c false hbd) hdl (fun v _ => rfl) ?_
  simp -implicitDefEqProofs (disch := omega) [List.getElem?_cons_zero, List.getElem?_cons_succ, wrap_id]
  (refine fin0 trivial rfl ?_; simp -implicitDefEqProofs (disch := omega) [List.getElem?_cons_zero, List.getElem?_cons_succ, idx, wrap_id, hE])
end
end Go.Proofs.Ytddgepjmfnodhaa
