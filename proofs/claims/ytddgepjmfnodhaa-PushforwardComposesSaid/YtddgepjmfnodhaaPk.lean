/-
  The law Composes: pushing and pulling along a composition.
-/
import Derived.Test.YtddgepjmfnodhaaPh
import Derived.Test.YtddgepjmfnodhaaPy
import Derived.Test.YtddgepjmfnodhaaAca
set_option linter.unusedSimpArgs false
set_option linter.unusedVariables false
namespace Go.Proofs.Ytddgepjmfnodhaa
open Go.Abs Go.Sand

abbrev BoQ (m o : Mo) : PV := .agg [.is m.v, .is m.e, .is o.v, .is o.e]
set_option maxRecDepth 100000 in
theorem composes52_law (g h q : Gr) (m o : Mo) (d : List Int) : PC Try.prog 8 [ThQ g h q, BoQ m o, .is d] (.b true) [] := by
  refine PC_of_W cfn8 ?_
  simp -implicitDefEqProofs (disch := omega) [c8, List.getElem?_cons_zero, List.getElem?_cons_succ, wrap_id]
  refine rdag_W0 (s' := ⟨[(0, .p (ThQ g h q)), (1, .p (BoQ m o)), (2, .p (.is d)), (3, .ptr 0 1 0 0), (4, .ptr 1 1 0 0), (6, .b false), (7, .ptr 2 1 0 0), (8, .ptr 3 1 0 0), (23, .ptr 0 1 0 0), (24, .p (.agg [.i g.1, .sl (g.2.map edP)])), (25, .ptr 0 1 0 2), (26, .p (.agg [.i h.1, .sl (h.2.map edP)])), (27, .p (EnP g h)), (28, .ptr 0 1 0 2), (29, .p (.agg [.i h.1, .sl (h.2.map edP)])), (30, .ptr 0 1 0 4), (31, .p (.agg [.i q.1, .sl (q.2.map edP)])), (32, .p (EnP h q))], [.box (.p (ThQ g h q)), .box (.p (BoQ m o)), .box (.p (EnP g h)), .box (.p (EnP h q))]⟩) (by kernel_rfl) (by kernel_rfl) ?_
  simp -implicitDefEqProofs (disch := omega) [List.getElem?_cons_zero, List.getElem?_cons_succ, wrap_id]
  refine HC_of_PC rfl (lfew52_ok g h m d) ?_
  cases hf : fewP g h m d
  · simp -implicitDefEqProofs (disch := omega) [List.getElem?_cons_zero, List.getElem?_cons_succ, wrap_id]
    refine HC_of_PC rfl (awake52_ok) ?_
    simp -implicitDefEqProofs (disch := omega) [List.getElem?_cons_zero, List.getElem?_cons_succ, wrap_id]
    (refine fin0 trivial rfl ?_; simp -implicitDefEqProofs (disch := omega) [List.getElem?_cons_zero, List.getElem?_cons_succ, idx, wrap_id])
  obtain ⟨hs1, hl, hfm⟩ := fewP_sm hf
  simp -implicitDefEqProofs (disch := omega) [List.getElem?_cons_zero, List.getElem?_cons_succ, wrap_id]
  refine HC_of_PC rfl (lfew520_ok h q o) ?_
  cases hf2 : fewM h q o
  · simp -implicitDefEqProofs (disch := omega) [List.getElem?_cons_zero, List.getElem?_cons_succ, wrap_id]
    refine HC_of_PC rfl (awake52_ok) ?_
    simp -implicitDefEqProofs (disch := omega) [List.getElem?_cons_zero, List.getElem?_cons_succ, wrap_id]
    (refine fin0 trivial rfl ?_; simp -implicitDefEqProofs (disch := omega) [List.getElem?_cons_zero, List.getElem?_cons_succ, idx, wrap_id])
  have hs2 := few_sm hf2
  simp -implicitDefEqProofs (disch := omega) [List.getElem?_cons_zero, List.getElem?_cons_succ, wrap_id]
  refine HC_of_PC rfl (given52_ok g h m hs1) ?_
  by_cases h1 : degE g h m = 0
  rotate_left
  · simp -implicitDefEqProofs (disch := omega) [List.getElem?_cons_zero, List.getElem?_cons_succ, wrap_id, h1]
    refine HC_of_PC rfl (awake52_ok) ?_
    simp -implicitDefEqProofs (disch := omega) [List.getElem?_cons_zero, List.getElem?_cons_succ, wrap_id]
    (refine fin0 trivial rfl ?_; simp -implicitDefEqProofs (disch := omega) [List.getElem?_cons_zero, List.getElem?_cons_succ, idx, wrap_id])
  simp -implicitDefEqProofs (disch := omega) [List.getElem?_cons_zero, List.getElem?_cons_succ, wrap_id, h1]
  refine HC_of_PC rfl (given52_ok h q o hs2) ?_
  by_cases h2 : degE h q o = 0
  rotate_left
  · simp -implicitDefEqProofs (disch := omega) [List.getElem?_cons_zero, List.getElem?_cons_succ, wrap_id, h2]
    refine HC_of_PC rfl (awake52_ok) ?_
    simp -implicitDefEqProofs (disch := omega) [List.getElem?_cons_zero, List.getElem?_cons_succ, wrap_id]
    (refine fin0 trivial rfl ?_; simp -implicitDefEqProofs (disch := omega) [List.getElem?_cons_zero, List.getElem?_cons_succ, idx, wrap_id])
  obtain ⟨n, k, r1⟩ := rt_of hs1 hfm h1
  obtain ⟨k', l, r2⟩ := rt_of hs2 hf2 h2
  have c1 := r1.c
  have c2 := r2.c
  obtain rfl : k = k' := by have := c1.hk; have := c2.gn; omega
  have n12 := c1.n12
  have k12 := c2.n12
  have hc1 := (deg_ok h1).1
  have hc2 := (deg_ok h2).1
  have hc3 := comp_cover hc1 hc2
  have hh3 := comp_harm c1 c2 r1.hh r2.hh
  have hs3 : Sm g q (compM m o) := ⟨hs1.g, hs2.h, by rw [(comp_len m o).1]; exact hs1.v, by rw [(comp_len m o).2]; exact hs1.e⟩
  obtain ⟨n', l', c3⟩ := cov_of hc3
  obtain rfl : n' = n := by have := c1.gn; have := c3.gn; omega
  obtain rfl : l' = l := by have := c2.hk; have := c3.hk; omega
  have r3 : Rt g q (compM m o) n' l' := ⟨hs3, c3, hh3, degE_zero hc3 hh3, r1.eg, r2.eh⟩
  have hgn := c1.gn
  have hql := c2.hk
  have hgE := (errs_zero hc1).1
  have hhE := (errs_zero hc1).2
  have hqE := (errs_zero hc2).2
  have k1 : composeE g h q m o = 0 := by rw [composeE, if_neg (by simp [errsE, hgE, hhE, hqE]), if_neg (by simp [hc1]), hc2]
  have k2 : composeM g h q m o = compM m o := if_pos k1
  have cc := compose_ok g h q m o hs1 hs2
  rw [k1, k2] at cc
  simp -implicitDefEqProofs (disch := omega) [List.getElem?_cons_zero, List.getElem?_cons_succ, wrap_id, h2]
  refine HC_of_PC rfl (cc) ?_
  simp -implicitDefEqProofs (disch := omega) [List.getElem?_cons_zero, List.getElem?_cons_succ, wrap_id]
  refine HC_of_PC rfl (right52_ok g h m d g.1) ?_
  cases hr1 : rightP g h m d g.1
  · simp -implicitDefEqProofs (disch := omega) [List.getElem?_cons_zero, List.getElem?_cons_succ, wrap_id]
    refine HC_of_PC rfl (right52_ok h q o d q.1) ?_
    cases hr2 : rightP h q o d q.1
    · simp -implicitDefEqProofs (disch := omega) [List.getElem?_cons_zero, List.getElem?_cons_succ, wrap_id]
      refine HC_of_PC rfl (awake52_ok) ?_
      simp -implicitDefEqProofs (disch := omega) [List.getElem?_cons_zero, List.getElem?_cons_succ, wrap_id]
      (refine fin0 trivial rfl ?_; simp -implicitDefEqProofs (disch := omega) [List.getElem?_cons_zero, List.getElem?_cons_succ, idx, wrap_id])
    obtain ⟨hl2, hB2⟩ := right_good hr2
    have hlq : d.length = l' := by omega
    have b1 := r2.lifB (by omega) hB2
    have b3 := r3.lifB (by omega) hB2
    have hpc := pull_comp c1 c2 c3 r1.hh r2.hh d
    have b2 := b3
    rw [← hpc] at b2
    have e1 := r2.pull hlq (hB2.more (by omega)) (b1.more (by omega))
    have e2 := r1.pull (d := lifF o (mM h q o) d k) (lsF_len _ _) (b1.more (by omega)) (b2.more (by omega))
    have e3 := r3.pull hlq (hB2.more (by omega)) (b3.more (by omega))
    rw [hpc] at e2
    have hal : (lifF (compM m o) (mM g q (compM m o)) d n').length = n' := lsF_len _ _
    simp -implicitDefEqProofs (disch := omega) [List.getElem?_cons_zero, List.getElem?_cons_succ, wrap_id]
    refine HC_of_PC rfl (e1) ?_
    simp -implicitDefEqProofs (disch := omega) [List.getElem?_cons_zero, List.getElem?_cons_succ, wrap_id]
    refine HC_of_PC rfl (e2) ?_
    simp -implicitDefEqProofs (disch := omega) [List.getElem?_cons_zero, List.getElem?_cons_succ, wrap_id]
    refine HC_of_PC rfl (e3) ?_
    simp -implicitDefEqProofs (disch := omega) [List.getElem?_cons_zero, List.getElem?_cons_succ, wrap_id]
    refine HC_of_PC rfl (eqD_ok (lifF (compM m o) (mM g q (compM m o)) d n') (lifF (compM m o) (mM g q (compM m o)) d n') (by omega)) ?_
    simp -implicitDefEqProofs (disch := omega) [List.getElem?_cons_zero, List.getElem?_cons_succ, wrap_id]
    refine HC_of_PC rfl (awake52_ok) ?_
    simp -implicitDefEqProofs (disch := omega) [List.getElem?_cons_zero, List.getElem?_cons_succ, wrap_id]
    (refine fin0 trivial rfl ?_; simp -implicitDefEqProofs (disch := omega) [List.getElem?_cons_zero, List.getElem?_cons_succ, idx, wrap_id])
  obtain ⟨hl1, hB1⟩ := right_good hr1
  have hln : d.length = n' := by omega
  have b1 := r1.sumB (by omega) hB1
  have f1 := r1.push hln (hB1.more (by omega))
  have f2 := r2.push (d := sumF m (fun _ => 1) d k n') (lsF_len _ _) (b1.more (by omega))
  have f3 := r3.push hln (hB1.more (by omega))
  rw [push_comp c1 c2 d] at f2
  have hal : (sumF (compM m o) (fun _ => 1) d l' n').length = l' := lsF_len _ _
  simp -implicitDefEqProofs (disch := omega) [List.getElem?_cons_zero, List.getElem?_cons_succ, wrap_id]
  refine HC_of_PC rfl (f1) ?_
  simp -implicitDefEqProofs (disch := omega) [List.getElem?_cons_zero, List.getElem?_cons_succ, wrap_id]
  refine HC_of_PC rfl (f2) ?_
  simp -implicitDefEqProofs (disch := omega) [List.getElem?_cons_zero, List.getElem?_cons_succ, wrap_id]
  refine HC_of_PC rfl (f3) ?_
  simp -implicitDefEqProofs (disch := omega) [List.getElem?_cons_zero, List.getElem?_cons_succ, wrap_id]
  refine HC_of_PC rfl (eqD_ok (sumF (compM m o) (fun _ => 1) d l' n') (sumF (compM m o) (fun _ => 1) d l' n') (by omega)) ?_
  simp -implicitDefEqProofs (disch := omega) [List.getElem?_cons_zero, List.getElem?_cons_succ, wrap_id]
  refine HC_of_PC rfl (right52_ok h q o d q.1) ?_
  cases hr2 : rightP h q o d q.1
  · simp -implicitDefEqProofs (disch := omega) [List.getElem?_cons_zero, List.getElem?_cons_succ, wrap_id]
    refine HC_of_PC rfl (awake52_ok) ?_
    simp -implicitDefEqProofs (disch := omega) [List.getElem?_cons_zero, List.getElem?_cons_succ, wrap_id]
    (refine fin0 trivial rfl ?_; simp -implicitDefEqProofs (disch := omega) [List.getElem?_cons_zero, List.getElem?_cons_succ, idx, wrap_id])
  obtain ⟨hl2, hB2⟩ := right_good hr2
  have hlq : d.length = l' := by omega
  have b1 := r2.lifB (by omega) hB2
  have b3 := r3.lifB (by omega) hB2
  have hpc := pull_comp c1 c2 c3 r1.hh r2.hh d
  have b2 := b3
  rw [← hpc] at b2
  have e1 := r2.pull hlq (hB2.more (by omega)) (b1.more (by omega))
  have e2 := r1.pull (d := lifF o (mM h q o) d k) (lsF_len _ _) (b1.more (by omega)) (b2.more (by omega))
  have e3 := r3.pull hlq (hB2.more (by omega)) (b3.more (by omega))
  rw [hpc] at e2
  have hal : (lifF (compM m o) (mM g q (compM m o)) d n').length = n' := lsF_len _ _
  simp -implicitDefEqProofs (disch := omega) [List.getElem?_cons_zero, List.getElem?_cons_succ, wrap_id]
  refine HC_of_PC rfl (e1) ?_
  simp -implicitDefEqProofs (disch := omega) [List.getElem?_cons_zero, List.getElem?_cons_succ, wrap_id]
  refine HC_of_PC rfl (e2) ?_
  simp -implicitDefEqProofs (disch := omega) [List.getElem?_cons_zero, List.getElem?_cons_succ, wrap_id]
  refine HC_of_PC rfl (e3) ?_
  simp -implicitDefEqProofs (disch := omega) [List.getElem?_cons_zero, List.getElem?_cons_succ, wrap_id]
  refine HC_of_PC rfl (eqD_ok (lifF (compM m o) (mM g q (compM m o)) d n') (lifF (compM m o) (mM g q (compM m o)) d n') (by omega)) ?_
  simp -implicitDefEqProofs (disch := omega) [List.getElem?_cons_zero, List.getElem?_cons_succ, wrap_id]
  refine HC_of_PC rfl (awake52_ok) ?_
  simp -implicitDefEqProofs (disch := omega) [List.getElem?_cons_zero, List.getElem?_cons_succ, wrap_id]
  (refine fin0 trivial rfl ?_; simp -implicitDefEqProofs (disch := omega) [List.getElem?_cons_zero, List.getElem?_cons_succ, idx, wrap_id])
end Go.Proofs.Ytddgepjmfnodhaa
