/-
  The law Hurwitz: the formula, and the canonical divisor.
-/
import Derived.Test.YtddgepjmfnodhaaPh
set_option linter.unusedSimpArgs false
set_option linter.unusedVariables false
namespace Go.Proofs.Ytddgepjmfnodhaa
open Go.Abs Go.Sand

theorem val_bd2 {g : Gr} (hg : GoodG g.1 g.2) (hl : loopsB g.2 = false) (v : Int) : 0 ≤ valS g.2 v ∧ valS g.2 v ≤ 2 * nE g := by
  rw [val_sm hg hl]
  have := sm_bd (f := fun i => isEnd (eA g i) v) (B := 2) (k := nE g) (fun i _ => by
    unfold isEnd
    split <;> split <;> omega)
  omega
def kaL (h : Gr) (k : Nat) : List Int := lsF k fun w => valS h.2 w - 2
theorem kaL_len (h : Gr) (k : Nat) : (kaL h k).length = k := lsF_len _ _
theorem hurwitz52_law (g h : Gr) (m : Mo) : PC Try.prog 6 [EnP g h, MoP m] (.b true) [] := by
  refine PC_of_W cfn6 ?_
  simp -implicitDefEqProofs (disch := omega) [c6, List.getElem?_cons_zero, List.getElem?_cons_succ, wrap_id]
  refine HC_of_PC rfl (lfew520_ok g h m) ?_
  cases hf : fewM g h m
  · simp -implicitDefEqProofs (disch := omega) [List.getElem?_cons_zero, List.getElem?_cons_succ, wrap_id]
    refine HC_of_PC rfl (awake52_ok) ?_
    simp -implicitDefEqProofs (disch := omega) [List.getElem?_cons_zero, List.getElem?_cons_succ, wrap_id]
    (refine fin0 trivial rfl ?_; simp -implicitDefEqProofs (disch := omega) [List.getElem?_cons_zero, List.getElem?_cons_succ, idx, wrap_id])
  have hs := few_sm hf
  simp -implicitDefEqProofs (disch := omega) [List.getElem?_cons_zero, List.getElem?_cons_succ, wrap_id]
  refine HC_of_PC rfl (given52_ok g h m hs) ?_
  by_cases h1 : degE g h m = 0
  rotate_left
  · simp -implicitDefEqProofs (disch := omega) [List.getElem?_cons_zero, List.getElem?_cons_succ, wrap_id, h1]
    refine HC_of_PC rfl (awake52_ok) ?_
    simp -implicitDefEqProofs (disch := omega) [List.getElem?_cons_zero, List.getElem?_cons_succ, wrap_id]
    (refine fin0 trivial rfl ?_; simp -implicitDefEqProofs (disch := omega) [List.getElem?_cons_zero, List.getElem?_cons_succ, idx, wrap_id])
  obtain ⟨n, k, r⟩ := rt_of hs hf h1
  have c := r.c
  have hh := r.hh
  have hgn := c.gn
  have hhk := c.hk
  have n12 := c.n12
  have hhu : huL g h m = huR g h m := by
    rw [huL, huR, if_pos h1, if_pos h1, hgn, Int.toNat_natCast, ← hgn]
    exact hurwitz c hh
  have hKB : Bd 48 (kaL h k) := Bd.list (by omega) fun w _ => by
    have := val_bd2 c.hg c.hl w
    have := r.eh
    omega
  have hKl := kaL_len h k
  have hlB := r.lifB (by omega) hKB
  have hpl := r.pull hKl (hKB.more (by omega)) (hlB.more (by omega))
  have hDl : (lifF m (mM g h m) (kaL h k) n).length = n := lsF_len _ _
  have hrm := ramif_ok g h m hs
  have hRl : (ramF g h m g.1.toNat).length = n := by rw [hgn]; exact lsF_len _ _
  rw [if_pos h1, h1] at hrm
  simp -implicitDefEqProofs (disch := omega) [List.getElem?_cons_zero, List.getElem?_cons_succ, wrap_id, h1]
  refine HC_of_PC rfl (hurwitz_ok g h m hs) ?_
  simp -implicitDefEqProofs (disch := omega) [List.getElem?_cons_zero, List.getElem?_cons_succ, wrap_id, h1, hhu]
  refine loopW k (fun j s => s = ⟨[(42, .i j), (41, .i h.1), (8, .os 2 0 (kaL h j).length), (2, .ptr 0 1 0 0), (3, .ptr 1 1 0 0), (5, .i (huR g h m)), (6, .i (huR g h m)), (7, .i 0)], [.box (.p (EnP g h)), .box (.p (MoP m)), rowJ (kaL h j)]⟩)
    ((wk_norm [0, 1] [42, 41, 8, 2, 3, 5, 6, 7] rfl rfl).trans ((Wk_nil 8 1 3 rfl).trans (Wk_keep [42, 41, 8, 2, 3, 5, 6, 7]))) rfl ?_
  rintro j s hj rfl
  have hkj := kaL_len h j
  by_cases hlt : j < k
  · have h2 : (j : Int) < h.1 := by omega
    have hj6 : j ≤ 1048575 := by omega
    have hvb := val_bd2 c.hg c.hl j
    have hsn : kaL h (j + 1) = kaL h j ++ [valS h.2 j - 2] := lsF_succ _ _
    have heh := r.eh
    simp -implicitDefEqProofs (disch := omega) [List.getElem?_cons_zero, List.getElem?_cons_succ, wrap_id, h2]
    refine HC_of_PC rfl (rval_at h j c.hg hs.h (by omega)) ?_
    simp -implicitDefEqProofs (disch := omega) [List.getElem?_cons_zero, List.getElem?_cons_succ, wrap_id, hkj, hj6]
    exact round_end [0, 1, 2] [42, 41, 8, 2, 3, 5, 6, 7] hlt rfl (by rw [hsn, List.length_append]; simp [Abs.norm, Abs.get, AV.ren, Abs.idx, hkj])
  have hjk : j = k := by omega
  subst hjk
  have h2 : ¬ (j : Int) < h.1 := by omega
  have hng : (n : Int) = g.1 := by omega
  simp -implicitDefEqProofs (disch := omega) [List.getElem?_cons_zero, List.getElem?_cons_succ, wrap_id, h2, hkj]
  refine HC_of_PC (ps := [GrP g, GrP h, MoP m, .is (kaL h j)]) (by simp [views, view, viewC, hkj]) hpl ?_
  simp -implicitDefEqProofs (disch := omega) [List.getElem?_cons_zero, List.getElem?_cons_succ, wrap_id]
  refine HC_of_PC rfl (hrm) ?_
  simp -implicitDefEqProofs (disch := omega) [List.getElem?_cons_zero, List.getElem?_cons_succ, wrap_id, hDl, hRl, hng]
  refine loopW n (fun j' s => s = ⟨[(103, .i j'), (102, .i g.1), (2, .ptr 0 1 0 0), (3, .ptr 1 1 0 0), (10, .p (.is (lifF m (mM g h m) (kaL h j) n))), (12, .p (.is (ramF g h m g.1.toNat)))], [.box (.p (EnP g h)), .box (.p (MoP m))]⟩)
    (wk_norm [0, 1] [103, 102, 2, 3, 10, 12] rfl rfl) rfl ?_
  rintro i s hi rfl
  by_cases hlt : i < n
  · have h3 : (i : Int) < g.1 := by omega
    have hiD : i < (lifF m (mM g h m) (kaL h j) n).length := by omega
    have hiR : i < (ramF g h m g.1.toNat).length := by omega
    have hvb := val_bd2 c.gg c.gl i
    have heg := r.eg
    have hvi := c.vB hlt
    have hsum : (lifF m (mM g h m) (kaL h j) n)[i] + (ramF g h m g.1.toNat)[i] = valS g.2 i - 2 := by
      rw [← getD_get hiD, ← getD_get hiR, canonical c hh hlt]
      have e1 : (lifF m (mM g h m) (kaL h j) n).getD i 0 = (valS h.2 (vI m i) - 2) * mM g h m i := by
        rw [lifF, lsF_get hlt, kaL, lsF_get (by omega), show (((vI m i).toNat : Nat) : Int) = vI m i by omega]
      have e2 : (ramF g h m g.1.toNat).getD i 0 = 2 * mM g h m i - 2 + cM g m i (-1) := by
        rw [hgn, ramF, Int.toNat_natCast, lsF_get hlt]
      rw [e1, e2]
    simp -implicitDefEqProofs (disch := omega) [List.getElem?_cons_zero, List.getElem?_cons_succ, wrap_id, h3, hiD, hiR]
    refine HC_of_PC rfl (rval_at g i c.gg hs.g (by omega)) ?_
    simp -implicitDefEqProofs (disch := omega) [List.getElem?_cons_zero, List.getElem?_cons_succ, wrap_id, hsum]
    exact round_end [0, 1] [103, 102, 2, 3, 10, 12] hlt rfl rfl
  · have h3 : ¬ (i : Int) < g.1 := by omega
    simp -implicitDefEqProofs (disch := omega) [List.getElem?_cons_zero, List.getElem?_cons_succ, wrap_id, h3]
    refine HC_of_PC rfl (awake52_ok) ?_
    simp -implicitDefEqProofs (disch := omega) [List.getElem?_cons_zero, List.getElem?_cons_succ, wrap_id]
    (refine fin0 trivial rfl ?_; simp -implicitDefEqProofs (disch := omega) [List.getElem?_cons_zero, List.getElem?_cons_succ, idx, wrap_id])
end Go.Proofs.Ytddgepjmfnodhaa
