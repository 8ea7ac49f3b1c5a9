/-
  The law Principal: what a script changes, pushed and pulled back.
-/
import Derived.Test.YtddgepjmfnodhaaPh
set_option linter.unusedSimpArgs false
set_option linter.unusedVariables false
namespace Go.Proofs.Ytddgepjmfnodhaa
open Go.Abs Go.Sand

def chL (es : List Ed) (s : List Int) (n : Nat) : List Int := lsF n fun v => dif es s v
theorem chL_len (es : List Ed) (s : List Int) (n : Nat) : (chL es s n).length = n := lsF_len _ _
theorem chg_eq {n : Nat} {es : List Ed} (hg : ∀ x ∈ es, Right n x) (s : List Int) : chgM es n s = chL es s n := by
  have hl : (chgM es n s).length = n := by rw [chgM, movedE_length, List.length_replicate]; omega
  refine ext_getD (by rw [hl, chL_len]) fun i hi => ?_
  rw [hl] at hi
  rw [chgM, moved_dif hg s _ (by simp) i, chL, lsF_get hi]
  simp [List.getD_eq_getElem?_getD, hi]
theorem change1 {g : Gr} {n : Nat} (hg : GoodG g.1 g.2) (hgc : gcheck g.1 g.2 = 0) (hn : g.1 = n) (hel : g.2.length ≤ 900) {s : List Int} (hs : s.length = n) (hB : Bd 1048576 s) (hb : Bd 1048576 (chL g.2 s n)) : PC Try.prog 29 [GrP g, .is s] (.tup [.p (.is (chL g.2 s n)), .i 0]) [] := by
  have n1 := hg.n1
  have n12 := hg.n12
  have ct := change_ok g.1 g.2 s (by omega) (by omega)
  have e0 : givenE g.1 g.2 s = 0 := by rw [given_dchk hgc, hn]; exact dchk_of (by omega) (by omega) hs hB
  have e1 : chgM g.2 g.1 s = chL g.2 s n := by rw [hn]; exact chg_eq (hn ▸ hg.right) s
  have e2 := bnd_of hb
  have e3 : (chL g.2 s n).all inB = true := by unfold bndE at e2; split at e2; assumption; cases e2
  have e4 : resE 0 (chL g.2 s n) = 0 := by rw [Sand.res_ok, e2]
  have e5 : Sand.resL 0 (chL g.2 s n) = chL g.2 s n := by rw [Sand.resL, if_pos ⟨rfl, e3⟩]
  rw [e0, e1] at ct
  simp only [resT2, e4, e5] at ct
  exact ct
theorem pg_bd {s : Nat → Int} {B : Int} (hs : ∀ i, -B ≤ s i ∧ s i ≤ B) (v : Int) (p : Int × Int) : -(2 * B) ≤ pg s v p ∧ pg s v p ≤ 2 * B := by
  have h1 := hs p.1.toNat
  have h2 := hs p.2.toNat
  unfold pg
  split <;> split <;> simp <;> omega
theorem dif_bd2 {g : Gr} (hg : GoodG g.1 g.2) (he : nE g ≤ 24) {s : List Int} {B : Int} (hB0 : 0 ≤ B) (hB : Bd B s) (v : Nat) : -(48 * B) ≤ dif g.2 s v ∧ dif g.2 s v ≤ 48 * B := by
  rw [dif_sm hg]
  have := sm_abd (f := fun i => pg (fun i => s.getD i 0) v (eA g i)) (B := 2 * B) (by omega) (fun i => pg_bd hB v _) (nE g)
  have e : (nE g : Int) * (2 * B) ≤ 24 * (2 * B) := Int.mul_le_mul_of_nonneg_right (by omega) (by omega)
  omega
theorem chL_bd {g : Gr} (hg : GoodG g.1 g.2) (he : nE g ≤ 24) {s : List Int} {B : Int} (hB0 : 0 ≤ B) (hB : Bd B s) (n : Nat) : Bd (48 * B) (chL g.2 s n) := Bd.list (by omega) fun v _ => dif_bd2 hg he hB0 hB v
section
variable {g h : Gr} {m : Mo} {n k : Nat}
theorem Rt.push_ch (r : Rt g h m n k) (s : List Int) : chL h.2 (sumF m (mM g h m) s k n) k = sumF m (fun _ => 1) (chL g.2 s n) k n := by
  refine lsF_congr fun w hw => ?_
  rw [push_change r.c r.hh s hw]
  refine sm_congr fun v hv => ?_
  rw [chL, lsF_get hv, Int.mul_one]
theorem Rt.pull_ch (r : Rt g h m n k) (s : List Int) : chL g.2 (lifF m (fun _ => 1) s n) n = lifF m (mM g h m) (chL h.2 s k) n := by
  refine lsF_congr fun v hv => ?_
  have hb := r.c.vB hv
  rw [pull_change r.c r.hh s hv, chL, lsF_get (by omega)]
end
theorem principal52_law (g h : Gr) (m : Mo) (s : List Int) : PC Try.prog 9 [EnP g h, MoP m, .is s] (.b true) [] := by
  refine PC_of_W cfn9 ?_
  simp -implicitDefEqProofs (disch := omega) [c9, List.getElem?_cons_zero, List.getElem?_cons_succ, wrap_id]
  refine HC_of_PC rfl (lfew52_ok g h m s) ?_
  cases hf : fewP g h m s
  · simp -implicitDefEqProofs (disch := omega) [List.getElem?_cons_zero, List.getElem?_cons_succ, wrap_id]
    refine HC_of_PC rfl (awake52_ok) ?_
    simp -implicitDefEqProofs (disch := omega) [List.getElem?_cons_zero, List.getElem?_cons_succ, wrap_id]
    (refine fin0 trivial rfl ?_; simp -implicitDefEqProofs (disch := omega) [List.getElem?_cons_zero, List.getElem?_cons_succ, idx, wrap_id])
  obtain ⟨hs, hl, hfm⟩ := fewP_sm hf
  simp -implicitDefEqProofs (disch := omega) [List.getElem?_cons_zero, List.getElem?_cons_succ, wrap_id]
  refine HC_of_PC rfl (given52_ok g h m hs) ?_
  by_cases h1 : degE g h m = 0
  rotate_left
  · simp -implicitDefEqProofs (disch := omega) [List.getElem?_cons_zero, List.getElem?_cons_succ, wrap_id, h1]
    refine HC_of_PC rfl (awake52_ok) ?_
    simp -implicitDefEqProofs (disch := omega) [List.getElem?_cons_zero, List.getElem?_cons_succ, wrap_id]
    (refine fin0 trivial rfl ?_; simp -implicitDefEqProofs (disch := omega) [List.getElem?_cons_zero, List.getElem?_cons_succ, idx, wrap_id])
  obtain ⟨n, k, r⟩ := rt_of hs hfm h1
  have c := r.c
  have hh := r.hh
  have hgn := c.gn
  have hhk := c.hk
  have n12 := c.n12
  obtain ⟨hgo, hho⟩ := errs_gc (deg_ok h1).1
  simp -implicitDefEqProofs (disch := omega) [List.getElem?_cons_zero, List.getElem?_cons_succ, wrap_id, h1]
  refine HC_of_PC rfl (right52_ok g h m s g.1) ?_
  cases hr1 : rightP g h m s g.1
  · simp -implicitDefEqProofs (disch := omega) [List.getElem?_cons_zero, List.getElem?_cons_succ, wrap_id]
    refine HC_of_PC rfl (right52_ok g h m s h.1) ?_
    cases hr2 : rightP g h m s h.1
    · simp -implicitDefEqProofs (disch := omega) [List.getElem?_cons_zero, List.getElem?_cons_succ, wrap_id]
      refine HC_of_PC rfl (awake52_ok) ?_
      simp -implicitDefEqProofs (disch := omega) [List.getElem?_cons_zero, List.getElem?_cons_succ, wrap_id]
      (refine fin0 trivial rfl ?_; simp -implicitDefEqProofs (disch := omega) [List.getElem?_cons_zero, List.getElem?_cons_succ, idx, wrap_id])
    obtain ⟨hl2, hB2⟩ := right_good hr2
    have hlk : s.length = k := by omega
    have b1 := chL_bd c.hg r.eh (by omega) hB2 k
    have t1 : Bd 1000 (lifF m (fun _ => 1) s n) := Rt.lifB1 (by omega) hB2
    have b2 := chL_bd c.gg r.eg (by omega) t1 n
    have hch := r.pull_ch s
    have d1 := change1 c.hg hho hhk hs.h hlk (hB2.more (by omega)) (b1.more (by omega))
    have b3 := b2
    rw [hch] at b3
    have d2 := r.pull (chL_len h.2 s k) (b1.more (by omega)) (b3.more (by omega))
    have d3 := r.pullS hlk (hB2.more (by omega))
    have d4 := change1 c.gg hgo hgn hs.g (s := lifF m (fun _ => 1) s n) (lsF_len _ _) (t1.more (by omega)) (b2.more (by omega))
    rw [hch] at d4
    have hal : (lifF m (mM g h m) (chL h.2 s k) n).length = n := lsF_len _ _
    simp -implicitDefEqProofs (disch := omega) [List.getElem?_cons_zero, List.getElem?_cons_succ, wrap_id]
    refine HC_of_PC rfl (d1) ?_
    simp -implicitDefEqProofs (disch := omega) [List.getElem?_cons_zero, List.getElem?_cons_succ, wrap_id]
    refine HC_of_PC rfl (d2) ?_
    simp -implicitDefEqProofs (disch := omega) [List.getElem?_cons_zero, List.getElem?_cons_succ, wrap_id]
    refine HC_of_PC rfl (d3) ?_
    simp -implicitDefEqProofs (disch := omega) [List.getElem?_cons_zero, List.getElem?_cons_succ, wrap_id]
    refine HC_of_PC rfl (d4) ?_
    simp -implicitDefEqProofs (disch := omega) [List.getElem?_cons_zero, List.getElem?_cons_succ, wrap_id]
    refine HC_of_PC rfl (eqD_ok (lifF m (mM g h m) (chL h.2 s k) n) (lifF m (mM g h m) (chL h.2 s k) n) (by omega)) ?_
    simp -implicitDefEqProofs (disch := omega) [List.getElem?_cons_zero, List.getElem?_cons_succ, wrap_id]
    refine HC_of_PC rfl (awake52_ok) ?_
    simp -implicitDefEqProofs (disch := omega) [List.getElem?_cons_zero, List.getElem?_cons_succ, wrap_id]
    (refine fin0 trivial rfl ?_; simp -implicitDefEqProofs (disch := omega) [List.getElem?_cons_zero, List.getElem?_cons_succ, idx, wrap_id])
  obtain ⟨hl1, hB1⟩ := right_good hr1
  have hln : s.length = n := by omega
  have b1 := chL_bd c.gg r.eg (by omega) hB1 n
  have t1 : Bd 576000 (sumF m (mM g h m) s k n) := Bd.list (by omega) fun w hw => by
    have := sm_abd (f := fun v => if vI m v = (w : Int) then s.getD v 0 * mM g h m v else 0) (B := 48000) (by omega) (fun i => by
      have := mul_bd (hB1 i) (r.mb i) (by omega)
      split <;> omega) n
    omega
  have hch := r.push_ch s
  have b2 := r.sumB (by omega) b1
  have d1 := change1 c.gg hgo hgn hs.g hln (hB1.more (by omega)) (b1.more (by omega))
  have d2 := r.push (chL_len g.2 s n) (b1.more (by omega))
  have d3 := r.pushS hln (hB1.more (by omega)) (t1.more (by omega))
  have b3 := b2
  rw [← hch] at b3
  have d4 := change1 c.hg hho hhk hs.h (s := sumF m (mM g h m) s k n) (lsF_len _ _) (t1.more (by omega)) (b3.more (by omega))
  rw [hch] at d4
  have hal : (sumF m (fun _ => 1) (chL g.2 s n) k n).length = k := lsF_len _ _
  simp -implicitDefEqProofs (disch := omega) [List.getElem?_cons_zero, List.getElem?_cons_succ, wrap_id]
  refine HC_of_PC rfl (d1) ?_
  simp -implicitDefEqProofs (disch := omega) [List.getElem?_cons_zero, List.getElem?_cons_succ, wrap_id]
  refine HC_of_PC rfl (d2) ?_
  simp -implicitDefEqProofs (disch := omega) [List.getElem?_cons_zero, List.getElem?_cons_succ, wrap_id]
  refine HC_of_PC rfl (d3) ?_
  simp -implicitDefEqProofs (disch := omega) [List.getElem?_cons_zero, List.getElem?_cons_succ, wrap_id]
  refine HC_of_PC rfl (d4) ?_
  simp -implicitDefEqProofs (disch := omega) [List.getElem?_cons_zero, List.getElem?_cons_succ, wrap_id]
  refine HC_of_PC rfl (eqD_ok (sumF m (fun _ => 1) (chL g.2 s n) k n) (sumF m (fun _ => 1) (chL g.2 s n) k n) (by omega)) ?_
  simp -implicitDefEqProofs (disch := omega) [List.getElem?_cons_zero, List.getElem?_cons_succ, wrap_id]
  refine HC_of_PC rfl (right52_ok g h m s h.1) ?_
  cases hr2 : rightP g h m s h.1
  · simp -implicitDefEqProofs (disch := omega) [List.getElem?_cons_zero, List.getElem?_cons_succ, wrap_id]
    refine HC_of_PC rfl (awake52_ok) ?_
    simp -implicitDefEqProofs (disch := omega) [List.getElem?_cons_zero, List.getElem?_cons_succ, wrap_id]
    (refine fin0 trivial rfl ?_; simp -implicitDefEqProofs (disch := omega) [List.getElem?_cons_zero, List.getElem?_cons_succ, idx, wrap_id])
  obtain ⟨hl2, hB2⟩ := right_good hr2
  have hlk : s.length = k := by omega
  have b1 := chL_bd c.hg r.eh (by omega) hB2 k
  have t1 : Bd 1000 (lifF m (fun _ => 1) s n) := Rt.lifB1 (by omega) hB2
  have b2 := chL_bd c.gg r.eg (by omega) t1 n
  have hch := r.pull_ch s
  have d1 := change1 c.hg hho hhk hs.h hlk (hB2.more (by omega)) (b1.more (by omega))
  have b3 := b2
  rw [hch] at b3
  have d2 := r.pull (chL_len h.2 s k) (b1.more (by omega)) (b3.more (by omega))
  have d3 := r.pullS hlk (hB2.more (by omega))
  have d4 := change1 c.gg hgo hgn hs.g (s := lifF m (fun _ => 1) s n) (lsF_len _ _) (t1.more (by omega)) (b2.more (by omega))
  rw [hch] at d4
  have hal : (lifF m (mM g h m) (chL h.2 s k) n).length = n := lsF_len _ _
  simp -implicitDefEqProofs (disch := omega) [List.getElem?_cons_zero, List.getElem?_cons_succ, wrap_id]
  refine HC_of_PC rfl (d1) ?_
  simp -implicitDefEqProofs (disch := omega) [List.getElem?_cons_zero, List.getElem?_cons_succ, wrap_id]
  refine HC_of_PC rfl (d2) ?_
  simp -implicitDefEqProofs (disch := omega) [List.getElem?_cons_zero, List.getElem?_cons_succ, wrap_id]
  refine HC_of_PC rfl (d3) ?_
  simp -implicitDefEqProofs (disch := omega) [List.getElem?_cons_zero, List.getElem?_cons_succ, wrap_id]
  refine HC_of_PC rfl (d4) ?_
  simp -implicitDefEqProofs (disch := omega) [List.getElem?_cons_zero, List.getElem?_cons_succ, wrap_id]
  refine HC_of_PC rfl (eqD_ok (lifF m (mM g h m) (chL h.2 s k) n) (lifF m (mM g h m) (chL h.2 s k) n) (by omega)) ?_
  simp -implicitDefEqProofs (disch := omega) [List.getElem?_cons_zero, List.getElem?_cons_succ, wrap_id]
  refine HC_of_PC rfl (awake52_ok) ?_
  simp -implicitDefEqProofs (disch := omega) [List.getElem?_cons_zero, List.getElem?_cons_succ, wrap_id]
  (refine fin0 trivial rfl ?_; simp -implicitDefEqProofs (disch := omega) [List.getElem?_cons_zero, List.getElem?_cons_succ, idx, wrap_id])
end Go.Proofs.Ytddgepjmfnodhaa
