/-
  Plain laws: the formula of Riemann and Hurwitz, compositions.
-/
import Derived.Test.YtddgepjmfnodhaaPs
import Derived.Test.YtddgepjmfnodhaaGm
set_option linter.unusedSimpArgs false
set_option linter.unusedVariables false
namespace Go.Proofs.Ytddgepjmfnodhaa
open Go.Abs Go.Sand

theorem val_total {g : Gr} {n : Nat} (hg : GoodG g.1 g.2) (hl : loopsB g.2 = false) (hn : g.1 = n) : sm (fun v => valS g.2 v) n = 2 * nE g := by
  have e1 : ∀ v, v < n → valS g.2 v = sm (fun i => isEnd (eA g i) v) (nE g) := fun v _ => val_sm hg hl v
  rw [sm_congr e1, sm_comm]
  have e2 : ∀ i, i < nE g → sm (fun v => isEnd (eA g i) v) n = 2 := fun i hi => by
    have ge := gE_of hg hl hn hi
    have g1 := ge.a0
    have g2 := ge.ab
    have g3 := ge.bn
    have f1 := sm_one (eA g i).1 (fun _ => 1) n
    have f2 := sm_one (eA g i).2 (fun _ => 1) n
    rw [if_pos (by omega)] at f1 f2
    have : sm (fun v => isEnd (eA g i) v) n = sm (fun v => (if (v : Int) = (eA g i).1 then 1 else 0) + (if (v : Int) = (eA g i).2 then 1 else 0)) n := sm_congr fun v _ => by
      unfold isEnd
      by_cases p1 : (eA g i).1 = v
      · rw [if_pos p1, if_pos p1.symm]
        by_cases p2 : (eA g i).2 = v
        · rw [if_pos p2, if_pos p2.symm]
        · rw [if_neg p2, if_neg (fun h : (v : Int) = (eA g i).2 => p2 h.symm)]
      · rw [if_neg p1, if_neg (fun h : (v : Int) = (eA g i).1 => p1 h.symm)]
        by_cases p2 : (eA g i).2 = v
        · rw [if_pos p2, if_pos p2.symm]
        · rw [if_neg p2, if_neg (fun h : (v : Int) = (eA g i).2 => p2 h.symm)]
    rw [this, sm_add, f1, f2]; rfl
  rw [sm_congr e2]
  have : ∀ N : Nat, sm (fun _ => (2 : Int)) N = 2 * N := fun N => by
    induction N with
    | zero => rfl
    | succ N ih => simp only [sm]; rw [ih]; push_cast; omega
  exact this _
section
variable {g h q : Gr} {m o : Mo} {n k l : Nat}
/-- The ramification. -/
def ramF (g h : Gr) (m : Mo) (n : Nat) : List Int := lsF n fun v => 2 * mM g h m v - 2 + cM g m v (-1)
theorem hurwitz (c : Cov g h m n k) (hh : harmM g h m = true) : 2 * genI g.1 g.2 - 2 = occ 0 m.e * (2 * genI h.1 h.2 - 2) + sumI (ramF g h m n) := by
  have hv : ∀ v, v < n → 0 ≤ vI m v ∧ vI m v < k := fun v hv => c.vB hv
  have gn := c.gn
  have hk := c.hk
  have v1 := val_total c.gg c.gl c.gn
  have v2 := val_total c.hg c.hl c.hk
  have s1 := sm_along hv (fun w => valS h.2 w) (mM g h m)
  have s2 := sm_along hv (fun _ => 1) (mM g h m)
  have e1 : sm (fun w => valS h.2 (w : Nat) * fibS m n w (mM g h m)) k = occ 0 m.e * (2 * nE h) := by
    rw [← v2, ← sm_mul]
    exact sm_congr fun w hw => by rw [fib_deg c hh hw, Int.mul_comm]
  have e2 : sm (fun w => 1 * fibS m n (w : Nat) (mM g h m)) k = occ 0 m.e * k := by
    have : ∀ w, w < k → 1 * fibS m n (w : Nat) (mM g h m) = occ 0 m.e * 1 := fun w hw => by rw [fib_deg c hh hw]; omega
    rw [sm_congr this, sm_mul]
    have : ∀ N : Nat, sm (fun _ => (1 : Int)) N = N := fun N => by
      induction N with
      | zero => rfl
      | succ N ih => simp only [sm]; rw [ih]; push_cast; omega
    rw [this]
  have e3 : sumI (ramF g h m n) = 2 * sm (fun v => mM g h m v) n + (-2) * n + (sm (fun v => valS g.2 v) n + (-1) * sm (fun v => valS h.2 ((vI m v).toNat : Nat) * mM g h m v) n) := by
    have h2 : (-2 : Int) * n = sm (fun _ => -2) n := by
      have : ∀ N : Nat, sm (fun _ => (-2 : Int)) N = -2 * N := fun N => by
        induction N with
        | zero => rfl
        | succ N ih => simp only [sm]; rw [ih]; push_cast; omega
      rw [this]
    rw [ramF, sumI_lsF, h2, ← sm_mul, ← sm_mul, ← sm_add, ← sm_add, ← sm_add]
    refine sm_congr fun v hv' => ?_
    have sp := val_splits c hh hv'
    have hb := hv v hv'
    rw [show (((vI m v).toNat : Nat) : Int) = vI m v by omega, Int.mul_comm (valS h.2 (vI m v))]
    omega
  have e4 : sm (fun v => mM g h m v) n = occ 0 m.e * k := by
    rw [← e2, ← s2]
    exact sm_congr fun v _ => (Int.one_mul _).symm
  rw [e3, s1, e1, e4, v1]
  have gc := c.gc
  have hc := c.hc
  have g1 : genI g.1 g.2 = nE g - n + 1 := by
    unfold genI; rw [gn, Int.toNat_natCast, gc]; rfl
  have g2 : genI h.1 h.2 = nE h - k + 1 := by
    unfold genI; rw [hk, Int.toNat_natCast, hc]; rfl
  rw [g1, g2]
  generalize occ 0 m.e = d
  generalize nE g = x
  generalize nE h = y
  have q1 : d * (2 * ((y : Int) - k + 1) - 2) = d * (2 * y) - 2 * (d * k) := by
    rw [show 2 * ((y : Int) - k + 1) - 2 = 2 * y - 2 * k by omega, Int.mul_sub, Int.mul_left_comm d 2 (k : Int)]
  rw [q1]
  omega
theorem canonical (c : Cov g h m n k) (hh : harmM g h m = true) {v : Nat} (hv : v < n) : valS g.2 v - 2 = (valS h.2 (vI m v) - 2) * mM g h m v + (2 * mM g h m v - 2 + cM g m v (-1)) := by
  rw [val_splits c hh hv, Int.sub_mul, Int.mul_comm (mM g h m v)]
  omega
theorem push_comp (c : Cov g h m n k) (d : Cov h q o k l) (s : List Int) : sumF o (fun _ => 1) (sumF m (fun _ => 1) s k n) l k = sumF (compM m o) (fun _ => 1) s l n := by
  refine ext_getD (by simp [sumF, lsF_len]) fun u hu => ?_
  have hu' : u < l := by simpa [sumF, lsF_len] using hu
  rw [show (sumF o (fun _ => 1) (sumF m (fun _ => 1) s k n) l k).getD u 0 = sm (fun v => if vI o v = (u : Int) then (sumF m (fun _ => 1) s k n).getD v 0 * 1 else 0) k from lsF_get hu', show (sumF (compM m o) (fun _ => 1) s l n).getD u 0 = sm (fun v => if vI (compM m o) v = (u : Int) then s.getD v 0 * 1 else 0) n from lsF_get hu', ← sm_fibs (fun v hv => c.vB hv) (fun v => if vI (compM m o) v = (u : Int) then s.getD v 0 * 1 else 0)]
  refine sm_congr fun w hw => ?_
  rw [sumF, lsF_get hw, Int.mul_one]
  by_cases hw' : vI o w = u
  · rw [if_pos hw']
    refine sm_congr fun v hv => ?_
    by_cases hvw : vI m v = w
    · rw [if_pos hvw, if_pos hvw, compV_vI c hv, hvw, Int.toNat_natCast, if_pos hw']
    · rw [if_neg hvw, if_neg hvw]
  · rw [if_neg hw']
    refine (sm_zero fun v hv => ?_).symm
    by_cases hvw : vI m v = w
    · rw [if_pos hvw, compV_vI c hv, hvw, Int.toNat_natCast, if_neg hw']
    · rw [if_neg hvw]
theorem mM_comp (c : Cov g h m n k) (d : Cov h q o k l) (c' : Cov g q (compM m o) n l) (hh : harmM g h m = true) (ho : harmM h q o = true) {v : Nat} (hv : v < n) : mM g q (compM m o) v = mM g h m v * mM h q o (vI m v).toNat := by
  have hb := c.vB hv
  have hl := d.hk
  have hl1 := d.hg.n1
  have hl12 := d.hg.n12
  by_cases h1 : q.1 = 1
  · have e := one_ends d h1
    have e1 : mM g q (compM m o) v = 0 := by unfold mM; rw [e]; rfl
    have e2 : mM h q o (vI m v).toNat = 0 := by unfold mM; rw [e]; rfl
    rw [e1, e2, Int.mul_zero]
  have hr : ∀ x ∈ q.2, Right l x := fun x hx => hl ▸ d.hg.right x hx
  have hm1 : ∀ x ∈ q.2, 1 ≤ x.m := fun x hx => (hr x hx).m1
  have hb' := c'.vB hv
  obtain ⟨x, hx, hxe⟩ := has_edge (by omega) hr d.hc (by omega) (show (vI (compM m o) v).toNat < l by omega)
  obtain ⟨f, hf, hfe⟩ := edge_at hm1 hx
  have t1 : vI (compM m o) v = (eA q f).1 ∨ vI (compM m o) v = (eA q f).2 := by
    rw [eA, hfe]
    simp only
    omega
  have t2 : vI o (vI m v).toNat = (eA q f).1 ∨ vI o (vI m v).toNat = (eA q f).2 := by rw [← compV_vI (o := o) c hv]; exact t1
  rw [← harm_at c' (comp_harm c d hh ho) hv hf ((tM_iff _ _ _ _).2 t1), comp_cM c d hh hv, harm_at d ho (by omega) hf ((tM_iff _ _ _ _).2 t2)]
theorem pull_comp (c : Cov g h m n k) (d : Cov h q o k l) (c' : Cov g q (compM m o) n l) (hh : harmM g h m = true) (ho : harmM h q o = true) (s : List Int) : lifF m (mM g h m) (lifF o (mM h q o) s k) n = lifF (compM m o) (mM g q (compM m o)) s n := by
  refine lsF_congr fun v hv => ?_
  have hb := c.vB hv
  rw [lifF, lsF_get (by omega), mM_comp c d c' hh ho hv, compV_vI c hv, Int.mul_assoc, Int.mul_comm (mM g h m v)]
end
end Go.Proofs.Ytddgepjmfnodhaa
