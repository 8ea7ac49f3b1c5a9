/-
  Plain laws of what is pushed and pulled back along a harmonic morphism.
-/
import Derived.Test.YtddgepjmfnodhaaPb
set_option linter.unusedSimpArgs false
set_option linter.unusedVariables false
namespace Go.Proofs.Ytddgepjmfnodhaa
open Go.Abs Go.Sand

theorem sumI_lsF (f : Nat → Int) : ∀ n, sumI (lsF n f) = sm f n
  | 0 => rfl
  | n + 1 => by rw [lsF_succ, sumI_append, sumI_lsF f n, sm]; simp [sumI]
theorem sm_fibs {m : Mo} {n k : Nat} (hv : ∀ v, v < n → 0 ≤ vI m v ∧ vI m v < k) (f : Nat → Int) : sm (fun w => sm (fun v => if vI m v = (w : Int) then f v else 0) n) k = sm f n := by
  rw [sm_comm]
  refine sm_congr fun v hv' => ?_
  have h := sm_one (vI m v) (fun _ => f v) k
  rw [if_pos (hv v hv')] at h
  refine Eq.trans (sm_congr fun w hw => ?_) h
  by_cases e : vI m v = w
  · rw [if_pos e, if_pos e.symm]
  · rw [if_neg e, if_neg fun h => e h.symm]
theorem sm_along {m : Mo} {n k : Nat} (hv : ∀ v, v < n → 0 ≤ vI m v ∧ vI m v < k) (L W : Nat → Int) : sm (fun v => L (vI m v).toNat * W v) n = sm (fun w => L w * fibS m n w W) k := by
  rw [← sm_fibs hv]
  refine sm_congr fun w hw => ?_
  rw [fibS, ← sm_mul]
  refine sm_congr fun v hv' => ?_
  by_cases h : vI m v = w
  · rw [if_pos h, if_pos h, h, Int.toNat_natCast]
  · rw [if_neg h, if_neg h, Int.mul_zero]
section
variable {g h : Gr} {m : Mo} {n k : Nat}
theorem one_ends (c : Cov g h m n k) (h1 : h.1 = 1) : endsL h.2 = [] := by
  refine List.eq_nil_iff_forall_not_mem.2 fun p hp => ?_
  have h2 := ends_in c.hg.right p hp
  exact no_loop c.hl p hp (by omega)
theorem fib_deg (c : Cov g h m n k) (hh : harmM g h m = true) {w : Nat} (hw : w < k) : fibS m n w (mM g h m) = occ 0 m.e := by
  have hk := c.hk
  have hn1 := c.hg.n1
  by_cases h1 : h.1 = 1
  · rw [one_none c h1]
    refine sm_zero fun v hv => ?_
    have e := one_ends c h1
    have : mM g h m v = 0 := by unfold mM; rw [e]; rfl
    rw [this]; split <;> rfl
  · exact (deg_same c hh (by omega)).1 w hw
/-- What is pushed keeps the sum. -/
theorem push_total (c : Cov g h m n k) (l : List Int) : sumI (sumF m (fun _ => 1) l k n) = sm (fun v => l.getD v 0) n := by
  rw [sumF, sumI_lsF, sm_fibs (fun v hv => c.vB hv)]
  exact sm_congr fun v _ => Int.mul_one _
theorem pull_total (c : Cov g h m n k) (hh : harmM g h m = true) (l : List Int) : sumI (lifF m (mM g h m) l n) = occ 0 m.e * sm (fun w => l.getD w 0) k := by
  rw [lifF, sumI_lsF, sm_along (fun v hv => c.vB hv) (fun w => l.getD w 0), ← sm_mul]
  refine sm_congr fun w hw => ?_
  rw [fib_deg c hh hw, Int.mul_comm]
theorem sumI_getD (l : List Int) : sumI l = sm (fun i => l.getD i 0) l.length := by
  have := sumI_sm (fun x => x) l l.length (Nat.le_refl _)
  rw [List.take_length, List.map_id'] at this
  exact this
theorem pull_push (c : Cov g h m n k) (hh : harmM g h m = true) (l : List Int) (hl : l.length = k) : sumF m (fun _ => 1) (lifF m (mM g h m) l n) k n = l.map fun x => occ 0 m.e * x := by
  refine ext_getD (by simp [sumF, lsF_len, hl]) fun w hw => ?_
  have hw' : w < k := by simpa [sumF, lsF_len] using hw
  rw [sumF, lsF_get hw']
  have e : ∀ v, v < n → (if vI m v = (w : Int) then (lifF m (mM g h m) l n).getD v 0 * 1 else 0) = l.getD w 0 * (if vI m v = (w : Int) then mM g h m v else 0) := fun v hv => by
    rw [lifF, lsF_get hv]
    by_cases h : vI m v = w
    · rw [if_pos h, if_pos h, h, Int.toNat_natCast, Int.mul_one]
    · rw [if_neg h, if_neg h, Int.mul_zero]
  rw [sm_congr e, sm_mul]
  have := fib_deg c hh hw'
  unfold fibS at this
  rw [this, List.getD_eq_getElem?_getD, List.getD_eq_getElem?_getD, List.getElem?_map, List.getElem?_eq_getElem (by omega : w < l.length)]
  exact Int.mul_comm _ _
/-- The ends, one by one. -/
theorem sm_split (c : Cov g h m n k) (F : Nat → Int) (h0 : ∀ i, i < nE g → m.e.getD i 0 = -1 → F i = 0) : sm F (nE g) = sm (fun e => sm (fun i => if m.e.getD i 0 = (e : Int) then F i else 0) (nE g)) (nE h) := by
  rw [sm_comm]
  refine sm_congr fun i hi => ?_
  have hb := c.eb hi
  have e1 := sm_one (m.e.getD i 0) (fun _ => F i) (nE h)
  have e2 : sm (fun e => if m.e.getD i 0 = (e : Int) then F i else 0) (nE h) = sm (fun e => if (e : Int) = m.e.getD i 0 then F i else 0) (nE h) := sm_congr fun e _ => by
    by_cases e : m.e.getD i 0 = e
    · rw [if_pos e, if_pos e.symm]
    · rw [if_neg e, if_neg fun h => e h.symm]
  rw [e2, e1]
  by_cases hx : m.e.getD i 0 = -1
  · rw [h0 i hi hx]; split <;> rfl
  · rw [if_pos (by omega)]
def pg (s : Nat → Int) (v : Int) (p : Int × Int) : Int := ((if p.2 = v then 1 else 0) - (if p.1 = v then 1 else 0)) * (s p.1.toNat - s p.2.toNat)
theorem gives_pg (s : List Int) (v : Nat) (x : Ed) : gives s v x = x.m * pg (fun i => s.getD i 0) v (x.a, x.b) := by
  unfold gives flow pg
  by_cases h1 : x.b = v <;> by_cases h2 : x.a = v <;> simp [h1, h2, Int.mul_neg]
theorem dif_sm (hg : GoodG g.1 g.2) (s : List Int) (v : Nat) : dif g.2 s v = sm (fun i => pg (fun i => s.getD i 0) v (eA g i)) (nE g) := by
  have h1 : dif g.2 s v = sumI (g.2.map fun x => x.m * pg (fun i => s.getD i 0) v (x.a, x.b)) := by
    unfold dif
    rw [List.map_congr_left fun x _ => gives_pg s v x]
  rw [h1, ← ends_map (pg (fun i => s.getD i 0) v) (fun x hx => (hg.right x hx).m1)]
  have := sumI_smP (pg (fun i => s.getD i 0) v) (endsL g.2) (endsL g.2).length (Nat.le_refl _)
  rw [List.take_length] at this
  exact this
theorem cM_sm (c : Cov g h m n k) (v : Nat) (e : Int) : cM g m v e = sm (fun i => if m.e.getD i 0 = e then isEnd (eA g i) v else 0) (nE g) := by
  have hel := c.elg
  unfold cM; rw [cntK_sm, hel]
  exact sm_congr fun i _ => at1_e _ _ _ _
/-- What a script pulled back changes is what it changes, pulled back. -/
theorem pull_change (c : Cov g h m n k) (hh : harmM g h m = true) (s : List Int) {v : Nat} (hv : v < n) : dif g.2 (lifF m (fun _ => 1) s n) v = dif h.2 s (vI m v).toNat * mM g h m v := by
  have hvb := c.vB hv
  obtain ⟨u, hu⟩ : ∃ u : Nat, vI m v = u := ⟨(vI m v).toNat, by omega⟩
  rw [hu, Int.toNat_natCast, dif_sm c.gg, dif_sm c.hg, Int.mul_comm, ← sm_mul]
  have hl : ∀ x, x < n → (lifF m (fun _ => 1) s n).getD x 0 = s.getD (vI m x).toNat 0 := fun x hx => by rw [lifF, lsF_get hx, Int.mul_one]
  rw [sm_split c _ fun i hi hx => by
    have ge := c.gE hi
    have g1 := ge.a0
    have g2 := ge.ab
    have g3 := ge.bn
    rcases c.im hi with ⟨_, h2⟩ | ⟨e, h2, _⟩
    · unfold pg
      simp only
      rw [hl _ (by omega), hl _ (by omega), h2, Int.sub_self, Int.mul_zero]
    · omega]
  refine sm_congr fun e he => ?_
  have hE := c.hE he
  have q0 := hE.a0
  have q1 := hE.ab
  have key : sm (fun i => if m.e.getD i 0 = (e : Int) then pg (fun i => (lifF m (fun _ => 1) s n).getD i 0) v (eA g i) else 0) (nE g) = cM g m v e * pg (fun i => s.getD i 0) u (eA h e) := by
    rw [cM_sm c, Int.mul_comm, ← sm_mul]
    refine sm_congr fun i hi => ?_
    by_cases hx : m.e.getD i 0 = e
    rotate_left
    · rw [if_neg hx, if_neg hx, Int.mul_zero]
    rw [if_pos hx, if_pos hx]
    have ge := c.gE hi
    have g1 := ge.a0
    have g2 := ge.ab
    have g3 := ge.bn
    rcases c.im hi with ⟨h2, _⟩ | ⟨e', h2, _, hd⟩
    · omega
    have hee : e' = e := by omega
    subst hee
    unfold pg isEnd
    simp only
    rw [hl _ (by omega), hl _ (by omega), hd]
    simp only
    have ha := c.vB (show (eA g i).1.toNat < n by omega)
    have hb := c.vB (show (eA g i).2.toNat < n by omega)
    have hab : min (vI m (eA g i).1.toNat) (vI m (eA g i).2.toNat) < max (vI m (eA g i).1.toNat) (vI m (eA g i).2.toNat) := by rw [hd] at q1; exact q1
    have va : (eA g i).1 = v → vI m (eA g i).1.toNat = u := fun h => by rw [h, Int.toNat_natCast, hu]
    have vb : (eA g i).2 = v → vI m (eA g i).2.toNat = u := fun h => by rw [h, Int.toNat_natCast, hu]
    generalize vI m (eA g i).1.toNat = A at *
    generalize vI m (eA g i).2.toNat = B at *
    rcases Int.lt_trichotomy A B with hAB | hAB | hAB
    · rw [Int.min_eq_left (by omega), Int.max_eq_right (by omega)]
      generalize s.getD A.toNat 0 = sA
      generalize s.getD B.toNat 0 = sB
      by_cases p1 : (eA g i).1 = v
      · have := va p1
        rw [if_pos p1, if_neg (by omega), if_neg (by omega), if_pos (by omega)]; omega
      · rw [if_neg p1]
        by_cases p2 : (eA g i).2 = v
        · have := vb p2
          rw [if_pos p2, if_pos (by omega), if_neg (by omega)]; omega
        · rw [if_neg p2]; simp
    · omega
    · rw [Int.min_eq_right (by omega), Int.max_eq_left (by omega)]
      generalize s.getD A.toNat 0 = sA
      generalize s.getD B.toNat 0 = sB
      by_cases p1 : (eA g i).1 = v
      · have := va p1
        rw [if_pos p1, if_neg (by omega), if_pos (by omega), if_neg (by omega)]; omega
      · rw [if_neg p1]
        by_cases p2 : (eA g i).2 = v
        · have := vb p2
          rw [if_pos p2, if_neg (by omega), if_pos (by omega)]; omega
        · rw [if_neg p2]; simp
  rw [key]
  cases ht : tM h m v e
  · have hn : ¬ (vI m v = (eA h e).1 ∨ vI m v = (eA h e).2) := fun hcx => by rw [(tM_iff h m v e).2 hcx] at ht; cases ht
    have hz : pg (fun i => s.getD i 0) u (eA h e) = 0 := by
      unfold pg
      rw [if_neg (fun hq => hn (.inr (by omega))), if_neg (fun hq => hn (.inl (by omega)))]
      simp
    rw [hz, Int.mul_zero, Int.mul_zero]
  · rw [harm_at c hh hv he ht]
/-- What is pushed of a script that changes. -/
theorem push_side (c : Cov g h m n k) (hh : harmM g h m = true) (s : List Int) {e : Nat} (he : e < nE h) {A : Int} (hA : A = (eA h e).1 ∨ A = (eA h e).2) :
    sm (fun v => if vI m v = A then s.getD v 0 * mM g h m v else 0) n = sm (fun i => if m.e.getD i 0 = (e : Int) then (if vI m (eA g i).1.toNat = A then s.getD (eA g i).1.toNat 0 else 0) + (if vI m (eA g i).2.toNat = A then s.getD (eA g i).2.toNat 0 else 0) else 0) (nE g) := by
  have e1 : ∀ v, v < n → (if vI m v = A then s.getD v 0 * mM g h m v else 0) = sm (fun i => if m.e.getD i 0 = (e : Int) then ((if (v : Int) = (eA g i).1 then (if vI m v = A then s.getD v 0 else 0) else 0) + (if (v : Int) = (eA g i).2 then (if vI m v = A then s.getD v 0 else 0) else 0)) else 0) (nE g) := fun v hv => by
    by_cases hvA : vI m v = A
    · rw [if_pos hvA, ← harm_at c hh hv he ((tM_iff h m v e).2 (by rw [hvA]; exact hA)), cM_sm c, ← sm_mul]
      refine sm_congr fun i hi => ?_
      by_cases hx : m.e.getD i 0 = (e : Int)
      · rw [if_pos hx, if_pos hx, if_pos hvA]
        unfold isEnd
        by_cases p1 : (eA g i).1 = v
        · rw [if_pos p1, if_pos p1.symm]
          by_cases p2 : (eA g i).2 = v
          · rw [if_pos p2, if_pos p2.symm]; omega
          · rw [if_neg p2, if_neg (fun h : (v : Int) = (eA g i).2 => p2 h.symm)]; omega
        · rw [if_neg p1, if_neg (fun h : (v : Int) = (eA g i).1 => p1 h.symm)]
          by_cases p2 : (eA g i).2 = v
          · rw [if_pos p2, if_pos p2.symm]; omega
          · rw [if_neg p2, if_neg (fun h : (v : Int) = (eA g i).2 => p2 h.symm)]; omega
      · rw [if_neg hx, if_neg hx, Int.mul_zero]
    · rw [if_neg hvA]
      refine (sm_zero fun i hi => ?_).symm
      rw [if_neg hvA]
      split <;> simp
  rw [sm_congr e1, sm_comm]
  refine sm_congr fun i hi => ?_
  have ge := c.gE hi
  have g1 := ge.a0
  have g2 := ge.ab
  have g3 := ge.bn
  by_cases hx : m.e.getD i 0 = (e : Int)
  · have e2 := sm_one (eA g i).1 (fun v => if vI m v = A then s.getD v 0 else 0) n
    have e3 := sm_one (eA g i).2 (fun v => if vI m v = A then s.getD v 0 else 0) n
    rw [if_pos (by omega)] at e2 e3
    simp only [if_pos hx]
    rw [sm_add, e2, e3]
  · simp only [if_neg hx]
    exact sm_zero fun _ _ => rfl
theorem push_change (c : Cov g h m n k) (hh : harmM g h m = true) (s : List Int) {w : Nat} (hw : w < k) : dif h.2 (sumF m (mM g h m) s k n) w = sm (fun v => if vI m v = (w : Int) then dif g.2 s v else 0) n := by
  have e1 : ∀ v, v < n → (if vI m v = (w : Int) then dif g.2 s v else 0) = sm (fun i => if vI m v = (w : Int) then pg (fun i => s.getD i 0) v (eA g i) else 0) (nE g) := fun v hv => by
    by_cases hvw : vI m v = w
    · rw [if_pos hvw, dif_sm c.gg]
      exact sm_congr fun i _ => by rw [if_pos hvw]
    · rw [if_neg hvw]
      exact (sm_zero fun i _ => if_neg hvw).symm
  rw [sm_congr e1, sm_comm]
  have e2 : ∀ i, i < nE g → sm (fun v => if vI m v = (w : Int) then pg (fun i => s.getD i 0) v (eA g i) else 0) n = ((if vI m (eA g i).2.toNat = w then 1 else 0) - (if vI m (eA g i).1.toNat = w then 1 else 0)) * (s.getD (eA g i).1.toNat 0 - s.getD (eA g i).2.toNat 0) := fun i hi => by
    have ge := c.gE hi
    have g1 := ge.a0
    have g2 := ge.ab
    have g3 := ge.bn
    obtain ⟨D, hD⟩ : ∃ D, D = s.getD (eA g i).1.toNat 0 - s.getD (eA g i).2.toNat 0 := ⟨_, rfl⟩
    have f2 := sm_one (eA g i).2 (fun v => if vI m v = (w : Int) then D else 0) n
    have f1 := sm_one (eA g i).1 (fun v => if vI m v = (w : Int) then -D else 0) n
    rw [if_pos (by omega)] at f1 f2
    rw [← hD]
    have e3 : ((if vI m (eA g i).2.toNat = (w : Int) then (1 : Int) else 0) - (if vI m (eA g i).1.toNat = (w : Int) then 1 else 0)) * D = (if vI m (eA g i).2.toNat = (w : Int) then D else 0) + (if vI m (eA g i).1.toNat = (w : Int) then -D else 0) := by
      split <;> split <;> simp <;> omega
    rw [e3, ← f1, ← f2, ← sm_add]
    refine sm_congr fun v hv => ?_
    unfold pg
    simp only
    rw [← hD]
    by_cases hvw : vI m v = w
    · simp only [if_pos hvw]
      by_cases p1 : (eA g i).1 = v
      · rw [if_pos p1, if_pos p1.symm]
        by_cases p2 : (eA g i).2 = v
        · rw [if_pos p2, if_pos p2.symm]; omega
        · rw [if_neg p2, if_neg (fun h : (v : Int) = (eA g i).2 => p2 h.symm)]; omega
      · rw [if_neg p1, if_neg (fun h : (v : Int) = (eA g i).1 => p1 h.symm)]
        by_cases p2 : (eA g i).2 = v
        · rw [if_pos p2, if_pos p2.symm]; omega
        · rw [if_neg p2, if_neg (fun h : (v : Int) = (eA g i).2 => p2 h.symm)]; omega
    · simp only [if_neg hvw]
      split <;> split <;> simp
  rw [sm_congr e2, dif_sm c.hg, sm_split c _ fun i hi hx => by
    rcases c.im hi with ⟨_, h2⟩ | ⟨e, h2, _⟩
    · rw [h2, Int.sub_self, Int.zero_mul]
    · omega]
  refine sm_congr fun e he => ?_
  have hE := c.hE he
  have q0 := hE.a0
  have q1 := hE.ab
  have q2 := hE.bn
  have sA := push_side c hh s he (.inl rfl)
  have sB := push_side c hh s he (.inr rfl)
  unfold pg
  simp only
  have tg : ∀ x : Nat, x < k → (sumF m (mM g h m) s k n).getD x 0 = sm (fun v => if vI m v = (x : Int) then s.getD v 0 * mM g h m v else 0) n := fun x hx => by rw [sumF, lsF_get hx]
  rw [tg _ (by omega), tg _ (by omega), show (((eA h e).1.toNat : Nat) : Int) = (eA h e).1 by omega, show (((eA h e).2.toNat : Nat) : Int) = (eA h e).2 by omega, sA, sB]
  obtain ⟨X, hX⟩ : ∃ X : Int, X = (if (eA h e).2 = (w : Int) then 1 else 0) - (if (eA h e).1 = (w : Int) then 1 else 0) := ⟨_, rfl⟩
  rw [← hX, Int.mul_sub, ← sm_mul, ← sm_mul]
  have e5 : ∀ (a b : Nat → Int) (N : Nat), sm a N - sm b N = sm (fun i => a i - b i) N := fun a b N => by
    induction N with
    | zero => rfl
    | succ N ih => simp only [sm]; omega
  rw [e5]
  refine sm_congr fun i hi => ?_
  by_cases hx : m.e.getD i 0 = (e : Int)
  rotate_left
  · rw [if_neg hx, if_neg hx, if_neg hx]; simp
  rw [if_pos hx, if_pos hx, if_pos hx]
  rcases c.im hi with ⟨h2, _⟩ | ⟨e', h2, _, hd⟩
  · omega
  have hee : e' = e := by omega
  subst hee
  have d1 : (eA h e').1 = min (vI m (eA g i).1.toNat) (vI m (eA g i).2.toNat) := by rw [hd]
  have d2 : (eA h e').2 = max (vI m (eA g i).1.toNat) (vI m (eA g i).2.toNat) := by rw [hd]
  rw [d1, d2] at hX q1
  rw [d1, d2]
  generalize vI m (eA g i).1.toNat = A at *
  generalize vI m (eA g i).2.toNat = B at *
  generalize s.getD (eA g i).1.toNat 0 = sa
  generalize s.getD (eA g i).2.toNat 0 = sb
  rcases Int.lt_trichotomy A B with hAB | hAB | hAB
  · rw [Int.min_eq_left (by omega), Int.max_eq_right (by omega)] at *
    rw [if_pos rfl, if_neg (by omega), if_neg (by omega), if_pos rfl, ← hX, ← Int.mul_sub]
    congr 1; omega
  · omega
  · rw [Int.min_eq_right (by omega), Int.max_eq_left (by omega)] at *
    rw [if_neg (by omega), if_pos rfl, if_pos rfl, if_neg (by omega)]
    have : X = -((if B = (w : Int) then 1 else 0) - (if A = (w : Int) then 1 else 0)) := by rw [hX]; omega
    rw [this, Int.neg_mul, Int.neg_mul]
    generalize (if B = (w : Int) then (1 : Int) else 0) - (if A = (w : Int) then 1 else 0) = Y
    rw [Int.mul_sub, Int.zero_add, Int.add_zero]; omega
end
end Go.Proofs.Ytddgepjmfnodhaa
