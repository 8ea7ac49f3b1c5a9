/-
  The law MorphismSplits.
-/
import Derived.Test.YtddgepjmfnodhaaSd
set_option linter.unusedSimpArgs false
set_option linter.unusedVariables false
namespace Go.Proofs.Ytddgepjmfnodhaa
open Go.Abs Go.Sand

theorem sumI_rep (c : Int) : ∀ k : Nat, sumI (List.replicate k c) = k * c
  | 0 => by simp [sumI]
  | k + 1 => by
    rw [List.replicate_succ, sumI, sumI_rep c k, Int.natCast_succ, Int.add_mul, Int.one_mul]; omega
theorem ends_map (f : Int × Int → Int) : ∀ {es : List Ed}, (∀ x ∈ es, 1 ≤ x.m) → sumI ((endsL es).map f) = sumI (es.map fun x => x.m * f (x.a, x.b))
  | [], _ => rfl
  | x :: es, h => by
    have ih := ends_map f (es := es) fun y hy => h y (by simp [hy])
    have hm := h x (by simp)
    unfold endsL at ih ⊢
    rw [List.flatMap_cons, List.map_append, sumI_append, ih, List.map_replicate, sumI_rep, List.map_cons, sumI, show ((x.m.toNat : Nat) : Int) = x.m by omega]
theorem sumI_smP (f : Int × Int → Int) (l : List (Int × Int)) : ∀ k, k ≤ l.length → sumI ((l.take k).map f) = sm (fun i => f (l.getD i (0, 0))) k
  | 0, _ => rfl
  | k + 1, h => by
    have e : l.take (k + 1) = l.take k ++ [l.getD k (0, 0)] := by
      rw [List.take_add_one, List.getElem?_eq_getElem (by omega), List.getD_eq_getElem?_getD, List.getElem?_eq_getElem (by omega)]; rfl
    rw [e, List.map_append, sumI_append, sumI_smP f l k (by omega), sm]
    simp [sumI]
/-- Is v an end? -/
abbrev isEnd (p : Int × Int) (v : Int) : Int := (if p.1 = v then 1 else 0) + (if p.2 = v then 1 else 0)
theorem val_sm {g : Gr} (hg : GoodG g.1 g.2) (hl : loopsB g.2 = false) (v : Int) : valS g.2 v = sm (fun i => isEnd (eA g i) v) (nE g) := by
  have hm : ∀ x ∈ g.2, 1 ≤ x.m := fun x hx => (hg.right x hx).m1
  have e1 := sumI_smP (fun p => isEnd p v) (endsL g.2) (nE g) (Nat.le_refl _)
  rw [List.take_length, ends_map _ hm] at e1
  refine Eq.trans ?_ e1
  unfold valS
  congr 1
  refine List.map_congr_left fun x hx => ?_
  have hne := no_loop hl (x.a, x.b) ((mem_ends hm _).2 ⟨x, hx, rfl⟩)
  dsimp only at hne
  unfold val1 isEnd
  dsimp only
  by_cases h1 : x.a = v
  · rw [if_pos ⟨hne, .inl h1⟩, if_pos h1, if_neg (by omega)]; omega
  · by_cases h2 : x.b = v
    · rw [if_pos ⟨hne, .inr h2⟩, if_neg h1, if_pos h2]; omega
    · rw [if_neg (by omega), if_neg h1, if_neg h2]; omega
theorem at1_e (p : Int × Int) (x v e : Int) : at1 p x v e = if x = e then isEnd p v else 0 := rfl
theorem val_splits {g h : Gr} {m : Mo} {n k : Nat} (c : Cov g h m n k) (hh : harmM g h m = true) {v : Nat} (hv : v < n) : valS g.2 v = mM g h m v * valS h.2 (vI m v) + cM g m v (-1) := by
  have hel := c.elg
  rw [val_sm c.gg c.gl, val_sm c.hg c.hl, ← sm_mul]
  have s1 : ∀ i, i < nE g → isEnd (eA g i) v = sm (fun e => at1 (eA g i) (m.e.getD i 0) v e) (nE h) + at1 (eA g i) (m.e.getD i 0) v (-1) := fun i hi => by
    have hb := c.eb hi
    have e1 : ∀ e, e < nE h → at1 (eA g i) (m.e.getD i 0) v e = if (e : Int) = m.e.getD i 0 then isEnd (eA g i) v else 0 := fun e _ => by
      rw [at1_e]
      by_cases hx : m.e.getD i 0 = e
      · rw [if_pos hx, if_pos hx.symm]
      · rw [if_neg hx, if_neg fun h => hx h.symm]
    rw [sm_congr e1, sm_one (m.e.getD i 0) (fun _ => isEnd (eA g i) v), at1_e]
    by_cases hx : m.e.getD i 0 = -1
    · rw [if_pos hx, if_neg (by omega)]; omega
    · rw [if_neg hx, if_pos (by omega)]; omega
  rw [sm_congr s1, sm_add, sm_comm]
  congr 1
  · refine sm_congr fun e he => ?_
    have e2 : sm (fun i => at1 (eA g i) (m.e.getD i 0) v e) (nE g) = cM g m v e := by
      unfold cM; rw [cntK_sm, hel]
    rw [e2]
    have hE := c.hE he
    have q2 := hE.ab
    cases ht : tM h m v e
    · rw [cM_far c hv he ht]
      have hn : ¬ (vI m v = (eA h e).1 ∨ vI m v = (eA h e).2) := fun hcx => by rw [(tM_iff h m v e).2 hcx] at ht; cases ht
      unfold isEnd
      rw [if_neg (fun hq => hn (.inl hq.symm)), if_neg (fun hq => hn (.inr hq.symm))]
      simp
    · rw [harm_at c hh hv he ht]
      have ht' := (tM_iff h m v e).1 ht
      unfold isEnd
      by_cases p1 : (eA h e).1 = vI m v
      · rw [if_pos p1, if_neg (by omega)]; omega
      · rw [if_neg p1, if_pos (by omega)]; omega
  · unfold cM; rw [cntK_sm, hel]
theorem rval_at (g : Gr) (v : Int) (hg : GoodG g.1 g.2) (hel : g.2.length ≤ 900) (hv : 0 ≤ v ∧ v < g.1) : PC Try.prog 24 [GrP g, .i v] (.i (valS g.2 v)) [] := by
  have h1 := hg.n1
  have h12 := hg.n12
  obtain ⟨n, hn⟩ : ∃ n : Nat, g.1 = n := ⟨g.1.toNat, by omega⟩
  have hr : ∀ x ∈ g.2, Right n x := fun x hx => hn ▸ hg.right x hx
  have := rval_ok n v g.2 (by omega) hr (by omega)
  rw [valTo_all hr hg.asc v (by omega), ← hn] at this
  exact this
end Go.Proofs.Ytddgepjmfnodhaa
