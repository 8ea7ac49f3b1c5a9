/-
  Plain laws: joining parts over the single edges, and the genus. No program.
-/
import Derived.Test.YtddgepjmfnodhaaMua
set_option linter.unusedVariables false
namespace Go.Sand

/-- Joining over single edges: the classes, and how many single edges join nothing. -/
def gStep (s : (Nat → Nat) × Nat) (p : Int × Int) : (Nat → Nat) × Nat := (joinC s.1 p.1.toNat p.2.toNat, s.2 + if s.1 p.1.toNat = s.1 p.2.toNat then 1 else 0)
def gSt (l : List (Int × Int)) : (Nat → Nat) × Nat := l.foldl gStep (id, 0)
def gFo (l : List (Int × Int)) : List Int := (l.foldl (fun (s : List Int × (Nat → Nat)) p => (s.1.set (max (s.2 p.1.toNat) (s.2 p.2.toNat)) ((min (s.2 p.1.toNat) (s.2 p.2.toNat) : Nat) : Int), joinC s.2 p.1.toNat p.2.toNat)) ((List.range 12).map fun i : Nat => (i : Int), id)).1
theorem gSt_snoc (l : List (Int × Int)) (p : Int × Int) : gSt (l ++ [p]) = gStep (gSt l) p := by simp [gSt, List.foldl_append]
theorem gFo_cls (l : List (Int × Int)) : (l.foldl (fun (s : List Int × (Nat → Nat)) p => (s.1.set (max (s.2 p.1.toNat) (s.2 p.2.toNat)) ((min (s.2 p.1.toNat) (s.2 p.2.toNat) : Nat) : Int), joinC s.2 p.1.toNat p.2.toNat)) ((List.range 12).map fun i : Nat => (i : Int), id)).2 = (gSt l).1 := by
  have key : ∀ (l : List (Int × Int)) (F : List Int) (c : Nat → Nat) (k : Nat), (l.foldl (fun (s : List Int × (Nat → Nat)) p => (s.1.set (max (s.2 p.1.toNat) (s.2 p.2.toNat)) ((min (s.2 p.1.toNat) (s.2 p.2.toNat) : Nat) : Int), joinC s.2 p.1.toNat p.2.toNat)) (F, c)).2 = (l.foldl gStep (c, k)).1 := by
    intro l
    induction l with
    | nil => intro F c k; rfl
    | cons p l ih => intro F c k; rw [List.foldl_cons, List.foldl_cons]; exact ih _ _ _
  exact key l _ _ _
theorem gFo_snoc (l : List (Int × Int)) (p : Int × Int) : gFo (l ++ [p]) = (gFo l).set (max ((gSt l).1 p.1.toNat) ((gSt l).1 p.2.toNat)) ((min ((gSt l).1 p.1.toNat) ((gSt l).1 p.2.toNat) : Nat) : Int) := by
  unfold gFo
  rw [List.foldl_append, List.foldl_cons, List.foldl_nil, gFo_cls]
theorem gSt_forest {n : Nat} (hn : n ≤ 12) : ∀ (l : List (Int × Int)), (∀ p ∈ l, (0 ≤ p.1 ∧ p.1 < n) ∧ 0 ≤ p.2 ∧ p.2 < n) → Forest (gFo l) (gSt l).1 := by
  intro l
  have : ∀ (k : Nat) (l : List (Int × Int)), l.length = k → (∀ p ∈ l, (0 ≤ p.1 ∧ p.1 < n) ∧ 0 ≤ p.2 ∧ p.2 < n) → Forest (gFo l) (gSt l).1 := by
    intro k
    induction k with
    | zero => intro l hl _; rw [List.eq_nil_of_length_eq_zero hl]; exact grown_forest
    | succ k ih =>
      intro l hl h
      have hne : l ≠ [] := by intro e; rw [e] at hl; cases hl
      have e := List.dropLast_concat_getLast hne
      rw [← e] at h ⊢
      have hp := h (l.getLast hne) (by simp)
      have hF := ih l.dropLast (by simp [hl]) fun p hp => h p (by simp [hp])
      rw [gFo_snoc, gSt_snoc]
      exact hF.join (by omega) (by omega)
  exact this l.length l rfl
/-- How many of the first n vertices stand for their class. -/
def rootN (c : Nat → Nat) (n : Nat) : Nat := ((List.range n).filter fun v => decide (c v = v)).length
theorem filter_less {p r : Nat → Bool} {M : Nat} : ∀ {n : Nat}, M < n → p M = true → r M = false → (∀ v, v < n → v ≠ M → r v = p v) → ((List.range n).filter r).length + 1 = ((List.range n).filter p).length
  | 0, h, _, _, _ => by omega
  | n + 1, h, h1, h2, h3 => by
    rw [List.range_succ, List.filter_append, List.filter_append, List.length_append, List.length_append]
    by_cases e : M = n
    · subst e
      have : (List.range M).filter r = (List.range M).filter p := List.filter_congr fun v hv => h3 v (by have := List.mem_range.1 hv; omega) (by have := List.mem_range.1 hv; omega)
      rw [this]
      simp [h1, h2]
    · have ih := filter_less (n := n) (by omega) h1 h2 fun v hv hne => h3 v (by omega) hne
      have : r n = p n := h3 n (by omega) (by omega)
      simp only [List.filter_cons, List.filter_nil, this]
      omega
theorem root_join {F : List Int} {c : Nat → Nat} (h : Forest F c) {n a b : Nat} (hn : n ≤ 12) (ha : a < n) (hb : b < n) : rootN (joinC c a b) n + (if c a = c b then 0 else 1) = rootN c n := by
  obtain ⟨a1, a2⟩ := h.le a (by omega)
  obtain ⟨b1, b2⟩ := h.le b (by omega)
  by_cases e : c a = c b
  · rw [if_pos e]
    have : joinC c a b = c := funext fun v => by unfold joinC; split <;> omega
    rw [this]; rfl
  · rw [if_neg e]
    unfold rootN
    obtain ⟨M, hM⟩ : ∃ M, M = max (c a) (c b) := ⟨_, rfl⟩
    obtain ⟨m, hm⟩ : ∃ m, m = min (c a) (c b) := ⟨_, rfl⟩
    have cM : c M = M := by
      rcases Nat.le_total (c a) (c b) with e | e
      · rw [show M = c b by omega, b2]
      · rw [show M = c a by omega, a2]
    have cm : c m = m := by
      rcases Nat.le_total (c a) (c b) with e | e
      · rw [show m = c a by omega, a2]
      · rw [show m = c b by omega, b2]
    refine filter_less (M := M) (by omega) (by simpa using cM) ?_ fun v hv hne => ?_
    · have : joinC c a b M = m := by rw [joinC, ← hM, ← hm, if_pos cM]
      rw [this]; simp; omega
    · rw [joinC, ← hM, ← hm]
      by_cases hc : c v = M
      · rw [if_pos hc]
        have h1 : ¬ c v = v := by omega
        have h2 : ¬ m = v := fun e2 => by rw [← e2, cm] at hc; omega
        simp [h1, h2]
      · rw [if_neg hc]
theorem gSt_count {n : Nat} (hn : n ≤ 12) : ∀ (k : Nat) (l : List (Int × Int)), l.length = k → (∀ p ∈ l, (0 ≤ p.1 ∧ p.1 < n) ∧ 0 ≤ p.2 ∧ p.2 < n) → (gSt l).2 + n = l.length + rootN (gSt l).1 n := by
  intro k
  induction k with
  | zero =>
    intro l hl _
    rw [List.eq_nil_of_length_eq_zero hl]
    have : ((List.range n).filter fun v => decide (id v = v)) = List.range n := List.filter_eq_self.2 fun v _ => by simp
    have h2 : rootN (gSt []).1 n = n := by show ((List.range n).filter fun v => decide (id v = v)).length = n; rw [this, List.length_range]
    rw [h2]
    rfl
  | succ k ih =>
    intro l hl h
    have hne : l ≠ [] := by intro e; rw [e] at hl; cases hl
    have e := List.dropLast_concat_getLast hne
    rw [← e] at h ⊢
    have hp := h (l.getLast hne) (by simp)
    have hs : ∀ p ∈ l.dropLast, (0 ≤ p.1 ∧ p.1 < n) ∧ 0 ≤ p.2 ∧ p.2 < n := fun p hp => h p (by simp [hp])
    have ih := ih l.dropLast (by simp [hl]) hs
    have hr := root_join (gSt_forest hn l.dropLast hs) hn (a := (l.getLast hne).1.toNat) (b := (l.getLast hne).2.toNat) (by omega) (by omega)
    rw [gSt_snoc, List.length_append]
    simp only [gStep, List.length_singleton]
    split at hr <;> rename_i hh <;> simp only [hh, if_true, if_false] <;> omega
theorem join_twice {F : List Int} {c : Nat → Nat} (h : Forest F c) {a b : Nat} (ha : a < 12) (hb : b < 12) : joinC (joinC c a b) a b = joinC c a b := by
  have e : joinC c a b a = joinC c a b b := by unfold joinC; (repeat' split) <;> omega
  obtain ⟨c', hc'⟩ : ∃ c', c' = joinC c a b := ⟨_, rfl⟩
  rw [← hc'] at e ⊢
  funext v
  unfold joinC
  split <;> omega
theorem gSt_rep {n : Nat} (hn : n ≤ 12) (l : List (Int × Int)) (hl : ∀ p ∈ l, (0 ≤ p.1 ∧ p.1 < n) ∧ 0 ≤ p.2 ∧ p.2 < n) (p : Int × Int) (hp : (0 ≤ p.1 ∧ p.1 < n) ∧ 0 ≤ p.2 ∧ p.2 < n) : ∀ m : Nat, (gSt (l ++ List.replicate (m + 1) p)).1 = joinC (gSt l).1 p.1.toNat p.2.toNat := by
  intro m
  induction m with
  | zero => rw [show List.replicate (0 + 1) p = [p] from rfl, gSt_snoc]; rfl
  | succ m ih =>
    rw [List.replicate_succ' , ← List.append_assoc, gSt_snoc]
    show joinC _ _ _ = _
    rw [ih]
    exact join_twice (gSt_forest hn l hl) (by omega) (by omega)
theorem gSt_ends {n : Nat} (hn : n ≤ 12) {es : List Ed} (hr : ∀ x ∈ es, Right n x) : ∀ k, k ≤ es.length → (gSt (endsL (es.take k))).1 = (ufJ (es.take k)).2
  | 0, _ => rfl
  | k + 1, hk => by
    have ih := gSt_ends hn hr k (by omega)
    have r := hr _ (List.getElem_mem (by omega : k < es.length))
    have h1 := r.a0
    have h2 := r.an
    have h3 := r.b0
    have h4 := r.bn
    have h5 := r.m1
    have hin : ∀ p ∈ endsL (es.take k), (0 ≤ p.1 ∧ p.1 < (n : Int)) ∧ 0 ≤ p.2 ∧ p.2 < (n : Int) := fun p hp => by
      simp only [endsL, List.mem_flatMap, List.mem_replicate] at hp
      obtain ⟨x, hx, _, rfl⟩ := hp
      have r := hr x (List.mem_of_mem_take hx)
      exact ⟨⟨r.a0, r.an⟩, r.b0, r.bn⟩
    obtain ⟨m, hm⟩ : ∃ m, es[k].m.toNat = m + 1 := ⟨es[k].m.toNat - 1, by omega⟩
    rw [endsL_snoc es k (by omega), ufJ_snoc es k (by omega), hm, gSt_rep hn _ hin (es[k].a, es[k].b) ⟨⟨h1, h2⟩, h3, h4⟩, ih]
def genI (N : Int) (es : List Ed) : Int := ((endsL es).length : Int) - N + partsN es N.toNat
theorem gSt_gen {n : Nat} (hn : n ≤ 12) {es : List Ed} (hr : ∀ x ∈ es, Right n x) : ((gSt (endsL es)).2 : Int) = genI n es := by
  have hin : ∀ p ∈ endsL es, (0 ≤ p.1 ∧ p.1 < (n : Int)) ∧ 0 ≤ p.2 ∧ p.2 < (n : Int) := fun p hp => by
    simp only [endsL, List.mem_flatMap, List.mem_replicate] at hp
    obtain ⟨x, hx, _, rfl⟩ := hp
    have r := hr x hx
    exact ⟨⟨r.a0, r.an⟩, r.b0, r.bn⟩
  have h1 := gSt_count hn _ (endsL es) rfl hin
  have h2 := gSt_ends hn hr es.length (Nat.le_refl _)
  rw [List.take_length] at h2
  have h3 : rootN (gSt (endsL es)).1 n = partsN es n := by rw [h2]; rfl
  rw [genI, Int.toNat_natCast]
  omega
end Go.Sand
