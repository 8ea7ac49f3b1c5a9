/-
  Plain laws of chapter 51: sums, what is constant along the edges of a connected graph, multiplicities of a fibre.
-/
import Derived.Test.YtddgepjmfnodhaaKt
set_option linter.unusedSimpArgs false
set_option linter.unusedVariables false
namespace Go.Proofs.Ytddgepjmfnodhaa
open Go.Abs Go.Sand

/-- The sum of the first k values. -/
def sm (f : Nat → Int) : Nat → Int
  | 0 => 0
  | k + 1 => sm f k + f k
theorem sm_congr {f g : Nat → Int} : ∀ {k : Nat}, (∀ i, i < k → f i = g i) → sm f k = sm g k
  | 0, _ => rfl
  | k + 1, h => by rw [sm, sm, sm_congr fun i hi => h i (by omega), h k (by omega)]
theorem sm_zero {f : Nat → Int} {k : Nat} (h : ∀ i, i < k → f i = 0) : sm f k = 0 := by
  induction k with
  | zero => rfl
  | succ k ih => rw [sm, ih fun i hi => h i (by omega), h k (by omega)]; rfl
theorem sm_add (f g : Nat → Int) : ∀ k, sm (fun i => f i + g i) k = sm f k + sm g k
  | 0 => rfl
  | k + 1 => by rw [sm, sm, sm, sm_add f g k]; omega
theorem sm_mul (c : Int) (f : Nat → Int) : ∀ k, sm (fun i => c * f i) k = c * sm f k
  | 0 => by simp [sm]
  | k + 1 => by rw [sm, sm, sm_mul c f k, Int.mul_add]
theorem sm_comm (F : Nat → Nat → Int) (m : Nat) : ∀ n, sm (fun i => sm (fun j => F i j) m) n = sm (fun j => sm (fun i => F i j) n) m
  | 0 => (sm_zero fun i _ => rfl).symm
  | n + 1 => by
    rw [sm, sm_comm F m n, ← sm_add]
    exact sm_congr fun j _ => rfl
theorem sm_one (p : Int) (f : Nat → Int) : ∀ n : Nat, sm (fun i => if (i : Int) = p then f i else 0) n = if 0 ≤ p ∧ p < n then f p.toNat else 0
  | 0 => by rw [if_neg (by omega)]; rfl
  | n + 1 => by
    rw [sm, sm_one p f n]
    by_cases h1 : (n : Int) = p
    · subst h1
      rw [if_neg (by omega), if_pos rfl, if_pos (by omega)]
      simp
    · rw [if_neg h1]
      by_cases h2 : 0 ≤ p ∧ p < n
      · rw [if_pos h2, if_pos (by omega)]; omega
      · rw [if_neg h2, if_neg (by omega)]; rfl
theorem sm_nonneg {f : Nat → Int} : ∀ {k : Nat}, (∀ i, i < k → 0 ≤ f i) → 0 ≤ sm f k
  | 0, _ => Int.le_refl _
  | k + 1, h => by
    have := sm_nonneg (k := k) fun i hi => h i (by omega)
    have := h k (by omega)
    rw [sm]; omega
theorem sumI_sm (f : Int → Int) (l : List Int) : ∀ k, k ≤ l.length → sumI ((l.take k).map f) = sm (fun i => f (l.getD i 0)) k
  | 0, _ => rfl
  | k + 1, h => by
    have e : l.take (k + 1) = l.take k ++ [l.getD k 0] := by
      rw [List.take_add_one, List.getElem?_eq_getElem (by omega), List.getD_eq_getElem?_getD, List.getElem?_eq_getElem (by omega)]; rfl
    rw [e, List.map_append, sumI_append, sumI_sm f l k (by omega), sm]
    simp [sumI]
theorem occ_sm (k : Int) (l : List Int) : occ k l = sm (fun i => if l.getD i 0 = k then 1 else 0) l.length := by
  have := sumI_sm (fun x => if x = k then 1 else 0) l l.length (Nat.le_refl _)
  rw [List.take_length] at this
  exact this
theorem cntK_sm (up : List (Int × Int)) (el : List Int) (v e : Int) : ∀ k, cntK up el v e k = sm (fun i => at1 (up.getD i (0, 0)) (el.getD i 0) v e) k
  | 0 => rfl
  | k + 1 => by rw [cntK, sm, cntK_sm up el v e k]
/-- What is found at the edges that count. -/
theorem locK_all {t : Nat → Bool} {c : Nat → Int} : ∀ {k : Nat} {a : Option Int}, locK t c k = some a → (∀ e, e < k → t e = true → a = some (c e)) ∧ (∀ x, a = some x → ∃ e, e < k ∧ t e = true ∧ c e = x)
  | 0, a, h => by
    simp only [locK, Option.some.injEq] at h
    subst h
    exact ⟨fun e he => by omega, fun x hx => by cases hx⟩
  | k + 1, a, h => by
    rw [locK] at h
    split at h
    · cases h
    · rename_i b hb
      obtain ⟨i1, i2⟩ := locK_all hb
      by_cases ht : t k = true
      · rw [if_pos ht] at h
        split at h
        · rename_i ha
          simp only [Option.some.injEq] at h
          subst h
          refine ⟨fun e he hte => ?_, fun x hx => ⟨k, by omega, ht, by simpa using hx⟩⟩
          by_cases hek : e = k
          · rw [hek]
          · have := i1 e (by omega) hte
            rcases ha with ha | ha
            · rw [ha] at this; cases this
            · rw [← ha, this]
        · cases h
      · rw [if_neg ht] at h
        simp only [Option.some.injEq] at h
        subst h
        refine ⟨fun e he hte => ?_, fun x hx => ?_⟩
        · by_cases hek : e = k
          · rw [hek] at hte; exact absurd hte ht
          · exact i1 e (by omega) hte
        · obtain ⟨e, he, h2⟩ := i2 x hx
          exact ⟨e, by omega, h2⟩
theorem locK_const {t : Nat → Bool} {c : Nat → Int} {x : Int} : ∀ {k : Nat}, (∀ e, e < k → t e = true → c e = x) → locK t c k = some none ∨ locK t c k = some (some x)
  | 0, _ => .inl rfl
  | k + 1, h => by
    have ih := locK_const (k := k) (x := x) fun e he => h e (by omega)
    rw [locK]
    rcases ih with ih | ih <;> rw [ih] <;> dsimp only
    · by_cases ht : t k = true
      · rw [if_pos ht, if_pos (.inl rfl), h k (by omega) ht]; exact .inr rfl
      · rw [if_neg ht]; exact .inl rfl
    · by_cases ht : t k = true
      · rw [if_pos ht, if_pos (.inr (by rw [h k (by omega) ht])), h k (by omega) ht]; exact .inr rfl
      · rw [if_neg ht]; exact .inr rfl
/-- What is equal along all edges is constant on the classes, and so in a connected graph. -/
theorem const_cls {n : Int} {es : List Ed} (D : Nat → Int) (hD : ∀ x ∈ es, D x.a.toNat = D x.b.toNat) (u v : Nat) (h : cls es u = cls es v) : D u = D v := by
  have := cls_closed (n := n) (fun w => D w = D v) (fun x hx => by rw [hD x hx]) es.length (Nat.le_refl _) u v (by rw [List.take_length]; exact h)
  exact this.2 rfl
theorem partsN_mono (es : List Ed) : ∀ {j k : Nat}, j ≤ k → partsN es j ≤ partsN es k := by
  intro j k h
  induction k with
  | zero => rw [show j = 0 by omega]; exact Nat.le_refl _
  | succ k ih =>
    by_cases e : j = k + 1
    · rw [e]; exact Nat.le_refl _
    · have := ih (by omega)
      refine Nat.le_trans this ?_
      unfold partsN
      rw [rootsL_succ]
      split <;> simp
theorem one_cls {k : Nat} {es : List Ed} (hk : k ≤ 12) (hr : ∀ x ∈ es, Right k x) (h1 : partsN es k = 1) : ∀ v, v < k → cls es v = cls es 0 := by
  intro v
  induction v using Nat.strongRecOn with
  | _ v ih =>
    intro hv
    by_cases hz : v = 0
    · rw [hz]
    cases hs : seenB es v v
    · exfalso
      have m1 := parts_more hk hr hv hs
      have m2 := partsN_mono es (show v + 1 ≤ k by omega)
      have m3 := partsN_mono es (show 1 ≤ v by omega)
      have m3' : partsN es 1 ≤ partsN es v := m3
      have m0 : partsN es (0 + 1) = partsN es 0 + 1 := parts_more hk hr (by omega) (by cases h0 : seenB es 0 0; rfl; obtain ⟨w, hw, _⟩ := (seenB_iff es 0 0).1 h0; omega)
      have m4 : partsN es 1 = partsN es 0 + 1 := m0
      omega
    · obtain ⟨w, hw, hc⟩ := (seenB_iff es v v).1 hs
      rw [← hc]
      exact ih w hw (by omega)
theorem const_conn {k : Nat} {es : List Ed} (hk : k ≤ 12) (hr : ∀ x ∈ es, Right k x) (h1 : partsN es k = 1) (D : Nat → Int) (hD : ∀ x ∈ es, D x.a.toNat = D x.b.toNat) (u v : Nat) (hu : u < k) (hv : v < k) : D u = D v := by
  rw [const_cls (n := k) D hD u 0 (one_cls hk hr h1 u hu), const_cls (n := k) D hD v 0 (one_cls hk hr h1 v hv)]
theorem mem_ends {es : List Ed} (hm : ∀ x ∈ es, 1 ≤ x.m) (p : Int × Int) : p ∈ endsL es ↔ ∃ x ∈ es, p = (x.a, x.b) := by
  simp only [endsL, List.mem_flatMap, List.mem_replicate]
  constructor
  · rintro ⟨x, hx, _, h⟩; exact ⟨x, hx, h⟩
  · rintro ⟨x, hx, h⟩
    have := hm x hx
    exact ⟨x, hx, by omega, h⟩
section
variable {g h : Gr} {m : Mo} {n k : Nat}
/-- The image of a vertex. -/
abbrev vI (m : Mo) (v : Nat) : Int := m.v.getD v 0
abbrev nE (g : Gr) : Nat := (endsL g.2).length
abbrev eA (g : Gr) (i : Nat) : Int × Int := (endsL g.2).getD i (0, 0)
theorem eA_mem {i : Nat} (hi : i < nE g) : eA g i ∈ endsL g.2 := by
  unfold eA
  rw [List.getD_eq_getElem?_getD, List.getElem?_eq_getElem hi]
  exact List.getElem_mem hi
structure GE (g : Gr) (n : Nat) (i : Nat) : Prop where
  a0 : 0 ≤ (eA g i).1
  ab : (eA g i).1 < (eA g i).2
  bn : (eA g i).2 < n
theorem gE_of (hg : GoodG g.1 g.2) (hl : loopsB g.2 = false) (hn : g.1 = n) {i : Nat} (hi : i < nE g) : GE g n i := by
  have hm := eA_mem hi
  obtain ⟨x, hx, hp⟩ := (mem_ends (fun x hx => (hg.right x hx).m1) _).1 hm
  have r := hg.right x hx
  have h1 := r.a0
  have h2 := r.ab
  have h3 := r.bn
  have h4 := no_loop hl _ hm
  rw [hp] at h4
  refine ⟨?_, ?_, ?_⟩ <;> rw [hp] <;> dsimp only at h4 ⊢ <;> omega
theorem Cov.elg (c : Cov g h m n k) : m.e.length = nE g := c.el
theorem Cov.gE (c : Cov g h m n k) {i : Nat} (hi : i < nE g) : GE g n i := gE_of c.gg c.gl c.gn hi
theorem Cov.hE (c : Cov g h m n k) {i : Nat} (hi : i < nE h) : GE h k i := gE_of c.hg c.hl c.hk hi
theorem Cov.vB (c : Cov g h m n k) {v : Nat} (hv : v < n) : 0 ≤ vI m v ∧ vI m v < k := by
  have hvl := c.vl
  unfold vI
  rw [List.getD_eq_getElem?_getD, List.getElem?_eq_getElem (by omega)]
  exact c.vb _ (List.getElem_mem _)
/-- What is known of the image of a single edge. -/
theorem Cov.im (c : Cov g h m n k) {i : Nat} (hi : i < nE g) : (m.e.getD i 0 = -1 ∧ vI m (eA g i).1.toNat = vI m (eA g i).2.toNat) ∨
    ∃ e : Nat, m.e.getD i 0 = e ∧ e < nE h ∧ eA h e = (min (vI m (eA g i).1.toNat) (vI m (eA g i).2.toNat), max (vI m (eA g i).1.toNat) (vI m (eA g i).2.toNat)) := by
  have hel := c.elg
  have hi' : i < m.e.length := by omega
  have hs := c.st i hi' hi
  have g1 : (endsL g.2)[i] = eA g i := by unfold eA; rw [List.getD_eq_getElem?_getD, List.getElem?_eq_getElem hi]; rfl
  have g2 : m.e[i] = m.e.getD i 0 := by rw [List.getD_eq_getElem?_getD, List.getElem?_eq_getElem hi']; rfl
  rw [g1, g2] at hs
  generalize m.e.getD i 0 = x at hs
  unfold stepE at hs
  split at hs
  · cases hs
  · rename_i h1
    split at hs
    · cases hs
    · rename_i h2
      by_cases hx : x = -1
      · exact .inl ⟨hx, Decidable.byContradiction fun hc => h2 (.inl ⟨hx, hc⟩)⟩
      · have h1' : ¬ (x < -1 ∨ (nE h : Int) ≤ x) := h1
        refine .inr ⟨x.toNat, by omega, by omega, Decidable.byContradiction fun hc => h2 (.inr ⟨by omega, hc⟩)⟩
theorem Cov.eb (c : Cov g h m n k) {i : Nat} (hi : i < nE g) : -1 ≤ m.e.getD i 0 ∧ m.e.getD i 0 < nE h := by
  rcases c.im hi with ⟨h1, _⟩ | ⟨e, h1, h2, _⟩ <;> omega
abbrev cM (g : Gr) (m : Mo) (v : Nat) (e : Int) : Int := cntK (endsL g.2) m.e v e m.e.length
abbrev mM (g h : Gr) (m : Mo) (v : Nat) : Int := multV (endsL g.2) (endsL h.2) m v
abbrev tM (h : Gr) (m : Mo) (v e : Nat) : Bool := tB m.v (endsL h.2) v e
theorem tM_iff (h : Gr) (m : Mo) (v e : Nat) : tM h m v e = true ↔ vI m v = (eA h e).1 ∨ vI m v = (eA h e).2 := by simp [tM, tB]
theorem harm_at (c : Cov g h m n k) (hh : harmM g h m = true) {v : Nat} (hv : v < n) {e : Nat} (he : e < nE h) (ht : tM h m v e = true) : cM g m v e = mM g h m v := by
  have hvl := c.vl
  have := List.all_eq_true.1 hh v (by simp [hvl, hv])
  obtain ⟨a, ha⟩ := Option.isSome_iff_exists.1 this
  have h1 := (locK_all ha).1 e he ht
  unfold mM multV
  rw [show locV (endsL g.2) (endsL h.2) m v (endsL h.2).length = some a from ha, h1]
  rfl
theorem mM_nonneg (g h : Gr) (m : Mo) (v : Nat) : 0 ≤ mM g h m v ∧ mM g h m v ≤ 2 * m.e.length := by
  unfold mM multV
  cases hl : locV (endsL g.2) (endsL h.2) m v (endsL h.2).length with
  | none => simp; omega
  | some a =>
    cases a with
    | none => simp; omega
    | some x =>
      obtain ⟨e, _, _, hx⟩ := (locK_all hl).2 x rfl
      have := cntK_bd (endsL g.2) m.e v e m.e.length
      simp only [Option.getD_some]
      omega
theorem cM_far (c : Cov g h m n k) {v e : Nat} (hv : v < n) (he : e < nE h) (ht : tM h m v e = false) : cM g m v e = 0 := by
  have hel := c.elg
  unfold cM
  rw [cntK_sm]
  refine sm_zero fun i hi => ?_
  have hi' : i < nE g := by omega
  have hne : ¬ (vI m v = (eA h e).1 ∨ vI m v = (eA h e).2) := fun hc => by
    have := (tM_iff h m v e).2 hc
    rw [ht] at this; cases this
  have ge := c.gE hi'
  have h1 := ge.a0
  have h2 := ge.ab
  have h3 := ge.bn
  unfold at1
  split
  · rename_i hx
    rcases c.im hi' with ⟨hm, _⟩ | ⟨e', hm, _, hd⟩
    · omega
    · have hee : e' = e := by omega
      subst hee
      have d1 : (eA h e').1 = min (vI m (eA g i).1.toNat) (vI m (eA g i).2.toNat) := by rw [hd]
      have d2 : (eA h e').2 = max (vI m (eA g i).1.toNat) (vI m (eA g i).2.toNat) := by rw [hd]
      have e1 : ¬ (eA g i).1 = v := fun hc => by
        have : (eA g i).1.toNat = v := by omega
        rw [this] at d1 d2
        exact hne (by omega)
      have e2 : ¬ (eA g i).2 = v := fun hc => by
        have : (eA g i).2.toNat = v := by omega
        rw [this] at d1 d2
        exact hne (by omega)
      rw [if_neg e1, if_neg e2]; rfl
  · rfl
/-- Summed over a fibre. -/
def fibS (m : Mo) (n : Nat) (w : Int) (f : Nat → Int) : Int := sm (fun v => if vI m v = w then f v else 0) n
theorem sp_aux (p1 p2 v : Int) (A : Prop) [Decidable A] : (if A then (if p1 = v then (1 : Int) else 0) + (if p2 = v then 1 else 0) else 0) = (if v = p1 then (if A then 1 else 0) else 0) + (if v = p2 then (if A then 1 else 0) else 0) := by
  simp only [@eq_comm _ p1 v, @eq_comm _ p2 v]
  (repeat' split) <;> first | rfl | omega | contradiction
theorem fib_occ (c : Cov g h m n k) {e : Nat} (he : e < nE h) {w : Int} (hw : w = (eA h e).1 ∨ w = (eA h e).2) : fibS m n w (fun v => cM g m v e) = occ e m.e := by
  have hel := c.elg
  have hE := c.hE he
  have q1 := hE.ab
  have : ∀ v, v < n → (if vI m v = w then cM g m v e else 0) = sm (fun i => if vI m v = w then at1 (eA g i) (m.e.getD i 0) v e else 0) m.e.length := fun v _ => by
    unfold cM
    split
    · rename_i hv
      rw [cntK_sm]
    · rename_i hv
      exact (sm_zero fun i _ => rfl).symm
  unfold fibS
  rw [sm_congr this, sm_comm, occ_sm]
  refine sm_congr fun i hi => ?_
  have hi' : i < nE g := by omega
  have ge := c.gE hi'
  have h1 := ge.a0
  have h2 := ge.ab
  have h3 := ge.bn
  by_cases hx : m.e.getD i 0 = e
  · rw [if_pos hx]
    rcases c.im hi' with ⟨hm, _⟩ | ⟨e', hm, _, hd⟩
    · omega
    · have hee : e' = e := by omega
      subst hee
      have d1 : (eA h e').1 = min (vI m (eA g i).1.toNat) (vI m (eA g i).2.toNat) := by rw [hd]
      have d2 : (eA h e').2 = max (vI m (eA g i).1.toNat) (vI m (eA g i).2.toNat) := by rw [hd]
      have hsp : ∀ v : Nat, v < n → (if vI m v = w then at1 (eA g i) (m.e.getD i 0) v e' else 0) = (if (v : Int) = (eA g i).1 then (if vI m v = w then 1 else 0) else 0) + (if (v : Int) = (eA g i).2 then (if vI m v = w then 1 else 0) else 0) := fun v _ => by
        unfold at1
        rw [if_pos hx]
        exact sp_aux _ _ _ _
      rw [sm_congr hsp, sm_add, sm_one, sm_one, if_pos (show 0 ≤ (eA g i).1 ∧ (eA g i).1 < n by omega), if_pos (show 0 ≤ (eA g i).2 ∧ (eA g i).2 < n by omega)]
      split <;> split <;> omega
  · rw [if_neg hx]
    refine sm_zero fun v _ => ?_
    unfold at1
    rw [if_neg hx]
    simp
theorem fib_mult (c : Cov g h m n k) (hh : harmM g h m = true) {e : Nat} (he : e < nE h) {w : Int} (hw : w = (eA h e).1 ∨ w = (eA h e).2) : fibS m n w (mM g h m) = occ e m.e := by
  rw [← fib_occ c he hw]
  unfold fibS
  refine sm_congr fun v hv => ?_
  split
  · rename_i hvw
    exact (harm_at c hh hv he ((tM_iff h m v e).2 (by rw [hvw]; exact hw))).symm
  · rfl
theorem edge_at {es : List Ed} (hm : ∀ x ∈ es, 1 ≤ x.m) {x : Ed} (hx : x ∈ es) : ∃ e, e < (endsL es).length ∧ (endsL es).getD e (0, 0) = (x.a, x.b) := by
  obtain ⟨i, hi, he⟩ := List.mem_iff_getElem.1 ((mem_ends hm (x.a, x.b)).2 ⟨x, hx, rfl⟩)
  exact ⟨i, hi, by rw [List.getD_eq_getElem?_getD, List.getElem?_eq_getElem hi]; exact he⟩
/-- Each vertex of a connected graph of two or more vertices has an edge. -/
theorem has_edge {es : List Ed} {k : Nat} (hk : k ≤ 12) (hr : ∀ x ∈ es, Right k x) (h1 : partsN es k = 1) (h2 : 2 ≤ k) {w : Nat} (hw : w < k) : ∃ x ∈ es, x.a = w ∨ x.b = w := by
  refine Decidable.byContradiction fun hc => ?_
  have hno : ∀ x ∈ es, ¬ (x.a = w ∨ x.b = w) := fun x hx h => hc ⟨x, hx, h⟩
  have := const_conn hk hr h1 (fun v => if v = w then 1 else 0) (fun x hx => by
    have r := hr x hx
    have q1 := r.a0
    have q2 := r.b0
    have := hno x hx
    rw [if_neg (by omega), if_neg (by omega)]) w (if w = 0 then 1 else 0) hw (by split <;> omega)
  rw [if_pos rfl] at this
  split at this <;> split at this <;> omega
/-- The degree is the same everywhere. -/
theorem deg_same (c : Cov g h m n k) (hh : harmM g h m = true) (h2 : 2 ≤ k) : (∀ w : Nat, w < k → fibS m n w (mM g h m) = occ 0 m.e) ∧ ∀ e, e < nE h → occ e m.e = occ 0 m.e := by
  have h12 := c.n12
  have hk := c.hk
  have hr : ∀ x ∈ h.2, Right k x := fun x hx => hk ▸ c.hg.right x hx
  have hm1 : ∀ x ∈ h.2, 1 ≤ x.m := fun x hx => (hr x hx).m1
  have cc := const_conn (by omega) hr c.hc (fun w => fibS m n w (mM g h m)) (fun x hx => by
    have r := hr x hx
    have q1 := r.a0
    have q2 := r.b0
    obtain ⟨e, he, hee⟩ := edge_at hm1 hx
    rw [show ((x.a.toNat : Nat) : Int) = x.a by omega, show ((x.b.toNat : Nat) : Int) = x.b by omega]
    rw [fib_mult c hh he (.inl (by rw [eA, hee])), fib_mult c hh he (.inr (by rw [eA, hee]))])
  obtain ⟨x0, hx0, _⟩ := has_edge (by omega) hr c.hc h2 (show 0 < k by omega)
  obtain ⟨e0, he0, _⟩ := edge_at hm1 hx0
  have h00 : 0 < nE h := by unfold nE; omega
  have g0 := c.hE h00
  have z1 := g0.a0
  have z2 := g0.ab
  have z3 := g0.bn
  have hz : fibS m n ((eA h 0).1.toNat : Nat) (mM g h m) = occ 0 m.e := by
    rw [show (((eA h 0).1.toNat : Nat) : Int) = (eA h 0).1 by omega]
    exact fib_mult c hh h00 (.inl rfl)
  have all : ∀ w : Nat, w < k → fibS m n w (mM g h m) = occ 0 m.e := fun w hw => by
    rw [← hz]
    exact cc w _ hw (by omega)
  refine ⟨all, fun e he => ?_⟩
  have ge := c.hE he
  have y1 := ge.a0
  have y2 := ge.ab
  have y3 := ge.bn
  rw [← fib_mult c hh he (.inl rfl)]
  have := all (eA h e).1.toNat (by omega)
  rw [show (((eA h e).1.toNat : Nat) : Int) = (eA h e).1 by omega] at this
  exact this
end
end Go.Proofs.Ytddgepjmfnodhaa
