/-
  Texts joined: Mza.
-/
import Derived.Test.YtamiekhoaggpkaaKe3

section
namespace Go
namespace Sand
/-- How often two vertices are joined. -/
def joinE (es : List Ed) (v u : Nat) : Int := if u = v then 0 else betw es (min (u : Int) v) (max (u : Int) v)
/-- A sum over the first k vertices. -/
def sumN (f : Nat → Int) : Nat → Int
  | 0 => 0
  | k + 1 => sumN f k + f k
theorem sumN_add (f g : Nat → Int) (k : Nat) : sumN (fun u => f u + g u) k = sumN f k + sumN g k := by
  induction k with
  | zero => rfl
  | succ k ih => simp only [sumN, ih]; omega
theorem sumN_congr {f g : Nat → Int} {k : Nat} (h : ∀ u, u < k → f u = g u) : sumN f k = sumN g k := by
  induction k with
  | zero => rfl
  | succ k ih => simp only [sumN]; rw [ih fun u hu => h u (by omega), h k (by omega)]
theorem sumN_nonneg {f : Nat → Int} {k : Nat} (h : ∀ u, u < k → 0 ≤ f u) : 0 ≤ sumN f k := by
  induction k with
  | zero => exact Int.le_refl 0
  | succ k ih => simp only [sumN]; have := ih fun u hu => h u (by omega); have := h k (by omega); omega
theorem sumN_le {f g : Nat → Int} {k : Nat} (h : ∀ u, u < k → f u ≤ g u) : sumN f k ≤ sumN g k := by
  induction k with
  | zero => exact Int.le_refl 0
  | succ k ih => simp only [sumN]; have := ih fun u hu => h u (by omega); have := h k (by omega); omega
theorem sumN_zero (k : Nat) : sumN (fun _ => 0) k = 0 := by
  induction k with
  | zero => rfl
  | succ k ih => simp only [sumN, ih]; rfl
theorem sumN_one (v k : Nat) (c : Int) : sumN (fun u => if u = v then c else 0) k = if v < k then c else 0 := by
  induction k with
  | zero => rfl
  | succ k ih =>
    simp only [sumN, ih]
    by_cases h : k = v
    · subst h; simp
    · by_cases h2 : v < k
      · rw [if_pos h2, if_neg h, if_pos (by omega)]; omega
      · rw [if_neg h2, if_neg h, if_neg (by omega)]; omega
theorem sumN_mul (f : Nat → Int) (c : Int) (k : Nat) : sumN (fun u => c * f u) k = c * sumN f k := by
  induction k with
  | zero => simp [sumN]
  | succ k ih => simp only [sumN, ih, Int.mul_add]
theorem sumN_swap (f : Nat → Nat → Int) (n : Nat) : ∀ k, sumN (fun u => sumN (fun v => f u v) n) k = sumN (fun v => sumN (fun u => f u v) k) n
  | 0 => by simp only [sumN]; rw [sumN_zero]
  | k + 1 => by
    simp only [sumN]
    rw [sumN_add, sumN_swap f n k]
theorem sumN_sumI (l : List Int) : ∀ k, k ≤ l.length → sumN (fun u => l.getD u 0) k = sumI (l.take k)
  | 0, _ => rfl
  | k + 1, h => by
    simp only [sumN]
    rw [sumN_sumI l k (by omega), sumI_snoc l k (by omega), getD_get (by omega)]
theorem sumI_sumN (l : List Int) : sumI l = sumN (fun u => l.getD u 0) l.length := by rw [sumN_sumI l _ (Nat.le_refl _), List.take_length]
section
variable {n : Nat} {es : List Ed} (hg : GoodG n es)
include hg
theorem joinE_bd (v u : Nat) : 0 ≤ joinE es v u ∧ joinE es v u ≤ 50 := by
  unfold joinE
  split
  · omega
  · exact betw_bd hg.right _ _
omit hg in
theorem joinE_sym (v u : Nat) : joinE es v u = joinE es u v := by
  unfold joinE
  by_cases h : u = v
  · subst h; rfl
  · rw [if_neg h, if_neg (fun e => h e.symm), Int.min_comm, Int.max_comm]
omit hg in
theorem valTo_sum (v k : Nat) : valTo es v k = sumN (fun u => joinE es v u) k := by
  induction k with
  | zero => rfl
  | succ k ih =>
    simp only [valTo, sumN, ih, joinE]
    by_cases h : k = v
    · subst h; simp
    · rw [if_neg (by omega), if_neg h]
/-- What a script adds at a vertex, vertex by vertex. -/
theorem dif_sum (s : List Int) (v : Nat) : dif es s v = sumN (fun u => joinE es v u * s.getD u 0) n - s.getD v 0 * valTo es v n := by
  have key : ∀ k, rowTo es s v k = sumN (fun u => joinE es v u * s.getD u 0) k - s.getD v 0 * valTo es v k := by
    intro k
    induction k with
    | zero => simp [rowTo, sumN, valTo]
    | succ k ih =>
      simp only [rowTo, sumN, valTo, ih, joinE]
      by_cases h : k = v
      · subst h; simp
      · rw [if_neg h, if_neg h, if_neg (by omega), Int.min_comm (v : Int), Int.max_comm (v : Int), Int.mul_sub, Int.mul_add, Int.mul_comm (s.getD v 0) (betw _ _ _)]
        omega
  rw [dif, ← rowTo_all hg.right hg.asc s v, key n]
/-- The chips behind a script. -/
theorem aft_eq {d s : List Int} (hd : d.length = n) (v : Nat) : (movedE es s d).getD v 0 = d.getD v 0 + dif es s v := moved_dif hg.right s d hd v
/-- Script s with vertex v firing k times more. -/
def moreS (s : List Int) (v : Nat) (k : Int) : List Int := s.set v (s.getD v 0 + k)
omit hg in
theorem moreS_len (s : List Int) (v : Nat) (k : Int) : (moreS s v k).length = s.length := by simp [moreS]
omit hg in
theorem moreS_get (s : List Int) (v : Nat) (k : Int) (hv : v < s.length) (i : Nat) : (moreS s v k).getD i 0 = s.getD i 0 + if i = v then k else 0 := by
  rw [moreS, getD_set]
  by_cases h : i = v
  · subst h; simp [hv]
  · rw [if_neg (by omega), if_neg h]; omega
theorem dif_more (s : List Int) (v : Nat) (k : Int) (hv : v < s.length) (hvn : v < n) (u : Nat) : dif es (moreS s v k) u = dif es s u + joinE es v u * k - if u = v then k * valTo es v n else 0 := by
  rw [dif_sum hg, dif_sum hg]
  have e : sumN (fun w => joinE es u w * (moreS s v k).getD w 0) n = sumN (fun w => joinE es u w * s.getD w 0) n + joinE es v u * k := by
    have h1 : sumN (fun w => joinE es u w * (moreS s v k).getD w 0) n = sumN (fun w => joinE es u w * s.getD w 0 + if w = v then joinE es v u * k else 0) n := by
      refine sumN_congr fun w _ => ?_
      rw [moreS_get s v k hv, Int.mul_add]
      by_cases h : w = v
      · subst h; simp [joinE_sym u w]
      · simp [h]
    rw [h1, sumN_add, sumN_one, if_pos hvn]
  rw [e, moreS_get s v k hv]
  by_cases h : u = v
  · subst h
    rw [if_pos rfl, if_pos rfl, Int.add_mul]
    omega
  · rw [if_neg h, if_neg h]
    simp only [Int.add_zero]
    omega
/-- The chips when vertex v has fired k times more. -/
theorem aft_more {d : List Int} (hd : d.length = n) (s : List Int) (v : Nat) (k : Int) (hv : v < s.length) (hvn : v < n) (u : Nat) :
    (movedE es (moreS s v k) d).getD u 0 = (movedE es s d).getD u 0 + joinE es v u * k - if u = v then k * valTo es v n else 0 := by
  rw [aft_eq hg hd, aft_eq hg hd, dif_more hg s v k hv hvn]
  omega
omit hg in
theorem zeros_get (i : Nat) : (List.replicate n (0 : Int)).getD i 0 = 0 := by
  by_cases h : i < n <;> simp [List.getD_eq_getElem?_getD, h]
theorem aft_zero {d : List Int} (hd : d.length = n) : movedE es (List.replicate n 0) d = d := moved_same_all hg.right 0 hd fun i _ => zeros_get i
/-- Vertex v may fire k times. -/
structure May (n : Nat) (es : List Ed) (q : Int) (d : List Int) (v : Nat) (k : Int) : Prop where
  lt : v < n
  ne : (v : Int) ≠ q
  k1 : 1 ≤ k
  le : k * valTo es v n ≤ d.getD v 0
/-- A script that can be fired legally, without the sink. -/
inductive Leg (n : Nat) (es : List Ed) (q : Int) (d : List Int) : List Int → Prop
  | nil : Leg n es q d (List.replicate n 0)
  | more {s : List Int} {v : Nat} {k : Int} (h : Leg n es q d s) (m : May n es q (movedE es s d) v k) : Leg n es q d (moreS s v k)
/-- A script that stabilizes, and is nowhere negative. -/
structure Stab (n : Nat) (es : List Ed) (q : Int) (d t : List Int) : Prop where
  len : t.length = n
  nn : ∀ i, i < n → 0 ≤ t.getD i 0
  st : ∀ v, v < n → (v : Int) ≠ q → (movedE es t d).getD v 0 < valTo es v n
omit hg in
theorem Leg.len {q : Int} {d s : List Int} (h : Leg n es q d s) : s.length = n := by
  induction h with
  | nil => simp
  | more _ _ ih => rw [moreS_len, ih]
omit hg in
theorem Leg.nn {q : Int} {d s : List Int} (h : Leg n es q d s) (i : Nat) : 0 ≤ s.getD i 0 := by
  induction h with
  | nil => rw [zeros_get]; exact Int.le_refl 0
  | more h m ih =>
    rw [moreS_get _ _ _ (by rw [h.len]; exact m.lt)]
    have := m.k1
    split <;> omega
omit hg in
theorem Leg.sink {q : Int} {d s : List Int} (h : Leg n es q d s) (i : Nat) (hi : (i : Int) = q) : s.getD i 0 = 0 := by
  induction h with
  | nil => exact zeros_get i
  | more h m ih =>
    have := m.ne
    rw [moreS_get _ _ _ (by rw [h.len]; exact m.lt), ih, if_neg (fun e => this (by rw [← e, hi]))]
    rfl
theorem valTo_nn (v k : Nat) : 0 ≤ valTo es v k := by
  rw [valTo_sum]; exact sumN_nonneg fun u _ => (joinE_bd hg v u).1
/-- THE LEAST ACTION: a script that stabilizes is nowhere less than a legal one. -/
theorem least_one {q : Int} {d s t : List Int} (hd : d.length = n) (ht : Stab n es q d t) (hle : ∀ i, i < n → s.getD i 0 ≤ t.getD i 0) {v : Nat} {k : Int} (m : May n es q (movedE es s d) v k) :
    s.getD v 0 + k ≤ t.getD v 0 := by
  refine Int.not_lt.1 fun hlt => ?_
  have h1 := ht.st v m.lt m.ne
  have h2 := m.le
  have h3 := hle v m.lt
  rw [aft_eq hg hd, dif_sum hg] at h1 h2
  have h4 : sumN (fun u => joinE es v u * s.getD u 0) n ≤ sumN (fun u => joinE es v u * t.getD u 0) n := sumN_le fun u hu => Int.mul_le_mul_of_nonneg_left (hle u hu) (joinE_bd hg v u).1
  have hV := valTo_nn hg v n
  generalize valTo es v n = V at *
  obtain ⟨j, hj⟩ : ∃ j, t.getD v 0 = s.getD v 0 + j := ⟨t.getD v 0 - s.getD v 0, by omega⟩
  rw [hj, Int.add_mul] at h1
  have h5 : (k - j) * V ≥ 1 * V := Int.mul_le_mul_of_nonneg_right (by omega) hV
  rw [Int.sub_mul, Int.one_mul] at h5
  omega
theorem Leg.least {q : Int} {d s t : List Int} (h : Leg n es q d s) (hd : d.length = n) (ht : Stab n es q d t) : ∀ i, i < n → s.getD i 0 ≤ t.getD i 0 := by
  induction h with
  | nil => intro i hi; rw [zeros_get]; exact ht.nn i hi
  | @more s v k h m ih =>
    intro i hi
    have := least_one hg hd ht ih m
    rw [moreS_get _ _ _ (by rw [h.len]; exact m.lt)]
    by_cases e : i = v
    · rw [if_pos e, e]; exact this
    · rw [if_neg e]; have := ih i hi; omega
omit hg in
theorem Leg.stab {q : Int} {d s : List Int} (h : Leg n es q d s) (st : ∀ v, v < n → (v : Int) ≠ q → (movedE es s d).getD v 0 < valTo es v n) : Stab n es q d s := ⟨h.len, fun i _ => h.nn i, st⟩
theorem leg_same {q : Int} {d s t : List Int} (hd : d.length = n) (hs : Leg n es q d s) (ht : Leg n es q d t) (hs' : Stab n es q d s) (ht' : Stab n es q d t) : s = t :=
  ext_getD (by rw [hs.len, ht.len]) fun i hi => by
    rw [hs.len] at hi
    have := hs.least hg hd ht' i hi
    have := ht.least hg hd hs' i hi
    omega

/-! ### What is kept -/
theorem Leg.pos {q : Int} {d s : List Int} (h : Leg n es q d s) (hd : d.length = n) (h0 : ∀ v, v < n → (v : Int) ≠ q → 0 ≤ d.getD v 0) : ∀ v, v < n → (v : Int) ≠ q → 0 ≤ (movedE es s d).getD v 0 := by
  induction h with
  | nil => rw [aft_zero hg hd]; exact h0
  | @more s v k h m ih =>
    intro u hu hq
    rw [aft_more hg hd _ _ _ (by rw [h.len]; exact m.lt) m.lt]
    have h1 := ih u hu hq
    have h2 := m.le
    have h3 : 0 ≤ joinE es v u * k := Int.mul_nonneg (joinE_bd hg v u).1 (by have := m.k1; omega)
    split
    · rename_i e; subst e; omega
    · omega
theorem Leg.sinkUp {q : Int} {d s : List Int} (h : Leg n es q d s) (hd : d.length = n) (u : Nat) (hq : (u : Int) = q) : d.getD u 0 ≤ (movedE es s d).getD u 0 := by
  induction h with
  | nil => rw [aft_zero hg hd]; exact Int.le_refl _
  | @more s v k h m ih =>
    rw [aft_more hg hd _ _ _ (by rw [h.len]; exact m.lt) m.lt]
    have h3 : 0 ≤ joinE es v u * k := Int.mul_nonneg (joinE_bd hg v u).1 (by have := m.k1; omega)
    rw [if_neg (fun e => m.ne (by rw [← e, hq]))]
    omega
omit hg in
theorem sumI_ge : ∀ (l : List Int) (v : Nat), (∀ i, i < l.length → i ≠ v → 0 ≤ l.getD i 0) → v < l.length → l.getD v 0 ≤ sumI l
  | [], v, _, h => by simp at h
  | x :: l, 0, h, _ => by
    have : 0 ≤ sumI l := by
      rw [sumI_sumN]
      refine sumN_nonneg fun u hu => ?_
      have := h (u + 1) (by simpa using hu) (by omega)
      simpa using this
    simp only [sumI, List.getD_cons_zero]; omega
  | x :: l, v + 1, h, hv => by
    have h1 := h 0 (by simp) (by omega)
    have := sumI_ge l v (fun i hi hne => by have := h (i + 1) (by simpa using hi) (by omega); simpa using this) (by simpa using hv)
    simp only [sumI, List.getD_cons_succ, List.getD_cons_zero] at *; omega
omit hg in
theorem sumI_ge2 (l : List Int) (v w : Nat) (hvw : v ≠ w) (h : ∀ i, i < l.length → i ≠ v → i ≠ w → 0 ≤ l.getD i 0) (hv : v < l.length) (hw : w < l.length) : l.getD v 0 + l.getD w 0 ≤ sumI l := by
  have h1 := sumI_ge (l.set w 0) v (fun i hi hne => by
    rw [getD_set]
    split
    · omega
    · exact h i (by simpa using hi) hne (by simp only [List.length_set] at hi; omega)) (by simpa using hv)
  rw [sumI_set l w 0 hw, getD_set, if_neg (by omega)] at h1
  omega
/-- A configuration: its chips are in range, and not negative off the sink. -/
structure Conf (n : Nat) (q : Int) (d : List Int) : Prop where
  len : d.length = n
  bd : Bd 1048600 d
  pos : ∀ v, v < n → (v : Int) ≠ q → 0 ≤ d.getD v 0
theorem aft_bd {q : Int} {d s : List Int} (h : Leg n es q d s) (c : Conf n q d) : ∀ i, -1048600 ≤ (movedE es s d).getD i 0 ∧ (movedE es s d).getD i 0 ≤ 13631800 := by
  have hl : (movedE es s d).length = n := by rw [movedE_length, c.len]
  have hsum := movedE_sum s hg.right d c.len
  have hup : sumI d ≤ 12 * 1048600 := by
    have : ∀ k, k ≤ d.length → sumI (d.take k) ≤ k * 1048600 := by
      intro k
      induction k with
      | zero => intro _; simp [sumI]
      | succ k ih =>
        intro hk
        have h1 := ih (by omega)
        have h2 := (c.bd k).2
        rw [getD_get (by omega)] at h2
        rw [sumI_snoc d k (by omega)]
        push_cast
        omega
    have h1 := this d.length (Nat.le_refl _)
    rw [List.take_length] at h1
    have := c.len
    have := hg.n12
    omega
  intro i
  by_cases hi : i < n
  · by_cases hq : (i : Int) = q
    · have h1 := h.sinkUp hg c.len i hq
      have h2 := (c.bd i).1
      have h3 := sumI_ge (movedE es s d) i (fun j hj hne => h.pos hg c.len c.pos j (by omega) (by omega)) (by omega)
      omega
    · have h1 := h.pos hg c.len c.pos i hi hq
      refine ⟨by omega, ?_⟩
      by_cases hqn : 0 ≤ q ∧ q < n
      · obtain ⟨w, rfl⟩ : ∃ w : Nat, q = w := ⟨q.toNat, by omega⟩
        have h2 := sumI_ge2 (movedE es s d) i w (by omega) (fun j hj _ hne => h.pos hg c.len c.pos j (by omega) (by omega)) (by omega) (by omega)
        have h3 := h.sinkUp hg c.len w rfl
        have h4 := (c.bd w).1
        omega
      · have h2 := sumI_ge (movedE es s d) i (fun j hj hne => h.pos hg c.len c.pos j (by omega) (by omega)) (by omega)
        omega
  · rw [List.getD_eq_getElem?_getD, List.getElem?_eq_none (by omega)]
    simp
end
end Sand
end Go
/-
  Plain laws: what stabilizing computes, some firings at once, and one after the other. No program.
-/
namespace Go
namespace Sand
section
variable (n : Nat) (es : List Ed) (q : Int) (d : List Int)
def unstB (c : List Int) (v : Nat) : Bool := decide ((v : Int) ≠ q ∧ valTo es v n ≤ c.getD v 0)
/-- The least unstable vertex. -/
def nxtF (c : List Int) : Option Nat := (List.range n).find? (unstB n es q c)
/-- Firing some at once. -/
def settleF : Nat → List Int → List Int × Int
  | 0, s => (s, 0)
  | m + 1, s => match nxtF n es q (movedE es s d) with
    | none => (s, 0)
    | some v => if 1048576 < sumI (moreS s v ((movedE es s d).getD v 0 / valTo es v n)) then (moreS s v ((movedE es s d).getD v 0 / valTo es v n), 12) else settleF m (moreS s v ((movedE es s d).getD v 0 / valTo es v n))
/-- Firing one after the other: the script, the moves. -/
def stp : Nat → List Int
  | 0 => List.replicate n 0
  | k + 1 => match nxtF n es q (movedE es (stp k) d) with
    | none => stp k
    | some v => moreS (stp k) v 1
def live (k : Nat) : Prop := nxtF n es q (movedE es (stp n es q d k) d) ≠ none
end
section
variable {n : Nat} {es : List Ed} {q : Int} {d : List Int}
theorem nxtF_some {c : List Int} {v : Nat} (h : nxtF n es q c = some v) : v < n ∧ (v : Int) ≠ q ∧ valTo es v n ≤ c.getD v 0 := by
  have h1 := List.find?_some h
  have h2 := List.mem_range.1 (List.mem_of_find?_eq_some h)
  simp only [unstB, decide_eq_true_eq] at h1
  exact ⟨h2, h1⟩
theorem nxtF_none {c : List Int} (h : nxtF n es q c = none) : ∀ v, v < n → (v : Int) ≠ q → c.getD v 0 < valTo es v n := by
  intro v hv hq
  have := (List.find?_eq_none.1 h) v (List.mem_range.2 hv)
  simp only [unstB, decide_eq_true_eq, not_and] at this
  have := this hq
  omega
theorem sumI_more {s : List Int} {v : Nat} {k : Int} (hv : v < s.length) : sumI (moreS s v k) = sumI s + k := by
  rw [moreS, sumI_set s v _ hv]; omega
theorem sumI_zeros (n : Nat) : sumI (List.replicate n 0) = 0 := by
  induction n with
  | zero => rfl
  | succ n ih => simp [List.replicate_succ, sumI, ih]
theorem Leg.sum {s : List Int} (h : Leg n es q d s) : 0 ≤ sumI s := by
  rw [sumI_sumN]; exact sumN_nonneg fun u _ => h.nn u
theorem may_many (hV : ∀ v, v < n → (v : Int) ≠ q → 1 ≤ valTo es v n) {c : List Int} {v : Nat} (h : nxtF n es q c = some v) : May n es q c v (c.getD v 0 / valTo es v n) := by
  obtain ⟨h1, h2, h3⟩ := nxtF_some h
  have hp := hV v h1 h2
  refine ⟨h1, h2, ?_, Int.ediv_mul_le _ (by omega)⟩
  exact (Int.le_ediv_iff_mul_le (by omega)).2 (by omega)
theorem settleF_spec (hV : ∀ v, v < n → (v : Int) ≠ q → 1 ≤ valTo es v n) : ∀ (m : Nat) (s : List Int), Leg n es q d s → sumI s ≤ 1048576 → 1048577 - sumI s ≤ m →
    Leg n es q d (settleF n es q d m s).1 ∧ (((settleF n es q d m s).2 = 0 ∧ nxtF n es q (movedE es (settleF n es q d m s).1 d) = none ∧ sumI (settleF n es q d m s).1 ≤ 1048576) ∨ ((settleF n es q d m s).2 = 12 ∧ 1048576 < sumI (settleF n es q d m s).1))
  | 0, s, h, h1, h2 => by omega
  | m + 1, s, h, h1, h2 => by
    unfold settleF
    split
    · rename_i hn
      exact ⟨h, .inl ⟨rfl, hn, h1⟩⟩
    · rename_i v hv
      have hm := may_many hV hv
      have hs : sumI (moreS s v ((movedE es s d).getD v 0 / valTo es v n)) = sumI s + (movedE es s d).getD v 0 / valTo es v n := sumI_more (by rw [h.len]; exact hm.lt)
      have hk := hm.k1
      split
      · rename_i hb
        exact ⟨h.more hm, .inr ⟨rfl, hb⟩⟩
      · rename_i hb
        exact settleF_spec hV m _ (h.more hm) (by omega) (by omega)
/-- The script, and the error. -/
def stabF (n : Nat) (es : List Ed) (q : Int) (d : List Int) : List Int × Int := settleF n es q d 1048577 (List.replicate n 0)
theorem stabF_spec (hV : ∀ v, v < n → (v : Int) ≠ q → 1 ≤ valTo es v n) :
    Leg n es q d (stabF n es q d).1 ∧ (((stabF n es q d).2 = 0 ∧ nxtF n es q (movedE es (stabF n es q d).1 d) = none ∧ sumI (stabF n es q d).1 ≤ 1048576) ∨ ((stabF n es q d).2 = 12 ∧ 1048576 < sumI (stabF n es q d).1)) :=
  settleF_spec hV 1048577 _ .nil (by rw [sumI_zeros]; omega) (by rw [sumI_zeros]; omega)
end
end Sand
end Go
end
