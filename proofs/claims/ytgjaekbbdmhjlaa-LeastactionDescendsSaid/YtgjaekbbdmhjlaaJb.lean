/-
  Plain laws: sets as numbers; descending; legal orders. No program.
-/
import Derived.Test.YtgjaekbbdmhjlaaJa
namespace Go
namespace Sand

/-! ### Sets as numbers -/
def toN : List Bool → Nat
  | [] => 0
  | b :: B => (if b then 1 else 0) + 2 * toN B
def setN (m : Nat) : List Bool := (List.range 12).map fun v => m.testBit v
theorem setN_len (m : Nat) : (setN m).length = 12 := by simp [setN]
theorem setN_get (m v : Nat) : (setN m).getD v false = (decide (v < 12) && m.testBit v) := by
  by_cases h : v < 12 <;> simp [setN, List.getD_eq_getElem?_getD, h]
theorem toN_bit : ∀ (B : List Bool) (v : Nat), (toN B).testBit v = B.getD v false
  | [], v => by simp [toN]
  | b :: B, 0 => by
    cases b
    · simp [toN, Nat.testBit_zero]
    · simp [toN, Nat.testBit_zero]
  | b :: B, v + 1 => by
    rw [Nat.testBit_succ, toN, List.getD_cons_succ, ← toN_bit B v]
    congr 1
    cases b
    · simp
    · simp; omega
theorem toN_lt : ∀ (B : List Bool), toN B < 2 ^ B.length
  | [] => by simp [toN]
  | b :: B => by
    have := toN_lt B
    rw [toN, List.length_cons, Nat.pow_succ]
    cases b <;> simp <;> omega
theorem toN_zero (B : List Bool) : toN B = 0 ↔ ∀ v, B.getD v false = false := by
  constructor
  · intro h v
    rw [← toN_bit, h]; simp
  · intro h
    refine Nat.eq_of_testBit_eq fun v => ?_
    rw [toN_bit, h v]; simp
theorem bit_lt {m n v : Nat} (hm : m < 2 ^ n) (h : m.testBit v = true) : v < n := by
  refine Nat.not_le.1 fun hle => ?_
  have : m < 2 ^ v := Nat.lt_of_lt_of_le hm (Nat.pow_le_pow_right (by omega) hle)
  rw [Nat.testBit_lt_two_pow this] at h
  cases h
theorem lessB_congr {n : Nat} {s : List Int} {B C : List Bool} (h : ∀ v, v < n → B.getD v false = C.getD v false) : lessB n s B = lessB n s C := by
  unfold lessB
  refine List.map_congr_left fun v hv => ?_
  rw [h v (List.mem_range.1 hv)]

/-! ### Descending -/
def noneB (B : List Bool) : Bool := decide (toN B = 0)
/-- What is reached from script s behind k sets, and the number, and the error. -/
def desF (n : Nat) (es : List Ed) (d : List Int) : Nat → List Int → Nat → List Int × Nat × Int
  | 0, s, k => (s, k, 0)
  | m + 1, s, k => if toN (grF n es (movedE es s d) s) = 0 then (s, k, 0) else if k = 4096 then ([], 0, 12) else desF n es d m (lessB n s (grF n es (movedE es s d) s)) (k + 1)
section
variable {n : Nat} {es : List Ed}
theorem sumN_sub (f g : Nat → Int) (k : Nat) : sumN (fun u => f u - g u) k = sumN f k - sumN g k := by
  induction k with
  | zero => rfl
  | succ k ih => simp only [sumN, ih]; omega
theorem sumN_pos {f : Nat → Int} {k v : Nat} (h : ∀ u, u < k → 0 ≤ f u) (hv : v < k) : f v ≤ sumN f k := by
  induction k with
  | zero => omega
  | succ k ih =>
    simp only [sumN]
    have h0 := sumN_nonneg (f := f) (k := k) fun u hu => h u (by omega)
    rcases Nat.lt_or_ge v k with h1 | h1
    · have := ih (fun u hu => h u (by omega)) h1
      have := h k (by omega)
      omega
    · have e : v = k := by omega
      subst e; omega
/-- A set that is not empty makes a script less. -/
theorem less_sum {s : List Int} {B : List Bool} (hs : s.length = n) (hB : ∀ v, B.getD v false = true → v < n) (h : toN B ≠ 0) : sumI (lessB n s B) + 1 ≤ sumI s := by
  have hv : ∃ v, B.getD v false = true := by
    refine Classical.byContradiction fun hn => h ((toN_zero B).2 fun v => ?_)
    cases hb : B.getD v false with
    | false => rfl
    | true => exact absurd ⟨v, hb⟩ hn
  obtain ⟨v, hv⟩ := hv
  rw [sumI_sumN, sumI_sumN, lessB_len, hs]
  have e : sumN (fun u => (lessB n s B).getD u 0) n = sumN (fun u => s.getD u 0 - if B.getD u false = true then 1 else 0) n := sumN_congr fun u hu => lessB_get hu
  rw [e, sumN_sub]
  have := sumN_pos (f := fun u => if B.getD u false = true then (1 : Int) else 0) (k := n) (v := v) (fun u _ => by split <;> omega) (hB v hv)
  rw [if_pos hv] at this
  omega
theorem Stl.sum {q : Int} {d s : List Int} (h : Stl n es q d s) : 0 ≤ sumI s := by
  rw [sumI_sumN, h.st.len]; exact sumN_nonneg fun u hu => h.st.nn u hu
/-- Descending comes to the odometer. -/
theorem desF_end (hg : GoodG n es) {q : Int} {d t : List Int} (hd : d.length = n) (ht : Stl n es q d t) (hleast : ∀ s, Stl n es q d s → ∀ i, i < n → t.getD i 0 ≤ s.getD i 0) :
    ∀ (m : Nat) (s : List Int) (k : Nat), Stl n es q d s → sumI s - sumI t + k ≤ 4096 → sumI s - sumI t < m → ∃ j : Nat, desF n es d m s k = (t, k + j, 0) ∧ (k + j : Int) ≤ 4096 := by
  intro m
  induction m with
  | zero =>
    intro s k hs h1 h2
    have h3 := sum_le (s := t) (t := s) (by rw [ht.st.len, hs.st.len]) (fun i hi => hleast s hs i (by rw [ht.st.len] at hi; exact hi))
    omega
  | succ m ih =>
    intro s k hs h1 h2
    have h3 := sum_le (s := t) (t := s) (by rw [ht.st.len, hs.st.len]) (fun i hi => hleast s hs i (by rw [ht.st.len] at hi; exact hi))
    unfold desF
    by_cases h0 : toN (grF n es (movedE es s d) s) = 0
    · rw [if_pos h0]
      refine ⟨0, ?_, by omega⟩
      have : s = t := ext_getD (by rw [hs.st.len, ht.st.len]) fun i hi => by
        rw [hs.st.len] at hi
        have h4 := none_least hg hd hs ht ((toN_zero _).1 h0) i hi
        have h5 := hleast s hs i hi
        omega
      rw [this, Nat.add_zero]
    · rw [if_neg h0]
      have h4 := less_sum hs.st.len (grF_fit hs.st.len).lt h0
      have h5 := gr_stl hg hd hs
      have h6 := sum_le (s := t) (t := lessB n s (grF n es (movedE es s d) s)) (by rw [ht.st.len, lessB_len]) (fun i hi => hleast _ h5 i (by rw [ht.st.len] at hi; exact hi))
      rw [if_neg (by omega)]
      obtain ⟨j, hj, hj2⟩ := ih _ (k + 1) h5 (by omega) (by omega)
      exact ⟨j + 1, by rw [hj]; congr 2; omega, by omega⟩
end

/-! ### Legal orders -/
section
variable (n : Nat) (es : List Ed) (q : Int) (d s : List Int)
/-- The least vertex that is still to be fired, and may. -/
def pckF (r : List Int) : Option Nat := (List.range n).find? fun v => decide (r.getD v 0 ≠ s.getD v 0) && unstB n es q (movedE es r d) v
def ordS : Nat → List Int
  | 0 => List.replicate n 0
  | k + 1 => match pckF n es q d s (ordS k) with
    | none => ordS k
    | some v => moreS (ordS k) v 1
def ordM : Nat → List Int
  | 0 => []
  | k + 1 => match pckF n es q d s (ordS n es q d s k) with
    | none => ordM k
    | some v => ordM k ++ [(v : Int)]
/-- The order of total firings, and whether there is one. -/
def ordR (total : Nat) : List Int × Bool := if (ordM n es q d s total).length = total then (ordM n es q d s total, true) else ([], false)
end
section
variable {n : Nat} {es : List Ed} {q : Int} {d s : List Int}
theorem pckF_some {r : List Int} {v : Nat} (h : pckF n es q d s r = some v) : v < n ∧ r.getD v 0 ≠ s.getD v 0 ∧ (v : Int) ≠ q ∧ valTo es v n ≤ (movedE es r d).getD v 0 := by
  have h1 := List.find?_some h
  have h2 := List.mem_range.1 (List.mem_of_find?_eq_some h)
  simp only [unstB, Bool.and_eq_true, decide_eq_true_eq] at h1
  exact ⟨h2, h1.1, h1.2⟩
def pckB (n : Nat) (es : List Ed) (q : Int) (d s r : List Int) (v : Nat) : Bool := decide (r.getD v 0 ≠ s.getD v 0) && unstB n es q (movedE es r d) v
theorem pckF_at {r : List Int} {v : Nat} (hv : v < n) (h : pckB n es q d s r v = true) (hl : ∀ u, u < v → pckB n es q d s r u = false) : pckF n es q d s r = some v := by
  unfold pckF
  rw [List.find?_range_eq_some]
  refine ⟨h, List.mem_range.2 hv, fun j hj => ?_⟩
  have := hl j hj
  unfold pckB at this
  rw [this]; rfl
theorem pckF_no {r : List Int} (hl : ∀ u, u < n → pckB n es q d s r u = false) : pckF n es q d s r = none := by
  refine List.find?_eq_none.2 fun v hv => ?_
  have := hl v (List.mem_range.1 hv)
  unfold pckB at this
  rw [this]; simp
theorem ord_succ {k v : Nat} (h : pckF n es q d s (ordS n es q d s k) = some v) : ordS n es q d s (k + 1) = moreS (ordS n es q d s k) v 1 ∧ ordM n es q d s (k + 1) = ordM n es q d s k ++ [(v : Int)] := by
  simp only [ordS, ordM, h, and_self]
theorem ord_none {k : Nat} (h : pckF n es q d s (ordS n es q d s k) = none) : ∀ j, ordS n es q d s (k + j) = ordS n es q d s k ∧ ordM n es q d s (k + j) = ordM n es q d s k
  | 0 => ⟨rfl, rfl⟩
  | j + 1 => by
    obtain ⟨h1, h2⟩ := ord_none h j
    rw [← Nat.add_assoc]
    simp only [ordS, ordM]
    rw [h1, h]
    exact ⟨rfl, h2⟩
theorem ord_leg : ∀ k, Leg n es q d (ordS n es q d s k)
  | 0 => .nil
  | k + 1 => by
    have ih := ord_leg k
    unfold ordS
    split
    · exact ih
    · rename_i v hv
      obtain ⟨h1, h2, h3, h4⟩ := pckF_some hv
      exact ih.more ⟨h1, h3, Int.le_refl _, by omega⟩
theorem ord_len : ∀ k, (ordM n es q d s k).length ≤ k
  | 0 => by simp [ordM]
  | k + 1 => by
    have ih := ord_len k
    unfold ordM
    split
    · omega
    · simp; omega
theorem ord_sum : ∀ k, sumI (ordS n es q d s k) = (ordM n es q d s k).length
  | 0 => by simp [ordS, ordM, sumI_zeros]
  | k + 1 => by
    have ih := ord_sum k
    have hl := ord_leg (n := n) (es := es) (q := q) (d := d) (s := s) k
    unfold ordS ordM
    split
    · exact ih
    · rename_i v hv
      rw [sumI_more (by rw [hl.len]; exact (pckF_some hv).1), ih, List.length_append]
      simp
theorem ord_le (hs : ∀ i, 0 ≤ s.getD i 0) : ∀ k i, (ordS n es q d s k).getD i 0 ≤ s.getD i 0
  | 0, i => by rw [ordS, zeros_get]; exact hs i
  | k + 1, i => by
    have ih := ord_le hs k
    have hl := ord_leg (n := n) (es := es) (q := q) (d := d) (s := s) k
    unfold ordS
    split
    · exact ih i
    · rename_i v hv
      obtain ⟨h1, h2, -⟩ := pckF_some hv
      rw [moreS_get _ _ _ (by rw [hl.len]; exact h1)]
      have := ih i
      split
      · rename_i e; subst e; omega
      · omega
theorem ordR_no {k total : Nat} (hk : k < total) (h : pckF n es q d s (ordS n es q d s k) = none) : ordR n es q d s total = ([], false) := by
  have h1 := (ord_none h (total - k)).2
  rw [show k + (total - k) = total by omega] at h1
  have h2 := ord_len (n := n) (es := es) (q := q) (d := d) (s := s) k
  unfold ordR
  rw [h1, if_neg (by omega)]
theorem ordR_yes {total : Nat} (h : (ordM n es q d s total).length = total) : ordR n es q d s total = (ordM n es q d s total, true) := if_pos h
/-- Where all is fired, the script is fired. -/
theorem ord_all (hs : s.length = n) (h0 : ∀ i, 0 ≤ s.getD i 0) {total : Nat} (ht : sumI s = total) (h : (ordM n es q d s total).length = total) : ordS n es q d s total = s := by
  have hl := ord_leg (n := n) (es := es) (q := q) (d := d) (s := s) total
  have h1 := ord_sum (n := n) (es := es) (q := q) (d := d) (s := s) total
  have h2 := ord_le (n := n) (es := es) (q := q) (d := d) h0 total
  rw [h] at h1
  refine ext_getD (by rw [hl.len, hs]) fun i hi => ?_
  rw [hl.len] at hi
  refine Int.le_antisymm (h2 i) (Int.not_lt.1 fun hlt => ?_)
  rw [sumI_sumN, hl.len] at h1
  rw [sumI_sumN, hs] at ht
  have h3 : 0 ≤ sumN (fun u => s.getD u 0 - (ordS n es q d s total).getD u 0) n := sumN_nonneg fun u _ => by have := h2 u; omega
  have h4 := sumN_pos (f := fun u => s.getD u 0 - (ordS n es q d s total).getD u 0) (k := n) (v := i) (fun u _ => by have := h2 u; omega) hi
  rw [sumN_sub] at h4
  omega
end
end Sand
end Go
