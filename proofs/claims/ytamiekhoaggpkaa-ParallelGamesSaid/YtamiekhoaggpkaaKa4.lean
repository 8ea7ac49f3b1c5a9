/-
  Texts joined: Mza.
-/
import Derived.Test.YtamiekhoaggpkaaKa3

section
namespace Go
namespace Sand
/-- How often two vertices are joined. -/
def joinE (es : List Ed) (v u : Nat) : Int := if u = v then 0 else betw es (min (u : Int) v) (max (u : Int) v)
/-- A sum over the first k vertices. -/
def sumN (f : Nat → Int) : Nat → Int
  | 0 => 0
  | k + 1 => sumN f k + f k
theorem sumN_add (f g : Nat → Int) (k : Nat) : sumN (fun u => f u + g u) k = sumN f k + sumN g k := by
  induction k with
  | zero => rfl
  | succ k ih => simp only [sumN, ih]; omega
theorem sumN_congr {f g : Nat → Int} {k : Nat} (h : ∀ u, u < k → f u = g u) : sumN f k = sumN g k := by
  induction k with
  | zero => rfl
  | succ k ih => simp only [sumN]; rw [ih fun u hu => h u (by omega), h k (by omega)]
theorem sumN_nonneg {f : Nat → Int} {k : Nat} (h : ∀ u, u < k → 0 ≤ f u) : 0 ≤ sumN f k := by
  induction k with
  | zero => exact Int.le_refl 0
  | succ k ih => simp only [sumN]; have := ih fun u hu => h u (by omega); have := h k (by omega); omega
theorem sumN_zero (k : Nat) : sumN (fun _ => 0) k = 0 := by
  induction k with
  | zero => rfl
  | succ k ih => simp only [sumN, ih]; rfl
theorem sumN_one (v k : Nat) (c : Int) : sumN (fun u => if u = v then c else 0) k = if v < k then c else 0 := by
  induction k with
  | zero => rfl
  | succ k ih =>
    simp only [sumN, ih]
    by_cases h : k = v
    · subst h; simp
    · by_cases h2 : v < k
      · rw [if_pos h2, if_neg h, if_pos (by omega)]; omega
      · rw [if_neg h2, if_neg h, if_neg (by omega)]; omega
theorem sumN_sumI (l : List Int) : ∀ k, k ≤ l.length → sumN (fun u => l.getD u 0) k = sumI (l.take k)
  | 0, _ => rfl
  | k + 1, h => by
    simp only [sumN]
    rw [sumN_sumI l k (by omega), sumI_snoc l k (by omega), getD_get (by omega)]
theorem sumI_sumN (l : List Int) : sumI l = sumN (fun u => l.getD u 0) l.length := by rw [sumN_sumI l _ (Nat.le_refl _), List.take_length]
section
variable {n : Nat} {es : List Ed} (hg : GoodG n es)
include hg
theorem joinE_bd (v u : Nat) : 0 ≤ joinE es v u ∧ joinE es v u ≤ 50 := by
  unfold joinE
  split
  · omega
  · exact betw_bd hg.right _ _
omit hg in
theorem joinE_sym (v u : Nat) : joinE es v u = joinE es u v := by
  unfold joinE
  by_cases h : u = v
  · subst h; rfl
  · rw [if_neg h, if_neg (fun e => h e.symm), Int.min_comm, Int.max_comm]
omit hg in
theorem joinE_self (v : Nat) : joinE es v v = 0 := by simp [joinE]
omit hg in
theorem valTo_sum (v k : Nat) : valTo es v k = sumN (fun u => joinE es v u) k := by
  induction k with
  | zero => rfl
  | succ k ih =>
    simp only [valTo, sumN, ih, joinE]
    by_cases h : k = v
    · subst h; simp
    · rw [if_neg (by omega), if_neg h]
/-- What a script adds at a vertex, vertex by vertex. -/
theorem dif_sum (s : List Int) (v : Nat) : dif es s v = sumN (fun u => joinE es v u * s.getD u 0) n - s.getD v 0 * valTo es v n := by
  have key : ∀ k, rowTo es s v k = sumN (fun u => joinE es v u * s.getD u 0) k - s.getD v 0 * valTo es v k := by
    intro k
    induction k with
    | zero => simp [rowTo, sumN, valTo]
    | succ k ih =>
      simp only [rowTo, sumN, valTo, ih, joinE]
      by_cases h : k = v
      · subst h; simp
      · rw [if_neg h, if_neg h, if_neg (by omega), Int.min_comm (v : Int), Int.max_comm (v : Int), Int.mul_sub, Int.mul_add, Int.mul_comm (s.getD v 0) (betw _ _ _)]
        omega
  rw [dif, ← rowTo_all hg.right hg.asc s v, key n]
/-- The chips behind a script. -/
theorem aft_eq {d s : List Int} (hd : d.length = n) (v : Nat) : (movedE es s d).getD v 0 = d.getD v 0 + dif es s v := moved_dif hg.right s d hd v
/-- Script s with vertex v firing k times more. -/
def moreS (s : List Int) (v : Nat) (k : Int) : List Int := s.set v (s.getD v 0 + k)
omit hg in
theorem moreS_len (s : List Int) (v : Nat) (k : Int) : (moreS s v k).length = s.length := by simp [moreS]
omit hg in
theorem moreS_get (s : List Int) (v : Nat) (k : Int) (hv : v < s.length) (i : Nat) : (moreS s v k).getD i 0 = s.getD i 0 + if i = v then k else 0 := by
  rw [moreS, getD_set]
  by_cases h : i = v
  · subst h; simp [hv]
  · rw [if_neg (by omega), if_neg h]; omega
theorem dif_more (s : List Int) (v : Nat) (k : Int) (hv : v < s.length) (hvn : v < n) (u : Nat) : dif es (moreS s v k) u = dif es s u + joinE es v u * k - if u = v then k * valTo es v n else 0 := by
  rw [dif_sum hg, dif_sum hg]
  have e : sumN (fun w => joinE es u w * (moreS s v k).getD w 0) n = sumN (fun w => joinE es u w * s.getD w 0) n + joinE es v u * k := by
    have h1 : sumN (fun w => joinE es u w * (moreS s v k).getD w 0) n = sumN (fun w => joinE es u w * s.getD w 0 + if w = v then joinE es v u * k else 0) n := by
      refine sumN_congr fun w _ => ?_
      rw [moreS_get s v k hv, Int.mul_add]
      by_cases h : w = v
      · subst h; simp [joinE_sym u w]
      · simp [h]
    rw [h1, sumN_add, sumN_one, if_pos hvn]
  rw [e, moreS_get s v k hv]
  by_cases h : u = v
  · subst h
    rw [if_pos rfl, if_pos rfl, Int.add_mul]
    omega
  · rw [if_neg h, if_neg h]
    simp only [Int.add_zero]
    omega
/-- The chips when vertex v has fired k times more. -/
theorem aft_more {d : List Int} (hd : d.length = n) (s : List Int) (v : Nat) (k : Int) (hv : v < s.length) (hvn : v < n) (u : Nat) :
    (movedE es (moreS s v k) d).getD u 0 = (movedE es s d).getD u 0 + joinE es v u * k - if u = v then k * valTo es v n else 0 := by
  rw [aft_eq hg hd, aft_eq hg hd, dif_more hg s v k hv hvn]
  omega
omit hg in
theorem zeros_get (i : Nat) : (List.replicate n (0 : Int)).getD i 0 = 0 := by
  by_cases h : i < n <;> simp [List.getD_eq_getElem?_getD, h]
theorem aft_zero {d : List Int} (hd : d.length = n) : movedE es (List.replicate n 0) d = d := moved_same_all hg.right 0 hd fun i _ => zeros_get i
/-- Vertex v may fire k times. -/
structure May (n : Nat) (es : List Ed) (q : Int) (d : List Int) (v : Nat) (k : Int) : Prop where
  lt : v < n
  ne : (v : Int) ≠ q
  k1 : 1 ≤ k
  le : k * valTo es v n ≤ d.getD v 0
/-- A script that can be fired legally, without the sink. -/
inductive Leg (n : Nat) (es : List Ed) (q : Int) (d : List Int) : List Int → Prop
  | nil : Leg n es q d (List.replicate n 0)
  | more {s : List Int} {v : Nat} {k : Int} (h : Leg n es q d s) (m : May n es q (movedE es s d) v k) : Leg n es q d (moreS s v k)
omit hg in
theorem Leg.len {q : Int} {d s : List Int} (h : Leg n es q d s) : s.length = n := by
  induction h with
  | nil => simp
  | more _ _ ih => rw [moreS_len, ih]
omit hg in
theorem Leg.nn {q : Int} {d s : List Int} (h : Leg n es q d s) (i : Nat) : 0 ≤ s.getD i 0 := by
  induction h with
  | nil => rw [zeros_get]; exact Int.le_refl 0
  | more h m ih =>
    rw [moreS_get _ _ _ (by rw [h.len]; exact m.lt)]
    have := m.k1
    split <;> omega
theorem valTo_nn (v k : Nat) : 0 ≤ valTo es v k := by
  rw [valTo_sum]; exact sumN_nonneg fun u _ => (joinE_bd hg v u).1
theorem Leg.pos {q : Int} {d s : List Int} (h : Leg n es q d s) (hd : d.length = n) (h0 : ∀ v, v < n → (v : Int) ≠ q → 0 ≤ d.getD v 0) : ∀ v, v < n → (v : Int) ≠ q → 0 ≤ (movedE es s d).getD v 0 := by
  induction h with
  | nil => rw [aft_zero hg hd]; exact h0
  | @more s v k h m ih =>
    intro u hu hq
    rw [aft_more hg hd _ _ _ (by rw [h.len]; exact m.lt) m.lt]
    have h1 := ih u hu hq
    have h2 := m.le
    have h3 : 0 ≤ joinE es v u * k := Int.mul_nonneg (joinE_bd hg v u).1 (by have := m.k1; omega)
    split
    · rename_i e; subst e; omega
    · omega
/-- A configuration: its chips are in range, and not negative off the sink. -/
structure Conf (n : Nat) (q : Int) (d : List Int) : Prop where
  len : d.length = n
  bd : Bd 1048600 d
  pos : ∀ v, v < n → (v : Int) ≠ q → 0 ≤ d.getD v 0
end
end Sand
end Go
/-
  Plain laws: what stabilizing computes, some firings at once, and one after the other. No program.
-/
namespace Go
namespace Sand
section
variable (n : Nat) (es : List Ed) (q : Int) (d : List Int)
end
section
variable {n : Nat} {es : List Ed} {q : Int} {d : List Int}
theorem sumI_more {s : List Int} {v : Nat} {k : Int} (hv : v < s.length) : sumI (moreS s v k) = sumI s + k := by
  rw [moreS, sumI_set s v _ hv]; omega
theorem sumI_zeros (n : Nat) : sumI (List.replicate n 0) = 0 := by
  induction n with
  | zero => rfl
  | succ n ih => simp [List.replicate_succ, sumI, ih]
theorem Leg.sum {s : List Int} (h : Leg n es q d s) : 0 ≤ sumI s := by
  rw [sumI_sumN]; exact sumN_nonneg fun u _ => h.nn u
end
end Sand
end Go
end
