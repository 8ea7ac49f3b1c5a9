/-
  Plain laws: what a script changes is linear. No program.
-/
import Derived.Test.YtjkmhjjfipnbbaaLaw
namespace Go
namespace Sand
/-- What a script adds at a vertex. -/
def dif (es : List Ed) (s : List Int) (v : Nat) : Int := sumI (es.map (gives s v))
theorem moved_dif {n : Nat} {es : List Ed} (hg : ∀ x ∈ es, Right n x) (s d : List Int) (hd : d.length = n) (v : Nat) : (movedE es s d).getD v 0 = d.getD v 0 + dif es s v := movedE_getD es s hg v d hd
theorem sumI_add {α : Type} (f g h : α → Int) (l : List α) (H : ∀ x ∈ l, f x = g x + h x) : sumI (l.map f) = sumI (l.map g) + sumI (l.map h) := by
  induction l with
  | nil => simp [sumI]
  | cons x l ih =>
    simp only [List.map_cons, sumI]
    rw [ih fun y hy => H y (by simp [hy]), H x (by simp)]
    omega
theorem gives_add {n : Nat} {s t u : List Int} {c : Int} (h : ∀ i, i < n → u.getD i 0 = s.getD i 0 + t.getD i 0 + c) (v : Nat) {x : Ed} (hx : Right n x) : gives u v x = gives s v x + gives t v x := by
  have ha := h x.a.toNat (by have := hx.a0; have := hx.an; omega)
  have hb := h x.b.toNat (by have := hx.b0; have := hx.bn; omega)
  have hf : flow u x = flow s x + flow t x := by
    unfold flow
    rw [ha, hb, ← Int.mul_add]
    congr 1
    omega
  unfold gives
  rw [hf]
  split <;> split <;> omega
/-- The sum of two scripts, and whatever is added everywhere. -/
theorem dif_add {n : Nat} {es : List Ed} (hg : ∀ x ∈ es, Right n x) {s t u : List Int} (c : Int) (h : ∀ i, i < n → u.getD i 0 = s.getD i 0 + t.getD i 0 + c) (v : Nat) : dif es u v = dif es s v + dif es t v :=
  sumI_add _ _ _ _ fun _ hx => gives_add h v (hg _ hx)
theorem dif_none {es : List Ed} (v : Nat) : dif es [] v = 0 := by
  unfold dif
  induction es with
  | nil => rfl
  | cons x es ih =>
    rw [List.map_cons, sumI, ih]
    simp [gives, flow]
/-- A script that is the same everywhere changes nothing. -/
theorem dif_same {n : Nat} {es : List Ed} (hg : ∀ x ∈ es, Right n x) {u : List Int} (c : Int) (h : ∀ i, i < n → u.getD i 0 = c) (v : Nat) : dif es u v = 0 := by
  have := dif_add hg (s := []) (t := []) (u := u) c (fun i hi => by rw [h i hi]; simp) v
  rw [this, dif_none]
  rfl
theorem moved_two {n : Nat} {es : List Ed} (hg : ∀ x ∈ es, Right n x) {s t u d : List Int} (c : Int) (hd : d.length = n) (h : ∀ i, i < n → u.getD i 0 = s.getD i 0 + t.getD i 0 + c) : movedE es t (movedE es s d) = movedE es u d := by
  have h1 : (movedE es s d).length = n := by rw [movedE_length, hd]
  refine ext_getD (by rw [movedE_length, movedE_length, movedE_length]) fun i hi => ?_
  rw [moved_dif hg t _ h1, moved_dif hg s d hd, moved_dif hg u d hd, dif_add hg c h]
  omega
theorem moved_same_all {n : Nat} {es : List Ed} (hg : ∀ x ∈ es, Right n x) {u d : List Int} (c : Int) (hd : d.length = n) (h : ∀ i, i < n → u.getD i 0 = c) : movedE es u d = d := by
  refine ext_getD (movedE_length _ _ _) fun i hi => ?_
  rw [moved_dif hg u d hd, dif_same hg c h]
  omega
/-- How many single edges there are. -/
theorem ends_sum {n : Int} {es : List Ed} (hg : ∀ x ∈ es, Right n x) : ((endsL es).length : Int) = sumI (es.map (·.m)) := by
  induction es with
  | nil => rfl
  | cons x es ih =>
    have := (hg x (by simp)).m1
    have := ih fun y hy => hg y (by simp [hy])
    simp only [endsL, List.flatMap_cons, List.length_append, List.length_replicate, List.map_cons, sumI] at *
    omega
theorem gives_bd {n : Nat} {s : List Int} {B : Int} (hB : 0 ≤ B) (h : ∀ i j, i < n → j < n → s.getD i 0 - s.getD j 0 ≤ B) (v : Nat) {x : Ed} (hx : Right n x) : -(x.m * B) ≤ gives s v x ∧ gives s v x ≤ x.m * B := by
  have i1 : x.a.toNat < n := by have := hx.a0; have := hx.an; omega
  have i2 : x.b.toNat < n := by have := hx.b0; have := hx.bn; omega
  have h1 := h _ _ i1 i2
  have h2 := h _ _ i2 i1
  have hm := hx.m1
  have f1 : flow s x ≤ x.m * B := Int.mul_le_mul_of_nonneg_left h1 (by omega)
  have f2 : -(x.m * B) ≤ flow s x := by
    have := Int.mul_le_mul_of_nonneg_left h2 (show 0 ≤ x.m by omega)
    unfold flow
    rw [show s.getD x.a.toNat 0 - s.getD x.b.toNat 0 = -(s.getD x.b.toNat 0 - s.getD x.a.toNat 0) by omega, Int.mul_neg]
    omega
  have f3 : 0 ≤ x.m * B := Int.mul_nonneg (by omega) hB
  unfold gives
  split <;> split <;> omega
theorem dif_bd {n : Nat} {es : List Ed} (hg : ∀ x ∈ es, Right n x) {s : List Int} {B : Int} (hB : 0 ≤ B) (h : ∀ i j, i < n → j < n → s.getD i 0 - s.getD j 0 ≤ B) (v : Nat) : -(sumI (es.map (·.m)) * B) ≤ dif es s v ∧ dif es s v ≤ sumI (es.map (·.m)) * B := by
  unfold dif
  induction es with
  | nil => simp [sumI]
  | cons x es ih =>
    have h1 := gives_bd hB h v (hg x (by simp))
    have h2 := ih fun y hy => hg y (by simp [hy])
    simp only [List.map_cons, sumI]
    rw [Int.add_mul]
    omega
end Sand
end Go
