/-
  Texts joined: Base.
-/
import Derived.Test.YtekniokkmgencaaGreatKh1
import Derived.WalkKit
import Derived.WalkSpells
import Derived.WalkLawsBesides
import Derived.Deep.Draws
import Derived.Maps.AppendAt
import Derived.Lib.Hide
section
namespace Go
namespace Sand
open Go.RowKit
structure Ed where
  a : Int
  b : Int
  m : Int
def SlI (w : World) (v : Value) (xs : List Int) : Prop :=
  ∃ A cap, v = .slice A xs.length cap ∧ xs.length ≤ cap ∧ cap ≤ 9223372036854775807 ∧ ∀ i (h : i < xs.length), ∃ b off, A = some ⟨b, off, none⟩ ∧ w.cell? ⟨b, off + i, none⟩ = some (.int .i64 xs[i])
def SlE (w : World) (v : Value) (es : List Ed) : Prop :=
  ∃ A cap, v = .slice A es.length cap ∧ es.length ≤ cap ∧ cap ≤ 9223372036854775807 ∧ ∀ i (h : i < es.length), ∃ b off, A = some ⟨b, off, none⟩ ∧
    w.cell? ⟨b, off + i * 3, none⟩ = some (.int .i64 es[i].a) ∧ w.cell? ⟨b, off + i * 3 + 1, none⟩ = some (.int .i64 es[i].b) ∧ w.cell? ⟨b, off + i * 3 + 2, none⟩ = some (.int .i64 es[i].m)
theorem cell_lt {w : World} {b o : Nat} {v : Value} (h : w.cell? ⟨b, o, none⟩ = some v) : b < w.heap.size := by
  unfold World.cell? at h
  split at h
  · rename_i c e f hb
    exact lt_of_block hb
  · cases h
theorem cell_below {w w' : World} (hb : Below w.heap.size w w') {b o : Nat} {v : Value} (h : w.cell? ⟨b, o, none⟩ = some v) : w'.cell? ⟨b, o, none⟩ = some v :=
  (hb.cell (p := ⟨b, o, none⟩) (cell_lt h)).trans h
theorem SlI.below {w w' : World} {v : Value} {xs : List Int} (h : SlI w v xs) (hb : Below w.heap.size w w') : SlI w' v xs := by
  obtain ⟨A, cap, h1, h2, h3, h4⟩ := h
  refine ⟨A, cap, h1, h2, h3, fun i hi => ?_⟩
  obtain ⟨b, off, e, hc⟩ := h4 i hi
  exact ⟨b, off, e, cell_below hb hc⟩
theorem SlE.below {w w' : World} {v : Value} {es : List Ed} (h : SlE w v es) (hb : Below w.heap.size w w') : SlE w' v es := by
  obtain ⟨A, cap, h1, h2, h3, h4⟩ := h
  refine ⟨A, cap, h1, h2, h3, fun i hi => ?_⟩
  obtain ⟨b, off, e, c1, c2, c3⟩ := h4 i hi
  exact ⟨b, off, e, cell_below hb c1, cell_below hb c2, cell_below hb c3⟩
theorem SlI.nil (w : World) : SlI w (.slice none 0 0) [] := ⟨none, 0, rfl, by simp, by simp, fun i h => by simp at h⟩
def Blk (w : World) (g : Nat) (t : TypeId) (cs : Array Value) : Prop := w.heap[g]? = some (.cells cs t (0, 0))
section
variable {w w' : World} {g : Nat} {t : TypeId} {cs : Array Value}
theorem Blk.lt (h : Blk w g t cs) : g < w.heap.size := lt_of_block h
theorem Blk.cell (h : Blk w g t cs) (i : Nat) : w.cell? ⟨g, i, none⟩ = cs[i]? := cell_of_row w g i cs t (0, 0) h
theorem Blk.new (w : World) (t : TypeId) (cs : Array Value) : Blk (w.alloc (.cells cs t)) w.heap.size t cs := heap_alloc_new w _
theorem Blk.at_ (w : World) (t : TypeId) (cs : Array Value) (n : Nat) (hn : n = w.heap.size) : Blk (w.alloc (.cells cs t)) n t cs := by subst hn; exact Blk.new w t cs
theorem Blk.drew (h : Blk w g t cs) : Blk w.drew g t cs := h
theorem Blk.alloc (h : Blk w g t cs) (o : Obj) : Blk (w.alloc o) g t cs := (Below.heap_alloc w o g h.lt).trans h
theorem Blk.below {B : Nat} (h : Blk w g t cs) (hb : Below B w w') (hg : g < B) : Blk w' g t cs := (hb.block g hg).trans h
theorem Blk.ext (h : Blk w g t cs) (hb : Below w.heap.size w w') : Blk w' g t cs := h.below hb h.lt
theorem Blk.grown {row : Option Nat} (h : Blk w g t cs) (hb : w.grownBy w' row) (hg : some g ≠ row) : Blk w' g t cs := (hb.block g h.lt hg).trans h
end
def cmpI (a b : Int) : Int := if a < b then -1 else if b < a then 1 else 0
def orI : List Int → Int
  | [] => 0
  | x :: xs => if x ≠ 0 then x else orI xs
def cmpP (a b c d : Int) : Int := orI [cmpI a c, cmpI b d]
theorem cmpP_ge (a b c d : Int) : 0 ≤ cmpP a b c d ↔ ¬ (a < c ∨ a = c ∧ b < d) := by
  simp only [cmpP, orI, cmpI]
  by_cases h1 : a < c
  · simp [h1]
  · by_cases h2 : c < a
    · simp [h1, h2]; omega
    · have : a = c := by omega
      subst this
      by_cases h3 : b < d
      · simp [h3]
      · by_cases h4 : d < b
        · simp [h3, h4]
        · simp [h3, h4]
def vtx (n v : Int) : Bool := decide (0 ≤ v ∧ v < n)
theorem vtx_iff {n v : Int} : vtx n v = true ↔ 0 ≤ v ∧ v < n := by simp [vtx]
def behind (la lb a b : Int) : Bool := decide (la < a ∨ la = a ∧ lb < b)
def edgeErr (N la lb : Int) (x : Ed) : Int :=
  if vtx N x.a = false ∨ vtx N x.b = false ∨ x.m < 1 ∨ 50 < x.m then 2
  else if x.b < x.a ∨ behind la lb x.a x.b = false then 9 else 0
def gloop (N : Int) : List Ed → Int → Int → Int
  | [], _, _ => 0
  | x :: xs, la, lb => if edgeErr N la lb x ≠ 0 then edgeErr N la lb x else gloop N xs x.a x.b
def gcheck (N : Int) (es : List Ed) : Int := if N < 1 ∨ 12 < N then 2 else gloop N es (-1) (-1)
def prvA (es : List Ed) : Nat → Int
  | 0 => -1
  | j + 1 => match es[j]? with | some x => x.a | none => -1
def prvB (es : List Ed) : Nat → Int
  | 0 => -1
  | j + 1 => match es[j]? with | some x => x.b | none => -1
theorem edgeErr_nine {N la lb : Int} {x : Ed} (h : vtx N x.a = true) (h' : vtx N x.b = true) (h1 : ¬ x.m < 1) (h2 : ¬ 50 < x.m) (h3 : x.b < x.a ∨ ¬ (la < x.a ∨ la = x.a ∧ lb < x.b)) : edgeErr N la lb x = 9 := by
  unfold edgeErr
  rw [if_neg (by simp [h, h', h1, h2]), if_pos]
  rcases h3 with h3 | h3
  · exact .inl h3
  · exact .inr (by unfold behind; exact decide_eq_false h3)
theorem edgeErr_zero {N la lb : Int} {x : Ed} (h : vtx N x.a = true) (h' : vtx N x.b = true) (h1 : ¬ x.m < 1) (h2 : ¬ 50 < x.m) (h3 : ¬ x.b < x.a) (h4 : la < x.a ∨ la = x.a ∧ lb < x.b) : edgeErr N la lb x = 0 := by
  unfold edgeErr
  rw [if_neg (by simp [h, h', h1, h2]), if_neg]
  rintro (h5 | h5)
  · exact h3 h5
  · unfold behind at h5; exact absurd h4 (of_decide_eq_false h5)
theorem prvA_succ {es : List Ed} {k : Nat} (h : k < es.length) : prvA es (k + 1) = es[k].a := by simp only [prvA]; rw [List.getElem?_eq_getElem h]
theorem prvB_succ {es : List Ed} {k : Nat} (h : k < es.length) : prvB es (k + 1) = es[k].b := by simp only [prvB]; rw [List.getElem?_eq_getElem h]
def betw : List Ed → Int → Int → Int
  | [], _, _ => 0
  | x :: xs, lo, hi => if x.a = lo ∧ x.b = hi then x.m else betw xs lo hi
def valTo (es : List Ed) (v : Int) : Nat → Int
  | 0 => 0
  | u + 1 => valTo es v u + if (u : Int) = v then 0 else betw es (min u v) (max u v)
def inB (k : Int) : Bool := decide (-1048576 ≤ k ∧ k ≤ 1048576)
def dcheck (d : List Int) (n : Int) : Int :=
  if n < 1 ∨ 12 < n then 2 else if (d.length : Int) ≠ n then 8 else if d.all inB then 0 else 2
def sumI : List Int → Int
  | [] => 0
  | x :: l => x + sumI l
theorem sumI_append (a b : List Int) : sumI (a ++ b) = sumI a + sumI b := by
  induction a with
  | nil => simp [sumI]
  | cons x a ih => simp [sumI, ih]; omega
theorem sumI_snoc (l : List Int) (k : Nat) (h : k < l.length) : sumI (l.take (k + 1)) = sumI (l.take k) + l[k] := by
  rw [List.take_succ_eq_append_getElem h, sumI_append]; simp [sumI]
end Sand
end Go
end
