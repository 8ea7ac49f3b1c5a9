/-
  Texts joined: Base Da Db Dc.
-/
import Derived.Test.YtojamfbdlfgedaaKg1
import Derived.WalkKit
import Derived.WalkSpells
import Derived.WalkLawsBesides
import Derived.Deep.Draws
import Derived.Maps.AppendAt
import Derived.Lib.Hide
section
namespace Go
namespace Sand
open Go.RowKit
/-- An edge of a graph. -/
structure Ed where
  a : Int
  b : Int
  m : Int
/-- The slice value v reads in w as the list xs of ints. -/
def SlI (w : World) (v : Value) (xs : List Int) : Prop :=
  ∃ A cap, v = .slice A xs.length cap ∧ xs.length ≤ cap ∧ cap ≤ 9223372036854775807 ∧ ∀ i (h : i < xs.length), ∃ b off, A = some ⟨b, off, none⟩ ∧ w.cell? ⟨b, off + i, none⟩ = some (.int .i64 xs[i])
/-- The slice value v reads in w as the list es of edges. -/
def SlE (w : World) (v : Value) (es : List Ed) : Prop :=
  ∃ A cap, v = .slice A es.length cap ∧ es.length ≤ cap ∧ cap ≤ 9223372036854775807 ∧ ∀ i (h : i < es.length), ∃ b off, A = some ⟨b, off, none⟩ ∧
    w.cell? ⟨b, off + i * 3, none⟩ = some (.int .i64 es[i].a) ∧ w.cell? ⟨b, off + i * 3 + 1, none⟩ = some (.int .i64 es[i].b) ∧ w.cell? ⟨b, off + i * 3 + 2, none⟩ = some (.int .i64 es[i].m)
theorem cell_lt {w : World} {b o : Nat} {v : Value} (h : w.cell? ⟨b, o, none⟩ = some v) : b < w.heap.size := by
  unfold World.cell? at h
  split at h
  · rename_i c e f hb
    exact lt_of_block hb
  · cases h
theorem cell_below {w w' : World} (hb : Below w.heap.size w w') {b o : Nat} {v : Value} (h : w.cell? ⟨b, o, none⟩ = some v) : w'.cell? ⟨b, o, none⟩ = some v :=
  (hb.cell (p := ⟨b, o, none⟩) (cell_lt h)).trans h
theorem SlI.below {w w' : World} {v : Value} {xs : List Int} (h : SlI w v xs) (hb : Below w.heap.size w w') : SlI w' v xs := by
  obtain ⟨A, cap, h1, h2, h3, h4⟩ := h
  refine ⟨A, cap, h1, h2, h3, fun i hi => ?_⟩
  obtain ⟨b, off, e, hc⟩ := h4 i hi
  exact ⟨b, off, e, cell_below hb hc⟩
theorem SlE.below {w w' : World} {v : Value} {es : List Ed} (h : SlE w v es) (hb : Below w.heap.size w w') : SlE w' v es := by
  obtain ⟨A, cap, h1, h2, h3, h4⟩ := h
  refine ⟨A, cap, h1, h2, h3, fun i hi => ?_⟩
  obtain ⟨b, off, e, c1, c2, c3⟩ := h4 i hi
  exact ⟨b, off, e, cell_below hb c1, cell_below hb c2, cell_below hb c3⟩
theorem SlI.nil (w : World) : SlI w (.slice none 0 0) [] := ⟨none, 0, rfl, by simp, by simp, fun i h => by simp at h⟩
/-- Block g is just the cells cs of element type t, none frozen. -/
def Blk (w : World) (g : Nat) (t : TypeId) (cs : Array Value) : Prop := w.heap[g]? = some (.cells cs t (0, 0))
section
variable {w w' : World} {g : Nat} {t : TypeId} {cs : Array Value}
theorem Blk.lt (h : Blk w g t cs) : g < w.heap.size := lt_of_block h
theorem Blk.cell (h : Blk w g t cs) (i : Nat) : w.cell? ⟨g, i, none⟩ = cs[i]? := cell_of_row w g i cs t (0, 0) h
theorem Blk.new (w : World) (t : TypeId) (cs : Array Value) : Blk (w.alloc (.cells cs t)) w.heap.size t cs := heap_alloc_new w _
theorem Blk.at_ (w : World) (t : TypeId) (cs : Array Value) (n : Nat) (hn : n = w.heap.size) : Blk (w.alloc (.cells cs t)) n t cs := by subst hn; exact Blk.new w t cs
theorem Blk.drew (h : Blk w g t cs) : Blk w.drew g t cs := h
theorem Blk.alloc (h : Blk w g t cs) (o : Obj) : Blk (w.alloc o) g t cs := (Below.heap_alloc w o g h.lt).trans h
theorem Blk.below {B : Nat} (h : Blk w g t cs) (hb : Below B w w') (hg : g < B) : Blk w' g t cs := (hb.block g hg).trans h
theorem Blk.ext (h : Blk w g t cs) (hb : Below w.heap.size w w') : Blk w' g t cs := h.below hb h.lt
theorem Blk.grown {row : Option Nat} (h : Blk w g t cs) (hb : w.grownBy w' row) (hg : some g ≠ row) : Blk w' g t cs := (hb.block g h.lt hg).trans h
end
def cmpI (a b : Int) : Int := if a < b then -1 else if b < a then 1 else 0
def orI : List Int → Int
  | [] => 0
  | x :: xs => if x ≠ 0 then x else orI xs
def cmpP (a b c d : Int) : Int := orI [cmpI a c, cmpI b d]
theorem cmpP_ge (a b c d : Int) : 0 ≤ cmpP a b c d ↔ ¬ (a < c ∨ a = c ∧ b < d) := by
  simp only [cmpP, orI, cmpI]
  by_cases h1 : a < c
  · simp [h1]
  · by_cases h2 : c < a
    · simp [h1, h2]; omega
    · have : a = c := by omega
      subst this
      by_cases h3 : b < d
      · simp [h3]
      · by_cases h4 : d < b
        · simp [h3, h4]
        · simp [h3, h4]
/-- Is v one of n vertices? -/
def vtx (n v : Int) : Bool := decide (0 ≤ v ∧ v < n)
theorem vtx_iff {n v : Int} : vtx n v = true ↔ 0 ≤ v ∧ v < n := by simp [vtx]
/-- Does (a, b) come behind (la, lb)? -/
def behind (la lb a b : Int) : Bool := decide (la < a ∨ la = a ∧ lb < b)
/-- The error of one edge behind (la, lb). -/
def edgeErr (N la lb : Int) (x : Ed) : Int :=
  if vtx N x.a = false ∨ vtx N x.b = false ∨ x.m < 1 ∨ 50 < x.m then 2
  else if x.b < x.a ∨ behind la lb x.a x.b = false then 9 else 0
def gloop (N : Int) : List Ed → Int → Int → Int
  | [], _, _ => 0
  | x :: xs, la, lb => if edgeErr N la lb x ≠ 0 then edgeErr N la lb x else gloop N xs x.a x.b
/-- The error of a graph. -/
def gcheck (N : Int) (es : List Ed) : Int := if N < 1 ∨ 12 < N then 2 else gloop N es (-1) (-1)
/-- The ends of the edge ahead of number k; -1 where there is none. -/
def prvA (es : List Ed) : Nat → Int
  | 0 => -1
  | j + 1 => match es[j]? with | some x => x.a | none => -1
def prvB (es : List Ed) : Nat → Int
  | 0 => -1
  | j + 1 => match es[j]? with | some x => x.b | none => -1
theorem edgeErr_nine {N la lb : Int} {x : Ed} (h : vtx N x.a = true) (h' : vtx N x.b = true) (h1 : ¬ x.m < 1) (h2 : ¬ 50 < x.m) (h3 : x.b < x.a ∨ ¬ (la < x.a ∨ la = x.a ∧ lb < x.b)) : edgeErr N la lb x = 9 := by
  unfold edgeErr
  rw [if_neg (by simp [h, h', h1, h2]), if_pos]
  rcases h3 with h3 | h3
  · exact .inl h3
  · exact .inr (by unfold behind; exact decide_eq_false h3)
theorem edgeErr_zero {N la lb : Int} {x : Ed} (h : vtx N x.a = true) (h' : vtx N x.b = true) (h1 : ¬ x.m < 1) (h2 : ¬ 50 < x.m) (h3 : ¬ x.b < x.a) (h4 : la < x.a ∨ la = x.a ∧ lb < x.b) : edgeErr N la lb x = 0 := by
  unfold edgeErr
  rw [if_neg (by simp [h, h', h1, h2]), if_neg]
  rintro (h5 | h5)
  · exact h3 h5
  · unfold behind at h5; exact absurd h4 (of_decide_eq_false h5)
theorem prvA_succ {es : List Ed} {k : Nat} (h : k < es.length) : prvA es (k + 1) = es[k].a := by simp only [prvA]; rw [List.getElem?_eq_getElem h]
theorem prvB_succ {es : List Ed} {k : Nat} (h : k < es.length) : prvB es (k + 1) = es[k].b := by simp only [prvB]; rw [List.getElem?_eq_getElem h]
/-- The number of single edges between two ends, the lesser and the greater. -/
def betw : List Ed → Int → Int → Int
  | [], _, _ => 0
  | x :: xs, lo, hi => if x.a = lo ∧ x.b = hi then x.m else betw xs lo hi
/-- The reference's valence: of the first u vertices. -/
def valTo (es : List Ed) (v : Int) : Nat → Int
  | 0 => 0
  | u + 1 => valTo es v u + if (u : Int) = v then 0 else betw es (min u v) (max u v)
/-- Is every number in range? -/
def inB (k : Int) : Bool := decide (-1048576 ≤ k ∧ k ≤ 1048576)
def sumI : List Int → Int
  | [] => 0
  | x :: l => x + sumI l
theorem sumI_append (a b : List Int) : sumI (a ++ b) = sumI a + sumI b := by
  induction a with
  | nil => simp [sumI]
  | cons x a ih => simp [sumI, ih]; omega
theorem sumI_snoc (l : List Int) (k : Nat) (h : k < l.length) : sumI (l.take (k + 1)) = sumI (l.take k) + l[k] := by
  rw [List.take_succ_eq_append_getElem h, sumI_append]; simp [sumI]
end Sand
end Go
end
section
set_option linter.unusedSimpArgs false
set_option linter.unusedVariables false
namespace Go.Sand
/-- Two classes become one. -/
def mrg (c : Nat → Nat) (a b : Nat) : Nat → Nat := fun v => if c v = c a then c b else c v
def oneCl (n : Nat) (c : Nat → Nat) : Bool := (List.range n).all fun v => decide (c v = c 0)
/-- In how many ways some of the edges join all classes, without a cycle. -/
def trN (n : Nat) : (Nat → Nat) → List (Nat × Nat) → Nat
  | c, [] => if oneCl n c then 1 else 0
  | c, x :: es => trN n c es + if c x.1 = c x.2 then 0 else trN n (mrg c x.1 x.2) es
def SameCl (c d : Nat → Nat) : Prop := ∀ u v, c u = c v ↔ d u = d v
theorem SameCl.refl (c : Nat → Nat) : SameCl c c := fun _ _ => Iff.rfl
theorem SameCl.symm {c d : Nat → Nat} (h : SameCl c d) : SameCl d c := fun u v => (h u v).symm
theorem mrg_iff (c : Nat → Nat) (a b u v : Nat) : mrg c a b u = mrg c a b v ↔ c u = c v ∨ (c u = c a ∧ c v = c b) ∨ (c u = c b ∧ c v = c a) := by
  unfold mrg
  split <;> split <;> omega
theorem SameCl.mrg {c d : Nat → Nat} (h : SameCl c d) (a b : Nat) : SameCl (mrg c a b) (mrg d a b) := fun u v => by
  rw [mrg_iff, mrg_iff, h u v, h u a, h v b, h u b, h v a]
theorem SameCl.one {n : Nat} {c d : Nat → Nat} (h : SameCl c d) : oneCl n c = oneCl n d := by
  unfold oneCl
  congr 1
  funext v
  have := h v 0
  by_cases e : c v = c 0
  · simp [e, this.1 e]
  · have : ¬ d v = d 0 := fun x => e (this.2 x)
    simp [e, this]
theorem trN_same (n : Nat) : ∀ (es : List (Nat × Nat)) {c d : Nat → Nat}, SameCl c d → trN n c es = trN n d es
  | [], c, d, h => by rw [trN, trN, h.one]
  | x :: es, c, d, h => by
    rw [trN, trN, trN_same n es h]
    have e := h x.1 x.2
    by_cases a : c x.1 = c x.2
    · rw [if_pos a, if_pos (e.1 a)]
    · rw [if_neg a, if_neg fun b => a (e.2 b), trN_same n es (h.mrg x.1 x.2)]
theorem mrg_swap (c : Nat → Nat) (a b p q : Nat) : SameCl (mrg (mrg c a b) p q) (mrg (mrg c p q) a b) := fun u v => by
  simp only [mrg_iff]
  generalize c u = U, c v = V, c a = A, c b = B, c p = P, c q = Q
  grind
theorem trN_swap (n : Nat) (c : Nat → Nat) (x y : Nat × Nat) (es : List (Nat × Nat)) : trN n c (x :: y :: es) = trN n c (y :: x :: es) := by
  simp only [trN]
  have h1 := mrg_iff c x.1 x.2 y.1 y.2
  have h2 := mrg_iff c y.1 y.2 x.1 x.2
  have h3 := trN_same n es (mrg_swap c x.1 x.2 y.1 y.2)
  by_cases a : c x.1 = c x.2 <;> by_cases b : c y.1 = c y.2
  · simp only [if_pos a, if_pos b]
  · have : mrg c y.1 y.2 x.1 = mrg c y.1 y.2 x.2 := h2.2 (.inl a)
    simp only [if_pos a, if_neg b, if_pos this]; omega
  · have : mrg c x.1 x.2 y.1 = mrg c x.1 x.2 y.2 := h1.2 (.inl b)
    simp only [if_neg a, if_pos b, if_pos this]; omega
  · by_cases d : mrg c x.1 x.2 y.1 = mrg c x.1 x.2 y.2
    · have : mrg c y.1 y.2 x.1 = mrg c y.1 y.2 x.2 := h2.2 (by have := h1.1 d; omega)
      simp only [if_neg a, if_neg b, if_pos d, if_pos this]; omega
    · have : ¬ mrg c y.1 y.2 x.1 = mrg c y.1 y.2 x.2 := fun e => d (h1.2 (by have := h2.1 e; omega))
      simp only [if_neg a, if_neg b, if_neg d, if_neg this, h3]; omega
theorem trN_perm (n : Nat) {l m : List (Nat × Nat)} (h : l.Perm m) : ∀ c, trN n c l = trN n c m := by
  induction h with
  | nil => intro c; rfl
  | cons x _ ih => intro c; rw [trN, trN, ih, ih]
  | swap x y l => intro c; exact trN_swap n c y x l
  | trans _ _ ih1 ih2 => intro c; rw [ih1, ih2]
theorem oneCl_iff {n : Nat} {c : Nat → Nat} : oneCl n c = true ↔ ∀ v, v < n → c v = c 0 := by
  unfold oneCl
  rw [List.all_eq_true]
  exact ⟨fun h v hv => by simpa using h v (by simp [hv]), fun h v hv => by simpa using h v (by simpa using hv)⟩
/-- All in one class: one way. -/
theorem trN_one {n : Nat} {c : Nat → Nat} (h : oneCl n c = true) : ∀ {es : List (Nat × Nat)}, (∀ x ∈ es, x.1 < n ∧ x.2 < n) → trN n c es = 1
  | [], _ => by rw [trN, if_pos h]
  | x :: es, he => by
    have hx := he x (by simp)
    have h2 := oneCl_iff.1 h
    rw [trN, trN_one h fun y hy => he y (by simp [hy]), if_pos ((h2 _ hx.1).trans (h2 _ hx.2).symm)]
/-- Nothing leads out of some classes: no way. -/
theorem trN_zero {n : Nat} (S : Nat → Prop) : ∀ {es : List (Nat × Nat)} {c : Nat → Nat}, (∀ u v, c u = c v → (S u ↔ S v)) → (∀ x ∈ es, S x.1 ↔ S x.2) → (∃ u, u < n ∧ S u) → (∃ v, v < n ∧ ¬ S v) → trN n c es = 0
  | [], c, hc, _, ⟨u, hu, hS⟩, ⟨v, hv, hT⟩ => by
    rw [trN, if_neg]
    intro h
    have h2 := oneCl_iff.1 h
    exact hT ((hc u v ((h2 u hu).trans (h2 v hv).symm)).1 hS)
  | x :: es, c, hc, he, hu, hv => by
    rw [trN, trN_zero S hc (fun y hy => he y (by simp [hy])) hu hv]
    have hx := he x (by simp)
    split
    · rfl
    · rw [trN_zero S (fun u v h => ?_) (fun y hy => he y (by simp [hy])) hu hv]
      rcases (mrg_iff c x.1 x.2 u v).1 h with h | ⟨h1, h2⟩ | ⟨h1, h2⟩
      · exact hc u v h
      · exact ((hc _ _ h1).trans hx).trans (hc _ _ h2).symm
      · exact ((hc _ _ h1).trans hx.symm).trans (hc _ _ h2).symm
end Go.Sand
end
section
set_option linter.unusedSimpArgs false
set_option linter.unusedVariables false
namespace Go.Sand
/-- A function with another value at one place. -/
def upd1 (f : Nat → Nat) (v k : Nat) : Nat → Nat := fun u => if u = v then k else f u
theorem upd1_at (f : Nat → Nat) (v k : Nat) : upd1 f v k v = k := by simp [upd1]
theorem upd1_ne (f : Nat → Nat) {v k u : Nat} (h : u ≠ v) : upd1 f v k u = f u := by simp [upd1, h]
theorem upd1_comm (f : Nat → Nat) {v k w j : Nat} (h : v ≠ w) : upd1 (upd1 f v k) w j = upd1 (upd1 f w j) v k := by
  funext u
  unfold upd1
  by_cases a : u = v <;> by_cases b : u = w
  · omega
  · simp [a, h]
  · simp [b, Ne.symm h]
  · simp [a, b]
theorem upd1_upd1 (f : Nat → Nat) (v k j : Nat) : upd1 (upd1 f v k) v j = upd1 f v j := by
  funext u
  unfold upd1
  split <;> rfl
/-- The sum of the first values. -/
def sumTo : Nat → (Nat → Nat) → Nat
  | 0, _ => 0
  | k + 1, g => sumTo k g + g k
theorem sumTo_congr {g h : Nat → Nat} : ∀ {k : Nat}, (∀ i, i < k → g i = h i) → sumTo k g = sumTo k h
  | 0, _ => rfl
  | k + 1, H => by rw [sumTo, sumTo, sumTo_congr fun i hi => H i (by omega), H k (by omega)]
theorem sumTo_add (g h : Nat → Nat) : ∀ k, sumTo k (fun i => g i + h i) = sumTo k g + sumTo k h
  | 0 => rfl
  | k + 1 => by simp only [sumTo, sumTo_add g h k]; omega
theorem sumTo_zero {g : Nat → Nat} {k : Nat} (h : ∀ i, i < k → g i = 0) : sumTo k g = 0 := by
  induction k with
  | zero => rfl
  | succ k ih => rw [sumTo, ih fun i hi => h i (by omega), h k (by omega)]
theorem sumTo_front (g : Nat → Nat) : ∀ k, sumTo (k + 1) g = g 0 + sumTo k fun i => g (i + 1)
  | 0 => by simp [sumTo]
  | k + 1 => by rw [sumTo, sumTo_front g k, sumTo]; omega
theorem sumTo_rev (g : Nat → Nat) : ∀ k, sumTo k (fun i => g (k - 1 - i)) = sumTo k g
  | 0 => rfl
  | k + 1 => by
    rw [sumTo_front, sumTo, ← sumTo_rev g k]
    have e : sumTo k (fun i => g (k + 1 - 1 - (i + 1))) = sumTo k fun i => g (k - 1 - i) := sumTo_congr fun i hi => by congr 1; omega
    rw [e]
    simp; omega
theorem sumTo_shift (H : Nat → Nat) (K : Nat) : sumTo K (fun k => if 1 ≤ k then H (k - 1) else 0) = sumTo K (fun k => if k + 1 < K then H k else 0) := by
  cases K with
  | zero => rfl
  | succ K =>
    rw [sumTo_front, sumTo]
    have e1 : sumTo K (fun i => if 1 ≤ i + 1 then H (i + 1 - 1) else 0) = sumTo K H := sumTo_congr fun i hi => by simp
    have e2 : sumTo K (fun k => if k + 1 < K + 1 then H k else 0) = sumTo K H := sumTo_congr fun i hi => by rw [if_pos (by omega)]
    rw [e1, e2]
    simp
theorem sumTo_one {K : Nat} (h : 1 ≤ K) {g : Nat → Nat} (h0 : g 0 = 1) (h1 : ∀ k, k ≠ 0 → g k = 0) : sumTo K g = 1 := by
  obtain ⟨k, rfl⟩ : ∃ k, K = k + 1 := ⟨K - 1, by omega⟩
  rw [sumTo_front, h0, sumTo_zero fun i _ => h1 _ (by omega)]
/-- The sum over a box: m places from v on. -/
def boxU (K : Nat → Nat) (F : (Nat → Nat) → Nat) : Nat → Nat → (Nat → Nat) → Nat
  | 0, _, f => F f
  | m + 1, v, f => sumTo (K v) fun k => boxU K F m (v + 1) (upd1 f v k)
theorem boxU_congr {K : Nat → Nat} {F G : (Nat → Nat) → Nat} (h : ∀ f, F f = G f) : ∀ m v f, boxU K F m v f = boxU K G m v f
  | 0, v, f => h f
  | m + 1, v, f => sumTo_congr fun k _ => boxU_congr h m (v + 1) _
theorem boxU_add {K : Nat → Nat} (F G : (Nat → Nat) → Nat) : ∀ m v f, boxU K (fun f => F f + G f) m v f = boxU K F m v f + boxU K G m v f
  | 0, v, f => rfl
  | m + 1, v, f => by
    simp only [boxU, boxU_add F G m (v + 1)]
    exact sumTo_add _ _ _
theorem boxU_zero {K : Nat → Nat} {F : (Nat → Nat) → Nat} (P : (Nat → Nat) → Prop) (hF : ∀ f, P f → F f = 0) : ∀ m v f, (∀ u k g, v ≤ u → P g → P (upd1 g u k)) → P f → boxU K F m v f = 0
  | 0, v, f, _, h => hF f h
  | m + 1, v, f, hu, h => sumTo_zero fun k _ => boxU_zero P hF m (v + 1) _ (fun u k g h1 h2 => hu u k g (by omega) h2) (hu v k f (Nat.le_refl v) h)
/-- A place that the sum does not reach. -/
theorem boxU_out {K : Nat → Nat} (G : (Nat → Nat) → Nat) (w : Nat) : ∀ m v f, w < v → boxU K (fun f => if 1 ≤ f w then G (upd1 f w (f w - 1)) else 0) m v f = if 1 ≤ f w then boxU K G m v (upd1 f w (f w - 1)) else 0
  | 0, v, f, _ => rfl
  | m + 1, v, f, h => by
    simp only [boxU]
    by_cases h1 : 1 ≤ f w
    · rw [if_pos h1]
      refine sumTo_congr fun k _ => ?_
      rw [boxU_out G w m (v + 1) _ (by omega), upd1_ne f (by omega), if_pos h1, upd1_comm f (by omega)]
    · rw [if_neg h1]
      refine sumTo_zero fun k _ => ?_
      rw [boxU_out G w m (v + 1) _ (by omega), upd1_ne f (by omega), if_neg h1]
theorem boxU_out2 {K : Nat → Nat} (G : (Nat → Nat) → Nat) (w : Nat) : ∀ m v f, w < v → boxU K (fun f => if f w + 1 < K w then G f else 0) m v f = if f w + 1 < K w then boxU K G m v f else 0
  | 0, v, f, _ => rfl
  | m + 1, v, f, h => by
    simp only [boxU]
    by_cases h1 : f w + 1 < K w
    · rw [if_pos h1]
      refine sumTo_congr fun k _ => ?_
      rw [boxU_out2 G w m (v + 1) _ (by omega), upd1_ne f (by omega), if_pos h1]
    · rw [if_neg h1]
      refine sumTo_zero fun k _ => ?_
      rw [boxU_out2 G w m (v + 1) _ (by omega), upd1_ne f (by omega), if_neg h1]
theorem boxU_shift {K : Nat → Nat} (G : (Nat → Nat) → Nat) (w : Nat) : ∀ m v f, v ≤ w → w < v + m → boxU K (fun f => if 1 ≤ f w then G (upd1 f w (f w - 1)) else 0) m v f = boxU K (fun f => if f w + 1 < K w then G f else 0) m v f
  | 0, v, f, h1, h2 => by omega
  | m + 1, v, f, h1, h2 => by
    simp only [boxU]
    by_cases e : v = w
    · subst e
      have e1 : ∀ k, boxU K (fun f => if 1 ≤ f v then G (upd1 f v (f v - 1)) else 0) m (v + 1) (upd1 f v k) = if 1 ≤ k then boxU K G m (v + 1) (upd1 f v (k - 1)) else 0 := fun k => by
        rw [boxU_out G v m (v + 1) _ (by omega), upd1_at, upd1_upd1]
      have e2 : ∀ k, boxU K (fun f => if f v + 1 < K v then G f else 0) m (v + 1) (upd1 f v k) = if k + 1 < K v then boxU K G m (v + 1) (upd1 f v k) else 0 := fun k => by
        rw [boxU_out2 G v m (v + 1) _ (by omega), upd1_at]
      simp only [e1, e2]
      exact sumTo_shift (fun k => boxU K G m (v + 1) (upd1 f v k)) (K v)
    · exact sumTo_congr fun k _ => boxU_shift G w m (v + 1) _ (by omega) (by omega)
/-- Only one function counts. -/
theorem boxU_one {K : Nat → Nat} (hK : ∀ v, 1 ≤ K v) (n : Nat) : ∀ m v f, v + m = n → (∀ u, u < v → f u = 0) → boxU K (fun f => if ∀ u, u < n → f u = 0 then 1 else 0) m v f = 1
  | 0, v, f, h, hf => by
    obtain rfl : v = n := by omega
    show (if ∀ u, u < v → f u = 0 then 1 else 0) = 1
    rw [if_pos hf]
  | m + 1, v, f, h, hf => by
    simp only [boxU]
    refine sumTo_one (hK v) (boxU_one hK n m (v + 1) _ (by omega) fun u hu => ?_) fun k hk => ?_
    · by_cases e : u = v
      · subst e; exact upd1_at _ _ _
      · rw [upd1_ne f e]; exact hf u (by omega)
    · refine boxU_zero (fun g => g v ≠ 0) (fun g hg => ?_) m (v + 1) _ (fun u j g hu hg => ?_) (by rw [upd1_at]; exact hk)
      · rw [if_neg fun h => hg (h v (by omega))]
      · (try dsimp only); rw [upd1_ne g (by omega)]; exact hg
end Go.Sand
end
section
set_option linter.unusedSimpArgs false
set_option linter.unusedVariables false
set_option linter.unusedSectionVars false
namespace Go.Sand
/-- The number of edges from a vertex of a set out of it. -/
def outD (A : Nat → Bool) (u : Nat) : List (Nat × Nat) → Nat
  | [] => 0
  | x :: es => (if x.1 = u ∧ A x.2 = false then 1 else 0) + (if x.2 = u ∧ A x.1 = false then 1 else 0) + outD A u es
theorem outD_perm (A : Nat → Bool) (u : Nat) {l m : List (Nat × Nat)} (h : l.Perm m) : outD A u l = outD A u m := by
  induction h with
  | nil => rfl
  | cons x _ ih => rw [outD, outD, ih]
  | swap x y l => simp only [outD]; omega
  | trans _ _ h1 h2 => rw [h1, h2]
theorem outD_mono {A A' : Nat → Bool} (h : ∀ v, A v = true → A' v = true) (u : Nat) : ∀ es, outD A' u es ≤ outD A u es
  | [] => Nat.le_refl _
  | x :: es => by
    have ih := outD_mono h u es
    have h1 : A' x.2 = false → A x.2 = false := fun a => by cases b : A x.2; rfl; rw [h _ b] at a; cases a
    have h2 : A' x.1 = false → A x.1 = false := fun a => by cases b : A x.1; rfl; rw [h _ b] at a; cases a
    simp only [outD]
    have e1 : (if x.1 = u ∧ A' x.2 = false then 1 else 0) ≤ if x.1 = u ∧ A x.2 = false then 1 else 0 := by
      split
      · rename_i a; rw [if_pos ⟨a.1, h1 a.2⟩]; exact Nat.le_refl _
      · omega
    have e2 : (if x.2 = u ∧ A' x.1 = false then 1 else 0) ≤ if x.2 = u ∧ A x.1 = false then 1 else 0 := by
      split
      · rename_i a; rw [if_pos ⟨a.1, h2 a.2⟩]; exact Nat.le_refl _
      · omega
    omega
theorem outD_pos {A : Nat → Bool} {u : Nat} : ∀ {es : List (Nat × Nat)}, 0 < outD A u es → ∃ x ∈ es, (x.1 = u ∧ A x.2 = false) ∨ (x.2 = u ∧ A x.1 = false)
  | [], h => by simp [outD] at h
  | x :: es, h => by
    by_cases a : x.1 = u ∧ A x.2 = false
    · exact ⟨x, by simp, .inl a⟩
    · by_cases b : x.2 = u ∧ A x.1 = false
      · exact ⟨x, by simp, .inr b⟩
      · rw [outD, if_neg a, if_neg b] at h
        have h' : 0 < outD A u es := by omega
        obtain ⟨y, hy, hh⟩ := outD_pos h'
        exact ⟨y, by simp [hy], hh⟩
/-- The vertices behind a fire that starts in B all burn: each set of them has one with fewer than it has edges out of the set. -/
def GoodB (n : Nat) (B : Nat → Bool) (E : List (Nat × Nat)) (f : Nat → Nat) : Prop :=
  (∀ v, v < n → B v = true → f v = 0) ∧ ∀ A : Nat → Bool, (∃ v, v < n ∧ A v = true) → (∀ v, A v = true → v < n ∧ B v = false) → ∃ u, A u = true ∧ f u < outD A u E
noncomputable def goodN (n : Nat) (B : Nat → Bool) (E : List (Nat × Nat)) (f : Nat → Nat) : Nat := by
  classical exact if GoodB n B E f then 1 else 0
theorem goodN_pos {n : Nat} {B : Nat → Bool} {E : List (Nat × Nat)} {f : Nat → Nat} (h : GoodB n B E f) : goodN n B E f = 1 := by unfold goodN; rw [if_pos h]
theorem goodN_neg {n : Nat} {B : Nat → Bool} {E : List (Nat × Nat)} {f : Nat → Nat} (h : ¬ GoodB n B E f) : goodN n B E f = 0 := by unfold goodN; rw [if_neg h]
theorem goodN_iff {n m : Nat} {B C : Nat → Bool} {E F : List (Nat × Nat)} {f g : Nat → Nat} (h : GoodB n B E f ↔ GoodB m C F g) : goodN n B E f = goodN m C F g := by
  by_cases a : GoodB n B E f
  · rw [goodN_pos a, goodN_pos (h.1 a)]
  · rw [goodN_neg a, goodN_neg fun b => a (h.2 b)]
theorem GoodB.perm {n : Nat} {B : Nat → Bool} {E F : List (Nat × Nat)} (h : E.Perm F) {f : Nat → Nat} (hg : GoodB n B E f) : GoodB n B F f :=
  ⟨hg.1, fun A a b => by obtain ⟨u, h1, h2⟩ := hg.2 A a b; exact ⟨u, h1, by rw [← outD_perm A u h]; exact h2⟩⟩
/-- What is smaller burns too. -/
theorem GoodB.less {n : Nat} {B : Nat → Bool} {E : List (Nat × Nat)} {f g : Nat → Nat} (hg : GoodB n B E g) (h : ∀ v, v < n → f v ≤ g v) : GoodB n B E f :=
  ⟨fun v hv hb => by have := h v hv; rw [hg.1 v hv hb] at this; omega, fun A a b => by
    obtain ⟨u, h1, h2⟩ := hg.2 A a b
    have := h u (b u h1).1
    exact ⟨u, h1, by omega⟩⟩
/-- A single vertex. -/
def oneB (w : Nat) : Nat → Bool := fun v => decide (v = w)
theorem GoodB.one {n : Nat} {B : Nat → Bool} {E : List (Nat × Nat)} {f : Nat → Nat} (hg : GoodB n B E f) {w : Nat} (hw : w < n) (hb : B w = false) : f w < outD (oneB w) w E := by
  obtain ⟨u, h1, h2⟩ := hg.2 (oneB w) ⟨w, hw, by simp [oneB]⟩ fun v hv => by
    have : v = w := by simpa [oneB] using hv
    subst this; exact ⟨hw, hb⟩
  have : u = w := by simpa [oneB] using h1
  subst this; exact h2
/-- The fire takes in a vertex. -/
def addB (B : Nat → Bool) (w : Nat) : Nat → Bool := fun v => B v || decide (v = w)
section
variable {n : Nat} {B : Nat → Bool} {E : List (Nat × Nat)} {x : Nat × Nat} {b w : Nat} (hx : (x.1 = b ∧ x.2 = w) ∨ (x.1 = w ∧ x.2 = b)) (hb : B b = true) (hw : B w = false) (hwn : w < n)
include hx hb hw hwn
theorem outD_cons_ne {A : Nat → Bool} {u : Nat} (hA : A b = false) (hAu : A u = true) (huw : u ≠ w) : outD A u (x :: E) = outD A u E := by
  have hub : u ≠ b := fun e => by rw [e, hA] at hAu; cases hAu
  have h1 : ¬ (x.1 = u ∧ A x.2 = false) := by rcases hx with ⟨a, c⟩ | ⟨a, c⟩ <;> omega
  have h2 : ¬ (x.2 = u ∧ A x.1 = false) := by rcases hx with ⟨a, c⟩ | ⟨a, c⟩ <;> omega
  rw [outD, if_neg h1, if_neg h2]; omega
theorem outD_cons_at {A : Nat → Bool} (hA : A b = false) (hAw : A w = true) : outD A w (x :: E) = outD A w E + 1 := by
  have hbw : b ≠ w := fun e => by rw [e, hAw] at hA; cases hA
  rcases hx with ⟨a, c⟩ | ⟨a, c⟩
  · rw [outD, if_neg (by omega), if_pos ⟨c, by rw [a]; exact hA⟩]; omega
  · rw [outD, if_pos ⟨a, by rw [c]; exact hA⟩, if_neg (by omega)]; omega
theorem good_take {f : Nat → Nat} (h0 : f w = 0) : GoodB n B (x :: E) f ↔ GoodB n (addB B w) E f := by
  have hoff : ∀ A : Nat → Bool, (∀ v, A v = true → v < n ∧ B v = false) → A b = false := fun A h => by
    cases e : A b
    · rfl
    · have := (h b e).2; rw [hb] at this; cases this
  constructor
  · rintro ⟨h1, h2⟩
    refine ⟨fun v hv hB => ?_, fun A hA hs => ?_⟩
    · by_cases e : v = w
      · subst e; exact h0
      · exact h1 v hv (by simpa [addB, e] using hB)
    · have hs' : ∀ v, A v = true → v < n ∧ B v = false := fun v hv => ⟨(hs v hv).1, by have := (hs v hv).2; simp [addB] at this; exact this.1⟩
      have hAw : A w = false := by
        cases e : A w
        · rfl
        · have := (hs w e).2; simp [addB] at this
      obtain ⟨u, hu, hf⟩ := h2 A hA hs'
      rw [outD_cons_ne hx hb hw hwn (hoff A hs') hu fun e => by rw [e, hAw] at hu; cases hu] at hf
      exact ⟨u, hu, hf⟩
  · rintro ⟨h1, h2⟩
    refine ⟨fun v hv hB => h1 v hv (by simp [addB, hB]), fun A hA hs => ?_⟩
    have hAb := hoff A hs
    cases e : A w
    · obtain ⟨u, hu, hf⟩ := h2 A hA fun v hv => ⟨(hs v hv).1, by
        have hv2 := (hs v hv).2
        have : v ≠ w := fun a => by rw [a, e] at hv; cases hv
        simp [addB, hv2, this]⟩
      refine ⟨u, hu, ?_⟩
      rw [outD_cons_ne hx hb hw hwn hAb hu fun a => by rw [a, e] at hu; cases hu]
      exact hf
    · exact ⟨w, e, by rw [outD_cons_at hx hb hw hwn hAb e]; omega⟩
theorem good_less {f : Nat → Nat} (h1 : 1 ≤ f w) : GoodB n B (x :: E) f ↔ GoodB n B E (upd1 f w (f w - 1)) := by
  have hoff : ∀ A : Nat → Bool, (∀ v, A v = true → v < n ∧ B v = false) → A b = false := fun A h => by
    cases e : A b
    · rfl
    · have := (h b e).2; rw [hb] at this; cases this
  have key : ∀ A : Nat → Bool, (∀ v, A v = true → v < n ∧ B v = false) → ∀ u, A u = true → (f u < outD A u (x :: E) ↔ upd1 f w (f w - 1) u < outD A u E) := fun A hs u hu => by
    have hAb := hoff A hs
    by_cases e : u = w
    · subst e
      rw [outD_cons_at hx hb hw hwn hAb hu, upd1_at]; omega
    · rw [outD_cons_ne hx hb hw hwn hAb hu e, upd1_ne f e]
  constructor
  · rintro ⟨a, c⟩
    refine ⟨fun v hv hB => ?_, fun A hA hs => ?_⟩
    · rw [upd1_ne f fun e => by rw [e, hw] at hB; cases hB]; exact a v hv hB
    · obtain ⟨u, hu, hf⟩ := c A hA hs
      exact ⟨u, hu, (key A hs u hu).1 hf⟩
  · rintro ⟨a, c⟩
    refine ⟨fun v hv hB => ?_, fun A hA hs => ?_⟩
    · have := a v hv hB
      rwa [upd1_ne f fun e => by rw [e, hw] at hB; cases hB] at this
    · obtain ⟨u, hu, hf⟩ := c A hA hs
      exact ⟨u, hu, (key A hs u hu).2 hf⟩
theorem good_split (f : Nat → Nat) : goodN n B (x :: E) f = goodN n (addB B w) E f + if 1 ≤ f w then goodN n B E (upd1 f w (f w - 1)) else 0 := by
  by_cases h : 1 ≤ f w
  · have e : goodN n (addB B w) E f = 0 := goodN_neg fun hg => by have := hg.1 w hwn (by simp [addB]); omega
    rw [if_pos h, goodN_iff (good_less hx hb hw hwn h), e, Nat.zero_add]
  · rw [if_neg h, goodN_iff (good_take hx hb hw hwn (by omega)), Nat.add_zero]
end
/-- The vertices of the fire are one class. -/
def fireC (B : Nat → Bool) (b : Nat) : Nat → Nat := fun v => if B v = true then b else v
theorem fireC_same {B : Nat → Bool} {b : Nat} (hb : B b = true) {x : Nat × Nat} {p w : Nat} (hx : (x.1 = p ∧ x.2 = w) ∨ (x.1 = w ∧ x.2 = p)) (hp : B p = true) (hw : B w = false) : SameCl (mrg (fireC B b) x.1 x.2) (fireC (addB B w) b) := fun u v => by
  have hbw : b ≠ w := fun e => by rw [e, hw] at hb; cases hb
  have cp : fireC B b p = b := by simp [fireC, hp]
  have cw : fireC B b w = w := by simp [fireC, hw]
  have hcu : ∀ u, (fireC B b u = b ↔ B u = true) ∧ (fireC B b u = w ↔ u = w) ∧ (B u = false → fireC B b u = u) := fun u => by
    unfold fireC
    cases hB : B u
    · have : u ≠ b := fun e => by rw [e, hb] at hB; cases hB
      simp [this]
    · have : u ≠ w := fun e => by rw [e, hw] at hB; cases hB
      simp [hbw, this]
  have hd : ∀ u, fireC (addB B w) b u = if B u = true ∨ u = w then b else u := fun u => by simp [fireC, addB]
  rw [mrg_iff, hd, hd]
  obtain ⟨a1, a2, a3⟩ := hcu u
  obtain ⟨b1, b2, b3⟩ := hcu v
  have hub : B u = false → u ≠ b := fun h e => by rw [e, hb] at h; cases h
  have hvb : B v = false → v ≠ b := fun h e => by rw [e, hb] at h; cases h
  rcases hx with ⟨h1, h2⟩ | ⟨h1, h2⟩ <;> rw [h1, h2, cp, cw] <;> cases hu : B u <;> cases hv : B v <;> simp only [hu, hv] at a1 a3 b1 b3 hub hvb <;> simp at a1 a3 b1 b3 hub hvb ⊢ <;> grind
theorem exists_out {n : Nat} (B : Nat → Bool) : (∀ v, v < n → B v = true) ∨ ∃ v, v < n ∧ B v = false := by
  by_cases h : ∃ v, v < n ∧ B v = false
  · exact .inr h
  · exact .inl fun v hv => by
      cases e : B v
      · exact absurd ⟨v, hv, e⟩ h
      · rfl
/-- AS MANY FUNCTIONS BURN AS THERE ARE TREES. -/
theorem good_trees {n : Nat} {K : Nat → Nat} (hK : ∀ v, 1 ≤ K v) : ∀ (m : Nat) (E : List (Nat × Nat)) (B : Nat → Bool) (b : Nat), E.length = m → b < n → B b = true → (∀ x ∈ E, x.1 < n ∧ x.2 < n) → (∀ v, v < n → B v = false → outD (oneB v) v E ≤ K v) →
    boxU K (goodN n B E) n 0 (fun _ => 0) = trN n (fireC B b) E := by
  intro m
  induction m with
  | zero =>
    intro E B b hE hbn hb hEn hKE
    obtain rfl := List.length_eq_zero_iff.1 hE
    rcases exists_out (n := n) B with hall | ⟨v, hv, hvB⟩
    · rw [trN_one (oneCl_iff.2 fun v hv => by simp [fireC, hall v hv, hall 0 (by omega)]) (by simp)]
      rw [← boxU_one hK n n 0 (fun _ => 0) (by omega) fun u hu => rfl]
      refine boxU_congr (fun f => ?_) n 0 _
      by_cases h : ∀ u, u < n → f u = 0
      · rw [if_pos h, goodN_pos ⟨fun v hv _ => h v hv, fun A ⟨v, hv, hA⟩ hs => by have := (hs v hA).2; rw [hall v hv] at this; cases this⟩]
      · rw [if_neg h, goodN_neg fun hg => h fun u hu => hg.1 u hu (hall u hu)]
    · rw [trN_zero (fun u => B u = true) (fun u v h => ?_) (by simp) ⟨b, hbn, hb⟩ ⟨v, hv, by simp [hvB]⟩]
      · refine boxU_zero (fun _ => True) (fun f _ => goodN_neg fun hg => ?_) n 0 _ (fun _ _ _ _ _ => trivial) trivial
        have := hg.one hv hvB
        simp [outD] at this
      · unfold fireC at h
        cases hu : B u <;> cases hw : B v <;> simp [hu, hw] at h ⊢
        · rw [h, hb] at hu; cases hu
        · rw [← h, hb] at hw; cases hw
  | succ m ih =>
    intro E B b hE hbn hb hEn hKE
    rcases exists_out (n := n) B with hall | ⟨v, hv, hvB⟩
    · rw [trN_one (oneCl_iff.2 fun v hv => by simp [fireC, hall v hv, hall 0 (by omega)]) hEn]
      rw [← boxU_one hK n n 0 (fun _ => 0) (by omega) fun u hu => rfl]
      refine boxU_congr (fun f => ?_) n 0 _
      by_cases h : ∀ u, u < n → f u = 0
      · rw [if_pos h, goodN_pos ⟨fun v hv _ => h v hv, fun A ⟨v, hv, hA⟩ hs => by have := (hs v hA).2; rw [hall v hv] at this; cases this⟩]
      · rw [if_neg h, goodN_neg fun hg => h fun u hu => hg.1 u hu (hall u hu)]
    by_cases hcr : ∃ x ∈ E, B x.1 ≠ B x.2
    · obtain ⟨x, hxE, hxB⟩ := hcr
      obtain ⟨p, w, hx, hp, hw⟩ : ∃ p w, ((x.1 = p ∧ x.2 = w) ∨ (x.1 = w ∧ x.2 = p)) ∧ B p = true ∧ B w = false := by
        cases h1 : B x.1 <;> cases h2 : B x.2
        · rw [h1, h2] at hxB; exact absurd rfl hxB
        · exact ⟨x.2, x.1, .inr ⟨rfl, rfl⟩, h2, h1⟩
        · exact ⟨x.1, x.2, .inl ⟨rfl, rfl⟩, h1, h2⟩
        · rw [h1, h2] at hxB; exact absurd rfl hxB
      have hwn : w < n := by have := hEn x hxE; rcases hx with ⟨a, c⟩ | ⟨a, c⟩ <;> omega
      obtain ⟨E1, E2, rfl⟩ := List.append_of_mem hxE
      have hperm : (E1 ++ x :: E2).Perm (x :: (E1 ++ E2)) := List.perm_middle
      obtain ⟨F, hF⟩ : ∃ F, F = E1 ++ E2 := ⟨_, rfl⟩
      rw [← hF] at hperm
      have hFl : F.length = m := by have := hperm.length_eq; simp at this hE; rw [hF]; simp; omega
      have hFn : ∀ y ∈ F, y.1 < n ∧ y.2 < n := fun y hy => hEn y (hperm.mem_iff.2 (by simp [hy]))
      have hle : ∀ v, outD (oneB v) v F ≤ outD (oneB v) v (E1 ++ x :: E2) := fun v => by rw [outD_perm _ _ hperm, outD]; omega
      have hKF : ∀ v, v < n → B v = false → outD (oneB v) v F ≤ K v := fun v hv hB => Nat.le_trans (hle v) (hKE v hv hB)
      have e1 := ih F (addB B w) b hFl hbn (by simp [addB, hb]) hFn fun v hv hB => hKF v hv (by simp [addB] at hB; exact hB.1)
      have e2 := ih F B b hFl hbn hb hFn hKF
      rw [trN_perm n hperm, trN, if_neg, trN_same n F (fireC_same hb hx hp hw), ← e1, ← e2]
      · have s1 : ∀ f, goodN n B (E1 ++ x :: E2) f = goodN n (addB B w) F f + if 1 ≤ f w then goodN n B F (upd1 f w (f w - 1)) else 0 := fun f => by
          rw [← good_split hx hp hw hwn]
          exact goodN_iff ⟨fun h => h.perm hperm, fun h => h.perm hperm.symm⟩
        rw [boxU_congr s1, boxU_add, boxU_shift (goodN n B F) w n 0 _ (by omega) (by omega)]
        rw [Nat.add_comm]
        congr 1
        refine boxU_congr (fun f => ?_) n 0 _
        split
        · rfl
        · rename_i h
          refine (goodN_neg fun hg => h ?_).symm
          have h1 := hg.one hwn hw
          have h2 := hKE w hwn hw
          have hpw : p ≠ w := fun e => by rw [e, hw] at hp; cases hp
          rw [outD_perm _ _ hperm, outD_cons_at hx hp hw hwn (A := oneB w) (by simp [oneB, hpw]) (by simp [oneB])] at h2
          omega
      · have cp : fireC B b p = b := by simp [fireC, hp]
        have cw : fireC B b w = w := by simp [fireC, hw]
        have hbw : b ≠ w := fun e => by rw [e, hw] at hb; cases hb
        rcases hx with ⟨h1, h2⟩ | ⟨h1, h2⟩ <;> rw [h1, h2, cp, cw] <;> omega
    · have hsame : ∀ x ∈ E, (B x.1 = true ↔ B x.2 = true) := fun x hx => by
        have : B x.1 = B x.2 := Classical.byContradiction fun h => hcr ⟨x, hx, h⟩
        rw [this]
      rw [trN_zero (fun u => B u = true) (fun u v h => ?_) hsame ⟨b, hbn, hb⟩ ⟨v, hv, by simp [hvB]⟩]
      · refine boxU_zero (fun _ => True) (fun f _ => goodN_neg fun hg => ?_) n 0 _ (fun _ _ _ _ _ => trivial) trivial
        obtain ⟨u, hu, hf⟩ := hg.2 (fun v => decide (v < n) && !B v) ⟨v, hv, by simp [hv, hvB]⟩ fun v hv => by simpa using hv
        obtain ⟨x, hx, h⟩ := outD_pos (Nat.lt_of_le_of_lt (Nat.zero_le _) hf)
        have hxn := hEn x hx
        have hs := hsame x hx
        simp at hu
        rcases h with ⟨h1, h2⟩ | ⟨h1, h2⟩
        · simp [hxn.2] at h2
          rw [h1] at hs
          have := hs.2 h2
          rw [hu.2] at this; cases this
        · simp [hxn.1] at h2
          rw [h1] at hs
          have := hs.1 h2
          rw [hu.2] at this; cases this
      · unfold fireC at h
        cases hu : B u <;> cases hw : B v <;> simp [hu, hw] at h ⊢
        · rw [h, hb] at hu; cases hu
        · rw [← h, hb] at hw; cases hw
end Go.Sand
end
