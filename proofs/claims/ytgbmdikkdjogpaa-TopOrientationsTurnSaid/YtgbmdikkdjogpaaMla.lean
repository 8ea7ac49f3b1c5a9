/-
  What a script changes: the program's way, edge by edge, and the reference's, vertex by vertex. Plain laws, no program.
-/
import Derived.Test.YtgbmdikkdjogpaaBase
namespace Go
namespace Sand

def flow (s : List Int) (x : Ed) : Int := x.m * (s.getD x.a.toNat 0 - s.getD x.b.toNat 0)
def movE (s : List Int) (x : Ed) (d : List Int) : List Int :=
  (d.set x.a.toNat (d.getD x.a.toNat 0 - flow s x)).set x.b.toNat ((d.set x.a.toNat (d.getD x.a.toNat 0 - flow s x)).getD x.b.toNat 0 + flow s x)
def movedE (es : List Ed) (s d : List Int) : List Int := es.foldl (fun d x => movE s x d) d
theorem movE_length (s : List Int) (x : Ed) (d : List Int) : (movE s x d).length = d.length := by simp [movE]
theorem movedE_length (es : List Ed) (s d : List Int) : (movedE es s d).length = d.length := by
  unfold movedE
  induction es generalizing d with
  | nil => rfl
  | cons x es ih => rw [List.foldl_cons, ih, movE_length]
theorem movedE_snoc (es : List Ed) (s d : List Int) (k : Nat) (h : k < es.length) : movedE (es.take (k + 1)) s d = movE s es[k] (movedE (es.take k) s d) := by
  unfold movedE
  rw [List.take_succ_eq_append_getElem h, List.foldl_append]
  rfl
def Bd (B : Int) (d : List Int) : Prop := ∀ i, -B ≤ d.getD i 0 ∧ d.getD i 0 ≤ B
theorem getD_set (d : List Int) (i j : Nat) (u : Int) : (d.set i u).getD j 0 = if i = j ∧ i < d.length then u else d.getD j 0 := by
  simp only [List.getD_eq_getElem?_getD, List.getElem?_set]
  by_cases h : i = j
  · subst h
    by_cases h2 : i < d.length
    · simp [h2]
    · simp [h2]
  · simp [h]
theorem Bd.set {B : Int} {d : List Int} (h : Bd B d) (i : Nat) {u : Int} (hu : -B ≤ u ∧ u ≤ B) : Bd B (d.set i u) := fun j => by
  rw [getD_set]; split
  · exact hu
  · exact h j
theorem Bd.more {B B' : Int} {d : List Int} (h : Bd B d) (hB : B ≤ B') : Bd B' d := fun i => by have := h i; omega
theorem flow_bd {s : List Int} (hs : Bd 1048576 s) {x : Ed} (h1 : 0 ≤ x.m) (h2 : x.m ≤ 50) : -104857600 ≤ flow s x ∧ flow s x ≤ 104857600 := by
  have a := hs x.a.toNat
  have b := hs x.b.toNat
  unfold flow
  have ht : -2097152 ≤ s.getD x.a.toNat 0 - s.getD x.b.toNat 0 ∧ s.getD x.a.toNat 0 - s.getD x.b.toNat 0 ≤ 2097152 := by omega
  generalize s.getD x.a.toNat 0 - s.getD x.b.toNat 0 = t at *
  have e1 := Int.mul_le_mul_of_nonneg_left ht.2 h1
  have e2 := Int.mul_le_mul_of_nonneg_left ht.1 h1
  omega
theorem Bd.movE {B : Int} {s d : List Int} (hd : Bd B d) (hs : Bd 1048576 s) {x : Ed} (h1 : 0 ≤ x.m) (h2 : x.m ≤ 50) : Bd (B + 209715200) (movE s x d) := by
  have hf := flow_bd hs h1 h2
  have h3 : Bd (B + 104857600) (d.set x.a.toNat (d.getD x.a.toNat 0 - flow s x)) := (hd.more (by omega)).set _ (by have := hd x.a.toNat; omega)
  exact (h3.more (by omega)).set _ (by have := h3 x.b.toNat; omega)

/-- The reference's way: what vertex v gets from the first u vertices. -/
def rowTo (es : List Ed) (s : List Int) (v : Nat) : Nat → Int
  | 0 => 0
  | u + 1 => rowTo es s v u + if u = v then 0 else betw es (min v u) (max v u) * (s.getD u 0 - s.getD v 0)
/-- The divisor when the first v vertices are done. -/
def mvR (n : Nat) (es : List Ed) (s d : List Int) (v : Nat) : List Int := (List.range n).map fun u => if u < v then d.getD u 0 + rowTo es s u n else d.getD u 0
theorem mvR_length (n : Nat) (es : List Ed) (s d : List Int) (v : Nat) : (mvR n es s d v).length = n := by simp [mvR]
theorem mvR_getD (n : Nat) (es : List Ed) (s d : List Int) (v u : Nat) (h : u < n) : (mvR n es s d v).getD u 0 = if u < v then d.getD u 0 + rowTo es s u n else d.getD u 0 := by
  simp [mvR, List.getD_eq_getElem?_getD, h]
theorem ext_getD {a b : List Int} (hl : a.length = b.length) (h : ∀ i, i < a.length → a.getD i 0 = b.getD i 0) : a = b := by
  refine List.ext_getElem hl fun i h1 h2 => ?_
  have := h i h1
  simpa [List.getD_eq_getElem?_getD, h1, h2] using this
theorem mvR_start (n : Nat) (es : List Ed) (s d : List Int) (h : d.length = n) : mvR n es s d 0 = d := by
  refine ext_getD (by rw [mvR_length, h]) fun i hi => ?_
  rw [mvR_length] at hi
  rw [mvR_getD n es s d 0 i hi]; simp
theorem mvR_set (n : Nat) (es : List Ed) (s d : List Int) (v : Nat) (h : v < n) : (mvR n es s d v).set v (d.getD v 0 + rowTo es s v n) = mvR n es s d (v + 1) := by
  refine ext_getD (by simp [mvR_length]) fun i hi => ?_
  simp only [List.length_set, mvR_length] at hi
  rw [getD_set, mvR_length, mvR_getD n es s d _ i hi, mvR_getD n es s d _ i hi]
  by_cases hv : v = i
  · subst hv; simp [h]
  · by_cases h2 : i < v
    · rw [if_neg (by omega), if_pos h2, if_pos (by omega)]
    · rw [if_neg (by omega), if_neg h2, if_neg (by omega)]
theorem mvR_set0 (n : Nat) (es : List Ed) (s d : List Int) (v : Nat) (h : v < n) : (mvR n es s d v).set v (d.getD v 0 + 0) = mvR n es s d v := by
  refine ext_getD (by simp) fun i hi => ?_
  simp only [List.length_set, mvR_length] at hi
  rw [getD_set, mvR_length, mvR_getD n es s d _ i hi]
  by_cases hv : v = i
  · subst hv; simp [h]
  · simp [hv]

/-! ### A right graph -/
structure Right (n : Int) (x : Ed) : Prop where
  a0 : 0 ≤ x.a
  an : x.a < n
  b0 : 0 ≤ x.b
  bn : x.b < n
  ab : x.a ≤ x.b
  m1 : 1 ≤ x.m
  m50 : x.m ≤ 50
def ltE (x y : Ed) : Prop := x.a < y.a ∨ x.a = y.a ∧ x.b < y.b
theorem edgeErr_ok {n la lb : Int} {x : Ed} (h : edgeErr n la lb x = 0) : Right n x ∧ (la < x.a ∨ la = x.a ∧ lb < x.b) := by
  unfold edgeErr at h
  split at h
  · cases h
  · rename_i h1
    split at h
    · cases h
    · rename_i h2
      simp only [not_or] at h1 h2
      obtain ⟨g1, g2, g3, g4⟩ := h1
      obtain ⟨g5, g6⟩ := h2
      have e1 := vtx_iff.1 (by simpa using g1 : vtx n x.a = true)
      have e2 := vtx_iff.1 (by simpa using g2 : vtx n x.b = true)
      refine ⟨⟨by omega, by omega, by omega, by omega, by omega, by omega, by omega⟩, ?_⟩
      unfold behind at g6
      simp only [Bool.not_eq_false] at g6
      exact of_decide_eq_true g6
theorem gloop_ok {n : Int} : ∀ {es : List Ed} {la lb : Int}, gloop n es la lb = 0 → (∀ x ∈ es, Right n x) ∧ es.Pairwise ltE ∧ ∀ x ∈ es, la < x.a ∨ la = x.a ∧ lb < x.b
  | [], _, _, _ => ⟨by simp, List.Pairwise.nil, by simp⟩
  | x :: es, la, lb, h => by
    unfold gloop at h
    split at h
    · rename_i h1; exact absurd h h1
    · rename_i h1
      obtain ⟨r, hb⟩ := edgeErr_ok (by simpa using h1 : edgeErr n la lb x = 0)
      obtain ⟨h2, h3, h4⟩ := gloop_ok h
      refine ⟨?_, List.pairwise_cons.2 ⟨fun y hy => h4 y hy, h3⟩, ?_⟩
      · intro y hy
        rcases List.mem_cons.1 hy with rfl | hy
        · exact r
        · exact h2 y hy
      · intro y hy
        rcases List.mem_cons.1 hy with rfl | hy
        · exact hb
        · have := h4 y hy; omega
structure GoodG (n : Int) (es : List Ed) : Prop where
  n1 : 1 ≤ n
  n12 : n ≤ 12
  right : ∀ x ∈ es, Right n x
  asc : es.Pairwise ltE
theorem gcheck_ok {n : Int} {es : List Ed} (h : gcheck n es = 0) : GoodG n es := by
  unfold gcheck at h
  split at h
  · cases h
  · obtain ⟨h1, h2, _⟩ := gloop_ok h
    exact ⟨by omega, by omega, h1, h2⟩
theorem betw_none {es : List Ed} {lo hi : Int} (h : ∀ x ∈ es, ¬ (x.a = lo ∧ x.b = hi)) : betw es lo hi = 0 := by
  induction es with
  | nil => rfl
  | cons x es ih =>
    unfold betw
    rw [if_neg (h x (by simp))]
    exact ih fun y hy => h y (by simp [hy])
theorem betw_cons {x : Ed} {es : List Ed} (h : (x :: es).Pairwise ltE) (lo hi : Int) : betw (x :: es) lo hi = (if x.a = lo ∧ x.b = hi then x.m else 0) + betw es lo hi := by
  have hp := (List.pairwise_cons.1 h).1
  show (if x.a = lo ∧ x.b = hi then x.m else betw es lo hi) = _
  split
  · rename_i hx
    rw [betw_none (fun y hy => by have := hp y hy; unfold ltE at this; omega)]; omega
  · omega
theorem betw_bd {n : Int} {es : List Ed} (h : ∀ x ∈ es, Right n x) (lo hi : Int) : 0 ≤ betw es lo hi ∧ betw es lo hi ≤ 50 := by
  induction es with
  | nil => simp [betw]
  | cons x es ih =>
    unfold betw
    have := h x (by simp)
    split
    · exact ⟨by have := this.m1; omega, this.m50⟩
    · exact ih fun y hy => h y (by simp [hy])
theorem rowTo_bd {es : List Ed} {s : List Int} (hb : ∀ lo hi, 0 ≤ betw es lo hi ∧ betw es lo hi ≤ 50) (hs : Bd 1048576 s) (v u : Nat) : -(104857600 * (u : Int)) ≤ rowTo es s v u ∧ rowTo es s v u ≤ 104857600 * (u : Int) := by
  induction u with
  | zero => simp [rowTo]
  | succ u ih =>
    simp only [rowTo]
    split
    · omega
    · have h1 := hb (min v u) (max v u)
      have h2 := hs u
      have h3 := hs v
      have ht : -2097152 ≤ s.getD u 0 - s.getD v 0 ∧ s.getD u 0 - s.getD v 0 ≤ 2097152 := by omega
      generalize s.getD u 0 - s.getD v 0 = t at *
      generalize betw es (min v u) (max v u) = m at *
      have e1 := Int.mul_le_mul_of_nonneg_left ht.2 h1.1
      have e2 := Int.mul_le_mul_of_nonneg_left ht.1 h1.1
      omega
/-- What one edge gives to vertex v. -/
def gives (s : List Int) (v : Nat) (x : Ed) : Int := (if x.b = v then flow s x else 0) - (if x.a = v then flow s x else 0)
theorem rowTo_one (s : List Int) (v : Nat) (x : Ed) (hx : 0 ≤ x.a ∧ x.a ≤ x.b) (u : Nat) :
    rowTo [x] s v u = (if x.b = v ∧ x.a < u ∧ x.a ≠ x.b then flow s x else 0) - (if x.a = v ∧ x.b < u ∧ x.a ≠ x.b then flow s x else 0) := by
  induction u with
  | zero => simp [rowTo]; rw [if_neg (by omega), if_neg (by omega)]; rfl
  | succ u ih =>
    simp only [rowTo, ih, betw]
    by_cases huv : u = v
    · rw [if_pos huv]
      have e1 : (x.b = v ∧ x.a < u ∧ x.a ≠ x.b) ↔ (x.b = v ∧ x.a < ((u + 1 : Nat) : Int) ∧ x.a ≠ x.b) := by omega
      have e2 : (x.a = v ∧ x.b < u ∧ x.a ≠ x.b) ↔ (x.a = v ∧ x.b < ((u + 1 : Nat) : Int) ∧ x.a ≠ x.b) := by omega
      simp only [e1, e2]; omega
    · rw [if_neg huv]
      by_cases hlt : u < v
      · rw [show min (v : Int) (u : Int) = u by omega, show max (v : Int) (u : Int) = v by omega]
        by_cases h1 : x.a = u ∧ x.b = v
        · rw [if_pos h1, if_neg (by omega), if_neg (by omega), if_pos (by omega), if_neg (by omega)]
          have ea : x.a.toNat = u := by omega
          have eb : x.b.toNat = v := by omega
          unfold flow; rw [ea, eb]; omega
        · rw [if_neg h1]
          have e1 : (x.b = v ∧ x.a < u ∧ x.a ≠ x.b) ↔ (x.b = v ∧ x.a < ((u + 1 : Nat) : Int) ∧ x.a ≠ x.b) := by omega
          have e2 : (x.a = v ∧ x.b < u ∧ x.a ≠ x.b) ↔ (x.a = v ∧ x.b < ((u + 1 : Nat) : Int) ∧ x.a ≠ x.b) := by omega
          simp only [e1, e2]; omega
      · rw [show min (v : Int) (u : Int) = v by omega, show max (v : Int) (u : Int) = u by omega]
        by_cases h1 : x.a = v ∧ x.b = u
        · rw [if_pos h1, if_neg (by omega), if_neg (by omega), if_neg (by omega), if_pos (by omega)]
          have ea : x.a.toNat = v := by omega
          have eb : x.b.toNat = u := by omega
          unfold flow
          rw [ea, eb]
          have := Int.mul_neg x.m (s.getD v 0 - s.getD u 0)
          rw [show s.getD u 0 - s.getD v 0 = -(s.getD v 0 - s.getD u 0) by omega, this]; omega
        · rw [if_neg h1]
          have e1 : (x.b = v ∧ x.a < u ∧ x.a ≠ x.b) ↔ (x.b = v ∧ x.a < ((u + 1 : Nat) : Int) ∧ x.a ≠ x.b) := by omega
          have e2 : (x.a = v ∧ x.b < u ∧ x.a ≠ x.b) ↔ (x.a = v ∧ x.b < ((u + 1 : Nat) : Int) ∧ x.a ≠ x.b) := by omega
          simp only [e1, e2]; omega
theorem rowTo_cons {x : Ed} {es : List Ed} (h : (x :: es).Pairwise ltE) (s : List Int) (v u : Nat) : rowTo (x :: es) s v u = rowTo [x] s v u + rowTo es s v u := by
  induction u with
  | zero => simp [rowTo]
  | succ u ih =>
    simp only [rowTo, ih]
    split
    · omega
    · rw [betw_cons h, betw_cons (es := []) (by simp) , Int.add_mul, Int.add_mul]
      simp only [betw, Int.zero_mul]; omega
theorem rowTo_all {n : Nat} {es : List Ed} (h : ∀ x ∈ es, Right n x) (hp : es.Pairwise ltE) (s : List Int) (v : Nat) : rowTo es s v n = sumI (es.map (gives s v)) := by
  induction es with
  | nil =>
    have : ∀ u, rowTo [] s v u = 0 := by
      intro u
      induction u with
      | zero => rfl
      | succ u ih => simp [rowTo, ih, betw]
    rw [this]; rfl
  | cons x es ih =>
    rw [rowTo_cons hp, ih (fun y hy => h y (by simp [hy])) (List.pairwise_cons.1 hp).2, List.map_cons, sumI]
    have r := h x (by simp)
    have := r.an; have := r.bn; have := r.ab; have := r.a0
    rw [rowTo_one s v x ⟨r.a0, r.ab⟩]
    unfold gives
    by_cases hab : x.a = x.b
    · have hf : flow s x = 0 := by unfold flow; rw [hab]; simp
      rw [hf]; simp
    · by_cases h1 : x.b = v
      · by_cases h2 : x.a = v
        · omega
        · rw [if_pos (by omega), if_neg (by omega), if_pos h1, if_neg h2]
      · by_cases h2 : x.a = v
        · rw [if_neg (by omega), if_pos (by omega), if_neg h1, if_pos h2]
        · rw [if_neg (by omega), if_neg (by omega), if_neg h1, if_neg h2]
theorem movE_getD (s : List Int) (x : Ed) (d : List Int) {n : Nat} (r : Right n x) (hl : d.length = n) (v : Nat) : (movE s x d).getD v 0 = d.getD v 0 + gives s v x := by
  have := r.an; have := r.bn; have := r.ab; have := r.a0; have := r.b0
  obtain ⟨p, hp⟩ : ∃ p : Nat, x.a = p := ⟨x.a.toNat, by omega⟩
  obtain ⟨q, hq⟩ : ∃ q : Nat, x.b = q := ⟨x.b.toNat, by omega⟩
  have ea : x.a.toNat = p := by omega
  have eb : x.b.toNat = q := by omega
  have hpn : p < n := by omega
  have hqn : q < n := by omega
  unfold movE gives
  rw [getD_set, getD_set, getD_set, List.length_set, hl, ea, eb]
  generalize flow s x = f
  have c1 : (x.b = (v : Int)) ↔ q = v := by omega
  have c2 : (x.a = (v : Int)) ↔ p = v := by omega
  simp only [c1, c2, hpn, hqn, and_true]
  by_cases h1 : q = v
  · by_cases h2 : p = v
    · have h3 : p = q := by omega
      simp only [h1, h2, if_true]; omega
    · have h3 : ¬ p = q := by omega
      simp only [h1, h2, if_true, if_false]; omega
  · by_cases h2 : p = v
    · simp only [h1, h2, if_true, if_false]; omega
    · simp only [h1, h2, if_false]; omega
theorem movedE_getD (es : List Ed) (s : List Int) {n : Nat} (h : ∀ x ∈ es, Right n x) (v : Nat) : ∀ (d : List Int), d.length = n → (movedE es s d).getD v 0 = d.getD v 0 + sumI (es.map (gives s v)) := by
  induction es with
  | nil => intro d _; simp [movedE, sumI]
  | cons x es ih =>
    intro d hl
    show (movedE es s (movE s x d)).getD v 0 = _
    rw [ih (fun y hy => h y (by simp [hy])) _ (by rw [movE_length, hl]), movE_getD s x d (h x (by simp)) hl v, List.map_cons, sumI]; omega
/-- Both ways come to the same. -/
theorem moved_same {n : Nat} {es : List Ed} (hg : GoodG n es) (s d : List Int) (hl : d.length = n) : movedE es s d = mvR n es s d n := by
  refine ext_getD (by rw [movedE_length, mvR_length, hl]) fun i hi => ?_
  rw [movedE_length, hl] at hi
  rw [movedE_getD es s hg.right i d hl, mvR_getD n es s d n i hi, if_pos hi, rowTo_all hg.right hg.asc s i]
end Sand
end Go
/-
  Plain definitions and laws: graphs, divisors, firing. No program.
-/
namespace Go
namespace Sand
/-- The ends of the single edges. -/
def endsL (es : List Ed) : List (Int × Int) := es.flatMap fun x => List.replicate x.m.toNat (x.a, x.b)
theorem endsL_snoc (es : List Ed) (k : Nat) (h : k < es.length) : endsL (es.take (k + 1)) = endsL (es.take k) ++ List.replicate es[k].m.toNat (es[k].a, es[k].b) := by
  unfold endsL
  rw [List.take_succ_eq_append_getElem h, List.flatMap_append]
  simp
theorem endsL_len {n : Int} {es : List Ed} (h : ∀ x ∈ es, Right n x) : (endsL es).length ≤ 50 * es.length := by
  induction es with
  | nil => simp [endsL]
  | cons x es ih =>
    have := (h x (by simp)).m50
    have := ih fun y hy => h y (by simp [hy])
    simp only [endsL, List.flatMap_cons, List.length_append, List.length_replicate, List.length_cons] at *
    omega
def prvI (xs : List Int) : Nat → Int
  | 0 => -1
  | j + 1 => match xs[j]? with | some x => x | none => -1
theorem prvI_succ {xs : List Int} {k : Nat} (h : k < xs.length) : prvI xs (k + 1) = xs[k] := by simp only [prvI]; rw [List.getElem?_eq_getElem h]
theorem subErr_cons {N last : Int} {l xs : List Int} {v r : Int} (h1 : r = subErr N last l) (h2 : l = v :: xs) : r = if vtx N v = false then 2 else if v ≤ last then 9 else subErr N v xs := by
  subst h2; rw [h1, subErr]
def subCheck (N : Int) (es : List Ed) (xs : List Int) : Int := if gcheck N es ≠ 0 then gcheck N es else subErr N (-1) xs
def bndE (xs : List Int) : Int := if xs.all inB then 0 else 11
/-- The error of a graph and a divisor. -/
def givenE (N : Int) (es : List Ed) (d : List Int) : Int := if gcheck N es ≠ 0 then gcheck N es else dcheck d N
def oneL (n : Nat) (v : Nat) (k : Int) : List Int := (List.replicate n 0).set v k
/-- The script in which the vertices of a set fire t times. -/
def ofL (n : Nat) (set : List Int) (t : Int) : List Int := set.foldl (fun s v => s.set v.toNat t) (List.replicate n 0)
theorem ofL_snoc (n : Nat) (set : List Int) (t : Int) (k : Nat) (h : k < set.length) : ofL n (set.take (k + 1)) t = (ofL n (set.take k) t).set set[k].toNat t := by
  unfold ofL
  rw [List.take_succ_eq_append_getElem h, List.foldl_append]
  rfl
theorem ofL_length (n : Nat) (set : List Int) (t : Int) : (ofL n set t).length = n := by
  unfold ofL
  have : ∀ (l : List Int), (set.foldl (fun s v => s.set v.toNat t) l).length = l.length := by
    induction set with
    | nil => intro l; rfl
    | cons v set ih => intro l; rw [List.foldl_cons, ih, List.length_set]
  rw [this, List.length_replicate]
theorem inB_iff {k : Int} : inB k = true ↔ -1048576 ≤ k ∧ k ≤ 1048576 := by simp [inB]
def resE (e : Int) (m : List Int) : Int := if e ≠ 0 then e else bndE m
def resL (e : Int) (m : List Int) : List Int := if e = 0 ∧ m.all inB = true then m else []
theorem res_err {e : Int} {m : List Int} (h : e ≠ 0) : resE e m = e ∧ resL e m = [] := ⟨by rw [resE, if_pos h], by rw [resL, if_neg (fun h' => h h'.1)]⟩
theorem res_ok {m : List Int} : resE 0 m = bndE m := by rw [resE, if_neg (by simp)]
theorem given_ok {N : Int} {es : List Ed} {d : List Int} (h : givenE N es d = 0) : ∃ n : Nat, N = n ∧ GoodG n es ∧ d.length = n ∧ Bd 1048576 d ∧ 1 ≤ n ∧ n ≤ 12 := by
  unfold givenE at h
  split at h
  · rename_i h1; exact absurd h h1
  · rename_i h1
    have hg := gcheck_ok (by simpa using h1 : gcheck N es = 0)
    have := hg.n1
    have := hg.n12
    obtain ⟨n, rfl⟩ : ∃ n : Nat, N = n := ⟨N.toNat, by omega⟩
    unfold dcheck at h
    rw [if_neg (by omega)] at h
    split at h
    · cases h
    · rename_i hl
      have hlen : d.length = n := by omega
      refine ⟨n, rfl, hg, hlen, ?_, by omega, by omega⟩
      split at h
      · rename_i ha
        intro i
        by_cases hi : i < d.length
        · have := inB_iff.1 (List.all_eq_true.1 ha _ (List.getElem_mem hi))
          rw [List.getD_eq_getElem?_getD, List.getElem?_eq_getElem hi]; exact this
        · rw [List.getD_eq_getElem?_getD, List.getElem?_eq_none (by omega)]; simp
      · cases h
theorem zeros_bd (n : Nat) : Bd 1073741824 (List.replicate n 0) := fun i => by
  by_cases h : i < n <;> simp [List.getD_eq_getElem?_getD, h]
/-- Is a graph small? -/
def smallG (N : Int) (es : List Ed) (nv ne : Int) : Bool := decide (es.length ≤ 40) && (decide (gcheck N es ≠ 0) || (decide (N ≤ nv) && decide (((endsL es).length : Int) ≤ ne)))
def few18 (N : Int) (es : List Ed) (d : List Int) : Bool := smallG N es 6 9 && decide (d.length ≤ 24)
def giv2E (N : Int) (es : List Ed) (d s : List Int) : Int := if givenE N es d ≠ 0 then givenE N es d else givenE N es s
def vtxE (N : Int) (es : List Ed) (d : List Int) (v : Int) : Int := if givenE N es d ≠ 0 then givenE N es d else if vtx N v = true then 0 else 2
def subE (N : Int) (es : List Ed) (d set : List Int) : Int := if givenE N es d ≠ 0 then givenE N es d else subErr N (-1) set
theorem given_gcheck {N : Int} {es : List Ed} {d : List Int} (h : givenE N es d = 0) : gcheck N es = 0 := by
  unfold givenE at h
  split at h
  · rename_i h1; exact absurd h h1
  · rename_i h1; simpa using h1
theorem subErr_ok {N : Int} : ∀ {last : Int} {set : List Int}, subErr N last set = 0 → (∀ x ∈ set, 0 ≤ x ∧ x < N) ∧ (∀ x ∈ set, last < x) ∧ set.Pairwise (· < ·)
  | _, [], _ => ⟨by simp, by simp, List.Pairwise.nil⟩
  | last, v :: l, h => by
    unfold subErr at h
    split at h
    · cases h
    · rename_i hv
      split at h
      · cases h
      · rename_i hl
        obtain ⟨h1, h2, h3⟩ := subErr_ok h
        have hv' := vtx_iff.1 (by simpa using hv : vtx N v = true)
        refine ⟨fun x hx => ?_, fun x hx => ?_, List.pairwise_cons.2 ⟨fun y hy => h2 y hy, h3⟩⟩
        · rcases List.mem_cons.1 hx with rfl | hx
          · exact hv'
          · exact h1 x hx
        · rcases List.mem_cons.1 hx with rfl | hx
          · omega
          · have := h2 x hx; omega
theorem ofL_bd (n : Nat) (set : List Int) (t : Int) (ht : -1048576 ≤ t ∧ t ≤ 1048576) : Bd 1048576 (ofL n set t) := by
  unfold ofL
  have h0 : Bd 1048576 (List.replicate n (0 : Int)) := fun i => by
    by_cases h : i < n <;> simp [List.getD_eq_getElem?_getD, h]
  revert h0
  generalize List.replicate n (0 : Int) = l
  intro h0
  induction set generalizing l with
  | nil => exact h0
  | cons v set ih => exact ih _ (h0.set _ ht)
def val1 (v : Int) (x : Ed) : Int := if x.a ≠ x.b ∧ (x.a = v ∨ x.b = v) then x.m else 0
def valS (es : List Ed) (v : Int) : Int := sumI (es.map (val1 v))
theorem valS_snoc (es : List Ed) (v : Int) (k : Nat) (h : k < es.length) : valS (es.take (k + 1)) v = valS (es.take k) v + val1 v es[k] := by
  unfold valS
  rw [List.take_succ_eq_append_getElem h, List.map_append, sumI_append]
  simp [sumI]
theorem valTo_one (x : Ed) (hx : 0 ≤ x.a ∧ x.a ≤ x.b) (v : Int) (u : Nat) :
    valTo [x] v u = if x.a ≠ x.b ∧ (x.a = v ∧ x.b < u ∨ x.b = v ∧ x.a < u) then x.m else 0 := by
  induction u with
  | zero => simp only [valTo]; rw [if_neg (by omega)]
  | succ u ih =>
    simp only [valTo, ih, betw]
    by_cases huv : (u : Int) = v
    · rw [if_pos huv]
      have e1 : (x.a ≠ x.b ∧ (x.a = v ∧ x.b < u ∨ x.b = v ∧ x.a < u)) ↔ (x.a ≠ x.b ∧ (x.a = v ∧ x.b < ((u + 1 : Nat) : Int) ∨ x.b = v ∧ x.a < ((u + 1 : Nat) : Int))) := by omega
      simp only [e1]; omega
    · rw [if_neg huv]
      by_cases h1 : x.a = min (u : Int) v ∧ x.b = max (u : Int) v
      · rw [if_pos h1, if_neg (by omega), if_pos (by omega)]; omega
      · rw [if_neg h1]
        have e1 : (x.a ≠ x.b ∧ (x.a = v ∧ x.b < u ∨ x.b = v ∧ x.a < u)) ↔ (x.a ≠ x.b ∧ (x.a = v ∧ x.b < ((u + 1 : Nat) : Int) ∨ x.b = v ∧ x.a < ((u + 1 : Nat) : Int))) := by omega
        simp only [e1]; omega
theorem valTo_cons {x : Ed} {es : List Ed} (h : (x :: es).Pairwise ltE) (v : Int) (u : Nat) : valTo (x :: es) v u = valTo [x] v u + valTo es v u := by
  induction u with
  | zero => simp [valTo]
  | succ u ih =>
    simp only [valTo, ih]
    split
    · omega
    · rw [betw_cons h, betw_cons (es := []) (by simp)]
      simp only [betw]; omega
theorem valTo_all {n : Nat} {es : List Ed} (h : ∀ x ∈ es, Right n x) (hp : es.Pairwise ltE) (v : Int) (hv : 0 ≤ v ∧ v < n) : valTo es v n = valS es v := by
  induction es with
  | nil =>
    have : ∀ u, valTo [] v u = 0 := by
      intro u
      induction u with
      | zero => rfl
      | succ u ih => simp only [valTo, ih, betw]; split <;> rfl
    rw [this]; rfl
  | cons x es ih =>
    rw [valTo_cons hp, ih (fun y hy => h y (by simp [hy])) (List.pairwise_cons.1 hp).2]
    obtain ⟨r1, r2, r3, r4, r5, r6, r7⟩ := h x (by simp)
    rw [valTo_one x (by omega) v]
    show _ = sumI (val1 v x :: es.map (val1 v))
    have e1 : (x.a ≠ x.b ∧ (x.a = v ∧ x.b < n ∨ x.b = v ∧ x.a < n)) ↔ (x.a ≠ x.b ∧ (x.a = v ∨ x.b = v)) := by omega
    simp only [sumI, val1, e1, valS]
theorem valS_bd {n : Int} {es : List Ed} (h : ∀ x ∈ es, Right n x) (v : Int) : 0 ≤ valS es v ∧ valS es v ≤ 50 * es.length := by
  induction es with
  | nil => simp [valS, sumI]
  | cons x es ih =>
    have := ih fun y hy => h y (by simp [hy])
    have r := h x (by simp)
    have r1 := r.m1
    have r2 := r.m50
    have h1 : 0 ≤ val1 v x ∧ val1 v x ≤ 50 := by unfold val1; split <;> omega
    have e1 : valS (x :: es) v = val1 v x + valS es v := by simp [valS, sumI]
    rw [e1]; simp only [List.length_cons]; omega
def atE (N : Int) (vs : List Int) : Int := if vs.all (vtx N) = true then 0 else 2
def mayB (es : List Ed) (d : List Int) (v : Int) : Bool := decide (0 < valS es v ∧ valS es v ≤ d.getD v.toNat 0)
def listE (N : Int) (ms : List Int) : Int := if 4096 < ms.length then 5 else if ms.all (vtx N) then 0 else 2
theorem any_not (p : Int → Bool) (l : List Int) : l.any (fun x => !p x) = !(l.all p) := by
  induction l with
  | nil => rfl
  | cons a l ih => simp only [List.any_cons, List.all_cons, ih]; cases p a <;> rfl
def resB (e : Int) (b : Bool) : Bool := if e = 0 then b else false
theorem resB_err {e : Int} {b : Bool} (h : e ≠ 0) : resB e b = false := by rw [resB, if_neg h]
theorem resB_ok {b : Bool} : resB 0 b = b := by rw [resB, if_pos rfl]
theorem vtxE_ok {N : Int} {es : List Ed} {d : List Int} {v : Int} (h : vtxE N es d v = 0) : givenE N es d = 0 ∧ 0 ≤ v ∧ v < N := by
  have hg0 : givenE N es d = 0 := by
    unfold vtxE at h; split at h
    · rename_i h'; exact absurd h h'
    · rename_i h'; simpa using h'
  refine ⟨hg0, ?_⟩
  unfold vtxE at h
  rw [if_neg (by simp [hg0])] at h
  split at h
  · rename_i h'; exact vtx_iff.1 h'
  · cases h
/-- How many single edges lead from v out of the set to the vertices below u. -/
def outTo (es : List Ed) (set : List Int) (v : Int) : Nat → Int
  | 0 => 0
  | u + 1 => outTo es set v u + if (u : Int) ∈ set then 0 else betw es (min v u) (max v u)
theorem outTo_bd {es : List Ed} (set : List Int) (v : Int) (hbd : ∀ lo hi, 0 ≤ betw es lo hi ∧ betw es lo hi ≤ 50) (k : Nat) : 0 ≤ outTo es set v k ∧ outTo es set v k ≤ 50 * k := by
  induction k with
  | zero => simp [outTo]
  | succ k ih => simp only [outTo]; have := hbd (min v k) (max v k); split <;> omega
/-- May the vertices x :: xs of the set fire, behind others that let s edges out? -/
def maySetL (n : Nat) (es : List Ed) (d set : List Int) : List Int → Int → Bool
  | [], s => decide (0 < s)
  | v :: vs, s => if d.getD v.toNat 0 < outTo es set v n then false else maySetL n es d set vs (s + outTo es set v n)
def maySet (n : Nat) (es : List Ed) (d set : List Int) : Bool := maySetL n es d set set 0
def lost1 (set : List Int) (v : Int) (x : Ed) : Int :=
  if x.a ∈ set ∧ x.b ∉ set then (if x.a = v then x.m else 0) else if x.b ∈ set ∧ x.a ∉ set then (if x.b = v then x.m else 0) else 0
def lostV (es : List Ed) (set : List Int) (v : Int) : Int := sumI (es.map (lost1 set v))
def lostL (n : Nat) (es : List Ed) (set : List Int) : List Int := (List.range n).map fun v : Nat => lostV es set (v : Int)
def leaves (es : List Ed) (set : List Int) : Bool := es.any fun x => decide (x.a ∈ set) != decide (x.b ∈ set)
def legalSet (n : Nat) (es : List Ed) (d set : List Int) : Bool := leaves es set && !(set.any fun v => !decide ((lostL n es set).getD v.toNat 0 ≤ d.getD v.toNat 0))
theorem lostL_length (n : Nat) (es : List Ed) (set : List Int) : (lostL n es set).length = n := by simp [lostL]
theorem lostL_getD (n : Nat) (es : List Ed) (set : List Int) (v : Nat) (h : v < n) : (lostL n es set).getD v 0 = lostV es set v := by
  simp [lostL, List.getD_eq_getElem?_getD, List.getElem?_map, List.getElem?_range h]
theorem lostV_snoc (es : List Ed) (set : List Int) (v : Int) (k : Nat) (h : k < es.length) : lostV (es.take (k + 1)) set v = lostV (es.take k) set v + lost1 set v es[k] := by
  unfold lostV
  rw [List.take_succ_eq_append_getElem h, List.map_append, sumI_append]
  simp [sumI]
theorem lost1_bd (set : List Int) (v : Int) (x : Ed) (h1 : 1 ≤ x.m) (h2 : x.m ≤ 50) : 0 ≤ lost1 set v x ∧ lost1 set v x ≤ 50 := by
  unfold lost1
  split
  · split <;> omega
  · split
    · split <;> omega
    · omega
theorem lostV_bd {n : Int} {es : List Ed} (h : ∀ x ∈ es, Right n x) (set : List Int) (v : Int) : 0 ≤ lostV es set v ∧ lostV es set v ≤ 50 * es.length := by
  induction es with
  | nil => simp [lostV, sumI]
  | cons x es ih =>
    have := ih fun y hy => h y (by simp [hy])
    have r := h x (by simp)
    have h1 := lost1_bd set v x (by have := r.m1; omega) r.m50
    have e1 : lostV (x :: es) set v = lost1 set v x + lostV es set v := by simp [lostV, sumI]
    rw [e1]; simp only [List.length_cons]; omega
theorem lost_same (n : Nat) (es : List Ed) (set : List Int) (k : Nat) (h : k < es.length) (h1 : ¬ (es[k].a ∈ set ∧ es[k].b ∉ set)) (h2 : ¬ (es[k].b ∈ set ∧ es[k].a ∉ set)) :
    lostL n (es.take (k + 1)) set = lostL n (es.take k) set := by
  unfold lostL
  refine List.map_congr_left fun v _ => ?_
  rw [lostV_snoc es set v k h, lost1, if_neg h1, if_neg h2, Int.add_zero]
theorem lost_set (n : Nat) (es : List Ed) (set : List Int) (k : Nat) (h : k < es.length) (p : Nat) (u : Int) (hp : ∀ v : Nat, lost1 set v es[k] = if p = v then u else 0) :
    lostL n (es.take (k + 1)) set = (lostL n (es.take k) set).set p ((lostL n (es.take k) set).getD p 0 + u) := by
  refine ext_getD (by simp [lostL_length]) fun i hi => ?_
  rw [lostL_length] at hi
  rw [lostL_getD _ _ _ _ hi, lostV_snoc es set i k h, getD_set, hp, lostL_length]
  by_cases hpi : p = i
  · subst hpi
    rw [if_pos rfl, if_pos ⟨rfl, hi⟩, lostL_getD _ _ _ _ hi]
  · rw [if_neg hpi, if_neg (fun h => hpi h.1), lostL_getD _ _ _ _ hi, Int.add_zero]
theorem lost_a (n : Nat) (es : List Ed) (set : List Int) (k : Nat) (h : k < es.length) (p : Nat) (hp : es[k].a = p) (h1 : es[k].a ∈ set) (h2 : es[k].b ∉ set) :
    lostL n (es.take (k + 1)) set = (lostL n (es.take k) set).set p ((lostL n (es.take k) set).getD p 0 + es[k].m) := by
  refine lost_set n es set k h p _ fun v => ?_
  rw [lost1, if_pos ⟨h1, h2⟩, hp]
  by_cases hv : p = v
  · rw [if_pos (by omega), if_pos hv]
  · rw [if_neg (by omega), if_neg hv]
theorem lost_b (n : Nat) (es : List Ed) (set : List Int) (k : Nat) (h : k < es.length) (p : Nat) (hp : es[k].b = p) (h1 : es[k].b ∈ set) (h2 : es[k].a ∉ set) :
    lostL n (es.take (k + 1)) set = (lostL n (es.take k) set).set p ((lostL n (es.take k) set).getD p 0 + es[k].m) := by
  refine lost_set n es set k h p _ fun v => ?_
  rw [lost1, if_neg (fun h => h2 h.1), if_pos ⟨h1, h2⟩, hp]
  by_cases hv : p = v
  · rw [if_pos (by omega), if_pos hv]
  · rw [if_neg (by omega), if_neg hv]
theorem outTo_one (x : Ed) (hx : 0 ≤ x.a ∧ x.a ≤ x.b) (set : List Int) (v : Int) (hv : v ∈ set) (u : Nat) :
    outTo [x] set v u = if x.a = v ∧ x.b < u ∧ x.b ∉ set then x.m else if x.b = v ∧ x.a < u ∧ x.a ∉ set then x.m else 0 := by
  induction u with
  | zero => simp only [outTo]; rw [if_neg (by omega), if_neg (by omega)]
  | succ u ih =>
    simp only [outTo, ih, betw]
    by_cases huv : (u : Int) ∈ set
    · rw [if_pos huv]
      have e1 : (x.a = v ∧ x.b < u ∧ x.b ∉ set) ↔ (x.a = v ∧ x.b < ((u + 1 : Nat) : Int) ∧ x.b ∉ set) := by
        constructor
        · exact fun h => ⟨h.1, by omega, h.2.2⟩
        · refine fun h => ⟨h.1, ?_, h.2.2⟩
          have : x.b ≠ u := fun e => h.2.2 (e ▸ huv)
          omega
      have e2 : (x.b = v ∧ x.a < u ∧ x.a ∉ set) ↔ (x.b = v ∧ x.a < ((u + 1 : Nat) : Int) ∧ x.a ∉ set) := by
        constructor
        · exact fun h => ⟨h.1, by omega, h.2.2⟩
        · refine fun h => ⟨h.1, ?_, h.2.2⟩
          have : x.a ≠ u := fun e => h.2.2 (e ▸ huv)
          omega
      simp only [e1, e2]; omega
    · rw [if_neg huv]
      have hne : (u : Int) ≠ v := fun e => huv (e ▸ hv)
      by_cases h1 : x.a = min v (u : Int) ∧ x.b = max v (u : Int)
      · rw [if_pos h1]
        rcases Int.lt_or_gt_of_ne hne with hlt | hlt
        · have ea : x.a = u := by omega
          have eb : x.b = v := by omega
          rw [if_neg (by omega), if_neg (by omega), if_neg (by omega), if_pos ⟨eb, by omega, by rw [ea]; exact huv⟩]; omega
        · have ea : x.a = v := by omega
          have eb : x.b = u := by omega
          rw [if_neg (by omega), if_neg (by omega), if_pos ⟨ea, by omega, by rw [eb]; exact huv⟩]; omega
      · rw [if_neg h1]
        have e1 : (x.a = v ∧ x.b < u ∧ x.b ∉ set) ↔ (x.a = v ∧ x.b < ((u + 1 : Nat) : Int) ∧ x.b ∉ set) := by
          constructor
          · exact fun h => ⟨h.1, by omega, h.2.2⟩
          · exact fun h => ⟨h.1, by omega, h.2.2⟩
        have e2 : (x.b = v ∧ x.a < u ∧ x.a ∉ set) ↔ (x.b = v ∧ x.a < ((u + 1 : Nat) : Int) ∧ x.a ∉ set) := by
          constructor
          · exact fun h => ⟨h.1, by omega, h.2.2⟩
          · exact fun h => ⟨h.1, by omega, h.2.2⟩
        simp only [e1, e2]; omega
theorem outTo_cons {x : Ed} {es : List Ed} (h : (x :: es).Pairwise ltE) (set : List Int) (v : Int) (u : Nat) : outTo (x :: es) set v u = outTo [x] set v u + outTo es set v u := by
  induction u with
  | zero => simp [outTo]
  | succ u ih =>
    simp only [outTo, ih]
    split
    · omega
    · rw [betw_cons h, betw_cons (es := []) (by simp)]
      simp only [betw]; omega
theorem outTo_all {n : Nat} {es : List Ed} (h : ∀ x ∈ es, Right n x) (hp : es.Pairwise ltE) (set : List Int) (v : Int) (hv : v ∈ set) : outTo es set v n = lostV es set v := by
  induction es with
  | nil =>
    have : ∀ u, outTo [] set v u = 0 := by
      intro u
      induction u with
      | zero => rfl
      | succ u ih => simp only [outTo, ih, betw]; split <;> rfl
    rw [this]; rfl
  | cons x es ih =>
    rw [outTo_cons hp, ih (fun y hy => h y (by simp [hy])) (List.pairwise_cons.1 hp).2]
    obtain ⟨r1, r2, r3, r4, r5, r6, r7⟩ := h x (by simp)
    rw [outTo_one x (by omega) set v hv]
    have e1 : lostV (x :: es) set v = lost1 set v x + lostV es set v := by simp [lostV, sumI]
    rw [e1]
    congr 1
    unfold lost1
    have q1 : x.b < (n : Int) := by omega
    have q2 : x.a < (n : Int) := by omega
    by_cases ha : x.a ∈ set <;> by_cases hb : x.b ∈ set
    · simp [ha, hb]
    · simp [ha, hb, q1]
    · simp [ha, hb, q2]
    · have q3 : x.a ≠ v := fun e => ha (e ▸ hv)
      have q4 : x.b ≠ v := fun e => hb (e ▸ hv)
      simp [ha, hb, q3, q4]
theorem maySetL_eq (n : Nat) (es : List Ed) (d set : List Int) : ∀ (l : List Int) (s : Int), maySetL n es d set l s = (l.all (fun v => decide (outTo es set v n ≤ d.getD v.toNat 0)) && decide (0 < s + sumI (l.map fun v => outTo es set v n)))
  | [], s => by simp [maySetL, sumI]
  | v :: l, s => by
    rw [maySetL]
    by_cases h : d.getD v.toNat 0 < outTo es set v n
    · rw [if_pos h, List.all_cons, decide_eq_false (by omega)]; rfl
    · rw [if_neg h, maySetL_eq n es d set l, List.all_cons, decide_eq_true (by omega : outTo es set v n ≤ d.getD v.toNat 0)]
      simp only [Bool.true_and, List.map_cons, sumI]
      rw [show s + outTo es set v n + sumI (l.map fun v => outTo es set v n) = s + (outTo es set v n + sumI (l.map fun v => outTo es set v n)) by omega]
theorem sum_pos {l : List Int} (h : ∀ x ∈ l, 0 ≤ x) : 0 ≤ sumI l ∧ (0 < sumI l ↔ ∃ x ∈ l, 0 < x) := by
  induction l with
  | nil => simp [sumI]
  | cons a l ih =>
    obtain ⟨h1, h2⟩ := ih fun x hx => h x (by simp [hx])
    have ha := h a (by simp)
    simp only [sumI, List.mem_cons, exists_eq_or_imp]
    refine ⟨by omega, ?_⟩
    rw [← h2]
    omega
theorem lostV_pos {n : Int} {es : List Ed} (h : ∀ x ∈ es, Right n x) (set : List Int) (v : Int) : 0 < lostV es set v ↔ ∃ x ∈ es, 0 < lost1 set v x := by
  have := (sum_pos (l := es.map (lost1 set v)) (by
    intro y hy
    obtain ⟨x, hx, rfl⟩ := List.mem_map.1 hy
    have r := h x hx
    exact (lost1_bd set v x (by have := r.m1; omega) r.m50).1)).2
  unfold lostV
  rw [this]
  constructor
  · rintro ⟨_, hy, hp⟩
    obtain ⟨x, hx, rfl⟩ := List.mem_map.1 hy
    exact ⟨x, hx, hp⟩
  · rintro ⟨x, hx, hp⟩
    exact ⟨_, List.mem_map.2 ⟨x, hx, rfl⟩, hp⟩
theorem may_same {n : Nat} {es : List Ed} (hg : GoodG n es) (d set : List Int) (hs : ∀ x ∈ set, 0 ≤ x ∧ x < n) : maySet n es d set = legalSet n es d set := by
  unfold maySet legalSet
  rw [maySetL_eq, Bool.and_comm]
  have e1 : ∀ v ∈ set, outTo es set v n = lostV es set v := fun v hv => outTo_all hg.right hg.asc set v hv
  congr 1
  · rw [Int.zero_add, Bool.eq_iff_iff, decide_eq_true_iff, List.map_congr_left e1]
    rw [(sum_pos (l := set.map fun v => lostV es set v) (by
      intro y hy
      obtain ⟨x, hx, rfl⟩ := List.mem_map.1 hy
      exact (lostV_bd hg.right set x).1)).2]
    simp only [leaves, List.any_eq_true]
    constructor
    · rintro ⟨_, hy, hpos⟩
      obtain ⟨v, hv, rfl⟩ := List.mem_map.1 hy
      obtain ⟨x, hx, hp⟩ := (lostV_pos hg.right set v).1 hpos
      refine ⟨x, hx, ?_⟩
      unfold lost1 at hp
      by_cases ha : x.a ∈ set <;> by_cases hb : x.b ∈ set <;> simp_all
    · rintro ⟨x, hx, hp⟩
      have r := hg.right x hx
      have r1 := r.m1
      by_cases ha : x.a ∈ set <;> by_cases hb : x.b ∈ set
      · simp_all
      · refine ⟨_, List.mem_map.2 ⟨x.a, ha, rfl⟩, (lostV_pos hg.right set _).2 ⟨x, hx, ?_⟩⟩
        rw [lost1, if_pos ⟨ha, hb⟩, if_pos rfl]; omega
      · refine ⟨_, List.mem_map.2 ⟨x.b, hb, rfl⟩, (lostV_pos hg.right set _).2 ⟨x, hx, ?_⟩⟩
        rw [lost1, if_neg (fun h => ha h.1), if_pos ⟨hb, ha⟩, if_pos rfl]; omega
      · simp_all
  · rw [Bool.eq_iff_iff, List.all_eq_true]
    simp only [Bool.not_eq_true', List.any_eq_false, decide_eq_true_iff, decide_eq_false_iff_not, Decidable.not_not]
    refine forall_congr' fun v => forall_congr' fun hv => ?_
    have hv' := hs v hv
    have h3 := lostL_getD n es set v.toNat (by omega)
    rw [h3, show ((v.toNat : Nat) : Int) = v by omega, e1 v hv]
/-- What is played from the divisor d on, with the index of the first move. -/
def playL (n : Nat) (es : List Ed) : List Int → List Int → Nat → List Int × Nat × Int
  | d, [], i => (d, i, 0)
  | d, v :: ms, i => if mayB es d v = true then (if bndE (movedE es (ofL n [v] 1) d) = 0 then playL n es (movedE es (ofL n [v] 1) d) ms (i + 1) else ([], i, bndE (movedE es (ofL n [v] 1) d))) else ([], i, 18)
def playE (N : Int) (es : List Ed) (d ms : List Int) : List Int × Nat × Int :=
  if givenE N es d ≠ 0 then ([], 0, givenE N es d) else if listE N ms ≠ 0 then ([], 0, listE N ms) else playL N.toNat es d ms 0
theorem playL_no {n : Nat} {es : List Ed} {d : List Int} {v : Int} {ms : List Int} {i : Nat} (h : mayB es d v = false) : playL n es d (v :: ms) i = ([], i, 18) := by
  rw [playL, if_neg (by simp [h])]
theorem playL_large {n : Nat} {es : List Ed} {d : List Int} {v : Int} {ms : List Int} {i : Nat} (h : mayB es d v = true) (h2 : bndE (movedE es (ofL n [v] 1) d) ≠ 0) : playL n es d (v :: ms) i = ([], i, bndE (movedE es (ofL n [v] 1) d)) := by
  rw [playL, if_pos h, if_neg h2]
theorem playL_go {n : Nat} {es : List Ed} {d : List Int} {v : Int} {ms : List Int} {i : Nat} (h : mayB es d v = true) (h2 : bndE (movedE es (ofL n [v] 1) d) = 0) : playL n es d (v :: ms) i = playL n es (movedE es (ofL n [v] 1) d) ms (i + 1) := by
  rw [playL, if_pos h, if_pos h2]
theorem bnd_ok {m : List Int} (h : bndE m = 0) : Bd 1048576 m ∧ m.all inB = true := by
  unfold bndE at h
  split at h
  · rename_i ha
    refine ⟨fun i => ?_, ha⟩
    by_cases hi : i < m.length
    · have := inB_iff.1 (List.all_eq_true.1 ha _ (List.getElem_mem hi))
      rw [List.getD_eq_getElem?_getD, List.getElem?_eq_getElem hi]; exact this
    · rw [List.getD_eq_getElem?_getD, List.getElem?_eq_none (by omega)]; simp
  · cases h
theorem list_ok {N : Int} {ms : List Int} (h : listE N ms = 0) : (∀ x ∈ ms, 0 ≤ x ∧ x < N) ∧ ms.length ≤ 4096 := by
  unfold listE at h
  split at h
  · cases h
  · rename_i hl
    split at h
    · rename_i ha
      exact ⟨fun x hx => vtx_iff.1 (List.all_eq_true.1 ha x hx), by omega⟩
    · cases h
def minT (s : List Int) : Nat → Int
  | 0 => s.getD 0 0
  | k + 1 => min (minT s k) (s.getD k 0)
def maxT (s : List Int) : Nat → Int
  | 0 => s.getD 0 0
  | k + 1 => max (maxT s k) (s.getD k 0)
theorem getD_get {s : List Int} {k : Nat} (h : k < s.length) : s.getD k 0 = s[k] := by
  rw [List.getD_eq_getElem?_getD, List.getElem?_eq_getElem h]; rfl
end Sand
end Go
/-
  Plain laws: what a script changes is linear. No program.
-/
namespace Go
namespace Sand
/-- What a script adds at a vertex. -/
def dif (es : List Ed) (s : List Int) (v : Nat) : Int := sumI (es.map (gives s v))
theorem moved_dif {n : Nat} {es : List Ed} (hg : ∀ x ∈ es, Right n x) (s d : List Int) (hd : d.length = n) (v : Nat) : (movedE es s d).getD v 0 = d.getD v 0 + dif es s v := movedE_getD es s hg v d hd
theorem sumI_add {α : Type} (f g h : α → Int) (l : List α) (H : ∀ x ∈ l, f x = g x + h x) : sumI (l.map f) = sumI (l.map g) + sumI (l.map h) := by
  induction l with
  | nil => simp [sumI]
  | cons x l ih =>
    simp only [List.map_cons, sumI]
    rw [ih fun y hy => H y (by simp [hy]), H x (by simp)]
    omega
theorem gives_add {n : Nat} {s t u : List Int} {c : Int} (h : ∀ i, i < n → u.getD i 0 = s.getD i 0 + t.getD i 0 + c) (v : Nat) {x : Ed} (hx : Right n x) : gives u v x = gives s v x + gives t v x := by
  have ha := h x.a.toNat (by have := hx.a0; have := hx.an; omega)
  have hb := h x.b.toNat (by have := hx.b0; have := hx.bn; omega)
  have hf : flow u x = flow s x + flow t x := by
    unfold flow
    rw [ha, hb, ← Int.mul_add]
    congr 1
    omega
  unfold gives
  rw [hf]
  split <;> split <;> omega
/-- The sum of two scripts, and whatever is added everywhere. -/
theorem dif_add {n : Nat} {es : List Ed} (hg : ∀ x ∈ es, Right n x) {s t u : List Int} (c : Int) (h : ∀ i, i < n → u.getD i 0 = s.getD i 0 + t.getD i 0 + c) (v : Nat) : dif es u v = dif es s v + dif es t v :=
  sumI_add _ _ _ _ fun _ hx => gives_add h v (hg _ hx)
theorem dif_none {es : List Ed} (v : Nat) : dif es [] v = 0 := by
  unfold dif
  induction es with
  | nil => rfl
  | cons x es ih =>
    rw [List.map_cons, sumI, ih]
    simp [gives, flow]
/-- A script that is the same everywhere changes nothing. -/
theorem dif_same {n : Nat} {es : List Ed} (hg : ∀ x ∈ es, Right n x) {u : List Int} (c : Int) (h : ∀ i, i < n → u.getD i 0 = c) (v : Nat) : dif es u v = 0 := by
  have := dif_add hg (s := []) (t := []) (u := u) c (fun i hi => by rw [h i hi]; simp) v
  rw [this, dif_none]
  rfl
theorem moved_two {n : Nat} {es : List Ed} (hg : ∀ x ∈ es, Right n x) {s t u d : List Int} (c : Int) (hd : d.length = n) (h : ∀ i, i < n → u.getD i 0 = s.getD i 0 + t.getD i 0 + c) : movedE es t (movedE es s d) = movedE es u d := by
  have h1 : (movedE es s d).length = n := by rw [movedE_length, hd]
  refine ext_getD (by rw [movedE_length, movedE_length, movedE_length]) fun i hi => ?_
  rw [moved_dif hg t _ h1, moved_dif hg s d hd, moved_dif hg u d hd, dif_add hg c h]
  omega
theorem moved_same_all {n : Nat} {es : List Ed} (hg : ∀ x ∈ es, Right n x) {u d : List Int} (c : Int) (hd : d.length = n) (h : ∀ i, i < n → u.getD i 0 = c) : movedE es u d = d := by
  refine ext_getD (movedE_length _ _ _) fun i hi => ?_
  rw [moved_dif hg u d hd, dif_same hg c h]
  omega
/-- How many single edges there are. -/
theorem ends_sum {n : Int} {es : List Ed} (hg : ∀ x ∈ es, Right n x) : ((endsL es).length : Int) = sumI (es.map (·.m)) := by
  induction es with
  | nil => rfl
  | cons x es ih =>
    have := (hg x (by simp)).m1
    have := ih fun y hy => hg y (by simp [hy])
    simp only [endsL, List.flatMap_cons, List.length_append, List.length_replicate, List.map_cons, sumI] at *
    omega
theorem gives_bd {n : Nat} {s : List Int} {B : Int} (hB : 0 ≤ B) (h : ∀ i j, i < n → j < n → s.getD i 0 - s.getD j 0 ≤ B) (v : Nat) {x : Ed} (hx : Right n x) : -(x.m * B) ≤ gives s v x ∧ gives s v x ≤ x.m * B := by
  have i1 : x.a.toNat < n := by have := hx.a0; have := hx.an; omega
  have i2 : x.b.toNat < n := by have := hx.b0; have := hx.bn; omega
  have h1 := h _ _ i1 i2
  have h2 := h _ _ i2 i1
  have hm := hx.m1
  have f1 : flow s x ≤ x.m * B := Int.mul_le_mul_of_nonneg_left h1 (by omega)
  have f2 : -(x.m * B) ≤ flow s x := by
    have := Int.mul_le_mul_of_nonneg_left h2 (show 0 ≤ x.m by omega)
    unfold flow
    rw [show s.getD x.a.toNat 0 - s.getD x.b.toNat 0 = -(s.getD x.b.toNat 0 - s.getD x.a.toNat 0) by omega, Int.mul_neg]
    omega
  have f3 : 0 ≤ x.m * B := Int.mul_nonneg (by omega) hB
  unfold gives
  split <;> split <;> omega
theorem dif_bd {n : Nat} {es : List Ed} (hg : ∀ x ∈ es, Right n x) {s : List Int} {B : Int} (hB : 0 ≤ B) (h : ∀ i j, i < n → j < n → s.getD i 0 - s.getD j 0 ≤ B) (v : Nat) : -(sumI (es.map (·.m)) * B) ≤ dif es s v ∧ dif es s v ≤ sumI (es.map (·.m)) * B := by
  unfold dif
  induction es with
  | nil => simp [sumI]
  | cons x es ih =>
    have h1 := gives_bd hB h v (hg x (by simp))
    have h2 := ih fun y hy => hg y (by simp [hy])
    simp only [List.map_cons, sumI]
    rw [Int.add_mul]
    omega
end Sand
end Go
/-
  Plain laws: what a script changes keeps the degree. No program.
-/
namespace Go
namespace Sand
theorem sumI_set : ∀ (d : List Int) (i : Nat) (u : Int), i < d.length → sumI (d.set i u) = sumI d - d.getD i 0 + u
  | [], i, u, h => by simp at h
  | x :: d, 0, u, h => by simp only [List.set_cons_zero, sumI, List.getD_cons_zero]; omega
  | x :: d, i + 1, u, h => by
    simp only [List.set_cons_succ, sumI, List.getD_cons_succ]
    rw [sumI_set d i u (by simpa using h)]
    omega
theorem movE_sum {n : Nat} (s : List Int) (x : Ed) (d : List Int) (hx : Right n x) (hd : d.length = n) : sumI (movE s x d) = sumI d := by
  have ha : x.a.toNat < d.length := by have := hx.a0; have := hx.an; omega
  have hb : x.b.toNat < d.length := by have := hx.b0; have := hx.bn; omega
  unfold movE
  rw [sumI_set _ _ _ (by rw [List.length_set]; exact hb), sumI_set _ _ _ ha]
  omega
theorem movedE_sum {n : Nat} {es : List Ed} (s : List Int) (hg : ∀ x ∈ es, Right n x) : ∀ (d : List Int), d.length = n → sumI (movedE es s d) = sumI d := by
  unfold movedE
  induction es with
  | nil => intro d _; rfl
  | cons x es ih =>
    intro d hd
    rw [List.foldl_cons, ih (fun y hy => hg y (by simp [hy])) _ (by rw [movE_length, hd]), movE_sum s x d (hg x (by simp)) hd]
end Sand
end Go
