/-
  Texts joined: Mla Na.
-/
import Derived.Test.YtgbmdikkdjogpaaKb2

section
namespace Go
namespace Sand
def flow (s : List Int) (x : Ed) : Int := x.m * (s.getD x.a.toNat 0 - s.getD x.b.toNat 0)
def movE (s : List Int) (x : Ed) (d : List Int) : List Int :=
  (d.set x.a.toNat (d.getD x.a.toNat 0 - flow s x)).set x.b.toNat ((d.set x.a.toNat (d.getD x.a.toNat 0 - flow s x)).getD x.b.toNat 0 + flow s x)
def movedE (es : List Ed) (s d : List Int) : List Int := es.foldl (fun d x => movE s x d) d
def Bd (B : Int) (d : List Int) : Prop := ∀ i, -B ≤ d.getD i 0 ∧ d.getD i 0 ≤ B
theorem getD_set (d : List Int) (i j : Nat) (u : Int) : (d.set i u).getD j 0 = if i = j ∧ i < d.length then u else d.getD j 0 := by
  simp only [List.getD_eq_getElem?_getD, List.getElem?_set]
  by_cases h : i = j
  · subst h
    by_cases h2 : i < d.length
    · simp [h2]
    · simp [h2]
  · simp [h]
theorem Bd.set {B : Int} {d : List Int} (h : Bd B d) (i : Nat) {u : Int} (hu : -B ≤ u ∧ u ≤ B) : Bd B (d.set i u) := fun j => by
  rw [getD_set]; split
  · exact hu
  · exact h j
theorem Bd.more {B B' : Int} {d : List Int} (h : Bd B d) (hB : B ≤ B') : Bd B' d := fun i => by have := h i; omega
theorem flow_bd {s : List Int} (hs : Bd 1048576 s) {x : Ed} (h1 : 0 ≤ x.m) (h2 : x.m ≤ 50) : -104857600 ≤ flow s x ∧ flow s x ≤ 104857600 := by
  have a := hs x.a.toNat
  have b := hs x.b.toNat
  unfold flow
  have ht : -2097152 ≤ s.getD x.a.toNat 0 - s.getD x.b.toNat 0 ∧ s.getD x.a.toNat 0 - s.getD x.b.toNat 0 ≤ 2097152 := by omega
  generalize s.getD x.a.toNat 0 - s.getD x.b.toNat 0 = t at *
  have e1 := Int.mul_le_mul_of_nonneg_left ht.2 h1
  have e2 := Int.mul_le_mul_of_nonneg_left ht.1 h1
  omega
theorem Bd.movE {B : Int} {s d : List Int} (hd : Bd B d) (hs : Bd 1048576 s) {x : Ed} (h1 : 0 ≤ x.m) (h2 : x.m ≤ 50) : Bd (B + 209715200) (movE s x d) := by
  have hf := flow_bd hs h1 h2
  have h3 : Bd (B + 104857600) (d.set x.a.toNat (d.getD x.a.toNat 0 - flow s x)) := (hd.more (by omega)).set _ (by have := hd x.a.toNat; omega)
  exact (h3.more (by omega)).set _ (by have := h3 x.b.toNat; omega)
structure Right (n : Int) (x : Ed) : Prop where
  a0 : 0 ≤ x.a
  an : x.a < n
  b0 : 0 ≤ x.b
  bn : x.b < n
  ab : x.a ≤ x.b
  m1 : 1 ≤ x.m
  m50 : x.m ≤ 50
def ltE (x y : Ed) : Prop := x.a < y.a ∨ x.a = y.a ∧ x.b < y.b
theorem edgeErr_ok {n la lb : Int} {x : Ed} (h : edgeErr n la lb x = 0) : Right n x ∧ (la < x.a ∨ la = x.a ∧ lb < x.b) := by
  unfold edgeErr at h
  split at h
  · cases h
  · rename_i h1
    split at h
    · cases h
    · rename_i h2
      simp only [not_or] at h1 h2
      obtain ⟨g1, g2, g3, g4⟩ := h1
      obtain ⟨g5, g6⟩ := h2
      have e1 := vtx_iff.1 (by simpa using g1 : vtx n x.a = true)
      have e2 := vtx_iff.1 (by simpa using g2 : vtx n x.b = true)
      refine ⟨⟨by omega, by omega, by omega, by omega, by omega, by omega, by omega⟩, ?_⟩
      unfold behind at g6
      simp only [Bool.not_eq_false] at g6
      exact of_decide_eq_true g6
theorem gloop_ok {n : Int} : ∀ {es : List Ed} {la lb : Int}, gloop n es la lb = 0 → (∀ x ∈ es, Right n x) ∧ es.Pairwise ltE ∧ ∀ x ∈ es, la < x.a ∨ la = x.a ∧ lb < x.b
  | [], _, _, _ => ⟨by simp, List.Pairwise.nil, by simp⟩
  | x :: es, la, lb, h => by
    unfold gloop at h
    split at h
    · rename_i h1; exact absurd h h1
    · rename_i h1
      obtain ⟨r, hb⟩ := edgeErr_ok (by simpa using h1 : edgeErr n la lb x = 0)
      obtain ⟨h2, h3, h4⟩ := gloop_ok h
      refine ⟨?_, List.pairwise_cons.2 ⟨fun y hy => h4 y hy, h3⟩, ?_⟩
      · intro y hy
        rcases List.mem_cons.1 hy with rfl | hy
        · exact r
        · exact h2 y hy
      · intro y hy
        rcases List.mem_cons.1 hy with rfl | hy
        · exact hb
        · have := h4 y hy; omega
structure GoodG (n : Int) (es : List Ed) : Prop where
  n1 : 1 ≤ n
  n12 : n ≤ 12
  right : ∀ x ∈ es, Right n x
  asc : es.Pairwise ltE
theorem gcheck_ok {n : Int} {es : List Ed} (h : gcheck n es = 0) : GoodG n es := by
  unfold gcheck at h
  split at h
  · cases h
  · obtain ⟨h1, h2, _⟩ := gloop_ok h
    exact ⟨by omega, by omega, h1, h2⟩
theorem betw_none {es : List Ed} {lo hi : Int} (h : ∀ x ∈ es, ¬ (x.a = lo ∧ x.b = hi)) : betw es lo hi = 0 := by
  induction es with
  | nil => rfl
  | cons x es ih =>
    unfold betw
    rw [if_neg (h x (by simp))]
    exact ih fun y hy => h y (by simp [hy])
theorem betw_cons {x : Ed} {es : List Ed} (h : (x :: es).Pairwise ltE) (lo hi : Int) : betw (x :: es) lo hi = (if x.a = lo ∧ x.b = hi then x.m else 0) + betw es lo hi := by
  have hp := (List.pairwise_cons.1 h).1
  show (if x.a = lo ∧ x.b = hi then x.m else betw es lo hi) = _
  split
  · rename_i hx
    rw [betw_none (fun y hy => by have := hp y hy; unfold ltE at this; omega)]; omega
  · omega
theorem betw_bd {n : Int} {es : List Ed} (h : ∀ x ∈ es, Right n x) (lo hi : Int) : 0 ≤ betw es lo hi ∧ betw es lo hi ≤ 50 := by
  induction es with
  | nil => simp [betw]
  | cons x es ih =>
    unfold betw
    have := h x (by simp)
    split
    · exact ⟨by have := this.m1; omega, this.m50⟩
    · exact ih fun y hy => h y (by simp [hy])
end Sand
end Go
/-
  Plain definitions and laws: graphs, divisors, firing. No program.
-/
namespace Go
namespace Sand
/-- The ends of the single edges. -/
def endsL (es : List Ed) : List (Int × Int) := es.flatMap fun x => List.replicate x.m.toNat (x.a, x.b)
theorem endsL_snoc (es : List Ed) (k : Nat) (h : k < es.length) : endsL (es.take (k + 1)) = endsL (es.take k) ++ List.replicate es[k].m.toNat (es[k].a, es[k].b) := by
  unfold endsL
  rw [List.take_succ_eq_append_getElem h, List.flatMap_append]
  simp
theorem endsL_len {n : Int} {es : List Ed} (h : ∀ x ∈ es, Right n x) : (endsL es).length ≤ 50 * es.length := by
  induction es with
  | nil => simp [endsL]
  | cons x es ih =>
    have := (h x (by simp)).m50
    have := ih fun y hy => h y (by simp [hy])
    simp only [endsL, List.flatMap_cons, List.length_append, List.length_replicate, List.length_cons] at *
    omega
def bndE (xs : List Int) : Int := if xs.all inB then 0 else 11
def resE (e : Int) (m : List Int) : Int := if e ≠ 0 then e else bndE m
def resL (e : Int) (m : List Int) : List Int := if e = 0 ∧ m.all inB = true then m else []
theorem res_ok {m : List Int} : resE 0 m = bndE m := by rw [resE, if_neg (by simp)]
/-- Is a graph small? -/
def smallG (N : Int) (es : List Ed) (nv ne : Int) : Bool := decide (es.length ≤ 40) && (decide (gcheck N es ≠ 0) || (decide (N ≤ nv) && decide (((endsL es).length : Int) ≤ ne)))
theorem getD_get {s : List Int} {k : Nat} (h : k < s.length) : s.getD k 0 = s[k] := by
  rw [List.getD_eq_getElem?_getD, List.getElem?_eq_getElem h]; rfl
end Sand
end Go
/-
  Plain laws: what a script changes is linear. No program.
-/
namespace Go
namespace Sand
end Sand
end Go
/-
  Plain laws: what a script changes keeps the degree. No program.
-/
namespace Go
namespace Sand
end Sand
end Go
end
section
set_option linter.unusedVariables false
namespace Go.Sand
/-- Tail and head of a single edge. -/
def arw (p : Int × Int) (d : Bool) : Int × Int := if d then p else (p.2, p.1)
/-- The tails and heads of all single edges. -/
def arwsL (es : List Ed) (o : List Bool) : List (Int × Int) := ((endsL es).zip o).map fun x => arw x.1 x.2
theorem arwsL_len {es : List Ed} {o : List Bool} (h : o.length = (endsL es).length) : (arwsL es o).length = (endsL es).length := by simp [arwsL, h]
theorem arwsL_at {es : List Ed} {o : List Bool} (h : o.length = (endsL es).length) (k : Nat) (hk : k < (endsL es).length) : (arwsL es o)[k]'(by rw [arwsL_len h]; exact hk) = arw (endsL es)[k] (o[k]'(by omega)) := by simp [arwsL]
theorem endsL_mem {n : Int} {es : List Ed} (h : ∀ x ∈ es, Right n x) : ∀ p ∈ endsL es, 0 ≤ p.1 ∧ p.1 ≤ p.2 ∧ p.2 < n := by
  intro p hp
  obtain ⟨x, hx, hp⟩ := List.mem_flatMap.1 hp
  obtain ⟨_, rfl⟩ := List.mem_replicate.1 hp
  have := h x hx
  exact ⟨by have := this.a0; omega, by have := this.ab; omega, by have := this.bn; omega⟩
theorem arw_mem {n : Int} {es : List Ed} (h : ∀ x ∈ es, Right n x) {o : List Bool} : ∀ p ∈ arwsL es o, (0 ≤ p.1 ∧ p.1 < n) ∧ 0 ≤ p.2 ∧ p.2 < n := by
  intro p hp
  obtain ⟨x, hx, rfl⟩ := List.mem_map.1 hp
  have h1 := endsL_mem h x.1 (List.of_mem_zip hx).1
  unfold arw
  split
  · omega
  · dsimp only; omega
/-- One more at a place. -/
def bumpL (c : Int) (l : List Int) (v : Int) : List Int := l.set v.toNat (l.getD v.toNat 0 + c)
/-- How many of some places are each vertex. -/
def degL (n : Nat) (vs : List Int) : List Int := vs.foldl (bumpL 1) (List.replicate n 0)
theorem bumpL_len (c : Int) (l : List Int) (v : Int) : (bumpL c l v).length = l.length := by simp [bumpL]
theorem degL_snoc (n : Nat) (vs : List Int) (v : Int) : degL n (vs ++ [v]) = bumpL 1 (degL n vs) v := by unfold degL; rw [List.foldl_append]; rfl
theorem foldl_bump_len (vs : List Int) : ∀ l : List Int, (vs.foldl (bumpL 1) l).length = l.length := by
  induction vs with
  | nil => intro l; rfl
  | cons v vs ih => intro l; rw [List.foldl_cons, ih, bumpL_len]
theorem degL_len (n : Nat) (vs : List Int) : (degL n vs).length = n := by unfold degL; rw [foldl_bump_len]; simp
theorem foldl_bump_get (vs : List Int) : ∀ (l : List Int) (v : Nat), v < l.length → (∀ u ∈ vs, 0 ≤ u) → (vs.foldl (bumpL 1) l).getD v 0 = l.getD v 0 + (vs.count (v : Int) : Nat) := by
  induction vs with
  | nil => intro l v hv _; simp
  | cons u vs ih =>
    intro l v hv hu
    rw [List.foldl_cons, ih _ v (by rw [bumpL_len]; exact hv) (fun x hx => hu x (by simp [hx])), bumpL, getD_set, List.count_cons]
    have h0 := hu u (by simp)
    by_cases e : u = (v : Int)
    · subst e
      simp [hv]; omega
    · rw [if_neg (by omega)]
      simp [e]
theorem degL_get {n : Nat} {vs : List Int} (h : ∀ u ∈ vs, 0 ≤ u) (v : Nat) (hv : v < n) : (degL n vs).getD v 0 = (vs.count (v : Int) : Nat) := by
  unfold degL
  rw [foldl_bump_get vs _ v (by simpa using hv) h]
  simp [List.getD, hv]
/-- All heads. -/
def hdsL (es : List Ed) (o : List Bool) : List Int := (arwsL es o).map (·.2)
theorem hdsL_len (es : List Ed) (o : List Bool) : (hdsL es o).length = (arwsL es o).length := by simp [hdsL]
theorem hdsL_at {es : List Ed} {o : List Bool} {k : Nat} (h : k < (hdsL es o).length) : (hdsL es o)[k] = ((arwsL es o)[k]'(by rw [← hdsL_len]; exact h)).2 := by simp [hdsL]
theorem hdsL_mem {n : Int} {es : List Ed} (h : ∀ x ∈ es, Right n x) {o : List Bool} : ∀ v ∈ hdsL es o, 0 ≤ v ∧ v < n := by
  intro v hv
  obtain ⟨p, hp, rfl⟩ := List.mem_map.1 hv
  exact (arw_mem h p hp).2
theorem degL_take {n : Nat} {vs : List Int} {k : Nat} (h : k < vs.length) : degL n (vs.take (k + 1)) = bumpL 1 (degL n (vs.take k)) vs[k] := by
  rw [List.take_succ_eq_append_getElem h, degL_snoc]
/-- The indegrees. -/
def inL (n : Nat) (es : List Ed) (o : List Bool) : List Int := degL n (hdsL es o)
theorem inL_len (n : Nat) (es : List Ed) (o : List Bool) : (inL n es o).length = n := degL_len _ _
/-- The errors of an orientation. -/
def oE (N : Int) (es : List Ed) (o : List Bool) : Int := if gcheck N es ≠ 0 then gcheck N es else if o.length ≠ (endsL es).length then 8 else 0
theorem oE_ok {N : Int} {es : List Ed} {o : List Bool} (h : oE N es o = 0) : gcheck N es = 0 ∧ o.length = (endsL es).length := by
  unfold oE at h
  split at h
  · rename_i h1; exact absurd h h1
  · rename_i h1
    split at h
    · cases h
    · rename_i h2; exact ⟨by simpa using h1, by simpa using h2⟩
end Go.Sand
end
