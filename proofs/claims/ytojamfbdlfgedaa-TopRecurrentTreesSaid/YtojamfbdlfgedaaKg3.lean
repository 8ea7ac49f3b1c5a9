/-
  Texts joined: Mla.
-/
import Derived.Test.YtojamfbdlfgedaaKg2

section
namespace Go
namespace Sand
def flow (s : List Int) (x : Ed) : Int := x.m * (s.getD x.a.toNat 0 - s.getD x.b.toNat 0)
def movE (s : List Int) (x : Ed) (d : List Int) : List Int :=
  (d.set x.a.toNat (d.getD x.a.toNat 0 - flow s x)).set x.b.toNat ((d.set x.a.toNat (d.getD x.a.toNat 0 - flow s x)).getD x.b.toNat 0 + flow s x)
def movedE (es : List Ed) (s d : List Int) : List Int := es.foldl (fun d x => movE s x d) d
def Bd (B : Int) (d : List Int) : Prop := ∀ i, -B ≤ d.getD i 0 ∧ d.getD i 0 ≤ B
theorem getD_set (d : List Int) (i j : Nat) (u : Int) : (d.set i u).getD j 0 = if i = j ∧ i < d.length then u else d.getD j 0 := by
  simp only [List.getD_eq_getElem?_getD, List.getElem?_set]
  by_cases h : i = j
  · subst h
    by_cases h2 : i < d.length
    · simp [h2]
    · simp [h2]
  · simp [h]
theorem Bd.set {B : Int} {d : List Int} (h : Bd B d) (i : Nat) {u : Int} (hu : -B ≤ u ∧ u ≤ B) : Bd B (d.set i u) := fun j => by
  rw [getD_set]; split
  · exact hu
  · exact h j
theorem Bd.more {B B' : Int} {d : List Int} (h : Bd B d) (hB : B ≤ B') : Bd B' d := fun i => by have := h i; omega
theorem flow_bd {s : List Int} (hs : Bd 1048576 s) {x : Ed} (h1 : 0 ≤ x.m) (h2 : x.m ≤ 50) : -104857600 ≤ flow s x ∧ flow s x ≤ 104857600 := by
  have a := hs x.a.toNat
  have b := hs x.b.toNat
  unfold flow
  have ht : -2097152 ≤ s.getD x.a.toNat 0 - s.getD x.b.toNat 0 ∧ s.getD x.a.toNat 0 - s.getD x.b.toNat 0 ≤ 2097152 := by omega
  generalize s.getD x.a.toNat 0 - s.getD x.b.toNat 0 = t at *
  have e1 := Int.mul_le_mul_of_nonneg_left ht.2 h1
  have e2 := Int.mul_le_mul_of_nonneg_left ht.1 h1
  omega
theorem Bd.movE {B : Int} {s d : List Int} (hd : Bd B d) (hs : Bd 1048576 s) {x : Ed} (h1 : 0 ≤ x.m) (h2 : x.m ≤ 50) : Bd (B + 209715200) (movE s x d) := by
  have hf := flow_bd hs h1 h2
  have h3 : Bd (B + 104857600) (d.set x.a.toNat (d.getD x.a.toNat 0 - flow s x)) := (hd.more (by omega)).set _ (by have := hd x.a.toNat; omega)
  exact (h3.more (by omega)).set _ (by have := h3 x.b.toNat; omega)
theorem ext_getD {a b : List Int} (hl : a.length = b.length) (h : ∀ i, i < a.length → a.getD i 0 = b.getD i 0) : a = b := by
  refine List.ext_getElem hl fun i h1 h2 => ?_
  have := h i h1
  simpa [List.getD_eq_getElem?_getD, h1, h2] using this
structure Right (n : Int) (x : Ed) : Prop where
  a0 : 0 ≤ x.a
  an : x.a < n
  b0 : 0 ≤ x.b
  bn : x.b < n
  ab : x.a ≤ x.b
  m1 : 1 ≤ x.m
  m50 : x.m ≤ 50
def ltE (x y : Ed) : Prop := x.a < y.a ∨ x.a = y.a ∧ x.b < y.b
theorem edgeErr_ok {n la lb : Int} {x : Ed} (h : edgeErr n la lb x = 0) : Right n x ∧ (la < x.a ∨ la = x.a ∧ lb < x.b) := by
  unfold edgeErr at h
  split at h
  · cases h
  · rename_i h1
    split at h
    · cases h
    · rename_i h2
      simp only [not_or] at h1 h2
      obtain ⟨g1, g2, g3, g4⟩ := h1
      obtain ⟨g5, g6⟩ := h2
      have e1 := vtx_iff.1 (by simpa using g1 : vtx n x.a = true)
      have e2 := vtx_iff.1 (by simpa using g2 : vtx n x.b = true)
      refine ⟨⟨by omega, by omega, by omega, by omega, by omega, by omega, by omega⟩, ?_⟩
      unfold behind at g6
      simp only [Bool.not_eq_false] at g6
      exact of_decide_eq_true g6
theorem gloop_ok {n : Int} : ∀ {es : List Ed} {la lb : Int}, gloop n es la lb = 0 → (∀ x ∈ es, Right n x) ∧ es.Pairwise ltE ∧ ∀ x ∈ es, la < x.a ∨ la = x.a ∧ lb < x.b
  | [], _, _, _ => ⟨by simp, List.Pairwise.nil, by simp⟩
  | x :: es, la, lb, h => by
    unfold gloop at h
    split at h
    · rename_i h1; exact absurd h h1
    · rename_i h1
      obtain ⟨r, hb⟩ := edgeErr_ok (by simpa using h1 : edgeErr n la lb x = 0)
      obtain ⟨h2, h3, h4⟩ := gloop_ok h
      refine ⟨?_, List.pairwise_cons.2 ⟨fun y hy => h4 y hy, h3⟩, ?_⟩
      · intro y hy
        rcases List.mem_cons.1 hy with rfl | hy
        · exact r
        · exact h2 y hy
      · intro y hy
        rcases List.mem_cons.1 hy with rfl | hy
        · exact hb
        · have := h4 y hy; omega
structure GoodG (n : Int) (es : List Ed) : Prop where
  n1 : 1 ≤ n
  n12 : n ≤ 12
  right : ∀ x ∈ es, Right n x
  asc : es.Pairwise ltE
theorem gcheck_ok {n : Int} {es : List Ed} (h : gcheck n es = 0) : GoodG n es := by
  unfold gcheck at h
  split at h
  · cases h
  · obtain ⟨h1, h2, _⟩ := gloop_ok h
    exact ⟨by omega, by omega, h1, h2⟩
theorem betw_none {es : List Ed} {lo hi : Int} (h : ∀ x ∈ es, ¬ (x.a = lo ∧ x.b = hi)) : betw es lo hi = 0 := by
  induction es with
  | nil => rfl
  | cons x es ih =>
    unfold betw
    rw [if_neg (h x (by simp))]
    exact ih fun y hy => h y (by simp [hy])
theorem betw_cons {x : Ed} {es : List Ed} (h : (x :: es).Pairwise ltE) (lo hi : Int) : betw (x :: es) lo hi = (if x.a = lo ∧ x.b = hi then x.m else 0) + betw es lo hi := by
  have hp := (List.pairwise_cons.1 h).1
  show (if x.a = lo ∧ x.b = hi then x.m else betw es lo hi) = _
  split
  · rename_i hx
    rw [betw_none (fun y hy => by have := hp y hy; unfold ltE at this; omega)]; omega
  · omega
theorem betw_bd {n : Int} {es : List Ed} (h : ∀ x ∈ es, Right n x) (lo hi : Int) : 0 ≤ betw es lo hi ∧ betw es lo hi ≤ 50 := by
  induction es with
  | nil => simp [betw]
  | cons x es ih =>
    unfold betw
    have := h x (by simp)
    split
    · exact ⟨by have := this.m1; omega, this.m50⟩
    · exact ih fun y hy => h y (by simp [hy])
end Sand
end Go
/-
  Plain definitions and laws: graphs, divisors, firing. No program.
-/
namespace Go
namespace Sand
/-- The ends of the single edges. -/
def endsL (es : List Ed) : List (Int × Int) := es.flatMap fun x => List.replicate x.m.toNat (x.a, x.b)
theorem endsL_snoc (es : List Ed) (k : Nat) (h : k < es.length) : endsL (es.take (k + 1)) = endsL (es.take k) ++ List.replicate es[k].m.toNat (es[k].a, es[k].b) := by
  unfold endsL
  rw [List.take_succ_eq_append_getElem h, List.flatMap_append]
  simp
theorem endsL_len {n : Int} {es : List Ed} (h : ∀ x ∈ es, Right n x) : (endsL es).length ≤ 50 * es.length := by
  induction es with
  | nil => simp [endsL]
  | cons x es ih =>
    have := (h x (by simp)).m50
    have := ih fun y hy => h y (by simp [hy])
    simp only [endsL, List.flatMap_cons, List.length_append, List.length_replicate, List.length_cons] at *
    omega
def bndE (xs : List Int) : Int := if xs.all inB then 0 else 11
def resE (e : Int) (m : List Int) : Int := if e ≠ 0 then e else bndE m
def resL (e : Int) (m : List Int) : List Int := if e = 0 ∧ m.all inB = true then m else []
theorem res_ok {m : List Int} : resE 0 m = bndE m := by rw [resE, if_neg (by simp)]
/-- Is a graph small? -/
def smallG (N : Int) (es : List Ed) (nv ne : Int) : Bool := decide (es.length ≤ 40) && (decide (gcheck N es ≠ 0) || (decide (N ≤ nv) && decide (((endsL es).length : Int) ≤ ne)))
def val1 (v : Int) (x : Ed) : Int := if x.a ≠ x.b ∧ (x.a = v ∨ x.b = v) then x.m else 0
def valS (es : List Ed) (v : Int) : Int := sumI (es.map (val1 v))
theorem valS_snoc (es : List Ed) (v : Int) (k : Nat) (h : k < es.length) : valS (es.take (k + 1)) v = valS (es.take k) v + val1 v es[k] := by
  unfold valS
  rw [List.take_succ_eq_append_getElem h, List.map_append, sumI_append]
  simp [sumI]
theorem valTo_one (x : Ed) (hx : 0 ≤ x.a ∧ x.a ≤ x.b) (v : Int) (u : Nat) :
    valTo [x] v u = if x.a ≠ x.b ∧ (x.a = v ∧ x.b < u ∨ x.b = v ∧ x.a < u) then x.m else 0 := by
  induction u with
  | zero => simp only [valTo]; rw [if_neg (by omega)]
  | succ u ih =>
    simp only [valTo, ih, betw]
    by_cases huv : (u : Int) = v
    · rw [if_pos huv]
      have e1 : (x.a ≠ x.b ∧ (x.a = v ∧ x.b < u ∨ x.b = v ∧ x.a < u)) ↔ (x.a ≠ x.b ∧ (x.a = v ∧ x.b < ((u + 1 : Nat) : Int) ∨ x.b = v ∧ x.a < ((u + 1 : Nat) : Int))) := by omega
      simp only [e1]; omega
    · rw [if_neg huv]
      by_cases h1 : x.a = min (u : Int) v ∧ x.b = max (u : Int) v
      · rw [if_pos h1, if_neg (by omega), if_pos (by omega)]; omega
      · rw [if_neg h1]
        have e1 : (x.a ≠ x.b ∧ (x.a = v ∧ x.b < u ∨ x.b = v ∧ x.a < u)) ↔ (x.a ≠ x.b ∧ (x.a = v ∧ x.b < ((u + 1 : Nat) : Int) ∨ x.b = v ∧ x.a < ((u + 1 : Nat) : Int))) := by omega
        simp only [e1]; omega
theorem valTo_cons {x : Ed} {es : List Ed} (h : (x :: es).Pairwise ltE) (v : Int) (u : Nat) : valTo (x :: es) v u = valTo [x] v u + valTo es v u := by
  induction u with
  | zero => simp [valTo]
  | succ u ih =>
    simp only [valTo, ih]
    split
    · omega
    · rw [betw_cons h, betw_cons (es := []) (by simp)]
      simp only [betw]; omega
theorem valTo_all {n : Nat} {es : List Ed} (h : ∀ x ∈ es, Right n x) (hp : es.Pairwise ltE) (v : Int) (hv : 0 ≤ v ∧ v < n) : valTo es v n = valS es v := by
  induction es with
  | nil =>
    have : ∀ u, valTo [] v u = 0 := by
      intro u
      induction u with
      | zero => rfl
      | succ u ih => simp only [valTo, ih, betw]; split <;> rfl
    rw [this]; rfl
  | cons x es ih =>
    rw [valTo_cons hp, ih (fun y hy => h y (by simp [hy])) (List.pairwise_cons.1 hp).2]
    obtain ⟨r1, r2, r3, r4, r5, r6, r7⟩ := h x (by simp)
    rw [valTo_one x (by omega) v]
    show _ = sumI (val1 v x :: es.map (val1 v))
    have e1 : (x.a ≠ x.b ∧ (x.a = v ∧ x.b < n ∨ x.b = v ∧ x.a < n)) ↔ (x.a ≠ x.b ∧ (x.a = v ∨ x.b = v)) := by omega
    simp only [sumI, val1, e1, valS]
theorem valS_bd {n : Int} {es : List Ed} (h : ∀ x ∈ es, Right n x) (v : Int) : 0 ≤ valS es v ∧ valS es v ≤ 50 * es.length := by
  induction es with
  | nil => simp [valS, sumI]
  | cons x es ih =>
    have := ih fun y hy => h y (by simp [hy])
    have r := h x (by simp)
    have r1 := r.m1
    have r2 := r.m50
    have h1 : 0 ≤ val1 v x ∧ val1 v x ≤ 50 := by unfold val1; split <;> omega
    have e1 : valS (x :: es) v = val1 v x + valS es v := by simp [valS, sumI]
    rw [e1]; simp only [List.length_cons]; omega
def atE (N : Int) (vs : List Int) : Int := if vs.all (vtx N) = true then 0 else 2
theorem getD_get {s : List Int} {k : Nat} (h : k < s.length) : s.getD k 0 = s[k] := by
  rw [List.getD_eq_getElem?_getD, List.getElem?_eq_getElem h]; rfl
end Sand
end Go
/-
  Plain laws: what a script changes is linear. No program.
-/
namespace Go
namespace Sand
end Sand
end Go
/-
  Plain laws: what a script changes keeps the degree. No program.
-/
namespace Go
namespace Sand
end Sand
end Go
end
