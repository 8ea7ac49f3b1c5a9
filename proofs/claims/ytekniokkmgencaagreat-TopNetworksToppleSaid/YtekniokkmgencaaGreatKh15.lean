/-
  Texts joined: Mla.
-/
import Derived.Test.YtekniokkmgencaaGreatKh14

section
namespace Go
namespace Sand
def flow (s : List Int) (x : Ed) : Int := x.m * (s.getD x.a.toNat 0 - s.getD x.b.toNat 0)
def movE (s : List Int) (x : Ed) (d : List Int) : List Int :=
  (d.set x.a.toNat (d.getD x.a.toNat 0 - flow s x)).set x.b.toNat ((d.set x.a.toNat (d.getD x.a.toNat 0 - flow s x)).getD x.b.toNat 0 + flow s x)
def movedE (es : List Ed) (s d : List Int) : List Int := es.foldl (fun d x => movE s x d) d
theorem movE_length (s : List Int) (x : Ed) (d : List Int) : (movE s x d).length = d.length := by simp [movE]
theorem movedE_length (es : List Ed) (s d : List Int) : (movedE es s d).length = d.length := by
  unfold movedE
  induction es generalizing d with
  | nil => rfl
  | cons x es ih => rw [List.foldl_cons, ih, movE_length]
def Bd (B : Int) (d : List Int) : Prop := ∀ i, -B ≤ d.getD i 0 ∧ d.getD i 0 ≤ B
theorem getD_set (d : List Int) (i j : Nat) (u : Int) : (d.set i u).getD j 0 = if i = j ∧ i < d.length then u else d.getD j 0 := by
  simp only [List.getD_eq_getElem?_getD, List.getElem?_set]
  by_cases h : i = j
  · subst h
    by_cases h2 : i < d.length
    · simp [h2]
    · simp [h2]
  · simp [h]
theorem Bd.set {B : Int} {d : List Int} (h : Bd B d) (i : Nat) {u : Int} (hu : -B ≤ u ∧ u ≤ B) : Bd B (d.set i u) := fun j => by
  rw [getD_set]; split
  · exact hu
  · exact h j
theorem Bd.more {B B' : Int} {d : List Int} (h : Bd B d) (hB : B ≤ B') : Bd B' d := fun i => by have := h i; omega
theorem flow_bd {s : List Int} (hs : Bd 1048576 s) {x : Ed} (h1 : 0 ≤ x.m) (h2 : x.m ≤ 50) : -104857600 ≤ flow s x ∧ flow s x ≤ 104857600 := by
  have a := hs x.a.toNat
  have b := hs x.b.toNat
  unfold flow
  have ht : -2097152 ≤ s.getD x.a.toNat 0 - s.getD x.b.toNat 0 ∧ s.getD x.a.toNat 0 - s.getD x.b.toNat 0 ≤ 2097152 := by omega
  generalize s.getD x.a.toNat 0 - s.getD x.b.toNat 0 = t at *
  have e1 := Int.mul_le_mul_of_nonneg_left ht.2 h1
  have e2 := Int.mul_le_mul_of_nonneg_left ht.1 h1
  omega
theorem Bd.movE {B : Int} {s d : List Int} (hd : Bd B d) (hs : Bd 1048576 s) {x : Ed} (h1 : 0 ≤ x.m) (h2 : x.m ≤ 50) : Bd (B + 209715200) (movE s x d) := by
  have hf := flow_bd hs h1 h2
  have h3 : Bd (B + 104857600) (d.set x.a.toNat (d.getD x.a.toNat 0 - flow s x)) := (hd.more (by omega)).set _ (by have := hd x.a.toNat; omega)
  exact (h3.more (by omega)).set _ (by have := h3 x.b.toNat; omega)
def rowTo (es : List Ed) (s : List Int) (v : Nat) : Nat → Int
  | 0 => 0
  | u + 1 => rowTo es s v u + if u = v then 0 else betw es (min v u) (max v u) * (s.getD u 0 - s.getD v 0)
theorem ext_getD {a b : List Int} (hl : a.length = b.length) (h : ∀ i, i < a.length → a.getD i 0 = b.getD i 0) : a = b := by
  refine List.ext_getElem hl fun i h1 h2 => ?_
  have := h i h1
  simpa [List.getD_eq_getElem?_getD, h1, h2] using this
structure Right (n : Int) (x : Ed) : Prop where
  a0 : 0 ≤ x.a
  an : x.a < n
  b0 : 0 ≤ x.b
  bn : x.b < n
  ab : x.a ≤ x.b
  m1 : 1 ≤ x.m
  m50 : x.m ≤ 50
def ltE (x y : Ed) : Prop := x.a < y.a ∨ x.a = y.a ∧ x.b < y.b
theorem edgeErr_ok {n la lb : Int} {x : Ed} (h : edgeErr n la lb x = 0) : Right n x ∧ (la < x.a ∨ la = x.a ∧ lb < x.b) := by
  unfold edgeErr at h
  split at h
  · cases h
  · rename_i h1
    split at h
    · cases h
    · rename_i h2
      simp only [not_or] at h1 h2
      obtain ⟨g1, g2, g3, g4⟩ := h1
      obtain ⟨g5, g6⟩ := h2
      have e1 := vtx_iff.1 (by simpa using g1 : vtx n x.a = true)
      have e2 := vtx_iff.1 (by simpa using g2 : vtx n x.b = true)
      refine ⟨⟨by omega, by omega, by omega, by omega, by omega, by omega, by omega⟩, ?_⟩
      unfold behind at g6
      simp only [Bool.not_eq_false] at g6
      exact of_decide_eq_true g6
theorem gloop_ok {n : Int} : ∀ {es : List Ed} {la lb : Int}, gloop n es la lb = 0 → (∀ x ∈ es, Right n x) ∧ es.Pairwise ltE ∧ ∀ x ∈ es, la < x.a ∨ la = x.a ∧ lb < x.b
  | [], _, _, _ => ⟨by simp, List.Pairwise.nil, by simp⟩
  | x :: es, la, lb, h => by
    unfold gloop at h
    split at h
    · rename_i h1; exact absurd h h1
    · rename_i h1
      obtain ⟨r, hb⟩ := edgeErr_ok (by simpa using h1 : edgeErr n la lb x = 0)
      obtain ⟨h2, h3, h4⟩ := gloop_ok h
      refine ⟨?_, List.pairwise_cons.2 ⟨fun y hy => h4 y hy, h3⟩, ?_⟩
      · intro y hy
        rcases List.mem_cons.1 hy with rfl | hy
        · exact r
        · exact h2 y hy
      · intro y hy
        rcases List.mem_cons.1 hy with rfl | hy
        · exact hb
        · have := h4 y hy; omega
structure GoodG (n : Int) (es : List Ed) : Prop where
  n1 : 1 ≤ n
  n12 : n ≤ 12
  right : ∀ x ∈ es, Right n x
  asc : es.Pairwise ltE
theorem gcheck_ok {n : Int} {es : List Ed} (h : gcheck n es = 0) : GoodG n es := by
  unfold gcheck at h
  split at h
  · cases h
  · obtain ⟨h1, h2, _⟩ := gloop_ok h
    exact ⟨by omega, by omega, h1, h2⟩
theorem betw_none {es : List Ed} {lo hi : Int} (h : ∀ x ∈ es, ¬ (x.a = lo ∧ x.b = hi)) : betw es lo hi = 0 := by
  induction es with
  | nil => rfl
  | cons x es ih =>
    unfold betw
    rw [if_neg (h x (by simp))]
    exact ih fun y hy => h y (by simp [hy])
theorem betw_cons {x : Ed} {es : List Ed} (h : (x :: es).Pairwise ltE) (lo hi : Int) : betw (x :: es) lo hi = (if x.a = lo ∧ x.b = hi then x.m else 0) + betw es lo hi := by
  have hp := (List.pairwise_cons.1 h).1
  show (if x.a = lo ∧ x.b = hi then x.m else betw es lo hi) = _
  split
  · rename_i hx
    rw [betw_none (fun y hy => by have := hp y hy; unfold ltE at this; omega)]; omega
  · omega
theorem betw_bd {n : Int} {es : List Ed} (h : ∀ x ∈ es, Right n x) (lo hi : Int) : 0 ≤ betw es lo hi ∧ betw es lo hi ≤ 50 := by
  induction es with
  | nil => simp [betw]
  | cons x es ih =>
    unfold betw
    have := h x (by simp)
    split
    · exact ⟨by have := this.m1; omega, this.m50⟩
    · exact ih fun y hy => h y (by simp [hy])
def gives (s : List Int) (v : Nat) (x : Ed) : Int := (if x.b = v then flow s x else 0) - (if x.a = v then flow s x else 0)
theorem rowTo_one (s : List Int) (v : Nat) (x : Ed) (hx : 0 ≤ x.a ∧ x.a ≤ x.b) (u : Nat) :
    rowTo [x] s v u = (if x.b = v ∧ x.a < u ∧ x.a ≠ x.b then flow s x else 0) - (if x.a = v ∧ x.b < u ∧ x.a ≠ x.b then flow s x else 0) := by
  induction u with
  | zero => simp [rowTo]; rw [if_neg (by omega), if_neg (by omega)]; rfl
  | succ u ih =>
    simp only [rowTo, ih, betw]
    by_cases huv : u = v
    · rw [if_pos huv]
      have e1 : (x.b = v ∧ x.a < u ∧ x.a ≠ x.b) ↔ (x.b = v ∧ x.a < ((u + 1 : Nat) : Int) ∧ x.a ≠ x.b) := by omega
      have e2 : (x.a = v ∧ x.b < u ∧ x.a ≠ x.b) ↔ (x.a = v ∧ x.b < ((u + 1 : Nat) : Int) ∧ x.a ≠ x.b) := by omega
      simp only [e1, e2]; omega
    · rw [if_neg huv]
      by_cases hlt : u < v
      · rw [show min (v : Int) (u : Int) = u by omega, show max (v : Int) (u : Int) = v by omega]
        by_cases h1 : x.a = u ∧ x.b = v
        · rw [if_pos h1, if_neg (by omega), if_neg (by omega), if_pos (by omega), if_neg (by omega)]
          have ea : x.a.toNat = u := by omega
          have eb : x.b.toNat = v := by omega
          unfold flow; rw [ea, eb]; omega
        · rw [if_neg h1]
          have e1 : (x.b = v ∧ x.a < u ∧ x.a ≠ x.b) ↔ (x.b = v ∧ x.a < ((u + 1 : Nat) : Int) ∧ x.a ≠ x.b) := by omega
          have e2 : (x.a = v ∧ x.b < u ∧ x.a ≠ x.b) ↔ (x.a = v ∧ x.b < ((u + 1 : Nat) : Int) ∧ x.a ≠ x.b) := by omega
          simp only [e1, e2]; omega
      · rw [show min (v : Int) (u : Int) = v by omega, show max (v : Int) (u : Int) = u by omega]
        by_cases h1 : x.a = v ∧ x.b = u
        · rw [if_pos h1, if_neg (by omega), if_neg (by omega), if_neg (by omega), if_pos (by omega)]
          have ea : x.a.toNat = v := by omega
          have eb : x.b.toNat = u := by omega
          unfold flow
          rw [ea, eb]
          have := Int.mul_neg x.m (s.getD v 0 - s.getD u 0)
          rw [show s.getD u 0 - s.getD v 0 = -(s.getD v 0 - s.getD u 0) by omega, this]; omega
        · rw [if_neg h1]
          have e1 : (x.b = v ∧ x.a < u ∧ x.a ≠ x.b) ↔ (x.b = v ∧ x.a < ((u + 1 : Nat) : Int) ∧ x.a ≠ x.b) := by omega
          have e2 : (x.a = v ∧ x.b < u ∧ x.a ≠ x.b) ↔ (x.a = v ∧ x.b < ((u + 1 : Nat) : Int) ∧ x.a ≠ x.b) := by omega
          simp only [e1, e2]; omega
theorem rowTo_cons {x : Ed} {es : List Ed} (h : (x :: es).Pairwise ltE) (s : List Int) (v u : Nat) : rowTo (x :: es) s v u = rowTo [x] s v u + rowTo es s v u := by
  induction u with
  | zero => simp [rowTo]
  | succ u ih =>
    simp only [rowTo, ih]
    split
    · omega
    · rw [betw_cons h, betw_cons (es := []) (by simp) , Int.add_mul, Int.add_mul]
      simp only [betw, Int.zero_mul]; omega
theorem rowTo_all {n : Nat} {es : List Ed} (h : ∀ x ∈ es, Right n x) (hp : es.Pairwise ltE) (s : List Int) (v : Nat) : rowTo es s v n = sumI (es.map (gives s v)) := by
  induction es with
  | nil =>
    have : ∀ u, rowTo [] s v u = 0 := by
      intro u
      induction u with
      | zero => rfl
      | succ u ih => simp [rowTo, ih, betw]
    rw [this]; rfl
  | cons x es ih =>
    rw [rowTo_cons hp, ih (fun y hy => h y (by simp [hy])) (List.pairwise_cons.1 hp).2, List.map_cons, sumI]
    have r := h x (by simp)
    have := r.an; have := r.bn; have := r.ab; have := r.a0
    rw [rowTo_one s v x ⟨r.a0, r.ab⟩]
    unfold gives
    by_cases hab : x.a = x.b
    · have hf : flow s x = 0 := by unfold flow; rw [hab]; simp
      rw [hf]; simp
    · by_cases h1 : x.b = v
      · by_cases h2 : x.a = v
        · omega
        · rw [if_pos (by omega), if_neg (by omega), if_pos h1, if_neg h2]
      · by_cases h2 : x.a = v
        · rw [if_neg (by omega), if_pos (by omega), if_neg h1, if_pos h2]
        · rw [if_neg (by omega), if_neg (by omega), if_neg h1, if_neg h2]
theorem movE_getD (s : List Int) (x : Ed) (d : List Int) {n : Nat} (r : Right n x) (hl : d.length = n) (v : Nat) : (movE s x d).getD v 0 = d.getD v 0 + gives s v x := by
  have := r.an; have := r.bn; have := r.ab; have := r.a0; have := r.b0
  obtain ⟨p, hp⟩ : ∃ p : Nat, x.a = p := ⟨x.a.toNat, by omega⟩
  obtain ⟨q, hq⟩ : ∃ q : Nat, x.b = q := ⟨x.b.toNat, by omega⟩
  have ea : x.a.toNat = p := by omega
  have eb : x.b.toNat = q := by omega
  have hpn : p < n := by omega
  have hqn : q < n := by omega
  unfold movE gives
  rw [getD_set, getD_set, getD_set, List.length_set, hl, ea, eb]
  generalize flow s x = f
  have c1 : (x.b = (v : Int)) ↔ q = v := by omega
  have c2 : (x.a = (v : Int)) ↔ p = v := by omega
  simp only [c1, c2, hpn, hqn, and_true]
  by_cases h1 : q = v
  · by_cases h2 : p = v
    · have h3 : p = q := by omega
      simp only [h1, h2, if_true]; omega
    · have h3 : ¬ p = q := by omega
      simp only [h1, h2, if_true, if_false]; omega
  · by_cases h2 : p = v
    · simp only [h1, h2, if_true, if_false]; omega
    · simp only [h1, h2, if_false]; omega
theorem movedE_getD (es : List Ed) (s : List Int) {n : Nat} (h : ∀ x ∈ es, Right n x) (v : Nat) : ∀ (d : List Int), d.length = n → (movedE es s d).getD v 0 = d.getD v 0 + sumI (es.map (gives s v)) := by
  induction es with
  | nil => intro d _; simp [movedE, sumI]
  | cons x es ih =>
    intro d hl
    show (movedE es s (movE s x d)).getD v 0 = _
    rw [ih (fun y hy => h y (by simp [hy])) _ (by rw [movE_length, hl]), movE_getD s x d (h x (by simp)) hl v, List.map_cons, sumI]; omega
end Sand
end Go
/-
  Plain definitions and laws: graphs, divisors, firing. No program.
-/
namespace Go
namespace Sand
def endsL (es : List Ed) : List (Int × Int) := es.flatMap fun x => List.replicate x.m.toNat (x.a, x.b)
theorem endsL_snoc (es : List Ed) (k : Nat) (h : k < es.length) : endsL (es.take (k + 1)) = endsL (es.take k) ++ List.replicate es[k].m.toNat (es[k].a, es[k].b) := by
  unfold endsL
  rw [List.take_succ_eq_append_getElem h, List.flatMap_append]
  simp
theorem endsL_len {n : Int} {es : List Ed} (h : ∀ x ∈ es, Right n x) : (endsL es).length ≤ 50 * es.length := by
  induction es with
  | nil => simp [endsL]
  | cons x es ih =>
    have := (h x (by simp)).m50
    have := ih fun y hy => h y (by simp [hy])
    simp only [endsL, List.flatMap_cons, List.length_append, List.length_replicate, List.length_cons] at *
    omega
def bndE (xs : List Int) : Int := if xs.all inB then 0 else 11
def givenE (N : Int) (es : List Ed) (d : List Int) : Int := if gcheck N es ≠ 0 then gcheck N es else dcheck d N
theorem inB_iff {k : Int} : inB k = true ↔ -1048576 ≤ k ∧ k ≤ 1048576 := by simp [inB]
def resE (e : Int) (m : List Int) : Int := if e ≠ 0 then e else bndE m
def resL (e : Int) (m : List Int) : List Int := if e = 0 ∧ m.all inB = true then m else []
theorem res_ok {m : List Int} : resE 0 m = bndE m := by rw [resE, if_neg (by simp)]
theorem given_ok {N : Int} {es : List Ed} {d : List Int} (h : givenE N es d = 0) : ∃ n : Nat, N = n ∧ GoodG n es ∧ d.length = n ∧ Bd 1048576 d ∧ 1 ≤ n ∧ n ≤ 12 := by
  unfold givenE at h
  split at h
  · rename_i h1; exact absurd h h1
  · rename_i h1
    have hg := gcheck_ok (by simpa using h1 : gcheck N es = 0)
    have := hg.n1
    have := hg.n12
    obtain ⟨n, rfl⟩ : ∃ n : Nat, N = n := ⟨N.toNat, by omega⟩
    unfold dcheck at h
    rw [if_neg (by omega)] at h
    split at h
    · cases h
    · rename_i hl
      have hlen : d.length = n := by omega
      refine ⟨n, rfl, hg, hlen, ?_, by omega, by omega⟩
      split at h
      · rename_i ha
        intro i
        by_cases hi : i < d.length
        · have := inB_iff.1 (List.all_eq_true.1 ha _ (List.getElem_mem hi))
          rw [List.getD_eq_getElem?_getD, List.getElem?_eq_getElem hi]; exact this
        · rw [List.getD_eq_getElem?_getD, List.getElem?_eq_none (by omega)]; simp
      · cases h
def smallG (N : Int) (es : List Ed) (nv ne : Int) : Bool := decide (es.length ≤ 40) && (decide (gcheck N es ≠ 0) || (decide (N ≤ nv) && decide (((endsL es).length : Int) ≤ ne)))
def few18 (N : Int) (es : List Ed) (d : List Int) : Bool := smallG N es 6 9 && decide (d.length ≤ 24)
def val1 (v : Int) (x : Ed) : Int := if x.a ≠ x.b ∧ (x.a = v ∨ x.b = v) then x.m else 0
def valS (es : List Ed) (v : Int) : Int := sumI (es.map (val1 v))
theorem valTo_one (x : Ed) (hx : 0 ≤ x.a ∧ x.a ≤ x.b) (v : Int) (u : Nat) :
    valTo [x] v u = if x.a ≠ x.b ∧ (x.a = v ∧ x.b < u ∨ x.b = v ∧ x.a < u) then x.m else 0 := by
  induction u with
  | zero => simp only [valTo]; rw [if_neg (by omega)]
  | succ u ih =>
    simp only [valTo, ih, betw]
    by_cases huv : (u : Int) = v
    · rw [if_pos huv]
      have e1 : (x.a ≠ x.b ∧ (x.a = v ∧ x.b < u ∨ x.b = v ∧ x.a < u)) ↔ (x.a ≠ x.b ∧ (x.a = v ∧ x.b < ((u + 1 : Nat) : Int) ∨ x.b = v ∧ x.a < ((u + 1 : Nat) : Int))) := by omega
      simp only [e1]; omega
    · rw [if_neg huv]
      by_cases h1 : x.a = min (u : Int) v ∧ x.b = max (u : Int) v
      · rw [if_pos h1, if_neg (by omega), if_pos (by omega)]; omega
      · rw [if_neg h1]
        have e1 : (x.a ≠ x.b ∧ (x.a = v ∧ x.b < u ∨ x.b = v ∧ x.a < u)) ↔ (x.a ≠ x.b ∧ (x.a = v ∧ x.b < ((u + 1 : Nat) : Int) ∨ x.b = v ∧ x.a < ((u + 1 : Nat) : Int))) := by omega
        simp only [e1]; omega
theorem valTo_cons {x : Ed} {es : List Ed} (h : (x :: es).Pairwise ltE) (v : Int) (u : Nat) : valTo (x :: es) v u = valTo [x] v u + valTo es v u := by
  induction u with
  | zero => simp [valTo]
  | succ u ih =>
    simp only [valTo, ih]
    split
    · omega
    · rw [betw_cons h, betw_cons (es := []) (by simp)]
      simp only [betw]; omega
theorem valTo_all {n : Nat} {es : List Ed} (h : ∀ x ∈ es, Right n x) (hp : es.Pairwise ltE) (v : Int) (hv : 0 ≤ v ∧ v < n) : valTo es v n = valS es v := by
  induction es with
  | nil =>
    have : ∀ u, valTo [] v u = 0 := by
      intro u
      induction u with
      | zero => rfl
      | succ u ih => simp only [valTo, ih, betw]; split <;> rfl
    rw [this]; rfl
  | cons x es ih =>
    rw [valTo_cons hp, ih (fun y hy => h y (by simp [hy])) (List.pairwise_cons.1 hp).2]
    obtain ⟨r1, r2, r3, r4, r5, r6, r7⟩ := h x (by simp)
    rw [valTo_one x (by omega) v]
    show _ = sumI (val1 v x :: es.map (val1 v))
    have e1 : (x.a ≠ x.b ∧ (x.a = v ∧ x.b < n ∨ x.b = v ∧ x.a < n)) ↔ (x.a ≠ x.b ∧ (x.a = v ∨ x.b = v)) := by omega
    simp only [sumI, val1, e1, valS]
def atE (N : Int) (vs : List Int) : Int := if vs.all (vtx N) = true then 0 else 2
theorem getD_get {s : List Int} {k : Nat} (h : k < s.length) : s.getD k 0 = s[k] := by
  rw [List.getD_eq_getElem?_getD, List.getElem?_eq_getElem h]; rfl
end Sand
end Go
/-
  Plain laws: what a script changes is linear. No program.
-/
namespace Go
namespace Sand
def dif (es : List Ed) (s : List Int) (v : Nat) : Int := sumI (es.map (gives s v))
theorem moved_dif {n : Nat} {es : List Ed} (hg : ∀ x ∈ es, Right n x) (s d : List Int) (hd : d.length = n) (v : Nat) : (movedE es s d).getD v 0 = d.getD v 0 + dif es s v := movedE_getD es s hg v d hd
theorem sumI_add {α : Type} (f g h : α → Int) (l : List α) (H : ∀ x ∈ l, f x = g x + h x) : sumI (l.map f) = sumI (l.map g) + sumI (l.map h) := by
  induction l with
  | nil => simp [sumI]
  | cons x l ih =>
    simp only [List.map_cons, sumI]
    rw [ih fun y hy => H y (by simp [hy]), H x (by simp)]
    omega
theorem gives_add {n : Nat} {s t u : List Int} {c : Int} (h : ∀ i, i < n → u.getD i 0 = s.getD i 0 + t.getD i 0 + c) (v : Nat) {x : Ed} (hx : Right n x) : gives u v x = gives s v x + gives t v x := by
  have ha := h x.a.toNat (by have := hx.a0; have := hx.an; omega)
  have hb := h x.b.toNat (by have := hx.b0; have := hx.bn; omega)
  have hf : flow u x = flow s x + flow t x := by
    unfold flow
    rw [ha, hb, ← Int.mul_add]
    congr 1
    omega
  unfold gives
  rw [hf]
  split <;> split <;> omega
theorem dif_add {n : Nat} {es : List Ed} (hg : ∀ x ∈ es, Right n x) {s t u : List Int} (c : Int) (h : ∀ i, i < n → u.getD i 0 = s.getD i 0 + t.getD i 0 + c) (v : Nat) : dif es u v = dif es s v + dif es t v :=
  sumI_add _ _ _ _ fun _ hx => gives_add h v (hg _ hx)
theorem dif_none {es : List Ed} (v : Nat) : dif es [] v = 0 := by
  unfold dif
  induction es with
  | nil => rfl
  | cons x es ih =>
    rw [List.map_cons, sumI, ih]
    simp [gives, flow]
theorem dif_same {n : Nat} {es : List Ed} (hg : ∀ x ∈ es, Right n x) {u : List Int} (c : Int) (h : ∀ i, i < n → u.getD i 0 = c) (v : Nat) : dif es u v = 0 := by
  have := dif_add hg (s := []) (t := []) (u := u) c (fun i hi => by rw [h i hi]; simp) v
  rw [this, dif_none]
  rfl
theorem moved_same_all {n : Nat} {es : List Ed} (hg : ∀ x ∈ es, Right n x) {u d : List Int} (c : Int) (hd : d.length = n) (h : ∀ i, i < n → u.getD i 0 = c) : movedE es u d = d := by
  refine ext_getD (movedE_length _ _ _) fun i hi => ?_
  rw [moved_dif hg u d hd, dif_same hg c h]
  omega
end Sand
end Go
/-
  Plain laws: what a script changes keeps the degree. No program.
-/
namespace Go
namespace Sand
theorem sumI_set : ∀ (d : List Int) (i : Nat) (u : Int), i < d.length → sumI (d.set i u) = sumI d - d.getD i 0 + u
  | [], i, u, h => by simp at h
  | x :: d, 0, u, h => by simp only [List.set_cons_zero, sumI, List.getD_cons_zero]; omega
  | x :: d, i + 1, u, h => by
    simp only [List.set_cons_succ, sumI, List.getD_cons_succ]
    rw [sumI_set d i u (by simpa using h)]
    omega
theorem movE_sum {n : Nat} (s : List Int) (x : Ed) (d : List Int) (hx : Right n x) (hd : d.length = n) : sumI (movE s x d) = sumI d := by
  have ha : x.a.toNat < d.length := by have := hx.a0; have := hx.an; omega
  have hb : x.b.toNat < d.length := by have := hx.b0; have := hx.bn; omega
  unfold movE
  rw [sumI_set _ _ _ (by rw [List.length_set]; exact hb), sumI_set _ _ _ ha]
  omega
theorem movedE_sum {n : Nat} {es : List Ed} (s : List Int) (hg : ∀ x ∈ es, Right n x) : ∀ (d : List Int), d.length = n → sumI (movedE es s d) = sumI d := by
  unfold movedE
  induction es with
  | nil => intro d _; rfl
  | cons x es ih =>
    intro d hd
    rw [List.foldl_cons, ih (fun y hy => hg y (by simp [hy])) _ (by rw [movE_length, hd]), movE_sum s x d (hg x (by simp)) hd]
end Sand
end Go
end
