/-
  Texts joined: Yu Yv Yw Yx Yy.
-/
import Derived.Test.YtolfhldbfeffaaaKf21

section
set_option linter.unusedSimpArgs false
set_option linter.unusedVariables false
namespace Go.Proofs.Ytolfhldbfeffaaa
open Go.Abs Go.Sand
/-- The chips that go along an edge from v. -/
def edgeD (v : Nat) (t : Int) (d : List Int) (x : Ed) : List Int := if incB v x = true then moreS (moreS d v (-(x.m * t))) (x.a + x.b - v).toNat (x.m * t) else d
def fvD (es : List Ed) (v : Nat) (t : Int) (d : List Int) (k : Nat) : List Int := (es.take k).foldl (edgeD v t) d
theorem fvD_zero (es : List Ed) (v : Nat) (t : Int) (d : List Int) : fvD es v t d 0 = d := rfl
theorem fvD_succ {es : List Ed} {v : Nat} {t : Int} {d : List Int} {k : Nat} (h : k < es.length) : fvD es v t d (k + 1) = edgeD v t (fvD es v t d k) es[k] := by
  unfold fvD
  rw [List.take_succ_eq_append_getElem h, List.foldl_append]
  rfl
theorem edgeD_len (v : Nat) (t : Int) (d : List Int) (x : Ed) : (edgeD v t d x).length = d.length := by
  unfold edgeD
  split
  · rw [moreS_len, moreS_len]
  · rfl
theorem fvD_len {es : List Ed} {v : Nat} {t : Int} {d : List Int} : ∀ {k : Nat}, k ≤ es.length → (fvD es v t d k).length = d.length
  | 0, _ => rfl
  | k + 1, h => by rw [fvD_succ (by omega), edgeD_len, fvD_len (by omega)]
section
variable {n : Nat} {es : List Ed} (hr : ∀ x ∈ es, Right n x)
include hr
theorem edgeD_get {v : Nat} (hv : v < n) {t : Int} {d : List Int} (hd : d.length = n) {x : Ed} (hx : x ∈ es) (w : Nat) :
    (edgeD v t d x).getD w 0 = d.getD w 0 + t * (if incB v x && decide (x.a + x.b - v = (w : Int)) then x.m else 0) - if w = v then t * (if incB v x then x.m else 0) else 0 := by
  obtain ⟨r1, r2, r3, r4, r5, r6, r7⟩ := hr x hx
  unfold edgeD
  by_cases hi : incB v x = true
  · have hi2 := hi
    simp only [incB, decide_eq_true_eq] at hi2
    rw [if_pos hi, moreS_get _ _ _ (by rw [moreS_len]; omega), moreS_get _ _ _ (by omega), hi]
    simp only [Bool.true_and, decide_eq_true_eq, if_true]
    by_cases e : w = v
    · have e2 : ¬ w = (x.a + x.b - (v : Int)).toNat := by omega
      have e3 : ¬ (x.a + x.b - (v : Int) = (w : Int)) := by omega
      rw [if_pos e, if_pos e, if_neg e2, if_neg e3, Int.mul_comm t x.m, Int.mul_zero]; omega
    · rw [if_neg e, if_neg e]
      by_cases e2 : w = (x.a + x.b - (v : Int)).toNat
      · have e3 : x.a + x.b - (v : Int) = (w : Int) := by omega
        rw [if_pos e2, if_pos e3, Int.mul_comm t x.m]; omega
      · have e3 : ¬ (x.a + x.b - (v : Int) = (w : Int)) := by omega
        rw [if_neg e2, if_neg e3, Int.mul_zero]; omega
  · have hi' : incB v x = false := by simpa using hi
    rw [if_neg hi, hi']
    simp
theorem fvD_get {v : Nat} (hv : v < n) {t : Int} {d : List Int} (hd : d.length = n) (w : Nat) : ∀ {k : Nat}, k ≤ es.length →
    (fvD es v t d k).getD w 0 = d.getD w 0 + t * joinsF v (fun u => decide (u = (w : Int))) (es.take k) - if w = v then t * joinsF v (fun _ => true) (es.take k) else 0
  | 0, _ => by
    have e : ∀ p, joinsF v p (es.take 0) = 0 := fun p => rfl
    rw [fvD_zero, e, e, Int.mul_zero]
    split <;> omega
  | k + 1, h => by
    have h' : k < es.length := by omega
    rw [fvD_succ h', edgeD_get hr hv (by rw [fvD_len (by omega), hd]) (List.getElem_mem h'), fvD_get hv hd w (by omega), joinsF_snoc h', joinsF_snoc h', Int.mul_add, Int.mul_add, Bool.and_true]
    split <;> omega
/-- The vertices of a set fire one after the other. -/
def fA (es : List Ed) (b : List Bool) (t : Int) (d : List Int) : Nat → List Int
  | 0 => d
  | i + 1 => if b.getD i false = true then fvD es i t (fA es b t d i) es.length else fA es b t d i
omit hr in
theorem fA_len {b : List Bool} {t : Int} {d : List Int} : ∀ i, (fA es b t d i).length = d.length
  | 0 => rfl
  | i + 1 => by
    simp only [fA]
    split
    · rw [fvD_len (Nat.le_refl _), fA_len i]
    · exact fA_len i
theorem fA_get {b : List Bool} {t : Int} {d : List Int} (hd : d.length = n) (w : Nat) : ∀ {i : Nat}, i ≤ n → (fA es b t d i).getD w 0 = d.getD w 0 + t * sumN (fun v => if b.getD v false = true then joinsF v (fun u => decide (u = (w : Int))) es - (if w = v then joinsF v (fun _ => true) es else 0) else 0) i
  | 0, _ => by simp [fA, sumN]
  | i + 1, h => by
    simp only [fA, sumN]
    by_cases hb : b.getD i false = true
    · rw [if_pos hb, if_pos hb, fvD_get hr (by omega) (by rw [fA_len, hd]) w (Nat.le_refl _), fA_get hd w (by omega), List.take_length, Int.mul_add, Int.mul_sub]
      by_cases e : w = i
      · rw [if_pos e, if_pos e]; omega
      · rw [if_neg e, if_neg e, Int.mul_zero]; omega
    · rw [if_neg hb, if_neg hb, fA_get hd w (by omega), Int.add_zero]
end
/-- A set, as a script. -/
def indB (b : List Bool) (u : Nat) : Int := if b.getD u false = true then 1 else 0
theorem fA_lap {n : Nat} {es : List Ed} (hg : GoodG n es) {b : List Bool} {t : Int} {d : List Int} (hd : d.length = n) {w : Nat} (hw : w < n) : (fA es b t d n).getD w 0 = d.getD w 0 + t * lapF n (joinE es) (indB b) w := by
  rw [fA_get hg.right hd w (Nat.le_refl n)]
  congr 2
  have e1 : ∀ v, v < n → joinsF v (fun u => decide (u = (w : Int))) es = joinE es v w := fun v hv => by
    rw [joins_eq hg hv]
    have : sumN (fun u => if decide ((u : Int) = (w : Int)) = true then joinE es v u else 0) n = sumN (fun u => if u = w then joinE es v w else 0) n := by
      refine sumN_congr fun u _ => ?_
      by_cases e : u = w
      · subst e; simp
      · rw [if_neg e, if_neg (by simp; omega)]
    rw [this, sumN_one, if_pos hw]
  have e2 : joinsF w (fun _ => true) es = sumN (fun u => joinE es w u) n := by
    rw [joins_eq hg hw]
    exact sumN_congr fun u _ => by rw [if_pos rfl]
  have e3 : sumN (fun v => if b.getD v false = true then joinsF v (fun u => decide (u = (w : Int))) es - (if w = v then joinsF v (fun _ => true) es else 0) else 0) n =
      sumN (fun v => joinE es w v * indB b v - if v = w then indB b w * sumN (fun u => joinE es w u) n else 0) n := by
    refine sumN_congr fun v hv => ?_
    rw [e1 v hv, joinE_sym v w]
    unfold indB
    by_cases hb : b.getD v false = true
    · rw [if_pos hb, if_pos hb, Int.mul_one]
      by_cases e : w = v
      · subst e; rw [if_pos rfl, if_pos rfl, if_pos hb, e2, Int.one_mul]
      · rw [if_neg e, if_neg fun h => e h.symm]
    · rw [if_neg hb, if_neg hb, Int.mul_zero]
      by_cases e : v = w
      · subst e; rw [if_pos rfl, if_neg hb, Int.zero_mul]; rfl
      · rw [if_neg e]; rfl
  rw [e3, sumN_sub', sumN_one, if_pos hw]
  unfold lapF
  rw [← sumN_mul, ← sumN_sub']
  refine sumN_congr fun u _ => ?_
  rw [Int.mul_sub, Int.mul_comm (indB b w)]
/-- The firings of a set are counted. -/
def sA (b : List Bool) (t : Int) (s : List Int) : Nat → List Int
  | 0 => s
  | i + 1 => if b.getD i false = true then moreS (sA b t s i) i t else sA b t s i
theorem sA_len {b : List Bool} {t : Int} {s : List Int} : ∀ i, (sA b t s i).length = s.length
  | 0 => rfl
  | i + 1 => by
    simp only [sA]
    split
    · rw [moreS_len, sA_len i]
    · exact sA_len i
theorem sA_get {n : Nat} {b : List Bool} {t : Int} {s : List Int} (hs : s.length = n) (w : Nat) : ∀ {i : Nat}, i ≤ n → (sA b t s i).getD w 0 = s.getD w 0 + if w < i then t * indB b w else 0
  | 0, _ => by simp [sA]
  | i + 1, h => by
    simp only [sA]
    by_cases hb : b.getD i false = true
    · rw [if_pos hb, moreS_get _ _ _ (by rw [sA_len]; omega), sA_get hs w (by omega)]
      by_cases e : w = i
      · subst e
        rw [if_neg (by omega), if_pos rfl, if_pos (by omega), indB, if_pos hb]; omega
      · rw [if_neg e]
        by_cases h2 : w < i
        · rw [if_pos h2, if_pos (by omega)]; omega
        · rw [if_neg h2, if_neg (by omega)]; omega
    · rw [if_neg hb, sA_get hs w (by omega)]
      by_cases e : w = i
      · subst e
        rw [if_neg (by omega), if_pos (by omega), indB, if_neg hb]; omega
      · by_cases h2 : w < i
        · rw [if_pos h2, if_pos (by omega)]
        · rw [if_neg h2, if_neg (by omega)]
/-- No entry is greater than B, whatever its sign. -/
def AbsLe (B : Int) (l : List Int) : Prop := ∀ v, -B ≤ l.getD v 0 ∧ l.getD v 0 ≤ B
theorem AbsLe.mono {B C : Int} {l : List Int} (h : AbsLe B l) (hBC : B ≤ C) : AbsLe C l := fun v => by have := h v; omega
theorem AbsLe.get {B : Int} {l : List Int} (h : AbsLe B l) {v : Nat} (hv : v < l.length) : -B ≤ l[v] ∧ l[v] ≤ B := by rw [← getD_get hv]; exact h v
theorem AbsLe.more {B c : Int} {l : List Int} (h : AbsLe B l) {v : Nat} (hv : v < l.length) {C : Int} (hc : -C ≤ c ∧ c ≤ C) : AbsLe (B + C) (moreS l v c) := fun w => by
  rw [moreS_get _ _ _ hv]
  have := h w
  split <;> omega
theorem edgeD_abs {n : Nat} {es : List Ed} (hr : ∀ x ∈ es, Right n x) {v : Nat} (hv : v < n) {t : Int} (ht : 0 ≤ t) {d : List Int} (hd : d.length = n) {B : Int} (h : AbsLe B d) {x : Ed} (hx : x ∈ es) : AbsLe (B + 50 * t) (edgeD v t d x) := fun w => by
  have r := hr x hx
  have r1 := r.m1
  have r2 := r.m50
  have hm1 : 0 ≤ t * x.m := Int.mul_nonneg ht (by omega)
  have hm2 : t * x.m ≤ t * 50 := Int.mul_le_mul_of_nonneg_left r2 ht
  have h0 := h w
  rw [edgeD_get hr hv hd hx]
  by_cases hi : incB v x = true
  · have hi2 := hi
    simp only [incB, decide_eq_true_eq] at hi2
    rw [hi]
    simp only [Bool.true_and, decide_eq_true_eq, if_true]
    by_cases e : w = v
    · rw [if_pos e, if_neg (by omega), Int.mul_zero]; omega
    · rw [if_neg e]
      by_cases e3 : x.a + x.b - (v : Int) = (w : Int)
      · rw [if_pos e3]; omega
      · rw [if_neg e3, Int.mul_zero]; omega
  · have hi' : incB v x = false := by simpa using hi
    rw [hi', Bool.false_and]
    simp only [Bool.false_eq_true, if_false, Int.mul_zero]
    split <;> omega
theorem fvD_abs {n : Nat} {es : List Ed} (hr : ∀ x ∈ es, Right n x) {v : Nat} (hv : v < n) {t : Int} (ht : 0 ≤ t) {d : List Int} (hd : d.length = n) {B : Int} (h : AbsLe B d) : ∀ {k : Nat}, k ≤ es.length → AbsLe (B + 50 * t * k) (fvD es v t d k)
  | 0, _ => by rw [fvD_zero]; exact h.mono (by simp)
  | k + 1, hk => by
    rw [fvD_succ (by omega)]
    refine (edgeD_abs hr hv ht (by rw [fvD_len (by omega), hd]) (fvD_abs hr hv ht hd h (by omega)) (List.getElem_mem _)).mono ?_
    rw [show ((k + 1 : Nat) : Int) = (k : Int) + 1 by omega, Int.mul_add]; omega
theorem fA_abs {n : Nat} {es : List Ed} (hr : ∀ x ∈ es, Right n x) (hel : es.length ≤ 1000) {b : List Bool} {t : Int} (ht : 0 ≤ t) {d : List Int} (hd : d.length = n) {B : Int} (h : AbsLe B d) : ∀ {i : Nat}, i ≤ n → AbsLe (B + 50000 * t * i) (fA es b t d i)
  | 0, _ => by simp only [fA]; exact h.mono (by simp)
  | i + 1, hi => by
    have ih := fA_abs hr hel (b := b) ht hd h (i := i) (by omega)
    have e : (50000 * t) * ((i + 1 : Nat) : Int) = 50000 * t * i + 50000 * t := by rw [show ((i + 1 : Nat) : Int) = (i : Int) + 1 by omega, Int.mul_add]; omega
    simp only [fA]
    split
    · refine (fvD_abs hr (by omega) ht (by rw [fA_len, hd]) ih (Nat.le_refl _)).mono ?_
      have : 50 * t * (es.length : Int) ≤ 50 * t * 1000 := Int.mul_le_mul_of_nonneg_left (by omega) (by omega)
      omega
    · exact ih.mono (by omega)
end Go.Proofs.Ytolfhldbfeffaaa
end
section
set_option linter.unusedSimpArgs false
set_option linter.unusedVariables false
namespace Go.Proofs.Ytolfhldbfeffaaa
open Go.Abs Go.Sand
/-- The objects of a divisor's state, among others. -/
structure FH (n : Nat) (es : List Ed) (q : Nat) (er : Int) (d s : List Int) (H : List AO) : Prop where
  h0 : H[0]? = some (.box (.p (G n es)))
  h1 : H[1]? = some (.box (.agg [.p (.i n), .p (.sl (es.map edP)), .p (.i q), .os 2 0 n, .os 3 0 n, .p (.i er)]))
  h2 : H[2]? = some (rowZ d)
  h3 : H[3]? = some (rowZ s)
/-- The others stand as they stood. -/
structure Fr (H H' : List AO) : Prop where
  le : H.length ≤ H'.length
  same : ∀ i, 4 ≤ i → i < H.length → H'[i]? = H[i]?
theorem Fr.refl (H : List AO) : Fr H H := ⟨Nat.le_refl _, fun _ _ _ => rfl⟩
theorem Fr.trans {A B C : List AO} (h : Fr A B) (k : Fr B C) : Fr A C := ⟨Nat.le_trans h.le k.le, fun i h1 h2 => (k.same i h1 (Nat.lt_of_lt_of_le h2 h.le)).trans (h.same i h1 h2)⟩
theorem Fr.at {H H' : List AO} (h : Fr H H') {i : Nat} {x : AO} (h4 : 4 ≤ i) (hx : H[i]? = some x) : H'[i]? = some x := by rw [h.same i h4 (lt_some hx)]; exact hx
theorem Fr.app (H Z : List AO) : Fr H (H ++ Z) := ⟨by simp, fun i _ h => by rw [List.getElem?_append_left h]⟩
theorem Fr.low (H : List AO) {i : Nat} (hi : i < 4) (x : AO) : Fr H (H.set i x) := ⟨by simp, fun j h1 h2 => by rw [List.getElem?_set_ne (by omega)]⟩
section
variable {n : Nat} {es : List Ed} {q : Nat} {er : Int} {d s : List Int} {H : List AO}
theorem FH.app (h : FH n es q er d s H) (Z : List AO) : FH n es q er d s (H ++ Z) := ⟨app_some h.h0 Z, app_some h.h1 Z, app_some h.h2 Z, app_some h.h3 Z⟩
theorem FH.set (h : FH n es q er d s H) {i : Nat} (hi : 4 ≤ i) (x : AO) : FH n es q er d s (H.set i x) :=
  ⟨by rw [List.getElem?_set_ne (by omega)]; exact h.h0, by rw [List.getElem?_set_ne (by omega)]; exact h.h1, by rw [List.getElem?_set_ne (by omega)]; exact h.h2, by rw [List.getElem?_set_ne (by omega)]; exact h.h3⟩
theorem FH.set3 (h : FH n es q er d s H) (s' : List Int) : FH n es q er d s' (H.set 3 (rowZ s')) :=
  ⟨by rw [List.getElem?_set_ne (by omega)]; exact h.h0, by rw [List.getElem?_set_ne (by omega)]; exact h.h1, by rw [List.getElem?_set_ne (by omega)]; exact h.h2, by rw [List.getElem?_set_self (lt_some h.h3)]⟩
end
section
variable {n : Nat} {es : List Ed} (hr : ∀ x ∈ es, Right n x) (hn : n ≤ 12) {q : Nat} {er : Int} {s : List Int}
include hr hn
set_option maxHeartbeats 2000000 in
theorem fire_body {m v p3 p5 : Nat} (hv : v < n) (h4 : 4 ≤ m ∧ 4 ≤ p3 ∧ 4 ≤ p5) (hp : p3 ≠ m + 3 ∧ p5 ≠ m + 3) {t : List (Nat × AV)} (ht3 : Abs.get t 3 = .ptr p3 1 0 0) (ht5 : Abs.get t 5 = .ptr p5 1 0 0) (ht6 : Abs.get t 6 = .ptr m 1 0 0) {times : Int} (htm : 0 ≤ times ∧ times ≤ 2097152) {d : List Int} (hd : d.length = n)
    (hb : AbsLe 9000000000000000 d) {H : List AO} (hF : FH n es q er d s H) (g3 : H[p3]? = some (.box (.ptr 1 1 0 0))) (g5 : H[p5]? = some (.box (.i times))) (gv : H[m]? = some (.box (.i v)))
    (gl : H[m + 3]? = some (.lp 111 t [33, 34] rc81_0a rc81_0c .ready)) {x : Ed} (hx : x ∈ es) (hi : incB v x = true) {K : AV → List AO → Prop} (hK : ∀ H', FH n es q er (edgeD v times d x) s H' → Fr H H' → K (.b true) H') :
    HY Try.prog (m + 3) [.i (x.a + x.b - v), .i x.m] H K := by
  obtain ⟨r1, r2, r3, r4, r5, r6, r7⟩ := hr x hx
  have hi2 := hi
  simp only [incB, decide_eq_true_eq] at hi2
  obtain ⟨u, hu⟩ : ∃ u : Nat, x.a + x.b - v = u := ⟨(x.a + x.b - v).toNat, by omega⟩
  have hun : u < n := by omega
  have huv : u ≠ v := by omega
  have hc0 : 0 ≤ x.m * times := Int.mul_nonneg (by omega) htm.1
  have hc1 : x.m * times ≤ 50 * 2097152 := Int.mul_le_mul r7 htm.2 htm.1 (by omega)
  rw [edgeD, if_pos hi, hu, Int.toNat_natCast] at hK
  rw [hu]
  obtain ⟨c, hc⟩ : ∃ c, c = x.m * times := ⟨_, rfl⟩
  rw [← hc] at hK hc0 hc1
  have h1 := hF.h1
  have h2 := hF.h2
  have hvd : v < d.length := by omega
  have hud : u < d.length := by omega
  have bv := hb.get hvd
  have bu := hb.get hud
  have hgv : d.getD v 0 = d[v] := getD_get hvd
  have hlen := lt_some gl
  refine HY_of_W gl rcc81_0a rcc81_0c rfl rfl rfl rfl ?_
  have dv : d[v]? = some d[v] := List.getElem?_eq_getElem hvd
  obtain ⟨X, hX⟩ : ∃ X, X = (H.set (m + 3) (.lp 111 t [33, 34] rc81_0a rc81_0c .busy)).set 2 (AO.row ((List.map PV.i d).set v (PV.v (Value.int IntKind.i64 (d[v] - c)))) 1 3 false) := ⟨_, rfl⟩
  obtain ⟨e, he⟩ : ∃ e, e = moreS d v (-c) := ⟨_, rfl⟩
  rw [← he] at hK
  have hel2 : e.length = n := by rw [he, moreS_len, hd]
  have hXl : X.length = H.length := by rw [hX]; simp
  have hXa : ∀ i, i ≠ 2 → i ≠ m + 3 → X[i]? = H[i]? := fun i e1 e2 => by rw [hX, List.getElem?_set_ne (by omega), List.getElem?_set_ne (by omega)]
  have x2 : X[2]? = some (rowZ e) := by
    rw [hX, List.getElem?_set_self (by rw [List.length_set]; omega), rowZ, he, moreS, hgv, List.map_set]
    rfl
  have x1 : X[1]? = _ := (hXa 1 (by omega) (by omega)).trans h1
  have x3 : X[p3]? = _ := (hXa p3 (by omega) (by omega)).trans g3
  have x5 : X[p5]? = _ := (hXa p5 (by omega) (by omega)).trans g5
  have xl : X[m + 3]? = some (.lp 111 t [33, 34] rc81_0a rc81_0c .busy) := by rw [hX, List.getElem?_set_ne (by omega), List.getElem?_set_self hlen]
  have heu : u < e.length := by omega
  have eu : e[u]? = some e[u] := List.getElem?_eq_getElem heu
  have hgu : e.getD u 0 = e[u] := getD_get heu
  have bu : -9000000000000000 ≤ e[u] ∧ e[u] ≤ 9000000000000000 := by
    have h := hb u
    rw [← hgu, he, moreS_get _ _ _ hvd, if_neg huv]
    omega
  have hfin : ∀ H2, H2 = (X.set 2 (rowZ (moreS e u c))).set (m + 3) (.lp 111 t [33, 34] rc81_0a rc81_0c .ready) → K (.b true) H2 := fun H2 hH2 => by
    refine hK H2 ⟨?_, ?_, ?_, ?_⟩ ⟨by rw [hH2]; simp; omega, fun i h1 h2 => ?_⟩
    · rw [hH2, List.getElem?_set_ne (by omega), List.getElem?_set_ne (by omega), hXa 0 (by omega) (by omega)]; exact hF.h0
    · rw [hH2, List.getElem?_set_ne (by omega), List.getElem?_set_ne (by omega)]; exact x1
    · rw [hH2, List.getElem?_set_ne (by omega), List.getElem?_set_self (by omega)]
    · rw [hH2, List.getElem?_set_ne (by omega), List.getElem?_set_ne (by omega), hXa 3 (by omega) (by omega)]; exact hF.h3
    · rw [hH2]
      by_cases e3 : i = m + 3
      · subst e3
        rw [List.getElem?_set_self (by simp; omega), gl]
      · rw [List.getElem?_set_ne (by omega), List.getElem?_set_ne (by omega), hXa i (by omega) e3]
  have hrow : ∀ A : List PV, A = e.map PV.i → AO.row (A.set u (PV.v (Value.int IntKind.i64 (e[u] + c)))) 1 3 false = rowZ (moreS e u c) := fun A hA => by
    rw [hA, rowZ, moreS, hgu, List.map_set]
  clear hK hb hF
  simp -implicitDefEqProofs (disch := omega) [List.getElem?_cons_zero, List.getElem?_cons_succ, wrap_id, ra81_0a, ra81_0c, ht3, ht5, ht6, g3, g5, gv, gl, h1, h2, hlen, dv, ← hc, List.getElem?_set_ne, hd, -getElem?_pos, hv, ← hX, x1, x2, x3, x5, xl, eu, hel2, hun]
  exact hfin _ (by rw [hrow _ rfl])
end
end Go.Proofs.Ytolfhldbfeffaaa
end
section
set_option linter.unusedSimpArgs false
set_option linter.unusedVariables false
namespace Go.Proofs.Ytolfhldbfeffaaa
open Go.Abs Go.Sand
section
variable {n : Nat} {es : List Ed} (hr : ∀ x ∈ es, Right n x) (hn : n ≤ 12) (hel : es.length ≤ 1000) {q : Nat} {er : Int} {d s : List Int} (hd : d.length = n)
include hr hn hel hd
theorem fire_range {v m p3 p5 : Nat} (hv : v < n) {times : Int} (htm : 0 ≤ times ∧ times ≤ 2097152) {B : Int} (hb : AbsLe B d) (hB : B + 50000 * times ≤ 9000000000000000) {t : List (Nat × AV)} (ht3 : Abs.get t 3 = .ptr p3 1 0 0) (ht5 : Abs.get t 5 = .ptr p5 1 0 0) (ht6 : Abs.get t 6 = .ptr m 1 0 0)
    {Y : List AO} (hY : Y.length = m + 1) (hm : 4 ≤ m) (hp : 4 ≤ p3 ∧ p3 < m ∧ 4 ≤ p5 ∧ p5 < m) (hF : FH n es q er d s Y) (g3 : Y[p3]? = some (.box (.ptr 1 1 0 0))) (g5 : Y[p5]? = some (.box (.i times))) (gv : Y[m]? = some (.box (.i v))) {K : AV → List AO → Prop}
    (hK : ∀ r H', FH n es q er (fvD es v times d es.length) s H' → Fr Y H' → H'[m + 3]? = some (.lp 111 t [33, 34] rc81_0a rc81_0c .ready) → K r H') :
    HC Try.prog false 92 [.yl (m + 3), .ptr (m + 1) 1 0 0, .ptr (m + 2) 1 0 0] (Y ++ [.box (.ptr 1 1 0 0), .box (.i v), .lp 111 t [33, 34] rc81_0a rc81_0c .ready]) K := by
  have ap : ∀ (Z : List AO) (j : Nat), (Y ++ Z)[m + 1 + j]? = Z[j]? := fun Z j => by
    rw [List.getElem?_append_right (by omega), show m + 1 + j - Y.length = j by omega]
  obtain ⟨H2, hH2⟩ : ∃ H2, H2 = Y ++ [.box (.ptr 1 1 0 0), .box (.i v), .lp 111 t [33, 34] rc81_0a rc81_0c .ready] := ⟨_, rfl⟩
  have hF2 : FH n es q er d s H2 := by rw [hH2]; exact hF.app _
  have hR2 : Fr Y H2 := by rw [hH2]; exact Fr.app _ _
  have e1 : H2[m + 1]? = some (.box (.ptr 1 1 0 0)) := by rw [hH2]; exact ap _ 0
  have e2 : H2[m + 2]? = some (.box (.i v)) := by rw [hH2]; exact ap _ 1
  have e3 : H2[m + 3]? = some (.lp 111 t [33, 34] rc81_0a rc81_0c .ready) := by rw [hH2]; exact ap _ 2
  rw [← hH2]
  refine links_rangeJ hr hn hel (v := (v : Int)) (by omega) (o := 1) (J := fun k H => FH n es q er (fvD es v times d k) s H ∧ Fr H2 H) (L := .lp 111 t [33, 34] rc81_0a rc81_0c .ready) ⟨hF2, Fr.refl _⟩ hF2.h1 e1
    (fun k H h => h.2.at (by omega) e2) (fun k H h => h.2.at (by omega) e3) rfl (fun k H Z h => ⟨h.1.app Z, h.2.trans (Fr.app _ _)⟩) (fun k hk H hi h => ?_) (fun k hk H K' hi h hK' => ?_) (fun r H h => hK r H h.1 (hR2.trans h.2) (h.2.at (by omega) e3))
  · refine ⟨?_, h.2⟩
    rw [fvD_succ hk, edgeD, hi]
    exact h.1
  · have hbk := fvD_abs hr hv htm.1 hd hb (k := k) (by omega)
    refine fire_body hr hn hv (p3 := p3) (p5 := p5) (by omega) (by omega) ht3 ht5 ht6 htm (by rw [fvD_len (by omega), hd]) (hbk.mono ?_) h.1 (h.2.at (by omega) (hR2.at (by omega) g3)) (h.2.at (by omega) (hR2.at (by omega) g5)) (h.2.at (by omega) (hR2.at (by omega) gv)) (h.2.at (by omega) e3) (List.getElem_mem hk) hi fun H' hF' hR' => hK' H' ⟨?_, h.2.trans hR'⟩
    · have : 50 * times * (k : Int) ≤ 50 * times * 1000 := Int.mul_le_mul_of_nonneg_left (by omega) (by omega)
      omega
    · rw [fvD_succ hk]; exact hF'
end
def FiI (n : Nat) (es : List Ed) (q : Nat) (er : Int) (b : List Bool) (times : Int) (d s : List Int) (H0 : List AO) (o p : Nat) (i : Nat) (st : St) : Prop :=
  ∃ H', FH n es q er (fA es b times d i) (sA b times s i) H' ∧ Fr H0 H' ∧ st = ⟨[(13, .i i), (12, .i n), (11, .os o 0 n), (3, .ptr p 1 0 0), (5, .ptr (p + 1) 1 0 0)], H'⟩
section
variable {n : Nat} {es : List Ed} (hr : ∀ x ∈ es, Right n x) (hn : n ≤ 12) (hel : es.length ≤ 1000) {q : Nat} {er : Int} {d s : List Int} (hd : d.length = n) (hs : s.length = n)
include hr hn hel hd hs
set_option maxHeartbeats 2000000 in
theorem fire_hc {o : Nat} (ho : 4 ≤ o) {b : List Bool} (hb : b.length = n) {times : Int} (htm : 0 ≤ times ∧ times ≤ 2097152) (hdb : AbsLe 4194304 d) (hsb : AbsLe 4194304 s) (hd2 : AbsLe 2097152 (fA es b times d n)) (hs2 : AbsLe 2097152 (sA b times s n))
    {H : List AO} (hF : FH n es q er d s H) (hob : H[o]? = some (rowB b)) {K : AV → List AO → Prop} (hK : ∀ r H', FH n es q er (fA es b times d n) (sA b times s n) H' → Fr H H' → K r H') :
    HC Try.prog false 81 [.ptr 1 1 0 0, .os o 0 n, .i times] H K := by
  have h1 := hF.h1
  have hlo := lt_some hob
  have hab := fun i (hi : i ≤ n) => fA_abs hr hel (b := b) htm.1 hd hdb hi
  obtain ⟨H0, hH0⟩ : ∃ H0, H0 = H ++ [AO.box (.ptr 1 1 0 0), AO.box (.i times)] := ⟨_, rfl⟩
  have hF0 : FH n es q er d s H0 := by rw [hH0]; exact hF.app _
  have g3 : H0[H.length]? = some (.box (.ptr 1 1 0 0)) := by rw [hH0, List.getElem?_append_right (by omega)]; simp
  have g5 : H0[H.length + 1]? = some (.box (.i times)) := by rw [hH0, List.getElem?_append_right (by omega)]; simp
  have go : H0[o]? = some (rowB b) := by rw [hH0]; exact app_some hob _
  have hl4 : 4 ≤ H.length := by have := lt_some hF.h3; omega
  refine HC_of_W (af := _) ((by exact cfn81 : cfn _ _ _ = some _)) ?_
  simp -implicitDefEqProofs (disch := omega) [c81, List.getElem?_cons_zero, List.getElem?_cons_succ, wrap_id, h1, ← hH0, go, hb, -getElem?_pos]
  refine loopW n (FiI n es q er b times d s H0 o H.length) (Wk_keep [13, 12, 11, 3, 5]) ⟨H0, hF0, Fr.refl H0, rfl⟩ ?_
  rintro i st hi ⟨H1, hF1, hR1, rfl⟩
  have k3 := hR1.at (by omega) g3
  have k5 := hR1.at (by omega) g5
  have ko := hR1.at ho go
  have l1 := hF1.h1
  have l2 := hF1.h2
  have l3 := hF1.h3
  have hl1 := lt_some l3
  have hdl : (fA es b times d i).length = n := by rw [fA_len, hd]
  have hsl : (sA b times s i).length = n := by rw [sA_len, hs]
  by_cases hit : i < n
  · have hib : i < b.length := by omega
    have f1 : ∀ y, (H1 ++ [y])[H1.length]? = some y := fun y => by simp
    have f3 : ∀ y z, (H1 ++ [y]).set H1.length z = H1 ++ [z] := fun y z => by simp
    have gb : b.getD i false = b[i] := by simp [List.getD, hib]
    have bi : b[i]? = some b[i] := List.getElem?_eq_getElem hib
    cases hbi : b[i] with
    | false =>
      have e1 : fA es b times d (i + 1) = fA es b times d i := by simp only [fA]; rw [gb, hbi]; simp
      have e2 : sA b times s (i + 1) = sA b times s i := by simp only [sA]; rw [gb, hbi]; simp
      simp -implicitDefEqProofs (disch := omega) [List.getElem?_cons_zero, List.getElem?_cons_succ, wrap_id, hit, ko, hb, bi, hbi, f1, f3, -getElem?_pos]
      exact round_keep [13, 12, 11, 3, 5] hit ⟨_, by rw [e1, e2]; exact hF1.app _, hR1.trans (Fr.app _ _), rfl⟩
    | true =>
      have e1 : fA es b times d (i + 1) = fvD es i times (fA es b times d i) es.length := by simp only [fA]; rw [gb, hbi]; simp
      have e2 : sA b times s (i + 1) = moreS (sA b times s i) i times := by simp only [sA]; rw [gb, hbi]; simp
      obtain ⟨S, hS⟩ : ∃ S, S = sA b times s i := ⟨_, rfl⟩
      obtain ⟨D, hD⟩ : ∃ D, D = fA es b times d i := ⟨_, rfl⟩
      rw [← hS] at hF1 hsl e2 l3
      rw [← hD] at hF1 hdl e1 l2
      obtain ⟨X, hX⟩ : ∃ X, X = H1 ++ [AO.box (AV.i (i : Int))] := ⟨_, rfl⟩
      have hXl : X.length = H1.length + 1 := by rw [hX]; simp
      have xa : ∀ {j : Nat} {x : AO}, H1[j]? = some x → X[j]? = some x := fun h => by rw [hX]; exact app_some h _
      have x1 := xa l1
      have x3 := xa l3
      have xp := xa k3
      have xq := xa k5
      have xv : X[H1.length]? = some (.box (.i i)) := by rw [hX]; exact f1 _
      have hFX : FH n es q er D S X := by rw [hX]; exact hF1.app _
      have hRX : Fr H1 X := by rw [hX]; exact Fr.app _ _
      have hSi : i < S.length := by omega
      have si : S[i]? = some S[i] := List.getElem?_eq_getElem hSi
      have gs : S.getD i 0 = S[i] := getD_get hSi
      have sbd : -4194304 ≤ S[i] ∧ S[i] ≤ 4194304 := by
        rw [← gs, hS, sA_get hs i (by omega), if_neg (by omega)]
        have := hsb i
        omega
      have hrow : AO.row ((S.map PV.i).set i (PV.v (Value.int IntKind.i64 (S[i] + times)))) 1 3 false = rowZ (moreS S i times) := by rw [rowZ, moreS, gs, List.map_set]
      obtain ⟨Y, hY⟩ : ∃ Y, Y = X.set 3 (rowZ (moreS S i times)) := ⟨_, rfl⟩
      have hFY : FH n es q er D (moreS S i times) Y := by rw [hY]; exact hFX.set3 _
      have hRY : Fr H1 Y := hRX.trans (by rw [hY]; exact Fr.low _ (by omega) _)
      have hYl : Y.length = H1.length + 1 := by rw [hY, List.length_set, hXl]
      have y1 := hFY.h1
      have yp := hRY.at (by omega) k3
      have yq := hRY.at (by omega) k5
      have yv : Y[H1.length]? = some (.box (.i i)) := by rw [hY, List.getElem?_set_ne (by omega)]; exact xv
      have ya : ∀ L, (Y ++ L)[1]? = _ := fun L => app_some y1 L
      simp -implicitDefEqProofs (disch := omega) [List.getElem?_cons_zero, List.getElem?_cons_succ, wrap_id, hit, ko, hb, bi, hbi, f1, f3, -getElem?_pos, ← hX, x1, x3, xp, xq, xv, hsl, si, hrow, ← hY, yp, yq, yv]
      refine links_hc (fun L => by simp [boxable, solid, ya]) ?_
      simp -implicitDefEqProofs (disch := omega) [List.getElem?_cons_zero, List.getElem?_cons_succ, wrap_id, hYl]
      refine ⟨by kernel_rfl, fire_range hr hn hel hdl hit (p3 := H.length) (p5 := H.length + 1) htm (B := 4194304 + 50000 * times * (i : Int)) (by rw [hD]; exact hab i hi) ?_ rfl rfl rfl hYl (by omega) (by have := hR1.le; rw [hH0] at this; simp at this; omega) hFY yp yq yv fun r H' hF' hR' hl' => ?_⟩
      · have h1 : 50000 * times * (i : Int) ≤ 50000 * times * 12 := Int.mul_le_mul_of_nonneg_left (by omega) (by omega)
        omega
      · refine AfterR_ready hl' ?_
        simp -implicitDefEqProofs (disch := omega) [List.getElem?_cons_zero, List.getElem?_cons_succ, wrap_id, hit]
        refine round_keep [13, 12, 11, 3, 5] hit ⟨_, ?_, ?_, rfl⟩
        · rw [e1, e2]
          exact hF'.set (by omega) _
        · exact hR1.trans (hRY.trans ⟨by simp; exact hR'.le, fun j h1 h2 => by rw [List.getElem?_set_ne (by omega)]; exact hR'.same j h1 h2⟩)
  have hin : i = n := by omega
  subst hin
  simp -implicitDefEqProofs (disch := omega) [List.getElem?_cons_zero, List.getElem?_cons_succ, wrap_id, k3, l1, l2, hdl, -getElem?_pos]
  refine loopW i (fun v st => st = ⟨[(65, .i v), (64, .i i), (63, .os 2 0 i), (3, .ptr H.length 1 0 0), (5, .ptr (H.length + 1) 1 0 0)], H1⟩) (Wk_keep [65, 64, 63, 3, 5]) rfl ?_
  rintro v st hv rfl
  by_cases hvt : v < i
  · have hvd : v < (fA es b times d i).length := by omega
    have hvs : v < (sA b times s i).length := by omega
    have ed : (fA es b times d i)[v]? = some (fA es b times d i)[v] := List.getElem?_eq_getElem hvd
    have es' : (sA b times s i)[v]? = some (sA b times s i)[v] := List.getElem?_eq_getElem hvs
    have bd := hd2.get hvd
    have bs := hs2.get hvs
    obtain ⟨x, hx⟩ : ∃ x, x = (fA es b times d i)[v] := ⟨_, rfl⟩
    obtain ⟨y, hy⟩ : ∃ y, y = (sA b times s i)[v] := ⟨_, rfl⟩
    rw [← hx] at ed bd
    rw [← hy] at es' bs
    have hmx : ¬ 2097152 < max x (max (-x) (max y (-y))) := by omega
    simp -implicitDefEqProofs (disch := omega) [List.getElem?_cons_zero, List.getElem?_cons_succ, wrap_id, hvt, k3, l1, l2, l3, hdl, hsl, ed, es', hmx, Int.zero_sub, -getElem?_pos]
    exact round_keep [65, 64, 63, 3, 5] hvt rfl
  · simp -implicitDefEqProofs (disch := omega) [List.getElem?_cons_zero, List.getElem?_cons_succ, wrap_id, hvt]
    exact finH trivial rfl (hK _ _ hF1 ((show Fr H H0 by rw [hH0]; exact Fr.app _ _).trans hR1))
end
end Go.Proofs.Ytolfhldbfeffaaa
end
section
set_option linter.unusedSimpArgs false
set_option linter.unusedVariables false
namespace Go.Proofs.Ytolfhldbfeffaaa
open Go.Abs Go.Sand
theorem le1_ok {n : Nat} {b : List Bool} (hb : b.length = n) (u : Int) (H : List AO) (K : AV → List AO → Prop) (h0 : 0 ≤ u) (hu : u < n) (hK : K (.b (b.getD u.toNat false)) H) : HC Try.prog false 84 [.i u, .sp (.agg [.bo b]) 0] H K := by
  obtain ⟨v, rfl⟩ : ∃ v : Nat, u = v := ⟨u.toNat, by omega⟩
  have hv : v < b.length := by omega
  rw [Int.toNat_natCast, show b.getD v false = b[v] by simp [List.getD, hv]] at hK
  refine HC_of_W (af := _) ((by exact cfn84 : cfn _ _ _ = some _)) ?_
  simp -implicitDefEqProofs (disch := omega) [c84, List.getElem?_cons_zero, List.getElem?_cons_succ, wrap_id, hv]
  exact finH trivial rfl hK
theorem se1_ok {n : Nat} {b : List Bool} (hb : b.length = n) (u : Int) (H : List AO) (K : AV → List AO → Prop) (h0 : 0 ≤ u) (hu : u < n) (hK : K (.b (!b.getD u.toNat false)) H) : HC Try.prog false 86 [.i u, .sp (.agg [.bo b]) 0] H K := by
  obtain ⟨v, rfl⟩ : ∃ v : Nat, u = v := ⟨u.toNat, by omega⟩
  have hv : v < b.length := by omega
  rw [Int.toNat_natCast, show b.getD v false = b[v] by simp [List.getD, hv]] at hK
  refine HC_of_W (af := _) ((by exact cfn86 : cfn _ _ _ = some _)) ?_
  simp -implicitDefEqProofs (disch := omega) [c86, List.getElem?_cons_zero, List.getElem?_cons_succ, wrap_id, hv]
  exact finH trivial rfl hK
section
variable {n : Nat} {es : List Ed} (hr : ∀ x ∈ es, Right n x) (hn : n ≤ 12) (hel : es.length ≤ 1000) {q : Nat} {er : Int} {d s : List Int} (hd : d.length = n) (hs : s.length = n)
include hr hn hel hd hs
theorem ro_joins {f : FuncId} (hf : callable Try.prog f = true) {g : Int → Bool} {b : List Bool} (hb : b.length = n) (hF : ∀ (u : Int) H (K : AV → List AO → Prop), 0 ≤ u → u < n → K (.b (g u)) H → HC Try.prog false f [.i u, .sp (.agg [.bo b]) 0] H K)
    {v : Int} (hv : 0 ≤ v ∧ v < n) {H : List AO} (hH : FH n es q er d s H) {r p : Nat} (hr2 : H[r]? = some (rowB b)) (hp : H[p]? = some (.box (.os r 0 n))) {e : Bool} {K : AV → List AO → Prop} (hK : K (.i (joinsF v g es)) H) :
    HC Try.prog e 83 [.ptr 1 1 0 0, .i v, .fn (.func f) [] [.ptr p 1 0 0]] H K := by
  have h2 := hH.h2
  have h3 := hH.h3
  refine HC_ro (args' := [.sp (.agg [.i n, .sl (es.map edP), .i q, .is d, .is s, .i er]) 0, .i v, .fn (.func f) [] [.sp (.agg [.bo b]) 0]])
    [.agg [.p (.i n), .p (.sl (es.map edP)), .p (.i q), .os 2 0 n, .os 3 0 n, .p (.i er)], .bs 1 0 0, .i v, .agg [.os r 0 n], .bs p 0 0] cfn83 rfl (fun i hi hi' => ?_) rfl
    (joins_W hr hn hel hv hf hF) hK
  match i, hi with
  | 0, _ => exact .ptr 1 0 (.agg [.p (.i n), .p (.sl (es.map edP)), .p (.i q), .os 2 0 n, .os 3 0 n, .p (.i er)]) _ hH.h1 (by simp [view, viewL, viewC, ownEls, h2, h3, hd, hs, PV.one, scalar]) (by simp [AV.flat]) (by simp)
  | 1, _ => exact .p (.i v) (.i v) rfl (by simp)
  | 2, _ =>
    refine .fn _ _ _ rfl fun j hj hj' => ?_
    match j, hj with
    | 0, _ => exact .ptr p 0 (.os r 0 n) [.bo b] hp (bx_view hr2 hb) (by simp [AV.flat]) (by simp)
end
section
variable {n : Nat} {es : List Ed} {q : Nat} {er : Int} {d s : List Int} {H : List AO}
theorem FH.len (h : FH n es q er d s H) : 4 ≤ H.length := lt_some h.h3
theorem FH.ok4 (h : FH n es q er d s H) : okσ [0, 1, 2, 3] 4 H = true := by
  have := h.len
  simp [okσ, nodupB, firstB]
  omega
theorem FH.ok5 (h : FH n es q er d s H) (h5 : 5 ≤ H.length) : okσ [0, 1, 2, 3, 4] 4 H = true := by
  simp [okσ, nodupB, firstB]
  omega
theorem FH.ren4 (h : FH n es q er d s H) : renH [0, 1, 2, 3] H = stH n es q d s er := by
  simp only [renH, List.map_cons, List.map_nil, List.getD_eq_getElem?_getD, h.h0, h.h1, h.h2, h.h3, Option.getD_some]
  rfl
theorem FH.ren5 (h : FH n es q er d s H) {far : List Int} (h4 : H[4]? = some (rowZ far)) : renH [0, 1, 2, 3, 4] H = stH n es q d s er ++ [rowZ far] := by
  simp only [renH, List.map_cons, List.map_nil, List.getD_eq_getElem?_getD, h.h0, h.h1, h.h2, h.h3, h4, Option.getD_some]
  rfl
theorem FH.of (n : Nat) (es : List Ed) (q : Nat) (er : Int) (d s : List Int) (Z : List AO) : FH n es q er d s (stH n es q d s er ++ Z) := ⟨rfl, rfl, rfl, rfl⟩
end
end Go.Proofs.Ytolfhldbfeffaaa
end
section
set_option linter.unusedSimpArgs false
set_option linter.unusedVariables false
namespace Go.Proofs.Ytolfhldbfeffaaa
open Go.Abs Go.Sand
/-- A number of firings that pays a debt. -/
theorem times_ok {d j : Int} (hd : d < 0) (hj : 1 ≤ j) : 0 ≤ (-d + j - 1).tdiv j ∧ -d ≤ (-d + j - 1).tdiv j * j ∧ (-d + j - 1).tdiv j ≤ -d := by
  rw [Int.tdiv_eq_ediv_of_nonneg (by omega)]
  obtain ⟨a, ha⟩ : ∃ a, a = -d + j - 1 := ⟨_, rfl⟩
  rw [← ha]
  have h1 := Int.mul_ediv_add_emod a j
  have h2 := Int.emod_lt_of_pos a (show 0 < j by omega)
  have h3 := Int.emod_nonneg a (show j ≠ 0 by omega)
  have h4 : 0 ≤ a / j := Int.ediv_nonneg (by omega) (by omega)
  refine ⟨h4, ?_, ?_⟩
  · rw [Int.mul_comm] at h1; omega
  · refine Classical.byContradiction fun h => ?_
    have h5 : (-d + 1) * j ≤ a / j * j := Int.mul_le_mul_of_nonneg_right (by omega) (by omega)
    rw [Int.mul_comm] at h1
    have h6 : -d * 1 ≤ -d * j := Int.mul_le_mul_of_nonneg_left hj (by omega)
    rw [Int.add_mul] at h5
    omega
section
variable {n : Nat} {es : List Ed} (hg : GoodG n es)
include hg
theorem joinE_edge {u w : Nat} (h : 1 ≤ joinE es u w) : ∃ x ∈ es, incB u x = true ∧ (x.a + x.b - u).toNat = w := by
  unfold joinE at h
  by_cases e : w = u
  · rw [if_pos e] at h; omega
  · rw [if_neg e] at h
    obtain ⟨x, hx, h1, h2⟩ := (betw_pos (fun x hx => (hg.right x hx).m1) _ _).1 (show 0 < _ from h)
    refine ⟨x, hx, ?_, by omega⟩
    simp only [incB, decide_eq_true_eq]
    omega
theorem far_all (hp : partsN es n = 1) {q : Nat} (hq : q < n) {far : List Int} (hf : FarOk n es q far) : ∀ v, v < n → 0 ≤ far.getD v 0 := by
  intro v hv
  refine Classical.byContradiction fun hneg => ?_
  obtain ⟨u, w, hu, hw, hAu, hAw, hj⟩ := edge_out hg hp (fun u => decide (0 ≤ far.getD u 0)) hq hv (by rw [decide_eq_true_eq, hf.q0]; omega) (decide_eq_false hneg)
  obtain ⟨x, hx, hi, ho⟩ := joinE_edge hg hj
  have := hf.cl u hu (of_decide_eq_true hAu) x hx hi
  rw [ho] at this
  exact of_decide_eq_false hAw this
theorem joinsF_pos {v : Nat} (p : Int → Bool) {x : Ed} (hx : x ∈ es) (hi : incB v x = true) (hp : p (x.a + x.b - v) = true) : 1 ≤ joinsF v p es := by
  have hr := hg.right
  clear hg
  induction es with
  | nil => cases hx
  | cons y es ih =>
    have e : joinsF v p (y :: es) = (if incB v y && p (y.a + y.b - v) then y.m else 0) + joinsF v p es := rfl
    have hr' : ∀ z ∈ es, Right n z := fun z hz => hr z (by simp [hz])
    have h0 := (joinsF_bd hr' v p).1
    have hy := (hr y (by simp)).m1
    rw [e]
    rcases List.mem_cons.1 hx with rfl | hx
    · rw [hi, hp]
      simp only [Bool.and_self, if_true]
      omega
    · have := ih hx hr'
      split <;> omega
/-- The edges at a vertex to a set. -/
theorem joins_set {v : Nat} (hv : v < n) (b : List Bool) : joinsF v (fun u => b.getD u.toNat false) es = sumN (fun u => if b.getD u false = true then joinE es v u else 0) n := by
  rw [joins_eq hg hv]
  exact sumN_congr fun u _ => by rw [Int.toNat_natCast]
theorem joins_not {v : Nat} (hv : v < n) (b : List Bool) : joinsF v (fun u => !b.getD u.toNat false) es = outF n (joinE es) (fun u => b.getD u false) v := by
  rw [joins_eq hg hv]
  unfold outF
  refine sumN_congr fun u _ => ?_
  rw [Int.toNat_natCast]
  by_cases hb : b.getD u false = true
  · rw [if_pos hb, if_neg (by rw [hb]; simp)]
  · rw [if_neg hb, if_pos (by simpa using hb)]
/-- What a set adds. -/
theorem lap_ind (b : List Bool) {v : Nat} (hv : v < n) : lapF n (joinE es) (indB b) v = if b.getD v false = true then - outF n (joinE es) (fun u => b.getD u false) v else joinsF v (fun u => b.getD u.toNat false) es := by
  rw [joins_set hg hv]
  exact lap_set (J := joinE es) (fun u => b.getD u false) v
theorem lap_ind_bd (b : List Bool) {V : Int} (hval : ∀ v, v < n → sumN (fun u => joinE es v u) n ≤ V) {v : Nat} (hv : v < n) : -V ≤ lapF n (joinE es) (indB b) v ∧ lapF n (joinE es) (indB b) v ≤ V := by
  have h1 := hval v hv
  have h2 : 0 ≤ outF n (joinE es) (fun u => b.getD u false) v := sumN_nonneg fun u _ => by
    have := (joinE_bd hg v u).1
    split <;> omega
  have h3 : outF n (joinE es) (fun u => b.getD u false) v ≤ sumN (fun u => joinE es v u) n := sumN_le fun u _ => by
    have := (joinE_bd hg v u).1
    split <;> omega
  have h4 : 0 ≤ joinsF v (fun u => b.getD u.toNat false) es := (joinsF_bd hg.right v _).1
  have h5 : joinsF v (fun u => b.getD u.toNat false) es ≤ sumN (fun u => joinE es v u) n := by
    rw [joins_set hg hv]
    exact sumN_le fun u _ => by
      have := (joinE_bd hg v u).1
      split <;> omega
  rw [lap_ind hg b hv]
  split <;> omega
/-- What firing leaves, in bounds. -/
theorem fA_in (b : List Bool) {V : Int} (hval : ∀ v, v < n → sumN (fun u => joinE es v u) n ≤ V) (hV : 0 ≤ V) {T : Int} (hT : 0 ≤ T) {d : List Int} (hd : d.length = n) {C : Int} (h : AbsLe C d) : AbsLe (C + V * T) (fA es b T d n) := fun v => by
  have h0 := h v
  have hVT := Int.mul_nonneg hV hT
  by_cases hv : v < n
  · rw [fA_lap hg hd hv]
    obtain ⟨h1, h2⟩ := lap_ind_bd hg b hval hv
    have h3 := Int.mul_le_mul_of_nonneg_left h2 hT
    have h4 := Int.mul_le_mul_of_nonneg_left h1 hT
    rw [Int.mul_neg, Int.mul_comm T V] at h4
    rw [Int.mul_comm T V] at h3
    omega
  · rw [List.getD_eq_getElem?_getD, List.getElem?_eq_none (by rw [fA_len]; omega)]
    simp only [Option.getD_none]
    omega
end
theorem sA_in {n : Nat} (b : List Bool) {T : Int} (hT : 0 ≤ T) {s : List Int} (hs : s.length = n) {C : Int} (h : AbsLe C s) : AbsLe (C + T) (sA b T s n) := fun v => by
  have h0 := h v
  rw [sA_get hs v (Nat.le_refl n)]
  unfold indB
  split
  · split <;> omega
  · omega
/-- What has been lent, down to a level. -/
structure LdS (n : Nat) (es : List Ed) (far d s : List Int) (k C S : Int) (d' s' : List Int) : Prop where
  dl : d'.length = n
  sl : s'.length = n
  ex : ∃ f : Nat → Int, (∀ v, v < n → d'.getD v 0 = d.getD v 0 + lapF n (joinE es) f v) ∧ ∀ v, v < n → s'.getD v 0 = s.getD v 0 + f v
  pd : ∀ v, v < n → k < far.getD v 0 → 0 ≤ d'.getD v 0
  db : AbsLe C d'
  sb : AbsLe S s'
/-- One level more. -/
theorem LdS.next {n : Nat} {es : List Ed} (hg : GoodG n es) (hval : ∀ v, v < n → sumN (fun u => joinE es v u) n ≤ 7) {far d s d' s' : List Int} {k C S : Int} (h : LdS n es far d s k C S d' s') {b : List Bool} (hb : ∀ v, v < n → b.getD v false = decide (far.getD v 0 < k)) {T : Int} (hT : 0 ≤ T ∧ T ≤ C)
    (hp : ∀ v, v < n → far.getD v 0 = k → d'.getD v 0 < 0 → 0 ≤ d'.getD v 0 + T * joinsF v (fun u => b.getD u.toNat false) es) : LdS n es far d s (k - 1) (8 * C) (S + C) (fA es b T d' n) (sA b T s' n) := by
  obtain ⟨f, hf1, hf2⟩ := h.ex
  refine ⟨by rw [fA_len, h.dl], by rw [sA_len, h.sl], ⟨fun v => f v + T * indB b v, fun v hv => ?_, fun v hv => ?_⟩, fun v hv hk => ?_, (fA_in hg b hval (by omega) hT.1 h.dl h.db).mono (by omega), (sA_in b hT.1 h.sl h.sb).mono (by omega)⟩
  · rw [fA_lap hg h.dl hv, hf1 v hv, lapF_add, lapF_mul]; omega
  · rw [sA_get h.sl v (Nat.le_refl n), if_pos hv, hf2 v hv]; dsimp only; omega
  · rw [fA_lap hg h.dl hv, lap_ind hg b hv, hb v hv, if_neg (by rw [decide_eq_true_eq]; omega)]
    have h4 : 0 ≤ joinsF v (fun u => b.getD u.toNat false) es := (joinsF_bd hg.right v _).1
    have h5 := Int.mul_nonneg hT.1 h4
    by_cases hneg : d'.getD v 0 < 0
    · by_cases e : far.getD v 0 = k
      · exact hp v hv e hneg
      · have := h.pd v hv (by omega)
        omega
    · omega
theorem LdS.skip {n : Nat} {es : List Ed} {far d s d' s' : List Int} {k C S : Int} (h : LdS n es far d s k C S d' s') (hC : 0 ≤ C) (hp : ∀ v, v < n → far.getD v 0 = k → 0 ≤ d'.getD v 0) : LdS n es far d s (k - 1) (8 * C) (S + C) d' s' :=
  ⟨h.dl, h.sl, h.ex, fun v hv hk => by
    by_cases e : far.getD v 0 = k
    · exact hp v hv e
    · exact h.pd v hv (by omega), h.db.mono (by omega), h.sb.mono (by omega)⟩
end Go.Proofs.Ytolfhldbfeffaaa
end
