/-
  Contracts: a configuration is laid out: its rows and valences, counted over the single edges.
-/
import Derived.Test.YtgjaekbbdmhjlaaZe
import Derived.Test.YtgjaekbbdmhjlaaGn
set_option linter.unusedSimpArgs false
set_option linter.unusedVariables false
namespace Go.Proofs.Ytgjaekbbdmhjlaa
open Go.Abs Go.Sand

/-- How many single edges join two vertices. -/
def joinC (l : List (Int × Int)) (u w : Nat) : Int := if w = u then 0 else ((l.filter fun x => decide (x = ((u : Int), (w : Int)) ∨ x = ((w : Int), (u : Int)))).length : Int)
/-- How many single edges, but loops, are at a vertex. -/
def valC (l : List (Int × Int)) (u : Nat) : Int := ((l.filter fun x => decide (x.1 ≠ x.2 ∧ (x.1 = (u : Int) ∨ x.2 = (u : Int)))).length : Int)
theorem joinC_snoc (l : List (Int × Int)) (x : Int × Int) (u w : Nat) : joinC (l ++ [x]) u w = joinC l u w + if w ≠ u ∧ (x = ((u : Int), (w : Int)) ∨ x = ((w : Int), (u : Int))) then 1 else 0 := by
  unfold joinC
  by_cases h : w = u
  · simp [h]
  · by_cases h2 : x = ((u : Int), (w : Int)) ∨ x = ((w : Int), (u : Int)) <;> simp [h, h2, List.filter_append]
theorem valC_snoc (l : List (Int × Int)) (x : Int × Int) (u : Nat) : valC (l ++ [x]) u = valC l u + if x.1 ≠ x.2 ∧ (x.1 = (u : Int) ∨ x.2 = (u : Int)) then 1 else 0 := by
  unfold valC
  by_cases h2 : x.1 ≠ x.2 ∧ (x.1 = (u : Int) ∨ x.2 = (u : Int)) <;> simp [h2, List.filter_append]
theorem joinC_app (a b : List (Int × Int)) (u w : Nat) : joinC (a ++ b) u w = joinC a u w + joinC b u w := by
  unfold joinC
  split
  · rfl
  · simp [List.filter_append]
theorem valC_app (a b : List (Int × Int)) (u : Nat) : valC (a ++ b) u = valC a u + valC b u := by
  unfold valC
  simp [List.filter_append]
theorem filter_rep {α : Type} (p : α → Bool) (m : Nat) (x : α) : ((List.replicate m x).filter p).length = if p x = true then m else 0 := by
  by_cases h : p x = true <;> simp [List.filter_replicate, h]
theorem joinC_ends {n : Nat} : ∀ {es : List Ed}, (∀ x ∈ es, Right n x) → es.Pairwise ltE → ∀ v u : Nat, joinC (endsL es) v u = joinE es v u
  | [], _, _, v, u => by
    unfold joinC joinE endsL
    split
    · rfl
    · simp [betw]
  | x :: es, hr, hp, v, u => by
    have ih := joinC_ends (fun y hy => hr y (by simp [hy])) (List.pairwise_cons.1 hp).2 v u
    have hx := hr x (by simp)
    have e1 : endsL (x :: es) = List.replicate x.m.toNat (x.a, x.b) ++ endsL es := by simp [endsL]
    rw [e1, joinC_app, ih]
    have h1 := hx.m1
    have h2 := hx.ab
    unfold joinC joinE
    by_cases h : u = v
    · simp [h]
    · simp only [h, if_false]
      rw [betw_cons hp, filter_rep]
      by_cases hh : x.a = min (u : Int) v ∧ x.b = max (u : Int) v
      · rw [if_pos hh, if_pos]
        · omega
        · simp only [Prod.mk.injEq, decide_eq_true_eq]; omega
      · rw [if_neg hh, if_neg]
        · rfl
        · simp only [Prod.mk.injEq, decide_eq_true_eq]; omega
theorem valC_ends {n : Nat} : ∀ {es : List Ed}, (∀ x ∈ es, Right n x) → ∀ v : Nat, valC (endsL es) v = valS es v
  | [], _, v => by simp [valC, endsL, valS, sumI]
  | x :: es, hr, v => by
    have ih := valC_ends (es := es) (fun y hy => hr y (by simp [hy])) v
    have hx := hr x (by simp)
    have e1 : endsL (x :: es) = List.replicate x.m.toNat (x.a, x.b) ++ endsL es := by simp [endsL]
    have h1 := hx.m1
    rw [e1, valC_app, ih]
    have e2 : valS (x :: es) v = val1 v x + valS es v := by simp [valS, sumI]
    rw [e2]
    congr 1
    unfold valC val1
    rw [filter_rep]
    by_cases hh : x.a ≠ x.b ∧ (x.a = (v : Int) ∨ x.b = (v : Int))
    · rw [if_pos hh, if_pos (by simpa using hh)]; omega
    · rw [if_neg hh, if_neg (by simpa using hh)]; rfl
theorem ends_in' {n : Int} {es : List Ed} (hr : ∀ x ∈ es, Right n x) : ∀ p ∈ endsL es, (0 ≤ p.1 ∧ p.1 < n) ∧ 0 ≤ p.2 ∧ p.2 < n := fun p hp => by
  simp only [endsL, List.mem_flatMap, List.mem_replicate] at hp
  obtain ⟨x, hx, _, rfl⟩ := hp
  have r := hr x hx
  exact ⟨⟨r.a0, r.an⟩, r.b0, r.bn⟩
theorem joinC_bd (l : List (Int × Int)) (u w : Nat) : 0 ≤ joinC l u w ∧ joinC l u w ≤ l.length := by
  unfold joinC
  split
  · omega
  · have := List.length_filter_le (fun x => decide (x = ((u : Int), (w : Int)) ∨ x = ((w : Int), (u : Int)))) l
    omega
theorem valC_bd (l : List (Int × Int)) (u : Nat) : 0 ≤ valC l u ∧ valC l u ≤ l.length := by
  unfold valC
  have := List.length_filter_le (fun x => decide (x.1 ≠ x.2 ∧ (x.1 = (u : Int) ∨ x.2 = (u : Int)))) l
  omega
/-- A table, and a list, of n numbers. -/
def tabL (n : Nat) (f : Nat → Nat → Int) : List (List Int) := (List.range n).map fun u => (List.range n).map (f u)
def lisL (n : Nat) (f : Nat → Int) : List Int := (List.range n).map f
theorem tabL_rows {n : Nat} {es : List Ed} (hg : GoodG n es) : tabL n (joinC (endsL es)) = rowsL n es := by
  unfold tabL rowsL rowL
  refine List.map_congr_left fun u _ => List.map_congr_left fun w _ => ?_
  exact joinC_ends hg.right hg.asc u w
theorem lisL_vals {n : Nat} {es : List Ed} (hg : GoodG n es) : lisL n (valC (endsL es)) = valsL n es := by
  unfold lisL valsL
  refine List.map_congr_left fun u hu => ?_
  have := List.mem_range.1 hu
  rw [valC_ends hg.right, valTo_all hg.right hg.asc u ⟨by omega, by omega⟩]
theorem lisL_zero (n : Nat) : List.replicate n 0 = lisL n (valC []) := by
  unfold lisL valC
  refine List.ext_getElem (by simp) fun i h1 h2 => by simp
theorem zrow (n : Nat) (u : Nat) : (List.replicate n 0) = (List.range n).map (joinC [] u) := by
  refine List.ext_getElem (by simp) fun i h1 h2 => by simp [joinC]
theorem lisL_set {n : Nat} {l : List (Int × Int)} {a b : Nat} (ha : a < n) (hb : b < n) (hab : a ≠ b) :
    (((lisL n (valC l)).map PV.i).set a (PV.i (valC l a + 1))).set b (PV.i (valC l b + 1)) = (lisL n (valC (l ++ [((a : Int), (b : Int))]))).map PV.i := by
  rw [← List.map_set, ← List.map_set]
  congr 1
  refine ext_getD (by simp [lisL]) fun u hu => ?_
  have hu' : u < n := by simpa [lisL] using hu
  simp only [getD_set, List.length_set, lisL, rg_get, List.length_map, List.length_range, valC_snoc, hu', if_true, ha, hb, and_true]
  by_cases h1 : b = u
  · subst h1
    have h3 : (a : Int) ≠ b := by omega
    simp [h3]
  · by_cases h2 : a = u
    · subst h2
      have h3 : (a : Int) ≠ b := by omega
      simp [h1, h3]
    · have h3 : ¬ ((a : Int) ≠ b ∧ ((a : Int) = u ∨ (b : Int) = u)) := by omega
      simp only [h1, h2, if_false, if_neg h3, Int.add_zero]
def tabR (n : Nat) (f : Nat → Nat → Int) : List AO := (tabL n f).map rowI
theorem tabR_len (n : Nat) (f : Nat → Nat → Int) : (tabR n f).length = n := by simp [tabR, tabL]
theorem tabR_get {n : Nat} {f : Nat → Nat → Int} {a : Nat} (ha : a < n) : (tabR n f)[a]? = some (rowI (lisL n (f a))) := by simp [tabR, tabL, lisL, ha]
theorem row_get {n : Nat} {f : Nat → Int} {a : Nat} (ha : a < n) : ((lisL n f).map PV.i)[a]? = some (.i (f a)) := by simp [lisL, ha]
theorem tabR_set {n : Nat} {l : List (Int × Int)} {a b : Nat} (ha : a < n) (hb : b < n) (hab : a ≠ b) :
    ((tabR n (joinC l)).set a (.row (((lisL n (joinC l a)).map PV.i).set b (PV.i (joinC l a b + 1))) 1 3 false)).set b (.row (((lisL n (joinC l b)).map PV.i).set a (PV.i (joinC l b a + 1))) 1 3 false) = tabR n (joinC (l ++ [((a : Int), (b : Int))])) := by
  have key : ∀ u w : Nat, u < n → w < n → (u = a ∧ w = b ∨ u = b ∧ w = a) → (lisL n (joinC l u)).set w (joinC l u w + 1) = lisL n (joinC (l ++ [((a : Int), (b : Int))]) u) := by
    intro u w hu hw h
    refine ext_getD (by simp [lisL]) fun i hi => ?_
    have hi' : i < n := by simpa [lisL] using hi
    simp only [getD_set, lisL, rg_get, List.length_map, List.length_range, hi', hw, and_true, if_true, joinC_snoc, Prod.mk.injEq]
    by_cases h1 : w = i
    · subst h1
      rw [if_pos rfl, if_pos]
      omega
    · rw [if_neg h1, if_neg]
      · omega
      · omega
  refine List.ext_getElem? fun i => ?_
  by_cases hi : i < n
  · rw [tabR_get hi, List.getElem?_set, List.getElem?_set]
    simp only [List.length_set, tabR_len]
    by_cases h1 : b = i
    · subst h1
      rw [if_pos rfl, if_pos hb, ← List.map_set, key b a hb ha (.inr ⟨rfl, rfl⟩)]
    · rw [if_neg h1]
      by_cases h2 : a = i
      · subst h2
        rw [if_pos rfl, if_pos ha, ← List.map_set, key a b ha hb (.inl ⟨rfl, rfl⟩)]
      · rw [if_neg h2, tabR_get hi]
        have e : joinC l i = joinC (l ++ [((a : Int), (b : Int))]) i := funext fun w => by
          rw [joinC_snoc, if_neg (by simp only [Prod.mk.injEq]; omega)]
          omega
        rw [e]
  · rw [List.getElem?_eq_none (by simp [tabR_len]; omega), List.getElem?_eq_none (by simp [tabR_len]; omega)]
end Go.Proofs.Ytgjaekbbdmhjlaa
