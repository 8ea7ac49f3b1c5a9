/-
  Plain laws: odometers of few chips are small.
-/
import Derived.Test.YthdbmoflbnggpaaZr
set_option linter.unusedSimpArgs false
set_option linter.unusedVariables false
namespace Go.Proofs.Ythdbmoflbnggpaa
open Go.Abs Go.Sand

/-- How many of the first k vertices are in a set. -/
def cntS (A : Nat → Bool) : Nat → Nat
  | 0 => 0
  | k + 1 => cntS A k + if A k = true then 1 else 0
theorem cntS_le (A : Nat → Bool) : ∀ k, cntS A k ≤ k
  | 0 => Nat.le_refl 0
  | k + 1 => by have := cntS_le A k; simp only [cntS]; split <;> omega
theorem cntS_mono {A B : Nat → Bool} (h : ∀ v, A v = true → B v = true) : ∀ k, cntS A k ≤ cntS B k
  | 0 => Nat.le_refl 0
  | k + 1 => by
    have := cntS_mono h k
    simp only [cntS]
    cases ha : A k
    · simp; omega
    · rw [h k ha]; simp; omega
theorem cntS_less {A B : Nat → Bool} (h : ∀ v, A v = true → B v = true) {u : Nat} (hu : B u = true) (hn : A u = false) : ∀ k, u < k → cntS A k + 1 ≤ cntS B k
  | 0, h0 => by omega
  | k + 1, hk => by
    simp only [cntS]
    by_cases e : u = k
    · subst e
      have := cntS_mono h u
      rw [hu, hn]; simp; omega
    · have := cntS_less h hu hn k (by omega)
      cases ha : A k
      · simp; omega
      · rw [h k ha]; simp; omega
theorem cntS_none {A : Nat → Bool} {n : Nat} (h : cntS A n = 0) : ∀ v, v < n → A v = false := by
  induction n with
  | zero => intro v hv; omega
  | succ n ih =>
    simp only [cntS] at h
    intro v hv
    rcases Nat.lt_or_ge v n with h1 | h1
    · exact ih (by omega) v h1
    · have e : v = n := by omega
      rw [e]
      cases ha : A n
      · rfl
      · rw [ha] at h; simp at h
section
variable {n : Nat} {es : List Ed} (hg : GoodG n es)
include hg
/-- What flows out of a set of vertices. -/
theorem flow_out (s : List Int) (A : Nat → Bool) : sumN (fun v => if A v = true then dif es s v else 0) n = sumN (fun v => sumN (fun u => if A v = true ∧ A u = false then joinE es v u * (s.getD u 0 - s.getD v 0) else 0) n) n := by
  have e1 : ∀ v, (if A v = true then dif es s v else 0) = sumN (fun u => if A v = true then joinE es v u * (s.getD u 0 - s.getD v 0) else 0) n := by
    intro v
    cases hA : A v
    · simp [sumN_zero]
    · simp only [if_true]
      rw [dif_sum hg, valTo_sum, ← sumN_mul]
      have : ∀ k, sumN (fun u => joinE es v u * s.getD u 0) k - sumN (fun u => s.getD v 0 * joinE es v u) k = sumN (fun u => joinE es v u * (s.getD u 0 - s.getD v 0)) k := by
        intro k
        induction k with
        | zero => rfl
        | succ k ih =>
          simp only [sumN]
          rw [← ih, Int.mul_sub, Int.mul_comm (joinE es v k) (s.getD v 0)]
          omega
      exact this n
  have e2 : sumN (fun v => if A v = true then dif es s v else 0) n = sumN (fun v => sumN (fun u => if A v = true then joinE es v u * (s.getD u 0 - s.getD v 0) else 0) n) n := sumN_congr fun v _ => e1 v
  have e3 : ∀ v u, (if A v = true then joinE es v u * (s.getD u 0 - s.getD v 0) else 0) = (if A v = true ∧ A u = false then joinE es v u * (s.getD u 0 - s.getD v 0) else 0) + (if A v = true ∧ A u = true then joinE es v u * (s.getD u 0 - s.getD v 0) else 0) := by
    intro v u
    cases A v <;> cases A u <;> simp
  have e4 : sumN (fun v => sumN (fun u => if A v = true ∧ A u = true then joinE es v u * (s.getD u 0 - s.getD v 0) else 0) n) n = 0 := by
    have h := sumN_swap (fun v u => if A v = true ∧ A u = true then joinE es v u * (s.getD u 0 - s.getD v 0) else 0) n n
    have h2 : sumN (fun v => sumN (fun u => if A u = true ∧ A v = true then joinE es u v * (s.getD v 0 - s.getD u 0) else 0) n) n = - sumN (fun v => sumN (fun u => if A v = true ∧ A u = true then joinE es v u * (s.getD u 0 - s.getD v 0) else 0) n) n := by
      have neg : ∀ (f : Nat → Int) k, sumN (fun u => - f u) k = - sumN f k := by
        intro f k
        induction k with
        | zero => rfl
        | succ k ih => simp only [sumN, ih]; omega
      rw [← neg]
      refine sumN_congr fun v _ => ?_
      rw [← neg]
      refine sumN_congr fun u _ => ?_
      rw [joinE_sym u v]
      by_cases h1 : A u = true ∧ A v = true
      · rw [if_pos h1, if_pos ⟨h1.2, h1.1⟩, ← Int.mul_neg]
        congr 1
        omega
      · rw [if_neg h1, if_neg (fun h2 => h1 ⟨h2.2, h2.1⟩)]; rfl
    omega
  rw [e2, show sumN (fun v => sumN (fun u => if A v = true then joinE es v u * (s.getD u 0 - s.getD v 0) else 0) n) n = sumN (fun v => sumN (fun u => if A v = true ∧ A u = false then joinE es v u * (s.getD u 0 - s.getD v 0) else 0) n + sumN (fun u => if A v = true ∧ A u = true then joinE es v u * (s.getD u 0 - s.getD v 0) else 0) n) n from
    sumN_congr fun v _ => by rw [← sumN_add]; exact sumN_congr fun u _ => e3 v u]
  rw [sumN_add, e4, Int.add_zero]
/-- Out of each set of vertices, but none or all, leads a single edge. -/
theorem edge_out (hp : partsN es n = 1) (A : Nat → Bool) {a b : Nat} (ha : a < n) (hb : b < n) (hAa : A a = true) (hAb : A b = false) : ∃ u w, u < n ∧ w < n ∧ A u = true ∧ A w = false ∧ 1 ≤ joinE es u w := by
  have hn := hg.n12
  refine Classical.byContradiction fun hno => ?_
  have hcl : ∀ u u', cls es u = cls es u' → (A u = true ↔ A u' = true) := by
    intro u u' h
    have := cls_closed (n := n) (es := es) (fun y => A y = true) (fun x hx => by
      have r := hg.right x hx
      have h1 := r.m1
      have h2 := r.a0
      have h3 := r.b0
      have h4 := r.an
      have h5 := r.bn
      have hne : ∀ u w : Nat, u < n → w < n → A u = true → A w = false → joinE es u w ≤ 0 := fun u w h1 h2 h3 h4 => by
        refine Classical.byContradiction fun h5 => hno ⟨u, w, h1, h2, h3, h4, by omega⟩
      by_cases hab : x.a.toNat = x.b.toNat
      · rw [hab]
      · have hadj := (adj_of (n := n) hg.right hx).1
        unfold adj at hadj
        have hj : 0 < joinE es x.a.toNat x.b.toNat := by
          rw [joinE, if_neg (fun e => hab e.symm), Int.min_comm, Int.max_comm]
          exact hadj
        have hj2 : 0 < joinE es x.b.toNat x.a.toNat := by rw [joinE_sym]; exact hj
        constructor
        · intro h6
          cases h7 : A x.b.toNat
          · have := hne _ _ (by omega) (by omega) h6 h7; omega
          · rfl
        · intro h6
          cases h7 : A x.a.toNat
          · have := hne _ _ (by omega) (by omega) h6 h7; omega
          · rfl) es.length (Nat.le_refl _) u u'
    rw [List.take_length] at this
    exact this h
  have hF := ufJ_forest (n := n) (by omega) hg.right es.length (Nat.le_refl _)
  rw [List.take_length] at hF
  have root : ∀ u, u < n → cls es u ∈ rootsL es n := fun u hu => by
    obtain ⟨h1, h2⟩ := hF.le u (by omega)
    refine List.mem_filter.2 ⟨List.mem_range.2 ?_, decide_eq_true h2⟩
    show (ufJ es).2 u < n
    omega
  obtain ⟨r, hr⟩ := List.length_eq_one_iff.1 hp
  have h1 := root a ha
  have h2 := root b hb
  rw [hr] at h1 h2
  have h3 : cls es a = cls es b := by rw [List.mem_singleton.1 h1, List.mem_singleton.1 h2]
  have := (hcl a b h3).1 hAa
  rw [hAb] at this
  cases this
end
section
variable {n : Nat} {es : List Ed} {q : Int} {d : List Int}
/-- THE ODOMETER OF FEW CHIPS: nowhere more than D for each vertex. -/
theorem odo_small (h : StOk n es q d) {s : List Int} (hs : Leg n es q d s) {D : Int} (hD : ∀ A : Nat → Bool, (∀ v, A v = true → (v : Int) ≠ q) → sumN (fun v => if A v = true then d.getD v 0 - (movedE es s d).getD v 0 else 0) n ≤ D) (hD0 : 0 ≤ D) : ∀ i, s.getD i 0 ≤ n * D := by
  have hg := h.g
  have hsl := hs.len
  obtain ⟨p, hp⟩ : ∃ p : Nat, q = p := ⟨q.toNat, by have := h.q0; omega⟩
  have hpn : p < n := by have := h.qn; omega
  have key : ∀ j : Nat, j < n → cntS (fun v => decide ((j : Int) * D < s.getD v 0)) n + j + 1 ≤ n := by
    intro j
    induction j with
    | zero =>
      intro _
      have := cntS_less (A := fun v => decide (((0 : Nat) : Int) * D < s.getD v 0)) (B := fun _ => true) (fun _ _ => rfl) (u := p) rfl (by
        rw [decide_eq_false_iff_not, hs.sink p hp.symm]
        simp) n hpn
      have := cntS_le (fun _ => true) n
      omega
    | succ j ih =>
      intro hj
      have ih := ih (by omega)
      obtain ⟨A, hA⟩ : ∃ A : Nat → Bool, A = fun v => decide ((j : Int) * D < s.getD v 0) := ⟨_, rfl⟩
      have hAv : ∀ v, A v = true ↔ (j : Int) * D < s.getD v 0 := fun v => by rw [hA]; simp
      have hjD : 0 ≤ (j : Int) * D := Int.mul_nonneg (by omega) hD0
      have hsucc : ((j + 1 : Nat) : Int) * D = (j : Int) * D + D := by push_cast; rw [Int.add_mul, Int.one_mul]
      rw [← hA] at ih
      have hmono : ∀ v, decide (((j + 1 : Nat) : Int) * D < s.getD v 0) = true → A v = true := fun v hv => by
        rw [hAv]
        have := of_decide_eq_true hv
        omega
      by_cases hne : ∃ a, a < n ∧ A a = true
      · obtain ⟨a, ha, hAa⟩ := hne
        have hAp : A p = false := by
          cases hh : A p
          · rfl
          · have := (hAv p).1 hh
            rw [hs.sink p hp.symm] at this
            omega
        obtain ⟨u, w, hu, hw, hAu, hAw, hj1⟩ := edge_out hg h.parts A ha hpn hAa hAp
        have hfl := flow_out hg s A
        have hDA := hD A (fun v hv e => by
          have e : v = p := by omega
          rw [e, hAp] at hv; cases hv)
        have e1 : sumN (fun v => if A v = true then d.getD v 0 - (movedE es s d).getD v 0 else 0) n = - sumN (fun v => if A v = true then dif es s v else 0) n := by
          have neg : ∀ (f : Nat → Int) k, sumN (fun u => - f u) k = - sumN f k := by
            intro f k
            induction k with
            | zero => rfl
            | succ k ih => simp only [sumN, ih]; omega
          rw [← neg]
          refine sumN_congr fun v _ => ?_
          rw [aft_eq hg h.c.len]
          split <;> omega
        -- one term of the flow is at least the step from w to u
        have hterm : ∀ v x, 0 ≤ (if A v = true ∧ A x = false then joinE es v x * (s.getD v 0 - s.getD x 0) else 0) := by
          intro v x
          split
          · rename_i hh
            have h1 := (hAv v).1 hh.1
            have h2 : ¬ (j : Int) * D < s.getD x 0 := fun h3 => by rw [(hAv x).2 h3] at hh; exact absurd hh.2 (by simp)
            exact Int.mul_nonneg (joinE_bd hg v x).1 (by omega)
          · exact Int.le_refl 0
        have hpick : ∀ (f : Nat → Int) k, (∀ y, 0 ≤ f y) → ∀ y, y < k → f y ≤ sumN f k := by
          intro f k hf
          induction k with
          | zero => intro y hy; omega
          | succ k ih =>
            intro y hy
            simp only [sumN]
            rcases Nat.lt_or_ge y k with h1 | h1
            · have := ih y h1; have := hf k; omega
            · have e : y = k := by omega
              rw [e]
              have := sumN_nonneg (f := f) (k := k) fun z _ => hf z
              omega
        have e2 : - sumN (fun v => sumN (fun x => if A v = true ∧ A x = false then joinE es v x * (s.getD x 0 - s.getD v 0) else 0) n) n = sumN (fun v => sumN (fun x => if A v = true ∧ A x = false then joinE es v x * (s.getD v 0 - s.getD x 0) else 0) n) n := by
          have neg : ∀ (f : Nat → Int) k, sumN (fun u => - f u) k = - sumN f k := by
            intro f k
            induction k with
            | zero => rfl
            | succ k ih => simp only [sumN, ih]; omega
          rw [← neg]
          refine sumN_congr fun v _ => ?_
          rw [← neg]
          refine sumN_congr fun x _ => ?_
          split
          · rw [← Int.mul_neg]; congr 1; omega
          · rfl
        have h1 := hpick (fun v => sumN (fun x => if A v = true ∧ A x = false then joinE es v x * (s.getD v 0 - s.getD x 0) else 0) n) n (fun v => sumN_nonneg fun x _ => hterm v x) u hu
        have h2 := hpick (fun x => if A u = true ∧ A x = false then joinE es u x * (s.getD u 0 - s.getD x 0) else 0) n (fun x => hterm u x) w hw
        rw [if_pos ⟨hAu, hAw⟩] at h2
        have h3 := (hAv u).1 hAu
        have h4 : ¬ (j : Int) * D < s.getD w 0 := fun h5 => by rw [(hAv w).2 h5] at hAw; cases hAw
        have h6 : s.getD u 0 - s.getD w 0 ≤ joinE es u w * (s.getD u 0 - s.getD w 0) := by
          have : 1 * (s.getD u 0 - s.getD w 0) ≤ joinE es u w * (s.getD u 0 - s.getD w 0) := Int.mul_le_mul_of_nonneg_right hj1 (by omega)
          omega
        have hlast := cntS_less hmono hAu (by
          rw [decide_eq_false_iff_not, hsucc]
          omega) n hu
        omega
      · have h0 : cntS (fun v => decide (((j + 1 : Nat) : Int) * D < s.getD v 0)) n = 0 := by
          have : ∀ k, k ≤ n → cntS (fun v => decide (((j + 1 : Nat) : Int) * D < s.getD v 0)) k = 0 := by
            intro k
            induction k with
            | zero => intro _; rfl
            | succ k ih2 =>
              intro hk
              simp only [cntS]
              rw [ih2 (by omega), if_neg (fun hh => hne ⟨k, by omega, hmono k hh⟩)]
          exact this n (Nat.le_refl _)
        omega
  intro i
  by_cases hi : i < n
  · have hk := key (n - 1) (by omega)
    have h0 : cntS (fun v => decide (((n - 1 : Nat) : Int) * D < s.getD v 0)) n = 0 := by omega
    have := cntS_none h0 i hi
    rw [decide_eq_false_iff_not] at this
    have : ((n - 1 : Nat) : Int) * D ≤ n * D := Int.mul_le_mul_of_nonneg_right (by omega) hD0
    omega
  · rw [List.getD_eq_getElem?_getD, List.getElem?_eq_none (by omega)]
    have : 0 ≤ (n : Int) * D := Int.mul_nonneg (by omega) hD0
    simpa using this
end
end Go.Proofs.Ythdbmoflbnggpaa
