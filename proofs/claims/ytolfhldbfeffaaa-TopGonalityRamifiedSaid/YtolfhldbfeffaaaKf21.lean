/-
  Texts joined: Rb Rc Rd Re Rf.
-/
import Derived.Test.YtolfhldbfeffaaaKf20

section
namespace Go
namespace Sand
/-- How many of the first k vertices are in a set. -/
def cF (A : Nat → Bool) : Nat → Nat
  | 0 => 0
  | k + 1 => cF A k + if A k = true then 1 else 0
theorem cF_le (A : Nat → Bool) : ∀ k, cF A k ≤ k
  | 0 => Nat.le_refl 0
  | k + 1 => by have := cF_le A k; simp only [cF]; split <;> omega
theorem cF_mono {A B : Nat → Bool} (h : ∀ v, A v = true → B v = true) : ∀ k, cF A k ≤ cF B k
  | 0 => Nat.le_refl 0
  | k + 1 => by
    have := cF_mono h k
    simp only [cF]
    cases ha : A k
    · simp; omega
    · rw [h k ha]; simp; omega
theorem cF_less {A B : Nat → Bool} (h : ∀ v, A v = true → B v = true) {u : Nat} (hu : B u = true) (hn : A u = false) : ∀ k, u < k → cF A k + 1 ≤ cF B k
  | 0, h0 => by omega
  | k + 1, hk => by
    simp only [cF]
    by_cases e : u = k
    · subst e
      have := cF_mono h u
      rw [hu, hn]; simp; omega
    · have := cF_less h hu hn k (by omega)
      cases ha : A k
      · simp; omega
      · rw [h k ha]; simp; omega
theorem cF_full {A : Nat → Bool} {n : Nat} (h : n ≤ cF A n) : ∀ v, v < n → A v = true := by
  intro v hv
  cases ha : A v
  · have h1 := cF_less (A := A) (B := fun _ => true) (fun _ _ => rfl) (u := v) rfl ha n hv
    have h2 := cF_le (fun _ => true) n
    omega
  · rfl
theorem cF_none {A : Nat → Bool} {n : Nat} (h : cF A n = 0) : ∀ v, v < n → A v = false := by
  intro v hv
  cases ha : A v
  · rfl
  · have h1 := cF_less (A := fun _ => false) (B := A) (fun _ h => by cases h) (u := v) ha rfl n hv
    omega
theorem cF_add {A : Nat → Bool} {v : Nat} (hn : A v = false) : ∀ k, cF (fun u => A u || decide (u = v)) k = cF A k + if v < k then 1 else 0
  | 0 => by simp [cF]
  | k + 1 => by
    have ih := cF_add hn k
    have e1 : cF (fun u => A u || decide (u = v)) (k + 1) = cF (fun u => A u || decide (u = v)) k + if (A k || decide (k = v)) = true then 1 else 0 := rfl
    have e2 : cF A (k + 1) = cF A k + if A k = true then 1 else 0 := rfl
    rw [e1, e2, ih]
    by_cases e : k = v
    · subst e
      simp [hn]
    · by_cases h : v < k
      · simp [e, h, show v < k + 1 by omega]; omega
      · simp [e, h, show ¬ v < k + 1 by omega]
section
variable {n : Nat} {J : Nat → Nat → Int} (hM : MG n J)
include hM
/-- What flows out of a set of vertices. -/
theorem flowF (s : Nat → Int) (A : Nat → Bool) : sumN (fun v => if A v = true then lapF n J s v else 0) n = sumN (fun v => sumN (fun u => if A v = true ∧ A u = false then J v u * (s u - s v) else 0) n) n := by
  have e2 : sumN (fun v => if A v = true then lapF n J s v else 0) n = sumN (fun v => sumN (fun u => if A v = true then J v u * (s u - s v) else 0) n) n := by
    refine sumN_congr fun v _ => ?_
    cases A v
    · simp [sumN_zero]
    · simp only [if_true]; rfl
  have e3 : ∀ v u, (if A v = true then J v u * (s u - s v) else 0) = (if A v = true ∧ A u = false then J v u * (s u - s v) else 0) + (if A v = true ∧ A u = true then J v u * (s u - s v) else 0) := by
    intro v u
    cases A v <;> cases A u <;> simp
  have e4 : sumN (fun v => sumN (fun u => if A v = true ∧ A u = true then J v u * (s u - s v) else 0) n) n = 0 := by
    have h := sumN_swap (fun v u => if A v = true ∧ A u = true then J v u * (s u - s v) else 0) n n
    have h2 : sumN (fun v => sumN (fun u => if A u = true ∧ A v = true then J u v * (s v - s u) else 0) n) n = - sumN (fun v => sumN (fun u => if A v = true ∧ A u = true then J v u * (s u - s v) else 0) n) n := by
      rw [← sumN_neg']
      refine sumN_congr fun v _ => ?_
      rw [← sumN_neg']
      refine sumN_congr fun u _ => ?_
      rw [hM.sym u v]
      by_cases h1 : A u = true ∧ A v = true
      · rw [if_pos h1, if_pos ⟨h1.2, h1.1⟩, ← Int.mul_neg]
        congr 1
        omega
      · rw [if_neg h1, if_neg (fun h2 => h1 ⟨h2.2, h2.1⟩)]; rfl
    omega
  rw [e2, show sumN (fun v => sumN (fun u => if A v = true then J v u * (s u - s v) else 0) n) n = sumN (fun v => sumN (fun u => if A v = true ∧ A u = false then J v u * (s u - s v) else 0) n + sumN (fun u => if A v = true ∧ A u = true then J v u * (s u - s v) else 0) n) n from
    sumN_congr fun v _ => by rw [← sumN_add]; exact sumN_congr fun u _ => e3 v u]
  rw [sumN_add, e4, Int.add_zero]
/-- A script is nowhere far above its value at q, if little flows out of any set without q. -/
theorem flow_bound {s : Nat → Int} {q : Nat} (hq : q < n) {D : Int} (hD0 : 0 ≤ D) (hD : ∀ A : Nat → Bool, A q = false → - sumN (fun v => if A v = true then lapF n J s v else 0) n ≤ D) : ∀ v, v < n → s v ≤ s q + ((n : Int) - 1) * D := by
  have key : ∀ j : Nat, j < n → cF (fun v => decide (s q + (j : Int) * D < s v)) n + j + 1 ≤ n := by
    intro j
    induction j with
    | zero =>
      intro _
      have := cF_less (A := fun v => decide (s q + ((0 : Nat) : Int) * D < s v)) (B := fun _ => true) (fun _ _ => rfl) (u := q) rfl (by
        rw [decide_eq_false_iff_not]
        simp) n hq
      have := cF_le (fun _ => true) n
      omega
    | succ j ih =>
      intro hj
      have ih := ih (by omega)
      obtain ⟨A, hA⟩ : ∃ A : Nat → Bool, A = fun v => decide (s q + (j : Int) * D < s v) := ⟨_, rfl⟩
      have hAv : ∀ v, A v = true ↔ s q + (j : Int) * D < s v := fun v => by rw [hA]; simp
      have hjD : 0 ≤ (j : Int) * D := Int.mul_nonneg (by omega) hD0
      have hsucc : ((j + 1 : Nat) : Int) * D = (j : Int) * D + D := by push_cast; rw [Int.add_mul, Int.one_mul]
      rw [← hA] at ih
      have hmono : ∀ v, decide (s q + ((j + 1 : Nat) : Int) * D < s v) = true → A v = true := fun v hv => by
        rw [hAv]
        have := of_decide_eq_true hv
        omega
      by_cases hne : ∃ a, a < n ∧ A a = true
      · obtain ⟨a, ha, hAa⟩ := hne
        have hAp : A q = false := by
          cases hh : A q
          · rfl
          · have := (hAv q).1 hh
            omega
        obtain ⟨u, w, hu, hw, hAu, hAw, hj1⟩ := hM.conn A a q ha hq hAa hAp
        have hfl := flowF hM s A
        have hDA := hD A hAp
        have hterm : ∀ v x, A v = true ∧ A x = false → J v x * (s x - s v) ≤ 0 := by
          rintro v x ⟨h1, h2⟩
          have h3 := (hAv v).1 h1
          have h4 : ¬ (s q + (j : Int) * D < s x) := fun e => by rw [(hAv x).2 e] at h2; cases h2
          exact Int.mul_nonpos_of_nonneg_of_nonpos (hM.nn v x) (by omega)
        have h5 : sumN (fun v => sumN (fun x => if A v = true ∧ A x = false then J v x * (s x - s v) else 0) n) n ≤ J u w * (s w - s u) := by
          have := sumN_term (f := fun v => - sumN (fun x => if A v = true ∧ A x = false then J v x * (s x - s v) else 0) n) (k := n) (v := u) (fun v hv => by
            rw [← sumN_neg']
            refine sumN_nonneg fun x hx => ?_
            split
            · rename_i h; have := hterm v x h; omega
            · omega) hu
          rw [sumN_neg'] at this
          have h6 := sumN_term (f := fun x => - (if A u = true ∧ A x = false then J u x * (s x - s u) else 0)) (k := n) (v := w) (fun x hx => by
            split
            · rename_i h; have := hterm u x h; omega
            · omega) hw
          rw [sumN_neg', if_pos ⟨hAu, hAw⟩] at h6
          omega
        have h7 : s u - s w ≤ D := by
          have h8 : 1 * (s u - s w) ≤ J u w * (s u - s w) := by
            have h3 := (hAv u).1 hAu
            have h4 : ¬ (s q + (j : Int) * D < s w) := fun e => by rw [(hAv w).2 e] at hAw; cases hAw
            exact Int.mul_le_mul_of_nonneg_right hj1 (by omega)
          have h9 : J u w * (s w - s u) = - (J u w * (s u - s w)) := by
            rw [← Int.mul_neg]; congr 1; omega
          omega
        have hnot : decide (s q + ((j + 1 : Nat) : Int) * D < s u) = false := by
          rw [decide_eq_false_iff_not]
          have h4 : ¬ (s q + (j : Int) * D < s w) := fun e => by rw [(hAv w).2 e] at hAw; cases hAw
          omega
        have := cF_less (A := fun v => decide (s q + ((j + 1 : Nat) : Int) * D < s v)) (B := A) hmono hAu hnot n hu
        omega
      · have h0 : cF (fun v => decide (s q + ((j + 1 : Nat) : Int) * D < s v)) n = 0 := by
          refine Classical.byContradiction fun h => ?_
          have : ∀ k, k ≤ n → cF (fun v => decide (s q + ((j + 1 : Nat) : Int) * D < s v)) k = 0 := by
            intro k
            induction k with
            | zero => intro _; rfl
            | succ k ih2 =>
              intro hk
              simp only [cF, ih2 (by omega)]
              rw [if_neg fun e => hne ⟨k, by omega, hmono k e⟩]
          exact h (this n (Nat.le_refl n))
        omega
  intro v hv
  have h := key (n - 1) (by omega)
  have h0 : cF (fun v => decide (s q + ((n - 1 : Nat) : Int) * D < s v)) n = 0 := by omega
  have := of_decide_eq_false (cF_none h0 v hv)
  have e : ((n - 1 : Nat) : Int) = (n : Int) - 1 := by omega
  rw [e] at this
  omega
/-- How many edges lead to vertices ahead of a vertex in an order. -/
def ahF (n : Nat) (J : Nat → Nat → Int) (P : Nat → Int) (v : Nat) : Int := sumN (fun u => if P u < P v then J v u else 0) n
def InjF (n : Nat) (P : Nat → Int) : Prop := ∀ u v, u < n → v < n → P u = P v → u = v
omit hM in
theorem burn_step {q : Nat} (hq : q < n) {r : Nat → Int} (hr : RedF n J q r) : ∀ k, k + 1 ≤ n → ∃ (P : Nat → Int) (B : Nat → Bool), cF B n = k + 1 ∧ B q = true ∧ P q = 0 ∧ (∀ u, u < n → B u = true → 0 ≤ P u ∧ P u ≤ k) ∧
    (∀ u v, u < n → v < n → B u = true → B v = true → P u = P v → u = v) ∧ (∀ v, v < n → B v = true → v ≠ q → 0 < P v ∧ r v + 1 ≤ sumN (fun u => if B u = true ∧ P u < P v then J v u else 0) n)
  | 0, _ => by
    refine ⟨fun _ => 0, fun u => decide (u = q), ?_, by simp, rfl, fun u _ _ => by dsimp only; omega, fun u v _ _ h1 h2 _ => ?_, fun v _ h1 h2 => absurd (of_decide_eq_true h1) h2⟩
    · have := cF_add (A := fun _ => false) (v := q) rfl n
      have h0 : ∀ k, cF (fun _ => false) k = 0 := fun k => by
        induction k with
        | zero => rfl
        | succ k ih => simp only [cF, ih]; rfl
      rw [h0, if_pos hq] at this
      simpa using this
    · rw [of_decide_eq_true h1, of_decide_eq_true h2]
  | k + 1, hk => by
    obtain ⟨P, B, h1, h2, hPq, h3, h4, h5⟩ := burn_step hq hr k (by omega)
    have hex : ∃ v, v < n ∧ (!B v) = true := by
      refine Classical.byContradiction fun h => ?_
      have hall : ∀ v, v < n → B v = true := fun v hv => by
        cases hb : B v
        · exact absurd ⟨v, hv, by rw [hb]; rfl⟩ h
        · rfl
      have hc : ∀ k, k ≤ n → cF B k = k := fun k => by
        induction k with
        | zero => intro _; rfl
        | succ k ih => intro hk; simp only [cF, ih (by omega), hall k (by omega)]; rfl
      have := hc n (Nat.le_refl n)
      omega
    obtain ⟨v, hv, hBv, hlt⟩ := hr.2 (fun u => !B u) (by rw [h2]; rfl) hex
    have hBv' : B v = false := by simpa using hBv
    have hvq : v ≠ q := fun e => by subst e; rw [h2] at hBv'; cases hBv'
    obtain ⟨P', hPv, hPo⟩ : ∃ P' : Nat → Int, P' v = (k : Int) + 1 ∧ ∀ u, u ≠ v → P' u = P u := ⟨fun u => if u = v then (k : Int) + 1 else P u, if_pos rfl, fun u hu => if_neg hu⟩
    obtain ⟨B', hBc, hBv2, hBo⟩ : ∃ B' : Nat → Bool, cF B' n = cF B n + 1 ∧ B' v = true ∧ ∀ u, u ≠ v → B' u = B u := ⟨fun u => B u || decide (u = v), by rw [cF_add hBv', if_pos hv], by simp, fun u hu => by simp [hu]⟩
    refine ⟨P', B', by omega, by rw [hBo q (fun e => hvq e.symm)]; exact h2, by rw [hPo q (fun e => hvq e.symm)]; exact hPq, fun u hu hb => ?_, fun u w hu hw hbu hbw he => ?_, fun w hw hbw hwq => ?_⟩
    · by_cases e : u = v
      · subst e; rw [hPv]; omega
      · rw [hBo u e] at hb
        have := h3 u hu hb
        rw [hPo u e]; omega
    · by_cases e : u = v
      · by_cases e2 : w = v
        · rw [e, e2]
        · rw [hBo w e2] at hbw
          have := h3 w hw hbw
          rw [e, hPv, hPo w e2] at he; omega
      · rw [hBo u e] at hbu
        by_cases e2 : w = v
        · have := h3 u hu hbu
          rw [hPo u e, e2, hPv] at he; omega
        · rw [hBo w e2] at hbw
          rw [hPo u e, hPo w e2] at he
          exact h4 u w hu hw hbu hbw he
    · by_cases e : w = v
      · subst e
        refine ⟨by rw [hPv]; omega, ?_⟩
        have e1 : sumN (fun u => if B' u = true ∧ P' u < P' w then J w u else 0) n = outF n J (fun u => !B u) w := by
          unfold outF
          refine sumN_congr fun u hu => ?_
          by_cases e3 : u = w
          · subst e3
            rw [if_neg (fun h => Int.lt_irrefl _ h.2), if_pos (by dsimp only; rw [hBv']; rfl)]
          · cases hb : B u
            · rw [if_neg (fun h => by rw [hBo u e3, hb] at h; cases h.1), if_pos (by dsimp only; rw [hb]; rfl)]
            · have := h3 u hu hb
              rw [if_pos ⟨by rw [hBo u e3, hb], by rw [hPo u e3, hPv]; omega⟩, if_neg (by dsimp only; rw [hb]; simp)]
        rw [e1]
        omega
      · rw [hBo w e] at hbw
        obtain ⟨g1, g2⟩ := h5 w hw hbw hwq
        have hPw := h3 w hw hbw
        refine ⟨by rw [hPo w e]; exact g1, ?_⟩
        have e1 : sumN (fun u => if B' u = true ∧ P' u < P' w then J w u else 0) n = sumN (fun u => if B u = true ∧ P u < P w then J w u else 0) n := by
          refine sumN_congr fun u hu => ?_
          by_cases e3 : u = v
          · subst e3
            rw [if_neg (fun h => by have := h.2; rw [hPv, hPo w e] at this; omega), if_neg (fun h => by rw [hBv'] at h; cases h.1)]
          · rw [hBo u e3, hPo u e3, hPo w e]
        rw [e1]
        exact g2
omit hM in
/-- THE ORDER IN WHICH A REDUCED DIVISOR BURNS. -/
theorem burn_order {q : Nat} (hq : q < n) {r : Nat → Int} (hr : RedF n J q r) : ∃ P : Nat → Int, InjF n P ∧ (∀ v, v < n → 0 ≤ P v) ∧ P q = 0 ∧ ∀ v, v < n → v ≠ q → 0 < P v ∧ r v + 1 ≤ ahF n J P v := by
  obtain ⟨P, B, h1, h2, hPq, h3, h4, h5⟩ := burn_step hq hr (n - 1) (by omega)
  have hall := cF_full (A := B) (n := n) (by omega)
  refine ⟨P, fun u v hu hv => h4 u v hu hv (hall u hu) (hall v hv), fun v hv => (h3 v hv (hall v hv)).1, hPq, fun v hv hvq => ?_⟩
  obtain ⟨g1, g2⟩ := h5 v hv (hall v hv) hvq
  refine ⟨g1, ?_⟩
  have e : ahF n J P v = sumN (fun u => if B u = true ∧ P u < P v then J v u else 0) n := by
    unfold ahF
    refine sumN_congr fun u hu => ?_
    rw [hall u hu]
    simp
  rw [e]; exact g2
omit hM in
theorem out_pos (hM : MG n J) {q : Nat} (hq : q < n) : RedF n J q (fun _ => 0) := by
  refine ⟨fun _ _ _ => Int.le_refl 0, fun A hA ⟨a, ha, hAa⟩ => ?_⟩
  obtain ⟨u, w, hu, hw, hAu, hAw, hj⟩ := hM.conn A a q ha hq hAa hA
  refine ⟨u, hu, hAu, ?_⟩
  have := sumN_term (f := fun x => if A x = true then 0 else J u x) (k := n) (v := w) (fun x _ => by have := hM.nn u x; split <;> omega) hw
  rw [if_neg (by rw [hAw]; simp)] at this
  show (0 : Int) < outF n J A u
  unfold outF
  omega
end
end Sand
end Go
end
section
namespace Go
namespace Sand
/-- The divisor of an order. -/
def nuF (n : Nat) (J : Nat → Nat → Int) (P : Nat → Int) (v : Nat) : Int := ahF n J P v - 1
/-- The canonical divisor. -/
def kanF (n : Nat) (J : Nat → Nat → Int) (v : Nat) : Int := sumN (fun u => J v u) n - 2
/-- The least one of some numbers. -/
theorem exists_least {p : Nat → Prop} (h : ∃ k, p k) : ∃ k, p k ∧ ∀ j, j < k → ¬ p j := by
  obtain ⟨k, hk⟩ := h
  induction k using Nat.strongRecOn with
  | ind k ih =>
    by_cases h : ∃ j, j < k ∧ p j
    · obtain ⟨j, h1, h2⟩ := h; exact ih j h1 h2
    · exact ⟨k, hk, fun j h1 h2 => h ⟨j, h1, h2⟩⟩
/-- The greatest one, below a bound. -/
theorem exists_most {p : Nat → Prop} (B : Nat) (h0 : p 0) (hB : ∀ k, p k → k ≤ B) : ∃ k, p k ∧ ∀ j, p j → j ≤ k := by
  obtain ⟨k, h1, h2⟩ := exists_least (p := fun k => p (B - k) ∧ k ≤ B) ⟨B, by rw [Nat.sub_self]; exact h0, Nat.le_refl B⟩
  refine ⟨B - k, h1.1, fun j hj => ?_⟩
  have hjB := hB j hj
  rcases Nat.lt_or_ge (B - j) k with h | h
  · exact absurd ⟨by rw [show B - (B - j) = j by omega]; exact hj, by omega⟩ (h2 (B - j) h)
  · omega
section
variable {n : Nat} {J : Nat → Nat → Int} (hM : MG n J)
include hM
omit hM in
/-- What a set adds when it fires once. -/
theorem lap_set (A : Nat → Bool) (v : Nat) : lapF n J (fun u => if A u = true then 1 else 0) v = if A v = true then - outF n J A v else sumN (fun u => if A u = true then J v u else 0) n := by
  unfold lapF outF
  by_cases h : A v = true
  · rw [if_pos h, ← sumN_neg']
    refine sumN_congr fun u _ => ?_
    dsimp only
    rw [if_pos h]
    by_cases h2 : A u = true
    · rw [if_pos h2, if_pos h2]; simp
    · rw [if_neg h2, if_neg h2]; simp
  · rw [if_neg h]
    refine sumN_congr fun u _ => ?_
    dsimp only
    rw [if_neg h]
    by_cases h2 : A u = true
    · rw [if_pos h2, if_pos h2]; simp
    · rw [if_neg h2, if_neg h2]; simp
/-- All debts away from q can be paid. -/
theorem exists_paid {q : Nat} (hq : q < n) (D : Nat → Int) : ∃ E, Equi n J D E ∧ ∀ v, v < n → v ≠ q → 0 ≤ E v := by
  obtain ⟨P, hinj, hP0, hPq, hP⟩ := burn_order hq (out_pos hM hq)
  obtain ⟨m, hm, hmax⟩ := exists_max P n (by omega)
  -- the vertices whose place is at least k have no debt
  have key : ∀ j : Nat, ∃ E, Equi n J D E ∧ ∀ v, v < n → v ≠ q → P m - j < P v → 0 ≤ E v := by
    intro j
    induction j with
    | zero => exact ⟨D, Equi.refl D, fun v hv _ h => by have := hmax v hv; omega⟩
    | succ j ih =>
      obtain ⟨E, hE, hEp⟩ := ih
      by_cases hex : ∃ w, w < n ∧ w ≠ q ∧ P w = P m - j
      · obtain ⟨w, hw, hwq, hPw⟩ := hex
        obtain ⟨_, hah⟩ := hP w hw hwq
        have ht : ∃ t : Int, 0 ≤ t ∧ 0 ≤ E w + t := ⟨if E w < 0 then - E w else 0, by split <;> omega, by split <;> omega⟩
        obtain ⟨t, ht0, ht⟩ := ht
        refine ⟨fun v => E v + lapF n J (fun u => t * (if decide (P u < P w) = true then 1 else 0)) v, hE.trans ⟨_, fun v _ => rfl⟩, fun v hv hvq hPv => ?_⟩
        dsimp only
        rw [lapF_mul, lap_set (fun u => decide (P u < P w))]
        have hnot : ¬ (decide (P v < P w) = true) := by simp; omega
        rw [if_neg hnot]
        by_cases e : v = w
        · subst e
          have e1 : sumN (fun u => if decide (P u < P v) = true then J v u else 0) n = ahF n J P v := by
            unfold ahF
            refine sumN_congr fun u _ => ?_
            simp
          rw [e1]
          have : t * 1 ≤ t * ahF n J P v := Int.mul_le_mul_of_nonneg_left (by omega) ht0
          omega
        · have hPv2 : P m - j < P v := by
            have : P v ≠ P w := fun h => e (hinj v w hv hw h)
            omega
          have h1 := hEp v hv hvq hPv2
          have h2 : 0 ≤ sumN (fun u => if decide (P u < P w) = true then J v u else 0) n := sumN_nonneg fun u _ => by
            have := hM.nn v u
            split <;> omega
          have := Int.mul_nonneg ht0 h2
          omega
      · refine ⟨E, hE, fun v hv hvq hPv => hEp v hv hvq ?_⟩
        have : P v ≠ P m - j := fun h => hex ⟨v, hv, hvq, h⟩
        omega
  obtain ⟨E, hE, hEp⟩ := key (P m).toNat
  refine ⟨E, hE, fun v hv hvq => hEp v hv hvq ?_⟩
  have h1 := (hP v hv hvq).1
  have h2 := hP0 m hm
  omega
/-- Scripts that leave no debts away from q are small. -/
theorem legal_small {q : Nat} (hq : q < n) {D : Nat → Int} (hD : ∀ v, v < n → v ≠ q → 0 ≤ D v) {s : Nat → Int} (hs : s q = 0) (hE : ∀ v, v < n → v ≠ q → 0 ≤ D v + lapF n J s v) {C : Int} (hC : sumN (fun v => if v = q then 0 else D v) n ≤ C) : ∀ v, v < n → s v ≤ ((n : Int) - 1) * C := by
  have h0 : 0 ≤ sumN (fun v => if v = q then 0 else D v) n := sumN_nonneg fun v hv => by
    split
    · omega
    · rename_i h; exact hD v hv h
  have := flow_bound hM hq (s := s) (D := C) (by omega) fun A hA => by
    have h1 : - sumN (fun v => if A v = true then lapF n J s v else 0) n ≤ sumN (fun v => if v = q then 0 else D v) n := by
      rw [← sumN_neg']
      refine sumN_le fun v hv => ?_
      by_cases e : v = q
      · subst e; rw [hA]; simp
      · rw [if_neg e]
        have h2 := hE v hv e
        have h3 := hD v hv e
        split <;> omega
    omega
  intro v hv
  have := this v hv
  omega
/-- EACH DIVISOR HAS A REDUCED ONE. -/
theorem exists_red {q : Nat} (hq : q < n) (D : Nat → Int) : ∃ r, Equi n J D r ∧ RedF n J q r := by
  obtain ⟨E, hDE, hE⟩ := exists_paid hM hq D
  obtain ⟨C, hC⟩ : ∃ C, C = sumN (fun v => if v = q then 0 else E v) n := ⟨_, rfl⟩
  have hC0 : 0 ≤ C := by
    rw [hC]
    exact sumN_nonneg fun v hv => by
      split
      · omega
      · rename_i h; exact hE v hv h
  let p : Nat → Prop := fun k => ∃ s : Nat → Int, s q = 0 ∧ (∀ v, v < n → 0 ≤ s v) ∧ (∀ v, v < n → v ≠ q → 0 ≤ E v + lapF n J s v) ∧ sumN s n = k
  have hB : ∀ k, p k → k ≤ (sumN (fun _ => ((n : Int) - 1) * C) n).toNat := by
    rintro k ⟨s, hs, hs0, hsE, hk⟩
    have h1 := legal_small hM hq hE hs hsE (C := C) (by omega)
    have h2 := sumN_le (f := s) (g := fun _ => ((n : Int) - 1) * C) (k := n) fun v hv => h1 v hv
    omega
  obtain ⟨k, ⟨s, hs, hs0, hsE, hk⟩, hmost⟩ := exists_most (p := p) _ ⟨fun _ => 0, rfl, fun _ _ => Int.le_refl 0, fun v hv hvq => by rw [lapF_zero]; have := hE v hv hvq; omega, sumN_zero n⟩ hB
  refine ⟨fun v => E v + lapF n J s v, hDE.trans ⟨s, fun v _ => rfl⟩, hsE, fun A hA ⟨a, ha, hAa⟩ => ?_⟩
  refine Classical.byContradiction fun hno => ?_
  have hno' : ∀ v, v < n → A v = true → outF n J A v ≤ E v + lapF n J s v := fun v hv hAv => by
    refine Classical.byContradiction fun h => hno ⟨v, hv, hAv, by dsimp only; omega⟩
  have hpos : 1 ≤ sumN (fun u => if A u = true then (1 : Int) else 0) n := by
    have := sumN_term (f := fun u => if A u = true then (1 : Int) else 0) (k := n) (v := a) (fun u _ => by split <;> omega) ha
    rw [if_pos hAa] at this
    exact this
  have hp2 : p (k + (sumN (fun u => if A u = true then (1 : Int) else 0) n).toNat) := by
    refine ⟨fun u => s u + if A u = true then 1 else 0, by dsimp only; rw [hs, hA]; rfl, fun v hv => ?_, fun v hv hvq => ?_, ?_⟩
    · have := hs0 v hv
      dsimp only
      split <;> omega
    · rw [lapF_add, lap_set A]
      have h1 := hsE v hv hvq
      by_cases h : A v = true
      · rw [if_pos h]
        have := hno' v hv h
        omega
      · rw [if_neg h]
        have : 0 ≤ sumN (fun u => if A u = true then J v u else 0) n := sumN_nonneg fun u _ => by
          have := hM.nn v u
          split <;> omega
        omega
    · rw [sumN_add, hk]
      omega
  have := hmost _ hp2
  omega
/-- The divisor of an order cannot win. -/
theorem nu_lose (hn : 0 < n) (P : Nat → Int) : ¬ WinF n J (nuF n J P) := by
  rintro ⟨E, hE, t, ht⟩
  obtain ⟨m, hm, hmax⟩ := exists_max t n hn
  -- the first one in the order where the script is greatest
  obtain ⟨B, hB⟩ : ∃ B : Int, ∀ u, u < n → P u ≤ B := by
    obtain ⟨b, _, hb⟩ := exists_max P n hn
    exact ⟨P b, hb⟩
  obtain ⟨v, hv, hvm⟩ := exists_max (fun u => if t u = t m then - P u else - (B + 1)) n hn
  have hvt : t v = t m := by
    refine Classical.byContradiction fun h => ?_
    have h1 := hvm m hm
    rw [if_pos rfl, if_neg h] at h1
    have := hB m hm
    omega
  have hfirst : ∀ u, u < n → t u = t m → P v ≤ P u := fun u hu he => by
    have h1 := hvm u hu
    rw [if_pos he, if_pos hvt] at h1
    omega
  have h1 := lap_top hM (s := t) (m := t m) hmax hvt
  have h2 : ahF n J P v ≤ outF n J (fun u => decide (t u = t m)) v := by
    unfold ahF outF
    refine sumN_le fun u hu => ?_
    have h3 := hM.nn v u
    by_cases he : t u = t m
    · have := hfirst u hu he
      rw [if_neg (by omega), if_pos (decide_eq_true he)]; omega
    · show (if P u < P v then J v u else 0) ≤ (if decide (t u = t m) = true then 0 else J v u)
      rw [show (if decide (t u = t m) = true then (0 : Int) else J v u) = J v u from if_neg (by simp [he])]
      split <;> omega
  have h3 := ht v hv
  have h4 := hE v hv
  unfold nuF at h3
  omega
/-- Turning the order round. -/
theorem nu_turn {P : Nat → Int} (hP : InjF n P) (v : Nat) (hv : v < n) : nuF n J P v + nuF n J (fun u => - P u) v = kanF n J v := by
  dsimp only [nuF, kanF, ahF]
  have : sumN (fun u => J v u) n = sumN (fun u => if P u < P v then J v u else 0) n + sumN (fun u => if - P u < - P v then J v u else 0) n := by
    rw [← sumN_add]
    refine sumN_congr fun u hu => ?_
    by_cases e : u = v
    · subst e; rw [hM.self]; simp
    · have h : P u ≠ P v := fun h => e (hP u v hu hv h)
      by_cases h2 : P u < P v
      · rw [if_pos h2, if_neg (by omega)]; omega
      · rw [if_neg h2, if_pos (by omega)]; omega
  omega
theorem nu_deg_turn (P : Nat → Int) : sumN (nuF n J (fun u => - P u)) n = sumN (nuF n J P) n := by
  have e1 : ∀ Q : Nat → Int, sumN (nuF n J Q) n = sumN (fun v => sumN (fun u => if Q u < Q v then J v u else 0) n) n - sumN (fun _ => 1) n := fun Q => by
    rw [← sumN_sub']; rfl
  rw [e1, e1, sumN_swap (fun v u => if P u < P v then J v u else 0) n n]
  congr 1
  refine sumN_congr fun v _ => sumN_congr fun u _ => ?_
  rw [hM.sym u v]
  by_cases h : P v < P u
  · rw [if_pos h, if_pos (by omega)]
  · rw [if_neg h, if_neg (by omega)]
theorem nu_deg {P : Nat → Int} (hP : InjF n P) : 2 * sumN (nuF n J P) n = sumN (kanF n J) n := by
  have h1 : sumN (kanF n J) n = sumN (fun v => nuF n J P v + nuF n J (fun u => - P u) v) n := sumN_congr fun v hv => (nu_turn hM hP v hv).symm
  rw [h1, sumN_add, show sumN (fun v => nuF n J (fun u => - P u) v) n = sumN (nuF n J P) n from nu_deg_turn hM P]
  omega
/-- WHO CANNOT WIN is below the divisor of an order. -/
theorem lose_nu {q : Nat} (hq : q < n) {D : Nat → Int} (h : ¬ WinF n J D) : ∃ P, InjF n P ∧ WinF n J (fun v => nuF n J P v - D v) := by
  obtain ⟨r, hr, hred⟩ := exists_red hM hq D
  have h0 : ¬ 0 ≤ r q := fun h0 => h ((win_red hM hq hred hr).2 h0)
  obtain ⟨P, hP, hP0, hPq, hPr⟩ := burn_order hq hred
  refine ⟨P, hP, (WinF.equi (hr.from (nuF n J P))).2 (WinF.eff fun v hv => ?_)⟩
  dsimp only [nuF]
  by_cases e : v = q
  · subst e
    have : 0 ≤ ahF n J P v := sumN_nonneg fun u _ => by
      have := hM.nn v u
      split <;> omega
    omega
  · have := (hPr v hv e).2
    omega
/-- Who has many chips can win. -/
theorem win_many {q : Nat} (hq : q < n) {D : Nat → Int} (h : sumN (kanF n J) n < 2 * sumN D n) : WinF n J D := by
  refine Classical.byContradiction fun hno => ?_
  obtain ⟨P, hP, E, hE, hDE⟩ := lose_nu hM hq hno
  have h1 := hDE.deg hM
  rw [sumN_sub'] at h1
  have h2 := nu_deg hM hP
  have h3 : 0 ≤ sumN E n := sumN_nonneg hE
  omega
end
end Sand
end Go
end
section
namespace Go
namespace Sand
/-- One chip at a vertex. -/
def oneF (v : Nat) (u : Nat) : Int := if u = v then 1 else 0
/-- The rank is at least k. -/
def RkGe (n : Nat) (J : Nat → Nat → Int) (D : Nat → Int) (k : Nat) : Prop := ∀ E, EffF n E → sumN E n = k → WinF n J (fun v => D v - E v)
/-- What the rank is. -/
def RankIs (n : Nat) (J : Nat → Nat → Int) (D : Nat → Int) (k : Int) : Prop := (k = -1 ∧ ¬ WinF n J D) ∨ ∃ m : Nat, k = m ∧ RkGe n J D m ∧ ¬ RkGe n J D (m + 1)
theorem oneF_eff (n v : Nat) : EffF n (oneF v) := fun u _ => by unfold oneF; split <;> omega
theorem oneF_sum {n v : Nat} (hv : v < n) : sumN (oneF v) n = 1 := by
  have := sumN_one v n 1
  rw [if_pos hv] at this
  exact this
theorem eff_zero {n : Nat} {E : Nat → Int} (h : EffF n E) (h0 : sumN E n = 0) : ∀ v, v < n → E v = 0 := fun v hv => by
  have h1 := sumN_term (f := E) (k := n) (v := v) h hv
  have h2 := h v hv
  omega
theorem eff_some {n : Nat} {E : Nat → Int} (h : EffF n E) (h0 : 0 < sumN E n) : ∃ v, v < n ∧ 1 ≤ E v := by
  refine Classical.byContradiction fun hno => ?_
  have : sumN E n = sumN (fun _ => 0) n := sumN_congr fun v hv => by
    have h1 := h v hv
    refine Classical.byContradiction fun h2 => hno ⟨v, hv, by omega⟩
  rw [sumN_zero] at this
  omega
section
variable {n : Nat} {J : Nat → Nat → Int}
theorem RkGe.equi {D E : Nat → Int} (h : Equi n J D E) {k : Nat} (hk : RkGe n J D k) : RkGe n J E k := fun F h1 h2 => (WinF.equi (h.sub F)).1 (hk F h1 h2)
theorem rk_zero {D : Nat → Int} : RkGe n J D 0 ↔ WinF n J D := by
  constructor
  · intro h
    refine (WinF.equi (Equi.of_eq fun v _ => ?_)).1 (h (fun _ => 0) (fun _ _ => Int.le_refl 0) (sumN_zero n))
    (try dsimp only); omega
  · intro h E h1 h2
    refine (WinF.equi (Equi.of_eq fun v hv => ?_)).1 h
    (try dsimp only); rw [eff_zero h1 h2 v hv]; omega
theorem rk_succ {D : Nat → Int} {k : Nat} : RkGe n J D (k + 1) ↔ ∀ v, v < n → RkGe n J (fun u => D u - oneF v u) k := by
  constructor
  · intro h v hv E h1 h2
    refine (WinF.equi (Equi.of_eq fun u _ => ?_)).1 (h (fun u => E u + oneF v u) (fun u hu => ?_) ?_)
    · (try dsimp only); omega
    · have := h1 u hu; have := oneF_eff n v u hu; (try dsimp only); omega
    · rw [sumN_add, oneF_sum hv, h2]; omega
  · intro h E h1 h2
    obtain ⟨v, hv, hv1⟩ := eff_some h1 (by omega)
    refine (WinF.equi (Equi.of_eq fun u _ => ?_)).1 (h v hv (fun u => E u - oneF v u) (fun u hu => ?_) ?_)
    · (try dsimp only); omega
    · have := h1 u hu
      dsimp only [oneF]
      split
      · rename_i e; subst e; omega
      · omega
    · rw [sumN_sub', oneF_sum hv, h2]; omega
theorem RkGe.less (hn : 0 < n) {D : Nat → Int} {k : Nat} (h : RkGe n J D (k + 1)) : RkGe n J D k := fun E h1 h2 => by
  have := h (fun u => E u + oneF 0 u) (fun u hu => by have := h1 u hu; have := oneF_eff n 0 u hu; (try dsimp only); omega) (by rw [sumN_add, oneF_sum hn, h2]; omega)
  refine (WinF.equi (Equi.of_eq fun u _ => ?_)).1 (this.add (oneF_eff n 0))
  (try dsimp only); omega
theorem RkGe.le (hn : 0 < n) {D : Nat → Int} {k m : Nat} (h : RkGe n J D k) (hm : m ≤ k) : RkGe n J D m := by
  obtain ⟨j, rfl⟩ : ∃ j, k = m + j := ⟨k - m, by omega⟩
  clear hm
  induction j with
  | zero => exact h
  | succ j ih => exact ih (RkGe.less hn h)
theorem RkGe.win (hn : 0 < n) {D : Nat → Int} {k : Nat} (h : RkGe n J D k) : WinF n J D := rk_zero.1 (h.le hn (Nat.zero_le k))
theorem RankIs.unique (hn : 0 < n) {D : Nat → Int} {k k' : Int} (h : RankIs n J D k) (h' : RankIs n J D k') : k = k' := by
  rcases h with ⟨rfl, h⟩ | ⟨m, rfl, h1, h2⟩ <;> rcases h' with ⟨rfl, h'⟩ | ⟨m', rfl, h1', h2'⟩
  · rfl
  · exact absurd (h1'.win hn) h
  · exact absurd (h1.win hn) h'
  · have a : ¬ m + 1 ≤ m' := fun h => h2 (h1'.le hn h)
    have b : ¬ m' + 1 ≤ m := fun h => h2' (h1.le hn h)
    omega
theorem RankIs.equi {D E : Nat → Int} (h : Equi n J D E) {k : Int} (hk : RankIs n J D k) : RankIs n J E k := by
  rcases hk with ⟨rfl, h1⟩ | ⟨m, rfl, h1, h2⟩
  · exact .inl ⟨rfl, fun h2 => h1 ((WinF.equi h).2 h2)⟩
  · exact .inr ⟨m, rfl, h1.equi h, fun h3 => h2 (h3.equi h.symm)⟩
theorem RankIs.ge (hn : 0 < n) {D : Nat → Int} {k : Int} (h : RankIs n J D k) (m : Nat) : RkGe n J D m ↔ (m : Int) ≤ k := by
  rcases h with ⟨rfl, h1⟩ | ⟨j, rfl, h1, h2⟩
  · exact ⟨fun h => absurd (h.win hn) h1, fun h => by omega⟩
  · constructor
    · intro h
      refine Classical.byContradiction fun h3 => h2 (h.le hn (by omega))
    · intro h; exact h1.le hn (by omega)
theorem RankIs.win (hn : 0 < n) {D : Nat → Int} {k : Int} (h : RankIs n J D k) : WinF n J D ↔ 0 ≤ k := by
  rw [← rk_zero, h.ge hn 0]
  omega
theorem RankIs.low {D : Nat → Int} {k : Int} (h : RankIs n J D k) : -1 ≤ k := by
  rcases h with ⟨rfl, _⟩ | ⟨j, rfl, _, _⟩ <;> omega
theorem RankIs.more {D : Nat → Int} {k : Int} (hl : -1 ≤ k) (h : ∀ m : Nat, RkGe n J D m ↔ (m : Int) ≤ k) : RankIs n J D k := by
  by_cases e : k = -1
  · subst e
    exact .inl ⟨rfl, fun hw => by have := (h 0).1 (rk_zero.2 hw); omega⟩
  · refine .inr ⟨k.toNat, by omega, (h _).2 (by omega), fun h2 => by have := (h _).1 h2; omega⟩
variable (hM : MG n J)
include hM
theorem win_deg {D : Nat → Int} (h : WinF n J D) : 0 ≤ sumN D n := by
  obtain ⟨E, h1, h2⟩ := h
  rw [← h2.deg hM]
  exact sumN_nonneg h1
theorem rk_deg (hn : 0 < n) {D : Nat → Int} {k : Nat} (h : RkGe n J D k) : (k : Int) ≤ sumN D n := by
  have h1 := win_deg hM (h (fun u => k * oneF 0 u) (fun u hu => Int.mul_nonneg (by omega) (oneF_eff n 0 u hu)) (by rw [sumN_mul, oneF_sum hn]; omega))
  rw [sumN_sub', sumN_mul, oneF_sum hn] at h1
  omega
theorem rk_low (hn : 0 < n) {D : Nat → Int} {k : Nat} (h : sumN (kanF n J) n < 2 * (sumN D n - k)) : RkGe n J D k := fun E h1 h2 => win_many hM hn (by rw [sumN_sub', h2]; exact h)
/-- A rank is small, if the residual divisor cannot win. -/
theorem rk_high (hn : 0 < n) {D : Nat → Int} {k : Nat} (h : ¬ WinF n J (fun v => kanF n J v - D v)) (hk : 2 * (k : Int) = 2 * sumN D n - sumN (kanF n J) n) : ¬ RkGe n J D k := by
  obtain ⟨P, hP, E, hE, hDE⟩ := lose_nu hM hn h
  intro hr
  have hd := hDE.deg hM
  rw [sumN_sub', sumN_sub'] at hd
  have hnu := nu_deg hM hP
  have hw := hr E hE (by omega)
  refine nu_lose hM hn (fun u => - P u) ((WinF.equi ?_).1 hw)
  refine (hDE.symm.from D).trans (Equi.of_eq fun v hv => ?_)
  have := nu_turn hM hP v hv
  (try dsimp only)
  omega
/-- Beyond the degree of the canonical divisor. -/
theorem rank_high (hn : 0 < n) {D : Nat → Int} {g : Int} (hg : sumN (kanF n J) n = 2 * g - 2) (hd : 2 * g - 2 < sumN D n) (h0 : 0 ≤ sumN D n - g) : RankIs n J D (sumN D n - g) := by
  refine .inr ⟨(sumN D n - g).toNat, by omega, rk_low hM hn (by omega), rk_high hM hn (fun hw => ?_) (by omega)⟩
  have := win_deg hM hw
  rw [sumN_sub'] at this
  omega
end
/-- The least of some numbers, but at most one. -/
def minF (b : Int) (f : Nat → Int) : Nat → Int
  | 0 => b
  | k + 1 => min (minF b f k) (f k)
theorem minF_le (b : Int) (f : Nat → Int) : ∀ k (m : Int), m ≤ minF b f k ↔ m ≤ b ∧ ∀ v, v < k → m ≤ f v
  | 0, m => ⟨fun h => ⟨h, fun v hv => by omega⟩, fun h => h.1⟩
  | k + 1, m => by
    have ih := minF_le b f k m
    simp only [minF]
    constructor
    · intro h
      have h1 := ih.1 (by omega)
      refine ⟨h1.1, fun v hv => ?_⟩
      by_cases e : v = k
      · subst e; omega
      · exact h1.2 v (by omega)
    · rintro ⟨h1, h2⟩
      have := ih.2 ⟨h1, fun v hv => h2 v (by omega)⟩
      have := h2 k (by omega)
      omega
/-- ONE STEP: a rank by those with one chip less. -/
theorem rank_step {n : Nat} {J : Nat → Nat → Int} (hM : MG n J) (hn : 0 < n) {D : Nat → Int} (hw : WinF n J D) {k : Nat → Int} (hk : ∀ v, v < n → RankIs n J (fun u => D u - oneF v u) (k v)) : RankIs n J D (minF (sumN D n) (fun v => k v + 1) n) := by
  have hd := win_deg hM hw
  refine RankIs.more ?_ fun m => ?_
  · rw [minF_le]
    exact ⟨by omega, fun v hv => by have := (hk v hv).low; omega⟩
  · rw [minF_le]
    cases m with
    | zero =>
      rw [rk_zero]
      refine ⟨fun _ => ⟨by omega, fun v hv => by have := (hk v hv).low; omega⟩, fun _ => hw⟩
    | succ m =>
      constructor
      · intro h
        refine ⟨rk_deg hM hn h, fun v hv => ?_⟩
        have := ((hk v hv).ge hn m).1 (rk_succ.1 h v hv)
        omega
      · rintro ⟨_, h2⟩
        rw [rk_succ]
        intro v hv
        have := h2 v hv
        exact ((hk v hv).ge hn m).2 (by omega)
end Sand
end Go
end
section
set_option linter.unusedSimpArgs false
set_option linter.unusedVariables false
namespace Go.Proofs.Ytolfhldbfeffaaa
open Go.Abs Go.Sand
section
variable {n : Nat} {es : List Ed} (hg : GoodG n es)
include hg
/-- Out of each set of vertices, but none or all, leads a single edge. -/
theorem edge_out (hp : partsN es n = 1) (A : Nat → Bool) {a b : Nat} (ha : a < n) (hb : b < n) (hAa : A a = true) (hAb : A b = false) : ∃ u w, u < n ∧ w < n ∧ A u = true ∧ A w = false ∧ 1 ≤ joinE es u w := by
  have hn := hg.n12
  refine Classical.byContradiction fun hno => ?_
  have hcl : ∀ u u', cls es u = cls es u' → (A u = true ↔ A u' = true) := by
    intro u u' h
    have := cls_closed (n := n) (es := es) (fun y => A y = true) (fun x hx => by
      have r := hg.right x hx
      have h1 := r.m1
      have h2 := r.a0
      have h3 := r.b0
      have h4 := r.an
      have h5 := r.bn
      have hne : ∀ u w : Nat, u < n → w < n → A u = true → A w = false → joinE es u w ≤ 0 := fun u w h1 h2 h3 h4 => by
        refine Classical.byContradiction fun h5 => hno ⟨u, w, h1, h2, h3, h4, by omega⟩
      by_cases hab : x.a.toNat = x.b.toNat
      · rw [hab]
      · have hadj := (adj_of (n := n) hg.right hx).1
        unfold adj at hadj
        have hj : 0 < joinE es x.a.toNat x.b.toNat := by
          rw [joinE, if_neg (fun e => hab e.symm), Int.min_comm, Int.max_comm]
          exact hadj
        have hj2 : 0 < joinE es x.b.toNat x.a.toNat := by rw [joinE_sym]; exact hj
        constructor
        · intro h6
          cases h7 : A x.b.toNat
          · have := hne _ _ (by omega) (by omega) h6 h7; omega
          · rfl
        · intro h6
          cases h7 : A x.a.toNat
          · have := hne _ _ (by omega) (by omega) h6 h7; omega
          · rfl) es.length (Nat.le_refl _) u u'
    rw [List.take_length] at this
    exact this h
  have hF := ufJ_forest (n := n) (by omega) hg.right es.length (Nat.le_refl _)
  rw [List.take_length] at hF
  have root : ∀ u, u < n → cls es u ∈ rootsL es n := fun u hu => by
    obtain ⟨h1, h2⟩ := hF.le u (by omega)
    refine List.mem_filter.2 ⟨List.mem_range.2 ?_, decide_eq_true h2⟩
    show (ufJ es).2 u < n
    omega
  obtain ⟨r, hr⟩ := List.length_eq_one_iff.1 hp
  have h1 := root a ha
  have h2 := root b hb
  rw [hr] at h1 h2
  have h3 : cls es a = cls es b := by rw [List.mem_singleton.1 h1, List.mem_singleton.1 h2]
  have := (hcl a b h3).1 hAa
  rw [hAb] at this
  cases this
theorem mg_of (hp : partsN es n = 1) : MG n (joinE es) :=
  ⟨joinE_sym, fun u v => (joinE_bd hg u v).1, joinE_self, fun A a b ha hb hA hB => edge_out hg hp A ha hb hA hB⟩
end
end Go.Proofs.Ytolfhldbfeffaaa
end
section
set_option linter.unusedSimpArgs false
set_option linter.unusedVariables false
namespace Go.Proofs.Ytolfhldbfeffaaa
open Go.Abs Go.Sand
theorem betw_sum : ∀ {es : List Ed}, es.Pairwise ltE → ∀ lo hi : Int, betw es lo hi = sumI (es.map fun x => if x.a = lo ∧ x.b = hi then x.m else 0)
  | [], _, lo, hi => by rw [betw_none (fun y hy => by cases hy)]; rfl
  | x :: es, h, lo, hi => by
    rw [betw_cons h, betw_sum (List.pairwise_cons.1 h).2]; rfl
theorem sum_swapI {α : Type} (f : Nat → α → Int) (n : Nat) : ∀ l : List α, sumN (fun u => sumI (l.map (f u))) n = sumI (l.map fun x => sumN (fun u => f u x) n)
  | [] => by
    show sumN (fun _ => (0 : Int)) n = 0
    exact sumN_zero n
  | x :: l => by
    show sumN (fun u => f u x + sumI (l.map (f u))) n = sumN (fun u => f u x) n + sumI (l.map fun x => sumN (fun u => f u x) n)
    rw [sumN_add, sum_swapI f n l]
theorem sumI_congr {α : Type} {f g : α → Int} : ∀ {l : List α}, (∀ x ∈ l, f x = g x) → sumI (l.map f) = sumI (l.map g)
  | [], _ => rfl
  | x :: l, h => by
    show f x + sumI (l.map f) = g x + sumI (l.map g)
    rw [h x (by simp), sumI_congr fun y hy => h y (by simp [hy])]
/-- The edges from a vertex to others with a property. -/
theorem joins_eq {n : Nat} {es : List Ed} (hg : GoodG n es) {v : Nat} (hv : v < n) (p : Int → Bool) : joinsF v p es = sumN (fun u => if p u = true then joinE es v u else 0) n := by
  have e1 : sumN (fun u => if p u = true then joinE es v u else 0) n = sumN (fun u => sumI (es.map fun x => if p u = true ∧ u ≠ v ∧ x.a = min (u : Int) v ∧ x.b = max (u : Int) v then x.m else 0)) n := by
    refine sumN_congr fun u _ => ?_
    by_cases hp : p u = true
    · rw [if_pos hp]
      unfold joinE
      by_cases e : u = v
      · rw [if_pos e]
        have : sumI (es.map fun x => if p u = true ∧ u ≠ v ∧ x.a = min (u : Int) v ∧ x.b = max (u : Int) v then x.m else 0) = sumI (es.map fun _ => (0 : Int)) := sumI_congr fun x _ => if_neg fun h => h.2.1 e
        rw [this]
        clear this
        induction es with
        | nil => rfl
        | cons x es ih => show (0 : Int) = 0 + _; rw [← ih ⟨hg.n1, hg.n12, fun y hy => hg.right y (by simp [hy]), (List.pairwise_cons.1 hg.asc).2⟩]; rfl
      · rw [if_neg e, betw_sum hg.asc]
        refine sumI_congr fun x _ => ?_
        simp only [hp, e, ne_eq, not_false_eq_true, true_and]
    · rw [if_neg hp]
      have : sumI (es.map fun x => if p u = true ∧ u ≠ v ∧ x.a = min (u : Int) v ∧ x.b = max (u : Int) v then x.m else 0) = sumI (es.map fun _ => (0 : Int)) := sumI_congr fun x _ => if_neg fun h => hp h.1
      rw [this]
      clear this
      induction es with
      | nil => rfl
      | cons x es ih => show (0 : Int) = 0 + _; rw [← ih ⟨hg.n1, hg.n12, fun y hy => hg.right y (by simp [hy]), (List.pairwise_cons.1 hg.asc).2⟩]; rfl
  rw [e1, sum_swapI]
  unfold joinsF
  refine sumI_congr fun x hx => ?_
  obtain ⟨r1, r2, r3, r4, r5, r6, r7⟩ := hg.right x hx
  by_cases hi : incB v x = true
  · have hi2 := hi
    simp only [incB, decide_eq_true_eq] at hi2
    obtain ⟨w, hw⟩ : ∃ w : Nat, x.a + x.b - v = w := ⟨(x.a + x.b - v).toNat, by omega⟩
    have hwn : w < n := by omega
    have e2 : sumN (fun u => if p u = true ∧ u ≠ v ∧ x.a = min (u : Int) v ∧ x.b = max (u : Int) v then x.m else 0) n = sumN (fun u => if u = w then (if p (w : Int) = true then x.m else 0) else 0) n := by
      refine sumN_congr fun u _ => ?_
      by_cases e : u = w
      · subst e
        rw [if_pos rfl]
        by_cases hp : p (u : Int) = true
        · rw [if_pos hp, if_pos ⟨hp, by omega, by omega, by omega⟩]
        · rw [if_neg hp, if_neg fun h => hp h.1]
      · rw [if_neg e, if_neg fun h => e (by omega)]
    rw [e2, sumN_one, if_pos hwn, hi, hw]
    simp
  · have hi' : incB v x = false := by simpa using hi
    rw [hi', Bool.false_and]
    simp only [Bool.false_eq_true, if_false]
    rw [show sumN (fun u => if p u = true ∧ u ≠ v ∧ x.a = min (u : Int) v ∧ x.b = max (u : Int) v then x.m else 0) n = sumN (fun _ => 0) n from sumN_congr fun u _ => if_neg fun h => hi (by
      simp only [incB, decide_eq_true_eq]
      omega), sumN_zero]
end Go.Proofs.Ytolfhldbfeffaaa
end
