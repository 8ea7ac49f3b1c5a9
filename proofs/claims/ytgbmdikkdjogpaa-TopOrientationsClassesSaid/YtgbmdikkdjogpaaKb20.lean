/-
  Texts joined: Rb Rc Rd.
-/
import Derived.Test.YtgbmdikkdjogpaaKb19

section
namespace Go
namespace Sand
/-- How many of the first k vertices are in a set. -/
def cF (A : Nat → Bool) : Nat → Nat
  | 0 => 0
  | k + 1 => cF A k + if A k = true then 1 else 0
theorem cF_le (A : Nat → Bool) : ∀ k, cF A k ≤ k
  | 0 => Nat.le_refl 0
  | k + 1 => by have := cF_le A k; simp only [cF]; split <;> omega
theorem cF_mono {A B : Nat → Bool} (h : ∀ v, A v = true → B v = true) : ∀ k, cF A k ≤ cF B k
  | 0 => Nat.le_refl 0
  | k + 1 => by
    have := cF_mono h k
    simp only [cF]
    cases ha : A k
    · simp; omega
    · rw [h k ha]; simp; omega
theorem cF_less {A B : Nat → Bool} (h : ∀ v, A v = true → B v = true) {u : Nat} (hu : B u = true) (hn : A u = false) : ∀ k, u < k → cF A k + 1 ≤ cF B k
  | 0, h0 => by omega
  | k + 1, hk => by
    simp only [cF]
    by_cases e : u = k
    · subst e
      have := cF_mono h u
      rw [hu, hn]; simp; omega
    · have := cF_less h hu hn k (by omega)
      cases ha : A k
      · simp; omega
      · rw [h k ha]; simp; omega
theorem cF_none {A : Nat → Bool} {n : Nat} (h : cF A n = 0) : ∀ v, v < n → A v = false := by
  intro v hv
  cases ha : A v
  · rfl
  · have h1 := cF_less (A := fun _ => false) (B := A) (fun _ h => by cases h) (u := v) ha rfl n hv
    omega
section
variable {n : Nat} {J : Nat → Nat → Int} (hM : MG n J)
include hM
/-- What flows out of a set of vertices. -/
theorem flowF (s : Nat → Int) (A : Nat → Bool) : sumN (fun v => if A v = true then lapF n J s v else 0) n = sumN (fun v => sumN (fun u => if A v = true ∧ A u = false then J v u * (s u - s v) else 0) n) n := by
  have e2 : sumN (fun v => if A v = true then lapF n J s v else 0) n = sumN (fun v => sumN (fun u => if A v = true then J v u * (s u - s v) else 0) n) n := by
    refine sumN_congr fun v _ => ?_
    cases A v
    · simp [sumN_zero]
    · simp only [if_true]; rfl
  have e3 : ∀ v u, (if A v = true then J v u * (s u - s v) else 0) = (if A v = true ∧ A u = false then J v u * (s u - s v) else 0) + (if A v = true ∧ A u = true then J v u * (s u - s v) else 0) := by
    intro v u
    cases A v <;> cases A u <;> simp
  have e4 : sumN (fun v => sumN (fun u => if A v = true ∧ A u = true then J v u * (s u - s v) else 0) n) n = 0 := by
    have h := sumN_swap (fun v u => if A v = true ∧ A u = true then J v u * (s u - s v) else 0) n n
    have h2 : sumN (fun v => sumN (fun u => if A u = true ∧ A v = true then J u v * (s v - s u) else 0) n) n = - sumN (fun v => sumN (fun u => if A v = true ∧ A u = true then J v u * (s u - s v) else 0) n) n := by
      rw [← sumN_neg']
      refine sumN_congr fun v _ => ?_
      rw [← sumN_neg']
      refine sumN_congr fun u _ => ?_
      rw [hM.sym u v]
      by_cases h1 : A u = true ∧ A v = true
      · rw [if_pos h1, if_pos ⟨h1.2, h1.1⟩, ← Int.mul_neg]
        congr 1
        omega
      · rw [if_neg h1, if_neg (fun h2 => h1 ⟨h2.2, h2.1⟩)]; rfl
    omega
  rw [e2, show sumN (fun v => sumN (fun u => if A v = true then J v u * (s u - s v) else 0) n) n = sumN (fun v => sumN (fun u => if A v = true ∧ A u = false then J v u * (s u - s v) else 0) n + sumN (fun u => if A v = true ∧ A u = true then J v u * (s u - s v) else 0) n) n from
    sumN_congr fun v _ => by rw [← sumN_add]; exact sumN_congr fun u _ => e3 v u]
  rw [sumN_add, e4, Int.add_zero]
/-- A script is nowhere far above its value at q, if little flows out of any set without q. -/
theorem flow_bound {s : Nat → Int} {q : Nat} (hq : q < n) {D : Int} (hD0 : 0 ≤ D) (hD : ∀ A : Nat → Bool, A q = false → - sumN (fun v => if A v = true then lapF n J s v else 0) n ≤ D) : ∀ v, v < n → s v ≤ s q + ((n : Int) - 1) * D := by
  have key : ∀ j : Nat, j < n → cF (fun v => decide (s q + (j : Int) * D < s v)) n + j + 1 ≤ n := by
    intro j
    induction j with
    | zero =>
      intro _
      have := cF_less (A := fun v => decide (s q + ((0 : Nat) : Int) * D < s v)) (B := fun _ => true) (fun _ _ => rfl) (u := q) rfl (by
        rw [decide_eq_false_iff_not]
        simp) n hq
      have := cF_le (fun _ => true) n
      omega
    | succ j ih =>
      intro hj
      have ih := ih (by omega)
      obtain ⟨A, hA⟩ : ∃ A : Nat → Bool, A = fun v => decide (s q + (j : Int) * D < s v) := ⟨_, rfl⟩
      have hAv : ∀ v, A v = true ↔ s q + (j : Int) * D < s v := fun v => by rw [hA]; simp
      have hjD : 0 ≤ (j : Int) * D := Int.mul_nonneg (by omega) hD0
      have hsucc : ((j + 1 : Nat) : Int) * D = (j : Int) * D + D := by push_cast; rw [Int.add_mul, Int.one_mul]
      rw [← hA] at ih
      have hmono : ∀ v, decide (s q + ((j + 1 : Nat) : Int) * D < s v) = true → A v = true := fun v hv => by
        rw [hAv]
        have := of_decide_eq_true hv
        omega
      by_cases hne : ∃ a, a < n ∧ A a = true
      · obtain ⟨a, ha, hAa⟩ := hne
        have hAp : A q = false := by
          cases hh : A q
          · rfl
          · have := (hAv q).1 hh
            omega
        obtain ⟨u, w, hu, hw, hAu, hAw, hj1⟩ := hM.conn A a q ha hq hAa hAp
        have hfl := flowF hM s A
        have hDA := hD A hAp
        have hterm : ∀ v x, A v = true ∧ A x = false → J v x * (s x - s v) ≤ 0 := by
          rintro v x ⟨h1, h2⟩
          have h3 := (hAv v).1 h1
          have h4 : ¬ (s q + (j : Int) * D < s x) := fun e => by rw [(hAv x).2 e] at h2; cases h2
          exact Int.mul_nonpos_of_nonneg_of_nonpos (hM.nn v x) (by omega)
        have h5 : sumN (fun v => sumN (fun x => if A v = true ∧ A x = false then J v x * (s x - s v) else 0) n) n ≤ J u w * (s w - s u) := by
          have := sumN_term (f := fun v => - sumN (fun x => if A v = true ∧ A x = false then J v x * (s x - s v) else 0) n) (k := n) (v := u) (fun v hv => by
            rw [← sumN_neg']
            refine sumN_nonneg fun x hx => ?_
            split
            · rename_i h; have := hterm v x h; omega
            · omega) hu
          rw [sumN_neg'] at this
          have h6 := sumN_term (f := fun x => - (if A u = true ∧ A x = false then J u x * (s x - s u) else 0)) (k := n) (v := w) (fun x hx => by
            split
            · rename_i h; have := hterm u x h; omega
            · omega) hw
          rw [sumN_neg', if_pos ⟨hAu, hAw⟩] at h6
          omega
        have h7 : s u - s w ≤ D := by
          have h8 : 1 * (s u - s w) ≤ J u w * (s u - s w) := by
            have h3 := (hAv u).1 hAu
            have h4 : ¬ (s q + (j : Int) * D < s w) := fun e => by rw [(hAv w).2 e] at hAw; cases hAw
            exact Int.mul_le_mul_of_nonneg_right hj1 (by omega)
          have h9 : J u w * (s w - s u) = - (J u w * (s u - s w)) := by
            rw [← Int.mul_neg]; congr 1; omega
          omega
        have hnot : decide (s q + ((j + 1 : Nat) : Int) * D < s u) = false := by
          rw [decide_eq_false_iff_not]
          have h4 : ¬ (s q + (j : Int) * D < s w) := fun e => by rw [(hAv w).2 e] at hAw; cases hAw
          omega
        have := cF_less (A := fun v => decide (s q + ((j + 1 : Nat) : Int) * D < s v)) (B := A) hmono hAu hnot n hu
        omega
      · have h0 : cF (fun v => decide (s q + ((j + 1 : Nat) : Int) * D < s v)) n = 0 := by
          refine Classical.byContradiction fun h => ?_
          have : ∀ k, k ≤ n → cF (fun v => decide (s q + ((j + 1 : Nat) : Int) * D < s v)) k = 0 := by
            intro k
            induction k with
            | zero => intro _; rfl
            | succ k ih2 =>
              intro hk
              simp only [cF, ih2 (by omega)]
              rw [if_neg fun e => hne ⟨k, by omega, hmono k e⟩]
          exact h (this n (Nat.le_refl n))
        omega
  intro v hv
  have h := key (n - 1) (by omega)
  have h0 : cF (fun v => decide (s q + ((n - 1 : Nat) : Int) * D < s v)) n = 0 := by omega
  have := of_decide_eq_false (cF_none h0 v hv)
  have e : ((n - 1 : Nat) : Int) = (n : Int) - 1 := by omega
  rw [e] at this
  omega
end
end Sand
end Go
end
section
namespace Go
namespace Sand
section
variable {n : Nat} {J : Nat → Nat → Int} (hM : MG n J)
include hM
omit hM in
/-- What a set adds when it fires once. -/
theorem lap_set (A : Nat → Bool) (v : Nat) : lapF n J (fun u => if A u = true then 1 else 0) v = if A v = true then - outF n J A v else sumN (fun u => if A u = true then J v u else 0) n := by
  unfold lapF outF
  by_cases h : A v = true
  · rw [if_pos h, ← sumN_neg']
    refine sumN_congr fun u _ => ?_
    dsimp only
    rw [if_pos h]
    by_cases h2 : A u = true
    · rw [if_pos h2, if_pos h2]; simp
    · rw [if_neg h2, if_neg h2]; simp
  · rw [if_neg h]
    refine sumN_congr fun u _ => ?_
    dsimp only
    rw [if_neg h]
    by_cases h2 : A u = true
    · rw [if_pos h2, if_pos h2]; simp
    · rw [if_neg h2, if_neg h2]; simp
/-- Scripts that leave no debts away from q are small. -/
theorem legal_small {q : Nat} (hq : q < n) {D : Nat → Int} (hD : ∀ v, v < n → v ≠ q → 0 ≤ D v) {s : Nat → Int} (hs : s q = 0) (hE : ∀ v, v < n → v ≠ q → 0 ≤ D v + lapF n J s v) {C : Int} (hC : sumN (fun v => if v = q then 0 else D v) n ≤ C) : ∀ v, v < n → s v ≤ ((n : Int) - 1) * C := by
  have h0 : 0 ≤ sumN (fun v => if v = q then 0 else D v) n := sumN_nonneg fun v hv => by
    split
    · omega
    · rename_i h; exact hD v hv h
  have := flow_bound hM hq (s := s) (D := C) (by omega) fun A hA => by
    have h1 : - sumN (fun v => if A v = true then lapF n J s v else 0) n ≤ sumN (fun v => if v = q then 0 else D v) n := by
      rw [← sumN_neg']
      refine sumN_le fun v hv => ?_
      by_cases e : v = q
      · subst e; rw [hA]; simp
      · rw [if_neg e]
        have h2 := hE v hv e
        have h3 := hD v hv e
        split <;> omega
    omega
  intro v hv
  have := this v hv
  omega
end
end Sand
end Go
end
section
namespace Go
namespace Sand
/-- One chip at a vertex. -/
def oneF (v : Nat) (u : Nat) : Int := if u = v then 1 else 0
/-- The rank is at least k. -/
def RkGe (n : Nat) (J : Nat → Nat → Int) (D : Nat → Int) (k : Nat) : Prop := ∀ E, EffF n E → sumN E n = k → WinF n J (fun v => D v - E v)
/-- What the rank is. -/
def RankIs (n : Nat) (J : Nat → Nat → Int) (D : Nat → Int) (k : Int) : Prop := (k = -1 ∧ ¬ WinF n J D) ∨ ∃ m : Nat, k = m ∧ RkGe n J D m ∧ ¬ RkGe n J D (m + 1)
theorem oneF_eff (n v : Nat) : EffF n (oneF v) := fun u _ => by unfold oneF; split <;> omega
theorem oneF_sum {n v : Nat} (hv : v < n) : sumN (oneF v) n = 1 := by
  have := sumN_one v n 1
  rw [if_pos hv] at this
  exact this
theorem eff_zero {n : Nat} {E : Nat → Int} (h : EffF n E) (h0 : sumN E n = 0) : ∀ v, v < n → E v = 0 := fun v hv => by
  have h1 := sumN_term (f := E) (k := n) (v := v) h hv
  have h2 := h v hv
  omega
section
variable {n : Nat} {J : Nat → Nat → Int}
theorem RkGe.equi {D E : Nat → Int} (h : Equi n J D E) {k : Nat} (hk : RkGe n J D k) : RkGe n J E k := fun F h1 h2 => (WinF.equi (h.sub F)).1 (hk F h1 h2)
theorem rk_zero {D : Nat → Int} : RkGe n J D 0 ↔ WinF n J D := by
  constructor
  · intro h
    refine (WinF.equi (Equi.of_eq fun v _ => ?_)).1 (h (fun _ => 0) (fun _ _ => Int.le_refl 0) (sumN_zero n))
    (try dsimp only); omega
  · intro h E h1 h2
    refine (WinF.equi (Equi.of_eq fun v hv => ?_)).1 h
    (try dsimp only); rw [eff_zero h1 h2 v hv]; omega
theorem RkGe.less (hn : 0 < n) {D : Nat → Int} {k : Nat} (h : RkGe n J D (k + 1)) : RkGe n J D k := fun E h1 h2 => by
  have := h (fun u => E u + oneF 0 u) (fun u hu => by have := h1 u hu; have := oneF_eff n 0 u hu; (try dsimp only); omega) (by rw [sumN_add, oneF_sum hn, h2]; omega)
  refine (WinF.equi (Equi.of_eq fun u _ => ?_)).1 (this.add (oneF_eff n 0))
  (try dsimp only); omega
theorem RkGe.le (hn : 0 < n) {D : Nat → Int} {k m : Nat} (h : RkGe n J D k) (hm : m ≤ k) : RkGe n J D m := by
  obtain ⟨j, rfl⟩ : ∃ j, k = m + j := ⟨k - m, by omega⟩
  clear hm
  induction j with
  | zero => exact h
  | succ j ih => exact ih (RkGe.less hn h)
theorem RankIs.equi {D E : Nat → Int} (h : Equi n J D E) {k : Int} (hk : RankIs n J D k) : RankIs n J E k := by
  rcases hk with ⟨rfl, h1⟩ | ⟨m, rfl, h1, h2⟩
  · exact .inl ⟨rfl, fun h2 => h1 ((WinF.equi h).2 h2)⟩
  · exact .inr ⟨m, rfl, h1.equi h, fun h3 => h2 (h3.equi h.symm)⟩
theorem RankIs.low {D : Nat → Int} {k : Int} (h : RankIs n J D k) : -1 ≤ k := by
  rcases h with ⟨rfl, _⟩ | ⟨j, rfl, _, _⟩ <;> omega
theorem RankIs.more {D : Nat → Int} {k : Int} (hl : -1 ≤ k) (h : ∀ m : Nat, RkGe n J D m ↔ (m : Int) ≤ k) : RankIs n J D k := by
  by_cases e : k = -1
  · subst e
    exact .inl ⟨rfl, fun hw => by have := (h 0).1 (rk_zero.2 hw); omega⟩
  · refine .inr ⟨k.toNat, by omega, (h _).2 (by omega), fun h2 => by have := (h _).1 h2; omega⟩
variable (hM : MG n J)
include hM
end
end Sand
end Go
end
