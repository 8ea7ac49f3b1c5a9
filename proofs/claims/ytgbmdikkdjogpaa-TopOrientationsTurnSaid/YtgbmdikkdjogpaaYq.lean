/-
  Contracts: how far vertices are.
-/
import Derived.Test.YtgbmdikkdjogpaaYp
set_option linter.unusedSimpArgs false
set_option linter.unusedVariables false
namespace Go.Proofs.Ytgbmdikkdjogpaa
open Go.Abs Go.Sand

/-- How many vertices have been reached. -/
def cntG (far : List Int) : Nat := far.countP fun x => decide (0 ≤ x)
theorem cntG_le (far : List Int) : cntG far ≤ far.length := List.countP_le_length
theorem cntG_set {far : List Int} {u : Nat} (hu : u < far.length) (h : far.getD u 0 < 0) {y : Int} (hy : 0 ≤ y) : cntG (far.set u y) = cntG far + 1 := by
  have hg : far[u] < 0 := by rw [← getD_get hu]; exact h
  unfold cntG
  rw [List.countP_set hu]
  have h1 : decide (0 ≤ far[u]) = false := decide_eq_false (by omega)
  have h2 : decide (0 ≤ y) = true := decide_eq_true hy
  rw [h1, h2]
  simp
theorem getD_set' {far : List Int} {u w : Nat} {y : Int} (hu : u < far.length) : (far.set u y).getD w 0 = if w = u then y else far.getD w 0 := by
  simp only [List.getD_eq_getElem?_getD, List.getElem?_set]
  by_cases h : u = w
  · subst h; simp [hu]
  · rw [if_neg h, if_neg (fun e => h e.symm)]
/-- Breadth first: what has been reached, what waits; the edges at v are being looked at. -/
structure Bf (n : Nat) (es : List Ed) (q : Nat) (v : Int) (far W : List Int) : Prop where
  len : far.length = n
  q0 : far.getD q 0 = 0
  rng : ∀ u, u < n → -1 ≤ far.getD u 0 ∧ far.getD u 0 < cntG far
  par : ∀ u : Nat, u < n → 0 ≤ far.getD u 0 → u ≠ q → 0 < far.getD u 0 ∧ ∃ x ∈ es, incB u x = true ∧ far.getD (x.a + x.b - u).toNat 0 = far.getD u 0 - 1
  w : ∀ u ∈ W, 0 ≤ u ∧ u < n ∧ 0 ≤ far.getD u.toNat 0
  cl : ∀ u : Nat, u < n → 0 ≤ far.getD u 0 → (u : Int) ∉ W → (u : Int) ≠ v → ∀ x ∈ es, incB u x = true → 0 ≤ far.getD (x.a + x.b - u).toNat 0
theorem Bf.push {n : Nat} {es : List Ed} {q : Nat} {v : Int} {far W : List Int} (h : Bf n es q v far W) {u p : Nat} (hu : u < n) (h0 : far.getD u 0 < 0) (hp : p < n) (hp0 : 0 ≤ far.getD p 0)
    (hx : ∃ x ∈ es, incB u x = true ∧ (x.a + x.b - u).toNat = p) : Bf n es q v (far.set u (far.getD p 0 + 1)) (W ++ [(u : Int)]) := by
  have hul : u < far.length := by rw [h.len]; exact hu
  have hne : ∀ w, 0 ≤ far.getD w 0 → w ≠ u := fun w hw e => by subst e; omega
  have hold : ∀ w, 0 ≤ far.getD w 0 → (far.set u (far.getD p 0 + 1)).getD w 0 = far.getD w 0 := fun w hw => by rw [getD_set' hul, if_neg (hne w hw)]
  have hself : (far.set u (far.getD p 0 + 1)).getD u 0 = far.getD p 0 + 1 := by rw [getD_set' hul, if_pos rfl]
  have hcnt : cntG (far.set u (far.getD p 0 + 1)) = cntG far + 1 := cntG_set hul h0 (by omega)
  have hmono : ∀ w, 0 ≤ far.getD w 0 → 0 ≤ (far.set u (far.getD p 0 + 1)).getD w 0 := fun w hw => by rw [hold w hw]; exact hw
  have hback : ∀ w, w ≠ u → (far.set u (far.getD p 0 + 1)).getD w 0 = far.getD w 0 := fun w hw => by rw [getD_set' hul, if_neg hw]
  refine ⟨by rw [List.length_set, h.len], by rw [hold q (by rw [h.q0]; omega), h.q0], fun w hw => ?_, fun w hw hw0 hwq => ?_, fun w hw => ?_, fun w hw hw0 hwW hwv x hx hi => ?_⟩
  · rw [hcnt]
    by_cases e : w = u
    · subst e; rw [hself]; have := (h.rng p hp).2; omega
    · rw [hback w e]; have := h.rng w hw; omega
  · by_cases e : w = u
    · subst e
      rw [hself]
      obtain ⟨x, hx1, hx2, hx3⟩ := hx
      refine ⟨by omega, x, hx1, hx2, ?_⟩
      rw [hx3, hold p hp0]; omega
    · rw [hback w e] at hw0 ⊢
      obtain ⟨h1, x, hx1, hx2, hx3⟩ := h.par w hw hw0 hwq
      exact ⟨h1, x, hx1, hx2, by rw [hold _ (by omega), hx3]⟩
  · rcases List.mem_append.1 hw with hw | hw
    · obtain ⟨h1, h2, h3⟩ := h.w w hw
      exact ⟨h1, h2, hmono _ h3⟩
    · simp only [List.mem_singleton] at hw
      subst hw
      exact ⟨by omega, by omega, by rw [Int.toNat_natCast, hself]; omega⟩
  · have hwu : w ≠ u := fun e => hwW (by subst e; simp)
    rw [hback w hwu] at hw0
    exact hmono _ (h.cl w hw hw0 (fun hm => hwW (List.mem_append_left _ hm)) hwv x hx hi)
theorem Bf.pop {n : Nat} {es : List Ed} {q : Nat} {v : Int} {far W : List Int} (h : Bf n es q (-1) far (v :: W)) : Bf n es q v far W :=
  ⟨h.len, h.q0, h.rng, h.par, fun u hu => h.w u (by simp [hu]), fun u hu h0 hW hv x hx hi => h.cl u hu h0 (fun hm => by
    rcases List.mem_cons.1 hm with e | e
    · exact hv e
    · exact hW e) (by omega) x hx hi⟩
theorem Bf.done {n : Nat} {es : List Ed} {q : Nat} {v : Int} {far W : List Int} (h : Bf n es q v far W) (hv : ∀ x ∈ es, incB v x = true → 0 ≤ far.getD (x.a + x.b - v).toNat 0) : Bf n es q (-1) far W :=
  ⟨h.len, h.q0, h.rng, h.par, h.w, fun u hu h0 hW _ x hx hi => by
    by_cases e : (u : Int) = v
    · rw [e] at hi ⊢; exact hv x hx hi
    · exact h.cl u hu h0 hW e x hx hi⟩
theorem getD_rep {n : Nat} {u : Nat} (h : u < n) : (List.replicate n (-1 : Int)).getD u 0 = -1 := by simp [List.getD_eq_getElem?_getD, h]
theorem Bf.init {n : Nat} {es : List Ed} {q : Nat} (hq : q < n) : Bf n es q (-1) ((List.replicate n (-1)).set q 0) [(q : Int)] := by
  have hl : q < (List.replicate n (-1 : Int)).length := by simpa using hq
  have hc : cntG ((List.replicate n (-1)).set q 0) = 1 := by
    rw [cntG_set hl (by rw [getD_rep hq]; omega) (by omega)]
    unfold cntG
    rw [List.countP_replicate]
    simp
  have hs : ∀ u, u < n → ((List.replicate n (-1 : Int)).set q 0).getD u 0 = if u = q then 0 else -1 := fun u hu => by rw [getD_set' hl, getD_rep hu]
  refine ⟨by simp, by rw [hs q hq, if_pos rfl], fun u hu => ?_, fun u hu h0 hne => ?_, fun u hu => ?_, fun u hu h0 hW _ x hx hi => ?_⟩
  · rw [hc, hs u hu]; split <;> omega
  · rw [hs u hu, if_neg hne] at h0; omega
  · simp only [List.mem_singleton] at hu
    subst hu
    exact ⟨by omega, by omega, by rw [Int.toNat_natCast, hs q hq, if_pos rfl]; omega⟩
  · rw [hs u hu] at h0
    by_cases e : u = q
    · subst e; exact absurd (by simp) hW
    · rw [if_neg e] at h0; omega
/-- How far vertices are: what is known of it. -/
structure FarOk (n : Nat) (es : List Ed) (q : Nat) (far : List Int) : Prop where
  len : far.length = n
  q0 : far.getD q 0 = 0
  rng : ∀ u, u < n → -1 ≤ far.getD u 0 ∧ far.getD u 0 < n
  par : ∀ u : Nat, u < n → 0 ≤ far.getD u 0 → u ≠ q → 0 < far.getD u 0 ∧ ∃ x ∈ es, incB u x = true ∧ far.getD (x.a + x.b - u).toNat 0 = far.getD u 0 - 1
  cl : ∀ u : Nat, u < n → 0 ≤ far.getD u 0 → ∀ x ∈ es, incB u x = true → 0 ≤ far.getD (x.a + x.b - u).toNat 0
theorem Bf.ok {n : Nat} {es : List Ed} {q : Nat} {far : List Int} (h : Bf n es q (-1) far []) : FarOk n es q far :=
  ⟨h.len, h.q0, fun u hu => by have h1 := h.rng u hu; have := cntG_le far; rw [h.len] at this; omega, h.par, fun u hu h0 x hx hi => h.cl u hu h0 (by simp) (by omega) x hx hi⟩
end Go.Proofs.Ytgbmdikkdjogpaa
