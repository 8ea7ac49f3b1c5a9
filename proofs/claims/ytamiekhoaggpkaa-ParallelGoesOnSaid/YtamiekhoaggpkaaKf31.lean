/-
  Texts joined: Wv Ww.
-/
import Derived.Test.YtamiekhoaggpkaaKf30

section
set_option linter.unusedSimpArgs false
set_option linter.unusedVariables false
namespace Go.Proofs.Ytamiekhoaggpkaa
open Go.Abs Go.Sand
theorem in60_get {s : List Int} (h : s.all in60 = true) (i : Nat) : -60 ≤ s.getD i 0 ∧ s.getD i 0 ≤ 60 := by
  by_cases hi : i < s.length
  · have := List.all_eq_true.1 h _ (List.getElem_mem hi)
    rw [getD_get hi]
    simpa [in60] using this
  · simp [List.getD_eq_getElem?_getD, List.getElem?_eq_none (Nat.le_of_not_lt hi)]
theorem inB_all {m : List Int} (h : ∀ i, i < m.length → -1048576 ≤ m.getD i 0 ∧ m.getD i 0 ≤ 1048576) : m.all inB = true := by
  rw [List.all_eq_true]
  intro x hx
  obtain ⟨i, hi, rfl⟩ := List.getElem_of_mem hx
  have := h i hi
  rw [getD_get hi] at this
  exact inB_iff.2 this
theorem dcheck_mk {n : Nat} {m : List Int} (h1 : 1 ≤ n) (h2 : n ≤ 12) (hl : m.length = n) (hb : m.all inB = true) : dcheck m n = 0 := by
  rw [dcheck, if_neg (by omega), if_neg (by omega), if_pos hb]
theorem given19 {n : Nat} {es : List Ed} {q : Int} {d m : List Int} (h : StOk n es q d) (hl : m.length = n) (hb : m.all inB = true) : givenE n es m = 0 := by
  rw [givenE, if_neg (by simp [h.gc]), dcheck_mk h.n1 h.n12 hl hb]
theorem st_mk {n : Nat} {es : List Ed} {q : Int} {d m : List Int} (h : StOk n es q d) (hl : m.length = n) (hb : m.all inB = true) (hp : ∀ v, v < n → (v : Int) ≠ q → 0 ≤ m.getD v 0) : stE n es q m = 0 := by
  have e1 : rootE n es q = 0 := by
    rw [rootE, if_neg (by simp [h.gc]), if_pos (by simpa using h.parts), if_pos]
    have := h.q0
    have := h.qn
    simp [vtx]; omega
  have e2 : negB q m = false := negB_none fun u hu ⟨h1, h2⟩ => by
    have := hp u (by omega) h1
    omega
  rw [stE, if_neg (by simp [e1]), if_neg (by simp [dcheck_mk h.n1 h.n12 hl hb]), if_neg (by simp [e2])]
/-- What is small. -/
def small20 (N : Int) (es : List Ed) (q : Int) (d : List Int) : Bool := few18 N es d && decide (stE N es q d = 0) && d.all in60
theorem small20_ok (N : Int) (es : List Ed) (q : Int) (d : List Int) : PC Try.prog 34 [G N es, .i q, .is d] (.b (small20 N es q d)) [] := by
  refine PC_of_W cfn34 ?_
  simp -implicitDefEqProofs (disch := omega) [c34, List.getElem?_cons_zero, List.getElem?_cons_succ, wrap_id]
  refine HC_of_PC rfl (rfew_ok N es d) ?_
  cases hf : few18 N es d
  · simp -implicitDefEqProofs (disch := omega) [List.getElem?_cons_zero, List.getElem?_cons_succ, wrap_id]
    (refine fin0 trivial rfl ?_; simp -implicitDefEqProofs (disch := omega) [List.getElem?_cons_zero, List.getElem?_cons_succ, idx, wrap_id, small20, hf])
  obtain ⟨he, hd⟩ := few20_len hf
  simp -implicitDefEqProofs (disch := omega) [List.getElem?_cons_zero, List.getElem?_cons_succ, wrap_id]
  refine HC_of_PC rfl (r19check_ok N es q d he hd) ?_
  by_cases h0 : stE N es q d = 0
  · simp -implicitDefEqProofs (disch := omega) [List.getElem?_cons_zero, List.getElem?_cons_succ, wrap_id, h0]
    refine HC_of_PC rfl (dsmall_ok d (by omega)) ?_
    simp -implicitDefEqProofs (disch := omega) [List.getElem?_cons_zero, List.getElem?_cons_succ, wrap_id]
    (refine fin0 trivial rfl ?_; simp -implicitDefEqProofs (disch := omega) [List.getElem?_cons_zero, List.getElem?_cons_succ, idx, wrap_id, small20, hf, h0])
  · simp -implicitDefEqProofs (disch := omega) [List.getElem?_cons_zero, List.getElem?_cons_succ, wrap_id, h0]
    (refine fin0 trivial rfl ?_; simp -implicitDefEqProofs (disch := omega) [List.getElem?_cons_zero, List.getElem?_cons_succ, idx, wrap_id, small20, hf, h0])
theorem small20_at {N : Int} {es : List Ed} {q : Int} {d : List Int} (h : small20 N es q d = true) : few18 N es d = true ∧ stE N es q d = 0 ∧ d.all in60 = true := by
  simpa [small20, Bool.and_eq_true, decide_eq_true_eq, and_assoc] using h
section
variable {n : Nat} {es : List Ed} {q : Int} {d : List Int}
/-- No vertex has more chips than that, whatever fires. -/
theorem chips_small {B : Int} (h : StOk n es q d) (hB : 0 ≤ B) (hd : ∀ i, -B ≤ d.getD i 0 ∧ d.getD i 0 ≤ B) {s : List Int} (hs : Leg n es q d s) (i : Nat) : -B ≤ (movedE es s d).getD i 0 ∧ (movedE es s d).getD i 0 ≤ 13 * B := by
  have hn := h.n12
  have hl : (movedE es s d).length = n := by rw [movedE_length, h.c.len]
  have hsum := movedE_sum s h.g.right d h.c.len
  have hup : sumI d ≤ 12 * B := by
    have : ∀ k, k ≤ d.length → sumI (d.take k) ≤ k * B := by
      intro k
      induction k with
      | zero => intro _; simp [sumI]
      | succ k ih =>
        intro hk
        have h1 := ih (by omega)
        have h2 := (hd k).2
        rw [getD_get (by omega)] at h2
        rw [sumI_snoc d k (by omega)]
        push_cast
        rw [Int.add_mul, Int.one_mul]
        omega
    have h1 := this d.length (Nat.le_refl _)
    rw [List.take_length, h.c.len] at h1
    have : (n : Int) * B ≤ 12 * B := Int.mul_le_mul_of_nonneg_right (by omega) hB
    omega
  obtain ⟨p, hp⟩ : ∃ p : Nat, q = p := ⟨q.toNat, by have := h.q0; omega⟩
  have hpn : p < n := by have := h.qn; omega
  have hsk := hs.sinkUp h.g h.c.len p hp.symm
  have hdp := (hd p).1
  by_cases hi : i < n
  · by_cases hq : (i : Int) = q
    · have e : i = p := by omega
      subst e
      have h3 := sumI_ge (movedE es s d) i (fun j hj hne => hs.pos h.g h.c.len h.c.pos j (by omega) (by omega)) (by omega)
      omega
    · have h1 := hs.pos h.g h.c.len h.c.pos i hi hq
      have h2 := sumI_ge2 (movedE es s d) i p (by omega) (fun j hj _ hne => hs.pos h.g h.c.len h.c.pos j (by omega) (by omega)) (by omega) (by omega)
      omega
  · rw [List.getD_eq_getElem?_getD, List.getElem?_eq_none (by omega)]
    simp
    omega
end
/-- How many of the first k vertices are in a set. -/
def cntS (A : Nat → Bool) : Nat → Nat
  | 0 => 0
  | k + 1 => cntS A k + if A k = true then 1 else 0
theorem cntS_le (A : Nat → Bool) : ∀ k, cntS A k ≤ k
  | 0 => Nat.le_refl 0
  | k + 1 => by have := cntS_le A k; simp only [cntS]; split <;> omega
theorem cntS_mono {A B : Nat → Bool} (h : ∀ v, A v = true → B v = true) : ∀ k, cntS A k ≤ cntS B k
  | 0 => Nat.le_refl 0
  | k + 1 => by
    have := cntS_mono h k
    simp only [cntS]
    cases ha : A k
    · simp; omega
    · rw [h k ha]; simp; omega
theorem cntS_less {A B : Nat → Bool} (h : ∀ v, A v = true → B v = true) {u : Nat} (hu : B u = true) (hn : A u = false) : ∀ k, u < k → cntS A k + 1 ≤ cntS B k
  | 0, h0 => by omega
  | k + 1, hk => by
    simp only [cntS]
    by_cases e : u = k
    · subst e
      have := cntS_mono h u
      rw [hu, hn]; simp; omega
    · have := cntS_less h hu hn k (by omega)
      cases ha : A k
      · simp; omega
      · rw [h k ha]; simp; omega
theorem cntS_none {A : Nat → Bool} {n : Nat} (h : cntS A n = 0) : ∀ v, v < n → A v = false := by
  induction n with
  | zero => intro v hv; omega
  | succ n ih =>
    simp only [cntS] at h
    intro v hv
    rcases Nat.lt_or_ge v n with h1 | h1
    · exact ih (by omega) v h1
    · have e : v = n := by omega
      rw [e]
      cases ha : A n
      · rfl
      · rw [ha] at h; simp at h
section
variable {n : Nat} {es : List Ed} (hg : GoodG n es)
include hg
/-- What flows out of a set of vertices. -/
theorem flow_out (s : List Int) (A : Nat → Bool) : sumN (fun v => if A v = true then dif es s v else 0) n = sumN (fun v => sumN (fun u => if A v = true ∧ A u = false then joinE es v u * (s.getD u 0 - s.getD v 0) else 0) n) n := by
  have e1 : ∀ v, (if A v = true then dif es s v else 0) = sumN (fun u => if A v = true then joinE es v u * (s.getD u 0 - s.getD v 0) else 0) n := by
    intro v
    cases hA : A v
    · simp [sumN_zero]
    · simp only [if_true]
      rw [dif_sum hg, valTo_sum, ← sumN_mul]
      have : ∀ k, sumN (fun u => joinE es v u * s.getD u 0) k - sumN (fun u => s.getD v 0 * joinE es v u) k = sumN (fun u => joinE es v u * (s.getD u 0 - s.getD v 0)) k := by
        intro k
        induction k with
        | zero => rfl
        | succ k ih =>
          simp only [sumN]
          rw [← ih, Int.mul_sub, Int.mul_comm (joinE es v k) (s.getD v 0)]
          omega
      exact this n
  have e2 : sumN (fun v => if A v = true then dif es s v else 0) n = sumN (fun v => sumN (fun u => if A v = true then joinE es v u * (s.getD u 0 - s.getD v 0) else 0) n) n := sumN_congr fun v _ => e1 v
  have e3 : ∀ v u, (if A v = true then joinE es v u * (s.getD u 0 - s.getD v 0) else 0) = (if A v = true ∧ A u = false then joinE es v u * (s.getD u 0 - s.getD v 0) else 0) + (if A v = true ∧ A u = true then joinE es v u * (s.getD u 0 - s.getD v 0) else 0) := by
    intro v u
    cases A v <;> cases A u <;> simp
  have e4 : sumN (fun v => sumN (fun u => if A v = true ∧ A u = true then joinE es v u * (s.getD u 0 - s.getD v 0) else 0) n) n = 0 := by
    have h := sumN_swap (fun v u => if A v = true ∧ A u = true then joinE es v u * (s.getD u 0 - s.getD v 0) else 0) n n
    have h2 : sumN (fun v => sumN (fun u => if A u = true ∧ A v = true then joinE es u v * (s.getD v 0 - s.getD u 0) else 0) n) n = - sumN (fun v => sumN (fun u => if A v = true ∧ A u = true then joinE es v u * (s.getD u 0 - s.getD v 0) else 0) n) n := by
      have neg : ∀ (f : Nat → Int) k, sumN (fun u => - f u) k = - sumN f k := by
        intro f k
        induction k with
        | zero => rfl
        | succ k ih => simp only [sumN, ih]; omega
      rw [← neg]
      refine sumN_congr fun v _ => ?_
      rw [← neg]
      refine sumN_congr fun u _ => ?_
      rw [joinE_sym u v]
      by_cases h1 : A u = true ∧ A v = true
      · rw [if_pos h1, if_pos ⟨h1.2, h1.1⟩, ← Int.mul_neg]
        congr 1
        omega
      · rw [if_neg h1, if_neg (fun h2 => h1 ⟨h2.2, h2.1⟩)]; rfl
    omega
  rw [e2, show sumN (fun v => sumN (fun u => if A v = true then joinE es v u * (s.getD u 0 - s.getD v 0) else 0) n) n = sumN (fun v => sumN (fun u => if A v = true ∧ A u = false then joinE es v u * (s.getD u 0 - s.getD v 0) else 0) n + sumN (fun u => if A v = true ∧ A u = true then joinE es v u * (s.getD u 0 - s.getD v 0) else 0) n) n from
    sumN_congr fun v _ => by rw [← sumN_add]; exact sumN_congr fun u _ => e3 v u]
  rw [sumN_add, e4, Int.add_zero]
/-- Out of each set of vertices, but none or all, leads a single edge. -/
theorem edge_out (hp : partsN es n = 1) (A : Nat → Bool) {a b : Nat} (ha : a < n) (hb : b < n) (hAa : A a = true) (hAb : A b = false) : ∃ u w, u < n ∧ w < n ∧ A u = true ∧ A w = false ∧ 1 ≤ joinE es u w := by
  have hn := hg.n12
  refine Classical.byContradiction fun hno => ?_
  have hcl : ∀ u u', cls es u = cls es u' → (A u = true ↔ A u' = true) := by
    intro u u' h
    have := cls_closed (n := n) (es := es) (fun y => A y = true) (fun x hx => by
      have r := hg.right x hx
      have h1 := r.m1
      have h2 := r.a0
      have h3 := r.b0
      have h4 := r.an
      have h5 := r.bn
      have hne : ∀ u w : Nat, u < n → w < n → A u = true → A w = false → joinE es u w ≤ 0 := fun u w h1 h2 h3 h4 => by
        refine Classical.byContradiction fun h5 => hno ⟨u, w, h1, h2, h3, h4, by omega⟩
      by_cases hab : x.a.toNat = x.b.toNat
      · rw [hab]
      · have hadj := (adj_of (n := n) hg.right hx).1
        unfold adj at hadj
        have hj : 0 < joinE es x.a.toNat x.b.toNat := by
          rw [joinE, if_neg (fun e => hab e.symm), Int.min_comm, Int.max_comm]
          exact hadj
        have hj2 : 0 < joinE es x.b.toNat x.a.toNat := by rw [joinE_sym]; exact hj
        constructor
        · intro h6
          cases h7 : A x.b.toNat
          · have := hne _ _ (by omega) (by omega) h6 h7; omega
          · rfl
        · intro h6
          cases h7 : A x.a.toNat
          · have := hne _ _ (by omega) (by omega) h6 h7; omega
          · rfl) es.length (Nat.le_refl _) u u'
    rw [List.take_length] at this
    exact this h
  have hF := ufJ_forest (n := n) (by omega) hg.right es.length (Nat.le_refl _)
  rw [List.take_length] at hF
  have root : ∀ u, u < n → cls es u ∈ rootsL es n := fun u hu => by
    obtain ⟨h1, h2⟩ := hF.le u (by omega)
    refine List.mem_filter.2 ⟨List.mem_range.2 ?_, decide_eq_true h2⟩
    show (ufJ es).2 u < n
    omega
  obtain ⟨r, hr⟩ := List.length_eq_one_iff.1 hp
  have h1 := root a ha
  have h2 := root b hb
  rw [hr] at h1 h2
  have h3 : cls es a = cls es b := by rw [List.mem_singleton.1 h1, List.mem_singleton.1 h2]
  have := (hcl a b h3).1 hAa
  rw [hAb] at this
  cases this
end
section
variable {n : Nat} {es : List Ed} {q : Int} {d : List Int}
/-- THE ODOMETER OF FEW CHIPS: nowhere more than D for each vertex. -/
theorem odo_small (h : StOk n es q d) {s : List Int} (hs : Leg n es q d s) {D : Int} (hD : ∀ A : Nat → Bool, (∀ v, A v = true → (v : Int) ≠ q) → sumN (fun v => if A v = true then d.getD v 0 - (movedE es s d).getD v 0 else 0) n ≤ D) (hD0 : 0 ≤ D) : ∀ i, s.getD i 0 ≤ n * D := by
  have hg := h.g
  have hsl := hs.len
  obtain ⟨p, hp⟩ : ∃ p : Nat, q = p := ⟨q.toNat, by have := h.q0; omega⟩
  have hpn : p < n := by have := h.qn; omega
  have key : ∀ j : Nat, j < n → cntS (fun v => decide ((j : Int) * D < s.getD v 0)) n + j + 1 ≤ n := by
    intro j
    induction j with
    | zero =>
      intro _
      have := cntS_less (A := fun v => decide (((0 : Nat) : Int) * D < s.getD v 0)) (B := fun _ => true) (fun _ _ => rfl) (u := p) rfl (by
        rw [decide_eq_false_iff_not, hs.sink p hp.symm]
        simp) n hpn
      have := cntS_le (fun _ => true) n
      omega
    | succ j ih =>
      intro hj
      have ih := ih (by omega)
      obtain ⟨A, hA⟩ : ∃ A : Nat → Bool, A = fun v => decide ((j : Int) * D < s.getD v 0) := ⟨_, rfl⟩
      have hAv : ∀ v, A v = true ↔ (j : Int) * D < s.getD v 0 := fun v => by rw [hA]; simp
      have hjD : 0 ≤ (j : Int) * D := Int.mul_nonneg (by omega) hD0
      have hsucc : ((j + 1 : Nat) : Int) * D = (j : Int) * D + D := by push_cast; rw [Int.add_mul, Int.one_mul]
      rw [← hA] at ih
      have hmono : ∀ v, decide (((j + 1 : Nat) : Int) * D < s.getD v 0) = true → A v = true := fun v hv => by
        rw [hAv]
        have := of_decide_eq_true hv
        omega
      by_cases hne : ∃ a, a < n ∧ A a = true
      · obtain ⟨a, ha, hAa⟩ := hne
        have hAp : A p = false := by
          cases hh : A p
          · rfl
          · have := (hAv p).1 hh
            rw [hs.sink p hp.symm] at this
            omega
        obtain ⟨u, w, hu, hw, hAu, hAw, hj1⟩ := edge_out hg h.parts A ha hpn hAa hAp
        have hfl := flow_out hg s A
        have hDA := hD A (fun v hv e => by
          have e : v = p := by omega
          rw [e, hAp] at hv; cases hv)
        have e1 : sumN (fun v => if A v = true then d.getD v 0 - (movedE es s d).getD v 0 else 0) n = - sumN (fun v => if A v = true then dif es s v else 0) n := by
          have neg : ∀ (f : Nat → Int) k, sumN (fun u => - f u) k = - sumN f k := by
            intro f k
            induction k with
            | zero => rfl
            | succ k ih => simp only [sumN, ih]; omega
          rw [← neg]
          refine sumN_congr fun v _ => ?_
          rw [aft_eq hg h.c.len]
          split <;> omega
        -- one term of the flow is at least the step from w to u
        have hterm : ∀ v x, 0 ≤ (if A v = true ∧ A x = false then joinE es v x * (s.getD v 0 - s.getD x 0) else 0) := by
          intro v x
          split
          · rename_i hh
            have h1 := (hAv v).1 hh.1
            have h2 : ¬ (j : Int) * D < s.getD x 0 := fun h3 => by rw [(hAv x).2 h3] at hh; exact absurd hh.2 (by simp)
            exact Int.mul_nonneg (joinE_bd hg v x).1 (by omega)
          · exact Int.le_refl 0
        have hpick : ∀ (f : Nat → Int) k, (∀ y, 0 ≤ f y) → ∀ y, y < k → f y ≤ sumN f k := by
          intro f k hf
          induction k with
          | zero => intro y hy; omega
          | succ k ih =>
            intro y hy
            simp only [sumN]
            rcases Nat.lt_or_ge y k with h1 | h1
            · have := ih y h1; have := hf k; omega
            · have e : y = k := by omega
              rw [e]
              have := sumN_nonneg (f := f) (k := k) fun z _ => hf z
              omega
        have e2 : - sumN (fun v => sumN (fun x => if A v = true ∧ A x = false then joinE es v x * (s.getD x 0 - s.getD v 0) else 0) n) n = sumN (fun v => sumN (fun x => if A v = true ∧ A x = false then joinE es v x * (s.getD v 0 - s.getD x 0) else 0) n) n := by
          have neg : ∀ (f : Nat → Int) k, sumN (fun u => - f u) k = - sumN f k := by
            intro f k
            induction k with
            | zero => rfl
            | succ k ih => simp only [sumN, ih]; omega
          rw [← neg]
          refine sumN_congr fun v _ => ?_
          rw [← neg]
          refine sumN_congr fun x _ => ?_
          split
          · rw [← Int.mul_neg]; congr 1; omega
          · rfl
        have h1 := hpick (fun v => sumN (fun x => if A v = true ∧ A x = false then joinE es v x * (s.getD v 0 - s.getD x 0) else 0) n) n (fun v => sumN_nonneg fun x _ => hterm v x) u hu
        have h2 := hpick (fun x => if A u = true ∧ A x = false then joinE es u x * (s.getD u 0 - s.getD x 0) else 0) n (fun x => hterm u x) w hw
        rw [if_pos ⟨hAu, hAw⟩] at h2
        have h3 := (hAv u).1 hAu
        have h4 : ¬ (j : Int) * D < s.getD w 0 := fun h5 => by rw [(hAv w).2 h5] at hAw; cases hAw
        have h6 : s.getD u 0 - s.getD w 0 ≤ joinE es u w * (s.getD u 0 - s.getD w 0) := by
          have : 1 * (s.getD u 0 - s.getD w 0) ≤ joinE es u w * (s.getD u 0 - s.getD w 0) := Int.mul_le_mul_of_nonneg_right hj1 (by omega)
          omega
        have hlast := cntS_less hmono hAu (by
          rw [decide_eq_false_iff_not, hsucc]
          omega) n hu
        omega
      · have h0 : cntS (fun v => decide (((j + 1 : Nat) : Int) * D < s.getD v 0)) n = 0 := by
          have : ∀ k, k ≤ n → cntS (fun v => decide (((j + 1 : Nat) : Int) * D < s.getD v 0)) k = 0 := by
            intro k
            induction k with
            | zero => intro _; rfl
            | succ k ih2 =>
              intro hk
              simp only [cntS]
              rw [ih2 (by omega), if_neg (fun hh => hne ⟨k, by omega, hmono k hh⟩)]
          exact this n (Nat.le_refl _)
        omega
  intro i
  by_cases hi : i < n
  · have hk := key (n - 1) (by omega)
    have h0 : cntS (fun v => decide (((n - 1 : Nat) : Int) * D < s.getD v 0)) n = 0 := by omega
    have := cntS_none h0 i hi
    rw [decide_eq_false_iff_not] at this
    have : ((n - 1 : Nat) : Int) * D ≤ n * D := Int.mul_le_mul_of_nonneg_right (by omega) hD0
    omega
  · rw [List.getD_eq_getElem?_getD, List.getElem?_eq_none (by omega)]
    have : 0 ≤ (n : Int) * D := Int.mul_nonneg (by omega) hD0
    simpa using this
end
section
variable {n : Nat} {es : List Ed} {q : Int} {d : List Int}
/-- Whatever is fired legally from few chips is little. -/
theorem leg_small (h : StOk n es q d) (hd : ∀ i, -60 ≤ d.getD i 0 ∧ d.getD i 0 ≤ 60) {S : List Int} (hl : Leg n es q d S) : (∀ i, 0 ≤ S.getD i 0 ∧ S.getD i 0 ≤ 8640) ∧ sumI S ≤ 103680 := by
  have hn := h.n12
  have hdl := h.c.len
  have hodo : ∀ i, S.getD i 0 ≤ n * 720 := odo_small h hl (D := 720) (fun A hA => by
    have h1 : sumN (fun v => if A v = true then d.getD v 0 - (movedE es S d).getD v 0 else 0) n ≤ sumN (fun _ => 60) n := sumN_le fun v hv => by
      split
      · rename_i hAv
        have := hl.pos h.g hdl h.c.pos v hv (hA v hAv)
        have := hd v
        omega
      · omega
    have h2 : ∀ k : Nat, sumN (fun _ => 60) k = 60 * k := by
      intro k
      induction k with
      | zero => rfl
      | succ k ih => simp only [sumN, ih]; push_cast; omega
    rw [h2] at h1
    omega) (by omega)
  have h1 : ∀ i, 0 ≤ S.getD i 0 ∧ S.getD i 0 ≤ 8640 := fun i => by
    have := hodo i
    have := hl.nn i
    omega
  refine ⟨h1, ?_⟩
  rw [sumI_sumN, hl.len]
  have h2 : ∀ k : Nat, sumN (fun u => S.getD u 0) k ≤ 8640 * k := by
    intro k
    induction k with
    | zero => simp [sumN]
    | succ k ih => simp only [sumN]; have := (h1 k).2; push_cast; omega
  have := h2 n
  omega
/-- The rounds of few chips come to an end. -/
theorem went_small (h : StOk n es q d) (hd : ∀ i, -60 ≤ d.getD i 0 ∧ d.getD i 0 ≤ 60) : ∃ r : Nat, r ≤ 103680 ∧ rdyL n es q (rdC n es q d r) = [] ∧ (∀ j, j < r → rdyL n es q (rdC n es q d j) ≠ []) ∧ ∀ F, wentN n es q d F 0 = (min F r, false) := by
  have hsm : ∀ k, sumI (rdS n es q d k) ≤ 103680 := fun k => (leg_small h hd (rdS_leg h.g h.c.len k)).2
  have key : ∀ F, (wentN n es q d F 0).2 = false := fun F => by
    cases hb : (wentN n es q d F 0).2 with
    | false => rfl
    | true =>
      have := ((wentN_end (n := n) (es := es) (q := q) (d := d) F 0).yes hb).2.2
      have := hsm ((wentN n es q d F 0).1 + 1)
      omega
  have hE := wentN_end (n := n) (es := es) (q := q) (d := d) 1048577 0
  obtain ⟨r, hr⟩ : ∃ r, r = (wentN n es q d 1048577 0).1 := ⟨_, rfl⟩
  have hlive : ∀ j, j < r → rdyL n es q (rdC n es q d j) ≠ [] := fun j hj => hE.live j (Nat.zero_le _) (by rw [← hr]; exact hj)
  have hle := rdS_ge r hlive
  have hr6 : r ≤ 103680 := by have := hsm r; omega
  have hnil : rdyL n es q (rdC n es q d r) = [] := by
    rcases hE.no (key _) with h1 | h1
    · omega
    · rw [hr]; exact h1
  refine ⟨r, hr6, hnil, hlive, fun F => ?_⟩
  have hF := wentN_end (n := n) (es := es) (q := q) (d := d) F 0
  have h1 : (wentN n es q d F 0).1 = min F r := by
    have h2 : (wentN n es q d F 0).1 ≤ r := by
      refine Classical.byContradiction fun hlt => ?_
      exact hF.live r (Nat.zero_le _) (by omega) hnil
    have h3 := hF.le
    rcases hF.no (key F) with h4 | h4
    · omega
    · have h5 : r ≤ (wentN n es q d F 0).1 := by
        refine Classical.byContradiction fun hlt => ?_
        exact hlive _ (by omega) h4
      omega
  exact Prod.ext h1 (key F)
end
end Go.Proofs.Ytamiekhoaggpkaa
end
section
set_option linter.unusedSimpArgs false
set_option linter.unusedVariables false
namespace Go.Proofs.Ytamiekhoaggpkaa
open Go.Abs Go.Sand
/-- A list of which the first k and the last k numbers have changed places. -/
def revL (xs : List Int) (k : Nat) : List Int := (List.range xs.length).map fun p => if p < k ∨ xs.length - 1 - p < k then xs.getD (xs.length - 1 - p) 0 else xs.getD p 0
theorem revL_len (xs : List Int) (k : Nat) : (revL xs k).length = xs.length := by simp [revL]
theorem revL_get (xs : List Int) (k p : Nat) (h : p < (revL xs k).length) : (revL xs k)[p] = if p < k ∨ xs.length - 1 - p < k then xs.getD (xs.length - 1 - p) 0 else xs.getD p 0 := by simp [revL]
theorem revL_zero (xs : List Int) : revL xs 0 = xs := by
  refine List.ext_getElem (revL_len _ _) fun i hi hi' => ?_
  rw [revL_get, if_neg (by omega), getD_get hi']
theorem revL_step (xs : List Int) (k j : Nat) (hj : k + j + 1 = xs.length) (hk : k < j) (h1 : k < (revL xs k).length) (h2 : j < (revL xs k).length) : ((revL xs k).set k (revL xs k)[j]).set j (revL xs k)[k] = revL xs (k + 1) := by
  have hl := revL_len xs k
  rw [revL_get xs k j h2, revL_get xs k k h1]
  refine List.ext_getElem (by rw [List.length_set, List.length_set, revL_len, revL_len]) fun i hi hi' => ?_
  rw [List.length_set, List.length_set] at hi
  rw [revL_get xs (k + 1) i hi', List.getElem_set, List.getElem_set, revL_get xs k i hi]
  by_cases a1 : j = i
  · subst a1
    rw [if_pos rfl, if_neg (by omega), if_pos (by omega)]
    congr 1; omega
  · rw [if_neg a1]
    by_cases a2 : k = i
    · subst a2
      rw [if_pos rfl, if_neg (by omega), if_pos (by omega)]
      congr 1; omega
    · rw [if_neg a2]
      by_cases a3 : i < k ∨ xs.length - 1 - i < k
      · rw [if_pos a3, if_pos (by omega)]
      · rw [if_neg a3, if_neg (by omega)]
theorem revL_end (xs : List Int) : revL xs (xs.length / 2) = xs.reverse := by
  refine List.ext_getElem (by rw [revL_len, List.length_reverse]) fun i hi hi' => ?_
  rw [revL_len] at hi
  rw [revL_get, List.getElem_reverse]
  split
  · rw [getD_get (by omega)]
  · have : xs.length - 1 - i = i := by omega
    rw [getD_get hi]
    congr 1; omega
theorem reverse_hc {o : Nat} {H : List AO} (xs : List Int) (hx : xs.length ≤ 1000000) (ho : H[o]? = some (rowI xs)) {R : AV → List AO → Prop} (hR : R (.tup []) (H.set o (rowI xs.reverse))) :
    HC Try.prog false 37 [.os o 0 xs.length] H R := by
  have f1 : ∀ y, (H.set o y)[o]? = some y := fun y => by rw [List.getElem?_set_self (List.getElem?_eq_some_iff.1 ho).1]
  have f2 : ∀ y z, (H.set o y).set o z = H.set o z := fun y z => by simp
  have e0 : H = H.set o (rowI (revL xs 0)) := by
    rw [revL_zero]
    refine (List.ext_getElem? fun i => ?_)
    by_cases e : o = i
    · subst e; rw [f1, ho]
    · rw [List.getElem?_set_ne e]
  refine HC_of_W (af := _) ((by exact cfn37 : cfn _ _ _ = some _)) ?_
  simp -implicitDefEqProofs (disch := omega) [c37, List.getElem?_cons_zero, List.getElem?_cons_succ, wrap_id, ho]
  refine loopW (xs.length / 2) (fun k s => ∃ j : Int, j = (xs.length : Int) - 1 - k ∧ s = ⟨[(2, .i k), (3, .i j), (0, .os o 0 xs.length)], H.set o (rowI (revL xs k))⟩)
    (Wk_keep [2, 3, 0]) ⟨_, rfl, by rw [← e0]; simp [Abs.get]⟩ ?_
  rintro k s hk ⟨j, hj, rfl⟩
  have hl := revL_len xs k
  by_cases hlt : k < xs.length / 2
  · obtain ⟨i, rfl⟩ : ∃ i : Nat, j = i := ⟨j.toNat, by omega⟩
    have hki : (k : Int) < i := by omega
    have hk1 : k < xs.length := by omega
    have hi1 : i < xs.length := by omega
    have hst := revL_step xs k i (by omega) (by omega) (by omega) (by omega)
    simp -implicitDefEqProofs (disch := omega) [List.getElem?_cons_zero, List.getElem?_cons_succ, wrap_id, hki, hk1, hi1, hl, f1, f2]
    have e1 : (i : Int) - 1 = (xs.length : Int) - 1 - ((k + 1 : Nat) : Int) := by omega
    refine round_end' hlt (Wk_keep [2, 3, 0]) ?_
    rw [← hst, rowI, List.map_set, List.map_set, ← e1]
    simp [Abs.get]
  · have hkn : k = xs.length / 2 := by omega
    have hki : ¬ (k : Int) < j := by omega
    simp -implicitDefEqProofs (disch := omega) [List.getElem?_cons_zero, List.getElem?_cons_succ, wrap_id, hki]
    subst hkn
    rw [revL_end]
    exact finH trivial rfl hR
/-- How often a vertex stands in a list. -/
def cntV (l : List Int) (i : Nat) : Int := ((l.filter fun v => decide (v.toNat = i)).length : Int)
theorem incL_cnt : ∀ (l s : List Int) (i : Nat), i < s.length → (incL s l).getD i 0 = s.getD i 0 + cntV l i
  | [], s, i, _ => by simp [incL, cntV]
  | v :: l, s, i, hi => by
    have e : incL s (v :: l) = incL (moreS s v.toNat 1) l := rfl
    rw [e, incL_cnt l _ i (by rw [moreS_len]; exact hi)]
    unfold cntV
    by_cases h : v.toNat = i
    · rw [List.filter_cons_of_pos (by simpa using h), List.length_cons, h, moreS_get _ _ _ hi, if_pos rfl]
      push_cast; omega
    · rw [List.filter_cons_of_neg (by simpa using h)]
      by_cases hv : v.toNat < s.length
      · rw [moreS_get _ _ _ hv, if_neg (fun e => h e.symm)]; omega
      · rw [moreS, List.set_eq_of_length_le (by omega)]
theorem cntV_rev (l : List Int) (i : Nat) : cntV l.reverse i = cntV l i := by
  unfold cntV
  rw [List.filter_reverse, List.length_reverse]
theorem incL_rev {s l : List Int} : incL s l.reverse = incL s l :=
  ext_getD (by rw [incL_len, incL_len]) fun i hi => by
    rw [incL_len] at hi
    rw [incL_cnt _ _ _ hi, incL_cnt _ _ _ hi, cntV_rev]
theorem play_snoc {n : Nat} {es : List Ed} {v : Int} : ∀ (ms d : List Int) (i : Nat) {c : List Int} {j : Nat}, playL n es d ms i = (c, j, 0) → mayB es c v = true → bndE (movedE es (ofL n [v] 1) c) = 0 → playL n es d (ms ++ [v]) i = (movedE es (ofL n [v] 1) c, j + 1, 0)
  | [], d, i, c, j, h, h1, h2 => by
    simp only [playL, Prod.mk.injEq] at h
    obtain ⟨rfl, rfl, -⟩ := h
    rw [List.nil_append, playL_go h1 h2, playL]
  | u :: ms, d, i, c, j, h, h1, h2 => by
    by_cases h3 : mayB es d u = true
    · by_cases h4 : bndE (movedE es (ofL n [u] 1) d) = 0
      · rw [playL_go h3 h4] at h
        rw [List.cons_append, playL_go h3 h4]
        exact play_snoc ms _ _ h h1 h2
      · rw [playL_large h3 h4] at h
        simp only [Prod.mk.injEq] at h
        exact absurd h.2.2 h4
    · have h3' : mayB es d u = false := by simpa using h3
      rw [playL_no h3'] at h
      simp at h
theorem one_get {n v : Nat} (hv : v < n) (i : Nat) : (ofL n [(v : Int)] 1).getD i 0 = if i = v then 1 else 0 := by
  show ((List.replicate n 0).set (v : Int).toNat 1).getD i 0 = _
  rw [Int.toNat_natCast, getD_set, zeros_get]
  by_cases h : i = v
  · subst h; simp [hv]
  · rw [if_neg (by omega), if_neg h]
theorem rdyL_nodup (n : Nat) (es : List Ed) (q : Int) (c : List Int) : (rdyL n es q c).Nodup := by
  unfold rdyL rdyK
  refine List.Pairwise.map _ (R := fun a b : Nat => a ≠ b) (fun a b h => by omega) ?_
  exact (List.nodup_range).filter _
section
variable {n : Nat} {es : List Ed} {q : Int} {d : List Int}
theorem rdC_add (hg : GoodG n es) (hd : d.length = n) (k : Nat) : ∀ j : Nat, rdC n es q (rdC n es q d k) j = rdC n es q d (k + j)
  | 0 => by rw [rdC_zero hg (rdC_len hd k)]; rfl
  | j + 1 => by rw [rdC_succ hg (rdC_len hd k), rdC_add hg hd k j, ← rdC_succ hg hd]; rfl
theorem rdS_add (hg : GoodG n es) (hd : d.length = n) (k i : Nat) (hi : i < n) : ∀ j : Nat, (rdS n es q (rdC n es q d k) j).getD i 0 + (rdS n es q d k).getD i 0 = (rdS n es q d (k + j)).getD i 0
  | 0 => by rw [rdS, zeros_get, Int.zero_add]; rfl
  | j + 1 => by
    have ih := rdS_add hg hd k i hi j
    have e : k + (j + 1) = (k + j) + 1 := by omega
    rw [rdS_get j i hi, e, rdS_get (k + j) i hi, rdC_add hg hd k j]
    omega
theorem rdS_addsum (hg : GoodG n es) (hd : d.length = n) (k : Nat) : ∀ j : Nat, sumI (rdS n es q (rdC n es q d k) j) + sumI (rdS n es q d k) = sumI (rdS n es q d (k + j))
  | 0 => by rw [rdS, sumI_zeros, Int.zero_add]; rfl
  | j + 1 => by
    have ih := rdS_addsum hg hd k j
    have e : k + (j + 1) = (k + j) + 1 := by omega
    rw [rdS_sum, e, rdS_sum, rdC_add hg hd k j]
    omega
theorem went_at (hsm : ∀ k, sumI (rdS n es q d k) ≤ 103680) {r : Nat} (hnil : rdyL n es q (rdC n es q d r) = []) (hlive : ∀ j, j < r → rdyL n es q (rdC n es q d j) ≠ []) (F : Nat) : wentN n es q d F 0 = (min F r, false) := by
  have hF := wentN_end (n := n) (es := es) (q := q) (d := d) F 0
  have key : (wentN n es q d F 0).2 = false := by
    cases hb : (wentN n es q d F 0).2 with
    | false => rfl
    | true =>
      have := (hF.yes hb).2.2
      have := hsm ((wentN n es q d F 0).1 + 1)
      omega
  have h2 : (wentN n es q d F 0).1 ≤ r := by
    refine Classical.byContradiction fun hlt => ?_
    exact hF.live r (Nat.zero_le _) (by omega) hnil
  have h3 := hF.le
  have h1 : (wentN n es q d F 0).1 = min F r := by
    rcases hF.no key with h4 | h4
    · omega
    · have h5 : r ≤ (wentN n es q d F 0).1 := by
        refine Classical.byContradiction fun hlt => ?_
        exact hlive _ (by omega) h4
      omega
  exact Prod.ext h1 key
/-- What is ready fires legally, in any order. -/
theorem fire_any (h : StOk n es q d) (hd : ∀ i, -60 ≤ d.getD i 0 ∧ d.getD i 0 ≤ 60) (k : Nat) {ms : List Int} (hnd : ms.Nodup) (hms : ∀ v ∈ ms, ∃ u : Nat, v = u ∧ u < n ∧ rdyB n es q (rdC n es q d k) u = true) :
    ∀ j, j ≤ ms.length → Leg n es q d (incL (rdS n es q d k) (ms.take j)) ∧ playL n es (rdC n es q d k) (ms.take j) 0 = (movedE es (incL (rdS n es q d k) (ms.take j)) d, j, 0)
  | 0, _ => ⟨by simpa [incL] using rdS_leg h.g h.c.len k, by simp [playL, incL, rdC]⟩
  | j + 1, hj => by
    obtain ⟨ih1, ih2⟩ := fire_any h hd k hnd hms j (by omega)
    have hjl : j < ms.length := by omega
    obtain ⟨u, hu, hun, hrd⟩ := hms ms[j] (List.getElem_mem hjl)
    have htk : ms.take (j + 1) = ms.take j ++ [(u : Int)] := by
      rw [List.take_add_one, List.getElem?_eq_getElem hjl, hu]; rfl
    obtain ⟨s, hs⟩ : ∃ s, s = incL (rdS n es q d k) (ms.take j) := ⟨_, rfl⟩
    have hs1 : incL (rdS n es q d k) (ms.take (j + 1)) = moreS s u 1 := by rw [htk, incL_snoc, hs, Int.toNat_natCast]
    rw [← hs] at ih1 ih2
    have hsl : s.length = n := ih1.len
    have hdl := h.c.len
    have hcnt0 : ∀ i, 0 ≤ cntV (ms.take j) i := fun i => by unfold cntV; omega
    have hcu : cntV (ms.take j) u = 0 := by
      unfold cntV
      have : (ms.take j).filter (fun v => decide (v.toNat = u)) = [] := by
        rw [List.filter_eq_nil_iff]
        intro v hv
        obtain ⟨i, hi, rfl⟩ := List.mem_iff_getElem.1 hv
        rw [List.length_take] at hi
        obtain ⟨w, hw, -, -⟩ := hms ((ms.take j)[i]) (List.mem_of_mem_take hv)
        rw [List.getElem_take] at hw ⊢
        have hne : ms[i] ≠ ms[j] := fun e => by
          have := (List.pairwise_iff_getElem.1 hnd) i j (by omega) hjl (by omega)
          exact this e
        rw [hw, hu] at hne
        rw [hw, Int.toNat_natCast]
        simp
        omega
      rw [this]; rfl
    have hsget : ∀ i, i < n → s.getD i 0 = (rdS n es q d k).getD i 0 + cntV (ms.take j) i := fun i hi => by rw [hs, incL_cnt _ _ _ (by rw [rdS_len]; exact hi)]
    have hrd' := hrd
    simp only [rdyB, decide_eq_true_eq] at hrd'
    have hge : valTo es u n ≤ (movedE es s d).getD u 0 := by
      refine Int.le_trans hrd'.2.2 ?_
      show (movedE es (rdS n es q d k) d).getD u 0 ≤ _
      rw [aft_eq h.g hdl, aft_eq h.g hdl, dif_sum h.g, dif_sum h.g]
      rw [hsget u hun, hcu, Int.add_zero]
      have h3 : sumN (fun w => joinE es u w * (rdS n es q d k).getD w 0) n ≤ sumN (fun w => joinE es u w * s.getD w 0) n := sumN_le fun w hw => by
        refine Int.mul_le_mul_of_nonneg_left ?_ (joinE_bd h.g u w).1
        rw [hsget w hw]
        have := hcnt0 w
        omega
      omega
    have hl2 : Leg n es q d (moreS s u 1) := ih1.more ⟨hun, hrd'.1, Int.le_refl _, by rw [Int.one_mul]; exact hge⟩
    rw [hs1]
    refine ⟨hl2, ?_⟩
    have hm : movedE es (ofL n [(u : Int)] 1) (movedE es s d) = movedE es (moreS s u 1) d := moved_two h.g.right 0 hdl fun i hi => by
      rw [moreS_get _ _ _ (by rw [hsl]; exact hun), one_get hun]
      omega
    have hb := chips_small h (B := 60) (by omega) hd hl2
    have h1 : mayB es (movedE es s d) u = true := by
      have hv2 := valTo_all h.g.right h.g.asc u ⟨by omega, by omega⟩
      rw [mayB, decide_eq_true_eq, ← hv2, Int.toNat_natCast]
      exact ⟨hrd'.2.1, hge⟩
    have h2 : bndE (movedE es (ofL n [(u : Int)] 1) (movedE es s d)) = 0 := by
      rw [hm, bndE, if_pos]
      exact inB_all fun i _ => by have := hb i; omega
    rw [htk, play_snoc _ _ _ ih2 h1 h2, hm]
theorem play_any (h : StOk n es q d) (hd : ∀ i, -60 ≤ d.getD i 0 ∧ d.getD i 0 ≤ 60) (k : Nat) {ms : List Int} (hnd : ms.Nodup) (hms : ∀ v ∈ ms, ∃ u : Nat, v = u ∧ u < n ∧ rdyB n es q (rdC n es q d k) u = true) (hml : ms.length ≤ 12)
    (hgv : givenE n es (rdC n es q d k) = 0) (hinc : incL (rdS n es q d k) ms = incL (rdS n es q d k) (rdyL n es q (rdC n es q d k))) : playE n es (rdC n es q d k) ms = (rdC n es q d (k + 1), ms.length, 0) := by
  have hle : listE n ms = 0 := by
    rw [listE, if_neg (by omega), if_pos]
    refine List.all_eq_true.2 fun x hx => ?_
    obtain ⟨u, rfl, hu, -⟩ := hms x hx
    exact vtx_iff.2 ⟨by omega, by omega⟩
  have h1 := (fire_any h hd k hnd hms ms.length (Nat.le_refl _)).2
  rw [List.take_length, hinc] at h1
  rw [playE, if_neg (by simp [hgv]), if_neg (by simp [hle]), Int.toNat_natCast, h1]
  rfl
end
end Go.Proofs.Ytamiekhoaggpkaa
end
