/-
  Plain laws and contracts: stabilizing small configurations; the odometer, and what is known of it.
-/
import Derived.Test.YtgjaekbbdmhjlaaJn
set_option linter.unusedSimpArgs false
set_option linter.unusedVariables false
namespace Go.Proofs.Ytgjaekbbdmhjlaa
open Go.Abs Go.Sand

theorem in60_get {s : List Int} (h : s.all in60 = true) (i : Nat) : -60 ≤ s.getD i 0 ∧ s.getD i 0 ≤ 60 := by
  by_cases hi : i < s.length
  · have := List.all_eq_true.1 h _ (List.getElem_mem hi)
    rw [getD_get hi]
    simpa [in60] using this
  · simp [List.getD_eq_getElem?_getD, List.getElem?_eq_none (Nat.le_of_not_lt hi)]
theorem inB_all {m : List Int} (h : ∀ i, i < m.length → -1048576 ≤ m.getD i 0 ∧ m.getD i 0 ≤ 1048576) : m.all inB = true := by
  rw [List.all_eq_true]
  intro x hx
  obtain ⟨i, hi, rfl⟩ := List.getElem_of_mem hx
  have := h i hi
  rw [getD_get hi] at this
  exact inB_iff.2 this
theorem dcheck_mk {n : Nat} {m : List Int} (h1 : 1 ≤ n) (h2 : n ≤ 12) (hl : m.length = n) (hb : m.all inB = true) : dcheck m n = 0 := by
  rw [dcheck, if_neg (by omega), if_neg (by omega), if_pos hb]
theorem given19 {n : Nat} {es : List Ed} {q : Int} {d m : List Int} (h : StOk n es q d) (hl : m.length = n) (hb : m.all inB = true) : givenE n es m = 0 := by
  rw [givenE, if_neg (by simp [h.gc]), dcheck_mk h.n1 h.n12 hl hb]
theorem st_mk {n : Nat} {es : List Ed} {q : Int} {d m : List Int} (h : StOk n es q d) (hl : m.length = n) (hb : m.all inB = true) (hp : ∀ v, v < n → (v : Int) ≠ q → 0 ≤ m.getD v 0) : stE n es q m = 0 := by
  have e1 : rootE n es q = 0 := by
    rw [rootE, if_neg (by simp [h.gc]), if_pos (by simpa using h.parts), if_pos]
    have := h.q0
    have := h.qn
    simp [vtx]; omega
  have e2 : negB q m = false := negB_none fun u hu ⟨h1, h2⟩ => by
    have := hp u (by omega) h1
    omega
  rw [stE, if_neg (by simp [e1]), if_neg (by simp [dcheck_mk h.n1 h.n12 hl hb]), if_neg (by simp [e2])]
/-- What is small. -/
def small19 (N : Int) (es : List Ed) (q : Int) (d : List Int) : Bool := few18 N es d && decide (stE N es q d = 0) && d.all in60
theorem small19_ok (N : Int) (es : List Ed) (q : Int) (d : List Int) : PC Try.prog 30 [G N es, .i q, .is d] (.b (small19 N es q d)) [] := by
  refine PC_of_W cfn30 ?_
  simp -implicitDefEqProofs (disch := omega) [c30, List.getElem?_cons_zero, List.getElem?_cons_succ, wrap_id]
  refine HC_of_PC rfl (rfew_ok N es d) ?_
  cases hf : few18 N es d
  · simp -implicitDefEqProofs (disch := omega) [List.getElem?_cons_zero, List.getElem?_cons_succ, wrap_id]
    (refine fin0 trivial rfl ?_; simp -implicitDefEqProofs (disch := omega) [List.getElem?_cons_zero, List.getElem?_cons_succ, idx, wrap_id, small19, hf])
  obtain ⟨he, hd⟩ := few22_len hf
  simp -implicitDefEqProofs (disch := omega) [List.getElem?_cons_zero, List.getElem?_cons_succ, wrap_id]
  refine HC_of_PC rfl (r19check_ok N es q d he hd) ?_
  by_cases h0 : stE N es q d = 0
  · simp -implicitDefEqProofs (disch := omega) [List.getElem?_cons_zero, List.getElem?_cons_succ, wrap_id, h0]
    refine HC_of_PC rfl (dsmall_ok d (by omega)) ?_
    simp -implicitDefEqProofs (disch := omega) [List.getElem?_cons_zero, List.getElem?_cons_succ, wrap_id]
    (refine fin0 trivial rfl ?_; simp -implicitDefEqProofs (disch := omega) [List.getElem?_cons_zero, List.getElem?_cons_succ, idx, wrap_id, small19, hf, h0])
  · simp -implicitDefEqProofs (disch := omega) [List.getElem?_cons_zero, List.getElem?_cons_succ, wrap_id, h0]
    (refine fin0 trivial rfl ?_; simp -implicitDefEqProofs (disch := omega) [List.getElem?_cons_zero, List.getElem?_cons_succ, idx, wrap_id, small19, hf, h0])
theorem small19_at {N : Int} {es : List Ed} {q : Int} {d : List Int} (h : small19 N es q d = true) : few18 N es d = true ∧ stE N es q d = 0 ∧ d.all in60 = true := by
  simpa [small19, Bool.and_eq_true, decide_eq_true_eq, and_assoc] using h
section
variable {n : Nat} {es : List Ed} {q : Int} {d : List Int}
/-- No vertex has more chips than that, whatever fires. -/
theorem chips_small {B : Int} (h : StOk n es q d) (hB : 0 ≤ B) (hd : ∀ i, -B ≤ d.getD i 0 ∧ d.getD i 0 ≤ B) {s : List Int} (hs : Leg n es q d s) (i : Nat) : -B ≤ (movedE es s d).getD i 0 ∧ (movedE es s d).getD i 0 ≤ 13 * B := by
  have hn := h.n12
  have hl : (movedE es s d).length = n := by rw [movedE_length, h.c.len]
  have hsum := movedE_sum s h.g.right d h.c.len
  have hup : sumI d ≤ 12 * B := by
    have : ∀ k, k ≤ d.length → sumI (d.take k) ≤ k * B := by
      intro k
      induction k with
      | zero => intro _; simp [sumI]
      | succ k ih =>
        intro hk
        have h1 := ih (by omega)
        have h2 := (hd k).2
        rw [getD_get (by omega)] at h2
        rw [sumI_snoc d k (by omega)]
        push_cast
        rw [Int.add_mul, Int.one_mul]
        omega
    have h1 := this d.length (Nat.le_refl _)
    rw [List.take_length, h.c.len] at h1
    have : (n : Int) * B ≤ 12 * B := Int.mul_le_mul_of_nonneg_right (by omega) hB
    omega
  obtain ⟨p, hp⟩ : ∃ p : Nat, q = p := ⟨q.toNat, by have := h.q0; omega⟩
  have hpn : p < n := by have := h.qn; omega
  have hsk := hs.sinkUp h.g h.c.len p hp.symm
  have hdp := (hd p).1
  by_cases hi : i < n
  · by_cases hq : (i : Int) = q
    · have e : i = p := by omega
      subst e
      have h3 := sumI_ge (movedE es s d) i (fun j hj hne => hs.pos h.g h.c.len h.c.pos j (by omega) (by omega)) (by omega)
      omega
    · have h1 := hs.pos h.g h.c.len h.c.pos i hi hq
      have h2 := sumI_ge2 (movedE es s d) i p (by omega) (fun j hj _ hne => hs.pos h.g h.c.len h.c.pos j (by omega) (by omega)) (by omega) (by omega)
      omega
  · rw [List.getD_eq_getElem?_getD, List.getElem?_eq_none (by omega)]
    simp
    omega
theorem script_in {s : List Int} (hs : Leg n es q d s) (hb : sumI s ≤ 1048576) (i : Nat) : 0 ≤ s.getD i 0 ∧ s.getD i 0 ≤ 1048576 := by
  have h1 := hs.nn i
  refine ⟨h1, ?_⟩
  by_cases hi : i < s.length
  · have := sumI_ge s i (fun j _ _ => hs.nn j) hi
    omega
  · rw [List.getD_eq_getElem?_getD, List.getElem?_eq_none (by omega)]; simp
/-- What is known of a stabilization of few chips. -/
structure Good (n : Nat) (es : List Ed) (q : Int) (d s : List Int) : Prop where
  leg : Leg n es q d s
  none : nxtF n es q (movedE es s d) = none
  sum : sumI s ≤ 1048576
theorem small_fall {B : Int} (h0 : stE n es q d = 0) (h : StOk n es q d) (hB : 0 ≤ B ∧ B ≤ 1000) (hd : ∀ i, -B ≤ d.getD i 0 ∧ d.getD i 0 ≤ B) :
    fallE n es q d = 12 ∨ (fallE n es q d = 0 ∧ fallS n es q d = (stabF n es q d).1 ∧ fallD n es q d = movedE es (stabF n es q d).1 d ∧ Good n es q d (stabF n es q d).1) := by
  obtain ⟨hl, hc⟩ := stabF_spec (d := d) h.v
  have e : fallE n es q d = settledE n es q d := by rw [fallE, if_neg (by simp [h0]), Int.toNat_natCast]
  rcases hc with ⟨h1, h2, h3⟩ | ⟨h1, h2⟩
  · right
    have hch := (chips_small h hB.1 hd hl q.toNat).2
    have e2 : settledE n es q d = 0 := by rw [settledE, if_neg (by simp [h1]), if_neg (by omega)]
    have e3 : fallE n es q d = 0 := by rw [e, e2]
    exact ⟨e3, by rw [fallS, if_pos e3, Int.toNat_natCast], by rw [fallD, if_pos e3, Int.toNat_natCast], hl, h2, h3⟩
  · left
    rw [e, settledE, if_pos (by rw [h1]; decide), h1]
end

/-- How many of the first k vertices are in a set. -/
def cntS (A : Nat → Bool) : Nat → Nat
  | 0 => 0
  | k + 1 => cntS A k + if A k = true then 1 else 0
theorem cntS_le (A : Nat → Bool) : ∀ k, cntS A k ≤ k
  | 0 => Nat.le_refl 0
  | k + 1 => by have := cntS_le A k; simp only [cntS]; split <;> omega
theorem cntS_mono {A B : Nat → Bool} (h : ∀ v, A v = true → B v = true) : ∀ k, cntS A k ≤ cntS B k
  | 0 => Nat.le_refl 0
  | k + 1 => by
    have := cntS_mono h k
    simp only [cntS]
    cases ha : A k
    · simp; omega
    · rw [h k ha]; simp; omega
theorem cntS_less {A B : Nat → Bool} (h : ∀ v, A v = true → B v = true) {u : Nat} (hu : B u = true) (hn : A u = false) : ∀ k, u < k → cntS A k + 1 ≤ cntS B k
  | 0, h0 => by omega
  | k + 1, hk => by
    simp only [cntS]
    by_cases e : u = k
    · subst e
      have := cntS_mono h u
      rw [hu, hn]; simp; omega
    · have := cntS_less h hu hn k (by omega)
      cases ha : A k
      · simp; omega
      · rw [h k ha]; simp; omega
theorem cntS_none {A : Nat → Bool} {n : Nat} (h : cntS A n = 0) : ∀ v, v < n → A v = false := by
  induction n with
  | zero => intro v hv; omega
  | succ n ih =>
    simp only [cntS] at h
    intro v hv
    rcases Nat.lt_or_ge v n with h1 | h1
    · exact ih (by omega) v h1
    · have e : v = n := by omega
      rw [e]
      cases ha : A n
      · rfl
      · rw [ha] at h; simp at h
section
variable {n : Nat} {es : List Ed} (hg : GoodG n es)
include hg
/-- What flows out of a set of vertices. -/
theorem flow_out (s : List Int) (A : Nat → Bool) : sumN (fun v => if A v = true then dif es s v else 0) n = sumN (fun v => sumN (fun u => if A v = true ∧ A u = false then joinE es v u * (s.getD u 0 - s.getD v 0) else 0) n) n := by
  have e1 : ∀ v, (if A v = true then dif es s v else 0) = sumN (fun u => if A v = true then joinE es v u * (s.getD u 0 - s.getD v 0) else 0) n := by
    intro v
    cases hA : A v
    · simp [sumN_zero]
    · simp only [if_true]
      rw [dif_sum hg, valTo_sum, ← sumN_mul]
      have : ∀ k, sumN (fun u => joinE es v u * s.getD u 0) k - sumN (fun u => s.getD v 0 * joinE es v u) k = sumN (fun u => joinE es v u * (s.getD u 0 - s.getD v 0)) k := by
        intro k
        induction k with
        | zero => rfl
        | succ k ih =>
          simp only [sumN]
          rw [← ih, Int.mul_sub, Int.mul_comm (joinE es v k) (s.getD v 0)]
          omega
      exact this n
  have e2 : sumN (fun v => if A v = true then dif es s v else 0) n = sumN (fun v => sumN (fun u => if A v = true then joinE es v u * (s.getD u 0 - s.getD v 0) else 0) n) n := sumN_congr fun v _ => e1 v
  have e3 : ∀ v u, (if A v = true then joinE es v u * (s.getD u 0 - s.getD v 0) else 0) = (if A v = true ∧ A u = false then joinE es v u * (s.getD u 0 - s.getD v 0) else 0) + (if A v = true ∧ A u = true then joinE es v u * (s.getD u 0 - s.getD v 0) else 0) := by
    intro v u
    cases A v <;> cases A u <;> simp
  have e4 : sumN (fun v => sumN (fun u => if A v = true ∧ A u = true then joinE es v u * (s.getD u 0 - s.getD v 0) else 0) n) n = 0 := by
    have h := sumN_swap (fun v u => if A v = true ∧ A u = true then joinE es v u * (s.getD u 0 - s.getD v 0) else 0) n n
    have h2 : sumN (fun v => sumN (fun u => if A u = true ∧ A v = true then joinE es u v * (s.getD v 0 - s.getD u 0) else 0) n) n = - sumN (fun v => sumN (fun u => if A v = true ∧ A u = true then joinE es v u * (s.getD u 0 - s.getD v 0) else 0) n) n := by
      have neg : ∀ (f : Nat → Int) k, sumN (fun u => - f u) k = - sumN f k := by
        intro f k
        induction k with
        | zero => rfl
        | succ k ih => simp only [sumN, ih]; omega
      rw [← neg]
      refine sumN_congr fun v _ => ?_
      rw [← neg]
      refine sumN_congr fun u _ => ?_
      rw [joinE_sym u v]
      by_cases h1 : A u = true ∧ A v = true
      · rw [if_pos h1, if_pos ⟨h1.2, h1.1⟩, ← Int.mul_neg]
        congr 1
        omega
      · rw [if_neg h1, if_neg (fun h2 => h1 ⟨h2.2, h2.1⟩)]; rfl
    omega
  rw [e2, show sumN (fun v => sumN (fun u => if A v = true then joinE es v u * (s.getD u 0 - s.getD v 0) else 0) n) n = sumN (fun v => sumN (fun u => if A v = true ∧ A u = false then joinE es v u * (s.getD u 0 - s.getD v 0) else 0) n + sumN (fun u => if A v = true ∧ A u = true then joinE es v u * (s.getD u 0 - s.getD v 0) else 0) n) n from
    sumN_congr fun v _ => by rw [← sumN_add]; exact sumN_congr fun u _ => e3 v u]
  rw [sumN_add, e4, Int.add_zero]
/-- Out of each set of vertices, but none or all, leads a single edge. -/
theorem edge_out (hp : partsN es n = 1) (A : Nat → Bool) {a b : Nat} (ha : a < n) (hb : b < n) (hAa : A a = true) (hAb : A b = false) : ∃ u w, u < n ∧ w < n ∧ A u = true ∧ A w = false ∧ 1 ≤ joinE es u w := by
  have hn := hg.n12
  refine Classical.byContradiction fun hno => ?_
  have hcl : ∀ u u', cls es u = cls es u' → (A u = true ↔ A u' = true) := by
    intro u u' h
    have := cls_closed (n := n) (es := es) (fun y => A y = true) (fun x hx => by
      have r := hg.right x hx
      have h1 := r.m1
      have h2 := r.a0
      have h3 := r.b0
      have h4 := r.an
      have h5 := r.bn
      have hne : ∀ u w : Nat, u < n → w < n → A u = true → A w = false → joinE es u w ≤ 0 := fun u w h1 h2 h3 h4 => by
        refine Classical.byContradiction fun h5 => hno ⟨u, w, h1, h2, h3, h4, by omega⟩
      by_cases hab : x.a.toNat = x.b.toNat
      · rw [hab]
      · have hadj := (adj_of (n := n) hg.right hx).1
        unfold adj at hadj
        have hj : 0 < joinE es x.a.toNat x.b.toNat := by
          rw [joinE, if_neg (fun e => hab e.symm), Int.min_comm, Int.max_comm]
          exact hadj
        have hj2 : 0 < joinE es x.b.toNat x.a.toNat := by rw [joinE_sym]; exact hj
        constructor
        · intro h6
          cases h7 : A x.b.toNat
          · have := hne _ _ (by omega) (by omega) h6 h7; omega
          · rfl
        · intro h6
          cases h7 : A x.a.toNat
          · have := hne _ _ (by omega) (by omega) h6 h7; omega
          · rfl) es.length (Nat.le_refl _) u u'
    rw [List.take_length] at this
    exact this h
  have hF := ufJ_forest (n := n) (by omega) hg.right es.length (Nat.le_refl _)
  rw [List.take_length] at hF
  have root : ∀ u, u < n → cls es u ∈ rootsL es n := fun u hu => by
    obtain ⟨h1, h2⟩ := hF.le u (by omega)
    refine List.mem_filter.2 ⟨List.mem_range.2 ?_, decide_eq_true h2⟩
    show (ufJ es).2 u < n
    omega
  obtain ⟨r, hr⟩ := List.length_eq_one_iff.1 hp
  have h1 := root a ha
  have h2 := root b hb
  rw [hr] at h1 h2
  have h3 : cls es a = cls es b := by rw [List.mem_singleton.1 h1, List.mem_singleton.1 h2]
  have := (hcl a b h3).1 hAa
  rw [hAb] at this
  cases this
end
section
variable {n : Nat} {es : List Ed} {q : Int} {d : List Int}
/-- THE ODOMETER OF FEW CHIPS: nowhere more than D for each vertex. -/
theorem odo_small (h : StOk n es q d) {s : List Int} (hs : Leg n es q d s) {D : Int} (hD : ∀ A : Nat → Bool, (∀ v, A v = true → (v : Int) ≠ q) → sumN (fun v => if A v = true then d.getD v 0 - (movedE es s d).getD v 0 else 0) n ≤ D) (hD0 : 0 ≤ D) : ∀ i, s.getD i 0 ≤ n * D := by
  have hg := h.g
  have hsl := hs.len
  obtain ⟨p, hp⟩ : ∃ p : Nat, q = p := ⟨q.toNat, by have := h.q0; omega⟩
  have hpn : p < n := by have := h.qn; omega
  have key : ∀ j : Nat, j < n → cntS (fun v => decide ((j : Int) * D < s.getD v 0)) n + j + 1 ≤ n := by
    intro j
    induction j with
    | zero =>
      intro _
      have := cntS_less (A := fun v => decide (((0 : Nat) : Int) * D < s.getD v 0)) (B := fun _ => true) (fun _ _ => rfl) (u := p) rfl (by
        rw [decide_eq_false_iff_not, hs.sink p hp.symm]
        simp) n hpn
      have := cntS_le (fun _ => true) n
      omega
    | succ j ih =>
      intro hj
      have ih := ih (by omega)
      obtain ⟨A, hA⟩ : ∃ A : Nat → Bool, A = fun v => decide ((j : Int) * D < s.getD v 0) := ⟨_, rfl⟩
      have hAv : ∀ v, A v = true ↔ (j : Int) * D < s.getD v 0 := fun v => by rw [hA]; simp
      have hjD : 0 ≤ (j : Int) * D := Int.mul_nonneg (by omega) hD0
      have hsucc : ((j + 1 : Nat) : Int) * D = (j : Int) * D + D := by push_cast; rw [Int.add_mul, Int.one_mul]
      rw [← hA] at ih
      have hmono : ∀ v, decide (((j + 1 : Nat) : Int) * D < s.getD v 0) = true → A v = true := fun v hv => by
        rw [hAv]
        have := of_decide_eq_true hv
        omega
      by_cases hne : ∃ a, a < n ∧ A a = true
      · obtain ⟨a, ha, hAa⟩ := hne
        have hAp : A p = false := by
          cases hh : A p
          · rfl
          · have := (hAv p).1 hh
            rw [hs.sink p hp.symm] at this
            omega
        obtain ⟨u, w, hu, hw, hAu, hAw, hj1⟩ := edge_out hg h.parts A ha hpn hAa hAp
        have hfl := flow_out hg s A
        have hDA := hD A (fun v hv e => by
          have e : v = p := by omega
          rw [e, hAp] at hv; cases hv)
        have e1 : sumN (fun v => if A v = true then d.getD v 0 - (movedE es s d).getD v 0 else 0) n = - sumN (fun v => if A v = true then dif es s v else 0) n := by
          have neg : ∀ (f : Nat → Int) k, sumN (fun u => - f u) k = - sumN f k := by
            intro f k
            induction k with
            | zero => rfl
            | succ k ih => simp only [sumN, ih]; omega
          rw [← neg]
          refine sumN_congr fun v _ => ?_
          rw [aft_eq hg h.c.len]
          split <;> omega
        -- one term of the flow is at least the step from w to u
        have hterm : ∀ v x, 0 ≤ (if A v = true ∧ A x = false then joinE es v x * (s.getD v 0 - s.getD x 0) else 0) := by
          intro v x
          split
          · rename_i hh
            have h1 := (hAv v).1 hh.1
            have h2 : ¬ (j : Int) * D < s.getD x 0 := fun h3 => by rw [(hAv x).2 h3] at hh; exact absurd hh.2 (by simp)
            exact Int.mul_nonneg (joinE_bd hg v x).1 (by omega)
          · exact Int.le_refl 0
        have hpick : ∀ (f : Nat → Int) k, (∀ y, 0 ≤ f y) → ∀ y, y < k → f y ≤ sumN f k := by
          intro f k hf
          induction k with
          | zero => intro y hy; omega
          | succ k ih =>
            intro y hy
            simp only [sumN]
            rcases Nat.lt_or_ge y k with h1 | h1
            · have := ih y h1; have := hf k; omega
            · have e : y = k := by omega
              rw [e]
              have := sumN_nonneg (f := f) (k := k) fun z _ => hf z
              omega
        have e2 : - sumN (fun v => sumN (fun x => if A v = true ∧ A x = false then joinE es v x * (s.getD x 0 - s.getD v 0) else 0) n) n = sumN (fun v => sumN (fun x => if A v = true ∧ A x = false then joinE es v x * (s.getD v 0 - s.getD x 0) else 0) n) n := by
          have neg : ∀ (f : Nat → Int) k, sumN (fun u => - f u) k = - sumN f k := by
            intro f k
            induction k with
            | zero => rfl
            | succ k ih => simp only [sumN, ih]; omega
          rw [← neg]
          refine sumN_congr fun v _ => ?_
          rw [← neg]
          refine sumN_congr fun x _ => ?_
          split
          · rw [← Int.mul_neg]; congr 1; omega
          · rfl
        have h1 := hpick (fun v => sumN (fun x => if A v = true ∧ A x = false then joinE es v x * (s.getD v 0 - s.getD x 0) else 0) n) n (fun v => sumN_nonneg fun x _ => hterm v x) u hu
        have h2 := hpick (fun x => if A u = true ∧ A x = false then joinE es u x * (s.getD u 0 - s.getD x 0) else 0) n (fun x => hterm u x) w hw
        rw [if_pos ⟨hAu, hAw⟩] at h2
        have h3 := (hAv u).1 hAu
        have h4 : ¬ (j : Int) * D < s.getD w 0 := fun h5 => by rw [(hAv w).2 h5] at hAw; cases hAw
        have h6 : s.getD u 0 - s.getD w 0 ≤ joinE es u w * (s.getD u 0 - s.getD w 0) := by
          have : 1 * (s.getD u 0 - s.getD w 0) ≤ joinE es u w * (s.getD u 0 - s.getD w 0) := Int.mul_le_mul_of_nonneg_right hj1 (by omega)
          omega
        have hlast := cntS_less hmono hAu (by
          rw [decide_eq_false_iff_not, hsucc]
          omega) n hu
        omega
      · have h0 : cntS (fun v => decide (((j + 1 : Nat) : Int) * D < s.getD v 0)) n = 0 := by
          have : ∀ k, k ≤ n → cntS (fun v => decide (((j + 1 : Nat) : Int) * D < s.getD v 0)) k = 0 := by
            intro k
            induction k with
            | zero => intro _; rfl
            | succ k ih2 =>
              intro hk
              simp only [cntS]
              rw [ih2 (by omega), if_neg (fun hh => hne ⟨k, by omega, hmono k hh⟩)]
          exact this n (Nat.le_refl _)
        omega
  intro i
  by_cases hi : i < n
  · have hk := key (n - 1) (by omega)
    have h0 : cntS (fun v => decide (((n - 1 : Nat) : Int) * D < s.getD v 0)) n = 0 := by omega
    have := cntS_none h0 i hi
    rw [decide_eq_false_iff_not] at this
    have : ((n - 1 : Nat) : Int) * D ≤ n * D := Int.mul_le_mul_of_nonneg_right (by omega) hD0
    omega
  · rw [List.getD_eq_getElem?_getD, List.getElem?_eq_none (by omega)]
    have : 0 ≤ (n : Int) * D := Int.mul_nonneg (by omega) hD0
    simpa using this
end

section
variable {n : Nat} {es : List Ed} {q : Int} {d : List Int}
/-- Whatever is fired legally from few chips is little. -/
theorem leg_small (h : StOk n es q d) (hd : ∀ i, -60 ≤ d.getD i 0 ∧ d.getD i 0 ≤ 60) {S : List Int} (hl : Leg n es q d S) : (∀ i, 0 ≤ S.getD i 0 ∧ S.getD i 0 ≤ 8640) ∧ sumI S ≤ 103680 := by
  have hn := h.n12
  have hdl := h.c.len
  have hodo : ∀ i, S.getD i 0 ≤ n * 720 := odo_small h hl (D := 720) (fun A hA => by
    have h1 : sumN (fun v => if A v = true then d.getD v 0 - (movedE es S d).getD v 0 else 0) n ≤ sumN (fun _ => 60) n := sumN_le fun v hv => by
      split
      · rename_i hAv
        have := hl.pos h.g hdl h.c.pos v hv (hA v hAv)
        have := hd v
        omega
      · omega
    have h2 : ∀ k : Nat, sumN (fun _ => 60) k = 60 * k := by
      intro k
      induction k with
      | zero => rfl
      | succ k ih => simp only [sumN, ih]; push_cast; omega
    rw [h2] at h1
    omega) (by omega)
  have h1 : ∀ i, 0 ≤ S.getD i 0 ∧ S.getD i 0 ≤ 8640 := fun i => by
    have := hodo i
    have := hl.nn i
    omega
  refine ⟨h1, ?_⟩
  rw [sumI_sumN, hl.len]
  have h2 : ∀ k : Nat, sumN (fun u => S.getD u 0) k ≤ 8640 * k := by
    intro k
    induction k with
    | zero => simp [sumN]
    | succ k ih => simp only [sumN]; have := (h1 k).2; push_cast; omega
  have := h2 n
  omega
/-- What is known of the odometer. -/
structure Odo (n : Nat) (es : List Ed) (q : Int) (d S : List Int) : Prop where
  good : Good n es q d S
  stl : Stl n es q d S
  least : ∀ s, Stl n es q d s → ∀ i, i < n → S.getD i 0 ≤ s.getD i 0
  bd : ∀ i, 0 ≤ S.getD i 0 ∧ S.getD i 0 ≤ 8640
/-- Few chips are stabilized. -/
theorem small_odo (h0 : stE n es q d = 0) (h : StOk n es q d) (hd : ∀ i, -60 ≤ d.getD i 0 ∧ d.getD i 0 ≤ 60) :
    fallE n es q d = 0 ∧ fallS n es q d = (stabF n es q d).1 ∧ fallD n es q d = movedE es (stabF n es q d).1 d ∧ Odo n es q d (stabF n es q d).1 := by
  have hl := (stabF_spec (d := d) h.v).1
  have hsm := leg_small h hd hl
  rcases small_fall (B := 60) h0 h (by omega) hd with h12 | ⟨e0, e1, e2, hg⟩
  · exfalso
    rcases (stabF_spec (d := d) h.v).2 with ⟨h1, h2, h3⟩ | ⟨h1, h2⟩
    · have e : fallE n es q d = settledE n es q d := by rw [fallE, if_neg (by simp [h0]), Int.toNat_natCast]
      have hch := (chips_small h (B := 60) (by omega) hd hl q.toNat).2
      rw [e, settledE, if_neg (by simp [h1]), if_neg (by omega)] at h12
      cases h12
    · omega
  · exact ⟨e0, e1, e2, hg, ⟨hg.leg.stab (nxtF_none hg.none), fun i hi => hg.leg.sink i hi⟩, fun s hs i hi => hg.leg.least h.g h.c.len hs.st i hi, hsm.1⟩
theorem gv_mk (h0 : stE n es q d = 0) (h : StOk n es q d) {s : List Int} (hl : s.length = n) (hb : s.all inB = true) : gvE n es q d s = 0 := by
  rw [gvE, if_neg (by simp [h0]), given19 h hl hb]
theorem settledR_mk {s : List Int} (hg : gvE n es q d s = 0) (hst : Stl n es q d s) : settledR n es q d s = 0 := by
  rw [settledR, if_neg (by simp [hg]), Int.toNat_natCast, if_pos ((stlB_iff hst.st.len).2 hst)]
theorem odo_none (h : StOk n es q d) {S : List Int} (o : Odo n es q d S) : toN (grF n es (movedE es S d) S) = 0 := by
  refine Decidable.byContradiction fun hne => ?_
  have hl := o.stl.st.len
  have h1 := less_sum hl (grF_fit hl).lt hne
  have h2 := gr_stl h.g h.c.len o.stl
  have h3 := sum_le (s := S) (t := lessB n S (grF n es (movedE es S d) S)) (by rw [hl, lessB_len]) (fun i hi => o.least _ h2 i (by rw [hl] at hi; exact hi))
  omega
/-- A SCRIPT VERIFIES exactly if it is the odometer. -/
theorem ver_iff (h : StOk n es q d) {S s : List Int} (o : Odo n es q d S) (hg : gvE n es q d s = 0) : vrE n es q d s = 0 ↔ s = S := by
  unfold vrE
  rw [if_neg (by simp [hg])]
  constructor
  · intro h1
    split at h1
    · rename_i h2
      obtain ⟨n', e, hgv, hst, -⟩ := settledR_ok h2.1
      have e' : n' = n := by omega
      subst e'
      have h3 := h2.2
      rw [grR, Int.toNat_natCast] at h3
      refine ext_getD (by rw [hst.st.len, o.stl.st.len]) fun i hi => ?_
      rw [hst.st.len] at hi
      have h4 := none_least h.g h.c.len hst o.stl ((toN_zero _).1 h3) i hi
      have h5 := o.least s hst i hi
      omega
    · cases h1
  · rintro rfl
    rw [if_pos ⟨settledR_mk hg o.stl, by rw [grR, Int.toNat_natCast]; exact odo_none h o⟩]
end
end Go.Proofs.Ytgjaekbbdmhjlaa
