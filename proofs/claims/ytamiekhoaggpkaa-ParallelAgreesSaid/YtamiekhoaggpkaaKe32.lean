/-
  Texts joined: Wv Moa Gb.
-/
import Derived.Test.YtamiekhoaggpkaaKe31
import Derived.Deep.Strs
import Derived.ChangeArms
import Derived.WalkKit
import Derived.ProofKit
import Derived.OpenShut
import Derived.ChangeOld
import Derived.Below
import Derived.WideShapes
import Derived.Test.YtamiekhoaggpkaaRows
section
set_option linter.unusedSimpArgs false
set_option linter.unusedVariables false
namespace Go.Proofs.Ytamiekhoaggpkaa
open Go.Abs Go.Sand
theorem in60_get {s : List Int} (h : s.all in60 = true) (i : Nat) : -60 ≤ s.getD i 0 ∧ s.getD i 0 ≤ 60 := by
  by_cases hi : i < s.length
  · have := List.all_eq_true.1 h _ (List.getElem_mem hi)
    rw [getD_get hi]
    simpa [in60] using this
  · simp [List.getD_eq_getElem?_getD, List.getElem?_eq_none (Nat.le_of_not_lt hi)]
theorem inB_all {m : List Int} (h : ∀ i, i < m.length → -1048576 ≤ m.getD i 0 ∧ m.getD i 0 ≤ 1048576) : m.all inB = true := by
  rw [List.all_eq_true]
  intro x hx
  obtain ⟨i, hi, rfl⟩ := List.getElem_of_mem hx
  have := h i hi
  rw [getD_get hi] at this
  exact inB_iff.2 this
/-- What is small. -/
def small20 (N : Int) (es : List Ed) (q : Int) (d : List Int) : Bool := few18 N es d && decide (stE N es q d = 0) && d.all in60
theorem small20_ok (N : Int) (es : List Ed) (q : Int) (d : List Int) : PC Try.prog 34 [G N es, .i q, .is d] (.b (small20 N es q d)) [] := by
  refine PC_of_W cfn34 ?_
  simp -implicitDefEqProofs (disch := omega) [c34, List.getElem?_cons_zero, List.getElem?_cons_succ, wrap_id]
  refine HC_of_PC rfl (rfew_ok N es d) ?_
  cases hf : few18 N es d
  · simp -implicitDefEqProofs (disch := omega) [List.getElem?_cons_zero, List.getElem?_cons_succ, wrap_id]
    (refine fin0 trivial rfl ?_; simp -implicitDefEqProofs (disch := omega) [List.getElem?_cons_zero, List.getElem?_cons_succ, idx, wrap_id, small20, hf])
  obtain ⟨he, hd⟩ := few20_len hf
  simp -implicitDefEqProofs (disch := omega) [List.getElem?_cons_zero, List.getElem?_cons_succ, wrap_id]
  refine HC_of_PC rfl (r19check_ok N es q d he hd) ?_
  by_cases h0 : stE N es q d = 0
  · simp -implicitDefEqProofs (disch := omega) [List.getElem?_cons_zero, List.getElem?_cons_succ, wrap_id, h0]
    refine HC_of_PC rfl (dsmall_ok d (by omega)) ?_
    simp -implicitDefEqProofs (disch := omega) [List.getElem?_cons_zero, List.getElem?_cons_succ, wrap_id]
    (refine fin0 trivial rfl ?_; simp -implicitDefEqProofs (disch := omega) [List.getElem?_cons_zero, List.getElem?_cons_succ, idx, wrap_id, small20, hf, h0])
  · simp -implicitDefEqProofs (disch := omega) [List.getElem?_cons_zero, List.getElem?_cons_succ, wrap_id, h0]
    (refine fin0 trivial rfl ?_; simp -implicitDefEqProofs (disch := omega) [List.getElem?_cons_zero, List.getElem?_cons_succ, idx, wrap_id, small20, hf, h0])
theorem small20_at {N : Int} {es : List Ed} {q : Int} {d : List Int} (h : small20 N es q d = true) : few18 N es d = true ∧ stE N es q d = 0 ∧ d.all in60 = true := by
  simpa [small20, Bool.and_eq_true, decide_eq_true_eq, and_assoc] using h
section
variable {n : Nat} {es : List Ed} {q : Int} {d : List Int}
/-- No vertex has more chips than that, whatever fires. -/
theorem chips_small {B : Int} (h : StOk n es q d) (hB : 0 ≤ B) (hd : ∀ i, -B ≤ d.getD i 0 ∧ d.getD i 0 ≤ B) {s : List Int} (hs : Leg n es q d s) (i : Nat) : -B ≤ (movedE es s d).getD i 0 ∧ (movedE es s d).getD i 0 ≤ 13 * B := by
  have hn := h.n12
  have hl : (movedE es s d).length = n := by rw [movedE_length, h.c.len]
  have hsum := movedE_sum s h.g.right d h.c.len
  have hup : sumI d ≤ 12 * B := by
    have : ∀ k, k ≤ d.length → sumI (d.take k) ≤ k * B := by
      intro k
      induction k with
      | zero => intro _; simp [sumI]
      | succ k ih =>
        intro hk
        have h1 := ih (by omega)
        have h2 := (hd k).2
        rw [getD_get (by omega)] at h2
        rw [sumI_snoc d k (by omega)]
        push_cast
        rw [Int.add_mul, Int.one_mul]
        omega
    have h1 := this d.length (Nat.le_refl _)
    rw [List.take_length, h.c.len] at h1
    have : (n : Int) * B ≤ 12 * B := Int.mul_le_mul_of_nonneg_right (by omega) hB
    omega
  obtain ⟨p, hp⟩ : ∃ p : Nat, q = p := ⟨q.toNat, by have := h.q0; omega⟩
  have hpn : p < n := by have := h.qn; omega
  have hsk := hs.sinkUp h.g h.c.len p hp.symm
  have hdp := (hd p).1
  by_cases hi : i < n
  · by_cases hq : (i : Int) = q
    · have e : i = p := by omega
      subst e
      have h3 := sumI_ge (movedE es s d) i (fun j hj hne => hs.pos h.g h.c.len h.c.pos j (by omega) (by omega)) (by omega)
      omega
    · have h1 := hs.pos h.g h.c.len h.c.pos i hi hq
      have h2 := sumI_ge2 (movedE es s d) i p (by omega) (fun j hj _ hne => hs.pos h.g h.c.len h.c.pos j (by omega) (by omega)) (by omega) (by omega)
      omega
  · rw [List.getD_eq_getElem?_getD, List.getElem?_eq_none (by omega)]
    simp
    omega
/-- What is known of a stabilization of few chips. -/
structure Good (n : Nat) (es : List Ed) (q : Int) (d s : List Int) : Prop where
  leg : Leg n es q d s
  none : nxtF n es q (movedE es s d) = none
  sum : sumI s ≤ 1048576
theorem small_fall {B : Int} (h0 : stE n es q d = 0) (h : StOk n es q d) (hB : 0 ≤ B ∧ B ≤ 1000) (hd : ∀ i, -B ≤ d.getD i 0 ∧ d.getD i 0 ≤ B) :
    fallE n es q d = 12 ∨ (fallE n es q d = 0 ∧ fallS n es q d = (stabF n es q d).1 ∧ fallD n es q d = movedE es (stabF n es q d).1 d ∧ Good n es q d (stabF n es q d).1) := by
  obtain ⟨hl, hc⟩ := stabF_spec (d := d) h.v
  have e : fallE n es q d = settledE n es q d := by rw [fallE, if_neg (by simp [h0]), Int.toNat_natCast]
  rcases hc with ⟨h1, h2, h3⟩ | ⟨h1, h2⟩
  · right
    have hch := (chips_small h hB.1 hd hl q.toNat).2
    have e2 : settledE n es q d = 0 := by rw [settledE, if_neg (by simp [h1]), if_neg (by omega)]
    have e3 : fallE n es q d = 0 := by rw [e, e2]
    exact ⟨e3, by rw [fallS, if_pos e3, Int.toNat_natCast], by rw [fallD, if_pos e3, Int.toNat_natCast], hl, h2, h3⟩
  · left
    rw [e, settledE, if_pos (by rw [h1]; decide), h1]
end
/-- How many of the first k vertices are in a set. -/
def cntS (A : Nat → Bool) : Nat → Nat
  | 0 => 0
  | k + 1 => cntS A k + if A k = true then 1 else 0
theorem cntS_le (A : Nat → Bool) : ∀ k, cntS A k ≤ k
  | 0 => Nat.le_refl 0
  | k + 1 => by have := cntS_le A k; simp only [cntS]; split <;> omega
theorem cntS_mono {A B : Nat → Bool} (h : ∀ v, A v = true → B v = true) : ∀ k, cntS A k ≤ cntS B k
  | 0 => Nat.le_refl 0
  | k + 1 => by
    have := cntS_mono h k
    simp only [cntS]
    cases ha : A k
    · simp; omega
    · rw [h k ha]; simp; omega
theorem cntS_less {A B : Nat → Bool} (h : ∀ v, A v = true → B v = true) {u : Nat} (hu : B u = true) (hn : A u = false) : ∀ k, u < k → cntS A k + 1 ≤ cntS B k
  | 0, h0 => by omega
  | k + 1, hk => by
    simp only [cntS]
    by_cases e : u = k
    · subst e
      have := cntS_mono h u
      rw [hu, hn]; simp; omega
    · have := cntS_less h hu hn k (by omega)
      cases ha : A k
      · simp; omega
      · rw [h k ha]; simp; omega
theorem cntS_none {A : Nat → Bool} {n : Nat} (h : cntS A n = 0) : ∀ v, v < n → A v = false := by
  induction n with
  | zero => intro v hv; omega
  | succ n ih =>
    simp only [cntS] at h
    intro v hv
    rcases Nat.lt_or_ge v n with h1 | h1
    · exact ih (by omega) v h1
    · have e : v = n := by omega
      rw [e]
      cases ha : A n
      · rfl
      · rw [ha] at h; simp at h
section
variable {n : Nat} {es : List Ed} (hg : GoodG n es)
include hg
/-- What flows out of a set of vertices. -/
theorem flow_out (s : List Int) (A : Nat → Bool) : sumN (fun v => if A v = true then dif es s v else 0) n = sumN (fun v => sumN (fun u => if A v = true ∧ A u = false then joinE es v u * (s.getD u 0 - s.getD v 0) else 0) n) n := by
  have e1 : ∀ v, (if A v = true then dif es s v else 0) = sumN (fun u => if A v = true then joinE es v u * (s.getD u 0 - s.getD v 0) else 0) n := by
    intro v
    cases hA : A v
    · simp [sumN_zero]
    · simp only [if_true]
      rw [dif_sum hg, valTo_sum, ← sumN_mul]
      have : ∀ k, sumN (fun u => joinE es v u * s.getD u 0) k - sumN (fun u => s.getD v 0 * joinE es v u) k = sumN (fun u => joinE es v u * (s.getD u 0 - s.getD v 0)) k := by
        intro k
        induction k with
        | zero => rfl
        | succ k ih =>
          simp only [sumN]
          rw [← ih, Int.mul_sub, Int.mul_comm (joinE es v k) (s.getD v 0)]
          omega
      exact this n
  have e2 : sumN (fun v => if A v = true then dif es s v else 0) n = sumN (fun v => sumN (fun u => if A v = true then joinE es v u * (s.getD u 0 - s.getD v 0) else 0) n) n := sumN_congr fun v _ => e1 v
  have e3 : ∀ v u, (if A v = true then joinE es v u * (s.getD u 0 - s.getD v 0) else 0) = (if A v = true ∧ A u = false then joinE es v u * (s.getD u 0 - s.getD v 0) else 0) + (if A v = true ∧ A u = true then joinE es v u * (s.getD u 0 - s.getD v 0) else 0) := by
    intro v u
    cases A v <;> cases A u <;> simp
  have e4 : sumN (fun v => sumN (fun u => if A v = true ∧ A u = true then joinE es v u * (s.getD u 0 - s.getD v 0) else 0) n) n = 0 := by
    have h := sumN_swap (fun v u => if A v = true ∧ A u = true then joinE es v u * (s.getD u 0 - s.getD v 0) else 0) n n
    have h2 : sumN (fun v => sumN (fun u => if A u = true ∧ A v = true then joinE es u v * (s.getD v 0 - s.getD u 0) else 0) n) n = - sumN (fun v => sumN (fun u => if A v = true ∧ A u = true then joinE es v u * (s.getD u 0 - s.getD v 0) else 0) n) n := by
      have neg : ∀ (f : Nat → Int) k, sumN (fun u => - f u) k = - sumN f k := by
        intro f k
        induction k with
        | zero => rfl
        | succ k ih => simp only [sumN, ih]; omega
      rw [← neg]
      refine sumN_congr fun v _ => ?_
      rw [← neg]
      refine sumN_congr fun u _ => ?_
      rw [joinE_sym u v]
      by_cases h1 : A u = true ∧ A v = true
      · rw [if_pos h1, if_pos ⟨h1.2, h1.1⟩, ← Int.mul_neg]
        congr 1
        omega
      · rw [if_neg h1, if_neg (fun h2 => h1 ⟨h2.2, h2.1⟩)]; rfl
    omega
  rw [e2, show sumN (fun v => sumN (fun u => if A v = true then joinE es v u * (s.getD u 0 - s.getD v 0) else 0) n) n = sumN (fun v => sumN (fun u => if A v = true ∧ A u = false then joinE es v u * (s.getD u 0 - s.getD v 0) else 0) n + sumN (fun u => if A v = true ∧ A u = true then joinE es v u * (s.getD u 0 - s.getD v 0) else 0) n) n from
    sumN_congr fun v _ => by rw [← sumN_add]; exact sumN_congr fun u _ => e3 v u]
  rw [sumN_add, e4, Int.add_zero]
/-- Out of each set of vertices, but none or all, leads a single edge. -/
theorem edge_out (hp : partsN es n = 1) (A : Nat → Bool) {a b : Nat} (ha : a < n) (hb : b < n) (hAa : A a = true) (hAb : A b = false) : ∃ u w, u < n ∧ w < n ∧ A u = true ∧ A w = false ∧ 1 ≤ joinE es u w := by
  have hn := hg.n12
  refine Classical.byContradiction fun hno => ?_
  have hcl : ∀ u u', cls es u = cls es u' → (A u = true ↔ A u' = true) := by
    intro u u' h
    have := cls_closed (n := n) (es := es) (fun y => A y = true) (fun x hx => by
      have r := hg.right x hx
      have h1 := r.m1
      have h2 := r.a0
      have h3 := r.b0
      have h4 := r.an
      have h5 := r.bn
      have hne : ∀ u w : Nat, u < n → w < n → A u = true → A w = false → joinE es u w ≤ 0 := fun u w h1 h2 h3 h4 => by
        refine Classical.byContradiction fun h5 => hno ⟨u, w, h1, h2, h3, h4, by omega⟩
      by_cases hab : x.a.toNat = x.b.toNat
      · rw [hab]
      · have hadj := (adj_of (n := n) hg.right hx).1
        unfold adj at hadj
        have hj : 0 < joinE es x.a.toNat x.b.toNat := by
          rw [joinE, if_neg (fun e => hab e.symm), Int.min_comm, Int.max_comm]
          exact hadj
        have hj2 : 0 < joinE es x.b.toNat x.a.toNat := by rw [joinE_sym]; exact hj
        constructor
        · intro h6
          cases h7 : A x.b.toNat
          · have := hne _ _ (by omega) (by omega) h6 h7; omega
          · rfl
        · intro h6
          cases h7 : A x.a.toNat
          · have := hne _ _ (by omega) (by omega) h6 h7; omega
          · rfl) es.length (Nat.le_refl _) u u'
    rw [List.take_length] at this
    exact this h
  have hF := ufJ_forest (n := n) (by omega) hg.right es.length (Nat.le_refl _)
  rw [List.take_length] at hF
  have root : ∀ u, u < n → cls es u ∈ rootsL es n := fun u hu => by
    obtain ⟨h1, h2⟩ := hF.le u (by omega)
    refine List.mem_filter.2 ⟨List.mem_range.2 ?_, decide_eq_true h2⟩
    show (ufJ es).2 u < n
    omega
  obtain ⟨r, hr⟩ := List.length_eq_one_iff.1 hp
  have h1 := root a ha
  have h2 := root b hb
  rw [hr] at h1 h2
  have h3 : cls es a = cls es b := by rw [List.mem_singleton.1 h1, List.mem_singleton.1 h2]
  have := (hcl a b h3).1 hAa
  rw [hAb] at this
  cases this
end
section
variable {n : Nat} {es : List Ed} {q : Int} {d : List Int}
/-- THE ODOMETER OF FEW CHIPS: nowhere more than D for each vertex. -/
theorem odo_small (h : StOk n es q d) {s : List Int} (hs : Leg n es q d s) {D : Int} (hD : ∀ A : Nat → Bool, (∀ v, A v = true → (v : Int) ≠ q) → sumN (fun v => if A v = true then d.getD v 0 - (movedE es s d).getD v 0 else 0) n ≤ D) (hD0 : 0 ≤ D) : ∀ i, s.getD i 0 ≤ n * D := by
  have hg := h.g
  have hsl := hs.len
  obtain ⟨p, hp⟩ : ∃ p : Nat, q = p := ⟨q.toNat, by have := h.q0; omega⟩
  have hpn : p < n := by have := h.qn; omega
  have key : ∀ j : Nat, j < n → cntS (fun v => decide ((j : Int) * D < s.getD v 0)) n + j + 1 ≤ n := by
    intro j
    induction j with
    | zero =>
      intro _
      have := cntS_less (A := fun v => decide (((0 : Nat) : Int) * D < s.getD v 0)) (B := fun _ => true) (fun _ _ => rfl) (u := p) rfl (by
        rw [decide_eq_false_iff_not, hs.sink p hp.symm]
        simp) n hpn
      have := cntS_le (fun _ => true) n
      omega
    | succ j ih =>
      intro hj
      have ih := ih (by omega)
      obtain ⟨A, hA⟩ : ∃ A : Nat → Bool, A = fun v => decide ((j : Int) * D < s.getD v 0) := ⟨_, rfl⟩
      have hAv : ∀ v, A v = true ↔ (j : Int) * D < s.getD v 0 := fun v => by rw [hA]; simp
      have hjD : 0 ≤ (j : Int) * D := Int.mul_nonneg (by omega) hD0
      have hsucc : ((j + 1 : Nat) : Int) * D = (j : Int) * D + D := by push_cast; rw [Int.add_mul, Int.one_mul]
      rw [← hA] at ih
      have hmono : ∀ v, decide (((j + 1 : Nat) : Int) * D < s.getD v 0) = true → A v = true := fun v hv => by
        rw [hAv]
        have := of_decide_eq_true hv
        omega
      by_cases hne : ∃ a, a < n ∧ A a = true
      · obtain ⟨a, ha, hAa⟩ := hne
        have hAp : A p = false := by
          cases hh : A p
          · rfl
          · have := (hAv p).1 hh
            rw [hs.sink p hp.symm] at this
            omega
        obtain ⟨u, w, hu, hw, hAu, hAw, hj1⟩ := edge_out hg h.parts A ha hpn hAa hAp
        have hfl := flow_out hg s A
        have hDA := hD A (fun v hv e => by
          have e : v = p := by omega
          rw [e, hAp] at hv; cases hv)
        have e1 : sumN (fun v => if A v = true then d.getD v 0 - (movedE es s d).getD v 0 else 0) n = - sumN (fun v => if A v = true then dif es s v else 0) n := by
          have neg : ∀ (f : Nat → Int) k, sumN (fun u => - f u) k = - sumN f k := by
            intro f k
            induction k with
            | zero => rfl
            | succ k ih => simp only [sumN, ih]; omega
          rw [← neg]
          refine sumN_congr fun v _ => ?_
          rw [aft_eq hg h.c.len]
          split <;> omega
        -- one term of the flow is at least the step from w to u
        have hterm : ∀ v x, 0 ≤ (if A v = true ∧ A x = false then joinE es v x * (s.getD v 0 - s.getD x 0) else 0) := by
          intro v x
          split
          · rename_i hh
            have h1 := (hAv v).1 hh.1
            have h2 : ¬ (j : Int) * D < s.getD x 0 := fun h3 => by rw [(hAv x).2 h3] at hh; exact absurd hh.2 (by simp)
            exact Int.mul_nonneg (joinE_bd hg v x).1 (by omega)
          · exact Int.le_refl 0
        have hpick : ∀ (f : Nat → Int) k, (∀ y, 0 ≤ f y) → ∀ y, y < k → f y ≤ sumN f k := by
          intro f k hf
          induction k with
          | zero => intro y hy; omega
          | succ k ih =>
            intro y hy
            simp only [sumN]
            rcases Nat.lt_or_ge y k with h1 | h1
            · have := ih y h1; have := hf k; omega
            · have e : y = k := by omega
              rw [e]
              have := sumN_nonneg (f := f) (k := k) fun z _ => hf z
              omega
        have e2 : - sumN (fun v => sumN (fun x => if A v = true ∧ A x = false then joinE es v x * (s.getD x 0 - s.getD v 0) else 0) n) n = sumN (fun v => sumN (fun x => if A v = true ∧ A x = false then joinE es v x * (s.getD v 0 - s.getD x 0) else 0) n) n := by
          have neg : ∀ (f : Nat → Int) k, sumN (fun u => - f u) k = - sumN f k := by
            intro f k
            induction k with
            | zero => rfl
            | succ k ih => simp only [sumN, ih]; omega
          rw [← neg]
          refine sumN_congr fun v _ => ?_
          rw [← neg]
          refine sumN_congr fun x _ => ?_
          split
          · rw [← Int.mul_neg]; congr 1; omega
          · rfl
        have h1 := hpick (fun v => sumN (fun x => if A v = true ∧ A x = false then joinE es v x * (s.getD v 0 - s.getD x 0) else 0) n) n (fun v => sumN_nonneg fun x _ => hterm v x) u hu
        have h2 := hpick (fun x => if A u = true ∧ A x = false then joinE es u x * (s.getD u 0 - s.getD x 0) else 0) n (fun x => hterm u x) w hw
        rw [if_pos ⟨hAu, hAw⟩] at h2
        have h3 := (hAv u).1 hAu
        have h4 : ¬ (j : Int) * D < s.getD w 0 := fun h5 => by rw [(hAv w).2 h5] at hAw; cases hAw
        have h6 : s.getD u 0 - s.getD w 0 ≤ joinE es u w * (s.getD u 0 - s.getD w 0) := by
          have : 1 * (s.getD u 0 - s.getD w 0) ≤ joinE es u w * (s.getD u 0 - s.getD w 0) := Int.mul_le_mul_of_nonneg_right hj1 (by omega)
          omega
        have hlast := cntS_less hmono hAu (by
          rw [decide_eq_false_iff_not, hsucc]
          omega) n hu
        omega
      · have h0 : cntS (fun v => decide (((j + 1 : Nat) : Int) * D < s.getD v 0)) n = 0 := by
          have : ∀ k, k ≤ n → cntS (fun v => decide (((j + 1 : Nat) : Int) * D < s.getD v 0)) k = 0 := by
            intro k
            induction k with
            | zero => intro _; rfl
            | succ k ih2 =>
              intro hk
              simp only [cntS]
              rw [ih2 (by omega), if_neg (fun hh => hne ⟨k, by omega, hmono k hh⟩)]
          exact this n (Nat.le_refl _)
        omega
  intro i
  by_cases hi : i < n
  · have hk := key (n - 1) (by omega)
    have h0 : cntS (fun v => decide (((n - 1 : Nat) : Int) * D < s.getD v 0)) n = 0 := by omega
    have := cntS_none h0 i hi
    rw [decide_eq_false_iff_not] at this
    have : ((n - 1 : Nat) : Int) * D ≤ n * D := Int.mul_le_mul_of_nonneg_right (by omega) hD0
    omega
  · rw [List.getD_eq_getElem?_getD, List.getElem?_eq_none (by omega)]
    have : 0 ≤ (n : Int) * D := Int.mul_nonneg (by omega) hD0
    simpa using this
end
section
variable {n : Nat} {es : List Ed} {q : Int} {d : List Int}
/-- Whatever is fired legally from few chips is little. -/
theorem leg_small (h : StOk n es q d) (hd : ∀ i, -60 ≤ d.getD i 0 ∧ d.getD i 0 ≤ 60) {S : List Int} (hl : Leg n es q d S) : (∀ i, 0 ≤ S.getD i 0 ∧ S.getD i 0 ≤ 8640) ∧ sumI S ≤ 103680 := by
  have hn := h.n12
  have hdl := h.c.len
  have hodo : ∀ i, S.getD i 0 ≤ n * 720 := odo_small h hl (D := 720) (fun A hA => by
    have h1 : sumN (fun v => if A v = true then d.getD v 0 - (movedE es S d).getD v 0 else 0) n ≤ sumN (fun _ => 60) n := sumN_le fun v hv => by
      split
      · rename_i hAv
        have := hl.pos h.g hdl h.c.pos v hv (hA v hAv)
        have := hd v
        omega
      · omega
    have h2 : ∀ k : Nat, sumN (fun _ => 60) k = 60 * k := by
      intro k
      induction k with
      | zero => rfl
      | succ k ih => simp only [sumN, ih]; push_cast; omega
    rw [h2] at h1
    omega) (by omega)
  have h1 : ∀ i, 0 ≤ S.getD i 0 ∧ S.getD i 0 ≤ 8640 := fun i => by
    have := hodo i
    have := hl.nn i
    omega
  refine ⟨h1, ?_⟩
  rw [sumI_sumN, hl.len]
  have h2 : ∀ k : Nat, sumN (fun u => S.getD u 0) k ≤ 8640 * k := by
    intro k
    induction k with
    | zero => simp [sumN]
    | succ k ih => simp only [sumN]; have := (h1 k).2; push_cast; omega
  have := h2 n
  omega
/-- Few chips are stabilized. -/
theorem small_fall20 (h0 : stE n es q d = 0) (h : StOk n es q d) (hd : ∀ i, -60 ≤ d.getD i 0 ∧ d.getD i 0 ≤ 60) :
    fallE n es q d = 0 ∧ fallS n es q d = (stabF n es q d).1 ∧ fallD n es q d = movedE es (stabF n es q d).1 d ∧ Good n es q d (stabF n es q d).1 := by
  have hl := (stabF_spec (d := d) h.v).1
  have hsm := leg_small h hd hl
  rcases small_fall (B := 60) h0 h (by omega) hd with h12 | ⟨e0, e1, e2, hg⟩
  · exfalso
    rcases (stabF_spec (d := d) h.v).2 with ⟨h1, h2, h3⟩ | ⟨h1, h2⟩
    · have e : fallE n es q d = settledE n es q d := by rw [fallE, if_neg (by simp [h0]), Int.toNat_natCast]
      have hch := (chips_small h (B := 60) (by omega) hd hl q.toNat).2
      rw [e, settledE, if_neg (by simp [h1]), if_neg (by omega)] at h12
      cases h12
    · omega
  · exact ⟨e0, e1, e2, hg⟩
/-- What is ready in no round: the configuration is stable. -/
theorem ready_stab (h : StOk n es q d) {k : Nat} (hr : rdyL n es q (rdC n es q d k) = []) : Stab n es q d (rdS n es q d k) := by
  have hl := rdS_leg h.g h.c.len (q := q) k
  refine ⟨rdS_len k, fun i hi => hl.nn i, fun v hv hq => ?_⟩
  have h1 := rdyK_nil.1 hr v hv
  simp only [rdyB, decide_eq_false_iff_not] at h1
  have h2 := h.v v hv hq
  have h3 : ¬ valTo es v n ≤ (rdC n es q d k).getD v 0 := fun hh => h1 ⟨hq, by omega, hh⟩
  show (rdC n es q d k).getD v 0 < _
  omega
/-- The rounds of few chips come to an end. -/
theorem went_small (h : StOk n es q d) (hd : ∀ i, -60 ≤ d.getD i 0 ∧ d.getD i 0 ≤ 60) : ∃ r : Nat, r ≤ 103680 ∧ rdyL n es q (rdC n es q d r) = [] ∧ (∀ j, j < r → rdyL n es q (rdC n es q d j) ≠ []) ∧ ∀ F, wentN n es q d F 0 = (min F r, false) := by
  have hsm : ∀ k, sumI (rdS n es q d k) ≤ 103680 := fun k => (leg_small h hd (rdS_leg h.g h.c.len k)).2
  have key : ∀ F, (wentN n es q d F 0).2 = false := fun F => by
    cases hb : (wentN n es q d F 0).2 with
    | false => rfl
    | true =>
      have := ((wentN_end (n := n) (es := es) (q := q) (d := d) F 0).yes hb).2.2
      have := hsm ((wentN n es q d F 0).1 + 1)
      omega
  have hE := wentN_end (n := n) (es := es) (q := q) (d := d) 1048577 0
  obtain ⟨r, hr⟩ : ∃ r, r = (wentN n es q d 1048577 0).1 := ⟨_, rfl⟩
  have hlive : ∀ j, j < r → rdyL n es q (rdC n es q d j) ≠ [] := fun j hj => hE.live j (Nat.zero_le _) (by rw [← hr]; exact hj)
  have hle := rdS_ge r hlive
  have hr6 : r ≤ 103680 := by have := hsm r; omega
  have hnil : rdyL n es q (rdC n es q d r) = [] := by
    rcases hE.no (key _) with h1 | h1
    · omega
    · rw [hr]; exact h1
  refine ⟨r, hr6, hnil, hlive, fun F => ?_⟩
  have hF := wentN_end (n := n) (es := es) (q := q) (d := d) F 0
  have h1 : (wentN n es q d F 0).1 = min F r := by
    have h2 : (wentN n es q d F 0).1 ≤ r := by
      refine Classical.byContradiction fun hlt => ?_
      exact hF.live r (Nat.zero_le _) (by omega) hnil
    have h3 := hF.le
    rcases hF.no (key F) with h4 | h4
    · omega
    · have h5 : r ≤ (wentN n es q d F 0).1 := by
        refine Classical.byContradiction fun hlt => ?_
        exact hlive _ (by omega) h4
      omega
  exact Prod.ext h1 (key F)
theorem large_small (h : StOk n es q d) (hd : ∀ i, -60 ≤ d.getD i 0 ∧ d.getD i 0 ≤ 60) (k : Nat) : largeE (rdC n es q d k) = 0 := by
  have hl := rdC_len (q := q) (es := es) h.c.len k
  have hn := h.n12
  have hn1 := h.n1
  rw [largeE_all (by omega) (by omega), if_pos]
  refine inB_all fun i _ => ?_
  have := chips_small h (B := 60) (by omega) hd (rdS_leg h.g h.c.len (q := q) k) i
  have e : rdC n es q d k = movedE es (rdS n es q d k) d := rfl
  rw [e]
  omega
theorem played_small (h : StOk n es q d) (hd : ∀ i, -60 ≤ d.getD i 0 ∧ d.getD i 0 ≤ 60) {r : Nat} (hr : ∀ F, wentN n es q d F 0 = (min F r, false)) (kk : Int) : playedR n es q d kk = (rdC n es q d (min (plF kk) r), rdS n es q d (min (plF kk) r), ((min (plF kk) r : Nat) : Int), 0) := by
  rw [playedR, hr]
  dsimp only
  rw [if_neg (by simp), if_pos (large_small h hd _)]
end
set_option maxRecDepth 10000 in
theorem agrees_law (N : Int) (es : List Ed) (q : Int) (d : List Int) : PC Try.prog 9 [G N es, .i q, .is d] (.b true) [] := by
  refine PC_of_W cfn9 ?_
  simp -implicitDefEqProofs (disch := omega) [c9, List.getElem?_cons_zero, List.getElem?_cons_succ, wrap_id]
  refine HC_of_PC rfl (small20_ok N es q d) ?_
  cases hf : small20 N es q d
  · simp -implicitDefEqProofs (disch := omega) [List.getElem?_cons_zero, List.getElem?_cons_succ, wrap_id]
    refine HC_of_PC rfl (awake20_ok) ?_
    simp -implicitDefEqProofs (disch := omega) [List.getElem?_cons_zero, List.getElem?_cons_succ, wrap_id]
    (refine fin0 trivial rfl ?_; simp -implicitDefEqProofs (disch := omega) [List.getElem?_cons_zero, List.getElem?_cons_succ, idx, wrap_id])
  obtain ⟨hf1, h0, h60⟩ := small20_at hf
  obtain ⟨he, hd⟩ := few20_len hf1
  obtain ⟨n, rfl, h⟩ := st_ok h0
  have hn := h.n12
  have hdl := h.c.len
  have h6 := in60_get h60
  obtain ⟨r, hr6, hnil, hlive, hw⟩ := went_small h h6
  have hrun : runR n es q d (-1) = (rdC n es q d r, rdS n es q d r, (r : Int), 0) := by
    rw [runR, if_neg (by simp [h0]), Int.toNat_natCast, played_small h h6 hw]
    have e : min (plF (-1)) r = r := by rw [show plF (-1) = 1048577 from rfl]; omega
    rw [e]
  obtain ⟨f1, f2, f3, f4⟩ := small_fall20 h0 h h6
  have hsame : rdS n es q d r = (stabF n es q d).1 := leg_same h.g hdl (rdS_leg h.g hdl r) f4.leg (ready_stab h hnil) (f4.leg.stab (nxtF_none f4.none))
  have hC : rdC n es q d r = movedE es (rdS n es q d r) d := rfl
  rw [← hsame] at f2 f3
  rw [← hC] at f3
  have hm0 : ¬ ((min r 4096 : Nat) : Int) < 0 := by omega
  have hrounds : roundsR n es q d ((min r 4096 : Nat) : Int) = (rdC n es q d (min r 4096), rdS n es q d (min r 4096), 0) := by
    rw [roundsR, if_neg (by simp [h0]), if_neg (by omega), Int.toNat_natCast, played_small h h6 hw]
    have e : min (plF ((min r 4096 : Nat) : Int)) r = min r 4096 := by rw [plF, if_neg hm0, Int.toNat_natCast]; omega
    rw [e]
  have hmin : min (r : Int) 4096 = ((min r 4096 : Nat) : Int) := by omega
  have l1 := rdC_len (q := q) (es := es) hdl r
  have l2 := rdS_len (n := n) (es := es) (q := q) (d := d) r
  simp -implicitDefEqProofs (disch := omega) [List.getElem?_cons_zero, List.getElem?_cons_succ, wrap_id]
  refine HC_of_PC rfl (run_ok n es q d he hd) ?_
  simp -implicitDefEqProofs (disch := omega) [List.getElem?_cons_zero, List.getElem?_cons_succ, wrap_id, hrun]
  refine HC_of_PC rfl (stabilize_ok n es q d he hd) ?_
  simp -implicitDefEqProofs (disch := omega) [List.getElem?_cons_zero, List.getElem?_cons_succ, wrap_id, f1, f2, f3, hmin]
  refine HC_of_PC rfl (rounds_ok n es q d he hd _) ?_
  simp -implicitDefEqProofs (disch := omega) [List.getElem?_cons_zero, List.getElem?_cons_succ, wrap_id, hrounds]
  refine HC_of_PC rfl (same20_19 _ _ (by omega) (by omega)) ?_
  by_cases h4 : 4096 < r
  · have h4' : (4096 : Int) < r := by omega
    simp -implicitDefEqProofs (disch := omega) [List.getElem?_cons_zero, List.getElem?_cons_succ, wrap_id, h4']
    refine HC_of_PC rfl (awake20_ok) ?_
    simp -implicitDefEqProofs (disch := omega) [List.getElem?_cons_zero, List.getElem?_cons_succ, wrap_id]
    (refine fin0 trivial rfl ?_; simp -implicitDefEqProofs (disch := omega) [List.getElem?_cons_zero, List.getElem?_cons_succ, idx, wrap_id])
  have h4' : ¬ (4096 : Int) < r := by omega
  have e4 : min r 4096 = r := by omega
  rw [e4]
  simp -implicitDefEqProofs (disch := omega) [List.getElem?_cons_zero, List.getElem?_cons_succ, wrap_id, h4']
  refine HC_of_PC rfl (same20_19 _ _ (by omega) (by omega)) ?_
  simp -implicitDefEqProofs (disch := omega) [List.getElem?_cons_zero, List.getElem?_cons_succ, wrap_id]
  refine HC_of_PC rfl (awake20_ok) ?_
  simp -implicitDefEqProofs (disch := omega) [List.getElem?_cons_zero, List.getElem?_cons_succ, wrap_id]
  (refine fin0 trivial rfl ?_; simp -implicitDefEqProofs (disch := omega) [List.getElem?_cons_zero, List.getElem?_cons_succ, idx, wrap_id])
end Go.Proofs.Ytamiekhoaggpkaa
end
section
namespace Go
namespace Abs
open Go.RowKit
section
variable {H : Type} {enc : TypeId × Value → H} {P : Program} {w : World} {base : Nat} {spare : Nat → Bool} {held : Bool} {fuel : Nat} {cs : List Value} {x : DataW H × List MemPlace} {t : TypeId}
/-- What stands in memory now. -/
abbrev Here (w : World) : Nat → Prop := fun b => b < w.heap.size
theorem open_int (ht : P.underlying t = some (.int .i64)) (h : DataW.trod enc P w base spare held fuel t cs = some x) : ∃ n : Int, cs = [.int .i64 n] ∧ RP (Here w) w (.i n) (.int .i64 n) := by
  obtain ⟨n, h1, -, -⟩ := DataW.trod_int ht h
  exact ⟨n, h1, .v _ rfl⟩
theorem addr_plus {a : Addr} (h : a.spot = none) (n : Nat) : a.add n = ⟨a.block, a.off + n, none⟩ := by
  unfold Addr.add
  split
  · rename_i e; subst e; cases a; cases h; rfl
  · rfl
theorem cell_spot {a : Addr} {v : Value} (h : w.cell? a = some v) : a.spot = none ∧ a.block < w.heap.size := by
  unfold World.cell? at h
  split at h
  · rename_i c t' z hb
    split at h
    · cases h
    · rename_i hs
      exact ⟨by cases ha : a.spot; rfl; rw [ha] at hs; exact absurd rfl hs, (Array.getElem?_eq_some_iff.1 hb).1⟩
  · cases h
theorem open_sl {e : TypeId} {β : Type} (g : β → PV) (sz : Nat) (hpos : 0 < sz) (ht : P.underlying t = some (.slice e)) (hc : P.cellsOf e = sz) (hg : ∀ b, (g b).flat.length = sz ∧ ∀ q ∈ (g b).flat, q.one = true)
    (hel : ∀ {fuel : Nat} {cs : List Value} {x : DataW H × List MemPlace}, DataW.trod enc P w base spare held fuel e cs = some x → ∃ b, ∀ i (h : i < (g b).flat.length) (h' : i < cs.length), RP (Here w) w (g b).flat[i] cs[i])
    (h : DataW.trod enc P w base spare held fuel t cs = some x) : ∃ (bs : List β) (v : Value), cs = [v] ∧ RP (Here w) w (.sl (bs.map g)) v := by
  rcases DataW.trod_slice ht h with ⟨h0, -⟩ | ⟨a, len, cap, elems, rest, n, -, rfl, -, -, hl, hm, hlen, hels, -, -⟩
  · refine ⟨[], _, h0, ?_⟩
    exact .sl [] none 0 0 (fun _ _ => undef) (by simp) (by simp) (fun i h => by simp at h) (.inl rfl) (fun i h => by simp at h)
  have each : ∀ i : _root_.Fin len, ∃ p : List Value × β, w.cells? base (a.add (i.1 * P.cellsOf e)) (P.cellsOf e) = some p.1 ∧ ∀ j (h : j < (g p.2).flat.length) (h' : j < p.1.length), RP (Here w) w (g p.2).flat[j] p.1[j] := by
    intro i
    have hb := hels i.1 i.2
    rw [List.getElem?_eq_getElem (by omega), Option.bind_eq_some_iff] at hb
    obtain ⟨cs', h1, h2⟩ := hb
    obtain ⟨b, hb⟩ := hel h2
    exact ⟨⟨cs', b⟩, h1, hb⟩
  obtain ⟨F, hF⟩ : ∃ F : _root_.Fin len → List Value × β, ∀ i, w.cells? base (a.add (i.1 * P.cellsOf e)) (P.cellsOf e) = some (F i).1 ∧ ∀ j (h : j < (g (F i).2).flat.length) (h' : j < (F i).1.length), RP (Here w) w (g (F i).2).flat[j] (F i).1[j] :=
    ⟨fun i => (each i).choose, fun i => (each i).choose_spec⟩
  refine ⟨List.ofFn fun i => (F i).2, _, rfl, ?_⟩
  have hlen' : ((List.ofFn fun i => (F i).2).map g).length = len := by simp
  have hsz : ∀ i, (F i).1.length = sz := fun i => by rw [(World.cells?_some (hF i).1).2.1, hc]
  have hcell : ∀ i : _root_.Fin len, ∀ j (hj : j < sz), w.cell? ((a.add (i.1 * sz)).add j) = some ((F i).1[j]'(by rw [hsz]; exact hj)) := by
    intro i j hj
    have := (World.cells?_some (hF i).1).2.2 j (by rw [hc]; exact hj)
    rw [hc] at this
    rw [this, List.getElem?_eq_getElem]
  have main := RP.sl (S := Here w) (w := w) ((List.ofFn fun i => (F i).2).map g) (some a) cap sz (fun i j => if h : i < len then (F ⟨i, h⟩).1.getD j undef else undef) (by rw [hlen']; exact hl) hm (fun i hi => by
      rw [List.getElem_map]; exact hg _) ?_ ?_
  · rw [hlen'] at main
    exact main
  · rcases Nat.eq_zero_or_pos len with h0 | h0
    · left
      exact List.eq_nil_of_length_eq_zero (by rw [hlen', h0])
    · right
      have h1 := hcell ⟨0, h0⟩ 0 hpos
      simp only [Nat.zero_mul] at h1
      have h2 : a.add 0 = a := rfl
      rw [h2, h2] at h1
      obtain ⟨s1, s2⟩ := cell_spot h1
      refine ⟨a.block, a.off, by cases a; cases s1; rfl, s2, fun i j hi hj => ?_⟩
      rw [hlen'] at hi
      have h3 := hcell ⟨i, hi⟩ j hj
      rw [addr_plus s1, addr_plus rfl] at h3
      rw [dif_pos hi]
      refine h3.trans ?_
      rw [List.getD_eq_getElem?_getD, List.getElem?_eq_getElem]
      rfl
  · intro i hi j hj
    rw [hlen'] at hi
    simp only [List.getElem_map, List.getElem_ofFn] at hj ⊢
    rw [dif_pos hi, List.getD_eq_getElem?_getD, List.getElem?_eq_getElem (by rw [hsz, ← (hg (F ⟨i, hi⟩).2).1]; exact hj)]
    exact (hF ⟨i, hi⟩).2 j hj _
end
end Abs
end Go
/-
  Handed arguments of any shape, as values of the abstract machine.
-/
namespace Go
namespace Abs
open Go.RowKit Go.ChangeShapes Go.WideShapes Go.ChangeAt
/-- Whatever is read at a type is one of these values. -/
structure Opens (P : Program) (t : TypeId) {β : Type} (g : β → PV) : Prop where
  one : ∀ b, ∀ q ∈ (g b).flat, q.one = true
  len : ∀ b, (g b).flat.length = P.cellsOf t
  red : ∀ {H : Type} {enc : TypeId × Value → H} {w : World} {base : Nat} {spare : Nat → Bool} {held : Bool} {fuel : Nat} {cs : List Value} {x : DataW H × List MemPlace},
    DataW.trod enc P w base spare held fuel t cs = some x → ∃ b, RPs (Here w) w (g b).flat cs
theorem flat_agg (l : List PV) : (PV.agg l).flat = l := rfl
section
variable {P : Program} {t : TypeId}
theorem Opens.to {β γ : Type} {g : β → PV} {g' : γ → PV} (h : Opens P t g) (f : β → γ) (k : γ → β) (e : ∀ b, g b = g' (f b)) (e' : ∀ c, g' c = g (k c)) : Opens P t g' := by
  refine ⟨fun b => ?_, fun b => ?_, fun hr => ?_⟩
  · rw [e' b]; exact h.one _
  · rw [e' b]; exact h.len _
  · obtain ⟨b, hb⟩ := h.red hr
    exact ⟨f b, e b ▸ hb⟩
theorem RPs_one {S : Nat → Prop} {w : World} {x : PV} {v : Value} (h : RP S w x v) : RPs S w [x] [v] := ⟨rfl, fun i hi hi' => by
  have : i = 0 := by simp at hi; omega
  subst this; exact h⟩
theorem RPs_app {S : Nat → Prop} {w : World} {a b : List PV} {cs : List Value} (h1 : RPs S w a (cs.take a.length)) (h2 : RPs S w b (cs.drop a.length)) : RPs S w (a ++ b) cs := by
  have l1 := h1.1
  have l2 := h2.1
  simp only [List.length_take, List.length_drop] at l1 l2
  refine ⟨by rw [List.length_append]; omega, fun i hi hi' => ?_⟩
  by_cases hc : i < a.length
  · have := h1.2 i hc (by simp; omega)
    rw [List.getElem_take] at this
    rw [List.getElem_append_left hc]
    exact this
  · have := h2.2 (i - a.length) (by rw [List.length_append] at hi; omega) (by simp; omega)
    rw [List.getElem_append_right (by omega)]
    simp only [List.getElem_drop] at this
    have e : a.length + (i - a.length) = i := by omega
    simp only [e] at this
    exact this
theorem opens_int (ht : P.underlying t = some (.int .i64)) (hc : P.cellsOf t = 1) : Opens P t PV.i := by
  refine ⟨fun b q hq => by simp [PV.flat] at hq; subst hq; rfl, fun b => by rw [hc]; rfl, fun h => ?_⟩
  obtain ⟨n, rfl, hr⟩ := open_int ht h
  exact ⟨n, RPs_one hr⟩
theorem opens_slice {e : TypeId} {β : Type} {g : β → PV} (he : Opens P e g) (ht : P.underlying t = some (.slice e)) (hp : 0 < P.cellsOf e) (hc : P.cellsOf t = 1) : Opens P t (fun l : List β => PV.sl (l.map g)) := by
  refine ⟨fun b q hq => by simp [PV.flat] at hq; subst hq; rfl, fun b => by rw [hc]; rfl, fun h => ?_⟩
  obtain ⟨bs, v, rfl, hr⟩ := open_sl g (P.cellsOf e) hp ht rfl (fun b => ⟨he.len b, he.one b⟩) (fun h => by
    obtain ⟨b, hb⟩ := he.red h
    exact ⟨b, fun i hi hi' => hb.2 i hi hi'⟩) h
  exact ⟨bs, RPs_one hr⟩
theorem opens_struct2 {f0 f1 : Field} {β γ : Type} {g0 : β → PV} {g1 : γ → PV} (h0 : Opens P f0.type g0) (h1 : Opens P f1.type g1) (ht : P.underlying t = some (.struct #[f0, f1]))
    (ho0 : f0.offset = 0) (ho1 : f1.offset = P.cellsOf f0.type) (hc : P.cellsOf t = P.cellsOf f0.type + P.cellsOf f1.type) : Opens P t (fun p : β × γ => PV.agg ((g0 p.1).flat ++ (g1 p.2).flat)) := by
  refine ⟨fun b q hq => ?_, fun b => ?_, fun h => ?_⟩
  · simp only [flat_agg, List.mem_append] at hq
    exact hq.elim (h0.one _ _) (h1.one _ _)
  · simp only [flat_agg, List.length_append, h0.len, h1.len, hc]
  · obtain ⟨y0, y1, n, -, hl, k0, k1⟩ := trod_struct2 ht h
    obtain ⟨b0, r0⟩ := h0.red k0
    obtain ⟨b1, r1⟩ := h1.red k1
    refine ⟨(b0, b1), RPs_app ?_ ?_⟩
    · rw [h0.len]; rw [ho0, List.drop_zero] at r0; exact r0
    · rw [h0.len]; rw [ho1, List.take_of_length_le (by rw [List.length_drop]; omega)] at r1; exact r1
theorem opens_struct3 {f0 f1 f2 : Field} {β γ δ : Type} {g0 : β → PV} {g1 : γ → PV} {g2 : δ → PV} (h0 : Opens P f0.type g0) (h1 : Opens P f1.type g1) (h2 : Opens P f2.type g2) (ht : P.underlying t = some (.struct #[f0, f1, f2]))
    (ho0 : f0.offset = 0) (ho1 : f1.offset = P.cellsOf f0.type) (ho2 : f2.offset = P.cellsOf f0.type + P.cellsOf f1.type) (hc : P.cellsOf t = P.cellsOf f0.type + P.cellsOf f1.type + P.cellsOf f2.type) :
    Opens P t (fun p : β × γ × δ => PV.agg ((g0 p.1).flat ++ ((g1 p.2.1).flat ++ (g2 p.2.2).flat))) := by
  refine ⟨fun b q hq => ?_, fun b => ?_, fun h => ?_⟩
  · simp only [flat_agg, List.mem_append] at hq
    rcases hq with hq | hq | hq
    · exact h0.one _ _ hq
    · exact h1.one _ _ hq
    · exact h2.one _ _ hq
  · simp only [flat_agg, List.length_append, h0.len, h1.len, h2.len, hc]
    omega
  · obtain ⟨y0, y1, y2, n, -, hl, k0, k1, k2⟩ := Go.Deep.trod_struct3 ht h
    obtain ⟨b0, r0⟩ := h0.red k0
    obtain ⟨b1, r1⟩ := h1.red k1
    obtain ⟨b2, r2⟩ := h2.red k2
    refine ⟨(b0, b1, b2), RPs_app ?_ (RPs_app ?_ ?_)⟩
    · rw [h0.len]; rw [ho0, List.drop_zero] at r0; exact r0
    · rw [h0.len, h1.len]; rw [ho1] at r1; exact r1
    · rw [h0.len, h1.len, List.drop_drop]; rw [ho2, List.take_of_length_le (by rw [List.length_drop]; omega)] at r2; exact r2
section
variable {H : Type} {enc : TypeId × Value → H} {w : World} {base : Nat} {spare : Nat → Bool} {held : Bool} {v : Value} {d : DataW H} {p : List MemPlace} {r : Reach} {base' : Nat} {β : Type} {g : β → PV}
theorem arg_one (h : Opens P t g) (hg : ∀ b, (g b).flat = [g b]) (hv : v.cells.toList = [v]) (hd : DataW.Trod enc P w base spare held t v d p) : ∃ b, RP (Here w) w (g b) v := by
  obtain ⟨m, hm⟩ := hd
  obtain ⟨b, hb⟩ := h.red hm
  refine ⟨b, ?_⟩
  rw [hg b, hv] at hb
  exact hb.2 0 (by simp) (by simp)
theorem arg_int {g : β → PV} (h : Opens P t g) (ht : P.underlying t = some (.int .i64)) (hg : ∀ b, (g b).flat = [g b]) (hw : Value.okWide P w r base' t v) (hd : DataW.Trod enc P w base spare held t v d p) : ∃ b, RP (Here w) w (g b) v := by
  obtain ⟨n, rfl⟩ := okWide_int ht hw
  exact arg_one h hg rfl hd
theorem arg_slice {e : TypeId} {g : β → PV} (h : Opens P t g) (ht : P.underlying t = some (.slice e)) (hg : ∀ b, (g b).flat = [g b]) (hw : Value.okWide P w r base' t v) (hd : DataW.Trod enc P w base spare held t v d p) : ∃ b, RP (Here w) w (g b) v := by
  obtain ⟨a, len, cap, rfl⟩ := okWide_slice ht hw
  exact arg_one h hg rfl hd
theorem arg_agg {cs : Array Value} (h : Opens P t g) (hg : ∀ b, g b = .agg (g b).flat) (hd : DataW.Trod enc P w base spare held t (.agg cs) d p) : ∃ b, RP (Here w) w (g b) (.agg cs) := by
  obtain ⟨m, hm⟩ := hd
  obtain ⟨b, hb⟩ := h.red hm
  refine ⟨b, ?_⟩
  rw [hg b]
  exact .agg _ _ hb.1 (h.one b) fun i hi hi' => hb.2 i hi hi'
theorem arg_struct {fs : Array Field} (h : Opens P t g) (ht : P.underlying t = some (.struct fs)) (hg : ∀ b, g b = .agg (g b).flat) (hw : Value.okWide P w r base' t v) (hd : DataW.Trod enc P w base spare held t v d p) : ∃ b, RP (Here w) w (g b) v := by
  obtain ⟨cs, rfl, -⟩ := okWide_struct ht hw
  exact arg_agg h hg hd
end
end
end Abs
end Go
end
section
namespace Go.Proofs.Ytamiekhoaggpkaa
open Go.Abs Go.Sand Go.ChangeShapes Go.WideShapes Go.ChangeAt Go.RowKit
theorem own : ownKnob Try.prog.godebug = none := by kernel_rfl
theorem laidOut : laidOutB Try.prog = true := by kernel_rfl
theorem cells_int : Try.prog.cellsOf 3 = 1 := by kernel_rfl
theorem cells_div : Try.prog.cellsOf 26 = 1 := by kernel_rfl
theorem cells_edges : Try.prog.cellsOf 22 = 1 := by kernel_rfl
theorem cells_edge : Try.prog.cellsOf 139 = 3 := by kernel_rfl
theorem cells_graph : Try.prog.cellsOf 24 = 2 := by kernel_rfl
theorem o_int : Opens Try.prog 3 PV.i := opens_int Try.underlying3 cells_int
theorem o_div : Opens Try.prog 26 PV.is := opens_slice o_int Try.underlying26 (by rw [cells_int]; decide) cells_div
theorem o_edge : Opens Try.prog 139 edP :=
  (opens_struct3 o_int o_int o_int Try.underlying139 rfl cells_int.symm (by rw [cells_int]) (by rw [cells_int, cells_edge])).to (fun p => ⟨p.1, p.2.1, p.2.2⟩) (fun e => (e.a, e.b, e.m)) (fun _ => rfl) (fun _ => rfl)
theorem o_edges : Opens Try.prog 22 (fun l : List Ed => PV.sl (l.map edP)) := opens_slice o_edge Try.underlying22 (by rw [cells_edge]; decide) cells_edges
theorem o_graph : Opens Try.prog 24 (fun p : Int × List Ed => G p.1 p.2) :=
  opens_struct2 o_int o_edges Try.underlying24 rfl cells_int.symm (by rw [cells_int, cells_edges, cells_graph])
/-- A contract that leaves true serves as the walk. -/
theorem walk_of {f : FuncId} {ps : List PV} {vs : List Value} {w : World} (h : PC Try.prog f ps (.b true) []) (hr : RPs (Here w) w ps vs) : Calls Try.prog f vs.toArray w fun e w' => e = .returned (.bool true) ∧ Below w.heap.size w w' := by
  refine (h w (fun _ => True) vs ⟨hr.1, fun i hi hi' => (hr.2 i hi hi').mono fun b hb => ⟨⟨hb, trivial⟩, rfl⟩⟩).mono ?_
  rintro e w' ⟨v, φ, rfl, -, hv, hb⟩
  refine ⟨?_, hb⟩
  have := hv.lit
  rw [this.1]
end Go.Proofs.Ytamiekhoaggpkaa
end
