/-
  Texts joined: Yaf Ye Yf Yg Yh Yi.
-/
import Derived.Test.YtgbmdikkdjogpaaKb23

section
set_option linter.unusedSimpArgs false
set_option linter.unusedVariables false
namespace Go.Proofs.Ytgbmdikkdjogpaa
open Go.Abs Go.Sand
section
variable {n : Nat} {es : List Ed} (hg : GoodG n es) (hlp : es.any lpB = false)
include hg hlp
/-- A cut that leads one way: what its turning changes. -/
theorem turn_lap {o : List Bool} (hol : o.length = (endsL es).length) {j : Nat} {w : Int} (hw : wayP (mkB (setM n j)) es o = w) (hw0 : w ≠ 0) {v : Nat} (hv : v < n) :
    (inL n es (turnL es (setM n j) o)).getD v 0 = (inL n es o).getD v 0 + lapF n (joinE es) (fun u => if mkB (setM n j) u = true then -w else 0) v := by
  have hz : ∀ a b : Nat, (w = 1 → mkB (setM n j) a = false → mkB (setM n j) b = true → arcN (arwsL es o) a b = 0) ∧ (w = -1 → mkB (setM n j) a = true → mkB (setM n j) b = false → arcN (arwsL es o) a b = 0) := fun a b => by
    have h0 := arcN_nonneg (arwsL es o) a b
    rcases way_one hw hw0 with ⟨h1, h2, h3⟩ | ⟨h1, h2, h3⟩
    · refine ⟨fun _ ha hb => ?_, fun h => by omega⟩
      refine Classical.byContradiction fun hne => ?_
      have hm := arcN_pos.1 (show 1 ≤ arcN (arwsL es o) a b by omega)
      have := List.countP_eq_zero.1 h3 _ hm
      simp [intB, ha, hb] at this
    · refine ⟨fun h => by omega, fun _ ha hb => ?_⟩
      refine Classical.byContradiction fun hne => ?_
      have hm := arcN_pos.1 (show 1 ≤ arcN (arwsL es o) a b by omega)
      have := List.countP_eq_zero.1 h3 _ hm
      simp [outB, ha, hb] at this
  have hw1 : w = 1 ∨ w = -1 := by
    rcases way_one hw hw0 with ⟨h1, _⟩ | ⟨h1, _⟩
    · exact .inl h1
    · exact .inr h1
  rw [in_sum hg (turnL_len hol) hv, in_sum hg hol hv]
  unfold lapF
  rw [← sumN_add]
  refine sumN_congr fun u hu => ?_
  rw [arc_turn hol]
  have hJ := arcs_join hg hlp hol v u
  have h1 := hz u v
  have h2 := hz v u
  cases hu2 : mkB (setM n j) (u : Int) <;> cases hv2 : mkB (setM n j) (v : Int) <;> rw [hu2, hv2] at h1 h2
  · simp [hu2, hv2]
  · rcases hw1 with e | e <;> subst e
    · have := h1.1 rfl rfl rfl
      simp [hu2, hv2]; omega
    · have := h2.2 rfl rfl rfl
      simp [hu2, hv2]; omega
  · rcases hw1 with e | e <;> subst e
    · have := h2.1 rfl rfl rfl
      simp [hu2, hv2]; omega
    · have := h1.2 rfl rfl rfl
      simp [hu2, hv2]; omega
  · simp [hu2, hv2]
theorem step_equi {d d' : List Int} (h : StepD n (endsL es).length es d d') : Equi n (joinE es) (fun v => d.getD v 0) (fun v => d'.getD v 0) := by
  obtain ⟨o, hol, rfl, j, hj, hw, rfl⟩ := h
  exact ⟨_, fun v hv => turn_lap hg hlp hol rfl hw hv⟩
theorem reach_equi {d d' : List Int} (h : ReachD n (endsL es).length es d d') : Equi n (joinE es) (fun v => d.getD v 0) (fun v => d'.getD v 0) := by
  induction h with
  | refl => exact Equi.refl _
  | step _ s ih => exact ih.trans (step_equi hg hlp s)
/-- Where a script is greatest, all edges lead in. -/
theorem top_in (hp : partsN es n = 1) {o o' : List Bool} (hol : o.length = (endsL es).length) (hol' : o'.length = (endsL es).length) {s : Nat → Int} (hs : ∀ v, v < n → (inL n es o').getD v 0 = (inL n es o).getD v 0 + lapF n (joinE es) s v) {A : Nat → Bool}
    (hA : ∀ v u, v < n → u < n → A v = true → A u = false → s u - s v ≤ -1) : ∀ v u, v < n → u < n → A v = true → A u = false → arcN (arwsL es o) v u = 0 := by
  obtain ⟨T, hT⟩ : ∃ T, T = arcN (arwsL es o) := ⟨_, rfl⟩
  obtain ⟨T', hT'⟩ : ∃ T', T' = arcN (arwsL es o') := ⟨_, rfl⟩
  have hJ := fun v u => arcs_join hg hlp hol v u
  have hJ' := fun v u => arcs_join hg hlp hol' v u
  have h0 := fun v u => arcN_nonneg (arwsL es o) v u
  have h0' := fun v u => arcN_nonneg (arwsL es o') v u
  have hi := fun v (hv : v < n) => in_sum hg hol hv
  have hi' := fun v (hv : v < n) => in_sum hg hol' hv
  rw [← hT] at hJ h0 hi ⊢
  rw [← hT'] at hJ' h0' hi'
  -- inside the set nothing changes as a whole
  have inner : sumN (fun v => sumN (fun u => if A v = true ∧ A u = true then T' u v - T u v else 0) n) n = 0 := by
    have h1 := sumN_swap (fun v u => if A v = true ∧ A u = true then T' u v - T u v else 0) n n
    have h2 : sumN (fun v => sumN (fun u => if A u = true ∧ A v = true then T' v u - T v u else 0) n) n = - sumN (fun v => sumN (fun u => if A v = true ∧ A u = true then T' u v - T u v else 0) n) n := by
      rw [← sumN_neg']
      refine sumN_congr fun v _ => ?_
      rw [← sumN_neg']
      refine sumN_congr fun u _ => ?_
      have := hJ v u
      have := hJ' v u
      by_cases h : A v = true ∧ A u = true
      · rw [if_pos h, if_pos ⟨h.2, h.1⟩]; omega
      · rw [if_neg h, if_neg fun h3 => h ⟨h3.2, h3.1⟩]; rfl
    omega
  have outer : sumN (fun v => sumN (fun u => if A v = true ∧ A u = false then T' u v - T u v else 0) n) n = sumN (fun v => sumN (fun u => if A v = true ∧ A u = false then joinE es v u * (s u - s v) else 0) n) n := by
    have hall : sumN (fun v => if A v = true then (inL n es o').getD v 0 - (inL n es o).getD v 0 else 0) n = sumN (fun v => if A v = true then lapF n (joinE es) s v else 0) n := sumN_congr fun v hv => by
      have := hs v hv
      split <;> omega
    rw [flowF (mg_of hg hp) s A] at hall
    have hl : sumN (fun v => if A v = true then (inL n es o').getD v 0 - (inL n es o).getD v 0 else 0) n = sumN (fun v => sumN (fun u => (if A v = true ∧ A u = true then T' u v - T u v else 0) + if A v = true ∧ A u = false then T' u v - T u v else 0) n) n := sumN_congr fun v hv => by
      cases hAv : A v
      · simp [sumN_zero]
      · rw [if_pos rfl, hi' v hv, hi v hv, ← sumN_sub']
        refine sumN_congr fun u _ => ?_
        cases A u <;> simp
    rw [hl, show sumN (fun v => sumN (fun u => (if A v = true ∧ A u = true then T' u v - T u v else 0) + if A v = true ∧ A u = false then T' u v - T u v else 0) n) n = sumN (fun v => sumN (fun u => if A v = true ∧ A u = true then T' u v - T u v else 0) n + sumN (fun u => if A v = true ∧ A u = false then T' u v - T u v else 0) n) n from sumN_congr fun v _ => sumN_add _ _ _, sumN_add, inner] at hall
    omega
  have hzero : sumN (fun v => sumN (fun u => if A v = true ∧ A u = false then T' u v + T v u else 0) n) n ≤ 0 := by
    have h1 : sumN (fun v => sumN (fun u => if A v = true ∧ A u = false then T' u v + T v u else 0) n) n ≤ sumN (fun v => sumN (fun u => (if A v = true ∧ A u = false then T' u v - T u v else 0) - if A v = true ∧ A u = false then joinE es v u * (s u - s v) else 0) n) n := sumN_le fun v hv => sumN_le fun u hu => by
      by_cases h : A v = true ∧ A u = false
      · rw [if_pos h, if_pos h, if_pos h]
        have h2 := hA v u hv hu h.1 h.2
        have h3 := (joinE_bd hg v u).1
        have h4 := Int.mul_le_mul_of_nonneg_left h2 h3
        have h5 := hJ v u
        omega
      · rw [if_neg h, if_neg h, if_neg h]; omega
    rw [show sumN (fun v => sumN (fun u => (if A v = true ∧ A u = false then T' u v - T u v else 0) - if A v = true ∧ A u = false then joinE es v u * (s u - s v) else 0) n) n = sumN (fun v => sumN (fun u => if A v = true ∧ A u = false then T' u v - T u v else 0) n - sumN (fun u => if A v = true ∧ A u = false then joinE es v u * (s u - s v) else 0) n) n from sumN_congr fun v _ => sumN_sub' _ _ _, sumN_sub', outer] at h1
    omega
  intro v u hv hu hAv hAu
  have h1 := sumN_term (f := fun v => sumN (fun u => if A v = true ∧ A u = false then T' u v + T v u else 0) n) (k := n) (v := v) (fun v _ => sumN_nonneg fun u _ => by
    have := h0 v u
    have := h0' u v
    split <;> omega) hv
  have h2 := sumN_term (f := fun u => if A v = true ∧ A u = false then T' u v + T v u else 0) (k := n) (v := u) (fun u _ => by
    have := h0 v u
    have := h0' u v
    split <;> omega) hu
  rw [if_pos ⟨hAv, hAu⟩] at h2
  have := h0 v u
  have := h0' u v
  omega
/-- Orientations whose divisors are equivalent are reached by turning cuts. -/
theorem equi_reach (hp : partsN es n = 1) {o' : List Bool} (hol' : o'.length = (endsL es).length) {b : Int} : ∀ (k : Nat) {o : List Bool} {s : Nat → Int}, o.length = (endsL es).length → (∀ v, v < n → b ≤ s v) → sumN (fun v => s v - b) n = k →
    (∀ v, v < n → (inL n es o').getD v 0 = (inL n es o).getD v 0 + lapF n (joinE es) s v) → ReachD n (endsL es).length es (inL n es o) (inL n es o') := by
  intro k
  induction k using Nat.strongRecOn with
  | ind k ih =>
    intro o s hol hb hk hs
    have hM := mg_of hg hp
    have hn1 := hg.n1
    obtain ⟨m, hm, hmax⟩ := exists_max s n (by omega)
    by_cases hall : ∀ v, v < n → s v = s m
    · have e : inL n es o' = inL n es o := by
        refine List.ext_getElem (by rw [inL_len, inL_len]) fun i h1 h2 => ?_
        rw [inL_len] at h1
        have := hs i h1
        rw [lapF_congr (t := fun _ => 0) (c := s m) h1 (fun u hu => by rw [hall u hu]; omega), lapF_zero, getD_get (by rw [inL_len]; exact h1), getD_get (by rw [inL_len]; exact h1)] at this
        omega
      rw [e]
      exact .refl
    · obtain ⟨y, hy, hym⟩ : ∃ y, y < n ∧ s y ≠ s m := Classical.byContradiction fun h => hall fun v hv => Classical.byContradiction fun h2 => h ⟨v, hv, h2⟩
      obtain ⟨j, hj, hjA⟩ := setM_all (n := n) fun v => decide (s v = s m)
      have hAm : mkB (setM n j) (m : Int) = true := by rw [hjA m hm]; simp
      have hAy : mkB (setM n j) (y : Int) = false := by rw [hjA y hy]; simpa using hym
      have hin := top_in hg hlp hp hol hol' hs (A := fun v => mkB (setM n j) (v : Int)) fun v u hv hu hAv hAu => by
        rw [hjA v hv, decide_eq_true_eq] at hAv
        rw [hjA u hu, decide_eq_false_iff_not] at hAu
        have := hmax u hu
        omega
      have hout : outN (mkB (setM n j)) (arwsL es o) = 0 := by
        unfold outN
        rw [List.countP_eq_zero]
        intro p hpL hc
        obtain ⟨⟨a1, a2⟩, a3, a4⟩ := arws_mem hg hol p hpL
        obtain ⟨v, hv⟩ : ∃ v : Nat, p.1 = v := ⟨p.1.toNat, by omega⟩
        obtain ⟨u, hu⟩ : ∃ u : Nat, p.2 = u := ⟨p.2.toNat, by omega⟩
        simp only [outB, hv, hu, Bool.and_eq_true, Bool.not_eq_true'] at hc
        have h1 := hin v u (by omega) (by omega) hc.1 hc.2
        have h2 := arcN_pos.2 (show ((v : Int), (u : Int)) ∈ arwsL es o by rw [← hv, ← hu]; exact hpL)
        omega
      have hint : 0 < intN (mkB (setM n j)) (arwsL es o) := by
        obtain ⟨v, u, hv, hu, hAv, hAu, hJ⟩ := edge_out hg hp (fun v => mkB (setM n j) (v : Int)) hm hy hAm hAy
        have h1 := hin v u hv hu hAv hAu
        have h2 := arcs_join hg hlp hol v u
        have h3 := arcN_pos.1 (show 1 ≤ arcN (arwsL es o) u v by omega)
        unfold intN
        rw [List.countP_pos_iff]
        exact ⟨_, h3, by simp only [intB, Bool.and_eq_true, Bool.not_eq_true']; exact ⟨hAv, hAu⟩⟩
      have hw : wayP (mkB (setM n j)) es o = -1 := by
        unfold wayP wayN
        rw [hout, if_neg (by omega), if_pos ⟨hint, rfl⟩]
      obtain ⟨o1, ho1⟩ : ∃ o1, o1 = turnL es (setM n j) o := ⟨_, rfl⟩
      have hol1 : o1.length = (endsL es).length := by rw [ho1]; exact turnL_len hol
      have hturn := fun v (hv : v < n) => turn_lap hg hlp hol hw (by omega) hv
      rw [← ho1] at hturn
      have hstep : ReachD n (endsL es).length es (inL n es o) (inL n es o1) := .step .refl ⟨o, hol, rfl, j, hj, by rw [hw]; omega, by rw [ho1]⟩
      obtain ⟨c, hc⟩ : ∃ c : Nat → Int, c = fun u : Nat => if mkB (setM n j) (u : Int) = true then (1 : Int) else 0 := ⟨_, rfl⟩
      have hcm : c m = 1 := by rw [hc]; dsimp only; rw [if_pos hAm]
      have hc0 : ∀ u, 0 ≤ c u ∧ c u ≤ 1 := fun u => by rw [hc]; dsimp only; split <;> omega
      have hsum : 1 ≤ sumN c n := by
        have := sumN_term (f := c) (k := n) (v := m) (fun u _ => (hc0 u).1) hm
        omega
      have hk2 : sumN (fun v => (s v - c v) - b) n = (k : Int) - sumN c n := by
        rw [← hk, ← sumN_sub']
        exact sumN_congr fun v _ => by omega
      have hb2 : ∀ v, v < n → b ≤ s v - c v := fun v hv => by
        by_cases h : s v = s m
        · have h1 := hb y hy
          have h2 := hmax y hy
          have := (hc0 v).2
          omega
        · have : c v = 0 := by
            rw [hc]; dsimp only
            rw [if_neg (by rw [hjA v hv]; simpa using h)]
          have := hb v hv
          omega
      have hnn : 0 ≤ sumN (fun v => (s v - c v) - b) n := sumN_nonneg fun v hv => by have := hb2 v hv; omega
      have hrest := ih ((k : Int) - sumN c n).toNat (by omega) (o := o1) (s := fun v => s v - c v) hol1 hb2 (by rw [hk2]; omega) fun v hv => by
        rw [hs v hv, hturn v hv]
        have e1 : lapF n (joinE es) (fun u => if mkB (setM n j) (u : Int) = true then -(-1) else 0) v = lapF n (joinE es) c v := by rw [hc]; rfl
        have e2 : lapF n (joinE es) (fun u => s u - c u) v = lapF n (joinE es) s v - lapF n (joinE es) c v := by
          have := lapF_add (n := n) (J := joinE es) (fun u => s u - c u) c v
          rw [lapF_congr (n := n) (J := joinE es) (s := fun u => s u - c u + c u) (t := s) (c := 0) hv (fun u _ => by omega)] at this
          omega
        rw [e1, e2]
        omega
      have trans : ∀ {a b' c' : List Int}, ReachD n (endsL es).length es a b' → ReachD n (endsL es).length es b' c' → ReachD n (endsL es).length es a c' := by
        intro a b' c' h1 h2
        induction h2 with
        | refl => exact h1
        | step _ s ih => exact .step ih s
      exact trans hstep hrest
theorem reach_iff (hp : partsN es n = 1) {o o' : List Bool} (hol : o.length = (endsL es).length) (hol' : o'.length = (endsL es).length) : ReachD n (endsL es).length es (inL n es o) (inL n es o') ↔ Equi n (joinE es) (fun v => (divL n es o).getD v 0) (fun v => (divL n es o').getD v 0) := by
  have hdv : ∀ (o : List Bool) v, v < n → (divL n es o).getD v 0 = (inL n es o).getD v 0 - 1 := fun o v hv => by
    unfold divL
    rw [List.getD_eq_getElem?_getD, List.getElem?_map, List.getElem?_eq_getElem (by rw [inL_len]; exact hv), List.getD_eq_getElem?_getD, List.getElem?_eq_getElem (by rw [inL_len]; exact hv)]
    rfl
  constructor
  · intro h
    have h1 := (reach_equi hg hlp h).sub fun _ => 1
    exact ((Equi.of_eq fun v hv => by rw [hdv o v hv]).trans h1).trans (Equi.of_eq fun v hv => by rw [hdv o' v hv])
  · rintro ⟨s, hs⟩
    obtain ⟨b, hb⟩ : ∃ b : Int, ∀ v, v < n → b ≤ s v := by
      have hn1 := hg.n1
      obtain ⟨m, _, hm⟩ := exists_max (fun u => - s u) n (by omega)
      exact ⟨s m, fun v hv => by have := hm v hv; omega⟩
    have hnn : 0 ≤ sumN (fun v => s v - b) n := sumN_nonneg fun v hv => by have := hb v hv; omega
    refine equi_reach hg hlp hp hol' (sumN (fun v => s v - b) n).toNat hol hb (by omega) fun v hv => ?_
    have := hs v hv
    dsimp only at this
    rw [hdv o v hv, hdv o' v hv] at this
    omega
end
end Go.Proofs.Ytgbmdikkdjogpaa
end
section
set_option linter.unusedSimpArgs false
set_option linter.unusedVariables false
namespace Go.Proofs.Ytgbmdikkdjogpaa
open Go.Abs Go.Sand
def burnC (es : List Ed) (d : List Int) (b : List Bool) (v : Nat) : Bool := !b.getD v false && decide (d.getD v 0 < joinsF v (fun u => b.getD u.toNat false) es)
def burn1 (es : List Ed) (d : List Int) (b : List Bool) (v : Nat) : List Bool := if burnC es d b v = true then b.set v true else b
/-- The first vertices have been asked, and burn if they have to. -/
def passB (es : List Ed) (d : List Int) (b : List Bool) : Nat → List Bool
  | 0 => b
  | k + 1 => burn1 es d (passB es d b k) k
def chgB (es : List Ed) (d : List Int) (b : List Bool) : Nat → Bool
  | 0 => false
  | k + 1 => chgB es d b k || burnC es d (passB es d b k) k
/-- What burns behind so many rounds. -/
def bS (n : Nat) (es : List Ed) (q : Nat) (d : List Int) : Nat → List Bool
  | 0 => (List.replicate n false).set q true
  | k + 1 => passB es d (bS n es q d k) n
def agB (n : Nat) (es : List Ed) (q : Nat) (d : List Int) : Nat → Bool
  | 0 => true
  | k + 1 => chgB es d (bS n es q d k) n
theorem burn1_len (es : List Ed) (d : List Int) (b : List Bool) (v : Nat) : (burn1 es d b v).length = b.length := by unfold burn1; split <;> simp
theorem passB_len (es : List Ed) (d : List Int) (b : List Bool) : ∀ k, (passB es d b k).length = b.length
  | 0 => rfl
  | k + 1 => by rw [passB, burn1_len, passB_len]
theorem bS_len (n : Nat) (es : List Ed) (q : Nat) (d : List Int) : ∀ k, (bS n es q d k).length = n
  | 0 => by simp [bS]
  | k + 1 => by rw [bS, passB_len, bS_len]
/-- How many burn. -/
def cntT (b : List Bool) : Nat := b.count true
theorem cntT_set {b : List Bool} {v : Nat} (hv : v < b.length) (h : b.getD v false = false) : cntT (b.set v true) = cntT b + 1 := by
  have hb : b[v] = false := by rw [← h]; simp [List.getD, hv]
  unfold cntT
  rw [List.count_set hv, hb]
  simp
theorem pass_cnt {es : List Ed} {d : List Int} {b : List Bool} : ∀ {k : Nat}, k ≤ b.length → cntT b ≤ cntT (passB es d b k) ∧ (chgB es d b k = true → cntT b < cntT (passB es d b k))
  | 0, _ => ⟨Nat.le_refl _, fun h => by cases h⟩
  | k + 1, hk => by
    obtain ⟨h1, h2⟩ := pass_cnt (es := es) (d := d) (b := b) (k := k) (by omega)
    rw [passB, chgB, burn1]
    cases hc : burnC es d (passB es d b k) k with
    | false =>
      simp only [Bool.or_false, Bool.false_eq_true, if_false]
      exact ⟨h1, h2⟩
    | true =>
      have hc' := hc
      simp only [burnC, Bool.and_eq_true, Bool.not_eq_true'] at hc'
      simp only [if_true]
      rw [cntT_set (by rw [passB_len]; omega) hc'.1]
      exact ⟨by omega, fun _ => by omega⟩
theorem bS_cnt {n : Nat} {es : List Ed} {q : Nat} {d : List Int} (hq : q < n) : ∀ k, (∀ j, j < k → agB n es q d (j + 1) = true) → k + 1 ≤ cntT (bS n es q d k)
  | 0, _ => by
    rw [bS, cntT_set (by simpa using hq) (by simp [List.getD_eq_getElem?_getD, hq])]
    omega
  | k + 1, h => by
    have ih := bS_cnt hq k fun j hj => h j (by omega)
    have h1 := (pass_cnt (es := es) (d := d) (b := bS n es q d k) (k := n) (by rw [bS_len]; omega)).2 (h k (by omega))
    rw [bS]; omega
theorem cntT_le (b : List Bool) : cntT b ≤ b.length := List.count_le_length
/-- The objects of a divisor's state. -/
abbrev stH (n : Nat) (es : List Ed) (q : Nat) (d s : List Int) (e : Int) : List AO :=
  [.box (.p (G n es)), .box (.agg [.p (.i n), .p (.sl (es.map edP)), .p (.i q), .os 2 0 n, .os 3 0 n, .p (.i e)]), .row (d.map PV.i) 1 3 false, .row (s.map PV.i) 1 3 false]
theorem ub1_ok {n : Nat} {b : List Bool} (hb : b.length = n) (u : Int) (H : List AO) (K : AV → List AO → Prop) (h0 : 0 ≤ u) (hu : u < n) (hK : K (.b (b.getD u.toNat false)) H) : HC Try.prog false 85 [.i u, .sp (.agg [.bo b]) 0] H K := by
  obtain ⟨v, rfl⟩ : ∃ v : Nat, u = v := ⟨u.toNat, by omega⟩
  have hv : v < b.length := by omega
  rw [Int.toNat_natCast, show b.getD v false = b[v] by simp [List.getD, hv]] at hK
  refine HC_of_W (af := _) ((by exact cfn85 : cfn _ _ _ = some _)) ?_
  simp -implicitDefEqProofs (disch := omega) [c85, List.getElem?_cons_zero, List.getElem?_cons_succ, wrap_id, hv]
  exact finH trivial rfl hK
theorem st_view {n : Nat} {es : List Ed} {q : Nat} {d s : List Int} {e : Int} {Z : List AO} (hd : d.length = n) (hs : s.length = n) :
    view (stH n es q d s e ++ Z) (.agg [.p (.i n), .p (.sl (es.map edP)), .p (.i q), .os 2 0 n, .os 3 0 n, .p (.i e)]) = some (.agg [.i n, .sl (es.map edP), .i q, .is d, .is s, .i e]) := by
  simp [view, viewL, viewC, ownEls, stH, hd, hs, PV.one, scalar]
theorem bx_view {n : Nat} {H : List AO} {b : List Bool} {r : Nat} (hr : H[r]? = some (rowB b)) (hb : b.length = n) : view H (.agg [.os r 0 n]) = some (.agg [.bo b]) := by
  simp [view, viewL, viewC, ownEls, hr, hb, PV.one]
theorem ub_joins {n : Nat} {es : List Ed} (hr : ∀ x ∈ es, Right n x) (hn : n ≤ 12) (hel : es.length ≤ 1000) {v : Int} (hv : 0 ≤ v ∧ v < n) {q : Nat} {d s : List Int} {er : Int} (hd : d.length = n) (hs : s.length = n) {b : List Bool} (hb : b.length = n) {e : Bool} {K : AV → List AO → Prop}
    {Z : List AO} (hK : K (.i (joinsF v (fun u => b.getD u.toNat false) es)) (stH n es q d s er ++ rowB b :: .box (.os 4 0 n) :: Z)) :
    HC Try.prog e 72 [.ptr 1 1 0 0, .i v, .fn (.func 85) [] [.ptr 5 1 0 0]] (stH n es q d s er ++ rowB b :: .box (.os 4 0 n) :: Z) K := by
  refine HC_ro (args' := [.sp (.agg [.i n, .sl (es.map edP), .i q, .is d, .is s, .i er]) 0, .i v, .fn (.func 85) [] [.sp (.agg [.bo b]) 0]])
    [.agg [.p (.i n), .p (.sl (es.map edP)), .p (.i q), .os 2 0 n, .os 3 0 n, .p (.i er)], .bs 1 0 0, .i v, .agg [.os 4 0 n], .bs 5 0 0] cfn72 rfl (fun i hi hi' => ?_) rfl
    (joins_W hr hn hel hv (by kernel_rfl) (fun u H K h0 hu hK => ub1_ok hb u H K h0 hu hK)) hK
  match i, hi with
  | 0, _ => exact .ptr 1 0 (.agg [.p (.i n), .p (.sl (es.map edP)), .p (.i q), .os 2 0 n, .os 3 0 n, .p (.i er)]) _ rfl (st_view hd hs) (by simp [AV.flat]) (by simp)
  | 1, _ => exact .p (.i v) (.i v) rfl (by simp)
  | 2, _ =>
    refine .fn _ _ _ rfl fun j hj hj' => ?_
    match j, hj with
    | 0, _ => exact .ptr 5 0 (.os 4 0 n) [.bo b] rfl (bx_view rfl hb) (by simp [AV.flat]) (by simp)
/-- What has not burnt, as far as it is written. -/
def notK (n : Nat) (b : List Bool) (i : Nat) : List Bool := (b.take i).map (!·) ++ List.replicate (n - i) false
theorem notK_len {n : Nat} {b : List Bool} {i : Nat} (hi : i ≤ n) (hb : b.length = n) : (notK n b i).length = n := by
  simp [notK]; omega
theorem notK_set {n : Nat} {b : List Bool} {i : Nat} (h : i < b.length) (hb : b.length = n) : (notK n b i).set i (!b[i]) = notK n b (i + 1) := by
  have hl : ((b.take i).map (!·)).length = i := by simp; omega
  unfold notK
  rw [show n - i = (n - (i + 1)) + 1 by omega, List.replicate_succ, List.set_append_right _ _ (by omega), hl, Nat.sub_self, List.set_cons_zero,
    List.take_succ_eq_append_getElem h, List.map_append, List.append_assoc]
  rfl
section
variable {n : Nat} {es : List Ed} (hr : ∀ x ∈ es, Right n x) (hn : n ≤ 12) (hel : es.length ≤ 1000) {q : Nat} (hq : q < n) {d s : List Int} {er : Int} (hd : d.length = n) (hs : s.length = n)
include hr hn hel hq hd hs
theorem unburnt_hc {K : AV → List AO → Prop} (hK : ∀ k, agB n es q d k = false → (∀ j, j < k → agB n es q d j = true) → K (.tup [.os 4 0 n, .b ((bS n es q d k).any (!·))]) (stH n es q d s er ++ [rowB ((bS n es q d k).map (!·))])) :
    HC Try.prog false 74 [.ptr 1 1 0 0] (stH n es q d s er) K := by
  have hn2 : n ≤ 1048576 := by omega
  refine HC_norm ?_
  refine HC_of_W (af := _) ((by exact cfn74 : cfn _ _ _ = some _)) ?_
  simp -implicitDefEqProofs (disch := omega) [c74, List.getElem?_cons_zero, List.getElem?_cons_succ, wrap_id, hn2, hq]
  have hB0 : rowB (bS n es q d 0) = .row ((List.replicate n (PV.v (.bool false))).set q (PV.v (.bool true))) 1 4 false := by
    rw [bS, rowB, List.map_set, List.map_replicate]
  refine loopW (n + 1) (fun k st => (∀ j, j < k → agB n es q d j = true) ∧ st = ⟨[(6, .b (agB n es q d k)), (0, .ptr 1 1 0 0), (4, .ptr 5 1 0 0), (5, .fn (.func 85) [] [.ptr 5 1 0 0])], [.box (.p (G n es)), .box (.agg [.p (.i n), .p (.sl (es.map edP)), .p (.i q), .os 2 0 n, .os 3 0 n, .p (.i er)]), .row (d.map PV.i) 1 3 false, .row (s.map PV.i) 1 3 false, rowB (bS n es q d k), .box (.os 4 0 n)]⟩)
    (wk_norm [0, 1, 2, 3, 4, 5] [6, 0, 4, 5] rfl rfl) ⟨fun j h => by omega, by rw [hB0]; rfl⟩ ?_
  rintro k st hk ⟨hag, rfl⟩
  cases hak : agB n es q d k with
  | true =>
    have hcnt : k ≤ n := by
      cases k with
      | zero => omega
      | succ k =>
        have h1 := bS_cnt (es := es) (d := d) hq (k + 1) fun j hj => by
          rcases Nat.lt_or_ge (j + 1) (k + 1) with h | h
          · exact hag (j + 1) h
          · have e : j = k := by omega
            subst e; exact hak
        have h2 := cntT_le (bS n es q d (k + 1))
        rw [bS_len] at h2
        omega
    have hbl := bS_len n es q d k
    simp -implicitDefEqProofs (disch := omega) [List.getElem?_cons_zero, List.getElem?_cons_succ, wrap_id]
    refine loopW n (fun v st => st = ⟨[(30, .i v), (29, .i n), (6, .b (chgB es d (bS n es q d k) v)), (0, .ptr 1 1 0 0), (4, .ptr 5 1 0 0), (5, .fn (.func 85) [] [.ptr 5 1 0 0])], [.box (.p (G n es)), .box (.agg [.p (.i n), .p (.sl (es.map edP)), .p (.i q), .os 2 0 n, .os 3 0 n, .p (.i er)]), .row (d.map PV.i) 1 3 false, .row (s.map PV.i) 1 3 false, rowB (passB es d (bS n es q d k) v), .box (.os 4 0 n)]⟩)
      (wk_norm [0, 1, 2, 3, 4, 5] [30, 29, 6, 0, 4, 5] rfl rfl) rfl ?_
    rintro v st hv rfl
    by_cases hvt : v < n
    rotate_left
    · have hvn : v = n := by omega
      subst hvn
      simp -implicitDefEqProofs (disch := omega) [List.getElem?_cons_zero, List.getElem?_cons_succ, wrap_id]
      exact round_end [0, 1, 2, 3, 4, 5] [6, 0, 4, 5] (by omega) rfl ⟨fun j hj => by
        rcases Nat.lt_or_ge j k with h | h
        · exact hag j h
        · have e : j = k := by omega
          subst e; exact hak, rfl⟩
    have hpl : (passB es d (bS n es q d k) v).length = n := by rw [passB_len, hbl]
    have hcs : chgB es d (bS n es q d k) (v + 1) = (chgB es d (bS n es q d k) v || burnC es d (passB es d (bS n es q d k) v) v) := rfl
    have hps : passB es d (bS n es q d k) (v + 1) = burn1 es d (passB es d (bS n es q d k) v) v := rfl
    obtain ⟨b, hb⟩ : ∃ b, b = passB es d (bS n es q d k) v := ⟨_, rfl⟩
    obtain ⟨c, hc⟩ : ∃ c, c = chgB es d (bS n es q d k) v := ⟨_, rfl⟩
    rw [← hb] at hpl hcs hps ⊢
    rw [← hc] at hcs ⊢
    have hvb : v < b.length := by omega
    have hvd : v < d.length := by omega
    have hgb : b.getD v false = b[v] := by simp [List.getD, hvb]
    have hgd : d.getD v 0 = d[v] := getD_get hvd
    cases hbv : b[v] with
    | true =>
      have hbc : burnC es d b v = false := by rw [burnC, hgb, hbv]; rfl
      rw [hbc, Bool.or_false] at hcs
      rw [burn1, hbc] at hps
      simp only [Bool.false_eq_true, if_false] at hps
      simp -implicitDefEqProofs (disch := omega) [List.getElem?_cons_zero, List.getElem?_cons_succ, wrap_id, hvt, hvb, hpl, hbv]
      exact round_end [0, 1, 2, 3, 4, 5] [30, 29, 6, 0, 4, 5] hvt rfl (by show _ = _; rw [hcs, hps]; rfl)
    | false =>
      simp -implicitDefEqProofs (disch := omega) [List.getElem?_cons_zero, List.getElem?_cons_succ, wrap_id, hvt, hvb, hpl, hbv, hvd, hd]
      refine ub_joins (Z := []) hr hn hel (by omega) hd hs hpl ?_
      obtain ⟨jn, hjn⟩ : ∃ jn, jn = joinsF v (fun u => b.getD u.toNat false) es := ⟨_, rfl⟩
      rw [← hjn]
      by_cases hlt : d[v] < jn
      · have hbc : burnC es d b v = true := by rw [burnC, hgb, hbv, hgd, ← hjn]; simp [hlt]
        rw [hbc, Bool.or_true] at hcs
        rw [burn1, hbc] at hps
        simp only [if_true] at hps
        have hset : AO.row ((b.map PV.b).set v (PV.v (.bool true))) 1 4 false = rowB (b.set v true) := by rw [rowB, List.map_set]
        simp -implicitDefEqProofs (disch := omega) [List.getElem?_cons_zero, List.getElem?_cons_succ, wrap_id, hlt, hvt, hvb, hpl, hset]
        exact round_end [0, 1, 2, 3, 4, 5] [30, 29, 6, 0, 4, 5] hvt rfl (by show _ = _; rw [hcs, hps]; rfl)
      · have hbc : burnC es d b v = false := by rw [burnC, hgb, hbv, hgd, ← hjn]; simp [hlt]
        rw [hbc, Bool.or_false] at hcs
        rw [burn1, hbc] at hps
        simp only [Bool.false_eq_true, if_false] at hps
        simp -implicitDefEqProofs (disch := omega) [List.getElem?_cons_zero, List.getElem?_cons_succ, wrap_id, hlt]
        exact round_end [0, 1, 2, 3, 4, 5] [30, 29, 6, 0, 4, 5] hvt rfl (by show _ = _; rw [hcs, hps]; rfl)
  | false =>
    have hKk := hK k hak hag
    have hbl := bS_len n es q d k
    obtain ⟨b, hb⟩ : ∃ b, b = bS n es q d k := ⟨_, rfl⟩
    rw [← hb] at hKk hbl ⊢
    have hN0 : rowB (notK n b 0) = .row (List.replicate n (PV.v (.bool false))) 1 4 false := by rw [notK, rowB]; simp
    simp -implicitDefEqProofs (disch := omega) [List.getElem?_cons_zero, List.getElem?_cons_succ, wrap_id, hn2, hbl]
    refine loopW n (fun i st => st = ⟨[(64, .i i), (63, .i n), (9, .b ((b.take i).any (!·))), (8, .os 6 0 n), (4, .ptr 5 1 0 0)], [.box (.p (G n es)), .box (.agg [.p (.i n), .p (.sl (es.map edP)), .p (.i q), .os 2 0 n, .os 3 0 n, .p (.i er)]), .row (d.map PV.i) 1 3 false, .row (s.map PV.i) 1 3 false, rowB b, .box (.os 4 0 n), rowB (notK n b i)]⟩)
      (wk_norm [0, 1, 2, 3, 4, 5, 6] [64, 63, 9, 8, 4] rfl rfl) (by show _ = _; rw [hN0]; rfl) ?_
    rintro i st hi rfl
    by_cases hit : i < n
    rotate_left
    · have hin : i = n := by omega
      subst hin
      have e1 : b.take i = b := by rw [← hbl]; exact List.take_length
      have e2 : notK i b i = b.map (!·) := by rw [notK, e1]; simp
      rw [e1, e2]
      simp -implicitDefEqProofs (disch := omega) [List.getElem?_cons_zero, List.getElem?_cons_succ, wrap_id]
      exact finH trivial rfl ⟨[0, 1, 2, 3, 6], rfl, hKk⟩
    have hib : i < b.length := by omega
    have hs1 := notK_set (n := n) hib hbl
    have hnl := notK_len (n := n) (b := b) hi hbl
    have hnl1 := notK_len (n := n) (b := b) (i := i + 1) (by omega) hbl
    have hgi : ∀ h, (notK n b (i + 1))[i]'h = !b[i] := fun h => by simp only [← hs1, List.getElem_set_self]
    have hany : (b.take (i + 1)).any (!·) = ((b.take i).any (!·) || !b[i]) := by
      rw [List.take_succ_eq_append_getElem hib, List.any_append]; simp
    have hset : AO.row (((notK n b i).map PV.b).set i (PV.v (.bool (!b[i])))) 1 4 false = rowB (notK n b (i + 1)) := by rw [← hs1, rowB, List.map_set]
    cases ha : (b.take i).any (!·)
    · rw [ha, Bool.false_or] at hany
      simp -implicitDefEqProofs (disch := omega) [List.getElem?_cons_zero, List.getElem?_cons_succ, wrap_id, hit, hib, hbl, hnl, hset, hnl1, hgi]
      exact round_end [0, 1, 2, 3, 4, 5, 6] [64, 63, 9, 8, 4] hit rfl (by show _ = _; rw [hany]; rfl)
    · rw [ha, Bool.true_or] at hany
      simp -implicitDefEqProofs (disch := omega) [List.getElem?_cons_zero, List.getElem?_cons_succ, wrap_id, hit, hib, hbl, hnl, hset, hnl1, hgi]
      exact round_end [0, 1, 2, 3, 4, 5, 6] [64, 63, 9, 8, 4] hit rfl (by show _ = _; rw [hany]; rfl)
end
end Go.Proofs.Ytgbmdikkdjogpaa
end
section
set_option linter.unusedSimpArgs false
set_option linter.unusedVariables false
namespace Go.Proofs.Ytgbmdikkdjogpaa
open Go.Abs Go.Sand
section
variable (P : Program) (m0 : Nat) (a : AC)
/-- A loop that ends within so many rounds. -/
def LoopN : Nat → (AExit → St → Prop) → St → Prop
  | 0, _, _ => False
  | n + 1, Q, s => W P m0 a (fun e s1 => match e with
    | .normal => LoopN n Q s1
    | e => Q e s1) s
def LoopK (n : Nat) (Q : AExit → St → Prop) (e : AExit) (s : St) : Prop := match e with
  | .normal => LoopN P m0 a n Q s
  | e => Q e s
end
section
variable {P : Program} {m0 : Nat} {a : AC} {n : Nat} {Q : AExit → St → Prop} {s : St}
theorem LoopN_succ : LoopN P m0 a (n + 1) Q s = W P m0 a (LoopK P m0 a n Q) s := rfl
theorem LoopK_ret : LoopK P m0 a n Q .ret s = Q .ret s := rfl
theorem loopN_at (n : Nat) (h : LoopN P m0 a n Q s) : LoopAt P m0 a Q s := by
  refine ⟨fun n s => LoopN P m0 a n Q s, ⟨n, s, Wk.refl _ _, h⟩, fun n s h => ?_⟩
  cases n with
  | zero => exact h.elim
  | succ n =>
    refine W_mono a (fun e s1 h1 => ?_) s h
    cases e with
    | normal => exact ⟨n, s1, Wk.refl _ _, h1, Nat.lt_succ_self n⟩
    | exit i => exact h1
    | ret => exact h1
end
attribute [local simp] LoopN_succ LoopK_ret
theorem mul64_ok (n : Nat) (hn : n ≤ 12) : PC Try.prog 96 [.v (.int .u64 1), .v (.int .u64 n)] (.tup [.p (.v (.int .u64 0)), .p (.v (.int .u64 n))]) [] := by
  have h : n = 0 ∨ n = 1 ∨ n = 2 ∨ n = 3 ∨ n = 4 ∨ n = 5 ∨ n = 6 ∨ n = 7 ∨ n = 8 ∨ n = 9 ∨ n = 10 ∨ n = 11 ∨ n = 12 := by omega
  rcases h with rfl | rfl | rfl | rfl | rfl | rfl | rfl | rfl | rfl | rfl | rfl | rfl | rfl
  all_goals
    refine PC_of_W cfn96 ?_
    simp -implicitDefEqProofs (disch := omega) [c96, List.getElem?_cons_zero, List.getElem?_cons_succ, wrap_id]
    (refine fin0 trivial rfl ?_; simp -implicitDefEqProofs (disch := omega) [List.getElem?_cons_zero, List.getElem?_cons_succ, idx, wrap_id])
    exact ⟨by kernel_rfl, by kernel_rfl⟩
theorem mul_ok (n : Nat) (hn : n ≤ 12) : PC Try.prog 92 [.v (.int .u64 1), .v (.int .u64 n)] (.tup [.p (.v (.int .u64 0)), .p (.v (.int .u64 n))]) [] := by
  refine PC_of_W cfn92 ?_
  simp -implicitDefEqProofs (disch := omega) [c92, List.getElem?_cons_zero, List.getElem?_cons_succ, wrap_id]
  refine HC_of_PC rfl (mul64_ok n hn) ?_
  simp -implicitDefEqProofs (disch := omega) [List.getElem?_cons_zero, List.getElem?_cons_succ, wrap_id]
  (refine fin0 trivial rfl ?_; simp -implicitDefEqProofs (disch := omega) [List.getElem?_cons_zero, List.getElem?_cons_succ, idx, wrap_id])
end Go.Proofs.Ytgbmdikkdjogpaa
end
section
set_option linter.unusedSimpArgs false
set_option linter.unusedVariables false
namespace Go.Proofs.Ytgbmdikkdjogpaa
open Go.Abs Go.Sand
theorem rocheck_any (N : Int) (es : List Ed) (o : List Bool) (hel : es.length ≤ 1000) : PC Try.prog 6 [G N es, .bo o] (.i (oE N es o)) [] := by
  refine PC_of_W cfn6 ?_
  simp -implicitDefEqProofs (disch := omega) [c6, List.getElem?_cons_zero, List.getElem?_cons_succ, wrap_id]
  refine HC_of_PC rfl (rcheck_ok N es (by omega)) ?_
  by_cases h : gcheck N es = 0
  · have hgood := gcheck_ok h
    simp -implicitDefEqProofs (disch := omega) [List.getElem?_cons_zero, List.getElem?_cons_succ, wrap_id, h]
    refine HC_of_PC rfl (size_ok N es hgood.right hel) ?_
    by_cases h2 : o.length = (endsL es).length
    · have h2' : (o.length : Int) = (endsL es).length := by omega
      simp -implicitDefEqProofs (disch := omega) [List.getElem?_cons_zero, List.getElem?_cons_succ, wrap_id, h2']
      (refine fin0 trivial rfl ?_; simp -implicitDefEqProofs (disch := omega) [List.getElem?_cons_zero, List.getElem?_cons_succ, idx, wrap_id, oE, h, h2])
    · have h2' : ¬ (o.length : Int) = (endsL es).length := by omega
      simp -implicitDefEqProofs (disch := omega) [List.getElem?_cons_zero, List.getElem?_cons_succ, wrap_id, h2']
      (refine fin0 trivial rfl ?_; simp -implicitDefEqProofs (disch := omega) [List.getElem?_cons_zero, List.getElem?_cons_succ, idx, wrap_id, oE, h, h2])
  · simp -implicitDefEqProofs (disch := omega) [List.getElem?_cons_zero, List.getElem?_cons_succ, wrap_id, h]
    (refine fin0 trivial rfl ?_; simp -implicitDefEqProofs (disch := omega) [List.getElem?_cons_zero, List.getElem?_cons_succ, idx, wrap_id, oE, h])
theorem plain_at {N : Int} {es : List Ed} (h : plainB N es = true) : ∃ n : Nat, N = n ∧ connE n es = 0 ∧ GoodG n es ∧ es.any lpB = false ∧ es.length ≤ 40 ∧ (endsL es).length ≤ 7 ∧ 1 ≤ n ∧ n ≤ 5 := by
  simp only [plainB, Bool.and_eq_true, decide_eq_true_eq, Bool.not_eq_true'] at h
  obtain ⟨⟨hs, hc⟩, hl⟩ := h
  have hg := (conn_good hc).1
  have hgg := gcheck_ok hg
  have h1 := hgg.n1
  obtain ⟨n, rfl⟩ : ∃ n : Nat, N = n := ⟨N.toNat, by omega⟩
  have hel := smallG_len hs
  simp only [smallG, Bool.and_eq_true, Bool.or_eq_true, decide_eq_true_eq] at hs
  rcases hs.2 with h2 | h2
  · exact absurd hg h2
  · exact ⟨n, rfl, hc, hgg, hl, hel, by omega, by omega, by omega⟩
end Go.Proofs.Ytgbmdikkdjogpaa
end
section
set_option linter.unusedSimpArgs false
set_option linter.unusedVariables false
namespace Go.Proofs.Ytgbmdikkdjogpaa
open Go.Abs Go.Sand
def tri20 : List Ed := [⟨0, 1, 1⟩, ⟨0, 2, 1⟩, ⟨1, 2, 1⟩]
theorem tri20_ok : PC Try.prog 19 [] (.agg [.p (.i 3), .p (.sl (tri20.map edP))]) [] := by
  refine PC_of_W cfn19 ?_
  simp -implicitDefEqProofs (disch := omega) [c19, List.getElem?_cons_zero, List.getElem?_cons_succ, wrap_id]
  (refine fin0 trivial rfl ?_; simp -implicitDefEqProofs (disch := omega) [List.getElem?_cons_zero, List.getElem?_cons_succ, idx, wrap_id, tri20])
theorem div20_ok : PC Try.prog 9 [G 3 tri20, .bo [true, true, true]] (.tup [.os 0 0 3, .i 0]) [rowZ [-1, 0, 1]] := by
  have h := adivisor_ok 3 tri20 [true, true, true] (by decide) (by decide) (by decide +kernel)
  rwa [show divL 3 tri20 [true, true, true] = [-1, 0, 1] by decide +kernel] at h
theorem eq20_ok (xs ys : List Int) (hx : xs.length ≤ 4611686018427387904) : PC Try.prog 21 [.is xs, .is ys] (.b (decide (xs = ys))) [] := by
  refine PC_of_W cfn21 ?_
  by_cases hl : xs.length = ys.length
  rotate_left
  · have hne : xs ≠ ys := fun e => hl (by rw [e])
    have hl' : ¬ (xs.length : Int) = ys.length := by omega
    simp -implicitDefEqProofs (disch := omega) [c21, List.getElem?_cons_zero, List.getElem?_cons_succ, wrap_id, hl']
    (refine fin0 trivial rfl ?_; simp -implicitDefEqProofs (disch := omega) [List.getElem?_cons_zero, List.getElem?_cons_succ, idx, wrap_id, hne])
  have hl' : (xs.length : Int) = ys.length := by omega
  simp -implicitDefEqProofs (disch := omega) [c21, List.getElem?_cons_zero, List.getElem?_cons_succ, wrap_id, hl']
  refine loopW ys.length (fun k s => s = ⟨[(13, .i k), (12, .i ys.length), (0, .p (.is xs)), (1, .p (.is ys))], []⟩ ∧ xs.take k = ys.take k) (wk_norm [] [13, 12, 0, 1] rfl rfl) ⟨rfl, rfl⟩ ?_
  rintro k s hk ⟨rfl, hI⟩
  by_cases hlt' : k < ys.length
  · have hlt : k < xs.length := by omega
    by_cases h1 : xs[k] = ys[k]
    · simp -implicitDefEqProofs (disch := omega) [List.getElem?_cons_zero, List.getElem?_cons_succ, wrap_id, hlt, hlt', h1]
      exact round_end [] [13, 12, 0, 1] hlt' rfl ⟨rfl, by rw [List.take_succ_eq_append_getElem hlt, List.take_succ_eq_append_getElem hlt', hI, h1]⟩
    · have hne : xs ≠ ys := fun e => h1 (by subst e; rfl)
      simp -implicitDefEqProofs (disch := omega) [List.getElem?_cons_zero, List.getElem?_cons_succ, wrap_id, hlt, hlt', h1]
      (refine fin0 trivial rfl ?_; simp -implicitDefEqProofs (disch := omega) [List.getElem?_cons_zero, List.getElem?_cons_succ, idx, wrap_id, hne])
  · have heq : xs = ys := by rwa [List.take_of_length_le (by omega), List.take_of_length_le (by omega)] at hI
    simp -implicitDefEqProofs (disch := omega) [List.getElem?_cons_zero, List.getElem?_cons_succ, wrap_id, hlt']
    (refine fin0 trivial rfl ?_; simp -implicitDefEqProofs (disch := omega) [List.getElem?_cons_zero, List.getElem?_cons_succ, idx, wrap_id, heq])
theorem turned20_ok (hw : PC Try.prog 20 [G 3 tri20, .is [-1, 0, 1]] (.tup [.b false, .os 0 0 3, .os 1 0 3, .i 0]) [rowZ [-1, 0, 1], rowZ [0, 0, 0]]) : PC Try.prog 7 [] (.b true) [] := by
  refine PC_of_W cfn7 ?_
  simp -implicitDefEqProofs (disch := omega) [c7, List.getElem?_cons_zero, List.getElem?_cons_succ, wrap_id]
  refine HC_of_PC rfl (tri20_ok) ?_
  simp -implicitDefEqProofs (disch := omega) [List.getElem?_cons_zero, List.getElem?_cons_succ, wrap_id]
  refine HC_of_PC rfl (div20_ok) ?_
  simp -implicitDefEqProofs (disch := omega) [List.getElem?_cons_zero, List.getElem?_cons_succ, wrap_id]
  refine HC_of_PC rfl (tri20_ok) ?_
  simp -implicitDefEqProofs (disch := omega) [List.getElem?_cons_zero, List.getElem?_cons_succ, wrap_id]
  refine HC_of_PC rfl (hw) ?_
  simp -implicitDefEqProofs (disch := omega) [List.getElem?_cons_zero, List.getElem?_cons_succ, wrap_id]
  refine HC_of_PC rfl (eq20_ok [-1, 0, 1] [-1, 0, 1] (by decide)) ?_
  simp -implicitDefEqProofs (disch := omega) [List.getElem?_cons_zero, List.getElem?_cons_succ, wrap_id]
  (refine fin0 trivial rfl ?_; simp -implicitDefEqProofs (disch := omega) [List.getElem?_cons_zero, List.getElem?_cons_succ, idx, wrap_id])
theorem win20_ok (hr : PC Try.prog 33 [G 3 tri20, .i 0, .is [-1, 0, 1]] (.tup [.os 0 0 3, .os 1 0 3, .i 0]) [rowZ [-1, 0, 1], rowZ [0, 0, 0]]) :
    PC Try.prog 20 [G 3 tri20, .is [-1, 0, 1]] (.tup [.b false, .os 0 0 3, .os 1 0 3, .i 0]) [rowZ [-1, 0, 1], rowZ [0, 0, 0]] := by
  refine PC_of_W cfn20 ?_
  simp -implicitDefEqProofs (disch := omega) [c20, List.getElem?_cons_zero, List.getElem?_cons_succ, wrap_id]
  refine HC_of_PC rfl (hr) ?_
  simp -implicitDefEqProofs (disch := omega) [List.getElem?_cons_zero, List.getElem?_cons_succ, wrap_id]
  exact fin1 [1, 2] trivial rfl (by rfl) ⟨rfl, rfl⟩
theorem given20_ok (n : Nat) (es : List Ed) (hel : es.length ≤ 900) (hc : connE n es = 0) (q : Nat) (hq : q < n) (d : List Int) (hd : d.length ≤ 1000) : PC Try.prog 50 [G n es, .i q, .is d] (.i (dcheck d n)) [] := by
  obtain ⟨hg, hp⟩ := conn_good hc
  rw [Int.toNat_natCast] at hp
  have hr : (rootsL es n).length = 1 := hp
  refine PC_of_W cfn50 ?_
  simp -implicitDefEqProofs (disch := omega) [c50, List.getElem?_cons_zero, List.getElem?_cons_succ, wrap_id]
  refine HC_of_PC rfl (connected_ok n es hel hg) ?_
  simp -implicitDefEqProofs (disch := omega) [List.getElem?_cons_zero, List.getElem?_cons_succ, wrap_id, hr, hq, (show ¬ n ≤ q by omega), (show ¬ (q : Int) < 0 by omega)]
  refine HC_of_PC rfl (chk_ok d n (by omega)) ?_
  simp -implicitDefEqProofs (disch := omega) [List.getElem?_cons_zero, List.getElem?_cons_succ, wrap_id]
  (refine fin0 trivial rfl ?_; simp -implicitDefEqProofs (disch := omega) [List.getElem?_cons_zero, List.getElem?_cons_succ, idx, wrap_id])
end Go.Proofs.Ytgbmdikkdjogpaa
end
section
set_option linter.unusedSimpArgs false
set_option linter.unusedVariables false
namespace Go.Proofs.Ytgbmdikkdjogpaa
open Go.Abs Go.Sand
theorem clone20_ok (xs : List Int) (hx : xs.length ≤ 1000000) : PC Try.prog 68 [.is xs] (.os 0 0 xs.length) [rowZ xs] := by
  refine PC_of_W cfn68 ?_
  simp -implicitDefEqProofs (disch := omega) [c68, List.getElem?_cons_zero, List.getElem?_cons_succ, wrap_id, stepK_eqn, eqnP]
  have hx' : xs.length ≤ 1048576 := by omega
  refine ⟨?_, ?_⟩
  · rintro rfl
    simp -implicitDefEqProofs (disch := omega) [List.getElem?_cons_zero, List.getElem?_cons_succ, wrap_id]
    refine finW (Wk_nil 2 1 3 rfl) ?_
    exact fin1 [0] trivial rfl rfl ⟨rfl, rfl⟩
  · simp -implicitDefEqProofs (disch := omega) [List.getElem?_cons_zero, List.getElem?_cons_succ, wrap_id, hx']
    exact fin1 [0] trivial rfl rfl ⟨rfl, rfl⟩
theorem begin_ok (n : Nat) (es : List Ed) (q : Nat) (d : List Int) (hd : d.length = n) (hn : n ≤ 12) (hn1 : 1 ≤ n) : PC Try.prog 51 [G n es, .i q, .is d] (.ptr 0 1 0 0)
    [.box (.agg [.p (.i n), .p (.sl (es.map edP)), .p (.i q), .os 1 0 n, .os 2 0 n, .p (.i 0)]), rowZ d, .row (List.replicate n (PV.v (.int .i64 0))) 1 3 false] := by
  have hn2 : n ≤ 1048576 := by omega
  refine PC_of_W cfn51 ?_
  simp -implicitDefEqProofs (disch := omega) [c51, List.getElem?_cons_zero, List.getElem?_cons_succ, wrap_id, hn2]
  refine tree_join (s0 := ⟨[(6, .ptr 0 1 0 0)], [.box (.agg [.p (.i n), .p (.sl (es.map edP)), .p (.i q), .os 1 0 n, .os 2 0 n, .p (.i 0)]), rowZ d, .row (List.replicate n (PV.v (.int .i64 0))) 1 3 false]⟩) ?_ ?_
  rotate_left
  · simp -implicitDefEqProofs (disch := omega) [List.getElem?_cons_zero, List.getElem?_cons_succ, wrap_id, hn2]
    refine ⟨?_, ?_⟩
    · refine HC_of_PC rfl (clone20_ok d (by omega)) ?_
      simp -implicitDefEqProofs (disch := omega) [List.getElem?_cons_zero, List.getElem?_cons_succ, wrap_id, hn2, hd]
      exact wk_norm [3, 1, 2] [6] rfl rfl
    · refine HC_of_PC rfl (clone20_ok d (by omega)) ?_
      simp -implicitDefEqProofs (disch := omega) [List.getElem?_cons_zero, List.getElem?_cons_succ, wrap_id, hn2, hd]
      exact wk_norm [3, 2, 1] [6] rfl rfl
  simp -implicitDefEqProofs (disch := omega) [List.getElem?_cons_zero, List.getElem?_cons_succ, wrap_id]
  exact fin1 [0, 1, 2] trivial rfl (by rfl) ⟨rfl, rfl⟩
end Go.Proofs.Ytgbmdikkdjogpaa
end
