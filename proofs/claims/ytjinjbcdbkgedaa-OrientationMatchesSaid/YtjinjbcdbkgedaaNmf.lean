/-
  Plain laws: reversing the cut of a directed set. No program.
-/
import Derived.Test.YtjinjbcdbkgedaaNmd
set_option linter.unusedVariables false
set_option linter.unusedSimpArgs false
namespace Go.Sand
theorem flip1_getB (o : List Bool) (x : Int) (i : Nat) (h : x.toNat ≠ i) : (flip1 o x).getD i false = o.getD i false := by
  simp only [flip1, List.getD_eq_getElem?_getD, List.getElem?_set_ne h]
theorem flipL_keep : ∀ (l : List Int) (o : List Bool) (i : Nat), (∀ x ∈ l, 0 ≤ x) → (i : Int) ∉ l → (flipL o l).getD i false = o.getD i false
  | [], o, i, _, _ => rfl
  | x :: l, o, i, h, hn => by
    have h0 := h x (by simp)
    have e : flipL o (x :: l) = flipL (flip1 o x) l := rfl
    rw [e, flipL_keep l (flip1 o x) i (fun y hy => h y (by simp [hy])) (fun hm => hn (by simp [hm])), flip1_getB]
    intro hx
    exact hn (by simp; left; omega)
theorem arws_flip {es : List Ed} {o : List Bool} (hol : o.length = (endsL es).length) {i : Nat} (hi : i < (endsL es).length) : arwsL es (flip1 o i) = (arwsL es o).set i (arw (endsL es)[i] (!o[i]'(by omega))) := by
  have hfl : (flip1 o i).length = (endsL es).length := by rw [flip1_len]; exact hol
  apply List.ext_getElem (by rw [List.length_set, arwsL_len hfl, arwsL_len hol])
  intro j h1 h2
  have hj : j < (endsL es).length := by rw [arwsL_len hfl] at h1; exact h1
  rw [arwsL_at hfl j hj, List.getElem_set]
  by_cases e : i = j
  · subst e
    rw [if_pos rfl]
    have hio : i < o.length := by omega
    simp only [flip1, Int.toNat_natCast, List.getElem_set_self, getDB_get hio]
  · rw [if_neg e, arwsL_at hol j hj]
    simp only [flip1, Int.toNat_natCast]
    rw [List.getElem_set_ne e]
theorem countP_set' {α : Type} (p : α → Bool) : ∀ (l : List α) (i : Nat) (a : α) (h : i < l.length), (l.set i a).countP p + (if p l[i] then 1 else 0) = l.countP p + if p a then 1 else 0
  | [], i, a, h => by simp at h
  | x :: l, 0, a, h => by
    rw [List.set_cons_zero, List.countP_cons, List.countP_cons, List.getElem_cons_zero]; omega
  | x :: l, i + 1, a, h => by
    have := countP_set' p l i a (by simpa using h)
    rw [List.set_cons_succ, List.countP_cons, List.countP_cons, List.getElem_cons_succ]; omega
/-- A single edge is reversed: what is counted. -/
theorem flip_count {es : List Ed} {o : List Bool} (hol : o.length = (endsL es).length) {i : Nat} (hi : i < (endsL es).length) (q : Int × Int → Bool) :
    (arwsL es (flip1 o i)).countP q + (if q (arw (endsL es)[i] (o[i]'(by omega))) then 1 else 0) = (arwsL es o).countP q + if q (arw (endsL es)[i] (!o[i]'(by omega))) then 1 else 0 := by
  rw [arws_flip hol hi]
  have := countP_set' q (arwsL es o) i (arw (endsL es)[i] (!o[i]'(by omega))) (by rw [arwsL_len hol]; exact hi)
  rw [arwsL_at hol i hi] at this
  exact this
theorem in_count {n : Nat} {es : List Ed} (hg : ∀ x ∈ es, Right (n : Int) x) {o : List Bool} {u : Nat} (hu : u < n) : (inL n es o).getD u 0 = ((arwsL es o).countP (fun p => decide (p.2 = (u : Int))) : Nat) := by
  unfold inL
  rw [degL_get (fun u hu => (hdsL_mem hg u hu).1) u hu]
  congr 1
  unfold hdsL
  rw [List.count_eq_countP, List.countP_map]
  refine List.countP_congr fun p _ => ?_
  simp
/-- What a vertex gains. -/
def sgV (f : Int → Bool) (w v : Int) : Int := if f v then w else -w
theorem bump_get {c : Int} {l : List Int} {v : Int} {u : Nat} (h0 : 0 ≤ v) (hu : u < l.length) : (bumpL c l v).getD u 0 = l.getD u 0 + if v = (u : Int) then c else 0 := by
  unfold bumpL
  rw [getD_set]
  by_cases e : v = (u : Int)
  · have : v.toNat = u := by omega
    rw [if_pos ⟨this, by omega⟩, if_pos e, this]
  · rw [if_neg (by omega), if_neg e, Int.add_zero]
/-- One single edge of the cut, reversed: the indegrees. -/
theorem cut_in {n : Nat} {es : List Ed} (hg : ∀ x ∈ es, Right (n : Int) x) {o : List Bool} (hol : o.length = (endsL es).length) {i : Nat} (hi : i < (endsL es).length) {f : Int → Bool} {w : Int}
    (ht : sgV f w (arw (endsL es)[i] (o[i]'(by omega))).1 = 1) (hh : sgV f w (arw (endsL es)[i] (o[i]'(by omega))).2 = -1) :
    inL n es (flip1 o i) = bumpL (sgV f w (endsL es)[i].2) (bumpL (sgV f w (endsL es)[i].1) (inL n es o) (endsL es)[i].1) (endsL es)[i].2 := by
  have hm := endsL_mem hg _ (List.getElem_mem hi)
  refine ext_getD (by rw [inL_len, bumpL_len, bumpL_len, inL_len]) fun u hu => ?_
  rw [inL_len] at hu
  have hc := flip_count hol hi (fun p => decide (p.2 = (u : Int)))
  have e1 := in_count hg (o := o) hu
  have e2 := in_count hg (o := flip1 o i) hu
  rw [bump_get (by omega) (by rw [bumpL_len, inL_len]; exact hu), bump_get (by omega) (by rw [inL_len]; exact hu), e1, e2]
  clear e1 e2
  generalize (arwsL es o).countP (fun p => decide (p.2 = (u : Int))) = C at *
  generalize (arwsL es (flip1 o i)).countP (fun p => decide (p.2 = (u : Int))) = C' at *
  cases hd : o[i]'(by omega)
  · simp only [hd, arw, Bool.false_eq_true, if_false, Bool.not_false, if_true, decide_eq_true_eq] at hc ht hh
    rw [ht, hh]
    split at hc <;> split at hc <;> simp_all <;> omega
  · simp only [hd, arw, Bool.not_true, Bool.false_eq_true, if_false, if_true, decide_eq_true_eq] at hc ht hh
    rw [ht, hh]
    split at hc <;> split at hc <;> simp_all <;> omega
/-- The whole cut: what comes in, what goes out. -/
theorem way_one {f : Int → Bool} {es : List Ed} {o : List Bool} {w : Int} (h : wayP f es o = w) (hw : w ≠ 0) : (w = 1 ∧ 0 < outN f (arwsL es o) ∧ intN f (arwsL es o) = 0) ∨ (w = -1 ∧ 0 < intN f (arwsL es o) ∧ outN f (arwsL es o) = 0) := by
  unfold wayP wayN at h
  split at h
  · rename_i h1; exact .inl ⟨h.symm, h1.1, h1.2⟩
  · split at h
    · rename_i h1; exact .inr ⟨h.symm, h1.1, h1.2⟩
    · exact absurd h.symm hw
/-- An arrow of the cut leads the way of the set. -/
theorem cut_arw {f : Int → Bool} {es : List Ed} {o : List Bool} {w : Int} (hol : o.length = (endsL es).length) (h : wayP f es o = w) (hw : w ≠ 0) {i : Nat} (hi : i < (endsL es).length) (hc : cutB f (endsL es) i = true) :
    sgV f w (arw (endsL es)[i] (o[i]'(by omega))).1 = 1 ∧ sgV f w (arw (endsL es)[i] (o[i]'(by omega))).2 = -1 := by
  have hm := List.getElem_mem (l := arwsL es o) (n := i) (by rw [arwsL_len hol]; exact hi)
  rw [arwsL_at hol i hi] at hm
  unfold cutB at hc
  rw [List.getElem?_eq_getElem hi] at hc
  dsimp only at hc
  have hne : f (arw (endsL es)[i] (o[i]'(by omega))).1 ≠ f (arw (endsL es)[i] (o[i]'(by omega))).2 := by
    cases o[i]'(by omega)
    · simp only [arw, Bool.false_eq_true, if_false]
      intro e; rw [e] at hc; simp at hc
    · simp only [arw, if_true]
      intro e; rw [e] at hc; simp at hc
  generalize arw (endsL es)[i] (o[i]'(by omega)) = q at *
  unfold sgV
  rcases way_one h hw with ⟨rfl, _, h2⟩ | ⟨rfl, _, h2⟩
  · have := List.countP_eq_zero.1 h2 q hm
    unfold intB at this
    cases h1 : f q.1 <;> cases h3 : f q.2 <;> simp_all
  · have := List.countP_eq_zero.1 h2 q hm
    unfold outB at this
    cases h1 : f q.1 <;> cases h3 : f q.2 <;> simp_all
theorem selK_nodup (p : Nat → Bool) (k : Nat) : (selK p k).Nodup := by
  induction k with
  | zero => simp [selK]
  | succ k ih =>
    rw [selK_succ]
    split
    · refine List.nodup_append.2 ⟨ih, by simp, fun a ha b hb => ?_⟩
      obtain ⟨v, rfl, hv, _⟩ := selK_mem.1 ha
      simp only [List.mem_singleton] at hb
      omega
    · simpa using ih
/-- After j single edges of the cut. -/
def cutO (f : Int → Bool) (es : List Ed) (o : List Bool) (j : Nat) : List Bool := flipL o ((cutL f es).take j)
theorem cutO_len (f : Int → Bool) (es : List Ed) (o : List Bool) (j : Nat) : (cutO f es o j).length = o.length := flipL_len _ _
theorem cutO_step {f : Int → Bool} {es : List Ed} {o : List Bool} (hol : o.length = (endsL es).length) {j : Nat} (hj : j < (cutL f es).length) :
    ∃ i : Nat, (cutL f es)[j] = i ∧ ∃ hi : i < (endsL es).length, cutB f (endsL es) i = true ∧ cutO f es o (j + 1) = flip1 (cutO f es o j) i ∧ (cutO f es o j)[i]'(by rw [cutO_len]; omega) = o[i]'(by omega) := by
  obtain ⟨i, hx, hi, hc⟩ := selK_mem.1 (List.getElem_mem hj)
  refine ⟨i, hx, hi, hc, ?_, ?_⟩
  · rw [cutO, flipL_take _ _ _ hj, hx]; rfl
  · have hn : (i : Int) ∉ (cutL f es).take j := by
      intro hm
      rw [← hx] at hm
      obtain ⟨k, hk, hke⟩ := List.mem_iff_getElem.1 hm
      rw [List.length_take] at hk
      rw [List.getElem_take] at hke
      exact List.pairwise_iff_getElem.1 (selK_nodup (cutB f (endsL es)) (endsL es).length) k j (by unfold cutL at hj; omega) hj (by omega) hke
    have := flipL_keep ((cutL f es).take j) o i (fun x hx => by obtain ⟨v, rfl, _⟩ := selK_mem.1 (List.mem_of_mem_take hx); omega) hn
    have h1 : i < (cutO f es o j).length := by rw [cutO_len]; omega
    have h2 : i < o.length := by omega
    rw [← getDB_get h1, ← getDB_get h2]
    exact this
theorem cutO_in {n : Nat} {f : Int → Bool} {es : List Ed} (hg : ∀ x ∈ es, Right (n : Int) x) {o : List Bool} {w : Int} (hol : o.length = (endsL es).length) (h : wayP f es o = w) (hw : w ≠ 0) {j : Nat} (hj : j < (cutL f es).length) :
    ∃ i : Nat, (cutL f es)[j] = i ∧ ∃ hi : i < (endsL es).length, inL n es (cutO f es o (j + 1)) = bumpL (sgV f w (endsL es)[i].2) (bumpL (sgV f w (endsL es)[i].1) (inL n es (cutO f es o j)) (endsL es)[i].1) (endsL es)[i].2 := by
  obtain ⟨i, hx, hi, hc, h1, h2⟩ := cutO_step hol hj
  obtain ⟨a1, a2⟩ := cut_arw hol h hw hi hc
  refine ⟨i, hx, hi, ?_⟩
  rw [h1]
  exact cut_in hg (by rw [cutO_len]; exact hol) hi (by rw [h2]; exact a1) (by rw [h2]; exact a2)
theorem cutO_way {f : Int → Bool} {es : List Ed} {o : List Bool} {w : Int} (hol : o.length = (endsL es).length) (h : wayP f es o = w) (hw : w ≠ 0) : ∀ j, j ≤ (cutL f es).length →
    ((w = 1 → outN f (arwsL es (cutO f es o j)) + j = outN f (arwsL es o) ∧ intN f (arwsL es (cutO f es o j)) = j) ∧ (w = -1 → intN f (arwsL es (cutO f es o j)) + j = intN f (arwsL es o) ∧ outN f (arwsL es (cutO f es o j)) = j))
  | 0, _ => by
    have e : cutO f es o 0 = o := by simp [cutO, flipL]
    rw [e]
    rcases way_one h hw with ⟨rfl, _, h2⟩ | ⟨rfl, _, h2⟩
    · exact ⟨fun _ => ⟨rfl, h2⟩, fun e => by omega⟩
    · exact ⟨fun e => by omega, fun _ => ⟨rfl, h2⟩⟩
  | j + 1, hj => by
    have ih := cutO_way hol h hw j (by omega)
    obtain ⟨i, hx, hi, hc, h1, h2⟩ := cutO_step hol (show j < (cutL f es).length by omega)
    obtain ⟨a1, a2⟩ := cut_arw hol h hw hi hc
    have hl : (cutO f es o j).length = (endsL es).length := by rw [cutO_len]; exact hol
    have c1 := flip_count hl hi (outB f)
    have c2 := flip_count hl hi (intB f)
    rw [h1]
    rw [h2] at c1 c2
    have hsw : arw (endsL es)[i] (!o[i]'(by omega)) = ((arw (endsL es)[i] (o[i]'(by omega))).2, (arw (endsL es)[i] (o[i]'(by omega))).1) := by
      cases o[i]'(by omega) <;> rfl
    rw [hsw] at c1 c2
    unfold outN intN at ih ⊢
    generalize arw (endsL es)[i] (o[i]'(by omega)) = q at *
    unfold outB intB at *
    unfold sgV at a1 a2
    refine ⟨fun e => ?_, fun e => ?_⟩
    · obtain ⟨i1, i2⟩ := ih.1 e
      subst e
      have q1 : f q.1 = true := by cases hq : f q.1; rw [hq] at a1; simp at a1; rfl
      have q2 : f q.2 = false := by cases hq : f q.2; rfl; rw [hq] at a2; simp at a2
      simp only [q1, q2, Bool.not_false, Bool.not_true, Bool.and_true, Bool.and_false, if_true, Bool.false_eq_true, if_false] at c1 c2
      omega
    · obtain ⟨i1, i2⟩ := ih.2 e
      subst e
      have q1 : f q.1 = false := by cases hq : f q.1; rfl; rw [hq] at a1; simp at a1
      have q2 : f q.2 = true := by cases hq : f q.2; rw [hq] at a2; simp at a2; rfl
      simp only [q1, q2, Bool.not_false, Bool.not_true, Bool.and_true, Bool.and_false, if_true, Bool.false_eq_true, if_false] at c1 c2
      omega
/-- Then the set is directed the other way. -/
theorem cut_way {f : Int → Bool} {es : List Ed} {o : List Bool} {w : Int} (hol : o.length = (endsL es).length) (h : wayP f es o = w) (hw : w ≠ 0) : wayP f es (flipL o (cutL f es)) = -w := by
  have hk := cutO_way hol h hw _ (Nat.le_refl _)
  have e : cutO f es o (cutL f es).length = flipL o (cutL f es) := by rw [cutO, List.take_length]
  rw [e] at hk
  have hwc := (way_cut f hol).2
  unfold wayP wayN
  rcases way_one h hw with ⟨rfl, h1, h2⟩ | ⟨rfl, h1, h2⟩
  · obtain ⟨k1, k2⟩ := hk.1 rfl
    rw [if_neg (by omega), if_pos ⟨by omega, by omega⟩]
  · obtain ⟨k1, k2⟩ := hk.2 rfl
    rw [if_pos ⟨by omega, by omega⟩]; rfl
end Go.Sand
