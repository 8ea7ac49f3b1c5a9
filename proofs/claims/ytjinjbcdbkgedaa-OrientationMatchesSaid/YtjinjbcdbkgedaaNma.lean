/-
  Plain laws: orders of the vertices and the orientations out of them. No program.
-/
import Derived.Test.YtjinjbcdbkgedaaNk
set_option linter.unusedVariables false
set_option linter.unusedSimpArgs false
namespace Go.Sand
theorem nxt_can {n : Nat} {al : List (Int × Int)} {out : List Int} (h : 0 ≤ nxt n al out) : ∀ p ∈ al, p.2 = nxt n al out → p.1 ∈ out := by
  intro p hp he
  rcases lst_spec (canB al out) n with ⟨h1, _⟩ | ⟨v, h1, h2, h3, _⟩
  · unfold nxt at h; omega
  · have hv : nxt n al out = v := h2
    unfold canB freeB at h3
    simp only [Bool.and_eq_true, List.all_eq_true] at h3
    have := h3.2 p hp
    rw [hv] at he
    simpa [he] using this
theorem sortK_before {n : Nat} {al : List (Int × Int)} : ∀ (k : Nat), ∀ p ∈ al, p.2 ∈ sortK n al k → (sortK n al k).idxOf p.1 < (sortK n al k).idxOf p.2
  | 0, p, _, h => by simp [sortK] at h
  | k + 1, p, hp, h => by
    rw [sortK] at h ⊢
    split at h
    · rename_i h0
      rw [if_pos h0]
      by_cases hm : p.2 ∈ sortK n al k
      · have h1 := sortK_closed k p hp hm
        rw [List.idxOf_append, List.idxOf_append, if_pos h1, if_pos hm]
        exact sortK_before k p hp hm
      · have he : p.2 = nxt n al (sortK n al k) := by
          rcases List.mem_append.1 h with h | h
          · exact absurd h hm
          · simpa using h
        have h1 := nxt_can h0 p hp he
        rw [List.idxOf_append, List.idxOf_append, if_pos h1, if_neg hm]
        have := List.idxOf_lt_length_of_mem h1
        omega
    · rename_i h0
      rw [if_neg h0]
      exact sortK_before k p hp h
/-- An orientation that can be sorted is that of its order. -/
theorem along_sort {n : Nat} {es : List Ed} {o : List Bool} (hg : ∀ x ∈ es, Right (n : Int) x) (hol : o.length = (endsL es).length) (hl : (sortL n (arwsL es o)).length = n) : alongL es (sortL n (arwsL es o)) = o := by
  apply List.ext_getElem (by simp [alongL, hol])
  intro i h1 h2
  have hi : i < (endsL es).length := by simpa [alongL] using h1
  have hat := arwsL_at hol i hi
  have hm := List.getElem_mem (l := arwsL es o) (n := i) (by rw [arwsL_len hol]; exact hi)
  rw [hat] at hm
  have hr := arw_mem hg _ hm
  have hb := sortK_before n _ hm (perm_all hl (sortK_mem n) (sortK_nodup n) hr.2.1 hr.2.2)
  simp only [alongL, List.getElem_map]
  unfold sortL
  cases hd : o[i]
  · simp only [hd, arw, Bool.false_eq_true, if_false] at hb
    exact decide_eq_false (by omega)
  · simp only [hd, arw, if_true] at hb
    exact decide_eq_true (by omega)
theorem first_out {order S : List Int} : ∀ (i : Nat) (v : Int), v ∈ order → order.idxOf v = i → v ∉ S → ∃ u, u ∈ order ∧ u ∉ S ∧ ∀ w ∈ order, order.idxOf w < order.idxOf u → w ∈ S := by
  intro i
  induction i using Nat.strongRecOn with
  | _ i ih =>
    intro v hv hi hn
    by_cases h : ∃ w, w ∈ order ∧ order.idxOf w < i ∧ w ∉ S
    · obtain ⟨w, h1, h2, h3⟩ := h
      exact ih _ h2 w h1 rfl h3
    · refine ⟨v, hv, hn, fun w h1 h2 => Classical.byContradiction fun h3 => h ⟨w, h1, by omega, h3⟩⟩
/-- If all arrows lead on in an order, all can be taken. -/
theorem sort_full {n : Nat} {al : List (Int × Int)} (hal : ∀ p ∈ al, 0 ≤ p.1 ∧ p.1 < n) {order : List Int} (hlo : order.length = n) (hs : ∀ x ∈ order, 0 ≤ x ∧ x < n) (hd : order.Nodup) (hdec : ∀ p ∈ al, order.idxOf p.1 < order.idxOf p.2) : (sortL n al).length = n := by
  have key : ∀ k, k ≤ n → (sortK n al k).length = k := by
    intro k
    induction k with
    | zero => intro _; rfl
    | succ k ih =>
      intro hk
      have hlen := ih (by omega)
      have hex : ∃ v, v ∈ order ∧ v ∉ sortK n al k := by
        refine Classical.byContradiction fun h => ?_
        have := nodup_len hd (m := sortK n al k) fun x hx => Classical.byContradiction fun h2 => h ⟨x, hx, h2⟩
        omega
      obtain ⟨v, hv, hn⟩ := hex
      obtain ⟨u, hu, hun, hum⟩ := first_out _ v hv rfl hn
      have hur := hs u hu
      have hcan : canB al (sortK n al k) u.toNat = true := by
        unfold canB freeB
        simp only [Bool.and_eq_true, Bool.not_eq_true', decide_eq_false_iff_not, List.all_eq_true, Bool.or_eq_true, decide_eq_true_eq]
        rw [Int.toNat_of_nonneg hur.1]
        refine ⟨hun, fun p hp => ?_⟩
        by_cases e : p.2 = u
        · right
          have h1 := hdec p hp
          rw [e] at h1
          have h2 := hal p hp
          exact hum p.1 (perm_all hlo hs hd h2.1 h2.2) h1
        · exact .inl e
      have hnx : 0 ≤ nxt n al (sortK n al k) := by
        rcases lst_spec (canB al (sortK n al k)) n with ⟨_, h2⟩ | ⟨w, h1, h2, _, _⟩
        · rw [h2 u.toNat (by omega)] at hcan; cases hcan
        · unfold nxt; omega
      rw [sortK, if_pos hnx, List.length_append, hlen]; rfl
  exact key n (Nat.le_refl _)
/-- With a loop, never. -/
theorem sort_loop {n : Nat} {al : List (Int × Int)} {p : Int × Int} (hp : p ∈ al) (hr : 0 ≤ p.2 ∧ p.2 < n) (he : p.1 = p.2) : (sortL n al).length ≠ n := by
  intro hl
  have hb := sortK_before n p hp (perm_all hl (sortK_mem n) (sortK_nodup n) hr.1 hr.2)
  rw [he] at hb
  omega
theorem ren_ok {n : Nat} {order : List Int} (h : renE n order = 0) : order.length = n ∧ (∀ x ∈ order, 0 ≤ x ∧ x < n) ∧ order.Nodup := by
  unfold renE at h
  split at h
  · cases h
  · rename_i h1
    obtain ⟨h2, h3, _⟩ := revErr_ok h
    exact ⟨by omega, h2, h3⟩
theorem ren_of {n : Nat} {order : List Int} (h1 : order.length = n) (h2 : ∀ x ∈ order, 0 ≤ x ∧ x < n) (h3 : order.Nodup) : renE n order = 0 := by
  unfold renE
  rw [if_neg (by omega)]
  exact revErr_of h2 h3 (fun x _ hx => by simp at hx)
def loopB (x : Ed) : Bool := decide (x.a = x.b)
theorem along_full {n : Nat} {es : List Ed} (hg : ∀ x ∈ es, Right (n : Int) x) {order : List Int} (h : renE n order = 0) : (sortL n (arwsL es (alongL es order))).length = n ↔ es.any loopB = false := by
  obtain ⟨h1, h2, h3⟩ := ren_ok h
  have hol : (alongL es order).length = (endsL es).length := by simp [alongL]
  constructor
  · intro hl
    refine Bool.eq_false_iff.2 fun ha => ?_
    obtain ⟨x, hx, hxl⟩ := List.any_eq_true.1 ha
    have hxe : x.a = x.b := by simpa [loopB] using hxl
    have hr := hg x hx
    have hm : (x.a, x.b) ∈ endsL es := List.mem_flatMap.2 ⟨x, hx, List.mem_replicate.2 ⟨by have := hr.m1; omega, rfl⟩⟩
    obtain ⟨i, hi, hie⟩ := List.mem_iff_getElem.1 hm
    have hat := arwsL_at hol i hi
    have hma := List.getElem_mem (l := arwsL es (alongL es order)) (n := i) (by rw [arwsL_len hol]; exact hi)
    rw [hat, hie] at hma
    have hrr := arw_mem hg _ hma
    refine sort_loop hma hrr.2 ?_ hl
    unfold arw
    split <;> simp [hxe]
  · intro ha
    refine sort_full (fun p hp => (arw_mem hg p hp).1) h1 h2 h3 fun p hp => ?_
    obtain ⟨i, hi, hie⟩ := List.mem_iff_getElem.1 hp
    have hi2 : i < (endsL es).length := by rw [← arwsL_len hol]; exact hi
    rw [arwsL_at hol i hi2] at hie
    have hne : (endsL es)[i].1 ≠ (endsL es)[i].2 := by
      obtain ⟨x, hx, hxm⟩ := List.mem_flatMap.1 (List.getElem_mem hi2)
      have hx2 := (List.mem_replicate.1 hxm).2
      rw [hx2]
      intro e
      have : es.any loopB = true := List.any_eq_true.2 ⟨x, hx, by simpa [loopB] using e⟩
      rw [ha] at this; cases this
    have hem := endsL_mem hg _ (List.getElem_mem hi2)
    have m1 := perm_all h1 h2 h3 (v := (endsL es)[i].1) (by omega) (by omega)
    have m2 := perm_all h1 h2 h3 (v := (endsL es)[i].2) (by omega) (by omega)
    have hix : order.idxOf (endsL es)[i].1 ≠ order.idxOf (endsL es)[i].2 := fun e => hne (by
      have a1 := List.idxOf_lt_length_of_mem m1
      have a2 := List.idxOf_lt_length_of_mem m2
      have b1 := List.getElem_idxOf a1
      have b2 := List.getElem_idxOf a2
      rw [← b1, ← b2]
      simp only [e])
    have hai : (alongL es order)[i]'(by omega) = decide (order.idxOf (endsL es)[i].1 ≤ order.idxOf (endsL es)[i].2) := by simp [alongL]
    rw [← hie, hai]
    unfold arw
    by_cases hle : order.idxOf (endsL es)[i].1 ≤ order.idxOf (endsL es)[i].2
    · rw [decide_eq_true hle, if_pos rfl]; omega
    · rw [decide_eq_false hle, if_neg (by simp)]; dsimp only; omega
theorem selK_head {p : Nat → Bool} {v : Nat} : ∀ {n : Nat}, lst p n = v → ∃ r, selK p n = (v : Int) :: r
  | 0, h => by simp [lst] at h
  | n + 1, h => by
    rw [lst] at h
    rw [selK_succ]
    split at h
    · obtain ⟨r, hr⟩ := selK_head h
      exact ⟨_, by rw [hr]; rfl⟩
    · rename_i h0
      split at h
      · rename_i hp
        have he : selK p n = [] := by
          rcases lst_spec p n with ⟨_, h2⟩ | ⟨w, h1, h2, _, _⟩
          · refine List.eq_nil_iff_forall_not_mem.2 fun x hx => ?_
            obtain ⟨u, _, hu, hpu⟩ := selK_mem.1 hx
            rw [h2 u hu] at hpu; cases hpu
          · omega
        have : n = v := by omega
        subst this
        exact ⟨[], by rw [he, if_pos hp]; rfl⟩
      · omega
theorem sortK_head {n : Nat} {al : List (Int × Int)} (h : 0 ≤ nxt n al []) : ∀ k, ∃ r, sortK n al (k + 1) = nxt n al [] :: r
  | 0 => ⟨[], by rw [sortK]; simp [sortK, h]⟩
  | k + 1 => by
    obtain ⟨r, hr⟩ := sortK_head h k
    rw [sortK]
    split
    · exact ⟨r ++ [_], by rw [hr]; rfl⟩
    · exact ⟨r, hr⟩
/-- The first of the order is the first source. -/
theorem src_head {n : Nat} {es : List Ed} (hn : 1 ≤ n) (hg : ∀ x ∈ es, Right (n : Int) x) {o : List Bool} (hl : (sortL n (arwsL es o)).length = n) : ∃ v r r', sortL n (arwsL es o) = v :: r ∧ srcL n es o = v :: r' := by
  obtain ⟨m, rfl⟩ : ∃ m, n = m + 1 := ⟨n - 1, by omega⟩
  have h0 : 0 ≤ nxt (m + 1) (arwsL es o) [] := by
    refine Classical.byContradiction fun h => ?_
    have := sortK_stuck (n := m + 1) (al := arwsL es o) (k := 0) h (m + 1)
    rw [Nat.zero_add] at this
    unfold sortL at hl
    rw [this] at hl
    simp [sortK] at hl
  obtain ⟨r, hr⟩ := sortK_head h0 m
  have hc : nxt (m + 1) (arwsL es o) [] = lst (zeroB (inL (m + 1) es o)) (m + 1) := by
    refine lst_congr fun v hv => ?_
    rw [← wtAt_zero, ← wtL_nil hg]
    unfold zeroB
    rw [getD_get (by rw [wtL_len]; exact hv), wtL_at]
  obtain ⟨v, hv⟩ : ∃ v : Nat, nxt (m + 1) (arwsL es o) [] = v := ⟨(nxt (m + 1) (arwsL es o) []).toNat, by omega⟩
  obtain ⟨r', hr'⟩ := selK_head (hc.symm.trans hv)
  exact ⟨v, r, r', by rw [sortL, hr, hv], hr'⟩
end Go.Sand
