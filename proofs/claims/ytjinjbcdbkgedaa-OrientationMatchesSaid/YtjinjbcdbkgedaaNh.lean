/-
  Plain laws: sorting the vertices of an orientation. No program.
-/
import Derived.Test.YtjinjbcdbkgedaaNf
set_option linter.unusedVariables false
set_option linter.unusedSimpArgs false
namespace Go.Sand
/-- The least number below n of which p holds, or -1. -/
def lst (p : Nat → Bool) : Nat → Int
  | 0 => -1
  | n + 1 => if 0 ≤ lst p n then lst p n else if p n then n else -1
theorem lst_spec (p : Nat → Bool) : ∀ n, (lst p n = -1 ∧ ∀ v, v < n → p v = false) ∨ ∃ v : Nat, v < n ∧ lst p n = v ∧ p v = true ∧ ∀ u, u < v → p u = false
  | 0 => .inl ⟨rfl, fun v hv => by omega⟩
  | n + 1 => by
    rw [lst]
    rcases lst_spec p n with ⟨h1, h2⟩ | ⟨v, h1, h2, h3, h4⟩
    · rw [h1, if_neg (by omega)]
      by_cases hp : p n = true
      · rw [if_pos hp]
        exact .inr ⟨n, by omega, rfl, hp, h2⟩
      · rw [if_neg hp]
        refine .inl ⟨rfl, fun v hv => ?_⟩
        by_cases e : v = n
        · subst e; simpa using hp
        · exact h2 v (by omega)
    · rw [h2, if_pos (by omega)]
      exact .inr ⟨v, by omega, rfl, h3, h4⟩
theorem lst_none {p : Nat → Bool} {n : Nat} (h : ∀ v, v < n → p v = false) : lst p n = -1 := by
  rcases lst_spec p n with ⟨h1, _⟩ | ⟨v, h1, _, h3, _⟩
  · exact h1
  · rw [h v h1] at h3; cases h3
theorem lst_at {p : Nat → Bool} {n v : Nat} (hv : v < n) (hp : p v = true) (h : ∀ u, u < v → p u = false) : lst p n = v := by
  rcases lst_spec p n with ⟨_, h2⟩ | ⟨w, h1, h2, h3, h4⟩
  · rw [h2 v hv] at hp; cases hp
  · have : w = v := by
      rcases Nat.lt_trichotomy w v with hlt | heq | hgt
      · rw [h w hlt] at h3; cases h3
      · exact heq
      · rw [h4 v hgt] at hp; cases hp
    rw [h2, this]
theorem lst_congr {p q : Nat → Bool} {n : Nat} (h : ∀ v, v < n → p v = q v) : lst p n = lst q n := by
  rcases lst_spec p n with ⟨h1, h2⟩ | ⟨v, h1, h2, h3, h4⟩
  · rw [h1]; exact (lst_none fun v hv => by rw [← h v hv]; exact h2 v hv).symm
  · rw [h2]; exact (lst_at h1 (by rw [← h v h1]; exact h3) fun u hu => by rw [← h u (by omega)]; exact h4 u hu).symm
/-- All arrows to a vertex come from a list. -/
def freeB (al : List (Int × Int)) (out : List Int) (v : Int) : Bool := al.all fun p => !decide (p.2 = v) || decide (p.1 ∈ out)
/-- May a vertex come next? -/
def canB (al : List (Int × Int)) (out : List Int) (v : Nat) : Bool := !decide ((v : Int) ∈ out) && freeB al out v
def nxt (n : Nat) (al : List (Int × Int)) (out : List Int) : Int := lst (canB al out) n
/-- The vertices in order, as many as can be taken in k rounds. -/
def sortK (n : Nat) (al : List (Int × Int)) : Nat → List Int
  | 0 => []
  | k + 1 => if 0 ≤ nxt n al (sortK n al k) then sortK n al k ++ [nxt n al (sortK n al k)] else sortK n al k
theorem sortK_len (n : Nat) (al : List (Int × Int)) (k : Nat) : (sortK n al k).length ≤ k := by
  induction k with
  | zero => simp [sortK]
  | succ k ih =>
    rw [sortK]
    split
    · rw [List.length_append]; simp; omega
    · omega
theorem sortK_stuck {n : Nat} {al : List (Int × Int)} {k : Nat} (h : ¬ 0 ≤ nxt n al (sortK n al k)) : ∀ j, sortK n al (k + j) = sortK n al k
  | 0 => rfl
  | j + 1 => by
    rw [← Nat.add_assoc, sortK, sortK_stuck h j, if_neg h]
theorem sortK_mem {n : Nat} {al : List (Int × Int)} : ∀ (k : Nat), ∀ x ∈ sortK n al k, 0 ≤ x ∧ x < n
  | 0, x, h => by simp [sortK] at h
  | k + 1, x, h => by
    rw [sortK] at h
    split at h
    · rename_i h0
      rcases List.mem_append.1 h with h | h
      · exact sortK_mem k x h
      · simp only [List.mem_singleton] at h
        subst h
        rcases lst_spec (canB al (sortK n al k)) n with ⟨h1, _⟩ | ⟨v, h1, h2, _, _⟩
        · unfold nxt at h0; omega
        · unfold nxt at h0 ⊢; omega
    · exact sortK_mem k x h
/-- Nothing leads back into what has been taken. -/
theorem sortK_closed {n : Nat} {al : List (Int × Int)} : ∀ (k : Nat), ∀ p ∈ al, p.2 ∈ sortK n al k → p.1 ∈ sortK n al k
  | 0, p, _, h => by simp [sortK] at h
  | k + 1, p, hp, h => by
    rw [sortK] at h ⊢
    split at h
    · rename_i h0
      rw [if_pos h0]
      rcases List.mem_append.1 h with h | h
      · exact List.mem_append_left _ (sortK_closed k p hp h)
      · simp only [List.mem_singleton] at h
        rcases lst_spec (canB al (sortK n al k)) n with ⟨h1, _⟩ | ⟨v, h1, h2, h3, _⟩
        · unfold nxt at h0; omega
        · have hv : nxt n al (sortK n al k) = v := h2
          rw [hv] at h
          unfold canB freeB at h3
          simp only [Bool.and_eq_true, List.all_eq_true] at h3
          have := h3.2 p hp
          rw [h] at this
          simp at this
          exact List.mem_append_left _ this
    · rename_i h0
      rw [if_neg h0]
      exact sortK_closed k p hp h
theorem sortK_nodup {n : Nat} {al : List (Int × Int)} : ∀ (k : Nat), (sortK n al k).Nodup
  | 0 => by simp [sortK]
  | k + 1 => by
    rw [sortK]
    split
    · rename_i h0
      refine List.nodup_append.2 ⟨sortK_nodup k, by simp, fun a ha b hb => ?_⟩
      simp only [List.mem_singleton] at hb
      subst hb
      rintro rfl
      rcases lst_spec (canB al (sortK n al k)) n with ⟨h1, _⟩ | ⟨v, h1, h2, h3, _⟩
      · unfold nxt at h0; omega
      · have hv : nxt n al (sortK n al k) = v := h2
        rw [hv] at ha
        unfold canB at h3
        simp [ha] at h3
    · exact sortK_nodup k
def sortL (n : Nat) (al : List (Int × Int)) : List Int := sortK n al n
/-- How many arrows to a vertex are waited for. -/
def wtAt (al : List (Int × Int)) (out : List Int) (v : Int) : Int := if v ∈ out then -1 else (al.countP fun p => decide (p.2 = v) && !decide (p.1 ∈ out) : Nat)
def wtL (n : Nat) (al : List (Int × Int)) (out : List Int) : List Int := (List.range n).map fun v : Nat => wtAt al out v
theorem wtL_len (n : Nat) (al : List (Int × Int)) (out : List Int) : (wtL n al out).length = n := by simp [wtL]
theorem wtL_at {n : Nat} {al : List (Int × Int)} {out : List Int} {v : Nat} (h : v < (wtL n al out).length) : (wtL n al out)[v] = wtAt al out v := by simp [wtL]
theorem wtAt_zero (al : List (Int × Int)) (out : List Int) (v : Nat) : decide (wtAt al out v = 0) = canB al out v := by
  unfold wtAt canB freeB
  by_cases h : (v : Int) ∈ out
  · simp [h]
  · simp only [h, if_false, decide_false, Bool.not_false, Bool.true_and]
    rw [Bool.eq_iff_iff, decide_eq_true_eq, List.all_eq_true, Int.natCast_eq_zero, List.countP_eq_zero]
    constructor
    · intro hh p hp
      have := hh p hp
      by_cases e : p.2 = (v : Int) <;> by_cases e2 : p.1 ∈ out <;> simp_all
    · intro hh p hp
      have := hh p hp
      by_cases e : p.2 = (v : Int) <;> by_cases e2 : p.1 ∈ out <;> simp_all
theorem wtL_nil {n : Nat} {es : List Ed} (hg : ∀ x ∈ es, Right (n : Int) x) (o : List Bool) : wtL n (arwsL es o) [] = inL n es o := by
  refine ext_getD (by rw [wtL_len, inL_len]) fun v hv => ?_
  rw [wtL_len] at hv
  unfold inL
  rw [degL_get (fun u hu => (hdsL_mem hg u hu).1) v hv, getD_get (by rw [wtL_len]; exact hv), wtL_at, wtAt, if_neg (by simp)]
  congr 1
  unfold hdsL
  rw [List.count_eq_countP, List.countP_map]
  refine List.countP_congr fun p _ => ?_
  simp
/-- Less one for each arrow from v, so far. -/
def decA (v : Int) (l : List Int) (al : List (Int × Int)) : List Int := al.foldl (fun l p => if p.1 = v then bumpL (-1) l p.2 else l) l
theorem decA_take (v : Int) (l : List Int) (al : List (Int × Int)) (k : Nat) (h : k < al.length) : decA v l (al.take (k + 1)) = if (al[k]).1 = v then bumpL (-1) (decA v l (al.take k)) (al[k]).2 else decA v l (al.take k) := by
  rw [List.take_succ_eq_append_getElem h, decA, List.foldl_append]; rfl
theorem decA_len (v : Int) (al : List (Int × Int)) : ∀ l : List Int, (decA v l al).length = l.length := by
  induction al with
  | nil => intro l; rfl
  | cons p al ih =>
    intro l
    refine (ih _).trans ?_
    dsimp only
    split
    · exact bumpL_len _ _ _
    · rfl
theorem decA_get (v : Int) (al : List (Int × Int)) : ∀ (l : List Int) (u : Nat), u < l.length → (∀ p ∈ al, 0 ≤ p.2) → (decA v l al).getD u 0 = l.getD u 0 - (al.countP fun p => decide (p.2 = (u : Int)) && decide (p.1 = v) : Nat) := by
  induction al with
  | nil => intro l u _ _; simp [decA]
  | cons p al ih =>
    intro l u hu hp
    have h0 := hp p (by simp)
    have hp' : ∀ q ∈ al, 0 ≤ q.2 := fun q hq => hp q (by simp [hq])
    rw [List.countP_cons]
    by_cases e : p.1 = v
    · have e1 : decA v l (p :: al) = decA v (bumpL (-1) l p.2) al := by simp [decA, e]
      rw [e1, ih _ u (by rw [bumpL_len]; exact hu) hp', bumpL, getD_set]
      by_cases e2 : p.2 = (u : Int)
      · have e3 : p.2.toNat = u := by omega
        rw [if_pos ⟨e3, by omega⟩]
        simp [e, e2]; omega
      · rw [if_neg (by omega)]
        simp [e, e2]
    · have e1 : decA v l (p :: al) = decA v l al := by simp [decA, e]
      rw [e1, ih _ u hu hp']
      simp [e]
theorem countP_split {α : Type} (p q r : α → Bool) (l : List α) (h : ∀ x ∈ l, (if p x then 1 else 0) = (if q x then 1 else 0) + (if r x then 1 else (0 : Nat))) : l.countP p = l.countP q + l.countP r := by
  induction l with
  | nil => rfl
  | cons x l ih =>
    rw [List.countP_cons, List.countP_cons, List.countP_cons, ih fun y hy => h y (by simp [hy]), h x (by simp)]
    omega
/-- A round: v is taken. -/
theorem wt_step {n : Nat} {al : List (Int × Int)} (hal : ∀ p ∈ al, 0 ≤ p.2) {out : List Int} (hc : ∀ p ∈ al, p.2 ∈ out → p.1 ∈ out) {v : Nat} (hv : v < n) (hcan : canB al out v = true) :
    decA v ((wtL n al out).set v (-1)) al = wtL n al (out ++ [(v : Int)]) := by
  unfold canB freeB at hcan
  simp only [Bool.and_eq_true, Bool.not_eq_true', decide_eq_false_iff_not, List.all_eq_true, Bool.or_eq_true, decide_eq_true_eq] at hcan
  obtain ⟨hnv, hfree⟩ := hcan
  refine ext_getD (by rw [decA_len, List.length_set, wtL_len, wtL_len]) fun u hu => ?_
  rw [decA_len, List.length_set, wtL_len] at hu
  rw [decA_get _ _ _ u (by rw [List.length_set, wtL_len]; exact hu) hal, getD_set, getD_get (by rw [wtL_len]; exact hu), getD_get (by rw [wtL_len]; exact hu), wtL_at, wtL_at]
  have hz : ((u : Int) ∈ out ∨ u = v) → (al.countP fun p => decide (p.2 = (u : Int)) && decide (p.1 = (v : Int))) = 0 := by
    intro h
    rw [List.countP_eq_zero]
    intro p hp
    simp only [Bool.and_eq_true, decide_eq_true_eq, not_and]
    intro e1 e2
    rcases h with h | h
    · exact hnv (e2 ▸ hc p hp (e1 ▸ h))
    · have := hfree p hp
      rcases this with h1 | h1
      · exact h1 (by rw [e1, h])
      · exact hnv (e2 ▸ h1)
  by_cases huv : v = u
  · subst huv
    rw [if_pos ⟨rfl, by rw [wtL_len]; exact hu⟩, hz (.inr rfl)]
    simp [wtAt]
  · rw [if_neg (by omega)]
    by_cases ho : (u : Int) ∈ out
    · rw [hz (.inl ho)]
      simp [wtAt, ho]
    · have h1 : ¬ (u : Int) ∈ out ++ [(v : Int)] := by simp [ho]; omega
      rw [wtAt, wtAt, if_neg ho, if_neg h1]
      have := countP_split (fun p : Int × Int => decide (p.2 = (u : Int)) && !decide (p.1 ∈ out)) (fun p => decide (p.2 = (u : Int)) && !decide (p.1 ∈ out ++ [(v : Int)])) (fun p => decide (p.2 = (u : Int)) && decide (p.1 = (v : Int))) al (fun p _ => by
        by_cases e1 : p.2 = (u : Int)
        · by_cases e2 : p.1 = (v : Int)
          · simp [e1, e2, hnv]
          · by_cases e3 : p.1 ∈ out <;> simp [e1, e2, e3]
        · simp [e1])
      rw [this]
      omega
end Go.Sand
