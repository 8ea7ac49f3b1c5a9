/-
  Plain laws: scripts that stabilize: sets that can be taken away, the burning of a set, meets. No program.
-/
import Derived.Test.YtgjaekbbdmhjlaaMza
namespace Go
namespace Sand

/-- How many single edges lead from a vertex into a set. -/
def insI (n : Nat) (es : List Ed) (B : List Bool) (v : Nat) : Int := sumN (fun u => if B.getD u false = true then joinE es v u else 0) n
/-- Vertex v burns if it would become unstable. -/
def stepB (n : Nat) (es : List Ed) (L : List Int) (B : List Bool) (v : Nat) : List Bool := if B.getD v false = true ∧ insI n es B v ≤ L.getD v 0 then B.set v false else B
def passB (n : Nat) (es : List Ed) (L : List Int) (B : List Bool) : Nat → List Bool
  | 0 => B
  | k + 1 => stepB n es L (passB n es L B k) k
def iterB (n : Nat) (es : List Ed) (L : List Int) : Nat → List Bool → List Bool
  | 0, B => B
  | m + 1, B => passB n es L (iterB n es L m B) n
def posB (s : List Int) : List Bool := (List.range 12).map fun v => decide (0 < s.getD v 0)
/-- The greatest set that can be taken away from script s, behind which the chips are L. -/
def grF (n : Nat) (es : List Ed) (L s : List Int) : List Bool := iterB n es L 13 (posB s)
def subB (B C : List Bool) : Prop := ∀ v, B.getD v false = true → C.getD v false = true
/-- A set that can be taken away. -/
structure FitB (n : Nat) (es : List Ed) (L s : List Int) (B : List Bool) : Prop where
  lt : ∀ v, B.getD v false = true → v < n
  pos : ∀ v, B.getD v false = true → 1 ≤ s.getD v 0
  st : ∀ v, B.getD v false = true → L.getD v 0 < insI n es B v
theorem getD_setB (B : List Bool) (v u : Nat) (b : Bool) : (B.set v b).getD u false = if v = u ∧ v < B.length then b else B.getD u false := by
  rw [List.getD_eq_getElem?_getD, List.getElem?_set, List.getD_eq_getElem?_getD]
  by_cases h : v = u
  · subst h
    by_cases h2 : v < B.length
    · simp [h2]
    · rw [if_pos rfl, if_neg h2, if_neg (by omega), List.getElem?_eq_none (by omega)]
  · rw [if_neg h, if_neg (by omega)]
section
variable {n : Nat} {es : List Ed} {L s : List Int}
theorem stepB_len (B : List Bool) (v : Nat) : (stepB n es L B v).length = B.length := by unfold stepB; split <;> simp
theorem passB_len (B : List Bool) : ∀ k, (passB n es L B k).length = B.length
  | 0 => rfl
  | k + 1 => by rw [passB, stepB_len, passB_len B k]
theorem iterB_len (B : List Bool) : ∀ m, (iterB n es L m B).length = B.length
  | 0 => rfl
  | m + 1 => by rw [iterB, passB_len, iterB_len B m]
theorem stepB_sub (B : List Bool) (v : Nat) : subB (stepB n es L B v) B := by
  intro u hu
  unfold stepB at hu
  split at hu
  · rw [getD_setB] at hu
    split at hu
    · cases hu
    · exact hu
  · exact hu
theorem passB_sub (B : List Bool) : ∀ k, subB (passB n es L B k) B
  | 0 => fun _ h => h
  | k + 1 => fun v h => passB_sub B k v (stepB_sub _ _ v h)
theorem insI_le (hg : GoodG n es) {B C : List Bool} (h : subB B C) (v : Nat) : insI n es B v ≤ insI n es C v := by
  refine sumN_le fun u _ => ?_
  have hj := (joinE_bd hg v u).1
  cases hB : B.getD u false with
  | true => rw [h u hB]; exact Int.le_refl _
  | false => simp only [Bool.false_eq_true, if_false]; split <;> omega
theorem stepB_keep (hg : GoodG n es) {B C : List Bool} (hC : FitB n es L s C) (h : subB C B) (v : Nat) : subB C (stepB n es L B v) := by
  intro u hu
  unfold stepB
  split
  · rename_i h2
    rw [getD_setB]
    split
    · rename_i h3
      exfalso
      obtain ⟨rfl, -⟩ := h3
      have h4 := hC.st v hu
      have h5 := insI_le hg h v
      omega
    · exact h u hu
  · exact h u hu
theorem passB_keep (hg : GoodG n es) {B C : List Bool} (hC : FitB n es L s C) (h : subB C B) : ∀ k, subB C (passB n es L B k)
  | 0 => h
  | k + 1 => stepB_keep hg hC (passB_keep hg hC h k) k
theorem iterB_keep (hg : GoodG n es) {B C : List Bool} (hC : FitB n es L s C) (h : subB C B) : ∀ m, subB C (iterB n es L m B)
  | 0 => h
  | m + 1 => passB_keep hg hC (iterB_keep hg hC h m) n
theorem iterB_sub (B : List Bool) : ∀ m, subB (iterB n es L m B) B
  | 0 => fun _ h => h
  | m + 1 => fun v h => iterB_sub B m v (passB_sub _ n v h)
def cntB (B : List Bool) : Nat := B.count true
theorem cnt_set {B : List Bool} {v : Nat} (h : B.getD v false = true) : cntB (B.set v false) + 1 = cntB B := by
  induction B generalizing v with
  | nil => simp at h
  | cons b B ih =>
    cases v with
    | zero => simp at h; subst h; simp [cntB]
    | succ v =>
      have := ih (v := v) (by simpa using h)
      cases b <;> simp [cntB] at this ⊢ <;> omega
theorem stepB_cnt (B : List Bool) (v : Nat) : stepB n es L B v = B ∨ cntB (stepB n es L B v) < cntB B := by
  unfold stepB
  split
  · rename_i h
    have := cnt_set h.1
    exact .inr (by omega)
  · exact .inl rfl
theorem stepB_ne {B : List Bool} {v : Nat} (h : B.getD v false = true ∧ insI n es B v ≤ L.getD v 0) : stepB n es L B v ≠ B := by
  intro e
  rw [stepB, if_pos h] at e
  have := cnt_set h.1
  rw [e] at this
  omega
theorem passB_cnt (B : List Bool) : ∀ k, cntB (passB n es L B k) ≤ cntB B ∧ (passB n es L B k ≠ B → cntB (passB n es L B k) < cntB B)
  | 0 => ⟨Nat.le_refl _, fun h => absurd rfl h⟩
  | k + 1 => by
    obtain ⟨h1, h2⟩ := passB_cnt B k
    rw [passB]
    rcases stepB_cnt (n := n) (es := es) (L := L) (passB n es L B k) k with h3 | h3
    · rw [h3]; exact ⟨h1, h2⟩
    · exact ⟨by omega, fun _ => by omega⟩
/-- Whether anything has burned. -/
theorem passB_flag (B : List Bool) (k : Nat) : (passB n es L B (k + 1) ≠ B) ↔ (passB n es L B k ≠ B ∨ ((passB n es L B k).getD k false = true ∧ insI n es (passB n es L B k) k ≤ L.getD k 0)) := by
  constructor
  · intro h
    refine Classical.byContradiction fun hn => h ?_
    rw [passB, stepB, if_neg fun h2 => hn (.inr h2)]
    exact Decidable.not_not.1 fun h2 => hn (.inl h2)
  · rintro h e
    have h1 := passB_cnt (n := n) (es := es) (L := L) B k
    rw [passB] at e
    rcases stepB_cnt (n := n) (es := es) (L := L) (passB n es L B k) k with h3 | h3
    · rcases h with h | h
      · rw [h3] at e; exact h e
      · exact stepB_ne h h3
    · rw [e] at h3; omega
theorem passB_fix {B : List Bool} {m : Nat} (h : passB n es L B m = B) : ∀ k, k ≤ m → passB n es L B k = B := by
  intro k hk
  refine Classical.byContradiction fun hn => ?_
  have hc := (passB_cnt (n := n) (es := es) (L := L) B k).2 hn
  have hm : ∀ j, cntB (passB n es L B (k + j)) ≤ cntB (passB n es L B k) := by
    intro j
    induction j with
    | zero => exact Nat.le_refl _
    | succ j ih =>
      rw [← Nat.add_assoc, passB]
      rcases stepB_cnt (n := n) (es := es) (L := L) (passB n es L B (k + j)) (k + j) with h3 | h3
      · rw [h3]; exact ih
      · omega
  have := hm (m - k)
  rw [show k + (m - k) = m by omega, h] at this
  omega
theorem passB_stab {B : List Bool} (h : passB n es L B n = B) {v : Nat} (hv : v < n) (hB : B.getD v false = true) : L.getD v 0 < insI n es B v := by
  have h1 := passB_fix h v (by omega)
  have h2 := passB_fix h (v + 1) (by omega)
  rw [passB, h1] at h2
  refine Int.not_le.1 fun h3 => ?_
  exact stepB_ne ⟨hB, h3⟩ h2
theorem iterB_fix {B : List Bool} (h : passB n es L B n = B) : ∀ m, iterB n es L m B = B
  | 0 => rfl
  | m + 1 => by rw [iterB, iterB_fix h m, h]
theorem iterB_add (B : List Bool) (k : Nat) : ∀ m, iterB n es L (k + m) B = iterB n es L m (iterB n es L k B)
  | 0 => rfl
  | m + 1 => by rw [← Nat.add_assoc, iterB, iterB, iterB_add B k m]
theorem iterB_cnt (B : List Bool) : ∀ m, (∀ j, j < m → iterB n es L (j + 1) B ≠ iterB n es L j B) → cntB (iterB n es L m B) + m ≤ cntB B
  | 0, _ => by simp [iterB]
  | m + 1, h => by
    have h1 := iterB_cnt B m fun j hj => h j (by omega)
    have h2 := (passB_cnt (n := n) (es := es) (L := L) (iterB n es L m B) n).2 (h m (by omega))
    rw [iterB]
    omega
theorem cntB_le (B : List Bool) : cntB B ≤ B.length := List.count_le_length
theorem posB_len (s : List Int) : (posB s).length = 12 := by simp [posB]
theorem posB_get (s : List Int) (v : Nat) : (posB s).getD v false = true ↔ v < 12 ∧ 0 < s.getD v 0 := by
  by_cases h : v < 12 <;> simp [posB, List.getD_eq_getElem?_getD, h]
/-- Where the burning stands still, it is the greatest set. -/
theorem grF_at {m : Nat} (h : passB n es L (iterB n es L m (posB s)) n = iterB n es L m (posB s)) (hm : m ≤ 13) : grF n es L s = iterB n es L m (posB s) := by
  rw [grF, show 13 = m + (13 - m) by omega, iterB_add, iterB_fix h]
theorem grF_len : (grF n es L s).length = 12 := by rw [grF, iterB_len, posB_len]
theorem grF_fix : passB n es L (grF n es L s) n = grF n es L s := by
  by_cases h : ∃ j, j < 13 ∧ iterB n es L (j + 1) (posB s) = iterB n es L j (posB s)
  · obtain ⟨j, hj, hs⟩ := h
    have h1 : passB n es L (iterB n es L j (posB s)) n = iterB n es L j (posB s) := hs
    rw [grF_at h1 (by omega), h1]
  · have h1 := iterB_cnt (n := n) (es := es) (L := L) (posB s) 13 fun j hj e => h ⟨j, hj, e⟩
    have h2 := cntB_le (posB s)
    rw [posB_len] at h2
    omega
theorem grF_fit (hs : s.length = n) : FitB n es L s (grF n es L s) := by
  have h0 : ∀ v, (grF n es L s).getD v false = true → v < n ∧ 0 < s.getD v 0 := fun v hv => by
    have h1 := ((posB_get s v).1 (iterB_sub _ _ v hv)).2
    refine ⟨Nat.not_le.1 fun h2 => ?_, h1⟩
    rw [List.getD_eq_getElem?_getD, List.getElem?_eq_none (by omega)] at h1
    simp at h1
  exact ⟨fun v hv => (h0 v hv).1, fun v hv => by have := (h0 v hv).2; omega, fun v hv => passB_stab grF_fix (h0 v hv).1 hv⟩
theorem grF_max (hg : GoodG n es) {C : List Bool} (hC : FitB n es L s C) : subB C (grF n es L s) :=
  iterB_keep hg hC (fun v hv => (posB_get s v).2 ⟨by have := hC.lt v hv; have := hg.n12; omega, by have := hC.pos v hv; omega⟩) 13
end

/-- A script without the vertices of a set. -/
def lessB (n : Nat) (s : List Int) (B : List Bool) : List Int := (List.range n).map fun v => s.getD v 0 - if B.getD v false = true then 1 else 0
theorem lessB_len (n : Nat) (s : List Int) (B : List Bool) : (lessB n s B).length = n := by simp [lessB]
theorem lessB_get {n : Nat} {s : List Int} {B : List Bool} {v : Nat} (hv : v < n) : (lessB n s B).getD v 0 = s.getD v 0 - if B.getD v false = true then 1 else 0 := by
  simp [lessB, List.getD_eq_getElem?_getD, hv]
section
variable {n : Nat} {es : List Ed} (hg : GoodG n es)
include hg
omit hg in
theorem ins_sum (B : List Bool) (v : Nat) : insI n es B v = sumN (fun u => joinE es v u * if B.getD u false = true then 1 else 0) n := by
  refine sumN_congr fun u _ => ?_
  split <;> simp
theorem dif_less {s : List Int} {B : List Bool} (v : Nat) (hv : v < n) : dif es (lessB n s B) v = dif es s v - insI n es B v + (if B.getD v false = true then valTo es v n else 0) := by
  rw [dif_sum hg, dif_sum hg, ins_sum, lessB_get hv, Int.sub_mul]
  have e : sumN (fun u => joinE es v u * (lessB n s B).getD u 0) n = sumN (fun u => joinE es v u * s.getD u 0) n - sumN (fun u => joinE es v u * if B.getD u false = true then 1 else 0) n := by
    have : ∀ k, k ≤ n → sumN (fun u => joinE es v u * (lessB n s B).getD u 0) k = sumN (fun u => joinE es v u * s.getD u 0) k - sumN (fun u => joinE es v u * if B.getD u false = true then 1 else 0) k := by
      intro k
      induction k with
      | zero => intro _; rfl
      | succ k ih =>
        intro hk
        simp only [sumN]
        rw [ih (by omega), lessB_get (by omega), Int.mul_sub]
        omega
    exact this n (Nat.le_refl _)
  rw [e]
  split <;> simp <;> omega
/-- The chips behind a script without a set. -/
theorem aft_less {d s : List Int} {B : List Bool} (hd : d.length = n) (v : Nat) (hv : v < n) : (movedE es (lessB n s B) d).getD v 0 = (movedE es s d).getD v 0 - insI n es B v + (if B.getD v false = true then valTo es v n else 0) := by
  rw [aft_eq hg hd, aft_eq hg hd, dif_less hg v hv]
  omega
omit hg in
theorem ins_val (es : List Ed) (n v : Nat) (B : List Bool) (h : ∀ u, u < n → B.getD u false = true) : insI n es B v = valTo es v n := by
  rw [valTo_sum]
  exact sumN_congr fun u hu => by rw [h u hu]; simp
/-- A script that stabilizes and is 0 at the sink. -/
structure Stl (n : Nat) (es : List Ed) (q : Int) (d s : List Int) : Prop where
  st : Stab n es q d s
  z : ∀ i : Nat, (i : Int) = q → s.getD i 0 = 0
/-- What can be taken away, is the sets that fit. -/
theorem fit_iff {q : Int} {d s : List Int} (hd : d.length = n) (hs : Stl n es q d s) {B : List Bool} (hlt : ∀ v, B.getD v false = true → v < n) :
    FitB n es (movedE es s d) s B ↔ ((∀ v, B.getD v false = true → 1 ≤ s.getD v 0) ∧ Stl n es q d (lessB n s B)) := by
  constructor
  · intro h
    refine ⟨h.pos, ⟨lessB_len _ _ _, fun i hi => ?_, fun v hv hq => ?_⟩, fun i hi => ?_⟩
    · rw [lessB_get hi]
      have := hs.st.nn i hi
      split
      · rename_i hb; have := h.pos i hb; omega
      · omega
    · rw [aft_less hg hd v hv]
      have h1 := hs.st.st v hv hq
      have h2 : 0 ≤ insI n es B v := sumN_nonneg fun u _ => by have := (joinE_bd hg v u).1; split <;> omega
      split
      · rename_i hb; have := h.st v hb; omega
      · omega
    · by_cases hin : i < n
      · rw [lessB_get hin, hs.z i hi]
        split
        · rename_i hb; have := h.pos i hb; rw [hs.z i hi] at this; omega
        · rfl
      · rw [List.getD_eq_getElem?_getD, List.getElem?_eq_none (by rw [lessB_len]; omega)]; rfl
  · rintro ⟨h1, h2⟩
    refine ⟨hlt, h1, fun v hb => ?_⟩
    have hv := hlt v hb
    have hq : (v : Int) ≠ q := fun e => by have := h1 v hb; rw [hs.z v e] at this; omega
    have h3 := h2.st.st v hv hq
    rw [aft_less hg hd v hv, if_pos hb] at h3
    omega
/-- Behind taking the greatest set away. -/
theorem gr_stl {q : Int} {d s : List Int} (hd : d.length = n) (hs : Stl n es q d s) : Stl n es q d (lessB n s (grF n es (movedE es s d) s)) :=
  ((fit_iff hg hd hs (grF_fit hs.st.len).lt).1 (grF_fit hs.st.len)).2
/-- WHERE NO SET CAN BE TAKEN AWAY, the script is nowhere greater than another one that stabilizes. -/
theorem none_least {q : Int} {d s t : List Int} (hd : d.length = n) (hs : Stl n es q d s) (ht : Stl n es q d t) (h : ∀ v, (grF n es (movedE es s d) s).getD v false = false) : ∀ i, i < n → s.getD i 0 ≤ t.getD i 0 := by
  refine Classical.byContradiction fun hn => ?_
  have hn' : ∃ i, i < n ∧ t.getD i 0 < s.getD i 0 := by
    refine Classical.byContradiction fun h2 => hn fun i hi => ?_
    exact Int.not_lt.1 fun h3 => h2 ⟨i, hi, h3⟩
  -- the greatest difference
  have hmax : ∀ k, k ≤ n → (∃ i, i < k ∧ t.getD i 0 < s.getD i 0) → ∃ M : Int, 1 ≤ M ∧ (∀ i, i < k → s.getD i 0 - t.getD i 0 ≤ M) ∧ ∃ i, i < k ∧ s.getD i 0 - t.getD i 0 = M := by
    intro k
    induction k with
    | zero => rintro _ ⟨i, hi, -⟩; omega
    | succ k ih =>
      rintro hk ⟨i, hi, hlt⟩
      by_cases h1 : ∃ i, i < k ∧ t.getD i 0 < s.getD i 0
      · obtain ⟨M, hM1, hM2, j, hj, hM3⟩ := ih (by omega) h1
        by_cases h2 : s.getD k 0 - t.getD k 0 ≤ M
        · exact ⟨M, hM1, fun u hu => by rcases Nat.lt_or_ge u k with h3 | h3; exact hM2 u h3; (have : u = k := by omega); rw [this]; exact h2, j, by omega, hM3⟩
        · exact ⟨s.getD k 0 - t.getD k 0, by omega, fun u hu => by rcases Nat.lt_or_ge u k with h3 | h3; (have := hM2 u h3; omega); (have : u = k := by omega); rw [this]; exact Int.le_refl _, k, by omega, rfl⟩
      · have e : i = k := by
          rcases Nat.lt_or_ge i k with h3 | h3
          · exact absurd ⟨i, h3, hlt⟩ h1
          · omega
        subst e
        exact ⟨s.getD i 0 - t.getD i 0, by omega, fun u hu => by
          rcases Nat.lt_or_ge u i with h3 | h3
          · have := Int.not_lt.1 fun h4 => h1 ⟨u, h3, h4⟩
            omega
          · have : u = i := by omega
            rw [this]; exact Int.le_refl _, i, by omega, rfl⟩
  obtain ⟨M, hM1, hM2, j, hj, hM3⟩ := hmax n (Nat.le_refl _) hn'
  let B : List Bool := (List.range n).map fun v => decide (s.getD v 0 - t.getD v 0 = M)
  have hB : ∀ v, B.getD v false = true ↔ v < n ∧ s.getD v 0 - t.getD v 0 = M := by
    intro v
    by_cases hv : v < n <;> simp [B, List.getD_eq_getElem?_getD, hv]
  have hfit : FitB n es (movedE es s d) s B := by
    refine ⟨fun v hv => ((hB v).1 hv).1, fun v hv => ?_, fun v hv => ?_⟩
    · obtain ⟨h1, h2⟩ := (hB v).1 hv
      have := ht.st.nn v h1
      omega
    · obtain ⟨h1, h2⟩ := (hB v).1 hv
      have hq : (v : Int) ≠ q := fun e => by rw [hs.z v e, ht.z v e] at h2; omega
      have h3 := ht.st.st v h1 hq
      rw [aft_eq hg hd, dif_sum hg] at h3 ⊢
      -- sum of join * (s - t - M) is at most the sum over the others, negative
      have h4 : sumN (fun u => joinE es v u * s.getD u 0) n + sumN (fun u => joinE es v u * 1) n ≤ sumN (fun u => joinE es v u * t.getD u 0) n + M * sumN (fun u => joinE es v u * 1) n + insI n es B v := by
        rw [← sumN_mul, ins_sum, ← sumN_add, ← sumN_add, ← sumN_add]
        refine sumN_le fun u hu => ?_
        have hj0 := (joinE_bd hg v u).1
        have hle := hM2 u hu
        by_cases hb : B.getD u false = true
        · rw [if_pos hb]
          have h5 := ((hB u).1 hb).2
          have h6 : s.getD u 0 = t.getD u 0 + M := by omega
          rw [h6, Int.mul_add, Int.mul_one, Int.mul_comm M]
          omega
        · rw [if_neg hb]
          have h5 : ¬ (s.getD u 0 - t.getD u 0 = M) := fun e => hb ((hB u).2 ⟨hu, e⟩)
          have h6 : s.getD u 0 + 1 ≤ t.getD u 0 + M := by omega
          have h7 := Int.mul_le_mul_of_nonneg_left h6 hj0
          rw [Int.mul_add, Int.mul_add] at h7
          rw [Int.mul_one, Int.mul_zero, Int.mul_comm M]
          omega
      have h5 : sumN (fun u => joinE es v u * 1) n = valTo es v n := by rw [valTo_sum]; exact sumN_congr fun u _ => Int.mul_one _
      have h6 : s.getD v 0 = t.getD v 0 + M := by omega
      rw [h5] at h4
      rw [h6, Int.add_mul]
      omega
  have h1 := grF_max hg hfit j ((hB j).2 ⟨hj, hM3⟩)
  rw [h j] at h1
  cases h1
/-- Of two scripts that stabilize the meet is one, too. -/
theorem meet_stl {q : Int} {d s t m : List Int} (hd : d.length = n) (hs : Stl n es q d s) (ht : Stl n es q d t) (hl : m.length = n) (hm : ∀ i, i < n → m.getD i 0 = min (s.getD i 0) (t.getD i 0)) : Stl n es q d m := by
  have key : ∀ {a b : List Int} (v : Nat), Stl n es q d a → v < n → (v : Int) ≠ q → (∀ i, i < n → m.getD i 0 ≤ a.getD i 0) → m.getD v 0 = a.getD v 0 → (movedE es m d).getD v 0 < valTo es v n := by
    intro a b v ha hv hq hle he
    have h1 := ha.st.st v hv hq
    rw [aft_eq hg hd, dif_sum hg] at h1 ⊢
    have h2 : sumN (fun u => joinE es v u * m.getD u 0) n ≤ sumN (fun u => joinE es v u * a.getD u 0) n := sumN_le fun u hu => Int.mul_le_mul_of_nonneg_left (hle u hu) (joinE_bd hg v u).1
    rw [he]
    omega
  refine ⟨⟨hl, fun i hi => ?_, fun v hv hq => ?_⟩, fun i hi => ?_⟩
  · rw [hm i hi]
    have := hs.st.nn i hi
    have := ht.st.nn i hi
    omega
  · have := hm v hv
    rcases Int.le_total (s.getD v 0) (t.getD v 0) with h | h
    · exact key (b := s) v hs hv hq (fun i hi => by have := hm i hi; omega) (by omega)
    · exact key (b := s) v ht hv hq (fun i hi => by have := hm i hi; omega) (by omega)
  · by_cases hin : i < n
    · rw [hm i hin, hs.z i hi, ht.z i hi]; rfl
    · rw [List.getD_eq_getElem?_getD, List.getElem?_eq_none (by omega)]; rfl
end
end Sand
end Go
