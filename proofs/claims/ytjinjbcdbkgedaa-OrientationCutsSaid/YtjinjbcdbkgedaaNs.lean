/-
  Orientations by their indegrees, as a map.
-/
import Derived.Test.YtjinjbcdbkgedaaNr
set_option linter.unusedSimpArgs false
set_option linter.unusedVariables false
namespace Go.Sand
abbrev Cls := List (List Int × List (List Bool))
def alIdx (d : List Int) : Cls → Option Nat
  | [] => none
  | x :: r => if x.1 = d then some 0 else (alIdx d r).map (· + 1)
theorem alIdx_some {d : List Int} : ∀ {L : Cls} {i : Nat}, alIdx d L = some i → ∃ os, L[i]? = some (d, os)
  | x :: r, i, h => by
    rw [alIdx] at h
    split at h
    · rename_i e
      injection h with h
      subst h
      exact ⟨x.2, by rw [← e]; rfl⟩
    · obtain ⟨j, hj, rfl⟩ := Option.map_eq_some_iff.1 h
      obtain ⟨os, hos⟩ := alIdx_some (L := r) hj
      exact ⟨os, by rw [List.getElem?_cons_succ]; exact hos⟩
theorem alIdx_none {d : List Int} : ∀ {L : Cls}, alIdx d L = none → ∀ x ∈ L, x.1 ≠ d
  | y :: r, h, x, hx => by
    rw [alIdx] at h
    split at h
    · cases h
    · rename_i e
      rcases List.mem_cons.1 hx with rfl | hx
      · exact e
      · exact alIdx_none (by simpa using h) x hx
/-- The orientations behind a key. -/
def alGet (L : Cls) (d : List Int) : List (List Bool) := match alIdx d L with
  | some i => (L[i]?).elim [] (·.2)
  | none => []
def alIns (L : Cls) (d : List Int) (o : List Bool) : Cls := match alIdx d L with
  | some i => L.set i (d, alGet L d ++ [o])
  | none => L ++ [(d, [o])]
theorem alIdx_set {d : List Int} {os : List (List Bool)} (d' : List Int) : ∀ {L : Cls} {i : Nat}, alIdx d L = some i → alIdx d' (L.set i (d, os)) = alIdx d' L
  | x :: r, i, h => by
    have h0 := h
    rw [alIdx] at h
    split at h
    · rename_i e
      injection h with h
      subst h
      rw [List.set_cons_zero, alIdx, alIdx, e]
    · obtain ⟨j, hj, rfl⟩ := Option.map_eq_some_iff.1 h
      rw [List.set_cons_succ, alIdx, alIdx, alIdx_set d' hj]
theorem alIdx_app {d : List Int} {os : List (List Bool)} : ∀ {L : Cls}, alIdx d L = none → ∀ d', alIdx d' (L ++ [(d, os)]) = if d' = d then some L.length else alIdx d' L
  | [], _, d' => by
    simp only [List.nil_append, alIdx, List.length_nil]
    by_cases e : d' = d
    · rw [if_pos e.symm, if_pos e]
    · rw [if_neg (fun h => e h.symm), if_neg e]; rfl
  | x :: r, h, d' => by
    rw [alIdx] at h
    split at h
    · cases h
    · rename_i e
      have ih := alIdx_app (os := os) (by simpa using h) d'
      rw [List.cons_append, alIdx, ih]
      by_cases e1 : x.1 = d'
      · have : ¬ d' = d := fun h2 => e (e1.trans h2)
        rw [if_pos e1, if_neg this, alIdx, if_pos e1]
      · rw [if_neg e1]
        by_cases e2 : d' = d
        · rw [if_pos e2, if_pos e2]; rfl
        · rw [if_neg e2, if_neg e2, alIdx, if_neg e1]
theorem alGet_ins (L : Cls) (d : List Int) (o : List Bool) (d' : List Int) : alGet (alIns L d o) d' = if d' = d then alGet L d ++ [o] else alGet L d' := by
  unfold alIns
  cases h : alIdx d L with
  | some i =>
    dsimp only
    obtain ⟨os, hos⟩ := alIdx_some h
    have hi := (List.getElem?_eq_some_iff.1 hos).1
    unfold alGet
    rw [alIdx_set d' h, h]
    by_cases e : d' = d
    · subst e
      rw [h, if_pos rfl]
      simp [hi]
    · rw [if_neg e]
      cases h' : alIdx d' L with
      | none => rfl
      | some j =>
        dsimp only
        by_cases ij : i = j
        · subst ij
          obtain ⟨os', hos'⟩ := alIdx_some h'
          rw [hos] at hos'
          injection hos' with h2
          exact absurd (congrArg Prod.fst h2).symm e
        · rw [List.getElem?_set_ne ij]
  | none =>
    dsimp only
    unfold alGet
    rw [alIdx_app h d', h]
    by_cases e : d' = d
    · rw [if_pos e, if_pos e]
      simp
    · rw [if_neg e, if_neg e]
      cases h' : alIdx d' L with
      | none => rfl
      | some j =>
        dsimp only
        obtain ⟨os', hos'⟩ := alIdx_some h'
        rw [List.getElem?_append_left (List.getElem?_eq_some_iff.1 hos').1]
/-- The first k orientations of m single edges, by their indegrees. -/
def alK (n : Nat) (es : List Ed) (m k : Nat) : Cls := (List.range k).foldl (fun L j => alIns L (inL n es (numB m j)) (numB m j)) []
theorem alK_succ (n : Nat) (es : List Ed) (m k : Nat) : alK n es m (k + 1) = alIns (alK n es m k) (inL n es (numB m k)) (numB m k) := by
  unfold alK; rw [List.range_succ, List.foldl_append]; rfl
theorem alK_mem {n : Nat} {es : List Ed} {m : Nat} (k : Nat) (d : List Int) (o : List Bool) : o ∈ alGet (alK n es m k) d ↔ ∃ j, j < k ∧ o = numB m j ∧ inL n es o = d := by
  induction k with
  | zero => simp [alK, alGet, alIdx]
  | succ k ih =>
    rw [alK_succ, alGet_ins]
    by_cases e : d = inL n es (numB m k)
    · rw [if_pos e, List.mem_append, ← e, ih]
      simp only [List.mem_singleton]
      constructor
      · rintro (⟨j, h1, h2, h3⟩ | rfl)
        · exact ⟨j, by omega, h2, h3⟩
        · exact ⟨k, by omega, rfl, e.symm⟩
      · rintro ⟨j, h1, h2, h3⟩
        by_cases ejk : j = k
        · subst ejk; exact .inr h2
        · exact .inl ⟨j, by omega, h2, h3⟩
    · rw [if_neg e, ih]
      constructor
      · rintro ⟨j, h1, h2, h3⟩; exact ⟨j, by omega, h2, h3⟩
      · rintro ⟨j, h1, h2, h3⟩
        refine ⟨j, ?_, h2, h3⟩
        by_cases ejk : j = k
        · subst ejk; subst h2; exact absurd h3.symm e
        · omega
theorem alK_get {n : Nat} {es : List Ed} {m : Nat} (d : List Int) (o : List Bool) : o ∈ alGet (alK n es m (2 ^ m)) d ↔ o.length = m ∧ inL n es o = d := by
  rw [alK_mem]
  constructor
  · rintro ⟨j, _, rfl, h⟩; exact ⟨numB_len m j, h⟩
  · rintro ⟨h1, h2⟩
    obtain ⟨e1, e2⟩ := num_code m o h1
    exact ⟨codeB o, e2, e1.symm, h2⟩
theorem alIns_len (L : Cls) (d : List Int) (o : List Bool) : (alIns L d o).length ≤ L.length + 1 := by
  unfold alIns
  split
  · rw [List.length_set]; omega
  · rw [List.length_append]; simp
theorem alK_len (n : Nat) (es : List Ed) (m k : Nat) : (alK n es m k).length ≤ k := by
  induction k with
  | zero => simp [alK]
  | succ k ih =>
    rw [alK_succ]
    have := alIns_len (alK n es m k) (inL n es (numB m k)) (numB m k)
    omega
/-- All keys and lists are in range. -/
def OkC (n m : Nat) (L : Cls) : Prop := ∀ x ∈ L, (∀ y ∈ x.1, 0 ≤ y ∧ y < 256) ∧ x.1.length = n ∧ ∀ o ∈ x.2, o.length = m
theorem OkC.ins {n m : Nat} {L : Cls} (h : OkC n m L) {d : List Int} {o : List Bool} (hd : ∀ y ∈ d, 0 ≤ y ∧ y < 256) (hn : d.length = n) (ho : o.length = m) : OkC n m (alIns L d o) := by
  unfold alIns
  cases hi : alIdx d L with
  | none =>
    intro x hx
    rcases List.mem_append.1 hx with hx | hx
    · exact h x hx
    · simp only [List.mem_singleton] at hx
      subst hx
      exact ⟨hd, hn, fun o' ho' => by simp only [List.mem_singleton] at ho'; subst ho'; exact ho⟩
  | some i =>
    intro x hx
    rcases List.mem_or_eq_of_mem_set hx with hx | hx
    · exact h x hx
    · subst hx
      refine ⟨hd, hn, fun o' ho' => ?_⟩
      rcases List.mem_append.1 ho' with ho' | ho'
      · obtain ⟨os, hos⟩ := alIdx_some hi
        unfold alGet at ho'
        rw [hi] at ho'
        dsimp only at ho'
        rw [hos] at ho'
        exact (h _ (List.mem_of_getElem? hos)).2.2 o' ho'
      · simp only [List.mem_singleton] at ho'; subst ho'; exact ho
theorem OkC.get {n m : Nat} {L : Cls} (h : OkC n m L) (d : List Int) : ∀ o ∈ alGet L d, o.length = m := by
  intro o ho
  unfold alGet at ho
  cases hi : alIdx d L with
  | none => rw [hi] at ho; simp at ho
  | some i =>
    obtain ⟨os, hos⟩ := alIdx_some hi
    rw [hi] at ho
    dsimp only at ho
    rw [hos] at ho
    exact (h _ (List.mem_of_getElem? hos)).2.2 o ho
/-- The key of a list of numbers. -/
def dk (d : List Int) : List UInt8 := (Go.Abs.strN d).data.toList
theorem dk_eq (d : List Int) : dk d = d.map fun n => UInt8.ofNat n.toNat := rfl
theorem dk_len (d : List Int) : (dk d).length = d.length := by rw [dk_eq, List.length_map]
theorem u8_inj {x y : Int} (hx : 0 ≤ x ∧ x < 256) (hy : 0 ≤ y ∧ y < 256) (h : UInt8.ofNat x.toNat = UInt8.ofNat y.toNat) : x = y := by
  have h1 := congrArg UInt8.toNat h
  simp only [UInt8.toNat_ofNat'] at h1
  rw [Nat.mod_eq_of_lt (by omega), Nat.mod_eq_of_lt (by omega)] at h1
  omega
theorem dk_inj : ∀ {a b : List Int}, (∀ x ∈ a, 0 ≤ x ∧ x < 256) → (∀ x ∈ b, 0 ≤ x ∧ x < 256) → dk a = dk b → a = b
  | [], [], _, _, _ => rfl
  | [], y :: b, _, _, h => by simp [dk_eq] at h
  | x :: a, [], _, _, h => by simp [dk_eq] at h
  | x :: a, y :: b, ha, hb, h => by
    simp only [dk_eq, List.map_cons, List.cons.injEq] at h
    rw [u8_inj (ha x (by simp)) (hb y (by simp)) h.1, dk_inj (fun z hz => ha z (by simp [hz])) (fun z hz => hb z (by simp [hz])) h.2]
end Go.Sand
namespace Go.Proofs.Ytjinjbcdbkgedaa
open Go.Abs Go.Sand

theorem dIdx_map {α : Type} (f : α → KV × AV) (g : α → List Int) (hf : ∀ x, (f x).1 = .ks (dk (g x))) {d : List Int} (hd : ∀ y ∈ d, 0 ≤ y ∧ y < 256) : ∀ {L : List α}, (∀ x ∈ L, ∀ y ∈ g x, 0 ≤ y ∧ y < 256) → ∀ (i : Nat), (dIdx (.ks (dk d)) (L.map f) = some i → ∃ x, L[i]? = some x ∧ g x = d) ∧ (dIdx (.ks (dk d)) (L.map f) = none → ∀ x ∈ L, g x ≠ d)
  | [], _, i => ⟨fun h => by simp [dIdx] at h, fun _ x hx => by simp at hx⟩
  | x :: L, hL, i => by
    have ih := fun j => dIdx_map f g hf hd (fun y hy => hL y (by simp [hy])) (L := L) j
    rw [List.map_cons, dIdx]
    by_cases e : g x = d
    · rw [if_pos (by rw [hf, e])]
      exact ⟨fun h => by injection h with h; subst h; exact ⟨x, rfl, e⟩, fun h => by cases h⟩
    · have e' : ¬ (f x).1 = .ks (dk d) := fun h => by
        rw [hf] at h
        injection h with h
        exact e (dk_inj (hL x (by simp)) hd h)
      rw [if_neg e']
      constructor
      · intro h
        obtain ⟨j, hj, rfl⟩ := Option.map_eq_some_iff.1 h
        exact (ih j).1 hj
      · intro h y hy
        rcases List.mem_cons.1 hy with rfl | hy
        · exact e
        · exact (ih 0).2 (by simpa using h) y hy
/-- The map while it grows: the lists are objects from number c on. -/
def alD (c : Nat) (L : Cls) : List (KV × AV) := L.zipIdx.map fun x => (.ks (dk x.1.1), .os (x.2 + c) 0 x.1.2.length)
/-- The map as it reads. -/
def alF (L : Cls) : List (KV × AV) := L.map fun x => (.ks (dk x.1), .p (.bos x.2))
def alT (L : Cls) : List AO := L.map fun x => .tab (x.2.map fun o => .p (.bo o)) 25 false
theorem dIdx_alIdx (f : Nat → (List Int × List (List Bool)) → AV) {d : List Int} (hd : ∀ y ∈ d, 0 ≤ y ∧ y < 256) : ∀ (L : Cls) (c : Nat), (∀ x ∈ L, ∀ y ∈ x.1, 0 ≤ y ∧ y < 256) → dIdx (.ks (dk d)) ((L.zipIdx c).map fun x => ((.ks (dk x.1.1) : KV), f x.2 x.1)) = alIdx d L
  | [], c, _ => rfl
  | x :: L, c, hL => by
    rw [List.zipIdx_cons, List.map_cons, dIdx, alIdx, dIdx_alIdx f hd L (c + 1) fun y hy => hL y (by simp [hy])]
    by_cases e : x.1 = d
    · rw [if_pos (by rw [e]), if_pos e]
    · have e' : ¬ (KV.ks (dk x.1) = .ks (dk d)) := fun h => by injection h with h; exact e (dk_inj (hL x (by simp)) hd h)
      rw [if_neg e', if_neg e]
theorem alD_idx {n m c : Nat} {L : Cls} (h : OkC n m L) {d : List Int} (hd : ∀ y ∈ d, 0 ≤ y ∧ y < 256) : dIdx (.ks (dk d)) (alD c L) = alIdx d L := dIdx_alIdx (fun i x => .os (i + c) 0 x.2.length) hd L 0 fun x hx => (h x hx).1
theorem alF_idx {n m : Nat} {L : Cls} (h : OkC n m L) {d : List Int} (hd : ∀ y ∈ d, 0 ≤ y ∧ y < 256) : dIdx (.ks (dk d)) (alF L) = alIdx d L := by
  have := dIdx_alIdx (fun _ x => .p (.bos x.2)) hd L 0 fun x hx => (h x hx).1
  rw [← this]
  congr 1
  unfold alF
  apply List.ext_getElem?
  intro i
  simp [List.getElem?_zipIdx]
  cases L[i]? <;> rfl
theorem alD_get {c : Nat} {L : Cls} {i : Nat} {x : List Int × List (List Bool)} (h : L[i]? = some x) : (alD c L)[i]? = some (.ks (dk x.1), .os (i + c) 0 x.2.length) := by
  simp [alD, List.getElem?_zipIdx, h]
theorem alF_get {L : Cls} {i : Nat} {x : List Int × List (List Bool)} (h : L[i]? = some x) : (alF L)[i]? = some (.ks (dk x.1), .p (.bos x.2)) := by
  simp [alF, h]
theorem alT_get {L : Cls} {i : Nat} {x : List Int × List (List Bool)} (h : L[i]? = some x) : (alT L)[i]? = some (.tab (x.2.map fun o => .p (.bo o)) 25 false) := by
  simp [alT, h]
theorem alD_len (c : Nat) (L : Cls) : (alD c L).length = L.length := by simp [alD]
theorem alT_len (L : Cls) : (alT L).length = L.length := by simp [alT]
theorem alD_app (c : Nat) (L : Cls) (d : List Int) (os : List (List Bool)) : alD c (L ++ [(d, os)]) = alD c L ++ [(.ks (dk d), .os (L.length + c) 0 os.length)] := by
  simp [alD, List.zipIdx_append]
theorem alT_app (L : Cls) (d : List Int) (os : List (List Bool)) : alT (L ++ [(d, os)]) = alT L ++ [.tab (os.map fun o => .p (.bo o)) 25 false] := by simp [alT]
theorem alD_set (c : Nat) (L : Cls) (i : Nat) (d : List Int) (os : List (List Bool)) : alD c (L.set i (d, os)) = (alD c L).set i (.ks (dk d), .os (i + c) 0 os.length) := by
  apply List.ext_getElem?
  intro j
  by_cases e : i = j
  · subst e
    by_cases h : i < L.length
    · rw [alD_get (x := (d, os)) (by simp [h])]
      simp [alD_len, h]
    · rw [List.getElem?_eq_none (by rw [alD_len, List.length_set]; omega), List.getElem?_eq_none (by rw [List.length_set, alD_len]; omega)]
  · rw [List.getElem?_set_ne e]
    simp [alD, List.getElem?_zipIdx, List.getElem?_set_ne e]
theorem alT_set (L : Cls) (i : Nat) (d : List Int) (os : List (List Bool)) : alT (L.set i (d, os)) = (alT L).set i (.tab (os.map fun o => .p (.bo o)) 25 false) := by simp [alT, List.map_set]
end Go.Proofs.Ytjinjbcdbkgedaa
