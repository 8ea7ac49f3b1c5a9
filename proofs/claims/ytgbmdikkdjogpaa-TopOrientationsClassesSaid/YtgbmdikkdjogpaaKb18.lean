/-
  Texts joined: Mnu Nw Nmd Nmf.
-/
import Derived.Test.YtgbmdikkdjogpaaKb17

section
set_option linter.unusedSimpArgs false
set_option linter.unusedVariables false
namespace Go.Sand
abbrev Cls := List (List Int × List (List Bool))
def alIdx (d : List Int) : Cls → Option Nat
  | [] => none
  | x :: r => if x.1 = d then some 0 else (alIdx d r).map (· + 1)
theorem alIdx_some {d : List Int} : ∀ {L : Cls} {i : Nat}, alIdx d L = some i → ∃ os, L[i]? = some (d, os)
  | x :: r, i, h => by
    rw [alIdx] at h
    split at h
    · rename_i e
      injection h with h
      subst h
      exact ⟨x.2, by rw [← e]; rfl⟩
    · obtain ⟨j, hj, rfl⟩ := Option.map_eq_some_iff.1 h
      obtain ⟨os, hos⟩ := alIdx_some (L := r) hj
      exact ⟨os, by rw [List.getElem?_cons_succ]; exact hos⟩
/-- The orientations behind a key. -/
def alGet (L : Cls) (d : List Int) : List (List Bool) := match alIdx d L with
  | some i => (L[i]?).elim [] (·.2)
  | none => []
def alIns (L : Cls) (d : List Int) (o : List Bool) : Cls := match alIdx d L with
  | some i => L.set i (d, alGet L d ++ [o])
  | none => L ++ [(d, [o])]
theorem alIdx_set {d : List Int} {os : List (List Bool)} (d' : List Int) : ∀ {L : Cls} {i : Nat}, alIdx d L = some i → alIdx d' (L.set i (d, os)) = alIdx d' L
  | x :: r, i, h => by
    have h0 := h
    rw [alIdx] at h
    split at h
    · rename_i e
      injection h with h
      subst h
      rw [List.set_cons_zero, alIdx, alIdx, e]
    · obtain ⟨j, hj, rfl⟩ := Option.map_eq_some_iff.1 h
      rw [List.set_cons_succ, alIdx, alIdx, alIdx_set d' hj]
theorem alIdx_app {d : List Int} {os : List (List Bool)} : ∀ {L : Cls}, alIdx d L = none → ∀ d', alIdx d' (L ++ [(d, os)]) = if d' = d then some L.length else alIdx d' L
  | [], _, d' => by
    simp only [List.nil_append, alIdx, List.length_nil]
    by_cases e : d' = d
    · rw [if_pos e.symm, if_pos e]
    · rw [if_neg (fun h => e h.symm), if_neg e]; rfl
  | x :: r, h, d' => by
    rw [alIdx] at h
    split at h
    · cases h
    · rename_i e
      have ih := alIdx_app (os := os) (by simpa using h) d'
      rw [List.cons_append, alIdx, ih]
      by_cases e1 : x.1 = d'
      · have : ¬ d' = d := fun h2 => e (e1.trans h2)
        rw [if_pos e1, if_neg this, alIdx, if_pos e1]
      · rw [if_neg e1]
        by_cases e2 : d' = d
        · rw [if_pos e2, if_pos e2]; rfl
        · rw [if_neg e2, if_neg e2, alIdx, if_neg e1]
theorem alGet_ins (L : Cls) (d : List Int) (o : List Bool) (d' : List Int) : alGet (alIns L d o) d' = if d' = d then alGet L d ++ [o] else alGet L d' := by
  unfold alIns
  cases h : alIdx d L with
  | some i =>
    dsimp only
    obtain ⟨os, hos⟩ := alIdx_some h
    have hi := (List.getElem?_eq_some_iff.1 hos).1
    unfold alGet
    rw [alIdx_set d' h, h]
    by_cases e : d' = d
    · subst e
      rw [h, if_pos rfl]
      simp [hi]
    · rw [if_neg e]
      cases h' : alIdx d' L with
      | none => rfl
      | some j =>
        dsimp only
        by_cases ij : i = j
        · subst ij
          obtain ⟨os', hos'⟩ := alIdx_some h'
          rw [hos] at hos'
          injection hos' with h2
          exact absurd (congrArg Prod.fst h2).symm e
        · rw [List.getElem?_set_ne ij]
  | none =>
    dsimp only
    unfold alGet
    rw [alIdx_app h d', h]
    by_cases e : d' = d
    · rw [if_pos e, if_pos e]
      simp
    · rw [if_neg e, if_neg e]
      cases h' : alIdx d' L with
      | none => rfl
      | some j =>
        dsimp only
        obtain ⟨os', hos'⟩ := alIdx_some h'
        rw [List.getElem?_append_left (List.getElem?_eq_some_iff.1 hos').1]
/-- The first k orientations of m single edges, by their indegrees. -/
def alK (n : Nat) (es : List Ed) (m k : Nat) : Cls := (List.range k).foldl (fun L j => alIns L (inL n es (numB m j)) (numB m j)) []
theorem alK_succ (n : Nat) (es : List Ed) (m k : Nat) : alK n es m (k + 1) = alIns (alK n es m k) (inL n es (numB m k)) (numB m k) := by
  unfold alK; rw [List.range_succ, List.foldl_append]; rfl
theorem alK_mem {n : Nat} {es : List Ed} {m : Nat} (k : Nat) (d : List Int) (o : List Bool) : o ∈ alGet (alK n es m k) d ↔ ∃ j, j < k ∧ o = numB m j ∧ inL n es o = d := by
  induction k with
  | zero => simp [alK, alGet, alIdx]
  | succ k ih =>
    rw [alK_succ, alGet_ins]
    by_cases e : d = inL n es (numB m k)
    · rw [if_pos e, List.mem_append, ← e, ih]
      simp only [List.mem_singleton]
      constructor
      · rintro (⟨j, h1, h2, h3⟩ | rfl)
        · exact ⟨j, by omega, h2, h3⟩
        · exact ⟨k, by omega, rfl, e.symm⟩
      · rintro ⟨j, h1, h2, h3⟩
        by_cases ejk : j = k
        · subst ejk; exact .inr h2
        · exact .inl ⟨j, by omega, h2, h3⟩
    · rw [if_neg e, ih]
      constructor
      · rintro ⟨j, h1, h2, h3⟩; exact ⟨j, by omega, h2, h3⟩
      · rintro ⟨j, h1, h2, h3⟩
        refine ⟨j, ?_, h2, h3⟩
        by_cases ejk : j = k
        · subst ejk; subst h2; exact absurd h3.symm e
        · omega
theorem alK_get {n : Nat} {es : List Ed} {m : Nat} (d : List Int) (o : List Bool) : o ∈ alGet (alK n es m (2 ^ m)) d ↔ o.length = m ∧ inL n es o = d := by
  rw [alK_mem]
  constructor
  · rintro ⟨j, _, rfl, h⟩; exact ⟨numB_len m j, h⟩
  · rintro ⟨h1, h2⟩
    obtain ⟨e1, e2⟩ := num_code m o h1
    exact ⟨codeB o, e2, e1.symm, h2⟩
theorem alIns_len (L : Cls) (d : List Int) (o : List Bool) : (alIns L d o).length ≤ L.length + 1 := by
  unfold alIns
  split
  · rw [List.length_set]; omega
  · rw [List.length_append]; simp
theorem alK_len (n : Nat) (es : List Ed) (m k : Nat) : (alK n es m k).length ≤ k := by
  induction k with
  | zero => simp [alK]
  | succ k ih =>
    rw [alK_succ]
    have := alIns_len (alK n es m k) (inL n es (numB m k)) (numB m k)
    omega
/-- All keys and lists are in range. -/
def OkC (n m : Nat) (L : Cls) : Prop := ∀ x ∈ L, (∀ y ∈ x.1, 0 ≤ y ∧ y < 256) ∧ x.1.length = n ∧ ∀ o ∈ x.2, o.length = m
theorem OkC.ins {n m : Nat} {L : Cls} (h : OkC n m L) {d : List Int} {o : List Bool} (hd : ∀ y ∈ d, 0 ≤ y ∧ y < 256) (hn : d.length = n) (ho : o.length = m) : OkC n m (alIns L d o) := by
  unfold alIns
  cases hi : alIdx d L with
  | none =>
    intro x hx
    rcases List.mem_append.1 hx with hx | hx
    · exact h x hx
    · simp only [List.mem_singleton] at hx
      subst hx
      exact ⟨hd, hn, fun o' ho' => by simp only [List.mem_singleton] at ho'; subst ho'; exact ho⟩
  | some i =>
    intro x hx
    rcases List.mem_or_eq_of_mem_set hx with hx | hx
    · exact h x hx
    · subst hx
      refine ⟨hd, hn, fun o' ho' => ?_⟩
      rcases List.mem_append.1 ho' with ho' | ho'
      · obtain ⟨os, hos⟩ := alIdx_some hi
        unfold alGet at ho'
        rw [hi] at ho'
        dsimp only at ho'
        rw [hos] at ho'
        exact (h _ (List.mem_of_getElem? hos)).2.2 o' ho'
      · simp only [List.mem_singleton] at ho'; subst ho'; exact ho
theorem OkC.get {n m : Nat} {L : Cls} (h : OkC n m L) (d : List Int) : ∀ o ∈ alGet L d, o.length = m := by
  intro o ho
  unfold alGet at ho
  cases hi : alIdx d L with
  | none => rw [hi] at ho; simp at ho
  | some i =>
    obtain ⟨os, hos⟩ := alIdx_some hi
    rw [hi] at ho
    dsimp only at ho
    rw [hos] at ho
    exact (h _ (List.mem_of_getElem? hos)).2.2 o ho
/-- The key of a list of numbers. -/
def dk (d : List Int) : List UInt8 := (Go.Abs.strN d).data.toList
theorem dk_eq (d : List Int) : dk d = d.map fun n => UInt8.ofNat n.toNat := rfl
theorem dk_len (d : List Int) : (dk d).length = d.length := by rw [dk_eq, List.length_map]
theorem u8_inj {x y : Int} (hx : 0 ≤ x ∧ x < 256) (hy : 0 ≤ y ∧ y < 256) (h : UInt8.ofNat x.toNat = UInt8.ofNat y.toNat) : x = y := by
  have h1 := congrArg UInt8.toNat h
  simp only [UInt8.toNat_ofNat'] at h1
  rw [Nat.mod_eq_of_lt (by omega), Nat.mod_eq_of_lt (by omega)] at h1
  omega
theorem dk_inj : ∀ {a b : List Int}, (∀ x ∈ a, 0 ≤ x ∧ x < 256) → (∀ x ∈ b, 0 ≤ x ∧ x < 256) → dk a = dk b → a = b
  | [], [], _, _, _ => rfl
  | [], y :: b, _, _, h => by simp [dk_eq] at h
  | x :: a, [], _, _, h => by simp [dk_eq] at h
  | x :: a, y :: b, ha, hb, h => by
    simp only [dk_eq, List.map_cons, List.cons.injEq] at h
    rw [u8_inj (ha x (by simp)) (hb y (by simp)) h.1, dk_inj (fun z hz => ha z (by simp [hz])) (fun z hz => hb z (by simp [hz])) h.2]
end Go.Sand
namespace Go.Proofs.Ytgbmdikkdjogpaa
open Go.Abs Go.Sand
theorem dIdx_map {α : Type} (f : α → KV × AV) (g : α → List Int) (hf : ∀ x, (f x).1 = .ks (dk (g x))) {d : List Int} (hd : ∀ y ∈ d, 0 ≤ y ∧ y < 256) : ∀ {L : List α}, (∀ x ∈ L, ∀ y ∈ g x, 0 ≤ y ∧ y < 256) → ∀ (i : Nat), (dIdx (.ks (dk d)) (L.map f) = some i → ∃ x, L[i]? = some x ∧ g x = d) ∧ (dIdx (.ks (dk d)) (L.map f) = none → ∀ x ∈ L, g x ≠ d)
  | [], _, i => ⟨fun h => by simp [dIdx] at h, fun _ x hx => by simp at hx⟩
  | x :: L, hL, i => by
    have ih := fun j => dIdx_map f g hf hd (fun y hy => hL y (by simp [hy])) (L := L) j
    rw [List.map_cons, dIdx]
    by_cases e : g x = d
    · rw [if_pos (by rw [hf, e])]
      exact ⟨fun h => by injection h with h; subst h; exact ⟨x, rfl, e⟩, fun h => by cases h⟩
    · have e' : ¬ (f x).1 = .ks (dk d) := fun h => by
        rw [hf] at h
        injection h with h
        exact e (dk_inj (hL x (by simp)) hd h)
      rw [if_neg e']
      constructor
      · intro h
        obtain ⟨j, hj, rfl⟩ := Option.map_eq_some_iff.1 h
        exact (ih j).1 hj
      · intro h y hy
        rcases List.mem_cons.1 hy with rfl | hy
        · exact e
        · exact (ih 0).2 (by simpa using h) y hy
/-- The map while it grows: the lists are objects from number c on. -/
def alD (c : Nat) (L : Cls) : List (KV × AV) := L.zipIdx.map fun x => (.ks (dk x.1.1), .os (x.2 + c) 0 x.1.2.length)
/-- The map as it reads. -/
def alF (L : Cls) : List (KV × AV) := L.map fun x => (.ks (dk x.1), .p (.bos x.2))
def alT (L : Cls) : List AO := L.map fun x => .tab (x.2.map fun o => .p (.bo o)) 25 false
theorem dIdx_alIdx (f : Nat → (List Int × List (List Bool)) → AV) {d : List Int} (hd : ∀ y ∈ d, 0 ≤ y ∧ y < 256) : ∀ (L : Cls) (c : Nat), (∀ x ∈ L, ∀ y ∈ x.1, 0 ≤ y ∧ y < 256) → dIdx (.ks (dk d)) ((L.zipIdx c).map fun x => ((.ks (dk x.1.1) : KV), f x.2 x.1)) = alIdx d L
  | [], c, _ => rfl
  | x :: L, c, hL => by
    rw [List.zipIdx_cons, List.map_cons, dIdx, alIdx, dIdx_alIdx f hd L (c + 1) fun y hy => hL y (by simp [hy])]
    by_cases e : x.1 = d
    · rw [if_pos (by rw [e]), if_pos e]
    · have e' : ¬ (KV.ks (dk x.1) = .ks (dk d)) := fun h => by injection h with h; exact e (dk_inj (hL x (by simp)) hd h)
      rw [if_neg e', if_neg e]
theorem alD_idx {n m c : Nat} {L : Cls} (h : OkC n m L) {d : List Int} (hd : ∀ y ∈ d, 0 ≤ y ∧ y < 256) : dIdx (.ks (dk d)) (alD c L) = alIdx d L := dIdx_alIdx (fun i x => .os (i + c) 0 x.2.length) hd L 0 fun x hx => (h x hx).1
theorem alF_idx {n m : Nat} {L : Cls} (h : OkC n m L) {d : List Int} (hd : ∀ y ∈ d, 0 ≤ y ∧ y < 256) : dIdx (.ks (dk d)) (alF L) = alIdx d L := by
  have := dIdx_alIdx (fun _ x => .p (.bos x.2)) hd L 0 fun x hx => (h x hx).1
  rw [← this]
  congr 1
  unfold alF
  apply List.ext_getElem?
  intro i
  simp [List.getElem?_zipIdx]
  cases L[i]? <;> rfl
theorem alD_get {c : Nat} {L : Cls} {i : Nat} {x : List Int × List (List Bool)} (h : L[i]? = some x) : (alD c L)[i]? = some (.ks (dk x.1), .os (i + c) 0 x.2.length) := by
  simp [alD, List.getElem?_zipIdx, h]
theorem alF_get {L : Cls} {i : Nat} {x : List Int × List (List Bool)} (h : L[i]? = some x) : (alF L)[i]? = some (.ks (dk x.1), .p (.bos x.2)) := by
  simp [alF, h]
theorem alT_get {L : Cls} {i : Nat} {x : List Int × List (List Bool)} (h : L[i]? = some x) : (alT L)[i]? = some (.tab (x.2.map fun o => .p (.bo o)) 25 false) := by
  simp [alT, h]
theorem alD_len (c : Nat) (L : Cls) : (alD c L).length = L.length := by simp [alD]
theorem alT_len (L : Cls) : (alT L).length = L.length := by simp [alT]
theorem alD_app (c : Nat) (L : Cls) (d : List Int) (os : List (List Bool)) : alD c (L ++ [(d, os)]) = alD c L ++ [(.ks (dk d), .os (L.length + c) 0 os.length)] := by
  simp [alD, List.zipIdx_append]
theorem alT_app (L : Cls) (d : List Int) (os : List (List Bool)) : alT (L ++ [(d, os)]) = alT L ++ [.tab (os.map fun o => .p (.bo o)) 25 false] := by simp [alT]
theorem alD_set (c : Nat) (L : Cls) (i : Nat) (d : List Int) (os : List (List Bool)) : alD c (L.set i (d, os)) = (alD c L).set i (.ks (dk d), .os (i + c) 0 os.length) := by
  apply List.ext_getElem?
  intro j
  by_cases e : i = j
  · subst e
    by_cases h : i < L.length
    · rw [alD_get (x := (d, os)) (by simp [h])]
      simp [alD_len, h]
    · rw [List.getElem?_eq_none (by rw [alD_len, List.length_set]; omega), List.getElem?_eq_none (by rw [List.length_set, alD_len]; omega)]
  · rw [List.getElem?_set_ne e]
    simp [alD, List.getElem?_zipIdx, List.getElem?_set_ne e]
theorem alT_set (L : Cls) (i : Nat) (d : List Int) (os : List (List Bool)) : alT (L.set i (d, os)) = (alT L).set i (.tab (os.map fun o => .p (.bo o)) 25 false) := by simp [alT, List.map_set]
end Go.Proofs.Ytgbmdikkdjogpaa
/-
  Contracts: the map of all orientations by their indegrees is filled.
-/
set_option linter.unusedSimpArgs false
set_option linter.unusedVariables false
namespace Go.Abs
theorem nodupB_snoc : ∀ {l : List Nat} {x : Nat}, nodupB l = true → x ∉ l → nodupB (l ++ [x]) = true
  | [], x, _, _ => by simp [nodupB]
  | y :: l, x, h, hx => by
    simp only [nodupB, Bool.and_eq_true] at h
    rw [List.cons_append, nodupB, nodupB_snoc h.2 (fun hm => hx (by simp [hm]))]
    have : x ≠ y := fun e => hx (by simp [e])
    simp at h
    simp [h.1, Ne.symm this]
theorem firstB_app : ∀ {m k : Nat} {l l' : List Nat}, firstB k m l = true → firstB k m (l ++ l') = true
  | 0, k, l, l', _ => by unfold firstB; rfl
  | m + 1, k, [], l', h => by simp [firstB] at h
  | m + 1, k, x :: l, l', h => by
    simp only [firstB, Bool.and_eq_true] at h
    rw [List.cons_append, firstB, firstB_app h.2, h.1]; rfl
theorem okσ_snoc {c x : Nat} {H : List AO} (h1 : c ≤ x) (h2 : x < H.length) : okσ (List.range c ++ [x]) c H = true := by
  simp only [okσ, Bool.and_eq_true]
  refine ⟨⟨List.all_eq_true.2 fun o ho => ?_, nodupB_snoc ?_ (by simp; omega)⟩, firstB_app ?_⟩
  · rcases List.mem_append.1 ho with ho | ho
    · have := List.mem_range.1 ho
      exact decide_eq_true (by omega)
    · simp only [List.mem_singleton] at ho
      exact decide_eq_true (by omega)
  · rw [List.range_eq_range']; exact nodupB_range' c 0
  · rw [List.range_eq_range']; exact firstB_range' c c 0 (Nat.le_refl _)
theorem idx_app : ∀ (l : List Nat) (k x o : Nat), idx (l ++ [x]) k o = match idx l k o with
    | some j => some j
    | none => if x = o then some (k + l.length) else none
  | [], k, x, o => by
    rw [List.nil_append, idx_at, idx_at0]
    simp only [idx_at0]
    rfl
  | y :: l, k, x, o => by
    rw [List.cons_append, idx_at, idx_at, idx_app l (k + 1) x o]
    by_cases e : y = o
    · rw [if_pos e, if_pos e]
    · rw [if_neg e, if_neg e]
      cases idx l (k + 1) o with
      | some j => rfl
      | none => dsimp only; rw [List.length_cons]; split <;> simp; omega
theorem idx_snoc_lt {c x o : Nat} (h : o < c) : idx (List.range c ++ [x]) 0 o = some o := by rw [idx_app, idx_range h]
theorem idx_snoc_at {c x : Nat} (h : c ≤ x) : idx (List.range c ++ [x]) 0 x = some c := by rw [idx_app, idx_range_none h]; simp
theorem renH_snoc {A B : List AO} {x : Nat} {ob : AO} (hx : (A ++ B)[x]? = some ob) : renH (List.range A.length ++ [x]) (A ++ B) = A.map (fun o => o.ren (A ++ B) (idx (List.range A.length ++ [x]) 0)) ++ [ob.ren (A ++ B) (idx (List.range A.length ++ [x]) 0)] := by
  unfold renH
  rw [List.map_append, List.map_singleton, List.getD_eq_getElem?_getD, hx, Option.getD_some]
  congr 1
  apply List.ext_getElem?
  intro i
  by_cases h : i < A.length
  · simp [h, List.getD_eq_getElem?_getD, List.getElem?_append_left h]
  · simp [h]
end Go.Abs
namespace Go.Proofs.Ytgbmdikkdjogpaa
open Go.Abs Go.Sand
attribute [local simp] app_0 app_i
abbrev alB (N : Int) (es : List Ed) (m : Nat) (lp : AO) (b : List Bool) (L : Cls) : List AO :=
  [.box (.p (G N es)), .dict .str (alD 6 L), .box (.mp 1), .box (.p (.i m)), lp, rowB b]
abbrev alH (N : Int) (es : List Ed) (m : Nat) (lp : AO) (b : List Bool) (L : Cls) : List AO := alB N es m lp b L ++ alT L
theorem alB_lo {N : Int} {es : List Ed} {m : Nat} {b : List Bool} {L : Cls} {t : List (Nat × AV)} {st : LSt} {ca cc : Code} (ht : ∀ c, 6 ≤ c → loT c t = true) : ∀ ob ∈ alH N es m (.lp 156 t [50] ca cc st) b L, loO (6 + L.length) ob = true := by
  intro ob hob
  rcases List.mem_append.1 hob with h | h
  · simp only [List.mem_cons, List.not_mem_nil, or_false] at h
    rcases h with rfl | rfl | rfl | rfl | rfl | rfl
    · rfl
    · refine List.all_eq_true.2 fun x hx => ?_
      obtain ⟨y, hy, rfl⟩ := List.mem_map.1 hx
      have := List.mem_zipIdx hy
      simp only [loA, decide_eq_true_eq]
      omega
    · simp [loO, loA]; omega
    · rfl
    · exact ht _ (by omega)
    · rfl
  · obtain ⟨x, _, rfl⟩ := List.mem_map.1 h
    exact loL_bos _ _
theorem clone_al {e : Bool} {N : Int} {es : List Ed} {m : Nat} {b : List Bool} {L : Cls} {t : List (Nat × AV)} {st : LSt} {ca cc : Code} {Z : List AO} {K : AV → List AO → Prop} (ht : ∀ c, 6 ≤ c → loT c t = true) (hb : b.length = m) (hm : m ≤ 1000)
    (hK : ∀ Z', K (.p (.bo b)) (.box (.p (G N es)) :: .dict .str (alD 6 L) :: .box (.mp 1) :: .box (.p (.i m)) :: .lp 156 t [50] ca cc st :: rowB b :: (alT L ++ Z'))) :
    HC Try.prog e 24 [.os 5 0 m] (.box (.p (G N es)) :: .dict .str (alD 6 L) :: .box (.mp 1) :: .box (.p (.i m)) :: .lp 156 t [50] ca cc st :: rowB b :: (alT L ++ Z)) K :=
  cloneN_hc (A := alH N es m (.lp 156 t [50] ca cc st) b L) (Z := Z) (by simp [alH, alB]) (by
    have h := alB_lo (N := N) (es := es) (m := m) (b := b) (L := L) (st := st) (ca := ca) (cc := cc) ht
    have hl : (alH N es m (.lp 156 t [50] ca cc st) b L).length = 6 + L.length := by simp [alH, alB, alT_len]; omega
    rw [hl]; exact h) (by simp [alH, alB]) hb (by omega) fun Z' => by
    have := hK Z'
    simpa [alH, alB] using this
theorem al_new {N : Int} {es : List Ed} {m : Nat} {bb : List Bool} {L : Cls} {t : List (Nat × AV)} {st : LSt} {ca cc : Code} {Z : List AO} {dd : List Int} {K : AV → List AO → Prop} (ht : ∀ c, 6 ≤ c → loT c t = true)
    (hK : K (.b true) (alH N es m (.lp 156 t [50] ca cc st) bb (L ++ [(dd, [bb])]))) :
    ∃ σ, okσ σ ((alT L).length + 1 + 1 + 1 + 1 + 1 + 1) (.box (.p (G N es)) :: .dict .str (alD 6 L ++ [(.ks (strN dd).data.toList, .os ((alT L).length + (Z.length + 1) + 1 + 1 + 1 + 1 + 1 + 1) 0 1)]) :: .box (.mp 1) :: .box (.p (.i m)) :: .lp 156 t [50] ca cc st :: rowB bb :: (alT L ++ (Z ++ [.tab [.p (.bo bb)] 25 false, .tab [.p (.bo bb)] 25 false]))) = true ∧
      K (.p (.v (.bool true))) (renH σ (.box (.p (G N es)) :: .dict .str (alD 6 L ++ [(.ks (strN dd).data.toList, .os ((alT L).length + (Z.length + 1) + 1 + 1 + 1 + 1 + 1 + 1) 0 1)]) :: .box (.mp 1) :: .box (.p (.i m)) :: .lp 156 t [50] ca cc st :: rowB bb :: (alT L ++ (Z ++ [.tab [.p (.bo bb)] 25 false, .tab [.p (.bo bb)] 25 false])))) := by
  obtain ⟨X, hX⟩ : ∃ X, X = (alT L).length + (Z.length + 1) + 1 + 1 + 1 + 1 + 1 + 1 := ⟨_, rfl⟩
  obtain ⟨A, hA⟩ : ∃ A, A = [AO.box (.p (G N es)), .dict .str (alD 6 L ++ [(.ks (strN dd).data.toList, .os X 0 1)]), .box (.mp 1), .box (.p (.i m)), .lp 156 t [50] ca cc st, rowB bb] ++ alT L := ⟨_, rfl⟩
  obtain ⟨B, hB⟩ : ∃ B, B = Z ++ [AO.tab [.p (.bo bb)] 25 false, .tab [.p (.bo bb)] 25 false] := ⟨_, rfl⟩
  have hAl : A.length = 6 + L.length := by rw [hA]; simp [alT_len]; omega
  have hc : (alT L).length + 1 + 1 + 1 + 1 + 1 + 1 = A.length := by rw [hAl, alT_len]; omega
  have hXA : X = A.length + (Z.length + 1) := by rw [hX, hAl, alT_len]; omega
  have hH : AO.box (.p (G N es)) :: .dict .str (alD 6 L ++ [(.ks (strN dd).data.toList, .os X 0 1)]) :: .box (.mp 1) :: .box (.p (.i m)) :: .lp 156 t [50] ca cc st :: rowB bb :: (alT L ++ (Z ++ [.tab [.p (.bo bb)] 25 false, .tab [.p (.bo bb)] 25 false])) = A ++ B := by rw [hA, hB]; simp
  have hx : (A ++ B)[X]? = some (.tab [.p (.bo bb)] 25 false) := by rw [hXA, app_i, hB, app_i]; rfl
  rw [← hX, hH, hc]
  refine ⟨List.range A.length ++ [X], okσ_snoc (by omega) (List.getElem?_eq_some_iff.1 hx).1, ?_⟩
  rw [renH_snoc hx]
  have hlt : ∀ o, o < A.length → Abs.idx (List.range A.length ++ [X]) 0 o = some o := fun o ho => idx_snoc_lt ho
  have hat : Abs.idx (List.range A.length ++ [X]) 0 X = some A.length := idx_snoc_at (by omega)
  have e1 : A.map (fun o => o.ren (A ++ B) (Abs.idx (List.range A.length ++ [X]) 0)) = [AO.box (.p (G N es)), .dict .str (alD 6 (L ++ [(dd, [bb])])), .box (.mp 1), .box (.p (.i m)), .lp 156 t [50] ca cc st, rowB bb] ++ alT L := by
    generalize Abs.idx (List.range A.length ++ [X]) 0 = ρ at *
    generalize hAB : A ++ B = H at *
    rw [hA, List.map_append]
    have hT : (alT L).map (fun o => o.ren H ρ) = alT L := by
      conv => rhs; rw [← List.map_id (alT L)]
      refine List.map_congr_left fun o ho => ?_
      obtain ⟨x, _, rfl⟩ := List.mem_map.1 ho
      exact loO_ren (m := 0) (fun i h => by omega) _ (loL_bos 0 _)
    rw [hT]
    congr 1
    have hlp : (AO.lp 156 t [50] ca cc st).ren H ρ = .lp 156 t [50] ca cc st := lp_ren (ht _ (Nat.le_refl 6)) (fun i hi => hlt i (by omega))
    have hD : (alD 6 L).map (fun x => (x.1, x.2.ren H ρ)) = alD 6 L := by
      conv => rhs; rw [← List.map_id (alD 6 L)]
      refine List.map_congr_left fun x hx => ?_
      obtain ⟨y, hy, rfl⟩ := List.mem_map.1 hx
      have := List.mem_zipIdx hy
      simp [AV.ren, hlt (y.2 + 6) (by omega)]
    simp only [List.map_cons, List.map_nil, hlp]
    simp only [AO.ren, List.map_append, hD, alD_app, List.map_cons, List.map_nil, List.length_singleton]
    simp [AV.ren, hlt 1 (by omega), hat, hAl, dk, Nat.add_comm]
  have e2 : (AO.tab [.p (.bo bb)] 25 false).ren (A ++ B) (Abs.idx (List.range A.length ++ [X]) 0) = .tab [.p (.bo bb)] 25 false := rfl
  rw [e1, e2]
  have e3 : [AO.box (.p (G N es)), .dict .str (alD 6 (L ++ [(dd, [bb])])), .box (.mp 1), .box (.p (.i m)), .lp 156 t [50] ca cc st, rowB bb] ++ alT L ++ [.tab [.p (.bo bb)] 25 false] = alH N es m (.lp 156 t [50] ca cc st) bb (L ++ [(dd, [bb])]) := by
    simp [alH, alB, alT_app]
  rw [e3]
  exact hK
theorem al_old {N : Int} {es : List Ed} {m : Nat} {bb : List Bool} {L : Cls} {t : List (Nat × AV)} {st : LSt} {ca cc : Code} {Z : List AO} {dd : List Int} {os : List (List Bool)} {i : Nat} {T1 : AO} {K : AV → List AO → Prop} (ht : ∀ c, 6 ≤ c → loT c t = true) (hi : i < (alT L).length)
    (hK : K (.b true) (alH N es m (.lp 156 t [50] ca cc st) bb (L.set i (dd, os ++ [bb])))) :
    ∃ σ, okσ σ ((alT L).length + 1 + 1 + 1 + 1 + 1 + 1) (.box (.p (G N es)) :: .dict .str ((alD 6 L).set i (.ks (strN dd).data.toList, .os (i + 6) 0 (os.length + 1))) :: .box (.mp 1) :: .box (.p (.i m)) :: .lp 156 t [50] ca cc st :: rowB bb :: ((alT L).set i (.tab (os.map (fun o => .p (.bo o)) ++ [.p (.bo bb)]) 25 false) ++ (Z ++ [T1]))) = true ∧
      K (.p (.v (.bool true))) (renH σ (.box (.p (G N es)) :: .dict .str ((alD 6 L).set i (.ks (strN dd).data.toList, .os (i + 6) 0 (os.length + 1))) :: .box (.mp 1) :: .box (.p (.i m)) :: .lp 156 t [50] ca cc st :: rowB bb :: ((alT L).set i (.tab (os.map (fun o => .p (.bo o)) ++ [.p (.bo bb)]) 25 false) ++ (Z ++ [T1])))) := by
  have h1 := alD_set 6 L i dd (os ++ [bb])
  have h2 := alT_set L i dd (os ++ [bb])
  rw [List.length_append, List.length_singleton] at h1
  rw [List.map_append, List.map_singleton] at h2
  have h1' : (alD 6 L).set i (.ks (strN dd).data.toList, .os (i + 6) 0 (os.length + 1)) = alD 6 (L.set i (dd, os ++ [bb])) := h1.symm
  rw [h1', ← h2]
  obtain ⟨L', hL'⟩ : ∃ L', L' = L.set i (dd, os ++ [bb]) := ⟨_, rfl⟩
  have hll : (alT L).length = (alT L').length := by rw [hL', alT_len, alT_len, List.length_set]
  rw [← hL'] at hK ⊢
  rw [hll]
  have hA := alB_lo (N := N) (es := es) (m := m) (b := bb) (L := L') (st := st) (ca := ca) (cc := cc) ht
  have hH : AO.box (.p (G N es)) :: .dict .str (alD 6 L') :: .box (.mp 1) :: .box (.p (.i m)) :: .lp 156 t [50] ca cc st :: rowB bb :: (alT L' ++ (Z ++ [T1])) = alH N es m (.lp 156 t [50] ca cc st) bb L' ++ (Z ++ [T1]) := by simp [alH, alB]
  have hl : (alH N es m (.lp 156 t [50] ca cc st) bb L').length = 6 + L'.length := by simp [alH, alB, alT_len]; omega
  have hc : (alT L').length + 1 + 1 + 1 + 1 + 1 + 1 = (alH N es m (.lp 156 t [50] ca cc st) bb L').length := by rw [hl, alT_len]; omega
  rw [hH, hc]
  rw [← hl] at hA
  refine ⟨List.range (alH N es m (.lp 156 t [50] ca cc st) bb L').length, okσ_range (Nat.le_refl _) (Nat.le_trans (Nat.le_add_right _ _) (Nat.le_of_eq List.length_append.symm)), ?_⟩
  rw [renH_range, map_ren_lo hA (Nat.le_refl _)]
  exact hK
theorem al_round {n m : Nat} {es : List Ed} (hg : gcheck n es = 0) (hel : es.length ≤ 1000) (hme : (endsL es).length = m) (hm : m ≤ 12) {t : List (Nat × AV)} (ht : ∀ c, 6 ≤ c → loT c t = true) (ht3 : Abs.get t 3 = .ptr 0 1 0 0) (ht11 : Abs.get t 11 = .ptr 2 1 0 0)
    {L : Cls} (hL : OkC n m L) (hLl : L.length ≤ 5000) {b : List Bool} (hb : b.length = m) (hos : ∀ x ∈ L, x.2.length ≤ 5000) {K : AV → List AO → Prop}
    (hK : K (.b true) (alH n es m (.lp 156 t [50] rc11_0a rc11_0c .ready) b (alIns L (inL n es b) b))) :
    HY Try.prog 4 [.os 5 0 m] (alH n es m (.lp 156 t [50] rc11_0a rc11_0c .ready) b L) K := by
  have hgood := gcheck_ok hg
  have hn := hgood.n12
  have hol : b.length = (endsL es).length := by omega
  have hdl := inL_len n es b
  have hdb : ∀ x ∈ inL n es b, 0 ≤ x ∧ x < 256 := fun x hx => by have := inL_mem_bd hgood.right hol hx; omega
  have hcz := calm_rowZ (inL n es b)
  have hix0 := alD_idx (c := 6) hL hdb
  have hft : (strN (inL n es b)).data.toList.length ≤ maxLen := by
    have : (strN (inL n es b)).data.toList.length = n := (dk_len (inL n es b)).trans hdl
    rw [this]; unfold maxLen; omega
  have hft3 : (strN (inL n es b)).size ≤ maxLen := by simpa using hft
  have hft2 : (strN (inL n es b)).data.size ≤ maxLen := by simpa using hft
  refine HY_norm (HY_of_W rfl rcc11_0a rcc11_0c rfl rfl rfl rfl ?_)
  dsimp only [alH, alB]
  simp -implicitDefEqProofs (disch := omega) [List.getElem?_cons_zero, List.getElem?_cons_succ, wrap_id, ra11_0a, ra11_0c, ht3]
  refine HC_of_PC (by simp [views, view, viewC, ownEls, hb]) (indegrees_ok n es b hg hel hol) ?_
  simp -implicitDefEqProofs (disch := omega) [List.getElem?_cons_zero, List.getElem?_cons_succ, wrap_id, hcz, hb]
  refine HC_of_PC (by simp [views, view, viewC, ownEls, hdl]) (key_ok (inL n es b) (by omega) hdb) ?_
  simp -implicitDefEqProofs (disch := omega) [List.getElem?_cons_zero, List.getElem?_cons_succ, wrap_id]
  refine tree_all ?_
  cases hai : alIdx (inL n es b) L with
  | none =>
    have hix : dIdx (.ks (strN (inL n es b)).data.toList) (alD 6 L) = none := hix0.trans hai
    have hal : alIns L (inL n es b) b = L ++ [(inL n es b, [b])] := by unfold alIns; rw [hai]
    rw [hal] at hK
    simp -implicitDefEqProofs (disch := omega) [List.getElem?_cons_zero, List.getElem?_cons_succ, wrap_id, hft, hft2, hft3, hix, ht11]
    repeat' apply And.intro
    all_goals
      refine clone_al ht hb (by omega) fun Z => ?_
      simp -implicitDefEqProofs (disch := omega) [List.getElem?_cons_zero, List.getElem?_cons_succ, wrap_id, hft, hft2, hft3, hix, ht11]
    all_goals exact al_new ht hK
  | some i =>
    have hix : dIdx (.ks (strN (inL n es b)).data.toList) (alD 6 L) = some i := hix0.trans hai
    obtain ⟨os, hLi⟩ := alIdx_some hai
    have hDi := alD_get (c := 6) hLi
    have hTi := alT_get hLi
    have hil := (List.getElem?_eq_some_iff.1 hTi).1
    have hTi2 : ∀ W, (alT L ++ W)[i]? = some (.tab (os.map fun o => .p (.bo o)) 25 false) := fun W => by rw [List.getElem?_append_left hil]; exact hTi
    have hTs : ∀ W x, (alT L ++ W).set i x = (alT L).set i x ++ W := fun W x => List.set_append_left _ _ hil
    have hol5 : os.length + 1 ≤ 1048576 := by have := hos _ (List.mem_of_getElem? hLi); dsimp only at this; omega
    have hal : alIns L (inL n es b) b = L.set i (inL n es b, os ++ [b]) := by unfold alIns alGet; rw [hai]; dsimp only; rw [hLi]; rfl
    rw [hal] at hK
    simp -implicitDefEqProofs (disch := omega) [List.getElem?_cons_zero, List.getElem?_cons_succ, wrap_id, hft, hft2, hft3, hix, ht11, hDi]
    repeat' apply And.intro
    all_goals
      refine clone_al ht hb (by omega) fun Z => ?_
      simp -implicitDefEqProofs (disch := omega) [List.getElem?_cons_zero, List.getElem?_cons_succ, wrap_id, hft, hft2, hft3, hix, ht11, hDi, hTi2, hTs, hol5]
    all_goals exact al_old ht hil hK
theorem alK_cls (n : Nat) (es : List Ed) (m k : Nat) : ∀ x ∈ alK n es m k, x.2.length ≤ k := by
  induction k with
  | zero => intro x hx; simp [alK] at hx
  | succ k ih =>
    intro x hx
    rw [alK_succ] at hx
    unfold alIns at hx
    split at hx
    · rename_i i hi
      rcases List.mem_or_eq_of_mem_set hx with hx | rfl
      · have := ih x hx; omega
      · obtain ⟨os, hos⟩ := alIdx_some hi
        have := ih _ (List.mem_of_getElem? hos)
        unfold alGet
        rw [hi]
        dsimp only at this ⊢
        rw [hos, List.length_append]
        simp
        omega
    · rcases List.mem_append.1 hx with hx | hx
      · have := ih x hx; omega
      · simp only [List.mem_singleton] at hx
        subst hx
        simp
theorem alK_ok {n : Nat} {es : List Ed} (hg : gcheck n es = 0) {m : Nat} (hme : (endsL es).length = m) (hm : m ≤ 12) (k : Nat) : OkC n m (alK n es m k) := by
  induction k with
  | zero => intro x hx; simp [alK] at hx
  | succ k ih =>
    rw [alK_succ]
    have hgood := gcheck_ok hg
    exact ih.ins (fun x hx => by have := inL_mem_bd hgood.right (by rw [numB_len, hme]) hx; omega) (inL_len _ _ _) (numB_len _ _)
theorem al_range {n m : Nat} {es : List Ed} (hg : gcheck n es = 0) (hel : es.length ≤ 1000) (hme : (endsL es).length = m) (hm : m ≤ 12) {t : List (Nat × AV)} (ht : ∀ c, 6 ≤ c → loT c t = true) (ht3 : Abs.get t 3 = .ptr 0 1 0 0) (ht11 : Abs.get t 11 = .ptr 2 1 0 0) {K : AV → List AO → Prop}
    (hK : ∀ r b, K r (alH n es m (.lp 156 t [50] rc11_0a rc11_0c .ready) b (alK n es m (2 ^ m)))) :
    HC Try.prog false 47 [.yl 4, .ptr 3 1 0 0] [.box (.p (G n es)), .dict .str [], .box (.mp 1), .box (.p (.i m)), .lp 156 t [50] rc11_0a rc11_0c .ready] K := by
  have h12 : 2 ^ m ≤ 4096 := Nat.pow_le_pow_right (n := 2) (by omega) hm
  refine orients_range (L := 5) (Hk := fun k b => alH n es m (.lp 156 t [50] rc11_0a rc11_0c .ready) b (alK n es m k)) (by omega) rfl rfl (fun k b => rfl) (fun k b => rfl) (fun k b => rfl) rfl (fun k b b' => rfl) (fun T => Wk.refl _ _) (fun k hk K' hK' => ?_) hK
  have hl := alK_len n es m k
  rw [alK_succ] at hK'
  exact al_round hg hel hme hm ht ht3 ht11 (alK_ok hg hme hm k) (by omega) (numB_len m k) (fun x hx => by have := alK_cls n es m k x hx; omega) hK'
end Go.Proofs.Ytgbmdikkdjogpaa
/-
  Contracts: orientations are looked through, class by class.
-/
set_option linter.unusedSimpArgs false
set_option linter.unusedVariables false
namespace Go.Sand
/-- The set of marks of a number. -/
def setM (n k : Nat) : List Bool := (List.range n).map fun v => decide (Go.Abs.bitN k v = 1)
/-- The set of marks of a number while it is made. -/
def setJ (n k j : Nat) : List Bool := (List.range n).map fun v => decide (v < j ∧ Go.Abs.bitN k v = 1)
theorem setJ_len (n k j : Nat) : (setJ n k j).length = n := by simp [setJ]
theorem setJ_zero (n k : Nat) : setJ n k 0 = List.replicate n false := by
  apply List.ext_getElem?
  intro i
  by_cases h : i < n <;> simp [setJ, h]
theorem setJ_end (n k : Nat) : setJ n k n = setM n k := by
  refine List.map_congr_left fun v hv => ?_
  have := List.mem_range.1 hv
  simp [this]
theorem setJ_set {n k j : Nat} (h : j < n) : (setJ n k j).set j (decide (Go.Abs.bitN k j = 1)) = setJ n k (j + 1) := by
  apply List.ext_getElem?
  intro i
  rw [List.getElem?_set]
  simp only [setJ, List.length_map, List.length_range, h, if_true, List.getElem?_map]
  by_cases hi : i < n
  · rw [List.getElem?_range hi]
    by_cases e : j = i
    · subst e; simp
    · rw [if_neg e]
      simp only [Option.map_some, Option.some.injEq]
      rw [decide_eq_decide]
      constructor
      · rintro ⟨a, b⟩; exact ⟨by omega, b⟩
      · rintro ⟨a, b⟩; exact ⟨by omega, b⟩
  · rw [List.getElem?_eq_none (by simpa using hi), if_neg (by omega)]; rfl
theorem setM_len (n k : Nat) : (setM n k).length = n := by simp [setM]
theorem setM_at {n k v : Nat} (h : v < (setM n k).length) : (setM n k)[v] = decide (Go.Abs.bitN k v = 1) := by simp [setM]
def setsK (n k : Nat) : List (List Bool) := (List.range k).map (setM n)
theorem setsK_succ (n k : Nat) : setsK n (k + 1) = setsK n k ++ [setM n k] := by simp [setsK, List.range_succ]
theorem setsK_len (n k : Nat) : (setsK n k).length = k := by simp [setsK]
theorem setsK_at {n k j : Nat} (h : j < (setsK n k).length) : (setsK n k)[j] = setM n j := by simp [setsK]
/-- One step: a directed cut is reversed. -/
def StepD (n m : Nat) (es : List Ed) (d d' : List Int) : Prop := ∃ o : List Bool, o.length = m ∧ inL n es o = d ∧ ∃ j, j < 2 ^ n ∧ wayP (mkB (setM n j)) es o ≠ 0 ∧ inL n es (turnL es (setM n j) o) = d'
inductive ReachD (n m : Nat) (es : List Ed) (a : List Int) : List Int → Prop
  | refl : ReachD n m es a a
  | step {d d' : List Int} (h : ReachD n m es a d) (s : StepD n m es d d') : ReachD n m es a d'
end Go.Sand
namespace Go.Proofs.Ytgbmdikkdjogpaa
open Go.Abs Go.Sand
abbrev rowS (l : List (List Int)) : AO := .row (l.map PV.st) 1 9 false
def seenD (S : List (List Int)) : List (KV × AV) := S.map fun d => (.ks (dk d), .p (.v (.bool true)))
theorem seenD_ren (S : List (List Int)) (H : List AO) (ρ : Nat → Option Nat) : (seenD S).map (fun x => (x.1, x.2.ren H ρ)) = seenD S := by
  simp only [seenD, List.map_map]
  refine List.map_congr_left fun x _ => ?_
  simp [AV.ren]
theorem alF_ren (L : Cls) (H : List AO) (ρ : Nat → Option Nat) : (alF L).map (fun x => (x.1, x.2.ren H ρ)) = alF L := by
  simp only [alF, List.map_map]
  refine List.map_congr_left fun x _ => ?_
  simp [AV.ren]
theorem renL_app (H : List AO) (ρ : Nat → Option Nat) (a b : List AV) : renL H ρ (a ++ b) = renL H ρ a ++ renL H ρ b := by simp [renL_eq]
theorem read_at {l : List (List Bool)} {t : TypeId} {fz : Bool} {n o : Nat} {H : List AO} {ρ : Nat → Option Nat} (ho : H[o]? = some (.tab (l.map fun o => AV.p (.bo o)) t fz)) (hρ : ρ o = none) (hn : n = l.length) : AV.ren H ρ (.os o 0 n) = .p (.bos l) := by
  have hp : ∀ x ∈ (l.map PV.bo).map AV.p, ∃ q, x = .p q := fun x hx => by obtain ⟨q, _, rfl⟩ := List.mem_map.1 hx; exact ⟨q, rfl⟩
  have h1 : ∀ e ∈ l.map PV.bo, e.one = true := fun e he => by obtain ⟨o, _, rfl⟩ := List.mem_map.1 he; rfl
  have e1 : (l.map fun o => AV.p (.bo o)) = (l.map PV.bo).map AV.p := by rw [List.map_map]; rfl
  subst hn
  rw [AV.ren]
  simp only [hρ, ho, e1, ren0_ps hp, allOne_ps _ h1, Nat.zero_add, List.length_map, if_true, List.drop_zero]
theorem seenD_none {S : List (List Int)} (hS : ∀ x ∈ S, ∀ y ∈ x, 0 ≤ y ∧ y < 256) {d : List Int} (hd : ∀ y ∈ d, 0 ≤ y ∧ y < 256) (h : d ∉ S) : dIdx (.ks (dk d)) (seenD S) = none := by
  cases hi : dIdx (.ks (dk d)) (seenD S) with
  | none => rfl
  | some i =>
    obtain ⟨x, hx, rfl⟩ := (dIdx_map (fun d => (.ks (dk d), .p (.v (.bool true)))) (fun d => d) (fun _ => rfl) hd hS i).1 hi
    exact absurd (List.mem_of_getElem? hx) h
theorem seenD_some {S : List (List Int)} (hS : ∀ x ∈ S, ∀ y ∈ x, 0 ≤ y ∧ y < 256) {d : List Int} (hd : ∀ y ∈ d, 0 ≤ y ∧ y < 256) (h : d ∈ S) : ∃ i, dIdx (.ks (dk d)) (seenD S) = some i ∧ ∃ x, (seenD S)[i]? = some (x, .p (.v (.bool true))) := by
  cases hi : dIdx (.ks (dk d)) (seenD S) with
  | none => exact absurd rfl ((dIdx_map (fun d => (.ks (dk d), .p (.v (.bool true)))) (fun d => d) (fun _ => rfl) hd hS 0).2 hi d h)
  | some i =>
    obtain ⟨x, hx, _⟩ := (dIdx_map (fun d => (.ks (dk d), .p (.v (.bool true)))) (fun d => d) (fun _ => rfl) hd hS i).1 hi
    exact ⟨i, rfl, .ks (dk x), by simp [seenD, hx]⟩
theorem seenD_snoc (S : List (List Int)) (d : List Int) : seenD (S ++ [d]) = seenD S ++ [(.ks (dk d), .p (.v (.bool true)))] := by simp [seenD]
theorem ones_S (l : List (List Int)) : (l.map PV.st).all (·.one) = true := by simp [List.all_map]
/-- The objects while classes are looked through. -/
abbrev bfH (N : Int) (es : List Ed) (AL : Cls) (rw_ sn : List (List Int)) : List AO := [.box (.p (G N es)), .dict .str (alF AL), .box (.mp 1), rowS rw_, .dict .str (seenD sn)]
theorem norm_bf {N : Int} {es : List Ed} {AL : Cls} {rw_ sn : List (List Int)} {keep : List Nat} {T : List (Nat × AV)} {Hr : List AO} : norm [0, 1, 2, 3, 4] keep ⟨T, .box (.p (G N es)) :: .dict .str (alF AL) :: .box (.mp 1) :: rowS rw_ :: .dict .str (seenD sn) :: Hr⟩ =
    ⟨keep.map fun i => (i, (Abs.get T i).ren (.box (.p (G N es)) :: .dict .str (alF AL) :: .box (.mp 1) :: rowS rw_ :: .dict .str (seenD sn) :: Hr) (Abs.idx [0, 1, 2, 3, 4] 0)), bfH N es AL rw_ sn⟩ := by
  simp [norm, AO.ren, alF_ren, seenD_ren, AV.ren, Abs.idx]
theorem norm_bfU {N : Int} {es : List Ed} {AL : Cls} {rw_ sn : List (List Int)} {l : List (List Bool)} {b : List Bool} {n : Nat} (hb : b.length = n) {keep : List Nat} {T : List (Nat × AV)} {Hr : List AO} : norm [0, 1, 2, 3, 4, 5] keep ⟨T, .box (.p (G N es)) :: .dict .str (alF AL) :: .box (.mp 1) :: rowS rw_ :: .dict .str (seenD sn) :: .tab ((l.map fun o => .p (.bo o)) ++ [.os 6 0 n]) 25 false :: rowB b :: Hr⟩ =
    ⟨keep.map fun i => (i, (Abs.get T i).ren (.box (.p (G N es)) :: .dict .str (alF AL) :: .box (.mp 1) :: rowS rw_ :: .dict .str (seenD sn) :: .tab ((l.map fun o => .p (.bo o)) ++ [.os 6 0 n]) 25 false :: rowB b :: Hr) (Abs.idx [0, 1, 2, 3, 4, 5] 0)), bfH N es AL rw_ sn ++ [.tab ((l ++ [b]).map fun o => .p (.bo o)) 25 false]⟩ := by
  simp [norm, AO.ren, alF_ren, seenD_ren, AV.ren, Abs.idx, renL_app, renL_bos, renL, hb]
end Go.Proofs.Ytgbmdikkdjogpaa
/-
  Behind the map of all orientations.
-/
set_option linter.unusedSimpArgs false
set_option linter.unusedVariables false
namespace Go.Proofs.Ytgbmdikkdjogpaa
open Go.Abs Go.Sand
/-- Behind the map: what reads alone is read, the rest is let go. -/
theorem wk_al {N : Int} {es : List Ed} {AL : Cls} {B4 B5 B6 R1 R2 : AO} {w sn : List (List Int)} {T : List (Nat × AV)} {x80 x81 x14 : PV}
    (h81 : Abs.get T 81 = .p x81) (h80 : Abs.get T 80 = .p x80) (h17 : Abs.get T 17 = .p .nil) (h16 : Abs.get T 16 = .mp ((alT AL).length + 3 + 1 + 1 + 1 + 1 + 1 + 1)) (h15 : Abs.get T 15 = .os ((alT AL).length + 2 + 1 + 1 + 1 + 1 + 1 + 1) 0 w.length)
    (h14 : Abs.get T 14 = .p x14) (h11 : Abs.get T 11 = .ptr 2 1 0 0) (h3 : Abs.get T 3 = .ptr 0 1 0 0) :
    Wk 0 ⟨T, .box (.p (G N es)) :: .dict .str (alD 6 AL) :: .box (.mp 1) :: B4 :: B5 :: B6 :: (alT AL ++ [R1, R2, rowS w, .dict .str (seenD sn)])⟩
      ⟨[(81, .p x81), (80, .p x80), (17, .p .nil), (16, .mp 4), (15, .os 3 0 w.length), (14, .p x14), (11, .ptr 2 1 0 0), (3, .ptr 0 1 0 0)], bfH N es AL w sn⟩ := by
  obtain ⟨c, hc⟩ : ∃ c, c = (alT AL).length := ⟨_, rfl⟩
  obtain ⟨H, hH⟩ : ∃ H, H = AO.box (.p (G N es)) :: .dict .str (alD 6 AL) :: .box (.mp 1) :: B4 :: B5 :: B6 :: (alT AL ++ [R1, R2, rowS w, .dict .str (seenD sn)]) := ⟨_, rfl⟩
  rw [← hH]
  have hl : H.length = c + 10 := by rw [hH, hc]; simp
  have hσ : okσ [0, 1, 2, c + 8, c + 9] 0 H = true := by
    simp [okσ, nodupB, firstB, hl]
  have g0 : H[0]? = some (.box (.p (G N es))) := by rw [hH]; rfl
  have g1 : H[1]? = some (.dict .str (alD 6 AL)) := by rw [hH]; rfl
  have g2 : H[2]? = some (.box (.mp 1)) := by rw [hH]; rfl
  have g8 : H[c + 8]? = some (rowS w) := by rw [hH, hc]; simp
  have g9 : H[c + 9]? = some (.dict .str (seenD sn)) := by rw [hH, hc]; simp
  have gT : ∀ i x, AL[i]? = some x → H[i + 6]? = some (.tab (x.2.map fun o => .p (.bo o)) 25 false) := fun i x hx => by
    have h1 := alT_get hx
    rw [hH]
    simp only [List.getElem?_cons_succ]
    rw [List.getElem?_append_left (List.getElem?_eq_some_iff.1 h1).1]
    exact h1
  refine (Wk_norm [0, 1, 2, c + 8, c + 9] [81, 80, 17, 16, 15, 14, 11, 3] hσ).trans ?_
  have e : norm [0, 1, 2, c + 8, c + 9] [81, 80, 17, 16, 15, 14, 11, 3] ⟨T, H⟩ = ⟨[(81, .p x81), (80, .p x80), (17, .p .nil), (16, .mp 4), (15, .os 3 0 w.length), (14, .p x14), (11, .ptr 2 1 0 0), (3, .ptr 0 1 0 0)], bfH N es AL w sn⟩ := by
    have i0 : Abs.idx [0, 1, 2, c + 8, c + 9] 0 0 = some 0 := rfl
    have i1 : Abs.idx [0, 1, 2, c + 8, c + 9] 0 1 = some 1 := rfl
    have i2 : Abs.idx [0, 1, 2, c + 8, c + 9] 0 2 = some 2 := rfl
    have i8 : Abs.idx [0, 1, 2, c + 8, c + 9] 0 (c + 8) = some 3 := by simp [Abs.idx]
    have i9 : Abs.idx [0, 1, 2, c + 8, c + 9] 0 (c + 9) = some 4 := by simp [Abs.idx]
    have iT : ∀ i, i < c → Abs.idx [0, 1, 2, c + 8, c + 9] 0 (i + 6) = none := fun i hi => by
      simp only [Abs.idx]
      rw [if_neg (by omega), if_neg (by omega), if_neg (by omega), if_neg (by omega), if_neg (by omega)]
    have hρ : ∃ ρ, Abs.idx [0, 1, 2, c + 8, c + 9] 0 = ρ := ⟨_, rfl⟩
    obtain ⟨ρ, hρ⟩ := hρ
    simp only [norm, hρ] at *
    have hD : (alD 6 AL).map (fun x => (x.1, x.2.ren H ρ)) = alF AL := by
      unfold alD alF
      rw [List.map_map]
      apply List.ext_getElem?
      intro i
      simp only [List.getElem?_map, List.getElem?_zipIdx]
      cases hx : AL[i]? with
      | none => rfl
      | some x =>
        have hi : i < c := by rw [hc, alT_len]; exact (List.getElem?_eq_some_iff.1 hx).1
        have := read_at (gT i x hx) (iT i hi) (rfl : (x.2.length) = _)
        simp only [Option.map_some, Nat.zero_add]
        exact congrArg some (Prod.ext rfl this)
    rw [← hc] at h15 h16
    simp only [norm, List.map_cons, List.map_nil, h81, h80, h17, h16, h15, h14, h11, h3, List.getD_eq_getElem?_getD, g0, g1, g2, g8, g9, Option.getD_some]
    simp only [AO.ren, hD, seenD_ren, AV.ren, i0, i1, i2]
    rw [show c + 3 + 1 + 1 + 1 + 1 + 1 + 1 = c + 9 by omega, show c + 2 + 1 + 1 + 1 + 1 + 1 + 1 = c + 8 by omega, i8, i9]
  rw [e]
  exact Wk.refl _ _
theorem strN_size (l : List Int) : (strN l).size = l.length := by
  have h1 := dk_len l
  unfold dk at h1
  rw [← h1, Array.length_toList]; rfl
end Go.Proofs.Ytgbmdikkdjogpaa
end
section
set_option linter.unusedSimpArgs false
set_option linter.unusedVariables false
namespace Go.Proofs.Ytgbmdikkdjogpaa
open Go.Abs Go.Sand
attribute [local simp] app_0 app_i
attribute [local simp ↓ 10000] lit_shl lit_shr lit_and
end Go.Proofs.Ytgbmdikkdjogpaa
end
section
set_option linter.unusedVariables false
set_option linter.unusedSimpArgs false
namespace Go.Sand
/-- Heads at a vertex. -/
def hcnt (v : Int) (ps : List (Int × Int)) (o : List Bool) : Nat := (((ps.zip o).map fun x => arw x.1 x.2).map (·.2)).count v
end Go.Sand
end
section
set_option linter.unusedVariables false
set_option linter.unusedSimpArgs false
namespace Go.Sand
theorem in_count {n : Nat} {es : List Ed} (hg : ∀ x ∈ es, Right (n : Int) x) {o : List Bool} {u : Nat} (hu : u < n) : (inL n es o).getD u 0 = ((arwsL es o).countP (fun p => decide (p.2 = (u : Int))) : Nat) := by
  unfold inL
  rw [degL_get (fun u hu => (hdsL_mem hg u hu).1) u hu]
  congr 1
  unfold hdsL
  rw [List.count_eq_countP, List.countP_map]
  refine List.countP_congr fun p _ => ?_
  simp
/-- The whole cut: what comes in, what goes out. -/
theorem way_one {f : Int → Bool} {es : List Ed} {o : List Bool} {w : Int} (h : wayP f es o = w) (hw : w ≠ 0) : (w = 1 ∧ 0 < outN f (arwsL es o) ∧ intN f (arwsL es o) = 0) ∨ (w = -1 ∧ 0 < intN f (arwsL es o) ∧ outN f (arwsL es o) = 0) := by
  unfold wayP wayN at h
  split at h
  · rename_i h1; exact .inl ⟨h.symm, h1.1, h1.2⟩
  · split at h
    · rename_i h1; exact .inr ⟨h.symm, h1.1, h1.2⟩
    · exact absurd h.symm hw
end Go.Sand
end
