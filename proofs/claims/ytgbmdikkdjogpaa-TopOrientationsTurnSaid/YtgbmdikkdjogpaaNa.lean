/-
  Plain laws: orientations: tails, heads, indegrees. No program.
-/
import Derived.Test.YtgbmdikkdjogpaaMla
set_option linter.unusedVariables false
namespace Go.Sand

/-- Tail and head of a single edge. -/
def arw (p : Int × Int) (d : Bool) : Int × Int := if d then p else (p.2, p.1)
/-- The tails and heads of all single edges. -/
def arwsL (es : List Ed) (o : List Bool) : List (Int × Int) := ((endsL es).zip o).map fun x => arw x.1 x.2
theorem arwsL_len {es : List Ed} {o : List Bool} (h : o.length = (endsL es).length) : (arwsL es o).length = (endsL es).length := by simp [arwsL, h]
theorem arwsL_at {es : List Ed} {o : List Bool} (h : o.length = (endsL es).length) (k : Nat) (hk : k < (endsL es).length) : (arwsL es o)[k]'(by rw [arwsL_len h]; exact hk) = arw (endsL es)[k] (o[k]'(by omega)) := by simp [arwsL]
theorem endsL_mem {n : Int} {es : List Ed} (h : ∀ x ∈ es, Right n x) : ∀ p ∈ endsL es, 0 ≤ p.1 ∧ p.1 ≤ p.2 ∧ p.2 < n := by
  intro p hp
  obtain ⟨x, hx, hp⟩ := List.mem_flatMap.1 hp
  obtain ⟨_, rfl⟩ := List.mem_replicate.1 hp
  have := h x hx
  exact ⟨by have := this.a0; omega, by have := this.ab; omega, by have := this.bn; omega⟩
theorem arw_mem {n : Int} {es : List Ed} (h : ∀ x ∈ es, Right n x) {o : List Bool} : ∀ p ∈ arwsL es o, (0 ≤ p.1 ∧ p.1 < n) ∧ 0 ≤ p.2 ∧ p.2 < n := by
  intro p hp
  obtain ⟨x, hx, rfl⟩ := List.mem_map.1 hp
  have h1 := endsL_mem h x.1 (List.of_mem_zip hx).1
  unfold arw
  split
  · omega
  · dsimp only; omega
/-- One more at a place. -/
def bumpL (c : Int) (l : List Int) (v : Int) : List Int := l.set v.toNat (l.getD v.toNat 0 + c)
/-- How many of some places are each vertex. -/
def degL (n : Nat) (vs : List Int) : List Int := vs.foldl (bumpL 1) (List.replicate n 0)
theorem bumpL_len (c : Int) (l : List Int) (v : Int) : (bumpL c l v).length = l.length := by simp [bumpL]
theorem degL_snoc (n : Nat) (vs : List Int) (v : Int) : degL n (vs ++ [v]) = bumpL 1 (degL n vs) v := by unfold degL; rw [List.foldl_append]; rfl
theorem foldl_bump_len (vs : List Int) : ∀ l : List Int, (vs.foldl (bumpL 1) l).length = l.length := by
  induction vs with
  | nil => intro l; rfl
  | cons v vs ih => intro l; rw [List.foldl_cons, ih, bumpL_len]
theorem degL_len (n : Nat) (vs : List Int) : (degL n vs).length = n := by unfold degL; rw [foldl_bump_len]; simp
theorem foldl_bump_get (vs : List Int) : ∀ (l : List Int) (v : Nat), v < l.length → (∀ u ∈ vs, 0 ≤ u) → (vs.foldl (bumpL 1) l).getD v 0 = l.getD v 0 + (vs.count (v : Int) : Nat) := by
  induction vs with
  | nil => intro l v hv _; simp
  | cons u vs ih =>
    intro l v hv hu
    rw [List.foldl_cons, ih _ v (by rw [bumpL_len]; exact hv) (fun x hx => hu x (by simp [hx])), bumpL, getD_set, List.count_cons]
    have h0 := hu u (by simp)
    by_cases e : u = (v : Int)
    · subst e
      simp [hv]; omega
    · rw [if_neg (by omega)]
      simp [e]
theorem degL_get {n : Nat} {vs : List Int} (h : ∀ u ∈ vs, 0 ≤ u) (v : Nat) (hv : v < n) : (degL n vs).getD v 0 = (vs.count (v : Int) : Nat) := by
  unfold degL
  rw [foldl_bump_get vs _ v (by simpa using hv) h]
  simp [List.getD, hv]
/-- All heads. -/
def hdsL (es : List Ed) (o : List Bool) : List Int := (arwsL es o).map (·.2)
theorem hdsL_len (es : List Ed) (o : List Bool) : (hdsL es o).length = (arwsL es o).length := by simp [hdsL]
theorem hdsL_at {es : List Ed} {o : List Bool} {k : Nat} (h : k < (hdsL es o).length) : (hdsL es o)[k] = ((arwsL es o)[k]'(by rw [← hdsL_len]; exact h)).2 := by simp [hdsL]
theorem hdsL_mem {n : Int} {es : List Ed} (h : ∀ x ∈ es, Right n x) {o : List Bool} : ∀ v ∈ hdsL es o, 0 ≤ v ∧ v < n := by
  intro v hv
  obtain ⟨p, hp, rfl⟩ := List.mem_map.1 hv
  exact (arw_mem h p hp).2
theorem degL_take {n : Nat} {vs : List Int} {k : Nat} (h : k < vs.length) : degL n (vs.take (k + 1)) = bumpL 1 (degL n (vs.take k)) vs[k] := by
  rw [List.take_succ_eq_append_getElem h, degL_snoc]
/-- The indegrees. -/
def inL (n : Nat) (es : List Ed) (o : List Bool) : List Int := degL n (hdsL es o)
theorem inL_len (n : Nat) (es : List Ed) (o : List Bool) : (inL n es o).length = n := degL_len _ _
/-- The errors of an orientation. -/
def oE (N : Int) (es : List Ed) (o : List Bool) : Int := if gcheck N es ≠ 0 then gcheck N es else if o.length ≠ (endsL es).length then 8 else 0
theorem oE_ok {N : Int} {es : List Ed} {o : List Bool} (h : oE N es o = 0) : gcheck N es = 0 ∧ o.length = (endsL es).length := by
  unfold oE at h
  split at h
  · rename_i h1; exact absurd h h1
  · rename_i h1
    split at h
    · cases h
    · rename_i h2; exact ⟨by simpa using h1, by simpa using h2⟩
theorem oE_of {N : Int} {es : List Ed} {o : List Bool} (h : gcheck N es = 0) (h2 : o.length = (endsL es).length) : oE N es o = 0 := by simp [oE, h, h2]
end Go.Sand
