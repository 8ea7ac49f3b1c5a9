/-
  Contracts: orientations: indegrees, divisors, sources; in the reference too.
-/
import Derived.Test.YtgbmdikkdjogpaaNb
set_option linter.unusedSimpArgs false
set_option linter.unusedVariables false
namespace Go.Sand
/-- The numbers below k of which p holds. -/
def selK (p : Nat → Bool) (k : Nat) : List Int := ((List.range k).filter p).map fun v : Nat => (v : Int)
theorem selK_succ (p : Nat → Bool) (k : Nat) : selK p (k + 1) = selK p k ++ if p k then [(k : Int)] else [] := by
  unfold selK
  rw [List.range_succ, List.filter_append, List.map_append]
  cases h : p k <;> simp [h]
theorem selK_len (p : Nat → Bool) (k : Nat) : (selK p k).length ≤ k := by
  unfold selK
  rw [List.length_map]
  exact Nat.le_trans (List.length_filter_le _ _) (by simp)
theorem selK_mem {p : Nat → Bool} {k : Nat} {x : Int} : x ∈ selK p k ↔ ∃ v : Nat, x = v ∧ v < k ∧ p v = true := by
  simp only [selK, List.mem_map, List.mem_filter, List.mem_range]
  constructor
  · rintro ⟨v, ⟨h1, h2⟩, rfl⟩; exact ⟨v, rfl, h1, h2⟩
  · rintro ⟨v, rfl, h1, h2⟩; exact ⟨v, ⟨h1, h2⟩, rfl⟩
def divL (n : Nat) (es : List Ed) (o : List Bool) : List Int := (inL n es o).map (· - 1)
theorem divL_len (n : Nat) (es : List Ed) (o : List Bool) : (divL n es o).length = n := by simp [divL, inL_len]
def zeroB (l : List Int) (v : Nat) : Bool := decide (l.getD v 0 = 0)
def srcL (n : Nat) (es : List Ed) (o : List Bool) : List Int := selK (zeroB (inL n es o)) n
/-- The first k of a list changed. -/
def mapK {α : Type} (f : α → α) (l : List α) (k : Nat) : List α := (l.take k).map f ++ l.drop k
theorem mapK_zero {α : Type} (f : α → α) (l : List α) : mapK f l 0 = l := by simp [mapK]
theorem mapK_all {α : Type} (f : α → α) (l : List α) : mapK f l l.length = l.map f := by simp [mapK]
theorem mapK_len {α : Type} (f : α → α) (l : List α) (k : Nat) : (mapK f l k).length = l.length := by
  simp only [mapK, List.length_append, List.length_map, List.length_take, List.length_drop]; omega
theorem mapK_at {α : Type} (f : α → α) (l : List α) (k : Nat) (h : k < l.length) : (mapK f l k)[k]'(by rw [mapK_len]; exact h) = l[k] := by
  unfold mapK
  have hm : ((l.take k).map f).length = k := by rw [List.length_map, List.length_take]; omega
  rw [List.getElem_append_right (by omega)]
  simp only [hm, Nat.sub_self, List.getElem_drop, Nat.add_zero]
theorem mapK_set {α : Type} (f : α → α) (l : List α) (k : Nat) (h : k < l.length) : (mapK f l k).set k (f l[k]) = mapK f l (k + 1) := by
  unfold mapK
  have hm : ((l.take k).map f).length = k := by rw [List.length_map, List.length_take]; omega
  rw [List.set_append_right _ _ (by omega), hm, Nat.sub_self, List.drop_eq_getElem_cons h, List.set_cons_zero, List.take_succ_eq_append_getElem h, List.map_append, List.append_assoc]
  rfl
theorem inL_bd {n : Nat} {es : List Ed} (hg : ∀ x ∈ es, Right (n : Int) x) (hel : es.length ≤ 1000) {o : List Bool} (hol : o.length = (endsL es).length) (v : Nat) (hv : v < (inL n es o).length) : 0 ≤ (inL n es o)[v] ∧ (inL n es o)[v] ≤ 50000 := by
  have hv' : v < n := by rw [inL_len] at hv; exact hv
  rw [← getD_get hv]
  unfold inL
  rw [degL_get (fun u hu => (hdsL_mem hg u hu).1) v hv']
  have h1 : (hdsL es o).count (v : Int) ≤ (hdsL es o).length := List.count_le_length
  have h2 := endsL_len hg
  rw [hdsL_len, arwsL_len hol] at h1
  omega
end Go.Sand
namespace Go.Proofs.Ytgbmdikkdjogpaa
open Go.Abs Go.Sand

theorem adivisor_ok (n : Nat) (es : List Ed) (o : List Bool) (hel : es.length ≤ 1000) (ho : o.length ≤ 100) (h : oE n es o = 0) : PC Try.prog 9 [G n es, .bo o] (.tup [.os 0 0 n, .i 0]) [rowZ (divL n es o)] := by
  obtain ⟨hg, hol⟩ := oE_ok h
  have hgood := gcheck_ok hg
  have hl := inL_len n es o
  have hn := hgood.n12
  refine PC_of_W cfn9 ?_
  simp -implicitDefEqProofs (disch := omega) [c9, List.getElem?_cons_zero, List.getElem?_cons_succ, wrap_id]
  refine HC_of_PC rfl (ocheck_ok n es o hel (by omega)) ?_
  simp -implicitDefEqProofs (disch := omega) [List.getElem?_cons_zero, List.getElem?_cons_succ, wrap_id, h]
  refine HC_of_PC rfl (indegrees_ok n es o hg hel hol) ?_
  simp -implicitDefEqProofs (disch := omega) [List.getElem?_cons_zero, List.getElem?_cons_succ, wrap_id, hl]
  refine loopW n (fun k s => s = ⟨[(20, .i k), (19, .i n), (7, .os 0 0 n)], [rowZ (mapK (· - 1) (inL n es o) k)]⟩) (wk_norm [1] [20, 19, 7] rfl rfl) (by rw [mapK_zero]; rfl) ?_
  rintro k s hk rfl
  by_cases hlt : k < n
  · have hkl : k < (inL n es o).length := by omega
    have hb := inL_bd hgood.right hel hol k hkl
    have hx := mapK_len (· - 1) (inL n es o) k
    have hat := mapK_at (· - 1) (inL n es o) k hkl
    have hset := mapK_set (· - 1) (inL n es o) k hkl
    have hDn : (mapK (· - 1) (inL n es o) k).length = n := by omega
    have hkD : k < (mapK (· - 1) (inL n es o) k).length := by omega
    simp -implicitDefEqProofs (disch := omega) [List.getElem?_cons_zero, List.getElem?_cons_succ, wrap_id, hlt, hDn, hkD, hat]
    exact round_end [0] [20, 19, 7] hlt rfl (by rw [← hset, rowZ, List.map_set]; rfl)
  · have hke : k = n := by omega
    subst hke
    have e1 := mapK_all (· - 1) (inL k es o)
    rw [hl] at e1
    rw [e1]
    simp -implicitDefEqProofs (disch := omega) [List.getElem?_cons_zero, List.getElem?_cons_succ, wrap_id, hlt]
    exact fin1 [0] trivial rfl (by rfl) ⟨rfl, rfl⟩
theorem adivisor_err (N : Int) (es : List Ed) (o : List Bool) (hel : es.length ≤ 1000) (ho : o.length ≤ 100) (h : oE N es o ≠ 0) : PC Try.prog 9 [G N es, .bo o] (.tup [.p (.is []), .i (oE N es o)]) [] := by
  refine PC_of_W cfn9 ?_
  simp -implicitDefEqProofs (disch := omega) [c9, List.getElem?_cons_zero, List.getElem?_cons_succ, wrap_id]
  refine HC_of_PC rfl (ocheck_ok N es o hel (by omega)) ?_
  simp -implicitDefEqProofs (disch := omega) [List.getElem?_cons_zero, List.getElem?_cons_succ, wrap_id, h]
  refine finW (Wk_nil0 4 rfl) ?_
  (refine fin0 trivial rfl ?_; simp -implicitDefEqProofs (disch := omega) [List.getElem?_cons_zero, List.getElem?_cons_succ, idx, wrap_id])
end Go.Proofs.Ytgbmdikkdjogpaa
