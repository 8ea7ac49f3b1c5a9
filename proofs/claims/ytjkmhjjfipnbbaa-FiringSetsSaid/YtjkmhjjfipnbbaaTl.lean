/-
  Contracts: is a firing legal?
-/
import Derived.Test.YtjkmhjjfipnbbaaTk
set_option linter.unusedSimpArgs false
namespace Go.Proofs.Ytjkmhjjfipnbbaa
open Go.Abs Go.Sand

theorem first_at : ∀ (xs : List Int) (v : Int), v ∈ xs → ∃ i, ∃ h : i < xs.length, xs[i] = v ∧ ∀ j, ∀ hj : j < i, xs[j] ≠ v
  | x :: xs, v, h => by
    by_cases e : x = v
    · exact ⟨0, by simp, e, fun j hj => by omega⟩
    · obtain ⟨i, hi, h1, h2⟩ := first_at xs v ((List.mem_cons.1 h).resolve_left fun h => e h.symm)
      refine ⟨i + 1, by simpa using hi, h1, fun j hj => ?_⟩
      cases j with
      | zero => exact e
      | succ j => exact h2 j (by omega)
theorem index_ok (xs : List Int) (v : Int) (hx : xs.length ≤ 4611686018427387904) : ∃ i : Int, (0 ≤ i ↔ v ∈ xs) ∧ PC Try.prog 69 [.is xs, .i v] (.i i) [] := by
  by_cases hm : v ∈ xs
  · obtain ⟨i, hi, hv, hlo⟩ : ∃ i, ∃ h : i < xs.length, xs[i] = v ∧ ∀ j, ∀ hj : j < i, xs[j] ≠ v := first_at xs v hm
    refine ⟨i, by simp [hm], ?_⟩
    refine PC_of_W cfn69 ?_
    simp -implicitDefEqProofs (disch := omega) [c69, List.getElem?_cons_zero, List.getElem?_cons_succ, wrap_id]
    refine loopW xs.length (fun k s => s = ⟨[(8, .i k), (7, .i xs.length), (6, .p (.is xs)), (0, .p (.is xs)), (1, .i v)], []⟩ ∧ k ≤ i) (Wk_keep [8, 7, 6, 0, 1]) ⟨rfl, by omega⟩ ?_
    rintro k s hk ⟨rfl, hI⟩
    have hlt : k < xs.length := by omega
    by_cases hki : k = i
    · subst hki
      simp -implicitDefEqProofs (disch := omega) [List.getElem?_cons_zero, List.getElem?_cons_succ, wrap_id, hlt, hv]
      (refine fin0 trivial rfl ?_; simp -implicitDefEqProofs (disch := omega) [List.getElem?_cons_zero, List.getElem?_cons_succ, idx, wrap_id])
    · have hne := hlo k (by omega)
      have hne' : ¬ v = xs[k] := fun h => hne h.symm
      simp -implicitDefEqProofs (disch := omega) [List.getElem?_cons_zero, List.getElem?_cons_succ, wrap_id, hlt, hne']
      exact round_keep [8, 7, 6, 0, 1] hlt ⟨rfl, by omega⟩
  · refine ⟨-1, by simp [hm], ?_⟩
    refine PC_of_W cfn69 ?_
    simp -implicitDefEqProofs (disch := omega) [c69, List.getElem?_cons_zero, List.getElem?_cons_succ, wrap_id]
    refine loopW xs.length (fun k s => s = ⟨[(8, .i k), (7, .i xs.length), (6, .p (.is xs)), (0, .p (.is xs)), (1, .i v)], []⟩) (Wk_keep [8, 7, 6, 0, 1]) rfl ?_
    rintro k s hk rfl
    by_cases hlt : k < xs.length
    · have hne' : ¬ v = xs[k] := fun h => hm (h ▸ List.getElem_mem hlt)
      simp -implicitDefEqProofs (disch := omega) [List.getElem?_cons_zero, List.getElem?_cons_succ, wrap_id, hlt, hne']
      exact round_keep [8, 7, 6, 0, 1] hlt rfl
    · simp -implicitDefEqProofs (disch := omega) [List.getElem?_cons_zero, List.getElem?_cons_succ, wrap_id, hlt]
      (refine fin0 trivial rfl ?_; simp -implicitDefEqProofs (disch := omega) [List.getElem?_cons_zero, List.getElem?_cons_succ, idx, wrap_id])
theorem contains_ok (xs : List Int) (v : Int) (hx : xs.length ≤ 4611686018427387904) : PC Try.prog 31 [.is xs, .i v] (.b (decide (v ∈ xs))) [] := by
  obtain ⟨i, hi, hc⟩ := index_ok xs v hx
  refine PC_of_W cfn31 ?_
  simp -implicitDefEqProofs (disch := omega) [c31, List.getElem?_cons_zero, List.getElem?_cons_succ, wrap_id]
  refine HC_of_PC rfl (hc) ?_
  simp -implicitDefEqProofs (disch := omega) [List.getElem?_cons_zero, List.getElem?_cons_succ, wrap_id]
  (refine fin0 trivial rfl ?_; simp -implicitDefEqProofs (disch := omega) [List.getElem?_cons_zero, List.getElem?_cons_succ, idx, wrap_id, hi])
section
variable {f : FuncId} {fs cs : List AV} {H : List AO} {p : Int → Bool} {R : AV → List AO → Prop}
theorem idxfI_ok (xs : List Int) (hx : xs.length ≤ 4611686018427387904) (hc : callable Try.prog f = true) (hf : ∀ k ∈ xs, ∀ K, K (.b (p k)) H → HC Try.prog false f (fs ++ .i k :: cs) H K) (hR : ∀ i : Int, (0 ≤ i ↔ xs.any p = true) → R (.i i) H) :
    HC Try.prog false 91 [.p (.is xs), .fn (.func f) fs cs] H R := by
  refine HC_of_W (af := _) ((by exact cfn91 : cfn _ _ _ = some _)) ?_
  simp -implicitDefEqProofs (disch := omega) [c91, List.getElem?_cons_zero, List.getElem?_cons_succ, wrap_id]
  refine loopW xs.length (fun k s => s = ⟨[(8, .i k), (7, .i xs.length), (6, .p (.is xs)), (0, .p (.is xs)), (1, .fn (.func f) fs cs)], H⟩ ∧ xs.any p = (xs.drop k).any p) (Wk_keep [8, 7, 6, 0, 1]) ⟨rfl, rfl⟩ ?_
  rintro k s hk ⟨rfl, hI⟩
  by_cases hlt : k < xs.length
  · have hd := drop_any p xs k hlt
    simp -implicitDefEqProofs (disch := omega) [List.getElem?_cons_zero, List.getElem?_cons_succ, wrap_id, hlt]
    refine ⟨hc, ?_⟩
    refine hf _ (List.getElem_mem hlt) _ ?_
    cases hv : p xs[k]
    · rw [hv] at hd
      simp -implicitDefEqProofs (disch := omega) [List.getElem?_cons_zero, List.getElem?_cons_succ, wrap_id]
      exact round_keep [8, 7, 6, 0, 1] hlt ⟨rfl, by rw [hI, hd]; rfl⟩
    · rw [hv] at hd
      simp -implicitDefEqProofs (disch := omega) [List.getElem?_cons_zero, List.getElem?_cons_succ, wrap_id]
      exact finH trivial rfl (hR _ (by rw [hI, hd]; simp))
  · simp -implicitDefEqProofs (disch := omega) [List.getElem?_cons_zero, List.getElem?_cons_succ, wrap_id, hlt]
    exact finH trivial rfl (hR _ (by rw [hI, List.drop_of_length_le (Nat.le_of_not_lt hlt)]; simp))
theorem hasfI_ok (xs : List Int) (hx : xs.length ≤ 4611686018427387904) (hc : callable Try.prog f = true) (hf : ∀ k ∈ xs, ∀ K, K (.b (p k)) H → HC Try.prog false f (fs ++ .i k :: cs) H K) (hR : R (.b (xs.any p)) H) :
    HC Try.prog false 71 [.p (.is xs), .fn (.func f) fs cs] H R := by
  refine HC_of_W (af := _) ((by exact cfn71 : cfn _ _ _ = some _)) ?_
  simp -implicitDefEqProofs (disch := omega) [c71, List.getElem?_cons_zero, List.getElem?_cons_succ, wrap_id]
  refine idxfI_ok xs hx hc hf fun i hi => ?_
  by_cases h : 0 ≤ i
  · have hv := hi.1 h
    rw [hv] at hR
    simp -implicitDefEqProofs (disch := omega) [List.getElem?_cons_zero, List.getElem?_cons_succ, wrap_id, h]
    exact finH trivial rfl hR
  · have hv : xs.any p = false := by cases hq : xs.any p; rfl; exact absurd (hi.2 hq) h
    rw [hv] at hR
    simp -implicitDefEqProofs (disch := omega) [List.getElem?_cons_zero, List.getElem?_cons_succ, wrap_id, h]
    exact finH trivial rfl hR
end
end Go.Proofs.Ytjkmhjjfipnbbaa
