/-
  AN ABSTRACT MACHINE: calls and rounds whose objects are put in order at the end.
-/
import Derived.Test.YtgbmdikkdjogpaaAcb
namespace Go
namespace Abs
open Go.RowKit

theorem HC_norm {P : Program} {e : Bool} {f : FuncId} {args : List AV} {H : List AO} {K : AV → List AO → Prop} (h : HC P e f args H fun r H' => ∃ σ, okσ σ H.length H' = true ∧ K (r.ren H' (idx σ 0)) (renH σ H')) : HC P e f args H K := by
  intro M vs hM hH ha
  refine (h M vs hM hH ha).mono ?_
  rintro en w' ⟨v, r, H', φ', rfl, ⟨σ, hσ, hK⟩, hM', hle, hrv, hbel, hext⟩
  subst hH
  obtain ⟨M', e1, e2, e3, e4, hM'', hle', -, hx⟩ := mem_norm (M := ⟨w', H', φ', M.base, M.S⟩) hM' hle rfl hσ
  obtain ⟨w1, H1, φ1, base1, S1⟩ := M'
  dsimp only at e1 e2 e3 e4
  subst e1 e2 e3 e4
  exact ⟨v, _, _, φ1, rfl, hK, hM'', hle', hx hrv, hbel, hext⟩
theorem HY_norm {P : Program} {o : Nat} {args : List AV} {H : List AO} {K : AV → List AO → Prop} (h : HY P o args H fun r H' => ∃ σ, okσ σ H.length H' = true ∧ K (r.ren H' (idx σ 0)) (renH σ H')) : HY P o args H K := by
  intro M vs hM hH ha b hb
  obtain ⟨fn, tm, x, y, h1, h2⟩ := h M vs hM hH ha b hb
  refine ⟨fn, tm, x, y, h1, h2.mono ?_⟩
  rintro en w' ⟨v, r, H', φ', rfl, ⟨σ, hσ, hK⟩, hM', hle, hrv, hbel⟩
  subst hH
  obtain ⟨M', e1, e2, e3, e4, hM'', hle', -, hx⟩ := mem_norm (M := ⟨w', H', φ', M.base, M.S⟩) hM' hle rfl hσ
  obtain ⟨w1, H1, φ1, base1, S1⟩ := M'
  dsimp only at e1 e2 e3 e4
  subst e1 e2 e3 e4
  exact ⟨v, _, _, φ1, rfl, hK, hM'', hle', hx hrv, hbel⟩
theorem renH_range (A B : List AO) : renH (List.range A.length) (A ++ B) = A.map fun ob => ob.ren (A ++ B) (idx (List.range A.length) 0) := by
  unfold renH
  apply List.ext_getElem?
  intro i
  by_cases h : i < A.length
  · simp [h, List.getD_eq_getElem?_getD, List.getElem?_append_left h]
  · simp [h]
theorem idx_range_none {n o : Nat} (h : n ≤ o) : idx (List.range n) 0 o = none := by
  cases hi : idx (List.range n) 0 o with
  | none => rfl
  | some j =>
    obtain ⟨_, h2⟩ := idx_some hi
    have hj := (List.getElem?_eq_some_iff.1 h2)
    obtain ⟨hj1, hj2⟩ := hj
    simp at hj1 hj2
    omega
theorem map_ren_lo {A : List AO} {m : Nat} (h : ∀ ob ∈ A, loO m ob = true) {n : Nat} (hmn : m ≤ n) (H : List AO) : A.map (fun ob => ob.ren H (idx (List.range n) 0)) = A := by
  conv => rhs; rw [← List.map_id A]
  exact List.map_congr_left fun ob hob => loO_ren (fun i hi => idx_range (by omega)) ob (h ob hob)
end Abs
end Go
