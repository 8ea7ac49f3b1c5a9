/-
  Contracts: package graph, sets and valences; what is given.
-/
import Derived.Test.YtjinjbcdbkgedaaMra
set_option linter.unusedSimpArgs false
namespace Go.Proofs.Ytjinjbcdbkgedaa
open Go.Abs Go.Sand

theorem gsubset_ok (N : Int) (es : List Ed) (xs : List Int) (hel : es.length ≤ 4611686018427387904) (hx : xs.length ≤ 4611686018427387904) : PC Try.prog 79 [G N es, .is xs] (.i (subCheck N es xs)) [] := by
  refine PC_of_W cfn79 ?_
  simp -implicitDefEqProofs (disch := omega) [c79, List.getElem?_cons_zero, List.getElem?_cons_succ, wrap_id]
  refine HC_of_PC rfl (gcheck_ok' N es hel) ?_
  by_cases h0 : gcheck N es = 0
  rotate_left
  · simp -implicitDefEqProofs (disch := omega) [List.getElem?_cons_zero, List.getElem?_cons_succ, wrap_id, h0]
    (refine fin0 trivial rfl ?_; simp -implicitDefEqProofs (disch := omega) [List.getElem?_cons_zero, List.getElem?_cons_succ, idx, wrap_id, subCheck, h0])
  simp -implicitDefEqProofs (disch := omega) [List.getElem?_cons_zero, List.getElem?_cons_succ, wrap_id, h0]
  refine loopW xs.length (fun k s => s = ⟨[(15, .i k), (14, .i xs.length), (13, .p (.is xs)), (2, .ptr 0 1 0 0), (1, .p (.is xs))], [.box (.p (G N es))]⟩ ∧ subErr N (-1) xs = subErr N (prvI xs k) (xs.drop k)) (wk_norm [0] [15, 14, 13, 2, 1] rfl rfl) ⟨rfl, rfl⟩ ?_
  rintro k s hk ⟨rfl, hI⟩
  by_cases hlt : k < xs.length
  · have hd := subErr_drop N xs k hlt
    simp -implicitDefEqProofs (disch := omega) [List.getElem?_cons_zero, List.getElem?_cons_succ, wrap_id, hlt]
    refine HC_of_PC rfl (gvertex_ok N xs[k]) ?_
    cases hv : vtx N xs[k]
    · simp -implicitDefEqProofs (disch := omega) [List.getElem?_cons_zero, List.getElem?_cons_succ, wrap_id]
      (refine fin0 trivial rfl ?_; simp -implicitDefEqProofs (disch := omega) [List.getElem?_cons_zero, List.getElem?_cons_succ, idx, wrap_id, subCheck, h0, hI, hd, hv])
    rcases Nat.eq_zero_or_pos k with h1 | h1
    · subst h1
      have hnn : ¬ xs[0] ≤ prvI xs 0 := by have := vtx_iff.1 hv; simp only [prvI]; omega
      simp -implicitDefEqProofs (disch := omega) [List.getElem?_cons_zero, List.getElem?_cons_succ, wrap_id]
      exact round_end [0] [15, 14, 13, 2, 1] hlt rfl ⟨rfl, by rw [hI, hd, hv, if_neg hnn]; rfl⟩
    · obtain ⟨j, rfl⟩ : ∃ j, k = j + 1 := ⟨k - 1, by omega⟩
      have hj : j < xs.length := by omega
      have e1 : ((j : Int) + 1 - 1) = j := by omega
      have hA : prvI xs (j + 1) = xs[j] := prvI_succ hj
      rw [hA] at hI hd
      by_cases h6 : xs[j + 1] ≤ xs[j]
      · simp -implicitDefEqProofs (disch := omega) [List.getElem?_cons_zero, List.getElem?_cons_succ, wrap_id, h6, e1, hj]
        (refine fin0 trivial rfl ?_; simp -implicitDefEqProofs (disch := omega) [List.getElem?_cons_zero, List.getElem?_cons_succ, idx, wrap_id, subCheck, h0, hI, hd, hv, h6])
      · simp -implicitDefEqProofs (disch := omega) [List.getElem?_cons_zero, List.getElem?_cons_succ, wrap_id, h6, e1, hj]
        exact round_end [0] [15, 14, 13, 2, 1] hlt rfl ⟨rfl, by rw [hI, hd, hv, if_neg h6]; rfl⟩
  · simp -implicitDefEqProofs (disch := omega) [List.getElem?_cons_zero, List.getElem?_cons_succ, wrap_id, hlt]
    (refine fin0 trivial rfl ?_; simp -implicitDefEqProofs (disch := omega) [List.getElem?_cons_zero, List.getElem?_cons_succ, idx, wrap_id, subCheck, h0, hI, subErr, List.drop_of_length_le (Nat.le_of_not_lt hlt)])
def atErr (N : Int) (es : List Ed) (vs : List Int) : Int := if gcheck N es ≠ 0 then gcheck N es else atE N vs
end Go.Proofs.Ytjinjbcdbkgedaa
/-
  Contracts: package slices; what a script changes.
-/
set_option linter.unusedSimpArgs false
namespace Go.Proofs.Ytjinjbcdbkgedaa
open Go.Abs Go.Sand

theorem drop_any {α : Type} (p : α → Bool) (xs : List α) (k : Nat) (h : k < xs.length) : (xs.drop k).any p = (p xs[k] || (xs.drop (k + 1)).any p) := by
  rw [List.drop_eq_getElem_cons h, List.any_cons]
section
variable {e : Bool} {f : FuncId} {fs cs : List AV} {H : List AO} {p : Int → Bool} {R : AV → List AO → Prop}
end
end Go.Proofs.Ytjinjbcdbkgedaa
/-
  Contracts: what a script changes, in package firing.
-/
set_option linter.unusedSimpArgs false
namespace Go.Proofs.Ytjinjbcdbkgedaa
open Go.Abs Go.Sand

theorem Bd.get {B : Int} {d : List Int} (h : Bd B d) {k : Nat} (hk : k < d.length) : -B ≤ d[k] ∧ d[k] ≤ B := by
  have := h k
  rwa [getD_get hk] at this
theorem movedE_bd {B : Int} {n : Int} {es : List Ed} {s : List Int} (hg : ∀ x ∈ es, Right n x) (hs : Bd 1048576 s) : ∀ (k : Nat) (_ : k ≤ es.length) {d : List Int}, Bd B d → Bd (B + 209715200 * k) (movedE (es.take k) s d)
  | 0, _, d, hd => by simpa [movedE] using hd
  | k + 1, h, d, hd => by
    have hr := hg es[k] (List.getElem_mem (by omega))
    rw [movedE_snoc es s d k (by omega)]
    exact ((movedE_bd hg hs k (by omega) hd).movE hs (by have := hr.m1; omega) hr.m50).more (by push_cast; omega)
end Go.Proofs.Ytjinjbcdbkgedaa
/-
  Contracts: what a script changes, in the reference.
-/
set_option linter.unusedSimpArgs false
namespace Go.Proofs.Ytjinjbcdbkgedaa
open Go.Abs Go.Sand

end Go.Proofs.Ytjinjbcdbkgedaa
/-
  Contracts: what a script changes, and bounds it.
-/
set_option linter.unusedSimpArgs false
set_option linter.unusedVariables false
namespace Go.Proofs.Ytjinjbcdbkgedaa
open Go.Abs Go.Sand

abbrev resT2 (e : Int) (m : List Int) : AV := .tup [.p (.is (Sand.resL e m)), .i (resE e m)]
def chgM (es : List Ed) (N : Int) (s : List Int) : List Int := movedE es s (List.replicate N.toNat 0)
end Go.Proofs.Ytjinjbcdbkgedaa
