/-
  Contracts: package graph, sets and valences; what is given.
-/
import Derived.Test.YtgbmdikkdjogpaaMra
set_option linter.unusedSimpArgs false
namespace Go.Proofs.Ytgbmdikkdjogpaa
open Go.Abs Go.Sand

def atErr (N : Int) (es : List Ed) (vs : List Int) : Int := if gcheck N es ≠ 0 then gcheck N es else atE N vs
theorem at_ok (N : Int) (es : List Ed) (xs : List Int) (hel : es.length ≤ 4611686018427387904) (hx : xs.length ≤ 4611686018427387904) : PC Try.prog 79 [G N es, .is xs] (.i (atErr N es xs)) [] := by
  refine PC_of_W cfn79 ?_
  simp -implicitDefEqProofs (disch := omega) [c79, List.getElem?_cons_zero, List.getElem?_cons_succ, wrap_id]
  refine HC_of_PC rfl (gcheck_ok' N es hel) ?_
  by_cases h0 : gcheck N es = 0
  rotate_left
  · simp -implicitDefEqProofs (disch := omega) [List.getElem?_cons_zero, List.getElem?_cons_succ, wrap_id, h0]
    (refine fin0 trivial rfl ?_; simp -implicitDefEqProofs (disch := omega) [List.getElem?_cons_zero, List.getElem?_cons_succ, idx, wrap_id, atErr, h0])
  simp -implicitDefEqProofs (disch := omega) [List.getElem?_cons_zero, List.getElem?_cons_succ, wrap_id, h0]
  refine loopW xs.length (fun k s => s = ⟨[(15, .i k), (14, .i xs.length), (13, .p (.is xs)), (2, .ptr 0 1 0 0)], [.box (.p (G N es))]⟩ ∧ xs.all (vtx N) = (xs.drop k).all (vtx N)) (wk_norm [0] [15, 14, 13, 2] rfl rfl) ⟨rfl, rfl⟩ ?_
  rintro k s hk ⟨rfl, hI⟩
  by_cases hlt : k < xs.length
  · have hd := drop_all (vtx N) xs k hlt
    simp -implicitDefEqProofs (disch := omega) [List.getElem?_cons_zero, List.getElem?_cons_succ, wrap_id, hlt]
    refine HC_of_PC rfl (gvertex_ok N xs[k]) ?_
    cases hv : vtx N xs[k]
    · rw [hv] at hd
      simp -implicitDefEqProofs (disch := omega) [List.getElem?_cons_zero, List.getElem?_cons_succ, wrap_id]
      (refine fin0 trivial rfl ?_; simp -implicitDefEqProofs (disch := omega) [List.getElem?_cons_zero, List.getElem?_cons_succ, idx, wrap_id, atErr, atE, h0, hI, hd])
    · rw [hv] at hd
      simp -implicitDefEqProofs (disch := omega) [List.getElem?_cons_zero, List.getElem?_cons_succ, wrap_id]
      exact round_end [0] [15, 14, 13, 2] hlt rfl ⟨rfl, by rw [hI, hd]; rfl⟩
  · simp -implicitDefEqProofs (disch := omega) [List.getElem?_cons_zero, List.getElem?_cons_succ, wrap_id, hlt]
    (refine fin0 trivial rfl ?_; simp -implicitDefEqProofs (disch := omega) [List.getElem?_cons_zero, List.getElem?_cons_succ, idx, wrap_id, atErr, atE, h0, hI, List.drop_of_length_le (Nat.le_of_not_lt hlt)])
theorem val_ok (N : Int) (es : List Ed) (v : Int) (hgc : gcheck N es = 0) (hv : vtx N v = true) (hel : es.length ≤ 1000) : PC Try.prog 63 [G N es, .i v] (.tup [.i (valS es v), .i 0]) [] := by
  refine PC_of_W cfn63 ?_
  simp -implicitDefEqProofs (disch := omega) [c63, List.getElem?_cons_zero, List.getElem?_cons_succ, wrap_id]
  have hg := gcheck_ok hgc
  have hat : atErr N es [v] = 0 := by simp [atErr, hgc, atE, hv]
  refine HC_of_PC rfl (at_ok N es [v] (by omega) (by simp)) ?_
  simp -implicitDefEqProofs (disch := omega) [List.getElem?_cons_zero, List.getElem?_cons_succ, wrap_id, hat]
  refine loopW es.length (fun k s => s = ⟨[(20, .i k), (19, .i es.length), (18, .p (.sl (es.map edP))), (7, .i (valS (es.take k) v)), (1, .i v)], []⟩) (wk_norm [] [20, 19, 18, 7, 1] rfl rfl) rfl ?_
  rintro k s hk rfl
  by_cases hlt : k < es.length
  rotate_left
  · have : k = es.length := by omega
    subst this
    rw [List.take_length]
    simp -implicitDefEqProofs (disch := omega) [List.getElem?_cons_zero, List.getElem?_cons_succ, wrap_id]
    (refine fin0 trivial rfl ?_; simp -implicitDefEqProofs (disch := omega) [List.getElem?_cons_zero, List.getElem?_cons_succ, idx, wrap_id])
  have hs := valS_snoc es v k hlt
  have hb := valS_bd (n := N) (es := es.take k) (fun x hx => hg.right x (List.mem_of_mem_take hx)) v
  have hb2 := valS_bd (n := N) (es := es.take (k + 1)) (fun x hx => hg.right x (List.mem_of_mem_take hx)) v
  have hl2 : (es.take k).length ≤ 1000 := by rw [List.length_take]; omega
  have hl3 : (es.take (k + 1)).length ≤ 1000 := by rw [List.length_take]; omega
  by_cases h1 : es[k].a = es[k].b
  · have hv1 : val1 v es[k] = 0 := by simp [val1, h1]
    rw [hv1, Int.add_zero] at hs
    simp -implicitDefEqProofs (disch := omega) [List.getElem?_cons_zero, List.getElem?_cons_succ, wrap_id, hlt, h1]
    exact round_end [] [20, 19, 18, 7, 1] hlt rfl (by rw [hs]; rfl)
  by_cases h2 : es[k].a = v
  · have hv1 : val1 v es[k] = es[k].m := by simp [val1, h1, h2]; intro h; exact absurd (h2.trans h) h1
    rw [hv1] at hs
    rw [hs] at hb2
    have h1v : ¬ v = es[k].b := fun h => h1 (h2.trans h)
    simp -implicitDefEqProofs (disch := omega) [List.getElem?_cons_zero, List.getElem?_cons_succ, wrap_id, hlt, h1v, h2]
    exact round_end [] [20, 19, 18, 7, 1] hlt rfl (by rw [hs]; rfl)
  by_cases h3 : es[k].b = v
  · have hv1 : val1 v es[k] = es[k].m := by simp [val1, h1, h2, h3]
    rw [hv1] at hs
    rw [hs] at hb2
    simp -implicitDefEqProofs (disch := omega) [List.getElem?_cons_zero, List.getElem?_cons_succ, wrap_id, hlt, h1, h2, h3]
    exact round_end [] [20, 19, 18, 7, 1] hlt rfl (by rw [hs]; rfl)
  · have hv1 : val1 v es[k] = 0 := by simp [val1, h1, h2, h3]
    rw [hv1, Int.add_zero] at hs
    simp -implicitDefEqProofs (disch := omega) [List.getElem?_cons_zero, List.getElem?_cons_succ, wrap_id, hlt, h1, h2, h3]
    exact round_end [] [20, 19, 18, 7, 1] hlt rfl (by rw [hs]; rfl)
end Go.Proofs.Ytgbmdikkdjogpaa
/-
  Contracts: package slices; what a script changes.
-/
set_option linter.unusedSimpArgs false
namespace Go.Proofs.Ytgbmdikkdjogpaa
open Go.Abs Go.Sand

theorem clone_ok (xs : List Int) (hx : xs.length ≤ 1000000) : PC Try.prog 68 [.is xs] (.os 0 0 xs.length) [.row (xs.map .i) 1 3 false] := by
  refine PC_of_W cfn68 ?_
  simp -implicitDefEqProofs (disch := omega) [c68, List.getElem?_cons_zero, List.getElem?_cons_succ, wrap_id, stepK_eqn, eqnP]
  have hx' : xs.length ≤ 1048576 := by omega
  refine ⟨?_, ?_⟩
  · rintro rfl
    simp -implicitDefEqProofs (disch := omega) [List.getElem?_cons_zero, List.getElem?_cons_succ, wrap_id]
    refine finW (Wk_nil 2 1 3 rfl) ?_
    exact fin1 [0] trivial rfl rfl ⟨rfl, rfl⟩
  · simp -implicitDefEqProofs (disch := omega) [List.getElem?_cons_zero, List.getElem?_cons_succ, wrap_id, hx']
    exact fin1 [0] trivial rfl rfl ⟨rfl, rfl⟩
theorem drop_any {α : Type} (p : α → Bool) (xs : List α) (k : Nat) (h : k < xs.length) : (xs.drop k).any p = (p xs[k] || (xs.drop (k + 1)).any p) := by
  rw [List.drop_eq_getElem_cons h, List.any_cons]
section
variable {e : Bool} {f : FuncId} {fs cs : List AV} {H : List AO} {p : Int → Bool} {R : AV → List AO → Prop}
end
end Go.Proofs.Ytgbmdikkdjogpaa
/-
  Contracts: what a script changes, in package firing.
-/
set_option linter.unusedSimpArgs false
namespace Go.Proofs.Ytgbmdikkdjogpaa
open Go.Abs Go.Sand

theorem Bd.get {B : Int} {d : List Int} (h : Bd B d) {k : Nat} (hk : k < d.length) : -B ≤ d[k] ∧ d[k] ≤ B := by
  have := h k
  rwa [getD_get hk] at this
theorem movedE_bd {B : Int} {n : Int} {es : List Ed} {s : List Int} (hg : ∀ x ∈ es, Right n x) (hs : Bd 1048576 s) : ∀ (k : Nat) (_ : k ≤ es.length) {d : List Int}, Bd B d → Bd (B + 209715200 * k) (movedE (es.take k) s d)
  | 0, _, d, hd => by simpa [movedE] using hd
  | k + 1, h, d, hd => by
    have hr := hg es[k] (List.getElem_mem (by omega))
    rw [movedE_snoc es s d k (by omega)]
    exact ((movedE_bd hg hs k (by omega) hd).movE hs (by have := hr.m1; omega) hr.m50).more (by push_cast; omega)
end Go.Proofs.Ytgbmdikkdjogpaa
/-
  Contracts: what a script changes, in the reference.
-/
set_option linter.unusedSimpArgs false
namespace Go.Proofs.Ytgbmdikkdjogpaa
open Go.Abs Go.Sand

end Go.Proofs.Ytgbmdikkdjogpaa
/-
  Contracts: what a script changes, and bounds it.
-/
set_option linter.unusedSimpArgs false
set_option linter.unusedVariables false
namespace Go.Proofs.Ytgbmdikkdjogpaa
open Go.Abs Go.Sand

abbrev resT2 (e : Int) (m : List Int) : AV := .tup [.p (.is (Sand.resL e m)), .i (resE e m)]
def chgM (es : List Ed) (N : Int) (s : List Int) : List Int := movedE es s (List.replicate N.toNat 0)
end Go.Proofs.Ytgbmdikkdjogpaa
