/-
  Contracts: package slices; what a script changes.
-/
import Derived.Test.YtjkmhjjfipnbbaaTg
set_option linter.unusedSimpArgs false
namespace Go.Proofs.Ytjkmhjjfipnbbaa
open Go.Abs Go.Sand

theorem clone_ok (xs : List Int) (hx : xs.length ≤ 1000000) : PC Try.prog 77 [.is xs] (.os 0 0 xs.length) [.row (xs.map .i) 1 3 false] := by
  refine PC_of_W cfn77 ?_
  simp -implicitDefEqProofs (disch := omega) [c77, List.getElem?_cons_zero, List.getElem?_cons_succ, wrap_id, stepK_eqn, eqnP]
  have hx' : xs.length ≤ 1048576 := by omega
  refine ⟨?_, ?_⟩
  · rintro rfl
    simp -implicitDefEqProofs (disch := omega) [List.getElem?_cons_zero, List.getElem?_cons_succ, wrap_id]
    refine finW (Wk_nil 2 1 3 rfl) ?_
    exact fin1 [0] trivial rfl rfl ⟨rfl, rfl⟩
  · simp -implicitDefEqProofs (disch := omega) [List.getElem?_cons_zero, List.getElem?_cons_succ, wrap_id, hx']
    exact fin1 [0] trivial rfl rfl ⟨rfl, rfl⟩
theorem cloneI_ok (xs : List Int) (hx : xs.length ≤ 1000000) : PC Try.prog 46 [.is xs] (.os 0 0 xs.length) [.row (xs.map .i) 1 3 false] := by
  refine PC_of_W cfn46 ?_
  simp -implicitDefEqProofs (disch := omega) [c46, List.getElem?_cons_zero, List.getElem?_cons_succ, wrap_id, stepK_eqn, eqnP]
  have hx' : xs.length ≤ 1048576 := by omega
  refine ⟨?_, ?_⟩
  · rintro rfl
    simp -implicitDefEqProofs (disch := omega) [List.getElem?_cons_zero, List.getElem?_cons_succ, wrap_id]
    refine finW (Wk_nil 2 1 3 rfl) ?_
    exact fin1 [0] trivial rfl rfl ⟨rfl, rfl⟩
  · simp -implicitDefEqProofs (disch := omega) [List.getElem?_cons_zero, List.getElem?_cons_succ, wrap_id, hx']
    exact fin1 [0] trivial rfl rfl ⟨rfl, rfl⟩
theorem drop_any {α : Type} (p : α → Bool) (xs : List α) (k : Nat) (h : k < xs.length) : (xs.drop k).any p = (p xs[k] || (xs.drop (k + 1)).any p) := by
  rw [List.drop_eq_getElem_cons h, List.any_cons]
section
variable {e : Bool} {f : FuncId} {fs cs : List AV} {H : List AO} {p : Int → Bool} {R : AV → List AO → Prop}
theorem idxf_ok (xs : List Int) (hx : xs.length ≤ 4611686018427387904) (hc : callable Try.prog f = true) (hf : ∀ e k K, K (.b (p k)) H → HC Try.prog e f (fs ++ .i k :: cs) H K) (hR : ∀ i : Int, (0 ≤ i ↔ xs.any p = true) → R (.i i) H) :
    HC Try.prog false 99 [.p (.is xs), .fn (.func f) fs cs] H R := by
  refine HC_of_W (af := _) ((by exact cfn99 : cfn _ _ _ = some _)) ?_
  simp -implicitDefEqProofs (disch := omega) [c99, List.getElem?_cons_zero, List.getElem?_cons_succ, wrap_id]
  refine loopW xs.length (fun k s => s = ⟨[(8, .i k), (7, .i xs.length), (6, .p (.is xs)), (0, .p (.is xs)), (1, .fn (.func f) fs cs)], H⟩ ∧ xs.any p = (xs.drop k).any p) (Wk_keep [8, 7, 6, 0, 1]) ⟨rfl, rfl⟩ ?_
  rintro k s hk ⟨rfl, hI⟩
  by_cases hlt : k < xs.length
  · have hd := drop_any p xs k hlt
    simp -implicitDefEqProofs (disch := omega) [List.getElem?_cons_zero, List.getElem?_cons_succ, wrap_id, hlt]
    refine ⟨hc, ?_⟩
    refine hf _ _ _ ?_
    cases hv : p xs[k]
    · rw [hv] at hd
      simp -implicitDefEqProofs (disch := omega) [List.getElem?_cons_zero, List.getElem?_cons_succ, wrap_id]
      exact round_keep [8, 7, 6, 0, 1] hlt ⟨rfl, by rw [hI, hd]; rfl⟩
    · rw [hv] at hd
      simp -implicitDefEqProofs (disch := omega) [List.getElem?_cons_zero, List.getElem?_cons_succ, wrap_id]
      exact finH trivial rfl (hR _ (by rw [hI, hd]; simp))
  · simp -implicitDefEqProofs (disch := omega) [List.getElem?_cons_zero, List.getElem?_cons_succ, wrap_id, hlt]
    exact finH trivial rfl (hR _ (by rw [hI, List.drop_of_length_le (Nat.le_of_not_lt hlt)]; simp))
theorem hasf_ok (xs : List Int) (hx : xs.length ≤ 4611686018427387904) (hc : callable Try.prog f = true) (hf : ∀ e k K, K (.b (p k)) H → HC Try.prog e f (fs ++ .i k :: cs) H K) (hR : R (.b (xs.any p)) H) :
    HC Try.prog false 83 [.p (.is xs), .fn (.func f) fs cs] H R := by
  refine HC_of_W (af := _) ((by exact cfn83 : cfn _ _ _ = some _)) ?_
  simp -implicitDefEqProofs (disch := omega) [c83, List.getElem?_cons_zero, List.getElem?_cons_succ, wrap_id]
  refine idxf_ok xs hx hc hf fun i hi => ?_
  by_cases h : 0 ≤ i
  · have hv := hi.1 h
    rw [hv] at hR
    simp -implicitDefEqProofs (disch := omega) [List.getElem?_cons_zero, List.getElem?_cons_succ, wrap_id, h]
    exact finH trivial rfl hR
  · have hv : xs.any p = false := by cases hq : xs.any p; rfl; exact absurd (hi.2 hq) h
    rw [hv] at hR
    simp -implicitDefEqProofs (disch := omega) [List.getElem?_cons_zero, List.getElem?_cons_succ, wrap_id, h]
    exact finH trivial rfl hR
end
theorem bdd1_ok (k : Int) : PC Try.prog 84 [.i k] (.b (!inB k)) [] := by
  refine PC_of_W cfn84 ?_
  by_cases h1 : k < -1048576
  · have hv : inB k = false := by simp [inB]; omega
    simp -implicitDefEqProofs (disch := omega) [c84, List.getElem?_cons_zero, List.getElem?_cons_succ, wrap_id, h1]
    (refine fin0 trivial rfl ?_; simp -implicitDefEqProofs (disch := omega) [List.getElem?_cons_zero, List.getElem?_cons_succ, idx, wrap_id, hv])
  by_cases h2 : 1048576 < k
  · have hv : inB k = false := by simp [inB]; omega
    simp -implicitDefEqProofs (disch := omega) [c84, List.getElem?_cons_zero, List.getElem?_cons_succ, wrap_id, h1, h2]
    (refine fin0 trivial rfl ?_; simp -implicitDefEqProofs (disch := omega) [List.getElem?_cons_zero, List.getElem?_cons_succ, idx, wrap_id, hv])
  · have hv : inB k = true := by simp [inB]; omega
    simp -implicitDefEqProofs (disch := omega) [c84, List.getElem?_cons_zero, List.getElem?_cons_succ, wrap_id, h1, h2]
    (refine fin0 trivial rfl ?_; simp -implicitDefEqProofs (disch := omega) [List.getElem?_cons_zero, List.getElem?_cons_succ, idx, wrap_id, hv])
theorem bounded_ok (d : List Int) (hd : d.length ≤ 4611686018427387904) : PC Try.prog 50 [.is d] (.tup [.p (.is (Sand.resL 0 d)), .i (resE 0 d)]) [] := by
  refine PC_of_W cfn50 ?_
  simp -implicitDefEqProofs (disch := omega) [c50, List.getElem?_cons_zero, List.getElem?_cons_succ, wrap_id]
  refine hasf_ok (p := fun k => !inB k) d hd (by kernel_rfl) (fun e k K hK => HC_of_PC rfl (bdd1_ok k) (by simpa [hpast, calmA, calmP, AV.ren] using hK)) ?_
  rw [any_not]
  cases hv : d.all inB
  · simp -implicitDefEqProofs (disch := omega) [List.getElem?_cons_zero, List.getElem?_cons_succ, wrap_id]
    refine finW (Wk_nil0 2 rfl) ?_
    (refine fin0 trivial rfl ?_; simp -implicitDefEqProofs (disch := omega) [List.getElem?_cons_zero, List.getElem?_cons_succ, idx, wrap_id, Sand.resL, resE, bndE, hv])
  · simp -implicitDefEqProofs (disch := omega) [List.getElem?_cons_zero, List.getElem?_cons_succ, wrap_id]
    (refine fin0 trivial rfl ?_; simp -implicitDefEqProofs (disch := omega) [List.getElem?_cons_zero, List.getElem?_cons_succ, idx, wrap_id, Sand.resL, resE, bndE, hv])
end Go.Proofs.Ytjkmhjjfipnbbaa
