/-
  Loops of a known number of rounds; products of 64 bits.
-/
import Derived.Test.YtgbmdikkdjogpaaYe
set_option linter.unusedSimpArgs false
set_option linter.unusedVariables false
namespace Go.Proofs.Ytgbmdikkdjogpaa
open Go.Abs Go.Sand

section
variable (P : Program) (m0 : Nat) (a : AC)
/-- A loop that ends within so many rounds. -/
def LoopN : Nat → (AExit → St → Prop) → St → Prop
  | 0, _, _ => False
  | n + 1, Q, s => W P m0 a (fun e s1 => match e with
    | .normal => LoopN n Q s1
    | e => Q e s1) s
def LoopK (n : Nat) (Q : AExit → St → Prop) (e : AExit) (s : St) : Prop := match e with
  | .normal => LoopN P m0 a n Q s
  | e => Q e s
end
section
variable {P : Program} {m0 : Nat} {a : AC} {n : Nat} {Q : AExit → St → Prop} {s : St}
theorem LoopN_succ : LoopN P m0 a (n + 1) Q s = W P m0 a (LoopK P m0 a n Q) s := rfl
theorem LoopK_normal : LoopK P m0 a n Q .normal s = LoopN P m0 a n Q s := rfl
theorem LoopK_exit {i : Nat} : LoopK P m0 a n Q (.exit i) s = Q (.exit i) s := rfl
theorem LoopK_ret : LoopK P m0 a n Q .ret s = Q .ret s := rfl
theorem loopN_at (n : Nat) (h : LoopN P m0 a n Q s) : LoopAt P m0 a Q s := by
  refine ⟨fun n s => LoopN P m0 a n Q s, ⟨n, s, Wk.refl _ _, h⟩, fun n s h => ?_⟩
  cases n with
  | zero => exact h.elim
  | succ n =>
    refine W_mono a (fun e s1 h1 => ?_) s h
    cases e with
    | normal => exact ⟨n, s1, Wk.refl _ _, h1, Nat.lt_succ_self n⟩
    | exit i => exact h1
    | ret => exact h1
end
attribute [local simp] LoopN_succ LoopK_normal LoopK_exit LoopK_ret
theorem mul64_ok (n : Nat) (hn : n ≤ 12) : PC Try.prog 96 [.v (.int .u64 1), .v (.int .u64 n)] (.tup [.p (.v (.int .u64 0)), .p (.v (.int .u64 n))]) [] := by
  have h : n = 0 ∨ n = 1 ∨ n = 2 ∨ n = 3 ∨ n = 4 ∨ n = 5 ∨ n = 6 ∨ n = 7 ∨ n = 8 ∨ n = 9 ∨ n = 10 ∨ n = 11 ∨ n = 12 := by omega
  rcases h with rfl | rfl | rfl | rfl | rfl | rfl | rfl | rfl | rfl | rfl | rfl | rfl | rfl
  all_goals
    refine PC_of_W cfn96 ?_
    simp -implicitDefEqProofs (disch := omega) [c96, List.getElem?_cons_zero, List.getElem?_cons_succ, wrap_id]
    (refine fin0 trivial rfl ?_; simp -implicitDefEqProofs (disch := omega) [List.getElem?_cons_zero, List.getElem?_cons_succ, idx, wrap_id])
    exact ⟨by kernel_rfl, by kernel_rfl⟩
theorem mul_ok (n : Nat) (hn : n ≤ 12) : PC Try.prog 92 [.v (.int .u64 1), .v (.int .u64 n)] (.tup [.p (.v (.int .u64 0)), .p (.v (.int .u64 n))]) [] := by
  refine PC_of_W cfn92 ?_
  simp -implicitDefEqProofs (disch := omega) [c92, List.getElem?_cons_zero, List.getElem?_cons_succ, wrap_id]
  refine HC_of_PC rfl (mul64_ok n hn) ?_
  simp -implicitDefEqProofs (disch := omega) [List.getElem?_cons_zero, List.getElem?_cons_succ, wrap_id]
  (refine fin0 trivial rfl ?_; simp -implicitDefEqProofs (disch := omega) [List.getElem?_cons_zero, List.getElem?_cons_succ, idx, wrap_id])
end Go.Proofs.Ytgbmdikkdjogpaa
