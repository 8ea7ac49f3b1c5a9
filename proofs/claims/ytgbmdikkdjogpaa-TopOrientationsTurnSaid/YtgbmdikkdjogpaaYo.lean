/-
  Contracts: a list of one number, repeated.
-/
import Derived.Test.YtgbmdikkdjogpaaYn
set_option linter.unusedSimpArgs false
set_option linter.unusedVariables false
namespace Go.Proofs.Ytgbmdikkdjogpaa
open Go.Abs Go.Sand

/-- What is written so far. -/
def rpK (n : Nat) (v : Int) (m : Nat) : List Int := List.replicate m v ++ List.replicate (n - m) 0
theorem rpK_len {n : Nat} {v : Int} {m : Nat} (h : m ≤ n) : (rpK n v m).length = n := by simp [rpK]; omega
theorem rpK_full (n : Nat) (v : Int) : rpK n v n = List.replicate n v := by simp [rpK]
theorem rpK_step {n : Nat} {v : Int} {m : Nat} (h : m < n) : (rpK n v m).take m ++ ((rpK n v m).take m).take (n - m) ++ (rpK n v m).drop (m + min m (n - m)) = rpK n v (min (m + m) n) := by
  have h1 : (rpK n v m).take m = List.replicate m v := by
    rw [rpK, List.take_append_of_le_length (by simp)]; simp
  have h2 : (rpK n v m).drop (m + min m (n - m)) = List.replicate (n - m - min m (n - m)) 0 := by
    rw [rpK, List.drop_append]; simp
  rw [h1, h2, List.take_replicate, List.replicate_append_replicate, rpK]
  congr 2 <;> omega
theorem wrap_u {n : Nat} (hn : n ≤ 12) : IntKind.u64.wrap (n : Int) = n := by
  have h : n = 0 ∨ n = 1 ∨ n = 2 ∨ n = 3 ∨ n = 4 ∨ n = 5 ∨ n = 6 ∨ n = 7 ∨ n = 8 ∨ n = 9 ∨ n = 10 ∨ n = 11 ∨ n = 12 := by omega
  rcases h with rfl | rfl | rfl | rfl | rfl | rfl | rfl | rfl | rfl | rfl | rfl | rfl | rfl <;> rfl
theorem repeat_ok (n : Nat) (h1 : 1 ≤ n) (hn : n ≤ 12) (v : Int) : PC Try.prog 83 [.is [v], .i n] (.os 0 0 n) [rowZ (List.replicate n v)] := by
  have hw := wrap_u hn
  have hw1 : IntKind.u64.wrap 1 = 1 := by kernel_rfl
  have hneg : ¬ (n : Int) < 0 := by omega
  have hbig : ¬ (9223372036854775807 : Int) < n := by omega
  have hn2 : n ≤ 1048576 := by omega
  have hn0 : 0 < n := by omega
  refine PC_of_W cfn83 ?_
  simp -implicitDefEqProofs (disch := omega) [c83, List.getElem?_cons_zero, List.getElem?_cons_succ, wrap_id, hw, hneg, hw1]
  refine HC_of_PC rfl (mul_ok n hn) ?_
  simp -implicitDefEqProofs (disch := omega) [List.getElem?_cons_zero, List.getElem?_cons_succ, wrap_id, hbig, hn2, hn0]
  refine loopW 12 (fun k s => s = ⟨[(8, .i (min (2 ^ k) n : Nat)), (7, .os 0 0 n)], [rowZ (rpK n v (min (2 ^ k) n))]⟩)
    (wk_norm [0] [8, 7] rfl rfl) ?_ ?_
  · obtain ⟨m, rfl⟩ : ∃ m, n = m + 1 := ⟨n - 1, by omega⟩
    show _ = _
    rw [show min (2 ^ 0) (m + 1) = 1 by omega, rpK, rowZ, List.map_append, List.map_replicate, List.map_replicate, List.take_succ_cons, List.take_nil]
    rfl
  rintro k s hk rfl
  obtain ⟨m, hm⟩ : ∃ m, m = min (2 ^ k) n := ⟨_, rfl⟩
  have hm2 : min (m + m) n = min (2 ^ (k + 1)) n := by rw [Nat.pow_succ]; omega
  have hpos : 0 < 2 ^ k := Nat.two_pow_pos k
  have hm0 : 0 < m := by omega
  have hmn : m ≤ n := by omega
  rw [← hm]
  have hl := rpK_len (v := v) hmn
  by_cases hlt : m < n
  rotate_left
  · obtain rfl : m = n := by omega
    rw [rpK_full] at *
    simp -implicitDefEqProofs (disch := omega) [List.getElem?_cons_zero, List.getElem?_cons_succ, wrap_id]
    exact fin1 [0] trivial rfl (by rfl) ⟨rfl, rfl⟩
  have hk12 : k < 12 := by
    refine Classical.byContradiction fun h => ?_
    have : k = 12 := by omega
    subst this
    omega
  have hst := rpK_step (v := v) hlt
  obtain ⟨L, hL⟩ : ∃ L, L = rpK n v m := ⟨_, rfl⟩
  rw [← hL] at hst hl ⊢
  have hnm : 0 < n - m := by omega
  have hrow : AO.row (List.take m (List.map PV.i L) ++ (List.take (n - m) (List.take m (List.map PV.i L)) ++ List.drop (m + min m (n - m)) (List.map PV.i L))) 1 3 false = rowZ (rpK n v (min (m + m) n)) := by
    rw [← hst, rowZ, List.map_append, List.map_append, List.map_take, List.map_take, List.map_take, List.map_drop, List.append_assoc]
  have hadd : ((m : Int) + ((min m (n - m) : Nat) : Int)) = ((min (2 ^ (k + 1)) n : Nat) : Int) := by omega
  simp -implicitDefEqProofs (disch := omega) [List.getElem?_cons_zero, List.getElem?_cons_succ, wrap_id, hlt, hl, hm0, hmn, hnm, hrow, hadd]
  rw [if_pos]
  rotate_left
  · intro x hx
    obtain ⟨y, _, rfl⟩ := List.mem_map.1 (List.mem_of_mem_take hx)
    rfl
  simp -implicitDefEqProofs (disch := omega) [List.getElem?_cons_zero, List.getElem?_cons_succ, wrap_id, hadd]
  exact round_end [0] [8, 7] (by omega) rfl (by show _ = _; rw [← hm2]; rfl)
end Go.Proofs.Ytgbmdikkdjogpaa
