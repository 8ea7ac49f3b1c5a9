/-
  Contracts: when nobody but q owes, nothing is lent.
-/
import Derived.Test.YtgbmdikkdjogpaaYl
set_option linter.unusedSimpArgs false
set_option linter.unusedVariables false
namespace Go.Proofs.Ytgbmdikkdjogpaa
open Go.Abs Go.Sand

section
variable {n : Nat} {es : List Ed} (hn : n ≤ 12) {q : Nat} (hq : q < n) {d s : List Int} (hd : d.length = n) (hs : s.length = n)
include hn hq hd hs
theorem lend_done {K : AV → List AO → Prop} (hd0 : ∀ v, v < n → v ≠ q → 0 ≤ d.getD v 0)
    (hdist : ∀ K : AV → List AO → Prop, (∀ far : List Int, far.length = n → far.getD q 0 = 0 → (∀ v, -1 ≤ far.getD v 0 ∧ far.getD v 0 ≤ n) → K (.os 4 0 n) (stH n es q d s 0 ++ [rowZ far])) → HC Try.prog false 69 [.ptr 1 1 0 0] (stH n es q d s 0) K)
    (hK : ∀ r, K r (stH n es q d s 0)) : HC Try.prog false 52 [.ptr 1 1 0 0] (stH n es q d s 0) K := by
  have hn2 : n ≤ 1048576 := by omega
  refine HC_norm ?_
  refine HC_of_W (af := _) ((by exact cfn52 : cfn _ _ _ = some _)) ?_
  simp -implicitDefEqProofs (disch := omega) [c52, List.getElem?_cons_zero, List.getElem?_cons_succ, wrap_id]
  refine hdist _ fun far hfl hf0 hfb => ?_
  simp -implicitDefEqProofs (disch := omega) [List.getElem?_cons_zero, List.getElem?_cons_succ, wrap_id]
  refine HC_of_PC (by simp [views, view, viewC, hfl]) (max_ok far (by omega) (by omega)) ?_
  obtain ⟨m, hm⟩ : ∃ m : Nat, maxK far (far.length - 1) = m ∧ m ≤ n := by
    have h1 := maxK_ge far (far.length - 1) q (by omega)
    have h2 := maxK_le far (B := n) (far.length - 1) fun i _ => (hfb i).2
    exact ⟨(maxK far (far.length - 1)).toNat, by omega, by omega⟩
  rw [hm.1]
  have hmn := hm.2
  simp -implicitDefEqProofs (disch := omega) [List.getElem?_cons_zero, List.getElem?_cons_succ, wrap_id]
  refine loopW m (fun j st => st = ⟨[(4, .i ((m : Int) - j)), (2, .os 4 0 n), (3, .fn (.func 70) [.ptr 1 1 0 0] []), (0, .ptr 1 1 0 0)], stH n es q d s 0 ++ [rowZ far]⟩)
    (wk_norm [0, 1, 2, 3, 4] [4, 2, 3, 0] rfl rfl) (by show _ = _; rw [show (m : Int) - ((0 : Nat) : Int) = m by omega]; rfl) ?_
  rintro j st hj rfl
  obtain ⟨k, hk⟩ : ∃ k : Int, k = (m : Int) - j := ⟨_, rfl⟩
  have hkb : k ≤ 12 := by omega
  have hk1 : k - 1 = (m : Int) - ((j + 1 : Nat) : Int) := by omega
  rw [← hk]
  by_cases hjm' : 0 < k
  rotate_left
  · simp -implicitDefEqProofs (disch := omega) [List.getElem?_cons_zero, List.getElem?_cons_succ, wrap_id, hjm']
    exact finH trivial rfl ⟨[0, 1, 2, 3], rfl, hK _⟩
  have hjm : j < m := by omega
  simp -implicitDefEqProofs (disch := omega) [List.getElem?_cons_zero, List.getElem?_cons_succ, wrap_id, hjm', hn2]
  refine loopW n (fun v st => ∃ b : List Bool, b.length = n ∧ st = ⟨[(36, .i v), (35, .i n), (5, .ptr 6 1 0 0), (4, .i k), (2, .os 4 0 n), (3, .fn (.func 70) [.ptr 1 1 0 0] []), (0, .ptr 1 1 0 0)], [.box (.p (G n es)), .box (.agg [.p (.i n), .p (.sl (es.map edP)), .p (.i q), .os 2 0 n, .os 3 0 n, .p (.i 0)]), .row (d.map PV.i) 1 3 false, .row (s.map PV.i) 1 3 false, rowZ far, rowB b, .box (.os 5 0 n)]⟩)
    (wk_norm [0, 1, 2, 3, 4, 5, 6] [36, 35, 5, 4, 2, 3, 0] rfl rfl) ⟨List.replicate n false, by simp, by rw [rowB, List.map_replicate]; rfl⟩ ?_
  rintro v st hv ⟨b, hbl, rfl⟩
  by_cases hvt : v < n
  · have hvf : v < far.length := by omega
    have hset : AO.row ((b.map PV.b).set v (PV.v (.bool (decide (far[v] < k))))) 1 4 false = rowB (b.set v (decide (far[v] < k))) := by rw [rowB, List.map_set]
    simp -implicitDefEqProofs (disch := omega) [List.getElem?_cons_zero, List.getElem?_cons_succ, wrap_id, hvt, hvf, hfl, hbl, hset]
    exact round_end [0, 1, 2, 3, 4, 5, 6] [36, 35, 5, 4, 2, 3, 0] hvt rfl ⟨b.set v (decide (far[v] < k)), by simpa using hbl, rfl⟩
  simp -implicitDefEqProofs (disch := omega) [List.getElem?_cons_zero, List.getElem?_cons_succ, wrap_id, hvt, hfl]
  refine loopW n (fun v st => st = ⟨[(51, .i v), (50, .i n), (49, .os 4 0 n), (7, .i 0), (5, .ptr 6 1 0 0), (4, .i k), (2, .os 4 0 n), (3, .fn (.func 70) [.ptr 1 1 0 0] []), (0, .ptr 1 1 0 0)], [.box (.p (G n es)), .box (.agg [.p (.i n), .p (.sl (es.map edP)), .p (.i q), .os 2 0 n, .os 3 0 n, .p (.i 0)]), .row (d.map PV.i) 1 3 false, .row (s.map PV.i) 1 3 false, rowZ far, rowB b, .box (.os 5 0 n)]⟩)
    (wk_norm [0, 1, 2, 3, 4, 5, 6] [51, 50, 49, 7, 5, 4, 2, 3, 0] rfl rfl) rfl ?_
  rintro u st hu rfl
  by_cases hut : u < n
  rotate_left
  · simp -implicitDefEqProofs (disch := omega) [List.getElem?_cons_zero, List.getElem?_cons_succ, wrap_id, hut, hfl]
    exact round_end [0, 1, 2, 3, 4] [4, 2, 3, 0] hjm rfl (by show _ = _; rw [← hk1]; rfl)
  have huf : u < far.length := by omega
  have hud : u < d.length := by omega
  by_cases hat : far[u] = k
  · have hat' : decide (far[u] = k) = true := decide_eq_true hat
    have hne : u ≠ q := fun e => by
      subst e
      rw [getD_get huf] at hf0
      omega
    have hdu := hd0 u hut hne
    rw [getD_get hud] at hdu
    have hdu' : ¬ d[u] < 0 := by omega
    simp -implicitDefEqProofs (disch := omega) [List.getElem?_cons_zero, List.getElem?_cons_succ, wrap_id, hut, huf, hfl, hat', hud, hd, hdu']
    exact round_end [0, 1, 2, 3, 4, 5, 6] [51, 50, 49, 7, 5, 4, 2, 3, 0] hut rfl rfl
  · simp -implicitDefEqProofs (disch := omega) [List.getElem?_cons_zero, List.getElem?_cons_succ, wrap_id, hut, huf, hfl, hat]
    exact round_end [0, 1, 2, 3, 4, 5, 6] [51, 50, 49, 7, 5, 4, 2, 3, 0] hut rfl rfl
end
end Go.Proofs.Ytgbmdikkdjogpaa
