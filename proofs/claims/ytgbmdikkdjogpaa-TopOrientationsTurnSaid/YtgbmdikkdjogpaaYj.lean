/-
  Contracts: the result of the state of a divisor.
-/
import Derived.Test.YtgbmdikkdjogpaaYi
set_option linter.unusedSimpArgs false
set_option linter.unusedVariables false
namespace Go.Proofs.Ytgbmdikkdjogpaa
open Go.Abs Go.Sand

section
variable {n : Nat} {es : List Ed} (hn : n ≤ 12) {q : Nat} (hq : q < n) {d s : List Int} (hd : d.length = n) (hs : s.length = n) (hb : Bd 1000000000000 s)
include hn hq hd hs hb
theorem result_hc {w : Int} (hw : w = s.getD q 0) {K : AV → List AO → Prop} (hcd : dcheck d n = 0) (hcs : dcheck (s.map (· - w)) n = 0)
    (hK : K (.tup [.os 2 0 n, .os 3 0 n, .i 0]) (stH n es q d (s.map (· - w)) 0)) :
    HC Try.prog false 54 [.ptr 1 1 0 0] (stH n es q d s 0) K := by
  have hqs : q < s.length := by omega
  have hwq : s[q] = w := by rw [hw, getD_get hqs]
  have hbw := hb q
  rw [← hw] at hbw
  refine HC_norm ?_
  refine HC_of_W (af := _) ((by exact cfn54 : cfn _ _ _ = some _)) ?_
  simp -implicitDefEqProofs (disch := omega) [c54, List.getElem?_cons_zero, List.getElem?_cons_succ, wrap_id, hqs, hs, hq, hwq]
  have hl0 := mapK_zero (· - w) s
  refine loopW n (fun k st => st = ⟨[(31, .i k), (30, .i n), (5, .i w), (0, .ptr 1 1 0 0)], [.box (.p (G n es)), .box (.agg [.p (.i n), .p (.sl (es.map edP)), .p (.i q), .os 2 0 n, .os 3 0 n, .p (.i 0)]), .row (d.map PV.i) 1 3 false, .row ((mapK (· - w) s k).map PV.i) 1 3 false]⟩)
    (wk_norm [0, 1, 2, 3] [31, 30, 5, 0] rfl rfl) (by show _ = _; rw [hl0]; rfl) ?_
  rintro k st hk rfl
  by_cases hkt : k < n
  · have hks : k < s.length := by omega
    have hml := mapK_len (· - w) s k
    have hat := mapK_at (· - w) s k hks
    have hset := mapK_set (· - w) s k hks
    have hbk := hb k
    rw [getD_get hks] at hbk
    obtain ⟨M, hM⟩ : ∃ M, M = mapK (· - w) s k := ⟨_, rfl⟩
    obtain ⟨M1, hM1⟩ : ∃ M1, M1 = mapK (· - w) s (k + 1) := ⟨_, rfl⟩
    have hkM : k < M.length := by rw [hM, hml]; exact hks
    have hMn : M.length = n := by rw [hM, hml]; exact hs
    have hMk : M[k] = s[k] := by simp only [hM, hat]
    have hset2 : AO.row ((M.map PV.i).set k (PV.i (s[k] - w))) 1 3 false = .row (M1.map PV.i) 1 3 false := by rw [hM1, ← hset, ← hM, List.map_set]
    rw [← hM]
    simp -implicitDefEqProofs (disch := omega) [List.getElem?_cons_zero, List.getElem?_cons_succ, wrap_id, hkt, hkM, hMn, hMk, hset2]
    exact round_end [0, 1, 2, 3] [31, 30, 5, 0] hkt rfl (by show _ = _; rw [← hM1]; rfl)
  have hkn : k = n := by omega
  have hall := mapK_all (· - w) s
  rw [hs] at hall
  rw [hkn, hall]
  obtain ⟨S, hS⟩ : ∃ S, S = s.map (· - w) := ⟨_, rfl⟩
  have hSl : S.length = n := by rw [hS, List.length_map, hs]
  rw [← hS] at hcs hK ⊢
  simp -implicitDefEqProofs (disch := omega) [List.getElem?_cons_zero, List.getElem?_cons_succ, wrap_id, hSl, hd]
  refine HC_of_PC (by simp [views, view, viewC, hd]) (chk_ok d n (by omega)) ?_
  simp -implicitDefEqProofs (disch := omega) [List.getElem?_cons_zero, List.getElem?_cons_succ, wrap_id, hcd, hSl, hd]
  refine HC_of_PC (by simp [views, view, viewC, hSl]) (chk_ok S n (by omega)) ?_
  simp -implicitDefEqProofs (disch := omega) [List.getElem?_cons_zero, List.getElem?_cons_succ, wrap_id, hcs, hSl, hd]
  exact finH trivial rfl ⟨[0, 1, 2, 3], rfl, hK⟩
end
end Go.Proofs.Ytgbmdikkdjogpaa
