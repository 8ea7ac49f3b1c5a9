/-
  Texts joined: Yj Yk Yl Ym Yn Yo Yp Yq Yr.
-/
import Derived.Test.YtgbmdikkdjogpaaKb24

section
set_option linter.unusedSimpArgs false
set_option linter.unusedVariables false
namespace Go.Proofs.Ytgbmdikkdjogpaa
open Go.Abs Go.Sand
section
variable {n : Nat} {es : List Ed} (hn : n ≤ 12) {q : Nat} (hq : q < n) {d s : List Int} (hd : d.length = n) (hs : s.length = n) (hb : Bd 1000000000000 s)
include hn hq hd hs hb
theorem result_hc {w : Int} (hw : w = s.getD q 0) {K : AV → List AO → Prop} (hcd : dcheck d n = 0) (hcs : dcheck (s.map (· - w)) n = 0)
    (hK : K (.tup [.os 2 0 n, .os 3 0 n, .i 0]) (stH n es q d (s.map (· - w)) 0)) :
    HC Try.prog false 54 [.ptr 1 1 0 0] (stH n es q d s 0) K := by
  have hqs : q < s.length := by omega
  have hwq : s[q] = w := by rw [hw, getD_get hqs]
  have hbw := hb q
  rw [← hw] at hbw
  refine HC_norm ?_
  refine HC_of_W (af := _) ((by exact cfn54 : cfn _ _ _ = some _)) ?_
  simp -implicitDefEqProofs (disch := omega) [c54, List.getElem?_cons_zero, List.getElem?_cons_succ, wrap_id, hqs, hs, hq, hwq]
  have hl0 := mapK_zero (· - w) s
  refine loopW n (fun k st => st = ⟨[(31, .i k), (30, .i n), (5, .i w), (0, .ptr 1 1 0 0)], [.box (.p (G n es)), .box (.agg [.p (.i n), .p (.sl (es.map edP)), .p (.i q), .os 2 0 n, .os 3 0 n, .p (.i 0)]), .row (d.map PV.i) 1 3 false, .row ((mapK (· - w) s k).map PV.i) 1 3 false]⟩)
    (wk_norm [0, 1, 2, 3] [31, 30, 5, 0] rfl rfl) (by show _ = _; rw [hl0]; rfl) ?_
  rintro k st hk rfl
  by_cases hkt : k < n
  · have hks : k < s.length := by omega
    have hml := mapK_len (· - w) s k
    have hat := mapK_at (· - w) s k hks
    have hset := mapK_set (· - w) s k hks
    have hbk := hb k
    rw [getD_get hks] at hbk
    obtain ⟨M, hM⟩ : ∃ M, M = mapK (· - w) s k := ⟨_, rfl⟩
    obtain ⟨M1, hM1⟩ : ∃ M1, M1 = mapK (· - w) s (k + 1) := ⟨_, rfl⟩
    have hkM : k < M.length := by rw [hM, hml]; exact hks
    have hMn : M.length = n := by rw [hM, hml]; exact hs
    have hMk : M[k] = s[k] := by simp only [hM, hat]
    have hset2 : AO.row ((M.map PV.i).set k (PV.i (s[k] - w))) 1 3 false = .row (M1.map PV.i) 1 3 false := by rw [hM1, ← hset, ← hM, List.map_set]
    rw [← hM]
    simp -implicitDefEqProofs (disch := omega) [List.getElem?_cons_zero, List.getElem?_cons_succ, wrap_id, hkt, hkM, hMn, hMk, hset2]
    exact round_end [0, 1, 2, 3] [31, 30, 5, 0] hkt rfl (by show _ = _; rw [← hM1]; rfl)
  have hkn : k = n := by omega
  have hall := mapK_all (· - w) s
  rw [hs] at hall
  rw [hkn, hall]
  obtain ⟨S, hS⟩ : ∃ S, S = s.map (· - w) := ⟨_, rfl⟩
  have hSl : S.length = n := by rw [hS, List.length_map, hs]
  rw [← hS] at hcs hK ⊢
  simp -implicitDefEqProofs (disch := omega) [List.getElem?_cons_zero, List.getElem?_cons_succ, wrap_id, hSl, hd]
  refine HC_of_PC (by simp [views, view, viewC, hd]) (chk_ok d n (by omega)) ?_
  simp -implicitDefEqProofs (disch := omega) [List.getElem?_cons_zero, List.getElem?_cons_succ, wrap_id, hcd, hSl, hd]
  refine HC_of_PC (by simp [views, view, viewC, hSl]) (chk_ok S n (by omega)) ?_
  simp -implicitDefEqProofs (disch := omega) [List.getElem?_cons_zero, List.getElem?_cons_succ, wrap_id, hcs, hSl, hd]
  exact finH trivial rfl ⟨[0, 1, 2, 3], rfl, hK⟩
end
end Go.Proofs.Ytgbmdikkdjogpaa
end
section
set_option linter.unusedSimpArgs false
set_option linter.unusedVariables false
namespace Go.Proofs.Ytgbmdikkdjogpaa
open Go.Abs Go.Sand
section
variable {n : Nat} {es : List Ed} (hr : ∀ x ∈ es, Right n x) (hn : n ≤ 12) (hel : es.length ≤ 1000) {q : Nat} (hq : q < n) {d s : List Int} (hd : d.length = n) (hs : s.length = n)
include hr hn hel hq hd hs
theorem settle_done {K : AV → List AO → Prop} (hall : ∀ k, agB n es q d k = false → (∀ j, j < k → agB n es q d j = true) → (bS n es q d k).any (!·) = false) (hK : ∀ r, K r (stH n es q d s 0)) :
    HC Try.prog false 53 [.ptr 1 1 0 0] (stH n es q d s 0) K := by
  refine HC_norm ?_
  refine HC_of_W (af := _) ((by exact cfn53 : cfn _ _ _ = some _)) ?_
  simp -implicitDefEqProofs (disch := omega) [c53, List.getElem?_cons_zero, List.getElem?_cons_succ, wrap_id]
  refine loopN_at 1 ?_
  rw [LoopN_succ]
  simp -implicitDefEqProofs (disch := omega) [List.getElem?_cons_zero, List.getElem?_cons_succ, wrap_id]
  refine unburnt_hc hr hn hel hq hd hs fun k h1 h2 => ?_
  rw [hall k h1 h2]
  have hbl := bS_len n es q d k
  simp -implicitDefEqProofs (disch := omega) [List.getElem?_cons_zero, List.getElem?_cons_succ, wrap_id, LoopK_ret, hbl]
  exact finH trivial rfl ⟨[0, 1, 2, 3], rfl, hK _⟩
end
end Go.Proofs.Ytgbmdikkdjogpaa
end
section
set_option linter.unusedSimpArgs false
set_option linter.unusedVariables false
namespace Go.Proofs.Ytgbmdikkdjogpaa
open Go.Abs Go.Sand
/-- The greatest of the first k+1. -/
def maxK (xs : List Int) : Nat → Int
  | 0 => xs.getD 0 0
  | k + 1 => max (maxK xs k) (xs.getD (k + 1) 0)
theorem maxK_ge (xs : List Int) : ∀ k i, i ≤ k → xs.getD i 0 ≤ maxK xs k
  | 0, i, h => by have e : i = 0 := by omega
                  subst e; exact Int.le_refl _
  | k + 1, i, h => by
    rw [maxK]
    rcases Nat.lt_or_ge i (k + 1) with h1 | h1
    · have := maxK_ge xs k i (by omega); omega
    · have e : i = k + 1 := by omega
      subst e; omega
theorem maxK_le (xs : List Int) {B : Int} : ∀ k, (∀ i, i ≤ k → xs.getD i 0 ≤ B) → maxK xs k ≤ B
  | 0, h => h 0 (Nat.le_refl _)
  | k + 1, h => by
    rw [maxK]
    have h1 := maxK_le xs k fun i hi => h i (by omega)
    have h2 := h (k + 1) (Nat.le_refl _)
    omega
theorem max_ok (xs : List Int) (h0 : 0 < xs.length) (hx : xs.length ≤ 1000) : PC Try.prog 71 [.is xs] (.i (maxK xs (xs.length - 1))) [] := by
  have h1 : ¬ xs.length < 1 := by omega
  have h1' : ¬ (xs.length : Int) < 1 := by omega
  have e0 : maxK xs 0 = xs[0] := getD_get h0
  refine PC_of_W cfn71 ?_
  simp -implicitDefEqProofs (disch := omega) [c71, List.getElem?_cons_zero, List.getElem?_cons_succ, wrap_id, h0, h1, h1']
  refine loopW (xs.length - 1) (fun k st => st = ⟨[(4, .i (k + 1 : Nat)), (3, .i (maxK xs k)), (0, .p (.is xs))], []⟩) (wk_norm [] [4, 3, 0] rfl rfl) (by show _ = _; rw [e0]; rfl) ?_
  rintro k st hk rfl
  by_cases hkt : k + 1 < xs.length
  · have hkt' : (k : Int) + 1 < xs.length := by omega
    have e1 : maxK xs (k + 1) = max (maxK xs k) xs[k + 1] := by rw [maxK, getD_get hkt]
    simp -implicitDefEqProofs (disch := omega) [List.getElem?_cons_zero, List.getElem?_cons_succ, wrap_id, hkt, hkt']
    exact round_end [] [4, 3, 0] (by omega) rfl (by show _ = _; rw [e1]; rfl)
  · have hkt' : ¬ (k : Int) + 1 < xs.length := by omega
    have hke : k = xs.length - 1 := by omega
    simp -implicitDefEqProofs (disch := omega) [List.getElem?_cons_zero, List.getElem?_cons_succ, wrap_id, hkt, hkt']
    (refine fin0 trivial rfl ?_; simp -implicitDefEqProofs (disch := omega) [List.getElem?_cons_zero, List.getElem?_cons_succ, idx, wrap_id, hke])
end Go.Proofs.Ytgbmdikkdjogpaa
end
section
set_option linter.unusedSimpArgs false
set_option linter.unusedVariables false
namespace Go.Proofs.Ytgbmdikkdjogpaa
open Go.Abs Go.Sand
section
variable {n : Nat} {es : List Ed} (hn : n ≤ 12) {q : Nat} (hq : q < n) {d s : List Int} (hd : d.length = n) (hs : s.length = n)
include hn hq hd hs
theorem lend_done {K : AV → List AO → Prop} (hd0 : ∀ v, v < n → v ≠ q → 0 ≤ d.getD v 0)
    (hdist : ∀ K : AV → List AO → Prop, (∀ far : List Int, far.length = n → far.getD q 0 = 0 → (∀ v, -1 ≤ far.getD v 0 ∧ far.getD v 0 ≤ n) → K (.os 4 0 n) (stH n es q d s 0 ++ [rowZ far])) → HC Try.prog false 69 [.ptr 1 1 0 0] (stH n es q d s 0) K)
    (hK : ∀ r, K r (stH n es q d s 0)) : HC Try.prog false 52 [.ptr 1 1 0 0] (stH n es q d s 0) K := by
  have hn2 : n ≤ 1048576 := by omega
  refine HC_norm ?_
  refine HC_of_W (af := _) ((by exact cfn52 : cfn _ _ _ = some _)) ?_
  simp -implicitDefEqProofs (disch := omega) [c52, List.getElem?_cons_zero, List.getElem?_cons_succ, wrap_id]
  refine hdist _ fun far hfl hf0 hfb => ?_
  simp -implicitDefEqProofs (disch := omega) [List.getElem?_cons_zero, List.getElem?_cons_succ, wrap_id]
  refine HC_of_PC (by simp [views, view, viewC, hfl]) (max_ok far (by omega) (by omega)) ?_
  obtain ⟨m, hm⟩ : ∃ m : Nat, maxK far (far.length - 1) = m ∧ m ≤ n := by
    have h1 := maxK_ge far (far.length - 1) q (by omega)
    have h2 := maxK_le far (B := n) (far.length - 1) fun i _ => (hfb i).2
    exact ⟨(maxK far (far.length - 1)).toNat, by omega, by omega⟩
  rw [hm.1]
  have hmn := hm.2
  simp -implicitDefEqProofs (disch := omega) [List.getElem?_cons_zero, List.getElem?_cons_succ, wrap_id]
  refine loopW m (fun j st => st = ⟨[(4, .i ((m : Int) - j)), (2, .os 4 0 n), (3, .fn (.func 70) [.ptr 1 1 0 0] []), (0, .ptr 1 1 0 0)], stH n es q d s 0 ++ [rowZ far]⟩)
    (wk_norm [0, 1, 2, 3, 4] [4, 2, 3, 0] rfl rfl) (by show _ = _; rw [show (m : Int) - ((0 : Nat) : Int) = m by omega]; rfl) ?_
  rintro j st hj rfl
  obtain ⟨k, hk⟩ : ∃ k : Int, k = (m : Int) - j := ⟨_, rfl⟩
  have hkb : k ≤ 12 := by omega
  have hk1 : k - 1 = (m : Int) - ((j + 1 : Nat) : Int) := by omega
  rw [← hk]
  by_cases hjm' : 0 < k
  rotate_left
  · simp -implicitDefEqProofs (disch := omega) [List.getElem?_cons_zero, List.getElem?_cons_succ, wrap_id, hjm']
    exact finH trivial rfl ⟨[0, 1, 2, 3], rfl, hK _⟩
  have hjm : j < m := by omega
  simp -implicitDefEqProofs (disch := omega) [List.getElem?_cons_zero, List.getElem?_cons_succ, wrap_id, hjm', hn2]
  refine loopW n (fun v st => ∃ b : List Bool, b.length = n ∧ st = ⟨[(36, .i v), (35, .i n), (5, .ptr 6 1 0 0), (4, .i k), (2, .os 4 0 n), (3, .fn (.func 70) [.ptr 1 1 0 0] []), (0, .ptr 1 1 0 0)], [.box (.p (G n es)), .box (.agg [.p (.i n), .p (.sl (es.map edP)), .p (.i q), .os 2 0 n, .os 3 0 n, .p (.i 0)]), .row (d.map PV.i) 1 3 false, .row (s.map PV.i) 1 3 false, rowZ far, rowB b, .box (.os 5 0 n)]⟩)
    (wk_norm [0, 1, 2, 3, 4, 5, 6] [36, 35, 5, 4, 2, 3, 0] rfl rfl) ⟨List.replicate n false, by simp, by rw [rowB, List.map_replicate]; rfl⟩ ?_
  rintro v st hv ⟨b, hbl, rfl⟩
  by_cases hvt : v < n
  · have hvf : v < far.length := by omega
    have hset : AO.row ((b.map PV.b).set v (PV.v (.bool (decide (far[v] < k))))) 1 4 false = rowB (b.set v (decide (far[v] < k))) := by rw [rowB, List.map_set]
    simp -implicitDefEqProofs (disch := omega) [List.getElem?_cons_zero, List.getElem?_cons_succ, wrap_id, hvt, hvf, hfl, hbl, hset]
    exact round_end [0, 1, 2, 3, 4, 5, 6] [36, 35, 5, 4, 2, 3, 0] hvt rfl ⟨b.set v (decide (far[v] < k)), by simpa using hbl, rfl⟩
  simp -implicitDefEqProofs (disch := omega) [List.getElem?_cons_zero, List.getElem?_cons_succ, wrap_id, hvt, hfl]
  refine loopW n (fun v st => st = ⟨[(51, .i v), (50, .i n), (49, .os 4 0 n), (7, .i 0), (5, .ptr 6 1 0 0), (4, .i k), (2, .os 4 0 n), (3, .fn (.func 70) [.ptr 1 1 0 0] []), (0, .ptr 1 1 0 0)], [.box (.p (G n es)), .box (.agg [.p (.i n), .p (.sl (es.map edP)), .p (.i q), .os 2 0 n, .os 3 0 n, .p (.i 0)]), .row (d.map PV.i) 1 3 false, .row (s.map PV.i) 1 3 false, rowZ far, rowB b, .box (.os 5 0 n)]⟩)
    (wk_norm [0, 1, 2, 3, 4, 5, 6] [51, 50, 49, 7, 5, 4, 2, 3, 0] rfl rfl) rfl ?_
  rintro u st hu rfl
  by_cases hut : u < n
  rotate_left
  · simp -implicitDefEqProofs (disch := omega) [List.getElem?_cons_zero, List.getElem?_cons_succ, wrap_id, hut, hfl]
    exact round_end [0, 1, 2, 3, 4] [4, 2, 3, 0] hjm rfl (by show _ = _; rw [← hk1]; rfl)
  have huf : u < far.length := by omega
  have hud : u < d.length := by omega
  by_cases hat : far[u] = k
  · have hat' : decide (far[u] = k) = true := decide_eq_true hat
    have hne : u ≠ q := fun e => by
      subst e
      rw [getD_get huf] at hf0
      omega
    have hdu := hd0 u hut hne
    rw [getD_get hud] at hdu
    have hdu' : ¬ d[u] < 0 := by omega
    simp -implicitDefEqProofs (disch := omega) [List.getElem?_cons_zero, List.getElem?_cons_succ, wrap_id, hut, huf, hfl, hat', hud, hd, hdu']
    exact round_end [0, 1, 2, 3, 4, 5, 6] [51, 50, 49, 7, 5, 4, 2, 3, 0] hut rfl rfl
  · simp -implicitDefEqProofs (disch := omega) [List.getElem?_cons_zero, List.getElem?_cons_succ, wrap_id, hut, huf, hfl, hat]
    exact round_end [0, 1, 2, 3, 4, 5, 6] [51, 50, 49, 7, 5, 4, 2, 3, 0] hut rfl rfl
end
end Go.Proofs.Ytgbmdikkdjogpaa
end
section
set_option linter.unusedSimpArgs false
set_option linter.unusedVariables false
namespace Go.Proofs.Ytgbmdikkdjogpaa
open Go.Abs Go.Sand
theorem tri20_conn : connE 3 tri20 = 0 := by decide +kernel
theorem red20_ok (hdist : ∀ K : AV → List AO → Prop, (∀ far : List Int, far.length = 3 → far.getD 0 0 = 0 → (∀ v, -1 ≤ far.getD v 0 ∧ far.getD v 0 ≤ 3) → K (.os 4 0 3) (stH 3 tri20 0 [-1, 0, 1] [0, 0, 0] 0 ++ [rowZ far])) → HC Try.prog false 69 [.ptr 1 1 0 0] (stH 3 tri20 0 [-1, 0, 1] [0, 0, 0] 0) K) :
    PC Try.prog 33 [G 3 tri20, .i 0, .is [-1, 0, 1]] (.tup [.os 0 0 3, .os 1 0 3, .i 0]) [rowZ [-1, 0, 1], rowZ [0, 0, 0]] := by
  have hg := gcheck_ok (conn_good tri20_conn).1
  have hd0 : dcheck [-1, 0, 1] 3 = 0 := by decide
  have hs0 : dcheck ([0, 0, 0].map (· - (0 : Int))) 3 = 0 := by decide
  have hag : agB 3 tri20 0 [-1, 0, 1] 2 = false := by decide +kernel
  have hbs : (bS 3 tri20 0 [-1, 0, 1] 1).any (!·) = false := by decide +kernel
  have hbs2 : (bS 3 tri20 0 [-1, 0, 1] 2).any (!·) = false := by decide +kernel
  have hall : ∀ k, agB 3 tri20 0 [-1, 0, 1] k = false → (∀ j, j < k → agB 3 tri20 0 [-1, 0, 1] j = true) → (bS 3 tri20 0 [-1, 0, 1] k).any (!·) = false := fun k h1 h2 => by
    match k, h1, h2 with
    | 0, h1, _ => cases h1
    | 1, _, _ => exact hbs
    | 2, _, _ => exact hbs2
    | k + 3, _, h2 => have := h2 2 (by omega); rw [hag] at this; cases this
  refine PC_of_W cfn33 ?_
  simp -implicitDefEqProofs (disch := omega) [c33, List.getElem?_cons_zero, List.getElem?_cons_succ, wrap_id]
  refine HC_of_PC rfl (given20_ok 3 tri20 (by decide) tri20_conn 0 (by omega) [-1, 0, 1] (by decide)) ?_
  simp -implicitDefEqProofs (disch := omega) [List.getElem?_cons_zero, List.getElem?_cons_succ, wrap_id, hd0]
  refine HC_of_PC rfl (begin_ok 3 tri20 0 [-1, 0, 1] rfl (by omega) (by omega)) ?_
  simp -implicitDefEqProofs (disch := omega) [List.getElem?_cons_zero, List.getElem?_cons_succ, wrap_id]
  refine lend_done (n := 3) (es := tri20) (q := 0) (d := [-1, 0, 1]) (s := [0, 0, 0]) (by omega) (by omega) rfl rfl ?_ hdist fun r => ?_
  · intro v hv hne
    match v, hv, hne with
    | 1, _, _ => decide
    | 2, _, _ => decide
  simp -implicitDefEqProofs (disch := omega) [List.getElem?_cons_zero, List.getElem?_cons_succ, wrap_id]
  refine settle_done (n := 3) (es := tri20) (q := 0) (d := [-1, 0, 1]) (s := [0, 0, 0]) hg.right (by omega) (by decide) (by omega) rfl rfl hall fun r2 => ?_
  simp -implicitDefEqProofs (disch := omega) [List.getElem?_cons_zero, List.getElem?_cons_succ, wrap_id]
  refine result_hc (n := 3) (es := tri20) (q := 0) (d := [-1, 0, 1]) (s := [0, 0, 0]) (by omega) (by omega) rfl rfl ?_ (w := 0) rfl hd0 hs0 ?_
  · intro i
    have : ([0, 0, 0] : List Int).getD i 0 = 0 := by
      match i with
      | 0 => rfl
      | 1 => rfl
      | 2 => rfl
      | i + 3 => rfl
    rw [this]; omega
  simp -implicitDefEqProofs (disch := omega) [List.getElem?_cons_zero, List.getElem?_cons_succ, wrap_id]
  exact fin1 [2, 3] trivial rfl (by rfl) ⟨rfl, rfl⟩
end Go.Proofs.Ytgbmdikkdjogpaa
end
section
set_option linter.unusedSimpArgs false
set_option linter.unusedVariables false
namespace Go.Proofs.Ytgbmdikkdjogpaa
open Go.Abs Go.Sand
/-- What is written so far. -/
def rpK (n : Nat) (v : Int) (m : Nat) : List Int := List.replicate m v ++ List.replicate (n - m) 0
theorem rpK_len {n : Nat} {v : Int} {m : Nat} (h : m ≤ n) : (rpK n v m).length = n := by simp [rpK]; omega
theorem rpK_full (n : Nat) (v : Int) : rpK n v n = List.replicate n v := by simp [rpK]
theorem rpK_step {n : Nat} {v : Int} {m : Nat} (h : m < n) : (rpK n v m).take m ++ ((rpK n v m).take m).take (n - m) ++ (rpK n v m).drop (m + min m (n - m)) = rpK n v (min (m + m) n) := by
  have h1 : (rpK n v m).take m = List.replicate m v := by
    rw [rpK, List.take_append_of_le_length (by simp)]; simp
  have h2 : (rpK n v m).drop (m + min m (n - m)) = List.replicate (n - m - min m (n - m)) 0 := by
    rw [rpK, List.drop_append]; simp
  rw [h1, h2, List.take_replicate, List.replicate_append_replicate, rpK]
  congr 2 <;> omega
theorem wrap_u {n : Nat} (hn : n ≤ 12) : IntKind.u64.wrap (n : Int) = n := by
  have h : n = 0 ∨ n = 1 ∨ n = 2 ∨ n = 3 ∨ n = 4 ∨ n = 5 ∨ n = 6 ∨ n = 7 ∨ n = 8 ∨ n = 9 ∨ n = 10 ∨ n = 11 ∨ n = 12 := by omega
  rcases h with rfl | rfl | rfl | rfl | rfl | rfl | rfl | rfl | rfl | rfl | rfl | rfl | rfl <;> rfl
theorem repeat_ok (n : Nat) (h1 : 1 ≤ n) (hn : n ≤ 12) (v : Int) : PC Try.prog 83 [.is [v], .i n] (.os 0 0 n) [rowZ (List.replicate n v)] := by
  have hw := wrap_u hn
  have hw1 : IntKind.u64.wrap 1 = 1 := by kernel_rfl
  have hneg : ¬ (n : Int) < 0 := by omega
  have hbig : ¬ (9223372036854775807 : Int) < n := by omega
  have hn2 : n ≤ 1048576 := by omega
  have hn0 : 0 < n := by omega
  refine PC_of_W cfn83 ?_
  simp -implicitDefEqProofs (disch := omega) [c83, List.getElem?_cons_zero, List.getElem?_cons_succ, wrap_id, hw, hneg, hw1]
  refine HC_of_PC rfl (mul_ok n hn) ?_
  simp -implicitDefEqProofs (disch := omega) [List.getElem?_cons_zero, List.getElem?_cons_succ, wrap_id, hbig, hn2, hn0]
  refine loopW 12 (fun k s => s = ⟨[(8, .i (min (2 ^ k) n : Nat)), (7, .os 0 0 n)], [rowZ (rpK n v (min (2 ^ k) n))]⟩)
    (wk_norm [0] [8, 7] rfl rfl) ?_ ?_
  · obtain ⟨m, rfl⟩ : ∃ m, n = m + 1 := ⟨n - 1, by omega⟩
    show _ = _
    rw [show min (2 ^ 0) (m + 1) = 1 by omega, rpK, rowZ, List.map_append, List.map_replicate, List.map_replicate, List.take_succ_cons, List.take_nil]
    rfl
  rintro k s hk rfl
  obtain ⟨m, hm⟩ : ∃ m, m = min (2 ^ k) n := ⟨_, rfl⟩
  have hm2 : min (m + m) n = min (2 ^ (k + 1)) n := by rw [Nat.pow_succ]; omega
  have hpos : 0 < 2 ^ k := Nat.two_pow_pos k
  have hm0 : 0 < m := by omega
  have hmn : m ≤ n := by omega
  rw [← hm]
  have hl := rpK_len (v := v) hmn
  by_cases hlt : m < n
  rotate_left
  · obtain rfl : m = n := by omega
    rw [rpK_full] at *
    simp -implicitDefEqProofs (disch := omega) [List.getElem?_cons_zero, List.getElem?_cons_succ, wrap_id]
    exact fin1 [0] trivial rfl (by rfl) ⟨rfl, rfl⟩
  have hk12 : k < 12 := by
    refine Classical.byContradiction fun h => ?_
    have : k = 12 := by omega
    subst this
    omega
  have hst := rpK_step (v := v) hlt
  obtain ⟨L, hL⟩ : ∃ L, L = rpK n v m := ⟨_, rfl⟩
  rw [← hL] at hst hl ⊢
  have hnm : 0 < n - m := by omega
  have hrow : AO.row (List.take m (List.map PV.i L) ++ (List.take (n - m) (List.take m (List.map PV.i L)) ++ List.drop (m + min m (n - m)) (List.map PV.i L))) 1 3 false = rowZ (rpK n v (min (m + m) n)) := by
    rw [← hst, rowZ, List.map_append, List.map_append, List.map_take, List.map_take, List.map_take, List.map_drop, List.append_assoc]
  have hadd : ((m : Int) + ((min m (n - m) : Nat) : Int)) = ((min (2 ^ (k + 1)) n : Nat) : Int) := by omega
  simp -implicitDefEqProofs (disch := omega) [List.getElem?_cons_zero, List.getElem?_cons_succ, wrap_id, hlt, hl, hm0, hmn, hnm, hrow, hadd]
  rw [if_pos]
  rotate_left
  · intro x hx
    obtain ⟨y, _, rfl⟩ := List.mem_map.1 (List.mem_of_mem_take hx)
    rfl
  simp -implicitDefEqProofs (disch := omega) [List.getElem?_cons_zero, List.getElem?_cons_succ, wrap_id, hadd]
  exact round_end [0] [8, 7] (by omega) rfl (by show _ = _; rw [← hm2]; rfl)
end Go.Proofs.Ytgbmdikkdjogpaa
end
section
set_option linter.unusedSimpArgs false
set_option linter.unusedVariables false
namespace Go.Proofs.Ytgbmdikkdjogpaa
open Go.Abs Go.Sand
section
variable {n : Nat} {es : List Ed} (hr : ∀ x ∈ es, Right n x) (hn : n ≤ 12) (hel : es.length ≤ 1000) {v : Int} (hv : 0 ≤ v ∧ v < n)
include hr hn hel hv
theorem links_rangeJ {o xi vi lp : Nat} {J : Nat → List AO → Prop} {H0 : List AO} {L : AO} {K : AV → List AO → Prop} {m : AV} {rest : List AV} (h0 : J 0 H0) (hA : H0[o]? = some (.box (.agg (m :: .p (.sl (es.map edP)) :: rest)))) (h1 : H0[xi]? = some (.box (.ptr o 1 0 0)))
    (h2 : ∀ k H, J k H → H[vi]? = some (.box (.i v))) (h3 : ∀ k H, J k H → H[lp]? = some L) (hL : L.len = 1) (hap : ∀ k H Z, J k H → J k (H ++ Z))
    (hsk : ∀ k (hk : k < es.length) H, incB v es[k] = false → J k H → J (k + 1) H)
    (hy : ∀ k (hk : k < es.length) H (K' : AV → List AO → Prop), incB v es[k] = true → J k H → (∀ H', J (k + 1) H' → K' (.b true) H') → HY Try.prog lp [.i (es[k].a + es[k].b - v), .i es[k].m] H K')
    (hK : ∀ r H, J es.length H → K r H) : HC Try.prog false 93 [.yl lp, .ptr xi 1 0 0, .ptr vi 1 0 0] H0 K := by
  have h2' := h2 0 H0 h0
  refine HC_of_W (af := _) ((by exact cfn93 : cfn _ _ _ = some _)) ?_
  simp -implicitDefEqProofs (disch := omega) [c93, List.getElem?_cons_zero, List.getElem?_cons_succ, wrap_id, h1, hA]
  refine loopW es.length (fun k s => ∃ H, J k H ∧ s = ⟨[(13, .i k), (12, .i es.length), (11, .p (.sl (es.map edP))), (0, .yl lp), (1, .ptr xi 1 0 0), (2, .ptr vi 1 0 0)], H⟩) (Wk_keep [13, 12, 11, 0, 1, 2]) ⟨H0, h0, rfl⟩ ?_
  rintro k s hk ⟨H1, hJ, rfl⟩
  by_cases hlt : k < es.length
  rotate_left
  · have hke : k = es.length := by omega
    subst hke
    simp -implicitDefEqProofs (disch := omega) [List.getElem?_cons_zero, List.getElem?_cons_succ, wrap_id]
    exact finH trivial rfl (hK _ H1 hJ)
  have hJy := fun y => hap k H1 [y] hJ
  have g2 : ∀ y, (H1 ++ [y])[vi]? = some (.box (.i v)) := fun y => h2 k _ (hJy y)
  have g3 : ∀ y, (H1 ++ [y])[lp]? = some L := fun y => h3 k _ (hJy y)
  have f1 : ∀ y, (H1 ++ [y])[H1.length]? = some y := fun y => by simp
  have f3 : ∀ y z, (H1 ++ [y]).set H1.length z = H1 ++ [z] := fun y z => by simp
  obtain ⟨r1, r2, r3, r4, r5, r6, r7⟩ := hr es[k] (List.getElem_mem hlt)
  have hyk := hy k hlt
  have hskk := hsk k hlt
  by_cases hi : incB v es[k] = true
  · have hab : decide (es[k].a = es[k].b) = false := by
      simp only [incB, decide_eq_true_eq] at hi
      exact decide_eq_false hi.1
    by_cases ha : es[k].a = v
    · have ha' : decide (es[k].a = v) = true := decide_eq_true ha
      simp -implicitDefEqProofs (disch := omega) [List.getElem?_cons_zero, List.getElem?_cons_succ, wrap_id, hlt, g2, g3, f1, f3, hab, ha']
      refine ⟨hL, hyk _ _ hi (hJy _) fun H' hJ' => ?_⟩
      simp -implicitDefEqProofs (disch := omega) [List.getElem?_cons_zero, List.getElem?_cons_succ, wrap_id]
      exact round_keep [13, 12, 11, 0, 1, 2] hlt ⟨H', hJ', rfl⟩
    · have ha' : decide (es[k].a = v) = false := decide_eq_false ha
      have hb' : decide (es[k].b = v) = true := by
        simp only [incB, decide_eq_true_eq] at hi
        exact decide_eq_true (hi.2.resolve_left ha)
      simp -implicitDefEqProofs (disch := omega) [List.getElem?_cons_zero, List.getElem?_cons_succ, wrap_id, hlt, g2, g3, f1, f3, hab, ha', hb']
      refine ⟨hL, hyk _ _ hi (hJy _) fun H' hJ' => ?_⟩
      simp -implicitDefEqProofs (disch := omega) [List.getElem?_cons_zero, List.getElem?_cons_succ, wrap_id]
      exact round_keep [13, 12, 11, 0, 1, 2] hlt ⟨H', hJ', rfl⟩
  · have hi' : incB v es[k] = false := by simpa using hi
    have hsame := fun y => hskk _ hi' (hJy y)
    by_cases hab : es[k].a = es[k].b
    · have hab' : decide (es[k].a = es[k].b) = true := decide_eq_true hab
      simp -implicitDefEqProofs (disch := omega) [List.getElem?_cons_zero, List.getElem?_cons_succ, wrap_id, hlt, g2, g3, f1, f3, hab']
      exact round_keep [13, 12, 11, 0, 1, 2] hlt ⟨_, hsame _, rfl⟩
    · have hab' : decide (es[k].a = es[k].b) = false := decide_eq_false hab
      have ha' : decide (es[k].a = v) = false := decide_eq_false fun e => hi (by rw [incB]; exact decide_eq_true ⟨hab, .inl e⟩)
      have hb' : decide (es[k].b = v) = false := decide_eq_false fun e => hi (by rw [incB]; exact decide_eq_true ⟨hab, .inr e⟩)
      simp -implicitDefEqProofs (disch := omega) [List.getElem?_cons_zero, List.getElem?_cons_succ, wrap_id, hlt, g2, g3, f1, f3, hab', ha', hb']
      exact round_keep [13, 12, 11, 0, 1, 2] hlt ⟨_, hsame _, rfl⟩
end
end Go.Proofs.Ytgbmdikkdjogpaa
end
section
set_option linter.unusedSimpArgs false
set_option linter.unusedVariables false
namespace Go.Proofs.Ytgbmdikkdjogpaa
open Go.Abs Go.Sand
/-- How many vertices have been reached. -/
def cntG (far : List Int) : Nat := far.countP fun x => decide (0 ≤ x)
theorem cntG_le (far : List Int) : cntG far ≤ far.length := List.countP_le_length
theorem cntG_set {far : List Int} {u : Nat} (hu : u < far.length) (h : far.getD u 0 < 0) {y : Int} (hy : 0 ≤ y) : cntG (far.set u y) = cntG far + 1 := by
  have hg : far[u] < 0 := by rw [← getD_get hu]; exact h
  unfold cntG
  rw [List.countP_set hu]
  have h1 : decide (0 ≤ far[u]) = false := decide_eq_false (by omega)
  have h2 : decide (0 ≤ y) = true := decide_eq_true hy
  rw [h1, h2]
  simp
theorem getD_set' {far : List Int} {u w : Nat} {y : Int} (hu : u < far.length) : (far.set u y).getD w 0 = if w = u then y else far.getD w 0 := by
  simp only [List.getD_eq_getElem?_getD, List.getElem?_set]
  by_cases h : u = w
  · subst h; simp [hu]
  · rw [if_neg h, if_neg (fun e => h e.symm)]
/-- Breadth first: what has been reached, what waits; the edges at v are being looked at. -/
structure Bf (n : Nat) (es : List Ed) (q : Nat) (v : Int) (far W : List Int) : Prop where
  len : far.length = n
  q0 : far.getD q 0 = 0
  rng : ∀ u, u < n → -1 ≤ far.getD u 0 ∧ far.getD u 0 < cntG far
  par : ∀ u : Nat, u < n → 0 ≤ far.getD u 0 → u ≠ q → 0 < far.getD u 0 ∧ ∃ x ∈ es, incB u x = true ∧ far.getD (x.a + x.b - u).toNat 0 = far.getD u 0 - 1
  w : ∀ u ∈ W, 0 ≤ u ∧ u < n ∧ 0 ≤ far.getD u.toNat 0
  cl : ∀ u : Nat, u < n → 0 ≤ far.getD u 0 → (u : Int) ∉ W → (u : Int) ≠ v → ∀ x ∈ es, incB u x = true → 0 ≤ far.getD (x.a + x.b - u).toNat 0
theorem Bf.push {n : Nat} {es : List Ed} {q : Nat} {v : Int} {far W : List Int} (h : Bf n es q v far W) {u p : Nat} (hu : u < n) (h0 : far.getD u 0 < 0) (hp : p < n) (hp0 : 0 ≤ far.getD p 0)
    (hx : ∃ x ∈ es, incB u x = true ∧ (x.a + x.b - u).toNat = p) : Bf n es q v (far.set u (far.getD p 0 + 1)) (W ++ [(u : Int)]) := by
  have hul : u < far.length := by rw [h.len]; exact hu
  have hne : ∀ w, 0 ≤ far.getD w 0 → w ≠ u := fun w hw e => by subst e; omega
  have hold : ∀ w, 0 ≤ far.getD w 0 → (far.set u (far.getD p 0 + 1)).getD w 0 = far.getD w 0 := fun w hw => by rw [getD_set' hul, if_neg (hne w hw)]
  have hself : (far.set u (far.getD p 0 + 1)).getD u 0 = far.getD p 0 + 1 := by rw [getD_set' hul, if_pos rfl]
  have hcnt : cntG (far.set u (far.getD p 0 + 1)) = cntG far + 1 := cntG_set hul h0 (by omega)
  have hmono : ∀ w, 0 ≤ far.getD w 0 → 0 ≤ (far.set u (far.getD p 0 + 1)).getD w 0 := fun w hw => by rw [hold w hw]; exact hw
  have hback : ∀ w, w ≠ u → (far.set u (far.getD p 0 + 1)).getD w 0 = far.getD w 0 := fun w hw => by rw [getD_set' hul, if_neg hw]
  refine ⟨by rw [List.length_set, h.len], by rw [hold q (by rw [h.q0]; omega), h.q0], fun w hw => ?_, fun w hw hw0 hwq => ?_, fun w hw => ?_, fun w hw hw0 hwW hwv x hx hi => ?_⟩
  · rw [hcnt]
    by_cases e : w = u
    · subst e; rw [hself]; have := (h.rng p hp).2; omega
    · rw [hback w e]; have := h.rng w hw; omega
  · by_cases e : w = u
    · subst e
      rw [hself]
      obtain ⟨x, hx1, hx2, hx3⟩ := hx
      refine ⟨by omega, x, hx1, hx2, ?_⟩
      rw [hx3, hold p hp0]; omega
    · rw [hback w e] at hw0 ⊢
      obtain ⟨h1, x, hx1, hx2, hx3⟩ := h.par w hw hw0 hwq
      exact ⟨h1, x, hx1, hx2, by rw [hold _ (by omega), hx3]⟩
  · rcases List.mem_append.1 hw with hw | hw
    · obtain ⟨h1, h2, h3⟩ := h.w w hw
      exact ⟨h1, h2, hmono _ h3⟩
    · simp only [List.mem_singleton] at hw
      subst hw
      exact ⟨by omega, by omega, by rw [Int.toNat_natCast, hself]; omega⟩
  · have hwu : w ≠ u := fun e => hwW (by subst e; simp)
    rw [hback w hwu] at hw0
    exact hmono _ (h.cl w hw hw0 (fun hm => hwW (List.mem_append_left _ hm)) hwv x hx hi)
theorem Bf.pop {n : Nat} {es : List Ed} {q : Nat} {v : Int} {far W : List Int} (h : Bf n es q (-1) far (v :: W)) : Bf n es q v far W :=
  ⟨h.len, h.q0, h.rng, h.par, fun u hu => h.w u (by simp [hu]), fun u hu h0 hW hv x hx hi => h.cl u hu h0 (fun hm => by
    rcases List.mem_cons.1 hm with e | e
    · exact hv e
    · exact hW e) (by omega) x hx hi⟩
theorem Bf.done {n : Nat} {es : List Ed} {q : Nat} {v : Int} {far W : List Int} (h : Bf n es q v far W) (hv : ∀ x ∈ es, incB v x = true → 0 ≤ far.getD (x.a + x.b - v).toNat 0) : Bf n es q (-1) far W :=
  ⟨h.len, h.q0, h.rng, h.par, h.w, fun u hu h0 hW _ x hx hi => by
    by_cases e : (u : Int) = v
    · rw [e] at hi ⊢; exact hv x hx hi
    · exact h.cl u hu h0 hW e x hx hi⟩
theorem getD_rep {n : Nat} {u : Nat} (h : u < n) : (List.replicate n (-1 : Int)).getD u 0 = -1 := by simp [List.getD_eq_getElem?_getD, h]
theorem Bf.init {n : Nat} {es : List Ed} {q : Nat} (hq : q < n) : Bf n es q (-1) ((List.replicate n (-1)).set q 0) [(q : Int)] := by
  have hl : q < (List.replicate n (-1 : Int)).length := by simpa using hq
  have hc : cntG ((List.replicate n (-1)).set q 0) = 1 := by
    rw [cntG_set hl (by rw [getD_rep hq]; omega) (by omega)]
    unfold cntG
    rw [List.countP_replicate]
    simp
  have hs : ∀ u, u < n → ((List.replicate n (-1 : Int)).set q 0).getD u 0 = if u = q then 0 else -1 := fun u hu => by rw [getD_set' hl, getD_rep hu]
  refine ⟨by simp, by rw [hs q hq, if_pos rfl], fun u hu => ?_, fun u hu h0 hne => ?_, fun u hu => ?_, fun u hu h0 hW _ x hx hi => ?_⟩
  · rw [hc, hs u hu]; split <;> omega
  · rw [hs u hu, if_neg hne] at h0; omega
  · simp only [List.mem_singleton] at hu
    subst hu
    exact ⟨by omega, by omega, by rw [Int.toNat_natCast, hs q hq, if_pos rfl]; omega⟩
  · rw [hs u hu] at h0
    by_cases e : u = q
    · subst e; exact absurd (by simp) hW
    · rw [if_neg e] at h0; omega
/-- How far vertices are: what is known of it. -/
structure FarOk (n : Nat) (es : List Ed) (q : Nat) (far : List Int) : Prop where
  len : far.length = n
  q0 : far.getD q 0 = 0
  rng : ∀ u, u < n → -1 ≤ far.getD u 0 ∧ far.getD u 0 < n
  par : ∀ u : Nat, u < n → 0 ≤ far.getD u 0 → u ≠ q → 0 < far.getD u 0 ∧ ∃ x ∈ es, incB u x = true ∧ far.getD (x.a + x.b - u).toNat 0 = far.getD u 0 - 1
  cl : ∀ u : Nat, u < n → 0 ≤ far.getD u 0 → ∀ x ∈ es, incB u x = true → 0 ≤ far.getD (x.a + x.b - u).toNat 0
theorem Bf.ok {n : Nat} {es : List Ed} {q : Nat} {far : List Int} (h : Bf n es q (-1) far []) : FarOk n es q far :=
  ⟨h.len, h.q0, fun u hu => by have h1 := h.rng u hu; have := cntG_le far; rw [h.len] at this; omega, h.par, fun u hu h0 x hx hi => h.cl u hu h0 (by simp) (by omega) x hx hi⟩
end Go.Proofs.Ytgbmdikkdjogpaa
end
section
set_option linter.unusedSimpArgs false
set_option linter.unusedVariables false
namespace Go.Proofs.Ytgbmdikkdjogpaa
open Go.Abs Go.Sand
/-- The objects while vertices wait. -/
structure QH (n : Nat) (st : List AO) (far W : List Int) (H : List AO) (o off : Nat) (els : List Int) : Prop where
  hs : ∀ i, i < 4 → H[i]? = st[i]?
  h4 : H[4]? = some (rowZ far)
  h5 : H[5]? = some (.box (.os 4 0 n))
  h7 : H[7]? = some (.box (.os o off W.length))
  ho : H[o]? = some (rowZ els)
  hd : els.drop off = W
  hl : off + W.length = els.length
  hc : els.length ≤ cntG far
  hn : o = 6 ∨ 8 ≤ o
/-- The objects of one vertex's round, from m on. -/
structure VH (m : Nat) (v : Int) (L : AO) (H : List AO) (o : Nat) : Prop where
  g0 : H[m]? = some (.box (.i v))
  g1 : H[m + 1]? = some (.box (.ptr 1 1 0 0))
  g2 : H[m + 2]? = some (.box (.i v))
  g3 : H[m + 3]? = some L
  hm : 8 ≤ m
  hn : o < m ∨ m + 4 ≤ o
theorem lt_some {α : Type} {l : List α} {i : Nat} {x : α} (h : l[i]? = some x) : i < l.length := (List.getElem?_eq_some_iff.1 h).1
theorem app_some {α : Type} {l : List α} {i : Nat} {x : α} (h : l[i]? = some x) (Z : List α) : (l ++ Z)[i]? = some x := by rw [List.getElem?_append_left (lt_some h)]; exact h
theorem QH.app {n : Nat} {st : List AO} {far W : List Int} {H : List AO} {o off : Nat} {els : List Int} (h : QH n st far W H o off els) (Z : List AO) : QH n st far W (H ++ Z) o off els :=
  ⟨fun i hi => by rw [List.getElem?_append_left (by have := lt_some h.h4; omega)]; exact h.hs i hi, app_some h.h4 Z, app_some h.h5 Z, app_some h.h7 Z, app_some h.ho Z, h.hd, h.hl, h.hc, h.hn⟩
theorem VH.app {m : Nat} {v : Int} {L : AO} {H : List AO} {o : Nat} (h : VH m v L H o) (Z : List AO) : VH m v L (H ++ Z) o :=
  ⟨app_some h.g0 Z, app_some h.g1 Z, app_some h.g2 Z, app_some h.g3 Z, h.hm, h.hn⟩
theorem QVupd {n : Nat} {st : List AO} {far W far' W' els els' : List Int} {H Y : List AO} {o off o' off' m : Nat} {v : Int} {L L' : AO} (hQ : QH n st far W H o off els) (hV : VH m v L H o) (hlen : H.length ≤ Y.length)
    (hsame : ∀ i, i < H.length → i ≠ 4 → i ≠ m + 3 → i ≠ o → Y[i]? = H[i]?) (h4 : Y[4]? = some (rowZ far')) (ho : Y[o']? = some (rowZ els')) (hd : els'.drop off' = W') (hl : off' + W'.length = els'.length) (hc : els'.length ≤ cntG far') (hoo : o' = o ∨ H.length ≤ o') :
    QH n st far' W' ((Y.set 7 (.box (.os o' off' W'.length))).set (m + 3) L') o' off' els' ∧ VH m v L' ((Y.set 7 (.box (.os o' off' W'.length))).set (m + 3) L') o' := by
  have g3 := lt_some hV.g3
  have hm := hV.hm
  have hn1 := hQ.hn
  have hn2 := hV.hn
  have key : ∀ i, i ≠ 7 → i ≠ m + 3 → ((Y.set 7 (.box (.os o' off' W'.length))).set (m + 3) L')[i]? = Y[i]? := fun i h1 h2 => by
    rw [List.getElem?_set_ne (by omega), List.getElem?_set_ne (by omega)]
  refine ⟨⟨fun i hi => ?_, ?_, ?_, ?_, ?_, hd, hl, hc, by omega⟩, ⟨?_, ?_, ?_, ?_, hm, by omega⟩⟩
  · rw [key i (by omega) (by omega), hsame i (by omega) (by omega) (by omega) (by omega)]; exact hQ.hs i hi
  · rw [key 4 (by omega) (by omega)]; exact h4
  · rw [key 5 (by omega) (by omega), hsame 5 (by omega) (by omega) (by omega) (by omega)]; exact hQ.h5
  · rw [List.getElem?_set_ne (by omega), List.getElem?_set_self (by omega)]
  · rw [key o' (by omega) (by omega)]; exact ho
  · rw [key m (by omega) (by omega), hsame m (by omega) (by omega) (by omega) (by omega)]; exact hV.g0
  · rw [key (m + 1) (by omega) (by omega), hsame (m + 1) (by omega) (by omega) (by omega) (by omega)]; exact hV.g1
  · rw [key (m + 2) (by omega) (by omega), hsame (m + 2) (by omega) (by omega) (by omega) (by omega)]; exact hV.g2
  · rw [List.getElem?_set_self (by simp; omega)]
section
variable {n : Nat} (hn : n ≤ 12) {st : List AO}
include hn
set_option maxHeartbeats 2000000 in
theorem dist_body {m v : Nat} (hv : v < n) {t : List (Nat × AV)} (ht3 : Abs.get t 3 = .ptr 5 1 0 0) (ht4 : Abs.get t 4 = .ptr 7 1 0 0) (ht5 : Abs.get t 5 = .ptr m 1 0 0) {far W : List Int} {H : List AO} {o off : Nat} {els : List Int} (hQ : QH n st far W H o off els)
    (hV : VH m v (.lp 56 t [36, 37] rc69_0a rc69_0c .ready) H o) (hfl : far.length = n) {u : Nat} (hu : u < n) {k : Int} {K : AV → List AO → Prop} (hfv : -1 ≤ far.getD v 0 ∧ far.getD v 0 ≤ 12)
    (h1 : 0 ≤ far.getD u 0 → ∀ H', QH n st far W H' o off els → VH m v (.lp 56 t [36, 37] rc69_0a rc69_0c .ready) H' o → K (.b true) H')
    (h2 : far.getD u 0 < 0 → ∀ H' o' off' els', QH n st (far.set u (far.getD v 0 + 1)) (W ++ [(u : Int)]) H' o' off' els' → VH m v (.lp 56 t [36, 37] rc69_0a rc69_0c .ready) H' o' → K (.b true) H') :
    HY Try.prog (m + 3) [.i u, .i k] H K := by
  have hm := hV.hm
  have g0 := hV.g0
  have g3 := hV.g3
  have h4 := hQ.h4
  have h5 := hQ.h5
  have h7 := hQ.h7
  have ho := hQ.ho
  have hlen := lt_some g3
  have huf : u < far.length := by omega
  have hvf : v < far.length := by omega
  have fu : far[u]? = some far[u] := List.getElem?_eq_getElem huf
  have fv : far[v]? = some far[v] := List.getElem?_eq_getElem hvf
  refine HY_of_W g3 rcc69_0a rcc69_0c rfl rfl rfl rfl ?_
  have hset : H.set (m + 3) (.lp 56 t [36, 37] rc69_0a rc69_0c .ready) = H := by
    have := List.getElem_eq_iff hlen |>.2 g3
    rw [← this, List.set_getElem_self]
  have ho3 : o ≠ m + 3 := by have := hV.hn; omega
  have ho4 : o ≠ 4 := by have := hQ.hn; omega
  have ho5 : o ≠ 5 := by have := hQ.hn; omega
  have ho7 : o ≠ 7 := by have := hQ.hn; omega
  have gu : far.getD u 0 = far[u] := getD_get huf
  have gv : far.getD v 0 = far[v] := getD_get hvf
  rw [gu] at h1 h2
  rw [gv] at h2 hfv
  by_cases hlt : far[u] < 0
  rotate_left
  · have hlt' : ¬ far[u] < 0 := hlt
    simp -implicitDefEqProofs (disch := omega) [List.getElem?_cons_zero, List.getElem?_cons_succ, wrap_id, ra69_0a, ra69_0c, ht3, ht4, ht5, g0, g3, h4, h5, hlen, fu, List.getElem?_set_ne, hfl, -getElem?_pos, hu, hlt', hset]
    exact h1 (by omega) H hQ hV
  obtain ⟨X, hX⟩ : ∃ X, X = (H.set (m + 3) (.lp 56 t [36, 37] rc69_0a rc69_0c .busy)).set 4 (.row ((List.map PV.i far).set u (PV.v (Value.int IntKind.i64 (far[v] + 1)))) 1 3 false) := ⟨_, rfl⟩
  have hXl : X.length = H.length := by rw [hX]; simp
  have hXa : ∀ i, i ≠ 4 → i ≠ m + 3 → X[i]? = H[i]? := fun i e1 e2 => by rw [hX, List.getElem?_set_ne (by omega), List.getElem?_set_ne (by omega)]
  have hX4 : X[4]? = some (rowZ (far.set u (far[v] + 1))) := by rw [hX, List.getElem?_set_self (by rw [List.length_set]; omega), rowZ, List.map_set]
  have hX3 : X[m + 3]? = some (.lp 56 t [36, 37] rc69_0a rc69_0c .busy) := by rw [hX, List.getElem?_set_ne (by omega), List.getElem?_set_self hlen]
  have e1 : ∀ y, (X ++ [y])[H.length]? = some y := fun y => by rw [← hXl]; simp
  have eo : ∀ Z, (X ++ Z)[o]? = some (rowZ els) := fun Z => app_some (by rw [hXa o ho4 ho3, ho]) Z
  have e7 : ∀ Z, (X ++ Z)[7]? = some (.box (.os o off W.length)) := fun Z => app_some (by rw [hXa 7 (by omega) (by omega), h7]) Z
  have e3 : ∀ Z, (X ++ Z)[m + 3]? = some (.lp 56 t [36, 37] rc69_0a rc69_0c .busy) := fun Z => app_some hX3 Z
  have x7 : X[7]? = some (.box (.os o off W.length)) := by rw [hXa 7 (by omega) (by omega), h7]
  have hcl := cntG_le far
  have hec := hQ.hc
  have hbd : els.length + 1 ≤ 1048576 := by omega
  have hl' := hQ.hl
  simp -implicitDefEqProofs (disch := omega) [List.getElem?_cons_zero, List.getElem?_cons_succ, wrap_id, ra69_0a, ra69_0c, ht3, ht4, ht5, g0, g3, h4, h5, h7, hlen, fu, fv, List.getElem?_set_ne, hfl, -getElem?_pos, hu, hlt, hv, ← hX, e1, eo, e7, e3, hXl, x7]
  have hb5 : els.length ≤ 1048575 := by omega
  have ho' := lt_some ho
  have hn2 := hV.hn
  have hcs : cntG (far.set u (far[v] + 1)) = cntG far + 1 := cntG_set huf (by rw [gu]; exact hlt) (by omega)
  have hin : ∀ (Z : List AO), QH n st (far.set u (far[v] + 1)) (W ++ [(u : Int)]) ((((X ++ [rowZ [(u : Int)]]).set o (rowZ (els ++ [(u : Int)]))).set 7 (.box (.os o off (W ++ [(u : Int)]).length))).set (m + 3) (.lp 56 t [36, 37] rc69_0a rc69_0c .ready)) o off (els ++ [(u : Int)]) ∧
      VH m v (.lp 56 t [36, 37] rc69_0a rc69_0c .ready) ((((X ++ [rowZ [(u : Int)]]).set o (rowZ (els ++ [(u : Int)]))).set 7 (.box (.os o off (W ++ [(u : Int)]).length))).set (m + 3) (.lp 56 t [36, 37] rc69_0a rc69_0c .ready)) o := fun Z => by
    refine QVupd hQ hV (by simp; omega) (fun i h1 h2 h3 h4 => ?_) ?_ ?_ ?_ ?_ ?_ (.inl rfl)
    · rw [List.getElem?_set_ne (by omega), List.getElem?_append_left (by omega)]; exact hXa i h2 h3
    · rw [List.getElem?_set_ne (by omega)]; exact app_some hX4 _
    · rw [List.getElem?_set_self (by simp; omega)]
    · rw [List.drop_append_of_le_length (by omega), hQ.hd]
    · simp; omega
    · rw [hcs]; simp; omega
  have hnw : QH n st (far.set u (far[v] + 1)) (W ++ [(u : Int)]) (((X ++ [rowZ [(u : Int)], rowZ (W ++ [(u : Int)])]).set 7 (.box (.os (H.length + 1) 0 (W ++ [(u : Int)]).length))).set (m + 3) (.lp 56 t [36, 37] rc69_0a rc69_0c .ready)) (H.length + 1) 0 (W ++ [(u : Int)]) ∧
      VH m v (.lp 56 t [36, 37] rc69_0a rc69_0c .ready) (((X ++ [rowZ [(u : Int)], rowZ (W ++ [(u : Int)])]).set 7 (.box (.os (H.length + 1) 0 (W ++ [(u : Int)]).length))).set (m + 3) (.lp 56 t [36, 37] rc69_0a rc69_0c .ready)) (H.length + 1) := by
    refine QVupd hQ hV (by simp; omega) (fun i h1 h2 h3 h4 => ?_) ?_ ?_ rfl (by simp) ?_ (.inr (by omega))
    · rw [List.getElem?_append_left (by omega)]; exact hXa i h2 h3
    · exact app_some hX4 _
    · rw [List.getElem?_append_right (by omega), hXl]; simp
    · rw [hcs]; simp; omega
  have r0 : AO.row [PV.v (Value.int IntKind.i64 (u : Int))] 1 3 false = rowZ [(u : Int)] := rfl
  have r1 : AO.row (List.map PV.i els ++ [PV.v (Value.int IntKind.i64 (u : Int))]) 1 3 false = rowZ (els ++ [(u : Int)]) := by rw [rowZ, List.map_append]; rfl
  have r2 : AO.row (List.drop off (List.map PV.i els) ++ [PV.v (Value.int IntKind.i64 (u : Int))]) 1 3 false = rowZ (W ++ [(u : Int)]) := by rw [← List.map_drop, hQ.hd, rowZ, List.map_append]; rfl
  have hl'2 : off + (W.length + 1) = els.length + 1 := by omega
  have hWs : (W ++ [(u : Int)]).length = W.length + 1 := by simp
  have hk := h2 hlt _ _ _ _ (hin []).1 (hin []).2
  have hk2 := h2 hlt _ _ _ _ hnw.1 hnw.2
  rw [hWs] at hk hk2
  obtain ⟨Y, hY⟩ : ∃ Y, Y = (X ++ [rowZ [(u : Int)]]).set o (rowZ (els ++ [(u : Int)])) := ⟨_, rfl⟩
  obtain ⟨Y2, hY2⟩ : ∃ Y2, Y2 = X ++ [rowZ [(u : Int)], rowZ (W ++ [(u : Int)])] := ⟨_, rfl⟩
  have y7 : Y[7]? = some (.box (.os o off W.length)) := by rw [hY, List.getElem?_set_ne (by omega)]; exact e7 _
  have y3 : Y[m + 3]? = some (.lp 56 t [36, 37] rc69_0a rc69_0c .busy) := by rw [hY, List.getElem?_set_ne (by omega)]; exact e3 _
  have yo : Y[o]? = some (rowZ (els ++ [(u : Int)])) := by rw [hY, List.getElem?_set_self (by simp; omega)]
  have z7 : Y2[7]? = some (.box (.os o off W.length)) := by rw [hY2]; exact e7 _
  have z3 : Y2[m + 3]? = some (.lp 56 t [36, 37] rc69_0a rc69_0c .busy) := by rw [hY2]; exact e3 _
  have zo : Y2[H.length + 1]? = some (rowZ (W ++ [(u : Int)])) := by rw [hY2, List.getElem?_append_right (by omega), hXl]; simp
  rw [← hY] at hk
  rw [← hY2] at hk2
  clear hin hnw h1 h2 hX hQ hV hXa
  by_cases hoff : off = 0
  · have hWl : W.length = els.length := by omega
    rw [hoff, hWl] at hk y7
    simp -implicitDefEqProofs (disch := omega) [List.getElem?_cons_zero, List.getElem?_cons_succ, wrap_id, hoff, hWl, hb5, r0, r1, ← hY]
    simp -implicitDefEqProofs (disch := omega) [List.getElem?_cons_zero, List.getElem?_cons_succ, wrap_id, ht4, y7, y3, yo, List.getElem?_set_ne, -getElem?_pos]
    exact hk
  simp -implicitDefEqProofs (disch := omega) [List.getElem?_cons_zero, List.getElem?_cons_succ, wrap_id, hoff]
  simp only [appQP, eo]
  refine ⟨⟨by rw [List.length_map]; exact hl', trivial, trivial, by simp, by simp [List.all_map], by simp, by simp; omega⟩, ?_, ?_⟩
  · rw [r0, r1, ← hY]
    simp -implicitDefEqProofs (disch := omega) [List.getElem?_cons_zero, List.getElem?_cons_succ, wrap_id, ht4, y7, y3, yo, hl'2, List.getElem?_set_ne, -getElem?_pos]
    exact hk
  · rw [r0, r2, List.append_assoc]
    show PutK _ _ _ _ (X ++ [rowZ [(u : Int)], rowZ (W ++ [(u : Int)])])
    rw [← hY2, List.length_append, hXl]
    simp -implicitDefEqProofs (disch := omega) [List.getElem?_cons_zero, List.getElem?_cons_succ, wrap_id, ht4, z7, z3, zo, List.getElem?_set_ne, -getElem?_pos]
    exact hk2
end
end Go.Proofs.Ytgbmdikkdjogpaa
end
