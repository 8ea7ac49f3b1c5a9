/-
  Contracts: counting what is played.
-/
import Derived.Test.YtgjaekbbdmhjlaaMrc
set_option linter.unusedSimpArgs false
set_option linter.unusedVariables false
namespace Go.Proofs.Ytgjaekbbdmhjlaa
open Go.Abs Go.Sand

def cntL (n : Nat) (ms : List Int) : List Int := ms.foldl (fun s v => s.set v.toNat (s.getD v.toNat 0 + 1)) (List.replicate n 0)
theorem cntL_snoc (n : Nat) (ms : List Int) (k : Nat) (h : k < ms.length) : cntL n (ms.take (k + 1)) = (cntL n (ms.take k)).set ms[k].toNat ((cntL n (ms.take k)).getD ms[k].toNat 0 + 1) := by
  unfold cntL
  rw [List.take_succ_eq_append_getElem h, List.foldl_append]
  rfl
theorem cntL_len (n : Nat) (ms : List Int) (k : Nat) (h : k ≤ ms.length) : (cntL n (ms.take k)).length = n ∧ ∀ i, 0 ≤ (cntL n (ms.take k)).getD i 0 ∧ (cntL n (ms.take k)).getD i 0 ≤ k := by
  induction k with
  | zero =>
    refine ⟨by simp [cntL], fun i => ?_⟩
    by_cases hi : i < n <;> simp [cntL, List.getD_eq_getElem?_getD, hi]
  | succ k ih =>
    obtain ⟨h1, h2⟩ := ih (by omega)
    rw [cntL_snoc n ms k (by omega)]
    refine ⟨by rw [List.length_set, h1], fun i => ?_⟩
    rw [getD_set]
    have := h2 i
    have := h2 ms[k].toNat
    split <;> push_cast <;> omega
def cntE (N : Int) (es : List Ed) (ms : List Int) : Int := if gcheck N es ≠ 0 then gcheck N es else listE N ms
def cntR (N : Int) (es : List Ed) (ms : List Int) : List Int := if cntE N es ms = 0 then cntL N.toNat ms else []
theorem fcount_ok (N : Int) (es : List Ed) (ms : List Int) (he : es.length ≤ 1000) (hm : ms.length ≤ 4611686018427387904) : PC Try.prog 37 [G N es, .is ms] (.tup [.p (.is (cntR N es ms)), .i (cntE N es ms)]) [] := by
  refine PC_of_W cfn37 ?_
  simp -implicitDefEqProofs (disch := omega) [c37, List.getElem?_cons_zero, List.getElem?_cons_succ, wrap_id]
  refine HC_of_PC rfl (gcheck_ok' N es (by omega)) ?_
  by_cases h0 : gcheck N es = 0
  rotate_left
  · have h1 : cntE N es ms = gcheck N es := by rw [cntE, if_pos h0]
    have h2 : cntR N es ms = [] := by rw [cntR, if_neg (by rw [h1]; exact h0)]
    simp -implicitDefEqProofs (disch := omega) [List.getElem?_cons_zero, List.getElem?_cons_succ, wrap_id, h0]
    refine finW (Wk_nil0 4 rfl) ?_
    (refine fin0 trivial rfl ?_; simp -implicitDefEqProofs (disch := omega) [List.getElem?_cons_zero, List.getElem?_cons_succ, idx, wrap_id, h1, h2])
  have h1 : cntE N es ms = listE N ms := by rw [cntE, if_neg (by simp [h0])]
  simp -implicitDefEqProofs (disch := omega) [List.getElem?_cons_zero, List.getElem?_cons_succ, wrap_id, h0]
  refine HC_of_PC rfl (listed_ok N es ms hm) ?_
  by_cases h3 : listE N ms = 0
  rotate_left
  · have h2 : cntR N es ms = [] := by rw [cntR, if_neg (by rw [h1]; exact h3)]
    simp -implicitDefEqProofs (disch := omega) [List.getElem?_cons_zero, List.getElem?_cons_succ, wrap_id, h3]
    refine finW (Wk_nil0 4 rfl) ?_
    (refine fin0 trivial rfl ?_; simp -implicitDefEqProofs (disch := omega) [List.getElem?_cons_zero, List.getElem?_cons_succ, idx, wrap_id, h1, h2])
  have h2 : cntR N es ms = cntL N.toNat ms := by rw [cntR, if_pos (by rw [h1]; exact h3)]
  have hg := gcheck_ok h0
  have g1 := hg.n1
  have g2 := hg.n12
  obtain ⟨n, rfl⟩ : ∃ n : Nat, N = n := ⟨N.toNat, by omega⟩
  have hn' : n ≤ 1048576 := by omega
  have hs := (list_ok h3).1
  simp -implicitDefEqProofs (disch := omega) [List.getElem?_cons_zero, List.getElem?_cons_succ, wrap_id, h3, hn']
  refine loopW ms.length (fun k st => st = ⟨[(27, .i k), (26, .i ms.length), (25, .p (.is ms)), (8, .os 0 0 n)], [.row ((cntL n (ms.take k)).map .i) 1 3 false]⟩) (wk_norm [1] [27, 26, 25, 8] rfl rfl) (by simp [cntL, norm, renH, Abs.get, AV.ren, AO.ren, idx]) ?_
  rintro k st hk rfl
  obtain ⟨hol, hbd⟩ := cntL_len n ms k hk
  by_cases hlt : k < ms.length
  · obtain ⟨v, hv⟩ : ∃ v : Nat, ms[k] = v := ⟨ms[k].toNat, by have := hs _ (List.getElem_mem hlt); omega⟩
    have hvn : v < n := by have := hs _ (List.getElem_mem hlt); omega
    have hvl : v < (cntL n (ms.take k)).length := by omega
    have hsn := cntL_snoc n ms k hlt
    have hb := hbd v
    rw [getD_get hvl] at hb
    rw [hv, Int.toNat_natCast, getD_get hvl] at hsn
    simp -implicitDefEqProofs (disch := omega) [List.getElem?_cons_zero, List.getElem?_cons_succ, wrap_id, hlt, hv, hvn, hol]
    exact round_end [0] [27, 26, 25, 8] hlt rfl (by rw [hsn, List.map_set]; rfl)
  · have : k = ms.length := by omega
    subst this
    rw [List.take_length] at hol ⊢
    simp -implicitDefEqProofs (disch := omega) [List.getElem?_cons_zero, List.getElem?_cons_succ, wrap_id]
    (refine fin0 trivial rfl ?_; simp -implicitDefEqProofs (disch := omega) [List.getElem?_cons_zero, List.getElem?_cons_succ, idx, wrap_id, hol, h1, h2, h3])
end Go.Proofs.Ytgjaekbbdmhjlaa
