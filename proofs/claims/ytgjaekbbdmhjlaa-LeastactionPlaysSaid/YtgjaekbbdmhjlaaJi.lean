/-
  Contracts: meets, and legal orders.
-/
import Derived.Test.YtgjaekbbdmhjlaaJh
set_option linter.unusedSimpArgs false
set_option linter.unusedVariables false
namespace Go.Proofs.Ytgjaekbbdmhjlaa
open Go.Abs Go.Sand

theorem cloneS_ok (xs : List Int) (hx : xs.length ≤ 1000000) : PC Try.prog 35 [.is xs] (.os 0 0 xs.length) [rowI xs] := by
  refine PC_of_W cfn35 ?_
  simp -implicitDefEqProofs (disch := omega) [c35, List.getElem?_cons_zero, List.getElem?_cons_succ, wrap_id, stepK_eqn, eqnP]
  have hx' : xs.length ≤ 1048576 := by omega
  refine ⟨?_, ?_⟩
  · rintro rfl
    simp -implicitDefEqProofs (disch := omega) [List.getElem?_cons_zero, List.getElem?_cons_succ, wrap_id]
    refine finW (Wk_nil 2 1 3 rfl) ?_
    exact fin1 [0] trivial rfl rfl ⟨rfl, rfl⟩
  · simp -implicitDefEqProofs (disch := omega) [List.getElem?_cons_zero, List.getElem?_cons_succ, wrap_id, hx']
    exact fin1 [0] trivial rfl rfl ⟨rfl, rfl⟩
/-- What is known behind the first k of two. -/
def FstK (a b : Prop) (k : Nat) : Prop := (1 ≤ k → a) ∧ (2 ≤ k → b)
/-- The lesser numbers; of the first k vertices. -/
def minTo (n : Nat) (s t : List Int) (k : Nat) : List Int := (List.range n).map fun v => if v < k then min (s.getD v 0) (t.getD v 0) else s.getD v 0
theorem minTo_len (n : Nat) (s t : List Int) (k : Nat) : (minTo n s t k).length = n := by simp [minTo]
theorem minTo_get {n : Nat} {s t : List Int} {k v : Nat} (hv : v < n) : (minTo n s t k).getD v 0 = if v < k then min (s.getD v 0) (t.getD v 0) else s.getD v 0 := by rw [minTo, rg_get, if_pos hv]
theorem minTo_0 {n : Nat} {s : List Int} (hs : s.length = n) (t : List Int) : s = minTo n s t 0 := by
  refine ext_getD (by rw [minTo_len, hs]) fun i hi => ?_
  rw [hs] at hi
  rw [minTo_get hi, if_neg (by omega)]
theorem minTo_set {n : Nat} {s t : List Int} {k : Nat} (hk : k < n) : (minTo n s t k).set k (min ((minTo n s t k).getD k 0) (t.getD k 0)) = minTo n s t (k + 1) := by
  refine ext_getD (by rw [List.length_set, minTo_len, minTo_len]) fun i hi => ?_
  rw [List.length_set, minTo_len] at hi
  rw [getD_set, minTo_len, minTo_get hi, minTo_get hi, minTo_get hk, if_neg (by omega : ¬ k < k)]
  by_cases e : k = i
  · subst e; simp [hi]
  · have h2 : (i < k + 1) = (i < k) := by simp only [eq_iff_iff]; omega
    simp only [e, false_and, if_false, h2]
def minZ (n : Nat) (s t : List Int) (k : Nat) : List Int := (List.range n).map fun v => if v < k then min (s.getD v 0) (t.getD v 0) else 0
theorem minZ_len (n : Nat) (s t : List Int) (k : Nat) : (minZ n s t k).length = n := by simp [minZ]
theorem minZ_get {n : Nat} {s t : List Int} {k v : Nat} (hv : v < n) : (minZ n s t k).getD v 0 = if v < k then min (s.getD v 0) (t.getD v 0) else 0 := by rw [minZ, rg_get, if_pos hv]
theorem minZ_0 (n : Nat) (s t : List Int) : List.replicate n 0 = minZ n s t 0 := by
  refine List.ext_getElem (by simp [minZ]) fun i h1 h2 => by simp [minZ]
theorem minZ_set {n : Nat} {s t : List Int} {k : Nat} (hk : k < n) : (minZ n s t k).set k (min (s.getD k 0) (t.getD k 0)) = minZ n s t (k + 1) := by
  refine ext_getD (by rw [List.length_set, minZ_len, minZ_len]) fun i hi => ?_
  rw [List.length_set, minZ_len] at hi
  rw [getD_set, minZ_len, minZ_get hi, minZ_get hi]
  by_cases e : k = i
  · subst e; simp [hi]
  · have h2 : (i < k + 1) = (i < k) := by simp only [eq_iff_iff]; omega
    simp only [e, false_and, if_false, h2]
theorem minZ_n (n : Nat) (s t : List Int) : minZ n s t n = minTo n s t n := by
  refine ext_getD (by rw [minZ_len, minTo_len]) fun i hi => ?_
  rw [minZ_len] at hi
  rw [minZ_get hi, minTo_get hi, if_pos hi, if_pos hi]
def mtE (N : Int) (es : List Ed) (s t : List Int) : Int := if givenE N es s ≠ 0 then givenE N es s else givenE N es t
def mtL (N : Int) (es : List Ed) (s t : List Int) : List Int := if mtE N es s t = 0 then minTo N.toNat s t N.toNat else []
section
variable (N : Int) (es : List Ed) (s t : List Int) (hel : es.length ≤ 900) (hs : s.length ≤ 1000) (ht : t.length ≤ 1000)
include hel hs ht
theorem meet_ok : PC Try.prog 28 [G N es, .is s, .is t] (.tup [.p (.is (mtL N es s t)), .i (mtE N es s t)]) [] := by
  refine PC_of_W cfn28 ?_
  simp -implicitDefEqProofs (disch := omega) [c28, List.getElem?_cons_zero, List.getElem?_cons_succ, wrap_id]
  refine loopW 2 (fun k st => FstK (givenE N es s = 0) (givenE N es t = 0) k ∧ st = ⟨[(18, .i k), (17, .i 2), (16, .os 1 0 2), (3, .ptr 0 1 0 0), (1, .p (.is s)), (2, .p (.is t))], [.box (.p (G N es)), .tab [.p (.is s), .p (.is t)] 27 false]⟩) (wk_norm [0, 1] [18, 17, 16, 3, 1, 2] rfl rfl) ⟨⟨fun h => by omega, fun h => by omega⟩, rfl⟩ ?_
  rintro k st hk ⟨⟨h1, h2⟩, rfl⟩
  rcases Nat.lt_or_ge k 1 with hk1 | hk1
  · have e : k = 0 := by omega
    subst e
    simp -implicitDefEqProofs (disch := omega) [List.getElem?_cons_zero, List.getElem?_cons_succ, wrap_id]
    refine HC_of_PC rfl (fcheck_ok N es s (by omega) (by omega)) ?_
    by_cases h0 : givenE N es s = 0
    · simp -implicitDefEqProofs (disch := omega) [List.getElem?_cons_zero, List.getElem?_cons_succ, wrap_id, h0]
      exact round_end [0, 1] [18, 17, 16, 3, 1, 2] (by omega) rfl ⟨⟨fun _ => by simp [h0], fun h => by omega⟩, rfl⟩
    · have e : mtE N es s t = givenE N es s := by rw [mtE, if_pos h0]
      simp -implicitDefEqProofs (disch := omega) [List.getElem?_cons_zero, List.getElem?_cons_succ, wrap_id, h0]
      refine finW (Wk_nil0 6 rfl) ?_
      (refine fin0 trivial rfl ?_; simp -implicitDefEqProofs (disch := omega) [List.getElem?_cons_zero, List.getElem?_cons_succ, idx, wrap_id, mtL, e, h0])
  rcases Nat.lt_or_ge k 2 with hk2 | hk2
  · have e : k = 1 := by omega
    subst e
    have h0 := h1 (by omega)
    simp -implicitDefEqProofs (disch := omega) [List.getElem?_cons_zero, List.getElem?_cons_succ, wrap_id]
    refine HC_of_PC rfl (fcheck_ok N es t (by omega) (by omega)) ?_
    by_cases h3 : givenE N es t = 0
    · simp -implicitDefEqProofs (disch := omega) [List.getElem?_cons_zero, List.getElem?_cons_succ, wrap_id, h3]
      exact round_end [0, 1] [18, 17, 16, 3, 1, 2] (by omega) rfl ⟨⟨fun _ => by simp [h0], fun _ => by simp [h3]⟩, rfl⟩
    · have e : mtE N es s t = givenE N es t := by rw [mtE, if_neg (by simp [h0])]
      simp -implicitDefEqProofs (disch := omega) [List.getElem?_cons_zero, List.getElem?_cons_succ, wrap_id, h3]
      refine finW (Wk_nil0 6 rfl) ?_
      (refine fin0 trivial rfl ?_; simp -implicitDefEqProofs (disch := omega) [List.getElem?_cons_zero, List.getElem?_cons_succ, idx, wrap_id, mtL, e, h3])
  have e : k = 2 := by omega
  subst e
  have h0 := h1 (by omega)
  have h3 := h2 (by omega)
  have e : mtE N es s t = 0 := by rw [mtE, if_neg (by simp [h0]), h3]
  obtain ⟨n, rfl, hg, hsl, hsb, -, -⟩ := given_ok h0
  obtain ⟨n', e', -, htl, htb, -, -⟩ := given_ok h3
  have hsl : s.length = n := by omega
  have htl : t.length = n := by omega
  simp -implicitDefEqProofs (disch := omega) [List.getElem?_cons_zero, List.getElem?_cons_succ, wrap_id]
  refine HC_of_PC rfl (cloneS_ok s (by omega)) ?_
  simp -implicitDefEqProofs (disch := omega) [List.getElem?_cons_zero, List.getElem?_cons_succ, wrap_id, hsl, htl]
  refine loopW n (fun k st => st = ⟨[(33, .i k), (32, .i n), (31, .p (.is t)), (11, .os 0 0 n)], [rowI (minTo n s t k)]⟩) (wk_norm [2] [33, 32, 31, 11] rfl rfl) (by rw [← minTo_0 hsl]; rfl) ?_
  rintro k st hk rfl
  have hml := minTo_len n s t k
  by_cases hlt : k < n
  · have hkt : k < t.length := by omega
    have hkm : k < (minTo n s t k).length := by omega
    have hs2 := congrArg (List.map PV.i) (minTo_set (s := s) (t := t) hlt)
    rw [List.map_set, getD_get hkm, getD_get hkt] at hs2
    simp -implicitDefEqProofs (disch := omega) [List.getElem?_cons_zero, List.getElem?_cons_succ, wrap_id, hlt, hkt, hml, hkm, hs2]
    exact round_end [0] [33, 32, 31, 11] hlt rfl rfl
  · have hkn : k = n := by omega
    subst hkn
    simp -implicitDefEqProofs (disch := omega) [List.getElem?_cons_zero, List.getElem?_cons_succ, wrap_id]
    (refine fin0 trivial rfl ?_; simp -implicitDefEqProofs (disch := omega) [List.getElem?_cons_zero, List.getElem?_cons_succ, idx, wrap_id, mtL, e, hml])
theorem rmeet_ok : PC Try.prog 29 [G N es, .is s, .is t] (.tup [.p (.is (mtL N es s t)), .i (mtE N es s t)]) [] := by
  refine PC_of_W cfn29 ?_
  simp -implicitDefEqProofs (disch := omega) [c29, List.getElem?_cons_zero, List.getElem?_cons_succ, wrap_id]
  refine HC_of_PC rfl (rscheck_ok N es s (by omega) (by omega)) ?_
  by_cases h0 : givenE N es s = 0
  rotate_left
  · have e : mtE N es s t = givenE N es s := by rw [mtE, if_pos h0]
    simp -implicitDefEqProofs (disch := omega) [List.getElem?_cons_zero, List.getElem?_cons_succ, wrap_id, h0]
    refine finW (Wk_nil0 6 rfl) ?_
    (refine fin0 trivial rfl ?_; simp -implicitDefEqProofs (disch := omega) [List.getElem?_cons_zero, List.getElem?_cons_succ, idx, wrap_id, mtL, e, h0])
  simp -implicitDefEqProofs (disch := omega) [List.getElem?_cons_zero, List.getElem?_cons_succ, wrap_id, h0]
  refine HC_of_PC rfl (rscheck_ok N es t (by omega) (by omega)) ?_
  by_cases h3 : givenE N es t = 0
  rotate_left
  · have e : mtE N es s t = givenE N es t := by rw [mtE, if_neg (by simp [h0])]
    simp -implicitDefEqProofs (disch := omega) [List.getElem?_cons_zero, List.getElem?_cons_succ, wrap_id, h3]
    refine finW (Wk_nil0 6 rfl) ?_
    (refine fin0 trivial rfl ?_; simp -implicitDefEqProofs (disch := omega) [List.getElem?_cons_zero, List.getElem?_cons_succ, idx, wrap_id, mtL, e, h3])
  have e : mtE N es s t = 0 := by rw [mtE, if_neg (by simp [h0]), h3]
  obtain ⟨n, rfl, hg, hsl, hsb, -, -⟩ := given_ok h0
  obtain ⟨n', e', -, htl, htb, -, -⟩ := given_ok h3
  have hsl : s.length = n := by omega
  have htl : t.length = n := by omega
  have hn6 : n ≤ 1048576 := by omega
  simp -implicitDefEqProofs (disch := omega) [List.getElem?_cons_zero, List.getElem?_cons_succ, wrap_id, h3, hn6]
  refine loopW n (fun k st => st = ⟨[(11, .i k), (10, .os 1 0 n), (3, .ptr 0 1 0 0), (1, .p (.is s)), (2, .p (.is t))], [.box (.p (G n es)), rowI (minZ n s t k)]⟩) (Wk_keep [11, 10, 3, 1, 2]) (by rw [← minZ_0, rowI, List.map_replicate]; rfl) ?_
  rintro k st hk rfl
  have hml := minZ_len n s t k
  by_cases hlt : k < n
  · have hks : k < s.length := by omega
    have hkt : k < t.length := by omega
    have hs2 := congrArg (List.map PV.i) (minZ_set (s := s) (t := t) hlt)
    rw [List.map_set, getD_get hks, getD_get hkt] at hs2
    simp -implicitDefEqProofs (disch := omega) [List.getElem?_cons_zero, List.getElem?_cons_succ, wrap_id, hlt, hks, hkt, hml, hs2]
    exact round_end [0, 1] [11, 10, 3, 1, 2] hlt rfl rfl
  · have hkn : k = n := by omega
    subst hkn
    have e3 := minZ_n k s t
    have hm2 := minTo_len k s t k
    simp -implicitDefEqProofs (disch := omega) [List.getElem?_cons_zero, List.getElem?_cons_succ, wrap_id]
    (refine fin0 trivial rfl ?_; simp -implicitDefEqProofs (disch := omega) [List.getElem?_cons_zero, List.getElem?_cons_succ, idx, wrap_id, mtL, e, e3, hml, hm2])
end
end Go.Proofs.Ytgjaekbbdmhjlaa
