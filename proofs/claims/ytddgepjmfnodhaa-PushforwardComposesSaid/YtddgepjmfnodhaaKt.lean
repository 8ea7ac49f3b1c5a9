/-
  Contracts: the composition, on both sides.
-/
import Derived.Test.YtddgepjmfnodhaaKs
set_option linter.unusedSimpArgs false
set_option linter.unusedVariables false
namespace Go.Proofs.Ytddgepjmfnodhaa
open Go.Abs Go.Sand

def atI (l : List Int) (i : Int) : Int := l.getD i.toNat 0
theorem atI_get {l : List Int} {i : Int} {n : Nat} (h0 : 0 ≤ i) (h : i < n) (hn : n ≤ l.length) : ∃ k : Nat, i = k ∧ ∃ hk : k < l.length, atI l i = l[k] := by
  refine ⟨i.toNat, by omega, by omega, ?_⟩
  rw [atI, List.getD_eq_getElem?_getD, List.getElem?_eq_getElem (by omega)]; rfl
def compV (m n : Mo) (k : Nat) : List Int := (m.v.take k).map fun v => atI n.v v
def compX (n : Mo) (e : Int) : Int := if e < 0 then -1 else atI n.e e
def compF (m n : Mo) (k : Nat) : List Int := (m.e.take k).map fun e => compX n e
def compM (m n : Mo) : Mo := ⟨compV m n m.v.length, compF m n m.e.length⟩
theorem compV_length {m n : Mo} {k : Nat} (h : k ≤ m.v.length) : (compV m n k).length = k := by simp [compV]; omega
theorem compF_length {m n : Mo} {k : Nat} (h : k ≤ m.e.length) : (compF m n k).length = k := by simp [compF]; omega
theorem compV_succ {m n : Mo} {k : Nat} (h : k < m.v.length) : compV m n (k + 1) = compV m n k ++ [atI n.v m.v[k]] := by
  rw [compV, List.take_add_one, List.getElem?_eq_getElem h, List.map_append]; rfl
theorem compF_succ {m n : Mo} {k : Nat} (h : k < m.e.length) : compF m n (k + 1) = compF m n k ++ [compX n m.e[k]] := by
  rw [compF, List.take_add_one, List.getElem?_eq_getElem h, List.map_append]; rfl
/-- What the composition needs. -/
structure Fit (m n : Mo) : Prop where
  v : ∀ x ∈ m.v, 0 ≤ x ∧ x < n.v.length
  e : ∀ x ∈ m.e, -1 ≤ x ∧ x < n.e.length
  vl : m.v.length ≤ 1000000
  el : m.e.length ≤ 1000000
theorem fit_of {g h k : Gr} {m n : Mo} (hs : Sm g h m) (h1 : coverE g h m = 0) (h2 : coverE h k n = 0) : Fit m n := by
  obtain ⟨a, b, c⟩ := cov_of h1
  obtain ⟨a', b', c'⟩ := cov_of h2
  have e1 := c.hk
  have e2 := c'.gn
  have e3 := c'.vl
  have e4 := c'.el
  refine ⟨fun x hx => ?_, fun x hx => ?_, hs.v, hs.e⟩
  · have := c.vb x hx; omega
  · have := c.ebd x hx; omega
def composeE (g h k : Gr) (m n : Mo) : Int := if errsE [g, h, k] ≠ 0 then errsE [g, h, k] else if coverE g h m ≠ 0 then coverE g h m else coverE h k n
def composeM (g h k : Gr) (m n : Mo) : Mo := if composeE g h k m n = 0 then compM m n else mo0
theorem compose_ok (g h k : Gr) (m n : Mo) (hs : Sm g h m) (ht : Sm h k n) : PC Try.prog 28 [GrP g, GrP h, GrP k, MoP m, MoP n] (.tup [MoA (composeM g h k m n), .i (composeE g h k m n)]) [] := by
  have hvl := hs.v
  have hel := hs.e
  refine PC_of_W cfn28 ?_
  simp -implicitDefEqProofs (disch := omega) [c28, List.getElem?_cons_zero, List.getElem?_cons_succ, wrap_id]
  refine HC_of_PC rfl (graphs_ok [g, h, k] (by simp) (by simp) (by intro x hx; simp at hx; rcases hx with rfl | rfl | rfl; exact hs.g; exact hs.h; exact ht.h)) ?_
  by_cases he : errsE [g, h, k] = 0
  rotate_left
  · have hE : composeE g h k m n = errsE [g, h, k] := if_pos he
    have hi : composeM g h k m n = mo0 := if_neg (by rw [hE]; exact he)
    simp -implicitDefEqProofs (disch := omega) [List.getElem?_cons_zero, List.getElem?_cons_succ, wrap_id, he]
    refine finW (Wk_nilB 5 0 1 3 rfl rfl) (finW (Wk_nilB 5 1 1 3 rfl rfl) ?_)
    refine fin0 trivial rfl ?_
    simp [hi, hE]
    exact ⟨rfl, rfl⟩
  simp -implicitDefEqProofs (disch := omega) [List.getElem?_cons_zero, List.getElem?_cons_succ, wrap_id, he]
  refine HC_of_PC rfl (check_ok g h m hs) ?_
  by_cases h1 : coverE g h m = 0
  rotate_left
  · have hE : composeE g h k m n = coverE g h m := by rw [composeE, if_neg (by simp [he]), if_pos h1]
    have hi : composeM g h k m n = mo0 := if_neg (by rw [hE]; exact h1)
    simp -implicitDefEqProofs (disch := omega) [List.getElem?_cons_zero, List.getElem?_cons_succ, wrap_id, h1]
    refine finW (Wk_nilB 5 0 1 3 rfl rfl) (finW (Wk_nilB 5 1 1 3 rfl rfl) ?_)
    refine fin0 trivial rfl ?_
    simp [hi, hE]
    exact ⟨rfl, rfl⟩
  simp -implicitDefEqProofs (disch := omega) [List.getElem?_cons_zero, List.getElem?_cons_succ, wrap_id, h1]
  refine HC_of_PC rfl (check_ok h k n ht) ?_
  by_cases h2 : coverE h k n = 0
  rotate_left
  · have hE : composeE g h k m n = coverE h k n := by rw [composeE, if_neg (by simp [he]), if_neg (by simp [h1])]
    have hi : composeM g h k m n = mo0 := if_neg (by rw [hE]; exact h2)
    simp -implicitDefEqProofs (disch := omega) [List.getElem?_cons_zero, List.getElem?_cons_succ, wrap_id, h2]
    refine finW (Wk_nilB 5 0 1 3 rfl rfl) (finW (Wk_nilB 5 1 1 3 rfl rfl) ?_)
    refine fin0 trivial rfl ?_
    simp [hi, hE]
    exact ⟨rfl, rfl⟩
  have hE : composeE g h k m n = 0 := by rw [composeE, if_neg (by simp [he]), if_neg (by simp [h1]), h2]
  have hi : composeM g h k m n = compM m n := if_pos hE
  have hf := fit_of hs h1 h2
  simp -implicitDefEqProofs (disch := omega) [List.getElem?_cons_zero, List.getElem?_cons_succ, wrap_id, h2]
  refine loopW m.v.length (fun k s => s = ⟨[(52, .i k), (51, .i m.v.length), (50, .p (.is m.v)), (8, .ptr 0 1 0 0), (9, .ptr 1 1 0 0), (10, .ptr 2 1 0 0), (16, .ptr 3 1 0 0)], [.box (.p (MoP m)), .box (.p (MoP n)), .box (.p (.agg [.nil, .nil])), .box (.agg [.os 4 0 (compV m n k).length, .os 5 0 0]), .row ((compV m n k).map PV.i) 1 3 false, .row [] 1 3 false]⟩)
    ((wk_norm [3, 4, 5, 7] [52, 51, 50, 8, 9, 10, 16] rfl rfl).trans ((Wk_nilB 3 0 1 3 rfl rfl).trans (Wk_nilB 3 1 1 3 rfl rfl))) rfl ?_
  rintro k s hk rfl
  have hkl := compV_length (n := n) hk
  by_cases hlt : k < m.v.length
  · have hs := compV_succ (n := n) hlt
    have hbd : (compV m n k).length ≤ 1048575 := by omega
    have hv := hf.v _ (List.getElem_mem hlt)
    obtain ⟨u, hu, hun, hat⟩ := atI_get hv.1 hv.2 (Nat.le_refl _)
    rw [hat] at hs
    simp -implicitDefEqProofs (disch := omega) [List.getElem?_cons_zero, List.getElem?_cons_succ, wrap_id, hlt, hu, hun, hbd]
    exact round_end [0, 1, 2, 3, 4, 5] [52, 51, 50, 8, 9, 10, 16] hlt rfl (by rw [hs, List.length_append, List.map_append]; rfl)
  have hkn : k = m.v.length := by omega
  subst hkn
  simp -implicitDefEqProofs (disch := omega) [List.getElem?_cons_zero, List.getElem?_cons_succ, wrap_id]
  refine loopW m.e.length (fun j s => s = ⟨[(70, .i j), (69, .i m.e.length), (68, .p (.is m.e)), (9, .ptr 1 1 0 0), (10, .ptr 2 1 0 0), (16, .ptr 3 1 0 0)], [.box (.p (MoP m)), .box (.p (MoP n)), .box (.p (.agg [.nil, .nil])), .box (.agg [.os 4 0 (compV m n m.v.length).length, .os 5 0 (compF m n j).length]), .row ((compV m n m.v.length).map PV.i) 1 3 false, .row ((compF m n j).map PV.i) 1 3 false]⟩)
    (wk_norm [0, 1, 2, 3, 4, 5] [70, 69, 68, 9, 10, 16] rfl rfl) rfl ?_
  rintro j s hj rfl
  have hjl := compF_length (n := n) hj
  by_cases hlt : j < m.e.length
  · have hs := compF_succ (n := n) hlt
    have hbd : (compF m n j).length ≤ 1048575 := by omega
    have hv := hf.e _ (List.getElem_mem hlt)
    by_cases hz : m.e[j] < 0
    · have hm1 : m.e[j] = -1 := by omega
      rw [compX, if_pos hz] at hs
      simp -implicitDefEqProofs (disch := omega) [List.getElem?_cons_zero, List.getElem?_cons_succ, wrap_id, hlt, hm1, hbd]
      exact round_end [0, 1, 2, 3, 4, 5] [70, 69, 68, 9, 10, 16] hlt rfl (by rw [hs, List.length_append, List.map_append]; rfl)
    · obtain ⟨u, hu, hun, hat⟩ := atI_get (by omega : (0 : Int) ≤ m.e[j]) hv.2 (Nat.le_refl _)
      rw [compX, if_neg hz, hat] at hs
      have hz2 : (0 : Int) ≤ (u : Int) := by omega
      simp -implicitDefEqProofs (disch := omega) [List.getElem?_cons_zero, List.getElem?_cons_succ, wrap_id, hlt, hu, hz2, hun, hbd]
      exact round_end [0, 1, 2, 3, 4, 5] [70, 69, 68, 9, 10, 16] hlt rfl (by rw [hs, List.length_append, List.map_append]; rfl)
  have hjn : j = m.e.length := by omega
  subst hjn
  simp -implicitDefEqProofs (disch := omega) [List.getElem?_cons_zero, List.getElem?_cons_succ, wrap_id]
  refine fin0 trivial rfl ?_
  simp [hE, hi]
  exact ⟨rfl, rfl⟩
theorem errs_three (g h k : Gr) : errsE [g, h, k] = if graphsE g.1 g.2 h.1 h.2 ≠ 0 then graphsE g.1 g.2 h.1 h.2 else graphE k.1 k.2 := by
  by_cases hg : graphE g.1 g.2 = 0 <;> by_cases hh : graphE h.1 h.2 = 0 <;> by_cases hk : graphE k.1 k.2 = 0 <;> simp [errsE, graphsE, hg, hh, hk]
abbrev ThQ (g h k : Gr) : PV := .agg [.i g.1, .sl (g.2.map edP), .i h.1, .sl (h.2.map edP), .i k.1, .sl (k.2.map edP)]
theorem compM_len {m n : Mo} (h1 : m.v.length ≤ 1000000) (h2 : m.e.length ≤ 1000000) : (compM m n).v.length ≤ 4611686018427387904 ∧ (compM m n).e.length ≤ 4611686018427387904 := by
  rw [show (compM m n).v = compV m n m.v.length from rfl, show (compM m n).e = compF m n m.e.length from rfl, compV_length (Nat.le_refl _), compF_length (Nat.le_refl _)]
  omega
theorem composeM_len (g h k : Gr) {m n : Mo} (h1 : m.v.length ≤ 1000000) (h2 : m.e.length ≤ 1000000) : (composeM g h k m n).v.length ≤ 4611686018427387904 ∧ (composeM g h k m n).e.length ≤ 4611686018427387904 := by
  unfold composeM
  split
  · exact compM_len h1 h2
  · simp
end Go.Proofs.Ytddgepjmfnodhaa
