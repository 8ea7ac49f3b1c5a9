/-
  Contracts: the identity, on both sides.
-/
import Derived.Test.YtheffllmccomiaaMkd
set_option linter.unusedSimpArgs false
set_option linter.unusedVariables false
namespace Go.Proofs.Ytheffllmccomiaa
open Go.Abs Go.Sand

def idL (k : Nat) : List Int := (List.range k).map fun i : Nat => (i : Int)
theorem idL_length (k : Nat) : (idL k).length = k := by simp [idL]
theorem idL_succ (k : Nat) : idL (k + 1) = idL k ++ [(k : Int)] := by simp [idL, List.range_succ]
theorem idL_get (k i : Nat) (h : i < k) : (idL k)[i]'(by rw [idL_length]; exact h) = i := by simp [idL]
/-- What a map is that stands in a result. -/
abbrev MoA (m : Mo) : AV := .agg [.p (.is m.v), .p (.is m.e)]
abbrev mo0 : Mo := ⟨[], []⟩
def unitM (g : Gr) : Mo := ⟨idL g.1.toNat, idL (endsL g.2).length⟩
def idM (g : Gr) : Mo := if graphE g.1 g.2 = 0 then unitM g else mo0
theorem unit_ok (g : Gr) (hg : GoodG g.1 g.2) (hel : g.2.length ≤ 900) : PC Try.prog 60 [GrP g] (MoA (unitM g)) [] := by
  have h1 := hg.n1
  have h12 := hg.n12
  have h9 := endsL_len9 hg.right hel
  obtain ⟨n, hn⟩ : ∃ n : Nat, g.1 = n := ⟨g.1.toNat, by omega⟩
  have hu : unitM g = ⟨idL n, idL (endsL g.2).length⟩ := by rw [unitM, hn]; rfl
  rw [hu]
  refine PC_of_W cfn60 ?_
  simp -implicitDefEqProofs (disch := omega) [c60, List.getElem?_cons_zero, List.getElem?_cons_succ, wrap_id]
  refine loopW n (fun k s => s = ⟨[(4, .i k), (3, .ptr 2 1 0 0), (2, .ptr 1 1 0 0), (1, .ptr 0 1 0 0)], [.box (.p (GrP g)), .box (.p (.agg [.nil, .nil])), .box (.agg [.os 3 0 (idL k).length, .os 4 0 0]), .row ((idL k).map PV.i) 1 3 false, .row [] 1 3 false]⟩)
    ((wk_norm [0, 1, 2] [4, 3, 2, 1] rfl rfl).trans ((Wk_nilB 2 0 1 3 rfl rfl).trans (Wk_nilB 2 1 1 3 rfl rfl))) rfl ?_
  rintro k s hk rfl
  have hkl := idL_length k
  by_cases hlt : k < n
  · have h2 : (k : Int) < g.1 := by omega
    have hs := idL_succ k
    have hbd : (idL k).length ≤ 1048575 := by omega
    simp -implicitDefEqProofs (disch := omega) [List.getElem?_cons_zero, List.getElem?_cons_succ, wrap_id, h2, hbd]
    exact round_end [0, 1, 2, 3, 4] [4, 3, 2, 1] hlt rfl (by rw [hs, List.length_append, List.map_append]; rfl)
  have hkn : k = n := by omega
  subst hkn
  have h2 : ¬ (k : Int) < g.1 := by omega
  simp -implicitDefEqProofs (disch := omega) [List.getElem?_cons_zero, List.getElem?_cons_succ, wrap_id, h2]
  refine loopW (endsL g.2).length (fun j s => s = ⟨[(5, .i j), (3, .ptr 2 1 0 0), (2, .ptr 1 1 0 0), (1, .ptr 0 1 0 0)], [.box (.p (GrP g)), .box (.p (.agg [.nil, .nil])), .box (.agg [.os 3 0 (idL k).length, .os 4 0 (idL j).length]), .row ((idL k).map PV.i) 1 3 false, .row ((idL j).map PV.i) 1 3 false]⟩)
    (wk_norm [0, 1, 2, 3, 4] [5, 3, 2, 1] rfl rfl) rfl ?_
  rintro j s hj rfl
  have hjl := idL_length j
  by_cases hlt : j < (endsL g.2).length
  · have hs := idL_succ j
    have hbd : (idL j).length ≤ 1048575 := by omega
    simp -implicitDefEqProofs (disch := omega) [List.getElem?_cons_zero, List.getElem?_cons_succ, wrap_id]
    refine HC_of_PC rfl (size_ok g.1 g.2 hg.right (by omega)) ?_
    simp -implicitDefEqProofs (disch := omega) [List.getElem?_cons_zero, List.getElem?_cons_succ, wrap_id, hlt, hbd]
    exact round_end [0, 1, 2, 3, 4] [5, 3, 2, 1] hlt rfl (by rw [hs, List.length_append, List.map_append]; rfl)
  have hjn : j = (endsL g.2).length := by omega
  subst hjn
  simp -implicitDefEqProofs (disch := omega) [List.getElem?_cons_zero, List.getElem?_cons_succ, wrap_id]
  refine HC_of_PC rfl (size_ok g.1 g.2 hg.right (by omega)) ?_
  simp -implicitDefEqProofs (disch := omega) [List.getElem?_cons_zero, List.getElem?_cons_succ, wrap_id]
  refine fin0 trivial rfl ?_
  simp
  exact ⟨rfl, rfl⟩
theorem ridentity_ok (g : Gr) (hel : g.2.length ≤ 900) : PC Try.prog 39 [GrP g] (.tup [MoA (idM g), .i (graphE g.1 g.2)]) [] := by
  refine PC_of_W cfn39 ?_
  simp -implicitDefEqProofs (disch := omega) [c39, List.getElem?_cons_zero, List.getElem?_cons_succ, wrap_id]
  refine HC_of_PC rfl (rgraph_ok g.1 g.2 hel) ?_
  by_cases hc : graphE g.1 g.2 = 0
  · obtain ⟨a1, a2, a3⟩ := graph_good hc
    have hi : idM g = unitM g := if_pos hc
    simp -implicitDefEqProofs (disch := omega) [List.getElem?_cons_zero, List.getElem?_cons_succ, wrap_id, hc]
    refine HC_of_PC rfl (unit_ok g a1 hel) ?_
    simp -implicitDefEqProofs (disch := omega) [List.getElem?_cons_zero, List.getElem?_cons_succ, wrap_id]
    (refine fin0 trivial rfl ?_; simp -implicitDefEqProofs (disch := omega) [List.getElem?_cons_zero, List.getElem?_cons_succ, idx, wrap_id, hi, hc])
  · have hi : idM g = mo0 := if_neg hc
    simp -implicitDefEqProofs (disch := omega) [List.getElem?_cons_zero, List.getElem?_cons_succ, wrap_id, hc]
    refine finW (Wk_nilB 1 0 1 3 rfl rfl) (finW (Wk_nilB 1 1 1 3 rfl rfl) ?_)
    refine fin0 trivial rfl ?_
    simp [hi]
    exact ⟨rfl, rfl⟩
theorem identity_ok (g : Gr) (hel : g.2.length ≤ 900) : PC Try.prog 38 [GrP g] (.tup [MoA (idM g), .i (graphE g.1 g.2)]) [] := by
  refine PC_of_W cfn38 ?_
  simp -implicitDefEqProofs (disch := omega) [c38, List.getElem?_cons_zero, List.getElem?_cons_succ, wrap_id]
  refine HC_of_PC rfl (plain_ok g.1 g.2 hel) ?_
  by_cases hc : graphE g.1 g.2 = 0
  rotate_left
  · have hi : idM g = mo0 := if_neg hc
    simp -implicitDefEqProofs (disch := omega) [List.getElem?_cons_zero, List.getElem?_cons_succ, wrap_id, hc]
    refine finW (Wk_nilB 1 0 1 3 rfl rfl) (finW (Wk_nilB 1 1 1 3 rfl rfl) ?_)
    refine fin0 trivial rfl ?_
    simp [hi]
    exact ⟨rfl, rfl⟩
  obtain ⟨hg, a2, a3⟩ := graph_good hc
  have h1 := hg.n1
  have h12 := hg.n12
  have h9 := endsL_len9 hg.right hel
  obtain ⟨n, hn⟩ : ∃ n : Nat, g.1 = n := ⟨g.1.toNat, by omega⟩
  have hu : idM g = ⟨idL n, idL (endsL g.2).length⟩ := by rw [idM, if_pos hc, unitM, hn]; rfl
  rw [hu]
  simp -implicitDefEqProofs (disch := omega) [List.getElem?_cons_zero, List.getElem?_cons_succ, wrap_id, hc]
  refine loopW n (fun k s => s = ⟨[(20, .i k), (19, .i g.1), (4, .p (.ps (endsL g.2))), (6, .ptr 1 1 0 0), (2, .ptr 0 1 0 0)], [.box (.p (.agg [.nil, .nil])), .box (.agg [.os 2 0 (idL k).length, .os 3 0 0]), .row ((idL k).map PV.i) 1 3 false, .row [] 1 3 false]⟩)
    ((wk_norm [1, 2] [20, 19, 4, 6, 2] rfl rfl).trans ((Wk_nilB 1 0 1 3 rfl rfl).trans (Wk_nilB 1 1 1 3 rfl rfl))) rfl ?_
  rintro k s hk rfl
  have hkl := idL_length k
  by_cases hlt : k < n
  · have h2 : (k : Int) < g.1 := by omega
    have hs := idL_succ k
    have hbd : (idL k).length ≤ 1048575 := by omega
    simp -implicitDefEqProofs (disch := omega) [List.getElem?_cons_zero, List.getElem?_cons_succ, wrap_id, h2, hbd]
    exact round_end [0, 1, 2, 3] [20, 19, 4, 6, 2] hlt rfl (by rw [hs, List.length_append, List.map_append]; rfl)
  have hkn : k = n := by omega
  subst hkn
  have h2 : ¬ (k : Int) < g.1 := by omega
  simp -implicitDefEqProofs (disch := omega) [List.getElem?_cons_zero, List.getElem?_cons_succ, wrap_id, h2]
  refine loopW (endsL g.2).length (fun j s => s = ⟨[(32, .i j), (31, .i (endsL g.2).length), (6, .ptr 1 1 0 0), (2, .ptr 0 1 0 0)], [.box (.p (.agg [.nil, .nil])), .box (.agg [.os 2 0 (idL k).length, .os 3 0 (idL j).length]), .row ((idL k).map PV.i) 1 3 false, .row ((idL j).map PV.i) 1 3 false]⟩)
    (wk_norm [0, 1, 2, 3] [32, 31, 6, 2] rfl rfl) rfl ?_
  rintro j s hj rfl
  have hjl := idL_length j
  by_cases hlt : j < (endsL g.2).length
  · have hs := idL_succ j
    have hbd : (idL j).length ≤ 1048575 := by omega
    simp -implicitDefEqProofs (disch := omega) [List.getElem?_cons_zero, List.getElem?_cons_succ, wrap_id, hlt, hbd]
    exact round_end [0, 1, 2, 3] [32, 31, 6, 2] hlt rfl (by rw [hs, List.length_append, List.map_append]; rfl)
  have hjn : j = (endsL g.2).length := by omega
  subst hjn
  simp -implicitDefEqProofs (disch := omega) [List.getElem?_cons_zero, List.getElem?_cons_succ, wrap_id]
  refine fin0 trivial rfl ?_
  simp [hc]
  exact ⟨rfl, rfl⟩
end Go.Proofs.Ytheffllmccomiaa
