/-
  Contracts: the constant map, on both sides.
-/
import Derived.Test.YtheffllmccomiaaKr
set_option linter.unusedSimpArgs false
set_option linter.unusedVariables false
namespace Go.Proofs.Ytheffllmccomiaa
open Go.Abs Go.Sand

def repL (k : Nat) (w : Int) : List Int := List.replicate k w
theorem repL_length (k : Nat) (w : Int) : (repL k w).length = k := List.length_replicate
theorem repL_succ (k : Nat) (w : Int) : repL (k + 1) w = repL k w ++ [w] := List.replicate_succ'
def constE (g h : Gr) (w : Int) : Int := if errsE [g, h] ≠ 0 then errsE [g, h] else if vtx h.1 w = false then 2 else 0
def constM (g h : Gr) (w : Int) : Mo := if constE g h w = 0 then ⟨repL g.1.toNat w, repL (endsL g.2).length (-1)⟩ else mo0
theorem errs_graphs (g h : Gr) : errsE [g, h] = graphsE g.1 g.2 h.1 h.2 := by
  simp only [errsE, graphsE]
  split <;> try rfl
  split <;> simp_all
theorem constant_ok (g h : Gr) (w : Int) (hel : g.2.length ≤ 900) (hfl : h.2.length ≤ 900) : PC Try.prog 40 [GrP g, GrP h, .i w] (.tup [MoA (constM g h w), .i (constE g h w)]) [] := by
  refine PC_of_W cfn40 ?_
  simp -implicitDefEqProofs (disch := omega) [c40, List.getElem?_cons_zero, List.getElem?_cons_succ, wrap_id]
  refine HC_of_PC rfl (graphs_ok [g, h] (by simp) (by simp) (by intro x hx; simp at hx; rcases hx with rfl | rfl; exact hel; exact hfl)) ?_
  by_cases he : errsE [g, h] = 0
  rotate_left
  · have hE : constE g h w = errsE [g, h] := if_pos he
    have hi : constM g h w = mo0 := if_neg (by rw [hE]; exact he)
    simp -implicitDefEqProofs (disch := omega) [List.getElem?_cons_zero, List.getElem?_cons_succ, wrap_id, he]
    refine finW (Wk_nilB 2 0 1 3 rfl rfl) (finW (Wk_nilB 2 1 1 3 rfl rfl) ?_)
    refine fin0 trivial rfl ?_
    simp [hi, hE]
    exact ⟨rfl, rfl⟩
  by_cases hv : vtx h.1 w = false
  · have hE : constE g h w = 2 := by rw [constE, if_neg (by simp [he]), if_pos hv]
    have hi : constM g h w = mo0 := if_neg (by rw [hE]; decide)
    have hv' := vtx_not.1 hv
    by_cases h1 : w < 0
    · simp -implicitDefEqProofs (disch := omega) [List.getElem?_cons_zero, List.getElem?_cons_succ, wrap_id, he, h1]
      refine finW (Wk_nilB 2 0 1 3 rfl rfl) (finW (Wk_nilB 2 1 1 3 rfl rfl) ?_)
      refine fin0 trivial rfl ?_
      simp [hi, hE]
      exact ⟨rfl, rfl⟩
    · have h2 : h.1 ≤ w := by omega
      simp -implicitDefEqProofs (disch := omega) [List.getElem?_cons_zero, List.getElem?_cons_succ, wrap_id, he, h1, h2]
      refine finW (Wk_nilB 2 0 1 3 rfl rfl) (finW (Wk_nilB 2 1 1 3 rfl rfl) ?_)
      refine fin0 trivial rfl ?_
      simp [hi, hE]
      exact ⟨rfl, rfl⟩
  have hE : constE g h w = 0 := by rw [constE, if_neg (by simp [he]), if_neg hv]
  have hv' := vtx_iff.1 (by simpa using hv)
  have hw1 : ¬ w < 0 := by omega
  have hw2 : ¬ h.1 ≤ w := by omega
  obtain ⟨e1, e2⟩ := errs_two he
  obtain ⟨hg, a2, a3⟩ := graph_good e1
  have h1 := hg.n1
  have h12 := hg.n12
  have h9 := endsL_len9 hg.right hel
  obtain ⟨n, hn⟩ : ∃ n : Nat, g.1 = n := ⟨g.1.toNat, by omega⟩
  have hu : constM g h w = ⟨repL n w, repL (endsL g.2).length (-1)⟩ := by rw [constM, if_pos hE, hn]; rfl
  rw [hu]
  simp -implicitDefEqProofs (disch := omega) [List.getElem?_cons_zero, List.getElem?_cons_succ, wrap_id, he, hw1, hw2]
  refine loopW n (fun k s => s = ⟨[(33, .i k), (32, .i g.1), (2, .i w), (8, .p (.sl [endP g, endP h])), (10, .ptr 1 1 0 0), (6, .ptr 0 1 0 0)], [.box (.p (.agg [.nil, .nil])), .box (.agg [.os 2 0 (repL k w).length, .os 3 0 0]), .row ((repL k w).map PV.i) 1 3 false, .row [] 1 3 false]⟩)
    ((wk_norm [2, 4] [33, 32, 2, 8, 10, 6] rfl rfl).trans ((Wk_nilB 1 0 1 3 rfl rfl).trans (Wk_nilB 1 1 1 3 rfl rfl))) rfl ?_
  rintro k s hk rfl
  have hkl := repL_length k w
  by_cases hlt : k < n
  · have h2 : (k : Int) < g.1 := by omega
    have hs := repL_succ k w
    have hbd : (repL k w).length ≤ 1048575 := by omega
    simp -implicitDefEqProofs (disch := omega) [List.getElem?_cons_zero, List.getElem?_cons_succ, wrap_id, h2, hbd]
    exact round_end [0, 1, 2, 3] [33, 32, 2, 8, 10, 6] hlt rfl (by rw [hs, List.length_append, List.map_append]; rfl)
  have hkn : k = n := by omega
  subst hkn
  have h2 : ¬ (k : Int) < g.1 := by omega
  simp -implicitDefEqProofs (disch := omega) [List.getElem?_cons_zero, List.getElem?_cons_succ, wrap_id, h2]
  refine loopW (endsL g.2).length (fun j s => s = ⟨[(46, .i j), (45, .i (endsL g.2).length), (10, .ptr 1 1 0 0), (6, .ptr 0 1 0 0)], [.box (.p (.agg [.nil, .nil])), .box (.agg [.os 2 0 (repL k w).length, .os 3 0 (repL j (-1)).length]), .row ((repL k w).map PV.i) 1 3 false, .row ((repL j (-1)).map PV.i) 1 3 false]⟩)
    (wk_norm [0, 1, 2, 3] [46, 45, 10, 6] rfl rfl) rfl ?_
  rintro j s hj rfl
  have hjl := repL_length j (-1)
  by_cases hlt : j < (endsL g.2).length
  · have hs := repL_succ j (-1)
    have hbd : (repL j (-1)).length ≤ 1048575 := by omega
    simp -implicitDefEqProofs (disch := omega) [List.getElem?_cons_zero, List.getElem?_cons_succ, wrap_id, hlt, hbd]
    exact round_end [0, 1, 2, 3] [46, 45, 10, 6] hlt rfl (by rw [hs, List.length_append, List.map_append]; rfl)
  have hjn : j = (endsL g.2).length := by omega
  subst hjn
  simp -implicitDefEqProofs (disch := omega) [List.getElem?_cons_zero, List.getElem?_cons_succ, wrap_id]
  refine fin0 trivial rfl ?_
  simp [hE]
  exact ⟨rfl, rfl⟩
theorem rconstant_ok (g h : Gr) (w : Int) (hel : g.2.length ≤ 900) (hfl : h.2.length ≤ 900) : PC Try.prog 41 [GrP g, GrP h, .i w] (.tup [MoA (constM g h w), .i (constE g h w)]) [] := by
  have heg := errs_graphs g h
  refine PC_of_W cfn41 ?_
  simp -implicitDefEqProofs (disch := omega) [c41, List.getElem?_cons_zero, List.getElem?_cons_succ, wrap_id]
  refine HC_of_PC rfl (rgraphs_ok g.1 h.1 g.2 h.2 hel hfl) ?_
  rw [← heg]
  by_cases he : errsE [g, h] = 0
  rotate_left
  · have hE : constE g h w = errsE [g, h] := if_pos he
    have hi : constM g h w = mo0 := if_neg (by rw [hE]; exact he)
    simp -implicitDefEqProofs (disch := omega) [List.getElem?_cons_zero, List.getElem?_cons_succ, wrap_id, he]
    refine finW (Wk_nilB 2 0 1 3 rfl rfl) (finW (Wk_nilB 2 1 1 3 rfl rfl) ?_)
    refine fin0 trivial rfl ?_
    simp [hi, hE]
    exact ⟨rfl, rfl⟩
  simp -implicitDefEqProofs (disch := omega) [List.getElem?_cons_zero, List.getElem?_cons_succ, wrap_id, he]
  refine HC_of_PC rfl (rvertex_ok h.1 w h.2) ?_
  cases hv : vtx h.1 w
  · have hE : constE g h w = 2 := by rw [constE, if_neg (by simp [he]), if_pos hv]
    have hi : constM g h w = mo0 := if_neg (by rw [hE]; decide)
    simp -implicitDefEqProofs (disch := omega) [List.getElem?_cons_zero, List.getElem?_cons_succ, wrap_id]
    refine finW (Wk_nilB 2 0 1 3 rfl rfl) (finW (Wk_nilB 2 1 1 3 rfl rfl) ?_)
    refine fin0 trivial rfl ?_
    simp [hi, hE]
    exact ⟨rfl, rfl⟩
  have hE : constE g h w = 0 := by rw [constE, if_neg (by simp [he]), if_neg (by simp [hv])]
  obtain ⟨e1, e2⟩ := errs_two he
  obtain ⟨hg, a2, a3⟩ := graph_good e1
  have h1 := hg.n1
  have h12 := hg.n12
  have h9 := endsL_len9 hg.right hel
  obtain ⟨n, hn⟩ : ∃ n : Nat, g.1 = n := ⟨g.1.toNat, by omega⟩
  have hu : constM g h w = ⟨repL n w, repL (endsL g.2).length (-1)⟩ := by rw [constM, if_pos hE, hn]; rfl
  rw [hu]
  simp -implicitDefEqProofs (disch := omega) [List.getElem?_cons_zero, List.getElem?_cons_succ, wrap_id]
  refine loopW n (fun k s => s = ⟨[(10, .i k), (2, .i w), (3, .ptr 0 1 0 0), (9, .ptr 2 1 0 0), (6, .ptr 1 1 0 0)], [.box (.p (GrP g)), .box (.p (.agg [.nil, .nil])), .box (.agg [.os 3 0 (repL k w).length, .os 4 0 0]), .row ((repL k w).map PV.i) 1 3 false, .row [] 1 3 false]⟩)
    ((wk_norm [0, 2, 3] [10, 2, 3, 9, 6] rfl rfl).trans ((Wk_nilB 2 0 1 3 rfl rfl).trans (Wk_nilB 2 1 1 3 rfl rfl))) rfl ?_
  rintro k s hk rfl
  have hkl := repL_length k w
  by_cases hlt : k < n
  · have h2 : (k : Int) < g.1 := by omega
    have hs := repL_succ k w
    have hbd : (repL k w).length ≤ 1048575 := by omega
    simp -implicitDefEqProofs (disch := omega) [List.getElem?_cons_zero, List.getElem?_cons_succ, wrap_id, h2, hbd]
    exact round_end [0, 1, 2, 3, 4] [10, 2, 3, 9, 6] hlt rfl (by rw [hs, List.length_append, List.map_append]; rfl)
  have hkn : k = n := by omega
  subst hkn
  have h2 : ¬ (k : Int) < g.1 := by omega
  simp -implicitDefEqProofs (disch := omega) [List.getElem?_cons_zero, List.getElem?_cons_succ, wrap_id, h2]
  refine loopW (endsL g.2).length (fun j s => s = ⟨[(11, .i j), (3, .ptr 0 1 0 0), (9, .ptr 2 1 0 0), (6, .ptr 1 1 0 0)], [.box (.p (GrP g)), .box (.p (.agg [.nil, .nil])), .box (.agg [.os 3 0 (repL k w).length, .os 4 0 (repL j (-1)).length]), .row ((repL k w).map PV.i) 1 3 false, .row ((repL j (-1)).map PV.i) 1 3 false]⟩)
    (wk_norm [0, 1, 2, 3, 4] [11, 3, 9, 6] rfl rfl) rfl ?_
  rintro j s hj rfl
  have hjl := repL_length j (-1)
  by_cases hlt : j < (endsL g.2).length
  · have hs := repL_succ j (-1)
    have hbd : (repL j (-1)).length ≤ 1048575 := by omega
    simp -implicitDefEqProofs (disch := omega) [List.getElem?_cons_zero, List.getElem?_cons_succ, wrap_id]
    refine HC_of_PC rfl (size_ok g.1 g.2 hg.right (by omega)) ?_
    simp -implicitDefEqProofs (disch := omega) [List.getElem?_cons_zero, List.getElem?_cons_succ, wrap_id, hlt, hbd]
    exact round_end [0, 1, 2, 3, 4] [11, 3, 9, 6] hlt rfl (by rw [hs, List.length_append, List.map_append]; rfl)
  have hjn : j = (endsL g.2).length := by omega
  subst hjn
  simp -implicitDefEqProofs (disch := omega) [List.getElem?_cons_zero, List.getElem?_cons_succ, wrap_id]
  refine HC_of_PC rfl (size_ok g.1 g.2 hg.right (by omega)) ?_
  simp -implicitDefEqProofs (disch := omega) [List.getElem?_cons_zero, List.getElem?_cons_succ, wrap_id]
  refine fin0 trivial rfl ?_
  simp [hE]
  exact ⟨rfl, rfl⟩
theorem sameA_refl (m : Mo) : sameM m m = true := by simp [sameM]
theorem PC_le {P : Program} {f : FuncId} {args args' : List PV} {r : AV} {HR : List AO} (h : PC P f args r HR) (hle : ∀ S w vs, RPs S w args' vs → RPs S w args vs) : PC P f args' r HR := fun w S vs hvs => h w S vs (hle _ _ _ hvs)
theorem RP_nil {S : Nat → Prop} {w : World} {v : Value} (h : RP S w .nil v) : RP S w (.is []) v := by
  cases h
  exact .sl [] none 0 0 (fun _ _ => undef) (by simp) (by simp) (fun i h => by simp at h) (.inl rfl) (fun i h => by simp at h)
theorem RP_mo0 {S : Nat → Prop} {w : World} {v : Value} (h : RP S w (.agg [.nil, .nil]) v) : RP S w (MoP mo0) v := by
  cases h with
  | agg l cs hl ho hr =>
    refine .agg _ _ hl (fun e he => by simp at he; subst he; rfl) fun i hi hi' => ?_
    have h0 := hr 0 (by decide) (by simp at hl; omega)
    have h1 := hr 1 (by decide) (by simp at hl; omega)
    match i, hi, hi' with
    | 0, _, _ => exact RP_nil h0
    | 1, _, _ => exact RP_nil h1
theorem lfew0_ok (g h : Gr) : PC Try.prog 11 [EnP g h, .agg [.nil, .nil]] (.b (fewM g h mo0)) [] := by
  refine PC_le (lfew_ok g h mo0) fun S w vs hv => ⟨hv.1, fun i hi hi' => ?_⟩
  match i, hi, hi' with
  | 0, _, hi' => exact hv.2 0 (Nat.zero_lt_succ _) hi'
  | 1, _, hi' => exact RP_mo0 (hv.2 1 (Nat.succ_lt_succ (Nat.zero_lt_succ _)) hi')
theorem idM_len (g : Gr) (hel : g.2.length ≤ 900) : (idM g).v.length ≤ 4611686018427387904 ∧ (idM g).e.length ≤ 4611686018427387904 := by
  unfold idM
  split
  · rename_i hc
    obtain ⟨hg, a2, a3⟩ := graph_good hc
    have h12 := hg.n12
    have h9 := endsL_len9 hg.right hel
    simp only [unitM, idL_length]
    omega
  · simp
theorem constM_len (g h : Gr) (w : Int) (hel : g.2.length ≤ 900) : (constM g h w).v.length ≤ 4611686018427387904 ∧ (constM g h w).e.length ≤ 4611686018427387904 := by
  unfold constM
  split
  · rename_i hc
    have he : errsE [g, h] = 0 := by
      unfold constE at hc
      split at hc
      · rename_i h1; exact absurd hc h1
      · rename_i h1; exact Decidable.not_not.1 h1
    obtain ⟨hg, a2, a3⟩ := graph_good (errs_two he).1
    have h12 := hg.n12
    have h9 := endsL_len9 hg.right hel
    simp only [repL_length]
    omega
  · simp
set_option maxRecDepth 10000 in
theorem makes_law (g h : Gr) (w : Int) : PC Try.prog 9 [EnP g h, .i w] (.b true) [] := by
  refine PC_of_W cfn9 ?_
  simp -implicitDefEqProofs (disch := omega) [c9, List.getElem?_cons_zero, List.getElem?_cons_succ, wrap_id]
  refine HC_of_PC rfl (lfew0_ok g h) ?_
  cases hf : fewM g h mo0
  · simp -implicitDefEqProofs (disch := omega) [List.getElem?_cons_zero, List.getElem?_cons_succ, wrap_id]
    refine HC_of_PC rfl (awake_ok) ?_
    simp -implicitDefEqProofs (disch := omega) [List.getElem?_cons_zero, List.getElem?_cons_succ, wrap_id]
    (refine fin0 trivial rfl ?_; simp -implicitDefEqProofs (disch := omega) [List.getElem?_cons_zero, List.getElem?_cons_succ, idx, wrap_id])
  have hs := few_sm hf
  simp -implicitDefEqProofs (disch := omega) [List.getElem?_cons_zero, List.getElem?_cons_succ, wrap_id]
  refine HC_of_PC rfl (identity_ok g hs.g) ?_
  simp -implicitDefEqProofs (disch := omega) [List.getElem?_cons_zero, List.getElem?_cons_succ, wrap_id]
  refine HC_of_PC rfl (ridentity_ok g hs.g) ?_
  simp -implicitDefEqProofs (disch := omega) [List.getElem?_cons_zero, List.getElem?_cons_succ, wrap_id]
  refine HC_of_PC rfl (constant_ok g h w hs.g hs.h) ?_
  simp -implicitDefEqProofs (disch := omega) [List.getElem?_cons_zero, List.getElem?_cons_succ, wrap_id]
  refine HC_of_PC rfl (rconstant_ok g h w hs.g hs.h) ?_
  simp -implicitDefEqProofs (disch := omega) [List.getElem?_cons_zero, List.getElem?_cons_succ, wrap_id]
  refine HC_of_PC rfl (awake_ok) ?_
  simp -implicitDefEqProofs (disch := omega) [List.getElem?_cons_zero, List.getElem?_cons_succ, wrap_id]
  have hb : ∀ m : Mo, sameM m m = true := sameA_refl
  refine HC_of_PC rfl (rsame_ok (idM g) (idM g) (idM_len g hs.g).1 (idM_len g hs.g).2) ?_
  simp -implicitDefEqProofs (disch := omega) [List.getElem?_cons_zero, List.getElem?_cons_succ, wrap_id, hb]
  refine HC_of_PC rfl (rsame_ok (constM g h w) (constM g h w) (constM_len g h w hs.g).1 (constM_len g h w hs.g).2) ?_
  simp -implicitDefEqProofs (disch := omega) [List.getElem?_cons_zero, List.getElem?_cons_succ, wrap_id, hb]
  (refine fin0 trivial rfl ?_; simp -implicitDefEqProofs (disch := omega) [List.getElem?_cons_zero, List.getElem?_cons_succ, idx, wrap_id])
end Go.Proofs.Ytheffllmccomiaa
