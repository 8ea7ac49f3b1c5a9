/-
  Texts joined: Ia Iv.
-/
import Derived.Test.YtekniokkmgencaaGreatKh16

section
set_option linter.unusedSimpArgs false
set_option linter.unusedVariables false
namespace Go.Proofs.YtekniokkmgencaaGreat
open Go.Abs Go.Sand
abbrev Rl := Nat × List Nat
abbrev outP (w : Nat) : PV := .agg [.i w, .i 0]
abbrev ruleP (r : Rl) : PV := .agg [.i r.1, .sl (r.2.map outP)]
abbrev rrowP (r : Rl) : PV := .sl [ruleP r]
abbrev procP (R : List Rl) : PV := .agg [.i R.length, .i 1, .sl (R.map rrowP)]
abbrev wtP (k : Int) : PV := .is [k]
structure Net where
  rules : List (List Rl)
  st : List Nat
  wt : List Int
abbrev stP (l : List Nat) : PV := .sl (l.map fun (k : Nat) => PV.i (k : Int))
abbrev netP (x : Net) : PV := .agg [.sl (x.rules.map procP), stP x.st, .sl (x.wt.map wtP)]
def GoodRl (n s : Nat) (r : Rl) : Prop := r.1 < s ∧ r.2.length ≤ 16 ∧ ∀ w ∈ r.2, w < n
def GoodPr (n : Nat) (R : List Rl) : Prop := 1 ≤ R.length ∧ R.length ≤ 16 ∧ ∀ r ∈ R, GoodRl n R.length r
structure GoodNet (x : Net) : Prop where
  n1 : 1 ≤ x.rules.length
  n12 : x.rules.length ≤ 12
  pr : ∀ R ∈ x.rules, GoodPr x.rules.length R
  sl : x.st.length = x.rules.length
  st : ∀ p (h : p < x.rules.length) (h2 : p < x.st.length), x.st[p] < (x.rules[p]).length
  wl : x.wt.length = x.rules.length
  wt : ∀ k ∈ x.wt, 0 ≤ k ∧ k ≤ 1048576
theorem below_ok (a b : Int) : PC Tryz.prog 107 [.i a, .i b] (.b (decide (0 ≤ a ∧ a < b))) [] := by
  refine PC_of_W cfn107 ?_
  simp -implicitDefEqProofs (disch := omega) [c107, List.getElem?_cons_zero, List.getElem?_cons_succ, wrap_id]
  by_cases h : 0 ≤ a
  · simp -implicitDefEqProofs (disch := omega) [List.getElem?_cons_zero, List.getElem?_cons_succ, wrap_id, h]
    (refine fin0 trivial rfl ?_; simp -implicitDefEqProofs (disch := omega) [List.getElem?_cons_zero, List.getElem?_cons_succ, idx, wrap_id, h])
  · simp -implicitDefEqProofs (disch := omega) [List.getElem?_cons_zero, List.getElem?_cons_succ, wrap_id, h]
    (refine fin0 trivial rfl ?_; simp -implicitDefEqProofs (disch := omega) [List.getElem?_cons_zero, List.getElem?_cons_succ, idx, wrap_id, h])
theorem sent_ok (n : Nat) (l : List Nat) (hl : l.length ≤ 16) (h : ∀ w ∈ l, w < n) : PC Tryz.prog 108 [.sl (l.map outP), .i n] (.i 0) [] := by
  refine PC_of_W cfn108 ?_
  simp -implicitDefEqProofs (disch := omega) [c108, List.getElem?_cons_zero, List.getElem?_cons_succ, wrap_id]
  refine loopW l.length (fun k s => s = ⟨[(9, .i k), (8, .i l.length), (7, .p (.sl (l.map outP))), (1, .i n)], []⟩) (wk_norm [] [9, 8, 7, 1] rfl rfl) rfl ?_
  rintro k s hk rfl
  by_cases hlt : k < l.length
  · have hw := h _ (List.getElem_mem hlt)
    simp -implicitDefEqProofs (disch := omega) [List.getElem?_cons_zero, List.getElem?_cons_succ, wrap_id, hlt]
    refine HC_of_PC rfl (below_ok l[k] n) ?_
    simp -implicitDefEqProofs (disch := omega) [List.getElem?_cons_zero, List.getElem?_cons_succ, wrap_id, hw]
    refine HC_of_PC rfl (below_ok 0 8) ?_
    simp -implicitDefEqProofs (disch := omega) [List.getElem?_cons_zero, List.getElem?_cons_succ, wrap_id]
    exact round_end [] [9, 8, 7, 1] hlt rfl rfl
  · simp -implicitDefEqProofs (disch := omega) [List.getElem?_cons_zero, List.getElem?_cons_succ, wrap_id, hlt]
    (refine fin0 trivial rfl ?_; simp -implicitDefEqProofs (disch := omega) [List.getElem?_cons_zero, List.getElem?_cons_succ, idx, wrap_id])
theorem rule_ok (n s : Nat) (r : Rl) (h : GoodRl n s r) : PC Tryz.prog 99 [ruleP r, .i s, .i n] (.i 0) [] := by
  obtain ⟨h2, h3, h4⟩ := h
  have h5 : ¬ (16 : Int) < r.2.length := by omega
  refine PC_of_W cfn99 ?_
  simp -implicitDefEqProofs (disch := omega) [c99, List.getElem?_cons_zero, List.getElem?_cons_succ, wrap_id]
  refine HC_of_PC rfl (below_ok r.1 s) ?_
  simp -implicitDefEqProofs (disch := omega) [List.getElem?_cons_zero, List.getElem?_cons_succ, wrap_id, h2, h5]
  refine HC_of_PC rfl (sent_ok n r.2 h3 h4) ?_
  simp -implicitDefEqProofs (disch := omega) [List.getElem?_cons_zero, List.getElem?_cons_succ, wrap_id]
  (refine fin0 trivial rfl ?_; simp -implicitDefEqProofs (disch := omega) [List.getElem?_cons_zero, List.getElem?_cons_succ, idx, wrap_id])
theorem pcheck_ok (n : Nat) (R : List Rl) (hn1 : 1 ≤ n) (hn : n ≤ 12) (h : GoodPr n R) : PC Tryz.prog 72 [procP R, .i n] (.i 0) [] := by
  obtain ⟨h1, h2, h3⟩ := h
  have a1 : ¬ (n : Int) < 1 := by omega
  have a2 : ¬ (12 : Int) < n := by omega
  have a3 : ¬ (R.length : Int) < 1 := by omega
  have a4 : ¬ (16 : Int) < R.length := by omega
  refine PC_of_W cfn72 ?_
  simp -implicitDefEqProofs (disch := omega) [c72, List.getElem?_cons_zero, List.getElem?_cons_succ, wrap_id, a1, a2, a3, a4]
  refine loopW R.length (fun k s => s = ⟨[(46, .i k), (45, .i R.length), (44, .p (.sl (R.map rrowP))), (2, .ptr 0 1 0 0), (1, .i n)], [.box (.p (procP R))]⟩) (wk_norm [0] [46, 45, 44, 2, 1] rfl rfl) rfl ?_
  rintro k s hk rfl
  by_cases hlt : k < R.length
  · have hr := h3 _ (List.getElem_mem hlt)
    simp -implicitDefEqProofs (disch := omega) [List.getElem?_cons_zero, List.getElem?_cons_succ, wrap_id, hlt]
    refine loopW 1 (fun j s => s = ⟨[(57, .i j), (56, .i 1), (55, .p (rrowP R[k])), (46, .i k), (45, .i R.length), (44, .p (.sl (R.map rrowP))), (2, .ptr 0 1 0 0), (1, .i n)], [.box (.p (procP R))]⟩) (wk_norm [0] [57, 56, 55, 46, 45, 44, 2, 1] rfl rfl) rfl ?_
    rintro j s hj rfl
    by_cases hlj : j < 1
    · obtain rfl : j = 0 := by omega
      simp -implicitDefEqProofs (disch := omega) [List.getElem?_cons_zero, List.getElem?_cons_succ, wrap_id]
      refine HC_of_PC rfl (rule_ok n R.length R[k] hr) ?_
      simp -implicitDefEqProofs (disch := omega) [List.getElem?_cons_zero, List.getElem?_cons_succ, wrap_id]
      exact round_end [0] [57, 56, 55, 46, 45, 44, 2, 1] hlj rfl rfl
    · obtain rfl : j = 1 := by omega
      simp -implicitDefEqProofs (disch := omega) [List.getElem?_cons_zero, List.getElem?_cons_succ, wrap_id]
      exact round_end [0] [46, 45, 44, 2, 1] hlt rfl rfl
  · simp -implicitDefEqProofs (disch := omega) [List.getElem?_cons_zero, List.getElem?_cons_succ, wrap_id, hlt]
    (refine fin0 trivial rfl ?_; simp -implicitDefEqProofs (disch := omega) [List.getElem?_cons_zero, List.getElem?_cons_succ, idx, wrap_id])
theorem understood_ok (x : Net) (n : Nat) (hn : x.rules.length = n) (hn12 : n ≤ 12) (R : List Rl) (h : GoodPr n R) : PC Tryz.prog 73 [netP x, procP R] (.b true) [] := by
  obtain ⟨h1, h2, h3⟩ := h
  refine PC_of_W cfn73 ?_
  simp -implicitDefEqProofs (disch := omega) [c73, List.getElem?_cons_zero, List.getElem?_cons_succ, wrap_id]
  refine loopW R.length (fun k s => s = ⟨[(14, .i k), (13, .i R.length), (12, .p (.sl (R.map rrowP))), (2, .ptr 0 1 0 0)], [.box (.p (netP x))]⟩) (wk_norm [0] [14, 13, 12, 2] rfl rfl) rfl ?_
  rintro k s hk rfl
  by_cases hlt : k < R.length
  · obtain ⟨g1, g2, g3⟩ := h3 _ (List.getElem_mem hlt)
    simp -implicitDefEqProofs (disch := omega) [List.getElem?_cons_zero, List.getElem?_cons_succ, wrap_id, hlt]
    refine loopW 1 (fun j s => s = ⟨[(20, .i j), (19, .i 1), (18, .p (rrowP R[k])), (14, .i k), (13, .i R.length), (12, .p (.sl (R.map rrowP))), (2, .ptr 0 1 0 0)], [.box (.p (netP x))]⟩) (wk_norm [0] [20, 19, 18, 14, 13, 12, 2] rfl rfl) rfl ?_
    rintro j s hj rfl
    by_cases hlj : j < 1
    · obtain rfl : j = 0 := by omega
      simp -implicitDefEqProofs (disch := omega) [List.getElem?_cons_zero, List.getElem?_cons_succ, wrap_id]
      refine loopW R[k].2.length (fun i s => s = ⟨[(27, .i i), (26, .i R[k].2.length), (25, .p (.sl (R[k].2.map outP))), (20, .i 0), (19, .i 1), (18, .p (rrowP R[k])), (14, .i k), (13, .i R.length), (12, .p (.sl (R.map rrowP))), (2, .ptr 0 1 0 0)], [.box (.p (netP x))]⟩) (wk_norm [0] [27, 26, 25, 20, 19, 18, 14, 13, 12, 2] rfl rfl) rfl ?_
      rintro i s hi rfl
      by_cases hli : i < R[k].2.length
      · have hw : R[k].2[i] < x.rules.length := by rw [hn]; exact g3 _ (List.getElem_mem hli)
        simp -implicitDefEqProofs (disch := omega) [List.getElem?_cons_zero, List.getElem?_cons_succ, wrap_id, hli, hw]
        exact round_end [0] [27, 26, 25, 20, 19, 18, 14, 13, 12, 2] hli rfl rfl
      · simp -implicitDefEqProofs (disch := omega) [List.getElem?_cons_zero, List.getElem?_cons_succ, wrap_id, hli]
        exact round_end [0] [20, 19, 18, 14, 13, 12, 2] hlj rfl rfl
    · obtain rfl : j = 1 := by omega
      simp -implicitDefEqProofs (disch := omega) [List.getElem?_cons_zero, List.getElem?_cons_succ, wrap_id]
      exact round_end [0] [14, 13, 12, 2] hlt rfl rfl
  · simp -implicitDefEqProofs (disch := omega) [List.getElem?_cons_zero, List.getElem?_cons_succ, wrap_id, hlt]
    (refine fin0 trivial rfl ?_; simp -implicitDefEqProofs (disch := omega) [List.getElem?_cons_zero, List.getElem?_cons_succ, idx, wrap_id])
theorem shaped_ok (x : Net) (h1 : x.wt.length = x.rules.length) (hn12 : x.rules.length ≤ 12) : PC Tryz.prog 74 [netP x, .sl (x.wt.map wtP)] (.i 0) [] := by
  refine PC_of_W cfn74 ?_
  simp -implicitDefEqProofs (disch := omega) [c74, List.getElem?_cons_zero, List.getElem?_cons_succ, wrap_id, h1]
  refine loopW x.wt.length (fun k s => s = ⟨[(15, .i k), (14, .i x.wt.length), (13, .p (.sl (x.wt.map wtP))), (2, .ptr 0 1 0 0)], [.box (.p (netP x))]⟩) (wk_norm [0] [15, 14, 13, 2] rfl rfl) (by rw [h1]; rfl) ?_
  rintro k s hk rfl
  by_cases hlt : k < x.wt.length
  · have hlr : k < x.rules.length := by omega
    simp -implicitDefEqProofs (disch := omega) [List.getElem?_cons_zero, List.getElem?_cons_succ, wrap_id, hlt, hlr]
    exact round_end [0] [15, 14, 13, 2] hlt rfl rfl
  · simp -implicitDefEqProofs (disch := omega) [List.getElem?_cons_zero, List.getElem?_cons_succ, wrap_id, hlt]
    (refine fin0 trivial rfl ?_; simp -implicitDefEqProofs (disch := omega) [List.getElem?_cons_zero, List.getElem?_cons_succ, idx, wrap_id])
theorem ncheck_ok (x : Net) (h : GoodNet x) : PC Tryz.prog 41 [netP x] (.i 0) [] := by
  obtain ⟨h1, h2, h3, h4, h5, h6, h7⟩ := h
  have a1 : ¬ (x.rules.length : Int) < 1 := by omega
  have a2 : ¬ (12 : Int) < x.rules.length := by omega
  refine PC_of_W cfn41 ?_
  simp -implicitDefEqProofs (disch := omega) [c41, List.getElem?_cons_zero, List.getElem?_cons_succ, wrap_id, a1, a2]
  refine loopW x.rules.length (fun k s => s = ⟨[(28, .i k), (27, .i x.rules.length), (26, .p (.sl (x.rules.map procP))), (3, .i x.rules.length), (1, .ptr 0 1 0 0)], [.box (.p (netP x))]⟩) (wk_norm [0] [28, 27, 26, 3, 1] rfl rfl) rfl ?_
  rintro k s hk rfl
  by_cases hlt : k < x.rules.length
  · have hr := h3 _ (List.getElem_mem hlt)
    simp -implicitDefEqProofs (disch := omega) [List.getElem?_cons_zero, List.getElem?_cons_succ, wrap_id, hlt]
    refine HC_of_PC rfl (pcheck_ok x.rules.length x.rules[k] h1 h2 hr) ?_
    simp -implicitDefEqProofs (disch := omega) [List.getElem?_cons_zero, List.getElem?_cons_succ, wrap_id]
    exact round_end [0] [28, 27, 26, 3, 1] hlt rfl rfl
  obtain rfl : k = x.rules.length := by omega
  simp -implicitDefEqProofs (disch := omega) [List.getElem?_cons_zero, List.getElem?_cons_succ, wrap_id]
  refine loopW x.rules.length (fun k s => s = ⟨[(42, .i k), (41, .i x.rules.length), (40, .p (.sl (x.rules.map procP))), (3, .i x.rules.length), (1, .ptr 0 1 0 0)], [.box (.p (netP x))]⟩) (wk_norm [0] [42, 41, 40, 3, 1] rfl rfl) rfl ?_
  rintro k s hk rfl
  by_cases hlt : k < x.rules.length
  · have hr := h3 _ (List.getElem_mem hlt)
    simp -implicitDefEqProofs (disch := omega) [List.getElem?_cons_zero, List.getElem?_cons_succ, wrap_id, hlt]
    refine HC_of_PC rfl (understood_ok x x.rules.length rfl h2 x.rules[k] hr) ?_
    simp -implicitDefEqProofs (disch := omega) [List.getElem?_cons_zero, List.getElem?_cons_succ, wrap_id]
    exact round_end [0] [42, 41, 40, 3, 1] hlt rfl rfl
  obtain rfl : k = x.rules.length := by omega
  simp -implicitDefEqProofs (disch := omega) [List.getElem?_cons_zero, List.getElem?_cons_succ, wrap_id, h4]
  refine loopW x.rules.length (fun k s => s = ⟨[(59, .i k), (58, .i x.rules.length), (57, .p (stP x.st)), (3, .i x.rules.length), (1, .ptr 0 1 0 0)], [.box (.p (netP x))]⟩) (wk_norm [0] [59, 58, 57, 3, 1] rfl rfl) rfl ?_
  rintro k s hk rfl
  by_cases hlt : k < x.rules.length
  · have hls : k < x.st.length := by omega
    have hr := h5 k hlt hls
    have b1 : ¬ (x.st[k] : Int) < 0 := by omega
    have b2 : ¬ ((x.rules[k]).length : Int) ≤ x.st[k] := by omega
    simp -implicitDefEqProofs (disch := omega) [List.getElem?_cons_zero, List.getElem?_cons_succ, wrap_id, hlt, hls, b1, b2]
    exact round_end [0] [59, 58, 57, 3, 1] hlt rfl rfl
  obtain rfl : k = x.rules.length := by omega
  simp -implicitDefEqProofs (disch := omega) [List.getElem?_cons_zero, List.getElem?_cons_succ, wrap_id]
  refine HC_of_PC rfl (shaped_ok x h6 h2) ?_
  simp -implicitDefEqProofs (disch := omega) [List.getElem?_cons_zero, List.getElem?_cons_succ, wrap_id]
  refine loopW x.wt.length (fun k s => s = ⟨[(87, .i k), (86, .i x.wt.length), (85, .p (.sl (x.wt.map wtP))), (1, .ptr 0 1 0 0)], [.box (.p (netP x))]⟩) (wk_norm [0] [87, 86, 85, 1] rfl rfl) rfl ?_
  rintro k s hk rfl
  by_cases hlt : k < x.wt.length
  · have hr := h7 _ (List.getElem_mem hlt)
    have b1 : ¬ x.wt[k] < 0 := by omega
    have b2 : ¬ 1048576 < x.wt[k] := by omega
    simp -implicitDefEqProofs (disch := omega) [List.getElem?_cons_zero, List.getElem?_cons_succ, wrap_id, hlt]
    refine loopW 1 (fun j s => s = ⟨[(93, .i j), (92, .i 1), (91, .p (wtP x.wt[k])), (87, .i k), (86, .i x.wt.length), (85, .p (.sl (x.wt.map wtP))), (1, .ptr 0 1 0 0)], [.box (.p (netP x))]⟩) (wk_norm [0] [93, 92, 91, 87, 86, 85, 1] rfl rfl) rfl ?_
    rintro j s hj rfl
    by_cases hlj : j < 1
    · obtain rfl : j = 0 := by omega
      simp -implicitDefEqProofs (disch := omega) [List.getElem?_cons_zero, List.getElem?_cons_succ, wrap_id, b1, b2]
      exact round_end [0] [93, 92, 91, 87, 86, 85, 1] hlj rfl rfl
    · obtain rfl : j = 1 := by omega
      simp -implicitDefEqProofs (disch := omega) [List.getElem?_cons_zero, List.getElem?_cons_succ, wrap_id]
      exact round_end [0] [87, 86, 85, 1] hlt rfl rfl
  · simp -implicitDefEqProofs (disch := omega) [List.getElem?_cons_zero, List.getElem?_cons_succ, wrap_id, hlt]
    (refine fin0 trivial rfl ?_; simp -implicitDefEqProofs (disch := omega) [List.getElem?_cons_zero, List.getElem?_cons_succ, idx, wrap_id])
end Go.Proofs.YtekniokkmgencaaGreat
end
section
set_option linter.unusedSimpArgs false
set_option linter.unusedVariables false
namespace Go.Proofs.YtekniokkmgencaaGreat
open Go.Abs Go.Sand
theorem bjoined_ok (a b : Int) : PC Tryz.prog 64 [.i a, .i b] (.p (pP (min a b, max a b))) [] := by
  refine PC_of_W cfn64 ?_
  simp -implicitDefEqProofs (disch := omega) [c64, List.getElem?_cons_zero, List.getElem?_cons_succ, wrap_id]
  (refine fin0 trivial rfl ?_; simp -implicitDefEqProofs (disch := omega) [List.getElem?_cons_zero, List.getElem?_cons_succ, idx, wrap_id])
theorem bcmp_ok (x : Ed) (a b : Int) : PC Tryz.prog 65 [edP x, pP (a, b)] (.i (cmpP x.a x.b a b)) [] := by
  refine PC_of_W cfn65 ?_
  simp -implicitDefEqProofs (disch := omega) [c65, List.getElem?_cons_zero, List.getElem?_cons_succ, wrap_id]
  refine HC_of_PC rfl (pcompare_ok x.a x.b a b) ?_
  simp -implicitDefEqProofs (disch := omega) [List.getElem?_cons_zero, List.getElem?_cons_succ, wrap_id]
  (refine fin0 trivial rfl ?_; simp -implicitDefEqProofs (disch := omega) [List.getElem?_cons_zero, List.getElem?_cons_succ, idx, wrap_id])
theorem call_bc : callable Tryz.prog 65 = true := by kernel_rfl
end Go.Proofs.YtekniokkmgencaaGreat
end
