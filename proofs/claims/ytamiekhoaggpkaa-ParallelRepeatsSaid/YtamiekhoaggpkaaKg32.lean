/-
  Texts joined: Gb Va.
-/
import Derived.Test.YtamiekhoaggpkaaKg31
import Derived.Test.YtamiekhoaggpkaaRows
section
namespace Go.Proofs.Ytamiekhoaggpkaa
open Go.Abs Go.Sand Go.ChangeShapes Go.WideShapes Go.ChangeAt Go.RowKit
theorem own : ownKnob Try.prog.godebug = none := by kernel_rfl
theorem laidOut : laidOutB Try.prog = true := by kernel_rfl
theorem cells_int : Try.prog.cellsOf 3 = 1 := by kernel_rfl
theorem cells_div : Try.prog.cellsOf 26 = 1 := by kernel_rfl
theorem cells_edges : Try.prog.cellsOf 22 = 1 := by kernel_rfl
theorem cells_edge : Try.prog.cellsOf 139 = 3 := by kernel_rfl
theorem cells_graph : Try.prog.cellsOf 24 = 2 := by kernel_rfl
theorem o_int : Opens Try.prog 3 PV.i := opens_int Try.underlying3 cells_int
theorem o_div : Opens Try.prog 26 PV.is := opens_slice o_int Try.underlying26 (by rw [cells_int]; decide) cells_div
theorem o_edge : Opens Try.prog 139 edP :=
  (opens_struct3 o_int o_int o_int Try.underlying139 rfl cells_int.symm (by rw [cells_int]) (by rw [cells_int, cells_edge])).to (fun p => ⟨p.1, p.2.1, p.2.2⟩) (fun e => (e.a, e.b, e.m)) (fun _ => rfl) (fun _ => rfl)
theorem o_edges : Opens Try.prog 22 (fun l : List Ed => PV.sl (l.map edP)) := opens_slice o_edge Try.underlying22 (by rw [cells_edge]; decide) cells_edges
theorem o_graph : Opens Try.prog 24 (fun p : Int × List Ed => G p.1 p.2) :=
  opens_struct2 o_int o_edges Try.underlying24 rfl cells_int.symm (by rw [cells_int, cells_edges, cells_graph])
/-- A contract that leaves true serves as the walk. -/
theorem walk_of {f : FuncId} {ps : List PV} {vs : List Value} {w : World} (h : PC Try.prog f ps (.b true) []) (hr : RPs (Here w) w ps vs) : Calls Try.prog f vs.toArray w fun e w' => e = .returned (.bool true) ∧ Below w.heap.size w w' := by
  refine (h w (fun _ => True) vs ⟨hr.1, fun i hi hi' => (hr.2 i hi hi').mono fun b hb => ⟨⟨hb, trivial⟩, rfl⟩⟩).mono ?_
  rintro e w' ⟨v, φ, rfl, -, hv, hb⟩
  refine ⟨?_, hb⟩
  have := hv.lit
  rw [this.1]
end Go.Proofs.Ytamiekhoaggpkaa
end
section
set_option linter.unusedSimpArgs false
set_option linter.unusedVariables false
namespace Go.Proofs.Ytamiekhoaggpkaa
open Go.Abs Go.Sand
set_option maxRecDepth 10000 in
theorem repeats_law (N : Int) (es : List Ed) (d : List Int) : PC Try.prog 6 [G N es, .is d] (.b true) [] := by
  refine PC_of_W cfn6 ?_
  simp -implicitDefEqProofs (disch := omega) [c6, List.getElem?_cons_zero, List.getElem?_cons_succ, wrap_id]
  refine HC_of_PC rfl (cl20_ok N es d) ?_
  cases hf : cl20 N es d
  · simp -implicitDefEqProofs (disch := omega) [List.getElem?_cons_zero, List.getElem?_cons_succ, wrap_id]
    refine HC_of_PC rfl (awake20_ok) ?_
    simp -implicitDefEqProofs (disch := omega) [List.getElem?_cons_zero, List.getElem?_cons_succ, wrap_id]
    (refine fin0 trivial rfl ?_; simp -implicitDefEqProofs (disch := omega) [List.getElem?_cons_zero, List.getElem?_cons_succ, idx, wrap_id])
  obtain ⟨hf1, h0, h60⟩ := cl20_at hf
  obtain ⟨he, hd⟩ := few20_len hf1
  obtain ⟨n, rfl, h⟩ := pc_ok h0
  have hn := h.g.n12
  have hn1 := h.g.n1
  have hdl := h.len
  simp -implicitDefEqProofs (disch := omega) [List.getElem?_cons_zero, List.getElem?_cons_succ, wrap_id]
  refine HC_of_PC rfl (play_ok20 n es d he hd) ?_
  rcases pld_or h h0 with hlim | ⟨B, P, F, E, hp⟩
  · rw [hlim]
    simp -implicitDefEqProofs (disch := omega) [List.getElem?_cons_zero, List.getElem?_cons_succ, wrap_id]
    refine HC_of_PC rfl (awake20_ok) ?_
    simp -implicitDefEqProofs (disch := omega) [List.getElem?_cons_zero, List.getElem?_cons_succ, wrap_id]
    (refine fin0 trivial rfl ?_; simp -implicitDefEqProofs (disch := omega) [List.getElem?_cons_zero, List.getElem?_cons_succ, idx, wrap_id])
  rw [hp.game]
  have hB := hp.b
  have hP := hp.p
  have hBP := hp.bp
  have hB1 : ¬ (B : Int) < 0 := by omega
  have hP1 : ¬ (P : Int) < 1 := by omega
  have hBP1 : ¬ (4096 : Int) < (B : Int) + P := by omega
  have hn2 : ¬ (n : Int) < 0 := by omega
  simp -implicitDefEqProofs (disch := omega) [List.getElem?_cons_zero, List.getElem?_cons_succ, wrap_id, hB1, hP1, hBP1, hn2]
  have hnm : n ≤ 1048576 := by omega
  simp -implicitDefEqProofs (disch := omega) [List.getElem?_cons_zero, List.getElem?_cons_succ, wrap_id, hnm]
  obtain ⟨D, hD⟩ : ∃ D, D = rdC n es (-1) d B := ⟨_, rfl⟩
  have hDl : D.length = n := by rw [hD]; exact rdC_len hdl B
  obtain ⟨T, hT⟩ : ∃ T : Nat → List Int, T = fun i => rdS n es (-1) D (i - B) := ⟨_, rfl⟩
  have hT0 : ∀ i, i ≤ B → T i = List.replicate n 0 := fun i hi => by rw [hT]; show rdS n es (-1) D (i - B) = _; rw [show i - B = 0 by omega]; rfl
  have hTl : ∀ i, (T i).length = n := fun i => by rw [hT]; exact rdS_len _
  have hadd : ∀ j, rdC n es (-1) D j = rdC n es (-1) d (B + j) := fun j => by rw [hD]; exact rdC_add h.g hdl B j
  have hTs : ∀ i, B ≤ i → T (i + 1) = incL (T i) (rdyL n es (-1) (rdC n es (-1) d i)) := fun i hi => by
    have e : i + 1 - B = (i - B) + 1 := by omega
    rw [hT]
    show rdS n es (-1) D (i + 1 - B) = incL (rdS n es (-1) D (i - B)) _
    have e2 := hadd (i - B)
    rw [show B + (i - B) = i by omega] at e2
    rw [e, ← e2]; rfl
  have hTu : ∀ i, B ≤ i → sumI (T (i + 1)) = sumI (T i) + (rdyL n es (-1) (rdC n es (-1) d i)).length := fun i hi => by
    have e : i + 1 - B = (i - B) + 1 := by omega
    rw [hT]
    show sumI (rdS n es (-1) D (i + 1 - B)) = sumI (rdS n es (-1) D (i - B)) + _
    have e2 := hadd (i - B)
    rw [show B + (i - B) = i by omega] at e2
    rw [e, ← e2, rdS_sum]
  have hTb : ∀ i, i ≤ 4096 → ∀ v, 0 ≤ (T i).getD v 0 ∧ (T i).getD v 0 ≤ 49152 := fun i hi v => by
    have := rdS_bd (n := n) (by omega) (es := es) (q := -1) (d := D) v (i - B)
    rw [hT]
    show 0 ≤ (rdS n es (-1) D (i - B)).getD v 0 ∧ (rdS n es (-1) D (i - B)).getD v 0 ≤ 49152
    omega
  have hTq : ∀ i, i ≤ 4096 → 0 ≤ sumI (T i) ∧ sumI (T i) ≤ 49152 := fun i hi => by
    have := rdS_sum12 (n := n) (by omega) (es := es) (q := -1) (d := D) (i - B)
    rw [hT]
    show 0 ≤ sumI (rdS n es (-1) D (i - B)) ∧ sumI (rdS n es (-1) D (i - B)) ≤ 49152
    omega
  have hTe : ∀ v, v < n → (T (B + P)).getD v 0 = (T (B + P)).getD 0 0 := fun v hv => by
    have h1 := lap_const h.g h.parts hDl (-1) (a := 0) (b := P) (by rw [rdC_zero h.g hDl, hadd, hD]; exact hp.rep) v hv
    rw [rdS, zeros_get, zeros_get] at h1
    rw [hT]
    show (rdS n es (-1) D (B + P - B)).getD v 0 = (rdS n es (-1) D (B + P - B)).getD 0 0
    rw [Nat.add_sub_cancel_left]
    omega
  have hTf : sumI (T (B + P)) = F := by
    have h1 := rdS_addsum h.g hdl (q := -1) (es := es) B P
    rw [← hD] at h1
    rw [hT]
    show sumI (rdS n es (-1) D (B + P - B)) = F
    rw [Nat.add_sub_cancel_left, hp.fired]
    omega
  obtain ⟨X, hX⟩ : ∃ X : Nat → PV, X = fun i => if i ≤ B then .v (.slice none 0 0) else .is D := ⟨_, rfl⟩
  have hX0 : ∀ i, i ≤ B → X i = .v (.slice none 0 0) := fun i hi => by rw [hX]; exact if_pos hi
  have hX1 : ∀ i, ¬ i ≤ B → X i = .is D := fun i hi => by rw [hX]; exact if_neg hi
  have h0 : (St.mk [(62, AV.i 0), (61, .i ((B : Int) + P)), (7, .os 2 0 n), (9, .i 0), (8, .p (.v (.slice none 0 0))), (1, .p (.is d)), (2, .ptr 0 1 0 0), (5, .ptr 1 1 0 0)] [.box (.p (G n es)), .box (.p (.agg [.i B, .i P, .i F, .b E])), .row (List.replicate n (PV.v (Value.int .i64 0))) 1 3 false])
      = St.mk [(62, AV.i (0 : Nat)), (61, .i ((B : Int) + P)), (7, .os 2 0 n), (9, .i (sumI (T 0))), (8, .p (X 0)), (1, .p (.is (rdC n es (-1) d 0))), (2, .ptr 0 1 0 0), (5, .ptr 1 1 0 0)] [.box (.p (G n es)), .box (.p (.agg [.i B, .i P, .i F, .b E])), rowI (T 0)] := by
    rw [rdC_zero h.g hdl, hT0 0 (by omega), sumI_zeros, hX0 0 (by omega), rowI, List.map_replicate]; rfl
  refine loopW (B + P) (fun i st => st = ⟨[(62, AV.i i), (61, .i ((B : Int) + P)), (7, .os 2 0 n), (9, .i (sumI (T i))), (8, .p (X i)), (1, .p (.is (rdC n es (-1) d i))), (2, .ptr 0 1 0 0), (5, .ptr 1 1 0 0)], [.box (.p (G n es)), .box (.p (.agg [.i B, .i P, .i F, .b E])), rowI (T i)]⟩)
    (wk_norm [0, 1, 2] [62, 61, 7, 9, 8, 1, 2, 5] rfl rfl) h0 ?_
  rintro i st hi rfl
  by_cases hlt : i < B + P
  rotate_left
  · have hiE : i = B + P := by omega
    subst hiE
    rw [hTf]
    obtain ⟨S, hS⟩ : ∃ S, S = T (B + P) := ⟨_, rfl⟩
    have hSl : S.length = n := by rw [hS]; exact hTl _
    rw [← hS] at hTe ⊢
    simp -implicitDefEqProofs (disch := omega) [List.getElem?_cons_zero, List.getElem?_cons_succ, wrap_id, hSl]
    refine loopW n (fun v st => st = ⟨[(134, .i v), (133, .i n), (132, .os 2 0 n), (7, .os 2 0 n), (9, .i F), (5, .ptr 1 1 0 0)], [.box (.p (G n es)), .box (.p (.agg [.i B, .i P, .i F, .b E])), rowI S]⟩)
      (wk_norm [0, 1, 2] [134, 133, 132, 7, 9, 5] rfl rfl) rfl ?_
    rintro v st hv rfl
    by_cases hvt : v < n
    · have h1 := hTe v hvt
      have hvS : v < S.length := by omega
      have h0S : 0 < S.length := by omega
      rw [getD_get hvS, getD_get h0S] at h1
      simp -implicitDefEqProofs (disch := omega) [List.getElem?_cons_zero, List.getElem?_cons_succ, wrap_id, hvt, hSl, hvS, h0S, h1, (show 0 < n by omega)]
      exact round_end [0, 1, 2] [134, 133, 132, 7, 9, 5] hvt rfl rfl
    simp -implicitDefEqProofs (disch := omega) [List.getElem?_cons_zero, List.getElem?_cons_succ, wrap_id, hvt]
    refine HC_of_PC rfl (awake20_ok) ?_
    simp -implicitDefEqProofs (disch := omega) [List.getElem?_cons_zero, List.getElem?_cons_succ, wrap_id]
    (refine fin0 trivial rfl ?_; simp -implicitDefEqProofs (disch := omega) [List.getElem?_cons_zero, List.getElem?_cons_succ, idx, wrap_id])
  have hltI : (i : Int) < (B : Int) + P := by omega
  have lc0 := rdC_len (q := -1) (es := es) hdl i
  have lc1 := rdC_len (q := -1) (es := es) hdl (i + 1)
  have l12 := rdyL_12 h.g (q := -1) (rdC n es (-1) d i)
  have hlv := rdyL_lt (n := n) (es := es) (q := -1) (rdC n es (-1) d i)
  have hc := cl_closed h i
  have hpc := pc_mk (cl_ok h (i + 1))
  have hTs' := hTs i
  have hTu' := hTu i
  obtain ⟨l, hl⟩ : ∃ l, l = rdyL n es (-1) (rdC n es (-1) d i) := ⟨_, rfl⟩
  rw [← hl] at hc l12 hlv hTs' hTu'
  obtain ⟨Z, hZ⟩ : ∃ Z, Z = T i := ⟨_, rfl⟩
  have hZl : Z.length = n := by rw [hZ]; exact hTl i
  have hZb := hTb i (by omega)
  have hZq := hTq i (by omega)
  obtain ⟨z, hz⟩ : ∃ z, z = sumI (T i) := ⟨_, rfl⟩
  rw [← hz] at hZq hTu' ⊢
  rw [← hZ] at hTs' hZb ⊢
  by_cases hiB : i < B
  · have hne : ¬ (i : Int) = B := by omega
    have hge : ¬ (B : Int) ≤ i := by omega
    have eT : T (i + 1) = T i := by rw [hT0 i (by omega), hT0 (i + 1) (by omega)]
    have eX : X (i + 1) = X i := by rw [hX0 i (by omega), hX0 (i + 1) (by omega)]
    simp -implicitDefEqProofs (disch := omega) [List.getElem?_cons_zero, List.getElem?_cons_succ, wrap_id, hltI, hne]
    refine HC_of_PC rfl (closed_ok n es (rdC n es (-1) d i) he (by omega)) ?_
    simp -implicitDefEqProofs (disch := omega) [List.getElem?_cons_zero, List.getElem?_cons_succ, wrap_id, hc]
    refine HC_of_PC rfl (r20check_ok n es (rdC n es (-1) d (i + 1)) he (by omega)) ?_
    simp -implicitDefEqProofs (disch := omega) [List.getElem?_cons_zero, List.getElem?_cons_succ, wrap_id, hpc]
    refine loopW l.length (fun j st => st = ⟨[(87, .i j), (86, .i l.length), (85, .p (.is l)), (11, .p (.is (rdC n es (-1) d (i + 1)))), (10, .i i), (62, .i i), (61, .i ((B : Int) + P)), (7, .os 2 0 n), (9, .i z), (8, .p (X i)), (2, .ptr 0 1 0 0), (5, .ptr 1 1 0 0)], [.box (.p (G n es)), .box (.p (.agg [.i B, .i P, .i F, .b E])), rowI Z]⟩)
      (wk_norm [0, 1, 2] [87, 86, 85, 11, 10, 62, 61, 7, 9, 8, 2, 5] rfl rfl) rfl ?_
    rintro j st hj rfl
    by_cases hjl : j < l.length
    · obtain ⟨u, hu, hun⟩ := hlv l[j] (List.getElem_mem hjl)
      have hu0 : ¬ (u : Int) < 0 := by omega
      simp -implicitDefEqProofs (disch := omega) [List.getElem?_cons_zero, List.getElem?_cons_succ, wrap_id, hjl, hu, (show ¬ n ≤ u by omega), hun, hu0, hge]
      exact round_end [0, 1, 2] [87, 86, 85, 11, 10, 62, 61, 7, 9, 8, 2, 5] hjl rfl rfl
    simp -implicitDefEqProofs (disch := omega) [List.getElem?_cons_zero, List.getElem?_cons_succ, wrap_id, hjl, hge]
    exact round_end [0, 1, 2] [62, 61, 7, 9, 8, 1, 2, 5] hlt rfl (by show _ = _; rw [eT, eX, ← hz, ← hZ]; rfl)
  have hge : (B : Int) ≤ i := by omega
  have hXs : X (i + 1) = .is D := hX1 _ (by omega)
  have hTs1 := hTs' (by omega)
  have hTu1 := hTu' (by omega)
  by_cases hiE : i = B
  focus
    have hne : decide ((i : Int) = (B : Int)) = true := by simp; omega
    have hDi : rdC n es (-1) d i = D := by rw [hiE, hD]
    simp -implicitDefEqProofs (disch := omega) [List.getElem?_cons_zero, List.getElem?_cons_succ, wrap_id, hltI, hne]
    refine HC_of_PC rfl (closed_ok n es (rdC n es (-1) d i) he (by omega)) ?_
    simp -implicitDefEqProofs (disch := omega) [List.getElem?_cons_zero, List.getElem?_cons_succ, wrap_id, hc]
  rotate_left
  focus
    have hne : ¬ (i : Int) = B := by omega
    have hDi : X i = .is D := hX1 _ (by omega)
    simp -implicitDefEqProofs (disch := omega) [List.getElem?_cons_zero, List.getElem?_cons_succ, wrap_id, hltI, hne]
    refine HC_of_PC rfl (closed_ok n es (rdC n es (-1) d i) he (by omega)) ?_
    simp -implicitDefEqProofs (disch := omega) [List.getElem?_cons_zero, List.getElem?_cons_succ, wrap_id, hc]
  rotate_left
  all_goals
    rw [hDi]
    refine HC_of_PC rfl (r20check_ok n es (rdC n es (-1) d (i + 1)) he (by omega)) ?_
    simp -implicitDefEqProofs (disch := omega) [List.getElem?_cons_zero, List.getElem?_cons_succ, wrap_id, hpc]
    refine loopW l.length (fun j st => st = ⟨[(87, .i j), (86, .i l.length), (85, .p (.is l)), (11, .p (.is (rdC n es (-1) d (i + 1)))), (10, .i i), (62, .i i), (61, .i ((B : Int) + P)), (7, .os 2 0 n), (9, .i (z + j)), (8, .p (.is D)), (2, .ptr 0 1 0 0), (5, .ptr 1 1 0 0)], [.box (.p (G n es)), .box (.p (.agg [.i B, .i P, .i F, .b E])), rowI (incL Z (l.take j))]⟩)
      (wk_norm [0, 1, 2] [87, 86, 85, 11, 10, 62, 61, 7, 9, 8, 2, 5] rfl rfl) (by show _ = _; rw [show z + ((0 : Nat) : Int) = z by omega]; rfl) ?_
    rintro j st hj rfl
    by_cases hjl : j < l.length
    · obtain ⟨u, hu, hun⟩ := hlv l[j] (List.getElem_mem hjl)
      obtain ⟨S, hS⟩ : ∃ S, S = incL Z (l.take j) := ⟨_, rfl⟩
      have hSl : S.length = n := by rw [hS, incL_len, hZl]
      have huS : u < S.length := by omega
      have hSb : 0 ≤ S[u] ∧ S[u] ≤ 50000 := by
        have := incL_bd (l.take j) Z u
        have h2 := hZb u
        rw [← hS, getD_get huS] at this
        rw [List.length_take] at this
        omega
      have hnx : incL Z (l.take (j + 1)) = moreS S u 1 := by
        rw [List.take_add_one, List.getElem?_eq_getElem hjl, Option.toList_some, incL_snoc, hu, hS, Int.toNat_natCast]
      have hset : AO.row ((S.map PV.i).set u (PV.i (S[u] + 1))) 1 3 false = rowI (moreS S u 1) := by
        rw [moreS, getD_get huS, rowI, List.map_set]
      rw [← hS]
      have hu0 : ¬ (u : Int) < 0 := by omega
      simp -implicitDefEqProofs (disch := omega) [List.getElem?_cons_zero, List.getElem?_cons_succ, wrap_id, hjl, hu, (show ¬ n ≤ u by omega), hun, hu0, hge, hSl, huS, hset]
      exact round_end [0, 1, 2] [87, 86, 85, 11, 10, 62, 61, 7, 9, 8, 2, 5] hjl rfl (by rw [hnx, show z + ((j + 1 : Nat) : Int) = z + j + 1 by omega]; rfl)
    have hjE : j = l.length := by omega
    subst hjE
    rw [List.take_length, ← hTs1, ← hTu1]
    simp -implicitDefEqProofs (disch := omega) [List.getElem?_cons_zero, List.getElem?_cons_succ, wrap_id, hge]
    refine HC_of_PC rfl (same_ok (rdC n es (-1) d (i + 1)) D (by omega)) ?_
    by_cases hlast : i + 1 = B + P
    · have f1 : decide (rdC n es (-1) d (i + 1) = D) = true := by rw [hlast, hD, hp.rep]; simp
      have f2 : decide ((i : Int) = (B : Int) + P - 1) = true := by simp; omega
      simp -implicitDefEqProofs (disch := omega) [List.getElem?_cons_zero, List.getElem?_cons_succ, wrap_id, f1, f2]
      exact round_end [0, 1, 2] [62, 61, 7, 9, 8, 1, 2, 5] hlt rfl (by show _ = _; rw [hXs]; rfl)
    · have f1 : ¬ rdC n es (-1) d (i + 1) = D := fun e => hp.ne B (i + 1) (by omega) (by omega) (by rw [e, hD])
      have f2 : ¬ (i : Int) = (B : Int) + P - 1 := by omega
      simp -implicitDefEqProofs (disch := omega) [List.getElem?_cons_zero, List.getElem?_cons_succ, wrap_id, f1, f2]
      exact round_end [0, 1, 2] [62, 61, 7, 9, 8, 1, 2, 5] hlt rfl (by show _ = _; rw [hXs]; rfl)
end Go.Proofs.Ytamiekhoaggpkaa
end
