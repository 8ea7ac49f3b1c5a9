/-
  Contracts: the reference of chapter 51, 3; the law's small maps.
-/
import Derived.Test.YtheffllmccomiaaMkc
set_option linter.unusedSimpArgs false
set_option linter.unusedVariables false
namespace Go.Proofs.Ytheffllmccomiaa
open Go.Abs Go.Sand

theorem rabove_ok (g h : Gr) (m : Mo) (v e : Int) (hs : Sm g h m) : PC Try.prog 31 [GrP g, GrP h, MoP m, .i v, .i e] (.tup [.i (if aboveE g h m v e = 0 then cntK (endsL g.2) m.e v e m.e.length else 0), .i (aboveE g h m v e)]) [] := by
  have hsg := hs.g
  have hsh := hs.h
  refine PC_of_W cfn31 ?_
  simp -implicitDefEqProofs (disch := omega) [c31, List.getElem?_cons_zero, List.getElem?_cons_succ, wrap_id]
  refine HC_of_PC rfl (rcheck51_ok g h m hs) ?_
  by_cases hc : coverE g h m = 0
  rotate_left
  · have he : aboveE g h m v e = coverE g h m := by rw [aboveE, if_pos hc]
    simp -implicitDefEqProofs (disch := omega) [List.getElem?_cons_zero, List.getElem?_cons_succ, wrap_id, hc]
    (refine fin0 trivial rfl ?_; simp -implicitDefEqProofs (disch := omega) [List.getElem?_cons_zero, List.getElem?_cons_succ, idx, wrap_id, he, hc])
  obtain ⟨n, k, c⟩ := cov_of hc
  have hgn := c.gn
  have hvl := c.vl
  simp -implicitDefEqProofs (disch := omega) [List.getElem?_cons_zero, List.getElem?_cons_succ, wrap_id, hc]
  refine HC_of_PC rfl (rvertex_ok g.1 v g.2) ?_
  cases hv : vtx g.1 v
  · have he : aboveE g h m v e = 2 := by rw [aboveE, if_neg (by simp [hc]), if_pos (.inl hv)]
    simp -implicitDefEqProofs (disch := omega) [List.getElem?_cons_zero, List.getElem?_cons_succ, wrap_id]
    (refine fin0 trivial rfl ?_; simp -implicitDefEqProofs (disch := omega) [List.getElem?_cons_zero, List.getElem?_cons_succ, idx, wrap_id, he])
  have hvb := vtx_iff.1 hv
  by_cases h3 : e < 0
  · have he : aboveE g h m v e = 2 := by rw [aboveE, if_neg (by simp [hc]), if_pos (.inr (vtx_not.2 (by omega)))]
    simp -implicitDefEqProofs (disch := omega) [List.getElem?_cons_zero, List.getElem?_cons_succ, wrap_id, h3]
    (refine fin0 trivial rfl ?_; simp -implicitDefEqProofs (disch := omega) [List.getElem?_cons_zero, List.getElem?_cons_succ, idx, wrap_id, he])
  obtain ⟨d, rfl⟩ : ∃ d : Nat, e = d := ⟨e.toNat, by omega⟩
  simp -implicitDefEqProofs (disch := omega) [List.getElem?_cons_zero, List.getElem?_cons_succ, wrap_id, h3]
  refine HC_of_PC rfl (size_ok h.1 h.2 c.hg.right (by omega)) ?_
  by_cases h4 : (endsL h.2).length ≤ d
  · have he : aboveE g h m v d = 2 := by rw [aboveE, if_neg (by simp [hc]), if_pos (.inr (vtx_not.2 (by omega)))]
    simp -implicitDefEqProofs (disch := omega) [List.getElem?_cons_zero, List.getElem?_cons_succ, wrap_id, h4]
    (refine fin0 trivial rfl ?_; simp -implicitDefEqProofs (disch := omega) [List.getElem?_cons_zero, List.getElem?_cons_succ, idx, wrap_id, he])
  have hv2 : vtx (endsL h.2).length d = true := vtx_iff.2 (by omega)
  obtain ⟨u, rfl⟩ : ∃ u : Nat, v = u := ⟨v.toNat, by omega⟩
  have hul : u < m.v.length := by omega
  have hgv : m.v.getD u 0 = m.v[u] := by rw [List.getD_eq_getElem?_getD, List.getElem?_eq_getElem hul]; rfl
  simp -implicitDefEqProofs (disch := omega) [List.getElem?_cons_zero, List.getElem?_cons_succ, wrap_id, h4, hul]
  refine HC_of_PC rfl (touches_ok h.1 h.2 d m.v[u] c.hg.right hsh (by omega)) ?_
  have htb := tB_eq m.v (endsL h.2) u d
  rw [hgv] at htb
  cases ht : tchB ((endsL h.2).getD d (0, 0)) m.v[u]
  · rw [ht] at htb
    have he : aboveE g h m u d = 6 := by rw [aboveE, if_neg (by simp [hc]), if_neg (by simp [hv, hv2]), if_pos (by simpa using htb)]
    simp -implicitDefEqProofs (disch := omega) [List.getElem?_cons_zero, List.getElem?_cons_succ, wrap_id]
    (refine fin0 trivial rfl ?_; simp -implicitDefEqProofs (disch := omega) [List.getElem?_cons_zero, List.getElem?_cons_succ, idx, wrap_id, he])
  · rw [ht] at htb
    have he : aboveE g h m u d = 0 := by rw [aboveE, if_neg (by simp [hc]), if_neg (by simp [hv, hv2]), if_neg (by simp [htb])]
    simp -implicitDefEqProofs (disch := omega) [List.getElem?_cons_zero, List.getElem?_cons_succ, wrap_id]
    refine HC_of_PC rfl (rcounted_ok g.1 g.2 m u d c.gg.right hsg c.gl c.el) ?_
    simp -implicitDefEqProofs (disch := omega) [List.getElem?_cons_zero, List.getElem?_cons_succ, wrap_id]
    (refine fin0 trivial rfl ?_; simp -implicitDefEqProofs (disch := omega) [List.getElem?_cons_zero, List.getElem?_cons_succ, idx, wrap_id, he])
theorem over_ok (m : Mo) (w : Int) (hmv : m.v.length ≤ 1000000) : PC Try.prog 33 [MoP m, .i w] (.p (.is (fibL m.v w m.v.length))) [] := by
  refine PC_of_W cfn33 ?_
  simp -implicitDefEqProofs (disch := omega) [c33, List.getElem?_cons_zero, List.getElem?_cons_succ, wrap_id]
  refine loopW m.v.length (fun j s => s = ⟨[(6, .i j), (5, .os 1 0 (fibL m.v w j).length), (2, .ptr 0 1 0 0), (1, .i w)], [.box (.p (MoP m)), .row ((fibL m.v w j).map PV.i) 1 3 false]⟩)
    ((wk_norm [0] [6, 5, 2, 1] rfl rfl).trans ((Wk_nil 5 1 3 rfl).trans (Wk_keep [6, 5, 2, 1]))) rfl ?_
  rintro j s hj rfl
  by_cases hlt : j < m.v.length
  · have hsn := fibL_succ m.v w j
    have hgd : m.v.getD j 0 = m.v[j] := by rw [List.getD_eq_getElem?_getD, List.getElem?_eq_getElem hlt]; rfl
    rw [hgd] at hsn
    have hfl := fibL_length m.v w j
    have hbd : (fibL m.v w j).length ≤ 1048575 := by omega
    by_cases hz : m.v[j] = w
    · rw [if_pos hz] at hsn
      simp -implicitDefEqProofs (disch := omega) [List.getElem?_cons_zero, List.getElem?_cons_succ, wrap_id, hlt, hz, hbd]
      exact round_end [0, 1] [6, 5, 2, 1] hlt rfl (by rw [hsn, List.length_append, List.map_append]; rfl)
    · rw [if_neg hz] at hsn
      simp -implicitDefEqProofs (disch := omega) [List.getElem?_cons_zero, List.getElem?_cons_succ, wrap_id, hlt, hz]
      exact round_end [0, 1] [6, 5, 2, 1] hlt rfl (by rw [hsn]; rfl)
  · have hjn : j = m.v.length := by omega
    subst hjn
    simp -implicitDefEqProofs (disch := omega) [List.getElem?_cons_zero, List.getElem?_cons_succ, wrap_id]
    refine fin0 (x := .os 1 0 (fibL m.v w m.v.length).length) trivial rfl ?_
    simp
    rfl
theorem rsame_ok (a b : Mo) (h1 : a.v.length ≤ 4611686018427387904) (h2 : a.e.length ≤ 4611686018427387904) : PC Try.prog 26 [MoP a, MoP b] (.b (sameM a b)) [] := by
  refine PC_of_W cfn26 ?_
  simp -implicitDefEqProofs (disch := omega) [c26, List.getElem?_cons_zero, List.getElem?_cons_succ, wrap_id]
  refine HC_of_PC rfl (sameInts_ok a.v b.v h1) ?_
  by_cases he : a.v = b.v
  · simp -implicitDefEqProofs (disch := omega) [List.getElem?_cons_zero, List.getElem?_cons_succ, wrap_id]
    rw [decide_eq_true he]
    simp -implicitDefEqProofs (disch := omega) [List.getElem?_cons_zero, List.getElem?_cons_succ, wrap_id]
    refine HC_of_PC rfl (sameInts_ok a.e b.e h2) ?_
    simp -implicitDefEqProofs (disch := omega) [List.getElem?_cons_zero, List.getElem?_cons_succ, wrap_id]
    refine fin0 trivial rfl ?_
    simp [sameM, he]
  · simp -implicitDefEqProofs (disch := omega) [List.getElem?_cons_zero, List.getElem?_cons_succ, wrap_id, he]
    refine fin0 trivial rfl ?_
    simp [sameM, he]
def smM (g : Gr) : Bool := decide (g.2.length ≤ 40) && (decide (gcheck g.1 g.2 ≠ 0) || decide ((endsL g.2).length ≤ 24))
theorem small51_ok (g : Gr) : PC Try.prog 55 [GrP g] (.b (smM g)) [] := by
  refine PC_of_W cfn55 ?_
  by_cases h1 : g.2.length ≤ 40
  rotate_left
  · have hr : smM g = false := by simp [smM, h1]
    have h1' : ¬ (g.2.length : Int) ≤ 40 := by omega
    simp -implicitDefEqProofs (disch := omega) [c55, List.getElem?_cons_zero, List.getElem?_cons_succ, wrap_id, h1']
    (refine fin0 trivial rfl ?_; simp -implicitDefEqProofs (disch := omega) [List.getElem?_cons_zero, List.getElem?_cons_succ, idx, wrap_id, hr])
  have h1' : (g.2.length : Int) ≤ 40 := by omega
  simp -implicitDefEqProofs (disch := omega) [c55, List.getElem?_cons_zero, List.getElem?_cons_succ, wrap_id, h1']
  refine HC_of_PC rfl (rcheck_ok g.1 g.2 (by omega)) ?_
  by_cases h2 : gcheck g.1 g.2 = 0
  rotate_left
  · have hr : smM g = true := by simp [smM, h1, h2]
    simp -implicitDefEqProofs (disch := omega) [List.getElem?_cons_zero, List.getElem?_cons_succ, wrap_id, h2]
    (refine fin0 trivial rfl ?_; simp -implicitDefEqProofs (disch := omega) [List.getElem?_cons_zero, List.getElem?_cons_succ, idx, wrap_id, hr])
  simp -implicitDefEqProofs (disch := omega) [List.getElem?_cons_zero, List.getElem?_cons_succ, wrap_id, h2]
  refine HC_of_PC rfl (size_ok g.1 g.2 (gcheck_ok h2).right (by omega)) ?_
  by_cases h3 : (endsL g.2).length ≤ 24
  · have hr : smM g = true := by simp [smM, h1, h2, h3]
    have h3' : ((endsL g.2).length : Int) ≤ 24 := by omega
    simp -implicitDefEqProofs (disch := omega) [List.getElem?_cons_zero, List.getElem?_cons_succ, wrap_id, h3']
    (refine fin0 trivial rfl ?_; simp -implicitDefEqProofs (disch := omega) [List.getElem?_cons_zero, List.getElem?_cons_succ, idx, wrap_id, hr])
  · have hr : smM g = false := by simp [smM, h1, h2, h3]
    have h3' : ¬ ((endsL g.2).length : Int) ≤ 24 := by omega
    simp -implicitDefEqProofs (disch := omega) [List.getElem?_cons_zero, List.getElem?_cons_succ, wrap_id, h3']
    (refine fin0 trivial rfl ?_; simp -implicitDefEqProofs (disch := omega) [List.getElem?_cons_zero, List.getElem?_cons_succ, idx, wrap_id, hr])
def fewM (g h : Gr) (m : Mo) : Bool := smM g && smM h && decide (m.v.length ≤ 40) && decide (m.e.length ≤ 40)
theorem few51_ok (g h : Gr) (m : Mo) : PC Try.prog 35 [GrP g, GrP h, MoP m] (.b (fewM g h m)) [] := by
  refine PC_of_W cfn35 ?_
  simp -implicitDefEqProofs (disch := omega) [c35, List.getElem?_cons_zero, List.getElem?_cons_succ, wrap_id]
  refine HC_of_PC rfl (small51_ok g) ?_
  cases h1 : smM g
  · simp -implicitDefEqProofs (disch := omega) [List.getElem?_cons_zero, List.getElem?_cons_succ, wrap_id]
    (refine fin0 trivial rfl ?_; simp -implicitDefEqProofs (disch := omega) [List.getElem?_cons_zero, List.getElem?_cons_succ, idx, wrap_id, fewM, h1])
  simp -implicitDefEqProofs (disch := omega) [List.getElem?_cons_zero, List.getElem?_cons_succ, wrap_id]
  refine HC_of_PC rfl (small51_ok h) ?_
  cases h2 : smM h
  · simp -implicitDefEqProofs (disch := omega) [List.getElem?_cons_zero, List.getElem?_cons_succ, wrap_id]
    (refine fin0 trivial rfl ?_; simp -implicitDefEqProofs (disch := omega) [List.getElem?_cons_zero, List.getElem?_cons_succ, idx, wrap_id, fewM, h1, h2])
  by_cases h3 : m.v.length ≤ 40
  · have h3' : (m.v.length : Int) ≤ 40 := by omega
    by_cases h4 : m.e.length ≤ 40
    · have h4' : (m.e.length : Int) ≤ 40 := by omega
      simp -implicitDefEqProofs (disch := omega) [List.getElem?_cons_zero, List.getElem?_cons_succ, wrap_id, h3', h4']
      (refine fin0 trivial rfl ?_; simp -implicitDefEqProofs (disch := omega) [List.getElem?_cons_zero, List.getElem?_cons_succ, idx, wrap_id, fewM, h1, h2, h3, h4])
    · have h4' : ¬ (m.e.length : Int) ≤ 40 := by omega
      simp -implicitDefEqProofs (disch := omega) [List.getElem?_cons_zero, List.getElem?_cons_succ, wrap_id, h3', h4']
      (refine fin0 trivial rfl ?_; simp -implicitDefEqProofs (disch := omega) [List.getElem?_cons_zero, List.getElem?_cons_succ, idx, wrap_id, fewM, h1, h2, h3, h4])
  · have h3' : ¬ (m.v.length : Int) ≤ 40 := by omega
    simp -implicitDefEqProofs (disch := omega) [List.getElem?_cons_zero, List.getElem?_cons_succ, wrap_id, h3']
    (refine fin0 trivial rfl ?_; simp -implicitDefEqProofs (disch := omega) [List.getElem?_cons_zero, List.getElem?_cons_succ, idx, wrap_id, fewM, h1, h2, h3])
abbrev EnP (g h : Gr) : PV := .agg [.i g.1, .sl (g.2.map edP), .i h.1, .sl (h.2.map edP)]
theorem lfew_ok (g h : Gr) (m : Mo) : PC Try.prog 11 [EnP g h, MoP m] (.b (fewM g h m)) [] := by
  refine PC_of_W cfn11 ?_
  simp -implicitDefEqProofs (disch := omega) [c11, List.getElem?_cons_zero, List.getElem?_cons_succ, wrap_id]
  refine HC_of_PC rfl (few51_ok g h m) ?_
  simp -implicitDefEqProofs (disch := omega) [List.getElem?_cons_zero, List.getElem?_cons_succ, wrap_id]
  (refine fin0 trivial rfl ?_; simp -implicitDefEqProofs (disch := omega) [List.getElem?_cons_zero, List.getElem?_cons_succ, idx, wrap_id])
theorem few_sm {g h : Gr} {m : Mo} (hf : fewM g h m = true) : Sm g h m := by
  simp only [fewM, smM, Bool.and_eq_true, decide_eq_true_eq] at hf
  exact ⟨by omega, by omega, by omega, by omega⟩
def rightM (g h : Gr) (m : Mo) : Bool := fewM g h m && decide (coverE g h m = 0) && harmM g h m
theorem lright_ok (g h : Gr) (m : Mo) : PC Try.prog 20 [EnP g h, MoP m] (.b (rightM g h m)) [] := by
  refine PC_of_W cfn20 ?_
  simp -implicitDefEqProofs (disch := omega) [c20, List.getElem?_cons_zero, List.getElem?_cons_succ, wrap_id]
  refine HC_of_PC rfl (lfew_ok g h m) ?_
  cases hf : fewM g h m
  · simp -implicitDefEqProofs (disch := omega) [List.getElem?_cons_zero, List.getElem?_cons_succ, wrap_id]
    (refine fin0 trivial rfl ?_; simp -implicitDefEqProofs (disch := omega) [List.getElem?_cons_zero, List.getElem?_cons_succ, idx, wrap_id, rightM, hf])
  have hs := few_sm hf
  simp -implicitDefEqProofs (disch := omega) [List.getElem?_cons_zero, List.getElem?_cons_succ, wrap_id]
  refine HC_of_PC rfl (rcheck51_ok g h m hs) ?_
  by_cases hc : coverE g h m = 0
  rotate_left
  · simp -implicitDefEqProofs (disch := omega) [List.getElem?_cons_zero, List.getElem?_cons_succ, wrap_id, hc]
    (refine fin0 trivial rfl ?_; simp -implicitDefEqProofs (disch := omega) [List.getElem?_cons_zero, List.getElem?_cons_succ, idx, wrap_id, rightM, hf, hc])
  obtain ⟨n, k, c⟩ := cov_of hc
  simp -implicitDefEqProofs (disch := omega) [List.getElem?_cons_zero, List.getElem?_cons_succ, wrap_id, hc]
  refine HC_of_PC rfl (rharm_ok g h m n k hs c) ?_
  simp -implicitDefEqProofs (disch := omega) [List.getElem?_cons_zero, List.getElem?_cons_succ, wrap_id]
  (refine fin0 trivial rfl ?_; simp -implicitDefEqProofs (disch := omega) [List.getElem?_cons_zero, List.getElem?_cons_succ, idx, wrap_id, rightM, hf, hc])
end Go.Proofs.Ytheffllmccomiaa
/-
  Contracts: the law's examples.
-/
set_option linter.unusedSimpArgs false
set_option linter.unusedVariables false
namespace Go.Proofs.Ytheffllmccomiaa
open Go.Abs Go.Sand

abbrev sqG : Gr := (4, [⟨0, 1, 1⟩, ⟨0, 3, 1⟩, ⟨1, 2, 1⟩, ⟨2, 3, 1⟩])
abbrev sqH : Gr := (2, [⟨0, 1, 2⟩])
abbrev sqM : Mo := ⟨[0, 1, 0, 1], [0, 1, 1, 0]⟩
abbrev sqN : Mo := ⟨[0, 1, 0, 1], [0, 0, 1, 1]⟩
abbrev stG : Gr := (4, [⟨0, 1, 1⟩, ⟨0, 2, 1⟩, ⟨0, 3, 1⟩])
abbrev stH : Gr := (2, [⟨0, 1, 1⟩])
abbrev stM : Mo := ⟨[0, 1, 1, 1], [0, 0, 0]⟩
theorem sq1 : harmE sqG sqH sqM = true ∧ coverE sqG sqH sqM = 0 := by decide +kernel
theorem sq2 : harmE sqG sqH sqN = false ∧ coverE sqG sqH sqN = 0 := by decide +kernel
theorem sq3 : degE sqG sqH sqM = 0 ∧ occ 0 sqM.e = 2 := by decide +kernel
theorem sq4 : multE sqG sqH sqM 2 = 0 ∧ multR sqG sqH sqM 2 = 1 := by decide +kernel
theorem sq5 : inE sqG sqH sqM (vtx sqH.1 0) = 0 ∧ fibL sqM.v 0 sqM.v.length = [0, 2] := by decide +kernel
theorem st1 : degE stG stH stM = 0 ∧ occ 0 stM.e = 3 := by decide +kernel
theorem st2 : multE stG stH stM 0 = 0 ∧ multR stG stH stM 0 = 3 := by decide +kernel
theorem square_ok : PC Try.prog 42 [] (.agg [.p (.i 4), .p (.sl (sqG.2.map edP)), .p (.i 2), .p (.sl (sqH.2.map edP))]) [] := by
  refine PC_of_W cfn42 ?_
  simp -implicitDefEqProofs (disch := omega) [c42, List.getElem?_cons_zero, List.getElem?_cons_succ, wrap_id]
  refine fin0 trivial rfl ?_
  simp
  exact ⟨rfl, rfl⟩
theorem awake_ok : PC Try.prog 12 [] (.b true) [] := by
  have s1 : Sm sqG sqH sqM := by constructor <;> decide
  have s2 : Sm sqG sqH sqN := by constructor <;> decide
  have s3 : Sm stG stH stM := by constructor <;> decide
  have c1 := harmonic_ok sqG sqH sqM s1
  rw [sq1.1, sq1.2] at c1
  have c2 := harmonic_ok sqG sqH sqN s2
  rw [sq2.1, sq2.2] at c2
  have c3 := degree_ok sqG sqH sqM s1
  rw [sq3.1, sq3.2] at c3
  have c4 := multiplicity_ok sqG sqH sqM 2 s1
  rw [sq4.1, sq4.2] at c4
  have c5 := fibre_ok sqG sqH sqM 0 s1
  rw [sq5.1, sq5.2] at c5
  have c6 := degree_ok stG stH stM s3
  rw [st1.1, st1.2] at c6
  have c7 := multiplicity_ok stG stH stM 0 s3
  rw [st2.1, st2.2] at c7
  refine PC_of_W cfn12 ?_
  simp -implicitDefEqProofs (disch := omega) [c12, List.getElem?_cons_zero, List.getElem?_cons_succ, wrap_id]
  refine HC_of_PC rfl (square_ok) ?_
  simp -implicitDefEqProofs (disch := omega) [List.getElem?_cons_zero, List.getElem?_cons_succ, wrap_id]
  refine HC_of_PC rfl (c1) ?_
  simp -implicitDefEqProofs (disch := omega) [List.getElem?_cons_zero, List.getElem?_cons_succ, wrap_id]
  refine HC_of_PC rfl (c2) ?_
  simp -implicitDefEqProofs (disch := omega) [List.getElem?_cons_zero, List.getElem?_cons_succ, wrap_id]
  refine HC_of_PC rfl (c3) ?_
  simp -implicitDefEqProofs (disch := omega) [List.getElem?_cons_zero, List.getElem?_cons_succ, wrap_id]
  refine HC_of_PC rfl (c4) ?_
  simp -implicitDefEqProofs (disch := omega) [List.getElem?_cons_zero, List.getElem?_cons_succ, wrap_id]
  refine HC_of_PC rfl (c5) ?_
  simp -implicitDefEqProofs (disch := omega) [List.getElem?_cons_zero, List.getElem?_cons_succ, wrap_id]
  refine HC_of_PC rfl (equal_ok [0, 2] [0, 2] (by decide)) ?_
  simp -implicitDefEqProofs (disch := omega) [List.getElem?_cons_zero, List.getElem?_cons_succ, wrap_id]
  refine HC_of_PC rfl (c6) ?_
  simp -implicitDefEqProofs (disch := omega) [List.getElem?_cons_zero, List.getElem?_cons_succ, wrap_id]
  refine HC_of_PC rfl (c7) ?_
  simp -implicitDefEqProofs (disch := omega) [List.getElem?_cons_zero, List.getElem?_cons_succ, wrap_id]
  (refine fin0 trivial rfl ?_; simp -implicitDefEqProofs (disch := omega) [List.getElem?_cons_zero, List.getElem?_cons_succ, idx, wrap_id])
end Go.Proofs.Ytheffllmccomiaa
/-
  Contracts: three laws of chapter 51: Degrees, Checks, Counts.
-/
set_option linter.unusedSimpArgs false
set_option linter.unusedVariables false
namespace Go.Proofs.Ytheffllmccomiaa
open Go.Abs Go.Sand

theorem degrees_law (g h : Gr) (m : Mo) (v : Int) : PC Try.prog 3 [EnP g h, MoP m, .i v] (.b true) [] := by
  refine PC_of_W cfn3 ?_
  simp -implicitDefEqProofs (disch := omega) [c3, List.getElem?_cons_zero, List.getElem?_cons_succ, wrap_id]
  refine HC_of_PC rfl (lfew_ok g h m) ?_
  cases hf : fewM g h m
  · simp -implicitDefEqProofs (disch := omega) [List.getElem?_cons_zero, List.getElem?_cons_succ, wrap_id]
    refine HC_of_PC rfl (awake_ok) ?_
    simp -implicitDefEqProofs (disch := omega) [List.getElem?_cons_zero, List.getElem?_cons_succ, wrap_id]
    (refine fin0 trivial rfl ?_; simp -implicitDefEqProofs (disch := omega) [List.getElem?_cons_zero, List.getElem?_cons_succ, idx, wrap_id])
  have hs := few_sm hf
  simp -implicitDefEqProofs (disch := omega) [List.getElem?_cons_zero, List.getElem?_cons_succ, wrap_id]
  refine HC_of_PC rfl (rcheck51_ok g h m hs) ?_
  simp -implicitDefEqProofs (disch := omega) [List.getElem?_cons_zero, List.getElem?_cons_succ, wrap_id]
  refine HC_of_PC rfl (harmonic_ok g h m hs) ?_
  simp -implicitDefEqProofs (disch := omega) [List.getElem?_cons_zero, List.getElem?_cons_succ, wrap_id]
  refine HC_of_PC rfl (multiplicity_ok g h m v hs) ?_
  simp -implicitDefEqProofs (disch := omega) [List.getElem?_cons_zero, List.getElem?_cons_succ, wrap_id]
  refine HC_of_PC rfl (rmult_ok g h m v hs) ?_
  simp -implicitDefEqProofs (disch := omega) [List.getElem?_cons_zero, List.getElem?_cons_succ, wrap_id]
  refine HC_of_PC rfl (degree_ok g h m hs) ?_
  simp -implicitDefEqProofs (disch := omega) [List.getElem?_cons_zero, List.getElem?_cons_succ, wrap_id]
  refine HC_of_PC rfl (rdegree_ok g h m hs) ?_
  simp -implicitDefEqProofs (disch := omega) [List.getElem?_cons_zero, List.getElem?_cons_succ, wrap_id]
  refine HC_of_PC rfl (awake_ok) ?_
  simp -implicitDefEqProofs (disch := omega) [List.getElem?_cons_zero, List.getElem?_cons_succ, wrap_id]
  by_cases hc : coverE g h m = 0
  · obtain ⟨n, k, c⟩ := cov_of hc
    simp -implicitDefEqProofs (disch := omega) [List.getElem?_cons_zero, List.getElem?_cons_succ, wrap_id, hc]
    refine HC_of_PC rfl (rharm_ok g h m n k hs c) ?_
    have hh : harmE g h m = harmM g h m := by simp [harmE, hc]
    simp -implicitDefEqProofs (disch := omega) [List.getElem?_cons_zero, List.getElem?_cons_succ, wrap_id, hh]
    (refine fin0 trivial rfl ?_; simp -implicitDefEqProofs (disch := omega) [List.getElem?_cons_zero, List.getElem?_cons_succ, idx, wrap_id, hh])
  · have hh : harmE g h m = false := by simp [harmE, hc]
    simp -implicitDefEqProofs (disch := omega) [List.getElem?_cons_zero, List.getElem?_cons_succ, wrap_id, hc, hh]
    (refine fin0 trivial rfl ?_; simp -implicitDefEqProofs (disch := omega) [List.getElem?_cons_zero, List.getElem?_cons_succ, idx, wrap_id])
theorem checks_law (g h : Gr) (m n : Mo) : PC Try.prog 5 [EnP g h, MoP m, MoP n] (.b true) [] := by
  refine PC_of_W cfn5 ?_
  simp -implicitDefEqProofs (disch := omega) [c5, List.getElem?_cons_zero, List.getElem?_cons_succ, wrap_id]
  refine HC_of_PC rfl (lfew_ok g h m) ?_
  cases hf : fewM g h m
  · simp -implicitDefEqProofs (disch := omega) [List.getElem?_cons_zero, List.getElem?_cons_succ, wrap_id]
    refine HC_of_PC rfl (awake_ok) ?_
    simp -implicitDefEqProofs (disch := omega) [List.getElem?_cons_zero, List.getElem?_cons_succ, wrap_id]
    (refine fin0 trivial rfl ?_; simp -implicitDefEqProofs (disch := omega) [List.getElem?_cons_zero, List.getElem?_cons_succ, idx, wrap_id])
  have hs := few_sm hf
  simp -implicitDefEqProofs (disch := omega) [List.getElem?_cons_zero, List.getElem?_cons_succ, wrap_id]
  refine HC_of_PC rfl (lfew_ok g h n) ?_
  cases hf2 : fewM g h n
  · simp -implicitDefEqProofs (disch := omega) [List.getElem?_cons_zero, List.getElem?_cons_succ, wrap_id]
    refine HC_of_PC rfl (awake_ok) ?_
    simp -implicitDefEqProofs (disch := omega) [List.getElem?_cons_zero, List.getElem?_cons_succ, wrap_id]
    (refine fin0 trivial rfl ?_; simp -implicitDefEqProofs (disch := omega) [List.getElem?_cons_zero, List.getElem?_cons_succ, idx, wrap_id])
  have hs2 := few_sm hf2
  have hm1 := hs.v
  have hm2 := hs.e
  simp -implicitDefEqProofs (disch := omega) [List.getElem?_cons_zero, List.getElem?_cons_succ, wrap_id]
  refine HC_of_PC rfl (awake_ok) ?_
  simp -implicitDefEqProofs (disch := omega) [List.getElem?_cons_zero, List.getElem?_cons_succ, wrap_id]
  refine HC_of_PC rfl (check_ok g h m hs) ?_
  simp -implicitDefEqProofs (disch := omega) [List.getElem?_cons_zero, List.getElem?_cons_succ, wrap_id]
  refine HC_of_PC rfl (rcheck51_ok g h m hs) ?_
  simp -implicitDefEqProofs (disch := omega) [List.getElem?_cons_zero, List.getElem?_cons_succ, wrap_id]
  refine HC_of_PC rfl (same_ok' m n (by omega) (by omega)) ?_
  simp -implicitDefEqProofs (disch := omega) [List.getElem?_cons_zero, List.getElem?_cons_succ, wrap_id]
  refine HC_of_PC rfl (rsame_ok m n (by omega) (by omega)) ?_
  simp -implicitDefEqProofs (disch := omega) [List.getElem?_cons_zero, List.getElem?_cons_succ, wrap_id]
  refine HC_of_PC rfl (same_ok' m m (by omega) (by omega)) ?_
  have hmm : sameM m m = true := by simp [sameM]
  simp -implicitDefEqProofs (disch := omega) [List.getElem?_cons_zero, List.getElem?_cons_succ, wrap_id, hmm]
  (refine fin0 trivial rfl ?_; simp -implicitDefEqProofs (disch := omega) [List.getElem?_cons_zero, List.getElem?_cons_succ, idx, wrap_id])
set_option maxRecDepth 10000 in
theorem counts_law (g h : Gr) (m : Mo) (v k : Int) : PC Try.prog 7 [EnP g h, MoP m, .agg [.i v, .i k]] (.b true) [] := by
  refine PC_of_W cfn7 ?_
  simp -implicitDefEqProofs (disch := omega) [c7, List.getElem?_cons_zero, List.getElem?_cons_succ, wrap_id]
  refine HC_of_PC rfl (lfew_ok g h m) ?_
  cases hf : fewM g h m
  · simp -implicitDefEqProofs (disch := omega) [List.getElem?_cons_zero, List.getElem?_cons_succ, wrap_id]
    refine HC_of_PC rfl (awake_ok) ?_
    simp -implicitDefEqProofs (disch := omega) [List.getElem?_cons_zero, List.getElem?_cons_succ, wrap_id]
    (refine fin0 trivial rfl ?_; simp -implicitDefEqProofs (disch := omega) [List.getElem?_cons_zero, List.getElem?_cons_succ, idx, wrap_id])
  have hs := few_sm hf
  simp -implicitDefEqProofs (disch := omega) [List.getElem?_cons_zero, List.getElem?_cons_succ, wrap_id]
  refine HC_of_PC rfl (rcheck51_ok g h m hs) ?_
  by_cases hc : coverE g h m = 0
  rotate_left
  · have hi : ∀ b, inE g h m b = coverE g h m := fun b => by rw [inE, if_pos hc]
    have ha : aboveE g h m v k = coverE g h m := by rw [aboveE, if_pos hc]
    simp -implicitDefEqProofs (disch := omega) [List.getElem?_cons_zero, List.getElem?_cons_succ, wrap_id, hc]
    refine HC_of_PC rfl (fibre_ok g h m k hs) ?_
    simp -implicitDefEqProofs (disch := omega) [List.getElem?_cons_zero, List.getElem?_cons_succ, wrap_id, hi, hc]
    refine HC_of_PC rfl (vertical_ok g h m v hs) ?_
    simp -implicitDefEqProofs (disch := omega) [List.getElem?_cons_zero, List.getElem?_cons_succ, wrap_id, hi, hc]
    refine HC_of_PC rfl (above_ok g h m v k hs) ?_
    simp -implicitDefEqProofs (disch := omega) [List.getElem?_cons_zero, List.getElem?_cons_succ, wrap_id, ha, hc]
    refine HC_of_PC rfl (rabove_ok g h m v k hs) ?_
    simp -implicitDefEqProofs (disch := omega) [List.getElem?_cons_zero, List.getElem?_cons_succ, wrap_id, ha, hc]
    refine HC_of_PC rfl (awake_ok) ?_
    simp -implicitDefEqProofs (disch := omega) [List.getElem?_cons_zero, List.getElem?_cons_succ, wrap_id, hc]
    (refine fin0 trivial rfl ?_; simp -implicitDefEqProofs (disch := omega) [List.getElem?_cons_zero, List.getElem?_cons_succ, idx, wrap_id])
  obtain ⟨n, l, c⟩ := cov_of hc
  simp -implicitDefEqProofs (disch := omega) [List.getElem?_cons_zero, List.getElem?_cons_succ, wrap_id, hc]
  refine HC_of_PC rfl (rvertex_ok h.1 k h.2) ?_
  have i1 : inE g h m true = 0 := by rw [inE, if_neg (by simp [hc]), if_neg (by simp)]
  have i2 : inE g h m false = 2 := by rw [inE, if_neg (by simp [hc]), if_pos rfl]
  have hvl : m.v.length ≤ 1000000 := hs.v
  have hfl := fibL_length m.v k m.v.length
  cases h1 : vtx h.1 k
  · simp -implicitDefEqProofs (disch := omega) [List.getElem?_cons_zero, List.getElem?_cons_succ, wrap_id]
    refine HC_of_PC rfl (rvertex_ok g.1 v g.2) ?_
    cases h2 : vtx g.1 v
    · simp -implicitDefEqProofs (disch := omega) [List.getElem?_cons_zero, List.getElem?_cons_succ, wrap_id]
      refine HC_of_PC rfl (fibre_ok g h m k hs) ?_
      simp -implicitDefEqProofs (disch := omega) [List.getElem?_cons_zero, List.getElem?_cons_succ, wrap_id, i2, h1]
      refine HC_of_PC rfl (vertical_ok g h m v hs) ?_
      simp -implicitDefEqProofs (disch := omega) [List.getElem?_cons_zero, List.getElem?_cons_succ, wrap_id, i2, h2]
      refine HC_of_PC rfl (above_ok g h m v k hs) ?_
      simp -implicitDefEqProofs (disch := omega) [List.getElem?_cons_zero, List.getElem?_cons_succ, wrap_id]
      refine HC_of_PC rfl (rabove_ok g h m v k hs) ?_
      simp -implicitDefEqProofs (disch := omega) [List.getElem?_cons_zero, List.getElem?_cons_succ, wrap_id]
      refine HC_of_PC rfl (awake_ok) ?_
      simp -implicitDefEqProofs (disch := omega) [List.getElem?_cons_zero, List.getElem?_cons_succ, wrap_id]
      (refine fin0 trivial rfl ?_; simp -implicitDefEqProofs (disch := omega) [List.getElem?_cons_zero, List.getElem?_cons_succ, idx, wrap_id])
    · simp -implicitDefEqProofs (disch := omega) [List.getElem?_cons_zero, List.getElem?_cons_succ, wrap_id]
      refine HC_of_PC rfl (fibre_ok g h m k hs) ?_
      simp -implicitDefEqProofs (disch := omega) [List.getElem?_cons_zero, List.getElem?_cons_succ, wrap_id, i2, h1]
      refine HC_of_PC rfl (vertical_ok g h m v hs) ?_
      simp -implicitDefEqProofs (disch := omega) [List.getElem?_cons_zero, List.getElem?_cons_succ, wrap_id, i1, h2]
      refine HC_of_PC rfl (above_ok g h m v k hs) ?_
      simp -implicitDefEqProofs (disch := omega) [List.getElem?_cons_zero, List.getElem?_cons_succ, wrap_id]
      refine HC_of_PC rfl (rabove_ok g h m v k hs) ?_
      simp -implicitDefEqProofs (disch := omega) [List.getElem?_cons_zero, List.getElem?_cons_succ, wrap_id]
      refine HC_of_PC rfl (awake_ok) ?_
      simp -implicitDefEqProofs (disch := omega) [List.getElem?_cons_zero, List.getElem?_cons_succ, wrap_id]
      refine HC_of_PC rfl (rcounted_ok g.1 g.2 m v (-1) c.gg.right hs.g c.gl c.el) ?_
      simp -implicitDefEqProofs (disch := omega) [List.getElem?_cons_zero, List.getElem?_cons_succ, wrap_id]
      (refine fin0 trivial rfl ?_; simp -implicitDefEqProofs (disch := omega) [List.getElem?_cons_zero, List.getElem?_cons_succ, idx, wrap_id])
  · simp -implicitDefEqProofs (disch := omega) [List.getElem?_cons_zero, List.getElem?_cons_succ, wrap_id]
    refine HC_of_PC rfl (rvertex_ok g.1 v g.2) ?_
    cases h2 : vtx g.1 v
    · simp -implicitDefEqProofs (disch := omega) [List.getElem?_cons_zero, List.getElem?_cons_succ, wrap_id]
      refine HC_of_PC rfl (fibre_ok g h m k hs) ?_
      simp -implicitDefEqProofs (disch := omega) [List.getElem?_cons_zero, List.getElem?_cons_succ, wrap_id, i1, h1]
      refine HC_of_PC rfl (vertical_ok g h m v hs) ?_
      simp -implicitDefEqProofs (disch := omega) [List.getElem?_cons_zero, List.getElem?_cons_succ, wrap_id, i2, h2]
      refine HC_of_PC rfl (above_ok g h m v k hs) ?_
      simp -implicitDefEqProofs (disch := omega) [List.getElem?_cons_zero, List.getElem?_cons_succ, wrap_id]
      refine HC_of_PC rfl (rabove_ok g h m v k hs) ?_
      simp -implicitDefEqProofs (disch := omega) [List.getElem?_cons_zero, List.getElem?_cons_succ, wrap_id]
      refine HC_of_PC rfl (awake_ok) ?_
      simp -implicitDefEqProofs (disch := omega) [List.getElem?_cons_zero, List.getElem?_cons_succ, wrap_id]
      refine HC_of_PC rfl (over_ok m k (by omega)) ?_
      simp -implicitDefEqProofs (disch := omega) [List.getElem?_cons_zero, List.getElem?_cons_succ, wrap_id]
      refine HC_of_PC rfl (equal_ok (fibL m.v k m.v.length) (fibL m.v k m.v.length) (by omega)) ?_
      simp -implicitDefEqProofs (disch := omega) [List.getElem?_cons_zero, List.getElem?_cons_succ, wrap_id]
      (refine fin0 trivial rfl ?_; simp -implicitDefEqProofs (disch := omega) [List.getElem?_cons_zero, List.getElem?_cons_succ, idx, wrap_id])
    · simp -implicitDefEqProofs (disch := omega) [List.getElem?_cons_zero, List.getElem?_cons_succ, wrap_id]
      refine HC_of_PC rfl (fibre_ok g h m k hs) ?_
      simp -implicitDefEqProofs (disch := omega) [List.getElem?_cons_zero, List.getElem?_cons_succ, wrap_id, i1, h1]
      refine HC_of_PC rfl (vertical_ok g h m v hs) ?_
      simp -implicitDefEqProofs (disch := omega) [List.getElem?_cons_zero, List.getElem?_cons_succ, wrap_id, i1, h2]
      refine HC_of_PC rfl (above_ok g h m v k hs) ?_
      simp -implicitDefEqProofs (disch := omega) [List.getElem?_cons_zero, List.getElem?_cons_succ, wrap_id]
      refine HC_of_PC rfl (rabove_ok g h m v k hs) ?_
      simp -implicitDefEqProofs (disch := omega) [List.getElem?_cons_zero, List.getElem?_cons_succ, wrap_id]
      refine HC_of_PC rfl (awake_ok) ?_
      simp -implicitDefEqProofs (disch := omega) [List.getElem?_cons_zero, List.getElem?_cons_succ, wrap_id]
      refine HC_of_PC rfl (over_ok m k (by omega)) ?_
      simp -implicitDefEqProofs (disch := omega) [List.getElem?_cons_zero, List.getElem?_cons_succ, wrap_id]
      refine HC_of_PC rfl (equal_ok (fibL m.v k m.v.length) (fibL m.v k m.v.length) (by omega)) ?_
      simp -implicitDefEqProofs (disch := omega) [List.getElem?_cons_zero, List.getElem?_cons_succ, wrap_id]
      refine HC_of_PC rfl (rcounted_ok g.1 g.2 m v (-1) c.gg.right hs.g c.gl c.el) ?_
      simp -implicitDefEqProofs (disch := omega) [List.getElem?_cons_zero, List.getElem?_cons_succ, wrap_id]
      (refine fin0 trivial rfl ?_; simp -implicitDefEqProofs (disch := omega) [List.getElem?_cons_zero, List.getElem?_cons_succ, idx, wrap_id])
end Go.Proofs.Ytheffllmccomiaa
