/-
  Contracts: the reference of chapter 51, 3; the law's small maps.
-/
import Derived.Test.YtddgepjmfnodhaaMkc
set_option linter.unusedSimpArgs false
set_option linter.unusedVariables false
namespace Go.Proofs.Ytddgepjmfnodhaa
open Go.Abs Go.Sand

def smM (g : Gr) : Bool := decide (g.2.length ≤ 40) && (decide (gcheck g.1 g.2 ≠ 0) || decide ((endsL g.2).length ≤ 24))
theorem small51_ok (g : Gr) : PC Try.prog 63 [GrP g] (.b (smM g)) [] := by
  refine PC_of_W cfn63 ?_
  by_cases h1 : g.2.length ≤ 40
  rotate_left
  · have hr : smM g = false := by simp [smM, h1]
    have h1' : ¬ (g.2.length : Int) ≤ 40 := by omega
    simp -implicitDefEqProofs (disch := omega) [c63, List.getElem?_cons_zero, List.getElem?_cons_succ, wrap_id, h1']
    (refine fin0 trivial rfl ?_; simp -implicitDefEqProofs (disch := omega) [List.getElem?_cons_zero, List.getElem?_cons_succ, idx, wrap_id, hr])
  have h1' : (g.2.length : Int) ≤ 40 := by omega
  simp -implicitDefEqProofs (disch := omega) [c63, List.getElem?_cons_zero, List.getElem?_cons_succ, wrap_id, h1']
  refine HC_of_PC rfl (rcheck_ok g.1 g.2 (by omega)) ?_
  by_cases h2 : gcheck g.1 g.2 = 0
  rotate_left
  · have hr : smM g = true := by simp [smM, h1, h2]
    simp -implicitDefEqProofs (disch := omega) [List.getElem?_cons_zero, List.getElem?_cons_succ, wrap_id, h2]
    (refine fin0 trivial rfl ?_; simp -implicitDefEqProofs (disch := omega) [List.getElem?_cons_zero, List.getElem?_cons_succ, idx, wrap_id, hr])
  simp -implicitDefEqProofs (disch := omega) [List.getElem?_cons_zero, List.getElem?_cons_succ, wrap_id, h2]
  refine HC_of_PC rfl (size_ok g.1 g.2 (gcheck_ok h2).right (by omega)) ?_
  by_cases h3 : (endsL g.2).length ≤ 24
  · have hr : smM g = true := by simp [smM, h1, h2, h3]
    have h3' : ((endsL g.2).length : Int) ≤ 24 := by omega
    simp -implicitDefEqProofs (disch := omega) [List.getElem?_cons_zero, List.getElem?_cons_succ, wrap_id, h3']
    (refine fin0 trivial rfl ?_; simp -implicitDefEqProofs (disch := omega) [List.getElem?_cons_zero, List.getElem?_cons_succ, idx, wrap_id, hr])
  · have hr : smM g = false := by simp [smM, h1, h2, h3]
    have h3' : ¬ ((endsL g.2).length : Int) ≤ 24 := by omega
    simp -implicitDefEqProofs (disch := omega) [List.getElem?_cons_zero, List.getElem?_cons_succ, wrap_id, h3']
    (refine fin0 trivial rfl ?_; simp -implicitDefEqProofs (disch := omega) [List.getElem?_cons_zero, List.getElem?_cons_succ, idx, wrap_id, hr])
def fewM (g h : Gr) (m : Mo) : Bool := smM g && smM h && decide (m.v.length ≤ 40) && decide (m.e.length ≤ 40)
theorem few51_ok (g h : Gr) (m : Mo) : PC Try.prog 30 [GrP g, GrP h, MoP m] (.b (fewM g h m)) [] := by
  refine PC_of_W cfn30 ?_
  simp -implicitDefEqProofs (disch := omega) [c30, List.getElem?_cons_zero, List.getElem?_cons_succ, wrap_id]
  refine HC_of_PC rfl (small51_ok g) ?_
  cases h1 : smM g
  · simp -implicitDefEqProofs (disch := omega) [List.getElem?_cons_zero, List.getElem?_cons_succ, wrap_id]
    (refine fin0 trivial rfl ?_; simp -implicitDefEqProofs (disch := omega) [List.getElem?_cons_zero, List.getElem?_cons_succ, idx, wrap_id, fewM, h1])
  simp -implicitDefEqProofs (disch := omega) [List.getElem?_cons_zero, List.getElem?_cons_succ, wrap_id]
  refine HC_of_PC rfl (small51_ok h) ?_
  cases h2 : smM h
  · simp -implicitDefEqProofs (disch := omega) [List.getElem?_cons_zero, List.getElem?_cons_succ, wrap_id]
    (refine fin0 trivial rfl ?_; simp -implicitDefEqProofs (disch := omega) [List.getElem?_cons_zero, List.getElem?_cons_succ, idx, wrap_id, fewM, h1, h2])
  by_cases h3 : m.v.length ≤ 40
  · have h3' : (m.v.length : Int) ≤ 40 := by omega
    by_cases h4 : m.e.length ≤ 40
    · have h4' : (m.e.length : Int) ≤ 40 := by omega
      simp -implicitDefEqProofs (disch := omega) [List.getElem?_cons_zero, List.getElem?_cons_succ, wrap_id, h3', h4']
      (refine fin0 trivial rfl ?_; simp -implicitDefEqProofs (disch := omega) [List.getElem?_cons_zero, List.getElem?_cons_succ, idx, wrap_id, fewM, h1, h2, h3, h4])
    · have h4' : ¬ (m.e.length : Int) ≤ 40 := by omega
      simp -implicitDefEqProofs (disch := omega) [List.getElem?_cons_zero, List.getElem?_cons_succ, wrap_id, h3', h4']
      (refine fin0 trivial rfl ?_; simp -implicitDefEqProofs (disch := omega) [List.getElem?_cons_zero, List.getElem?_cons_succ, idx, wrap_id, fewM, h1, h2, h3, h4])
  · have h3' : ¬ (m.v.length : Int) ≤ 40 := by omega
    simp -implicitDefEqProofs (disch := omega) [List.getElem?_cons_zero, List.getElem?_cons_succ, wrap_id, h3']
    (refine fin0 trivial rfl ?_; simp -implicitDefEqProofs (disch := omega) [List.getElem?_cons_zero, List.getElem?_cons_succ, idx, wrap_id, fewM, h1, h2, h3])
abbrev EnP (g h : Gr) : PV := .agg [.i g.1, .sl (g.2.map edP), .i h.1, .sl (h.2.map edP)]
theorem few_sm {g h : Gr} {m : Mo} (hf : fewM g h m = true) : Sm g h m := by
  simp only [fewM, smM, Bool.and_eq_true, decide_eq_true_eq] at hf
  exact ⟨by omega, by omega, by omega, by omega⟩
def rightM (g h : Gr) (m : Mo) : Bool := fewM g h m && decide (coverE g h m = 0) && harmM g h m
end Go.Proofs.Ytddgepjmfnodhaa
/-
  Contracts: the law's examples.
-/
set_option linter.unusedSimpArgs false
set_option linter.unusedVariables false
namespace Go.Proofs.Ytddgepjmfnodhaa
open Go.Abs Go.Sand

abbrev sqG : Gr := (4, [⟨0, 1, 1⟩, ⟨0, 3, 1⟩, ⟨1, 2, 1⟩, ⟨2, 3, 1⟩])
abbrev sqH : Gr := (2, [⟨0, 1, 2⟩])
abbrev sqM : Mo := ⟨[0, 1, 0, 1], [0, 1, 1, 0]⟩
abbrev sqN : Mo := ⟨[0, 1, 0, 1], [0, 0, 1, 1]⟩
abbrev stG : Gr := (4, [⟨0, 1, 1⟩, ⟨0, 2, 1⟩, ⟨0, 3, 1⟩])
abbrev stH : Gr := (2, [⟨0, 1, 1⟩])
abbrev stM : Mo := ⟨[0, 1, 1, 1], [0, 0, 0]⟩
theorem sq1 : harmE sqG sqH sqM = true ∧ coverE sqG sqH sqM = 0 := by decide +kernel
theorem sq2 : harmE sqG sqH sqN = false ∧ coverE sqG sqH sqN = 0 := by decide +kernel
theorem sq3 : degE sqG sqH sqM = 0 ∧ occ 0 sqM.e = 2 := by decide +kernel
theorem sq4 : multE sqG sqH sqM 2 = 0 ∧ multR sqG sqH sqM 2 = 1 := by decide +kernel
theorem sq5 : inE sqG sqH sqM (vtx sqH.1 0) = 0 ∧ fibL sqM.v 0 sqM.v.length = [0, 2] := by decide +kernel
theorem st1 : degE stG stH stM = 0 ∧ occ 0 stM.e = 3 := by decide +kernel
theorem st2 : multE stG stH stM 0 = 0 ∧ multR stG stH stM 0 = 3 := by decide +kernel
theorem square_ok : PC Try.prog 31 [] (.agg [.p (.i 4), .p (.sl (sqG.2.map edP)), .p (.i 2), .p (.sl (sqH.2.map edP))]) [] := by
  refine PC_of_W cfn31 ?_
  simp -implicitDefEqProofs (disch := omega) [c31, List.getElem?_cons_zero, List.getElem?_cons_succ, wrap_id]
  refine fin0 trivial rfl ?_
  simp
  exact ⟨rfl, rfl⟩
end Go.Proofs.Ytddgepjmfnodhaa
/-
  Contracts: three laws of chapter 51: Degrees, Checks, Counts.
-/
set_option linter.unusedSimpArgs false
set_option linter.unusedVariables false
namespace Go.Proofs.Ytddgepjmfnodhaa
open Go.Abs Go.Sand

end Go.Proofs.Ytddgepjmfnodhaa
