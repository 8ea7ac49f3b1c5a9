/-
  Texts joined: Wu Moa Gb Gv.
-/
import Derived.Test.YtamiekhoaggpkaaKa32
import Derived.Deep.Strs
import Derived.ChangeArms
import Derived.WalkKit
import Derived.ProofKit
import Derived.OpenShut
import Derived.ChangeOld
import Derived.Below
import Derived.WideShapes
import Derived.Test.YtamiekhoaggpkaaRows
section
set_option linter.unusedSimpArgs false
set_option linter.unusedVariables false
namespace Go.Proofs.Ytamiekhoaggpkaa
open Go.Abs Go.Sand
def tri20 : List Ed := [⟨0, 1, 1⟩, ⟨0, 2, 1⟩, ⟨1, 2, 1⟩]
theorem tri20_ok : PC Try.prog 41 [] (.agg [.p (.i 3), .p (.sl (tri20.map edP))]) [] := by
  refine PC_of_W cfn41 ?_
  simp -implicitDefEqProofs (disch := omega) [c41, List.getElem?_cons_zero, List.getElem?_cons_succ, wrap_id]
  refine fin0 trivial rfl rfl
theorem PC_eq20 {f : FuncId} {ps : List PV} {r r' : AV} {HR : List AO} (h : PC Try.prog f ps r HR) (e : r = r') : PC Try.prog f ps r' HR := e ▸ h
theorem same20_17 (l : List Int) (h : l.length ≤ 1000) : PC Try.prog 15 [.is l, .is l] (.b true) [] := PC_eq20 (same_ok l l (by omega)) (by simp)
theorem scripts20 (l : List Int) (h : l.length ≤ 1000) : PC Try.prog 56 [.is l, .is l] (.b true) [] := by
  refine PC_of_W cfn56 ?_
  simp -implicitDefEqProofs (disch := omega) [c56, List.getElem?_cons_zero, List.getElem?_cons_succ, wrap_id]
  refine HC_of_PC rfl (same20_17 l h) ?_
  simp -implicitDefEqProofs (disch := omega) [List.getElem?_cons_zero, List.getElem?_cons_succ, wrap_id]
  (refine fin0 trivial rfl ?_; simp -implicitDefEqProofs (disch := omega) [List.getElem?_cons_zero, List.getElem?_cons_succ, idx, wrap_id])
theorem same20_19 (a s : List Int) (ha : a.length ≤ 1000) (hs : s.length ≤ 1000) : PC Try.prog 19 [.is a, .is a, .is s, .is s] (.b true) [] := by
  refine PC_of_W cfn19 ?_
  simp -implicitDefEqProofs (disch := omega) [c19, List.getElem?_cons_zero, List.getElem?_cons_succ, wrap_id]
  refine HC_of_PC rfl (same20_17 a ha) ?_
  simp -implicitDefEqProofs (disch := omega) [List.getElem?_cons_zero, List.getElem?_cons_succ, wrap_id]
  refine HC_of_PC rfl (scripts20 s hs) ?_
  simp -implicitDefEqProofs (disch := omega) [List.getElem?_cons_zero, List.getElem?_cons_succ, wrap_id]
  (refine fin0 trivial rfl ?_; simp -implicitDefEqProofs (disch := omega) [List.getElem?_cons_zero, List.getElem?_cons_succ, idx, wrap_id])
theorem equal20 (xs : List Int) (hx : xs.length ≤ 4611686018427387904) : PC Try.prog 16 [.is xs, .is xs] (.b true) [] := by
  refine PC_of_W cfn16 ?_
  simp -implicitDefEqProofs (disch := omega) [c16, List.getElem?_cons_zero, List.getElem?_cons_succ, wrap_id]
  refine loopW xs.length (fun k s => s = ⟨[(13, .i k), (12, .i xs.length), (0, .p (.is xs)), (1, .p (.is xs))], []⟩) (wk_norm [] [13, 12, 0, 1] rfl rfl) rfl ?_
  rintro k s hk rfl
  by_cases hlt : k < xs.length
  · simp -implicitDefEqProofs (disch := omega) [List.getElem?_cons_zero, List.getElem?_cons_succ, wrap_id, hlt]
    exact round_end [] [13, 12, 0, 1] hlt rfl rfl
  · simp -implicitDefEqProofs (disch := omega) [List.getElem?_cons_zero, List.getElem?_cons_succ, wrap_id, hlt]
    (refine fin0 trivial rfl ?_; simp -implicitDefEqProofs (disch := omega) [List.getElem?_cons_zero, List.getElem?_cons_succ, idx, wrap_id])
theorem a20_1 : PC Try.prog 13 [G 3 tri20, .i 0, .is [0, 2, 2]] (.tup [.p (.is [2, 1, 1]), .p (.is [1, 2]), .i 0]) [] := PC_eq20 (round_ok 3 tri20 0 [0, 2, 2] (by decide) (by decide)) (by kernel_rfl)
theorem a20_2 : PC Try.prog 17 [G 3 tri20, .i 0, .is [0, 2, 2]] (.tup [.p (.is [2, 1, 1]), .p (.is [0, 1, 1]), .i 1, .i 0]) [] := PC_eq20 (run_ok 3 tri20 0 [0, 2, 2] (by decide) (by decide)) (by kernel_rfl)
theorem a20_3 : PC Try.prog 23 [G 3 tri20, .is [2, 1, 0]] (.tup [.p (.agg [.i 0, .i 3, .i 3, .b false]), .i 0]) [] := PC_eq20 (play_ok20 3 tri20 [2, 1, 0] (by decide) (by decide)) (by kernel_rfl)
theorem a20_4 : PC Try.prog 23 [G 3 tri20, .is [1, 1, 0]] (.tup [.p (.agg [.i 0, .i 1, .i 0, .b true]), .i 0]) [] := PC_eq20 (play_ok20 3 tri20 [1, 1, 0] (by decide) (by decide)) (by kernel_rfl)
theorem a20_5 : PC Try.prog 21 [G 3 tri20, .is [2, 1, 0]] (.tup [.p (.is [0, 2, 1]), .p (.is [0]), .i 0]) [] := PC_eq20 (closed_ok 3 tri20 [2, 1, 0] (by decide) (by decide)) (by kernel_rfl)
theorem a20_6 : PC Try.prog 27 [G 3 tri20, .i 2] (.tup [.i 1, .i 0]) [] := PC_eq20 (certain_ok 3 tri20 2 (by decide)) (by kernel_rfl)
theorem a20_7 : PC Try.prog 27 [G 3 tri20, .i 3] (.tup [.i 0, .i 0]) [] := PC_eq20 (certain_ok 3 tri20 3 (by decide)) (by kernel_rfl)
theorem a20_8 : PC Try.prog 27 [G 3 tri20, .i 4] (.tup [.i (-1), .i 0]) [] := PC_eq20 (certain_ok 3 tri20 4 (by decide)) (by kernel_rfl)
set_option maxRecDepth 10000 in
theorem awake20_ok : PC Try.prog 12 [] (.b true) [] := by
  refine PC_of_W cfn12 ?_
  simp -implicitDefEqProofs (disch := omega) [c12, List.getElem?_cons_zero, List.getElem?_cons_succ, wrap_id]
  refine HC_of_PC rfl (tri20_ok) ?_
  simp -implicitDefEqProofs (disch := omega) [List.getElem?_cons_zero, List.getElem?_cons_succ, wrap_id]
  refine HC_of_PC rfl (a20_1) ?_
  simp -implicitDefEqProofs (disch := omega) [List.getElem?_cons_zero, List.getElem?_cons_succ, wrap_id]
  refine HC_of_PC rfl (a20_2) ?_
  simp -implicitDefEqProofs (disch := omega) [List.getElem?_cons_zero, List.getElem?_cons_succ, wrap_id]
  refine HC_of_PC rfl (equal20 [1, 2] (by decide)) ?_
  simp -implicitDefEqProofs (disch := omega) [List.getElem?_cons_zero, List.getElem?_cons_succ, wrap_id]
  refine HC_of_PC rfl (same20_17 [2, 1, 1] (by decide)) ?_
  simp -implicitDefEqProofs (disch := omega) [List.getElem?_cons_zero, List.getElem?_cons_succ, wrap_id]
  refine HC_of_PC rfl (same20_19 [2, 1, 1] [0, 1, 1] (by decide) (by decide)) ?_
  simp -implicitDefEqProofs (disch := omega) [List.getElem?_cons_zero, List.getElem?_cons_succ, wrap_id]
  refine HC_of_PC rfl (a20_3) ?_
  simp -implicitDefEqProofs (disch := omega) [List.getElem?_cons_zero, List.getElem?_cons_succ, wrap_id]
  refine HC_of_PC rfl (a20_4) ?_
  simp -implicitDefEqProofs (disch := omega) [List.getElem?_cons_zero, List.getElem?_cons_succ, wrap_id]
  refine HC_of_PC rfl (a20_5) ?_
  simp -implicitDefEqProofs (disch := omega) [List.getElem?_cons_zero, List.getElem?_cons_succ, wrap_id]
  refine HC_of_PC rfl (same20_17 [0, 2, 1] (by decide)) ?_
  simp -implicitDefEqProofs (disch := omega) [List.getElem?_cons_zero, List.getElem?_cons_succ, wrap_id]
  refine HC_of_PC rfl (equal20 [0] (by decide)) ?_
  simp -implicitDefEqProofs (disch := omega) [List.getElem?_cons_zero, List.getElem?_cons_succ, wrap_id]
  refine loopW 3 (fun j st => st = ⟨[(111, .i j), (110, .i 3), (109, .p (.is [1, 0, -1])), (1, .ptr 0 1 0 0)], [.box (.agg [.p (.i 3), .p (.sl (tri20.map edP))])]⟩) (wk_norm [0] [111, 110, 109, 1] rfl rfl) rfl ?_
  rintro j st hj rfl
  rcases (by omega : j = 0 ∨ j = 1 ∨ j = 2 ∨ j = 3) with rfl | rfl | rfl | rfl
  · simp -implicitDefEqProofs (disch := omega) [List.getElem?_cons_zero, List.getElem?_cons_succ, wrap_id]
    refine HC_of_PC rfl (a20_6) ?_
    simp -implicitDefEqProofs (disch := omega) [List.getElem?_cons_zero, List.getElem?_cons_succ, wrap_id]
    exact round_end [0] [111, 110, 109, 1] (by omega) rfl rfl
  · simp -implicitDefEqProofs (disch := omega) [List.getElem?_cons_zero, List.getElem?_cons_succ, wrap_id]
    refine HC_of_PC rfl (a20_7) ?_
    simp -implicitDefEqProofs (disch := omega) [List.getElem?_cons_zero, List.getElem?_cons_succ, wrap_id]
    exact round_end [0] [111, 110, 109, 1] (by omega) rfl rfl
  · simp -implicitDefEqProofs (disch := omega) [List.getElem?_cons_zero, List.getElem?_cons_succ, wrap_id]
    refine HC_of_PC rfl (a20_8) ?_
    simp -implicitDefEqProofs (disch := omega) [List.getElem?_cons_zero, List.getElem?_cons_succ, wrap_id]
    exact round_end [0] [111, 110, 109, 1] (by omega) rfl rfl
  · simp -implicitDefEqProofs (disch := omega) [List.getElem?_cons_zero, List.getElem?_cons_succ, wrap_id]
    (refine fin0 trivial rfl ?_; simp -implicitDefEqProofs (disch := omega) [List.getElem?_cons_zero, List.getElem?_cons_succ, idx, wrap_id])
theorem few20_len {N : Int} {es : List Ed} {d : List Int} (h : few18 N es d = true) : es.length ≤ 900 ∧ d.length ≤ 1000 := by
  simp only [few18, smallG, Bool.and_eq_true, decide_eq_true_eq] at h
  have h1 := h.1.1
  have h2 := h.2
  exact ⟨by omega, by omega⟩
theorem playedR_len {n : Nat} (hn : n ≤ 12) {es : List Ed} {q : Int} {d : List Int} (hd : d.length = n) (kk : Int) : (playedR n es q d kk).1.length ≤ 1000 ∧ (playedR n es q d kk).2.1.length ≤ 1000 := by
  unfold playedR
  split
  · simp
  · split
    · have h1 := rdC_len (n := n) (q := q) (es := es) hd (wentN n es q d (plF kk) 0).1
      have h2 := rdS_len (n := n) (q := q) (es := es) (d := d) (wentN n es q d (plF kk) 0).1
      dsimp only
      omega
    · simp
theorem roundR_len {N : Int} {es : List Ed} {q : Int} {d : List Int} : (roundR N es q d).1.length ≤ 1000 ∧ (roundR N es q d).2.1.length ≤ 1000 := by
  unfold roundR
  split
  · simp
  · rename_i h0
    obtain ⟨n, rfl, h⟩ := st_ok (Decidable.not_not.1 h0)
    split
    · have h1 := rdC_len (n := n) (q := q) (es := es) h.c.len 1
      have h2 := rdyL_12 h.g (q := q) d
      have h3 := h.n12
      rw [Int.toNat_natCast]
      dsimp only
      omega
    · simp
theorem runR_len {N : Int} {es : List Ed} {q : Int} {d : List Int} {kk : Int} : (runR N es q d kk).1.length ≤ 1000 ∧ (runR N es q d kk).2.1.length ≤ 1000 := by
  unfold runR
  split
  · simp
  · rename_i h0
    obtain ⟨n, rfl, h⟩ := st_ok (Decidable.not_not.1 h0)
    rw [Int.toNat_natCast]
    exact playedR_len h.n12 h.c.len kk
theorem roundsR_len {N : Int} {es : List Ed} {q : Int} {d : List Int} {kk : Int} : (roundsR N es q d kk).1.length ≤ 1000 ∧ (roundsR N es q d kk).2.1.length ≤ 1000 := by
  unfold roundsR
  split
  · simp
  · rename_i h0
    obtain ⟨n, rfl, h⟩ := st_ok (Decidable.not_not.1 h0)
    split
    · simp
    · rw [Int.toNat_natCast]
      exact playedR_len h.n12 h.c.len kk
theorem closedR_len {N : Int} {es : List Ed} {d : List Int} : (closedR N es d).1.length ≤ 1000 ∧ (closedR N es d).2.1.length ≤ 1000 := by
  unfold closedR
  split
  · simp
  · rename_i h0
    obtain ⟨n, rfl, h⟩ := pc_ok (Decidable.not_not.1 h0)
    have h1 := rdC_len (n := n) (q := -1) (es := es) h.len 1
    have h2 := rdyL_12 h.g (q := -1) d
    have h3 := h.g.n12
    rw [Int.toNat_natCast]
    dsimp only
    omega
theorem rounds_law (N : Int) (es : List Ed) (q : Int) (d : List Int) : PC Try.prog 3 [G N es, .i q, .is d] (.b true) [] := by
  refine PC_of_W cfn3 ?_
  simp -implicitDefEqProofs (disch := omega) [c3, List.getElem?_cons_zero, List.getElem?_cons_succ, wrap_id]
  refine HC_of_PC rfl (rfew_ok N es d) ?_
  cases hf : few18 N es d
  · simp -implicitDefEqProofs (disch := omega) [List.getElem?_cons_zero, List.getElem?_cons_succ, wrap_id]
    refine HC_of_PC rfl (awake20_ok) ?_
    simp -implicitDefEqProofs (disch := omega) [List.getElem?_cons_zero, List.getElem?_cons_succ, wrap_id]
    (refine fin0 trivial rfl ?_; simp -implicitDefEqProofs (disch := omega) [List.getElem?_cons_zero, List.getElem?_cons_succ, idx, wrap_id])
  obtain ⟨he, hd⟩ := few20_len hf
  have l1 := roundR_len (N := N) (es := es) (q := q) (d := d)
  have l2 := runR_len (N := N) (es := es) (q := q) (d := d) (kk := -1)
  simp -implicitDefEqProofs (disch := omega) [List.getElem?_cons_zero, List.getElem?_cons_succ, wrap_id]
  refine HC_of_PC rfl (round_ok N es q d he hd) ?_
  simp -implicitDefEqProofs (disch := omega) [List.getElem?_cons_zero, List.getElem?_cons_succ, wrap_id]
  refine HC_of_PC rfl (rround20_ok N es q d he hd) ?_
  simp -implicitDefEqProofs (disch := omega) [List.getElem?_cons_zero, List.getElem?_cons_succ, wrap_id]
  refine HC_of_PC rfl (same20_17 _ l1.1) ?_
  simp -implicitDefEqProofs (disch := omega) [List.getElem?_cons_zero, List.getElem?_cons_succ, wrap_id]
  refine HC_of_PC rfl (equal20 _ (by omega)) ?_
  simp -implicitDefEqProofs (disch := omega) [List.getElem?_cons_zero, List.getElem?_cons_succ, wrap_id]
  refine HC_of_PC rfl (run_ok N es q d he hd) ?_
  simp -implicitDefEqProofs (disch := omega) [List.getElem?_cons_zero, List.getElem?_cons_succ, wrap_id]
  refine HC_of_PC rfl (rrun20_ok N es q d he hd) ?_
  simp -implicitDefEqProofs (disch := omega) [List.getElem?_cons_zero, List.getElem?_cons_succ, wrap_id]
  refine HC_of_PC rfl (same20_19 _ _ l2.1 l2.2) ?_
  simp -implicitDefEqProofs (disch := omega) [List.getElem?_cons_zero, List.getElem?_cons_succ, wrap_id]
  refine HC_of_PC rfl (awake20_ok) ?_
  simp -implicitDefEqProofs (disch := omega) [List.getElem?_cons_zero, List.getElem?_cons_succ, wrap_id]
  (refine fin0 trivial rfl ?_; simp -implicitDefEqProofs (disch := omega) [List.getElem?_cons_zero, List.getElem?_cons_succ, idx, wrap_id])
theorem parts_law (N : Int) (es : List Ed) (q kk : Int) (d : List Int) : PC Try.prog 7 [G N es, .agg [.i q, .i kk], .is d] (.b true) [] := by
  refine PC_of_W cfn7 ?_
  simp -implicitDefEqProofs (disch := omega) [c7, List.getElem?_cons_zero, List.getElem?_cons_succ, wrap_id]
  refine HC_of_PC rfl (rfew_ok N es d) ?_
  cases hf : few18 N es d
  · simp -implicitDefEqProofs (disch := omega) [List.getElem?_cons_zero, List.getElem?_cons_succ, wrap_id]
    refine HC_of_PC rfl (awake20_ok) ?_
    simp -implicitDefEqProofs (disch := omega) [List.getElem?_cons_zero, List.getElem?_cons_succ, wrap_id]
    (refine fin0 trivial rfl ?_; simp -implicitDefEqProofs (disch := omega) [List.getElem?_cons_zero, List.getElem?_cons_succ, idx, wrap_id])
  obtain ⟨he, hd⟩ := few20_len hf
  have l1 := roundsR_len (N := N) (es := es) (q := q) (d := d) (kk := kk)
  simp -implicitDefEqProofs (disch := omega) [List.getElem?_cons_zero, List.getElem?_cons_succ, wrap_id]
  refine HC_of_PC rfl (rounds_ok N es q d he hd kk) ?_
  simp -implicitDefEqProofs (disch := omega) [List.getElem?_cons_zero, List.getElem?_cons_succ, wrap_id]
  refine HC_of_PC rfl (rrounds20_ok N es q d he hd kk) ?_
  simp -implicitDefEqProofs (disch := omega) [List.getElem?_cons_zero, List.getElem?_cons_succ, wrap_id]
  refine HC_of_PC rfl (same20_19 _ _ l1.1 l1.2) ?_
  simp -implicitDefEqProofs (disch := omega) [List.getElem?_cons_zero, List.getElem?_cons_succ, wrap_id]
  refine HC_of_PC rfl (awake20_ok) ?_
  simp -implicitDefEqProofs (disch := omega) [List.getElem?_cons_zero, List.getElem?_cons_succ, wrap_id]
  (refine fin0 trivial rfl ?_; simp -implicitDefEqProofs (disch := omega) [List.getElem?_cons_zero, List.getElem?_cons_succ, idx, wrap_id])
theorem dfew_nil : PC Try.prog 40 [.nil] (.b true) [] := by
  refine PC_of_W cfn40 ?_
  simp -implicitDefEqProofs (disch := omega) [c40, List.getElem?_cons_zero, List.getElem?_cons_succ, wrap_id]
  (refine fin0 trivial rfl ?_; simp -implicitDefEqProofs (disch := omega) [List.getElem?_cons_zero, List.getElem?_cons_succ, idx, wrap_id])
theorem few_nil (N : Int) (es : List Ed) : PC Try.prog 11 [G N es, .nil] (.b (few18 N es [])) [] := by
  refine PC_of_W cfn11 ?_
  simp -implicitDefEqProofs (disch := omega) [c11, List.getElem?_cons_zero, List.getElem?_cons_succ, wrap_id]
  refine HC_of_PC rfl (few8_ok N es) ?_
  cases h : smallG N es 6 9
  · simp -implicitDefEqProofs (disch := omega) [List.getElem?_cons_zero, List.getElem?_cons_succ, wrap_id]
    (refine fin0 trivial rfl ?_; simp -implicitDefEqProofs (disch := omega) [List.getElem?_cons_zero, List.getElem?_cons_succ, idx, wrap_id, few18, h])
  · simp -implicitDefEqProofs (disch := omega) [List.getElem?_cons_zero, List.getElem?_cons_succ, wrap_id]
    refine HC_of_PC rfl (dfew_nil) ?_
    simp -implicitDefEqProofs (disch := omega) [List.getElem?_cons_zero, List.getElem?_cons_succ, wrap_id]
    (refine fin0 trivial rfl ?_; simp -implicitDefEqProofs (disch := omega) [List.getElem?_cons_zero, List.getElem?_cons_succ, idx, wrap_id, few18, h])
theorem certain_law (N : Int) (es : List Ed) (c : Int) : PC Try.prog 5 [G N es, .i c] (.b true) [] := by
  refine PC_of_W cfn5 ?_
  simp -implicitDefEqProofs (disch := omega) [c5, List.getElem?_cons_zero, List.getElem?_cons_succ, wrap_id]
  refine HC_of_PC rfl (few_nil N es) ?_
  cases hf : few18 N es []
  · simp -implicitDefEqProofs (disch := omega) [List.getElem?_cons_zero, List.getElem?_cons_succ, wrap_id]
    refine HC_of_PC rfl (awake20_ok) ?_
    simp -implicitDefEqProofs (disch := omega) [List.getElem?_cons_zero, List.getElem?_cons_succ, wrap_id]
    (refine fin0 trivial rfl ?_; simp -implicitDefEqProofs (disch := omega) [List.getElem?_cons_zero, List.getElem?_cons_succ, idx, wrap_id])
  obtain ⟨he, -⟩ := few20_len hf
  simp -implicitDefEqProofs (disch := omega) [List.getElem?_cons_zero, List.getElem?_cons_succ, wrap_id]
  refine HC_of_PC rfl (certain_ok N es c he) ?_
  simp -implicitDefEqProofs (disch := omega) [List.getElem?_cons_zero, List.getElem?_cons_succ, wrap_id]
  refine HC_of_PC rfl (rcertain_ok N es he c) ?_
  simp -implicitDefEqProofs (disch := omega) [List.getElem?_cons_zero, List.getElem?_cons_succ, wrap_id]
  refine HC_of_PC rfl (awake20_ok) ?_
  simp -implicitDefEqProofs (disch := omega) [List.getElem?_cons_zero, List.getElem?_cons_succ, wrap_id]
  (refine fin0 trivial rfl ?_; simp -implicitDefEqProofs (disch := omega) [List.getElem?_cons_zero, List.getElem?_cons_succ, idx, wrap_id])
def few20 (N : Int) (es : List Ed) (d : List Int) : Bool := few18 N es d && (d.all in60 || decide (pcE N es d ≠ 0))
theorem rfew20_ok (N : Int) (es : List Ed) (d : List Int) : PC Try.prog 20 [G N es, .is d] (.b (few20 N es d)) [] := by
  refine PC_of_W cfn20 ?_
  simp -implicitDefEqProofs (disch := omega) [c20, List.getElem?_cons_zero, List.getElem?_cons_succ, wrap_id]
  refine HC_of_PC rfl (rfew_ok N es d) ?_
  cases hf : few18 N es d
  · simp -implicitDefEqProofs (disch := omega) [List.getElem?_cons_zero, List.getElem?_cons_succ, wrap_id]
    (refine fin0 trivial rfl ?_; simp -implicitDefEqProofs (disch := omega) [List.getElem?_cons_zero, List.getElem?_cons_succ, idx, wrap_id, few20, hf])
  obtain ⟨he, hd⟩ := few20_len hf
  simp -implicitDefEqProofs (disch := omega) [List.getElem?_cons_zero, List.getElem?_cons_succ, wrap_id]
  refine HC_of_PC rfl (dsmall_ok d (by omega)) ?_
  cases h2 : d.all in60
  · simp -implicitDefEqProofs (disch := omega) [List.getElem?_cons_zero, List.getElem?_cons_succ, wrap_id]
    refine HC_of_PC rfl (r20check_ok N es d he hd) ?_
    by_cases h3 : pcE N es d = 0
    · simp -implicitDefEqProofs (disch := omega) [List.getElem?_cons_zero, List.getElem?_cons_succ, wrap_id, h3]
      (refine fin0 trivial rfl ?_; simp -implicitDefEqProofs (disch := omega) [List.getElem?_cons_zero, List.getElem?_cons_succ, idx, wrap_id, few20, hf, h2, h3])
    · simp -implicitDefEqProofs (disch := omega) [List.getElem?_cons_zero, List.getElem?_cons_succ, wrap_id, h3]
      (refine fin0 trivial rfl ?_; simp -implicitDefEqProofs (disch := omega) [List.getElem?_cons_zero, List.getElem?_cons_succ, idx, wrap_id, few20, hf, h2, h3])
  · simp -implicitDefEqProofs (disch := omega) [List.getElem?_cons_zero, List.getElem?_cons_succ, wrap_id]
    (refine fin0 trivial rfl ?_; simp -implicitDefEqProofs (disch := omega) [List.getElem?_cons_zero, List.getElem?_cons_succ, idx, wrap_id, few20, hf, h2])
theorem pgF_bd {n : Nat} (hn : n ≤ 12) {es : List Ed} {d : List Int} : ∀ f k, k + f ≤ 5000 → 0 ≤ (pgF n es d f k).1.1 ∧ (pgF n es d f k).1.1 ≤ 5000 ∧ 0 ≤ (pgF n es d f k).1.2.1 ∧ (pgF n es d f k).1.2.1 ≤ 5000 ∧ -100000 ≤ (pgF n es d f k).1.2.2.1 ∧ (pgF n es d f k).1.2.2.1 ≤ 100000
  | 0, k, _ => by simp [pgF]
  | f + 1, k, h => by
    rw [pgF_succ]
    split
    · split
      · simp
      · dsimp only; omega
    · split
      · simp
      · cases hF : fstC n es d k with
        | none => exact pgF_bd hn f (k + 1) (by omega)
        | some i =>
          have h1 := (fstC_some hF).1
          have h2 := rdS_sum12 (es := es) (q := -1) (d := d) hn (k + 1)
          have h3 := rdS_sum12 (es := es) (q := -1) (d := d) hn i
          push_cast at h2 h3
          dsimp only
          omega
theorem gameR_bd {N : Int} {es : List Ed} {d : List Int} : 0 ≤ (gameR N es d).1.1 ∧ (gameR N es d).1.1 ≤ 5000 ∧ 0 ≤ (gameR N es d).1.2.1 ∧ (gameR N es d).1.2.1 ≤ 5000 ∧ -100000 ≤ (gameR N es d).1.2.2.1 ∧ (gameR N es d).1.2.2.1 ≤ 100000 := by
  unfold gameR
  split
  · simp
  · rename_i h0
    obtain ⟨n, rfl, h⟩ := pc_ok (Decidable.not_not.1 h0)
    have := h.g.n12
    exact pgF_bd (by omega) 4097 0 (by omega)
theorem games_law (N : Int) (es : List Ed) (d : List Int) : PC Try.prog 4 [G N es, .is d] (.b true) [] := by
  refine PC_of_W cfn4 ?_
  simp -implicitDefEqProofs (disch := omega) [c4, List.getElem?_cons_zero, List.getElem?_cons_succ, wrap_id]
  refine HC_of_PC rfl (rfew20_ok N es d) ?_
  cases hf : few20 N es d
  · simp -implicitDefEqProofs (disch := omega) [List.getElem?_cons_zero, List.getElem?_cons_succ, wrap_id]
    refine HC_of_PC rfl (awake20_ok) ?_
    simp -implicitDefEqProofs (disch := omega) [List.getElem?_cons_zero, List.getElem?_cons_succ, wrap_id]
    (refine fin0 trivial rfl ?_; simp -implicitDefEqProofs (disch := omega) [List.getElem?_cons_zero, List.getElem?_cons_succ, idx, wrap_id])
  have hf2 : few18 N es d = true := by
    unfold few20 at hf
    simp only [Bool.and_eq_true] at hf
    exact hf.1
  obtain ⟨he, hd⟩ := few20_len hf2
  have b1 : -9223372036854775808 ≤ (gameR N es d).1.1 := by have := gameR_bd (N := N) (es := es) (d := d); omega
  have b2 : (gameR N es d).1.1 ≤ 9223372036854775807 := by have := gameR_bd (N := N) (es := es) (d := d); omega
  have b3 : -9223372036854775808 ≤ (gameR N es d).1.2.1 := by have := gameR_bd (N := N) (es := es) (d := d); omega
  have b4 : (gameR N es d).1.2.1 ≤ 9223372036854775807 := by have := gameR_bd (N := N) (es := es) (d := d); omega
  have b5 : -9223372036854775808 ≤ (gameR N es d).1.2.2.1 := by have := gameR_bd (N := N) (es := es) (d := d); omega
  have b6 : (gameR N es d).1.2.2.1 ≤ 9223372036854775807 := by have := gameR_bd (N := N) (es := es) (d := d); omega
  have l1 := closedR_len (N := N) (es := es) (d := d)
  simp -implicitDefEqProofs (disch := omega) [List.getElem?_cons_zero, List.getElem?_cons_succ, wrap_id]
  refine HC_of_PC rfl (closed_ok N es d he hd) ?_
  simp -implicitDefEqProofs (disch := omega) [List.getElem?_cons_zero, List.getElem?_cons_succ, wrap_id]
  refine HC_of_PC rfl (rclosed20_ok N es d he hd) ?_
  simp -implicitDefEqProofs (disch := omega) [List.getElem?_cons_zero, List.getElem?_cons_succ, wrap_id]
  refine HC_of_PC rfl (play_ok20 N es d he hd) ?_
  simp -implicitDefEqProofs (disch := omega) [List.getElem?_cons_zero, List.getElem?_cons_succ, wrap_id]
  refine HC_of_PC rfl (rplay20_ok N es d he hd) ?_
  simp -implicitDefEqProofs (disch := omega) [List.getElem?_cons_zero, List.getElem?_cons_succ, wrap_id]
  refine HC_of_PC rfl (pcheck_ok N es d he hd) ?_
  simp -implicitDefEqProofs (disch := omega) [List.getElem?_cons_zero, List.getElem?_cons_succ, wrap_id]
  refine HC_of_PC rfl (r20check_ok N es d he hd) ?_
  simp -implicitDefEqProofs (disch := omega) [List.getElem?_cons_zero, List.getElem?_cons_succ, wrap_id]
  refine HC_of_PC rfl (same20_17 _ l1.1) ?_
  simp -implicitDefEqProofs (disch := omega) [List.getElem?_cons_zero, List.getElem?_cons_succ, wrap_id]
  refine HC_of_PC rfl (equal20 _ (by omega)) ?_
  simp -implicitDefEqProofs (disch := omega) [List.getElem?_cons_zero, List.getElem?_cons_succ, wrap_id, b1, b2, b3, b4, b5, b6]
  refine HC_of_PC rfl (awake20_ok) ?_
  simp -implicitDefEqProofs (disch := omega) [List.getElem?_cons_zero, List.getElem?_cons_succ, wrap_id]
  (refine fin0 trivial rfl ?_; simp -implicitDefEqProofs (disch := omega) [List.getElem?_cons_zero, List.getElem?_cons_succ, idx, wrap_id])
end Go.Proofs.Ytamiekhoaggpkaa
end
section
namespace Go
namespace Abs
open Go.RowKit
section
variable {H : Type} {enc : TypeId × Value → H} {P : Program} {w : World} {base : Nat} {spare : Nat → Bool} {held : Bool} {fuel : Nat} {cs : List Value} {x : DataW H × List MemPlace} {t : TypeId}
/-- What stands in memory now. -/
abbrev Here (w : World) : Nat → Prop := fun b => b < w.heap.size
theorem open_int (ht : P.underlying t = some (.int .i64)) (h : DataW.trod enc P w base spare held fuel t cs = some x) : ∃ n : Int, cs = [.int .i64 n] ∧ RP (Here w) w (.i n) (.int .i64 n) := by
  obtain ⟨n, h1, -, -⟩ := DataW.trod_int ht h
  exact ⟨n, h1, .v _ rfl⟩
theorem addr_plus {a : Addr} (h : a.spot = none) (n : Nat) : a.add n = ⟨a.block, a.off + n, none⟩ := by
  unfold Addr.add
  split
  · rename_i e; subst e; cases a; cases h; rfl
  · rfl
theorem cell_spot {a : Addr} {v : Value} (h : w.cell? a = some v) : a.spot = none ∧ a.block < w.heap.size := by
  unfold World.cell? at h
  split at h
  · rename_i c t' z hb
    split at h
    · cases h
    · rename_i hs
      exact ⟨by cases ha : a.spot; rfl; rw [ha] at hs; exact absurd rfl hs, (Array.getElem?_eq_some_iff.1 hb).1⟩
  · cases h
theorem open_sl {e : TypeId} {β : Type} (g : β → PV) (sz : Nat) (hpos : 0 < sz) (ht : P.underlying t = some (.slice e)) (hc : P.cellsOf e = sz) (hg : ∀ b, (g b).flat.length = sz ∧ ∀ q ∈ (g b).flat, q.one = true)
    (hel : ∀ {fuel : Nat} {cs : List Value} {x : DataW H × List MemPlace}, DataW.trod enc P w base spare held fuel e cs = some x → ∃ b, ∀ i (h : i < (g b).flat.length) (h' : i < cs.length), RP (Here w) w (g b).flat[i] cs[i])
    (h : DataW.trod enc P w base spare held fuel t cs = some x) : ∃ (bs : List β) (v : Value), cs = [v] ∧ RP (Here w) w (.sl (bs.map g)) v := by
  rcases DataW.trod_slice ht h with ⟨h0, -⟩ | ⟨a, len, cap, elems, rest, n, -, rfl, -, -, hl, hm, hlen, hels, -, -⟩
  · refine ⟨[], _, h0, ?_⟩
    exact .sl [] none 0 0 (fun _ _ => undef) (by simp) (by simp) (fun i h => by simp at h) (.inl rfl) (fun i h => by simp at h)
  have each : ∀ i : _root_.Fin len, ∃ p : List Value × β, w.cells? base (a.add (i.1 * P.cellsOf e)) (P.cellsOf e) = some p.1 ∧ ∀ j (h : j < (g p.2).flat.length) (h' : j < p.1.length), RP (Here w) w (g p.2).flat[j] p.1[j] := by
    intro i
    have hb := hels i.1 i.2
    rw [List.getElem?_eq_getElem (by omega), Option.bind_eq_some_iff] at hb
    obtain ⟨cs', h1, h2⟩ := hb
    obtain ⟨b, hb⟩ := hel h2
    exact ⟨⟨cs', b⟩, h1, hb⟩
  obtain ⟨F, hF⟩ : ∃ F : _root_.Fin len → List Value × β, ∀ i, w.cells? base (a.add (i.1 * P.cellsOf e)) (P.cellsOf e) = some (F i).1 ∧ ∀ j (h : j < (g (F i).2).flat.length) (h' : j < (F i).1.length), RP (Here w) w (g (F i).2).flat[j] (F i).1[j] :=
    ⟨fun i => (each i).choose, fun i => (each i).choose_spec⟩
  refine ⟨List.ofFn fun i => (F i).2, _, rfl, ?_⟩
  have hlen' : ((List.ofFn fun i => (F i).2).map g).length = len := by simp
  have hsz : ∀ i, (F i).1.length = sz := fun i => by rw [(World.cells?_some (hF i).1).2.1, hc]
  have hcell : ∀ i : _root_.Fin len, ∀ j (hj : j < sz), w.cell? ((a.add (i.1 * sz)).add j) = some ((F i).1[j]'(by rw [hsz]; exact hj)) := by
    intro i j hj
    have := (World.cells?_some (hF i).1).2.2 j (by rw [hc]; exact hj)
    rw [hc] at this
    rw [this, List.getElem?_eq_getElem]
  have main := RP.sl (S := Here w) (w := w) ((List.ofFn fun i => (F i).2).map g) (some a) cap sz (fun i j => if h : i < len then (F ⟨i, h⟩).1.getD j undef else undef) (by rw [hlen']; exact hl) hm (fun i hi => by
      rw [List.getElem_map]; exact hg _) ?_ ?_
  · rw [hlen'] at main
    exact main
  · rcases Nat.eq_zero_or_pos len with h0 | h0
    · left
      exact List.eq_nil_of_length_eq_zero (by rw [hlen', h0])
    · right
      have h1 := hcell ⟨0, h0⟩ 0 hpos
      simp only [Nat.zero_mul] at h1
      have h2 : a.add 0 = a := rfl
      rw [h2, h2] at h1
      obtain ⟨s1, s2⟩ := cell_spot h1
      refine ⟨a.block, a.off, by cases a; cases s1; rfl, s2, fun i j hi hj => ?_⟩
      rw [hlen'] at hi
      have h3 := hcell ⟨i, hi⟩ j hj
      rw [addr_plus s1, addr_plus rfl] at h3
      rw [dif_pos hi]
      refine h3.trans ?_
      rw [List.getD_eq_getElem?_getD, List.getElem?_eq_getElem]
      rfl
  · intro i hi j hj
    rw [hlen'] at hi
    simp only [List.getElem_map, List.getElem_ofFn] at hj ⊢
    rw [dif_pos hi, List.getD_eq_getElem?_getD, List.getElem?_eq_getElem (by rw [hsz, ← (hg (F ⟨i, hi⟩).2).1]; exact hj)]
    exact (hF ⟨i, hi⟩).2 j hj _
end
end Abs
end Go
/-
  Handed arguments of any shape, as values of the abstract machine.
-/
namespace Go
namespace Abs
open Go.RowKit Go.ChangeShapes Go.WideShapes Go.ChangeAt
/-- Whatever is read at a type is one of these values. -/
structure Opens (P : Program) (t : TypeId) {β : Type} (g : β → PV) : Prop where
  one : ∀ b, ∀ q ∈ (g b).flat, q.one = true
  len : ∀ b, (g b).flat.length = P.cellsOf t
  red : ∀ {H : Type} {enc : TypeId × Value → H} {w : World} {base : Nat} {spare : Nat → Bool} {held : Bool} {fuel : Nat} {cs : List Value} {x : DataW H × List MemPlace},
    DataW.trod enc P w base spare held fuel t cs = some x → ∃ b, RPs (Here w) w (g b).flat cs
theorem flat_agg (l : List PV) : (PV.agg l).flat = l := rfl
section
variable {P : Program} {t : TypeId}
theorem Opens.to {β γ : Type} {g : β → PV} {g' : γ → PV} (h : Opens P t g) (f : β → γ) (k : γ → β) (e : ∀ b, g b = g' (f b)) (e' : ∀ c, g' c = g (k c)) : Opens P t g' := by
  refine ⟨fun b => ?_, fun b => ?_, fun hr => ?_⟩
  · rw [e' b]; exact h.one _
  · rw [e' b]; exact h.len _
  · obtain ⟨b, hb⟩ := h.red hr
    exact ⟨f b, e b ▸ hb⟩
theorem RPs_one {S : Nat → Prop} {w : World} {x : PV} {v : Value} (h : RP S w x v) : RPs S w [x] [v] := ⟨rfl, fun i hi hi' => by
  have : i = 0 := by simp at hi; omega
  subst this; exact h⟩
theorem RPs_app {S : Nat → Prop} {w : World} {a b : List PV} {cs : List Value} (h1 : RPs S w a (cs.take a.length)) (h2 : RPs S w b (cs.drop a.length)) : RPs S w (a ++ b) cs := by
  have l1 := h1.1
  have l2 := h2.1
  simp only [List.length_take, List.length_drop] at l1 l2
  refine ⟨by rw [List.length_append]; omega, fun i hi hi' => ?_⟩
  by_cases hc : i < a.length
  · have := h1.2 i hc (by simp; omega)
    rw [List.getElem_take] at this
    rw [List.getElem_append_left hc]
    exact this
  · have := h2.2 (i - a.length) (by rw [List.length_append] at hi; omega) (by simp; omega)
    rw [List.getElem_append_right (by omega)]
    simp only [List.getElem_drop] at this
    have e : a.length + (i - a.length) = i := by omega
    simp only [e] at this
    exact this
theorem opens_int (ht : P.underlying t = some (.int .i64)) (hc : P.cellsOf t = 1) : Opens P t PV.i := by
  refine ⟨fun b q hq => by simp [PV.flat] at hq; subst hq; rfl, fun b => by rw [hc]; rfl, fun h => ?_⟩
  obtain ⟨n, rfl, hr⟩ := open_int ht h
  exact ⟨n, RPs_one hr⟩
theorem opens_slice {e : TypeId} {β : Type} {g : β → PV} (he : Opens P e g) (ht : P.underlying t = some (.slice e)) (hp : 0 < P.cellsOf e) (hc : P.cellsOf t = 1) : Opens P t (fun l : List β => PV.sl (l.map g)) := by
  refine ⟨fun b q hq => by simp [PV.flat] at hq; subst hq; rfl, fun b => by rw [hc]; rfl, fun h => ?_⟩
  obtain ⟨bs, v, rfl, hr⟩ := open_sl g (P.cellsOf e) hp ht rfl (fun b => ⟨he.len b, he.one b⟩) (fun h => by
    obtain ⟨b, hb⟩ := he.red h
    exact ⟨b, fun i hi hi' => hb.2 i hi hi'⟩) h
  exact ⟨bs, RPs_one hr⟩
theorem opens_struct2 {f0 f1 : Field} {β γ : Type} {g0 : β → PV} {g1 : γ → PV} (h0 : Opens P f0.type g0) (h1 : Opens P f1.type g1) (ht : P.underlying t = some (.struct #[f0, f1]))
    (ho0 : f0.offset = 0) (ho1 : f1.offset = P.cellsOf f0.type) (hc : P.cellsOf t = P.cellsOf f0.type + P.cellsOf f1.type) : Opens P t (fun p : β × γ => PV.agg ((g0 p.1).flat ++ (g1 p.2).flat)) := by
  refine ⟨fun b q hq => ?_, fun b => ?_, fun h => ?_⟩
  · simp only [flat_agg, List.mem_append] at hq
    exact hq.elim (h0.one _ _) (h1.one _ _)
  · simp only [flat_agg, List.length_append, h0.len, h1.len, hc]
  · obtain ⟨y0, y1, n, -, hl, k0, k1⟩ := trod_struct2 ht h
    obtain ⟨b0, r0⟩ := h0.red k0
    obtain ⟨b1, r1⟩ := h1.red k1
    refine ⟨(b0, b1), RPs_app ?_ ?_⟩
    · rw [h0.len]; rw [ho0, List.drop_zero] at r0; exact r0
    · rw [h0.len]; rw [ho1, List.take_of_length_le (by rw [List.length_drop]; omega)] at r1; exact r1
theorem opens_struct3 {f0 f1 f2 : Field} {β γ δ : Type} {g0 : β → PV} {g1 : γ → PV} {g2 : δ → PV} (h0 : Opens P f0.type g0) (h1 : Opens P f1.type g1) (h2 : Opens P f2.type g2) (ht : P.underlying t = some (.struct #[f0, f1, f2]))
    (ho0 : f0.offset = 0) (ho1 : f1.offset = P.cellsOf f0.type) (ho2 : f2.offset = P.cellsOf f0.type + P.cellsOf f1.type) (hc : P.cellsOf t = P.cellsOf f0.type + P.cellsOf f1.type + P.cellsOf f2.type) :
    Opens P t (fun p : β × γ × δ => PV.agg ((g0 p.1).flat ++ ((g1 p.2.1).flat ++ (g2 p.2.2).flat))) := by
  refine ⟨fun b q hq => ?_, fun b => ?_, fun h => ?_⟩
  · simp only [flat_agg, List.mem_append] at hq
    rcases hq with hq | hq | hq
    · exact h0.one _ _ hq
    · exact h1.one _ _ hq
    · exact h2.one _ _ hq
  · simp only [flat_agg, List.length_append, h0.len, h1.len, h2.len, hc]
    omega
  · obtain ⟨y0, y1, y2, n, -, hl, k0, k1, k2⟩ := Go.Deep.trod_struct3 ht h
    obtain ⟨b0, r0⟩ := h0.red k0
    obtain ⟨b1, r1⟩ := h1.red k1
    obtain ⟨b2, r2⟩ := h2.red k2
    refine ⟨(b0, b1, b2), RPs_app ?_ (RPs_app ?_ ?_)⟩
    · rw [h0.len]; rw [ho0, List.drop_zero] at r0; exact r0
    · rw [h0.len, h1.len]; rw [ho1] at r1; exact r1
    · rw [h0.len, h1.len, List.drop_drop]; rw [ho2, List.take_of_length_le (by rw [List.length_drop]; omega)] at r2; exact r2
section
variable {H : Type} {enc : TypeId × Value → H} {w : World} {base : Nat} {spare : Nat → Bool} {held : Bool} {v : Value} {d : DataW H} {p : List MemPlace} {r : Reach} {base' : Nat} {β : Type} {g : β → PV}
theorem arg_one (h : Opens P t g) (hg : ∀ b, (g b).flat = [g b]) (hv : v.cells.toList = [v]) (hd : DataW.Trod enc P w base spare held t v d p) : ∃ b, RP (Here w) w (g b) v := by
  obtain ⟨m, hm⟩ := hd
  obtain ⟨b, hb⟩ := h.red hm
  refine ⟨b, ?_⟩
  rw [hg b, hv] at hb
  exact hb.2 0 (by simp) (by simp)
theorem arg_int {g : β → PV} (h : Opens P t g) (ht : P.underlying t = some (.int .i64)) (hg : ∀ b, (g b).flat = [g b]) (hw : Value.okWide P w r base' t v) (hd : DataW.Trod enc P w base spare held t v d p) : ∃ b, RP (Here w) w (g b) v := by
  obtain ⟨n, rfl⟩ := okWide_int ht hw
  exact arg_one h hg rfl hd
theorem arg_slice {e : TypeId} {g : β → PV} (h : Opens P t g) (ht : P.underlying t = some (.slice e)) (hg : ∀ b, (g b).flat = [g b]) (hw : Value.okWide P w r base' t v) (hd : DataW.Trod enc P w base spare held t v d p) : ∃ b, RP (Here w) w (g b) v := by
  obtain ⟨a, len, cap, rfl⟩ := okWide_slice ht hw
  exact arg_one h hg rfl hd
theorem arg_agg {cs : Array Value} (h : Opens P t g) (hg : ∀ b, g b = .agg (g b).flat) (hd : DataW.Trod enc P w base spare held t (.agg cs) d p) : ∃ b, RP (Here w) w (g b) (.agg cs) := by
  obtain ⟨m, hm⟩ := hd
  obtain ⟨b, hb⟩ := h.red hm
  refine ⟨b, ?_⟩
  rw [hg b]
  exact .agg _ _ hb.1 (h.one b) fun i hi hi' => hb.2 i hi hi'
theorem arg_struct {fs : Array Field} (h : Opens P t g) (ht : P.underlying t = some (.struct fs)) (hg : ∀ b, g b = .agg (g b).flat) (hw : Value.okWide P w r base' t v) (hd : DataW.Trod enc P w base spare held t v d p) : ∃ b, RP (Here w) w (g b) v := by
  obtain ⟨cs, rfl, -⟩ := okWide_struct ht hw
  exact arg_agg h hg hd
end
end
end Abs
end Go
end
section
namespace Go.Proofs.Ytamiekhoaggpkaa
open Go.Abs Go.Sand Go.ChangeShapes Go.WideShapes Go.ChangeAt Go.RowKit
theorem own : ownKnob Try.prog.godebug = none := by kernel_rfl
theorem laidOut : laidOutB Try.prog = true := by kernel_rfl
theorem cells_int : Try.prog.cellsOf 3 = 1 := by kernel_rfl
theorem cells_div : Try.prog.cellsOf 26 = 1 := by kernel_rfl
theorem cells_edges : Try.prog.cellsOf 22 = 1 := by kernel_rfl
theorem cells_edge : Try.prog.cellsOf 139 = 3 := by kernel_rfl
theorem cells_graph : Try.prog.cellsOf 24 = 2 := by kernel_rfl
theorem o_int : Opens Try.prog 3 PV.i := opens_int Try.underlying3 cells_int
theorem o_div : Opens Try.prog 26 PV.is := opens_slice o_int Try.underlying26 (by rw [cells_int]; decide) cells_div
theorem o_edge : Opens Try.prog 139 edP :=
  (opens_struct3 o_int o_int o_int Try.underlying139 rfl cells_int.symm (by rw [cells_int]) (by rw [cells_int, cells_edge])).to (fun p => ⟨p.1, p.2.1, p.2.2⟩) (fun e => (e.a, e.b, e.m)) (fun _ => rfl) (fun _ => rfl)
theorem o_edges : Opens Try.prog 22 (fun l : List Ed => PV.sl (l.map edP)) := opens_slice o_edge Try.underlying22 (by rw [cells_edge]; decide) cells_edges
theorem o_graph : Opens Try.prog 24 (fun p : Int × List Ed => G p.1 p.2) :=
  opens_struct2 o_int o_edges Try.underlying24 rfl cells_int.symm (by rw [cells_int, cells_edges, cells_graph])
/-- A contract that leaves true serves as the walk. -/
theorem walk_of {f : FuncId} {ps : List PV} {vs : List Value} {w : World} (h : PC Try.prog f ps (.b true) []) (hr : RPs (Here w) w ps vs) : Calls Try.prog f vs.toArray w fun e w' => e = .returned (.bool true) ∧ Below w.heap.size w w' := by
  refine (h w (fun _ => True) vs ⟨hr.1, fun i hi hi' => (hr.2 i hi hi').mono fun b hb => ⟨⟨hb, trivial⟩, rfl⟩⟩).mono ?_
  rintro e w' ⟨v, φ, rfl, -, hv, hb⟩
  refine ⟨?_, hb⟩
  have := hv.lit
  rw [this.1]
end Go.Proofs.Ytamiekhoaggpkaa
end
section
namespace Go.Proofs.Ytamiekhoaggpkaa
open Go.Abs Go.Sand Go.ChangeShapes Go.WideShapes Go.ChangeAt Go.RowKit
theorem cells_turn : Try.prog.cellsOf 60 = 2 := by kernel_rfl
theorem o_turn : Opens Try.prog 60 (fun p : Int × Int => PV.agg [.i p.1, .i p.2]) :=
  opens_struct2 o_int o_int Try.underlying60 rfl cells_int.symm (by rw [cells_int, cells_turn])
end Go.Proofs.Ytamiekhoaggpkaa
end
