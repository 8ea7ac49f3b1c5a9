/-
  Contracts: stabilizing, toppling, what is unstable, the greatest stable configuration.
-/
import Derived.Test.YtgjaekbbdmhjlaaZh
set_option linter.unusedSimpArgs false
set_option linter.unusedVariables false
namespace Go.Proofs.Ytgjaekbbdmhjlaa
open Go.Abs Go.Sand

def unsK (n : Nat) (es : List Ed) (q : Int) (d : List Int) (k : Nat) : List Int := ((List.range k).filter fun v => unstB n es q d v).map fun v : Nat => (v : Int)
theorem unsK_succ (n : Nat) (es : List Ed) (q : Int) (d : List Int) (k : Nat) : unsK n es q d (k + 1) = unsK n es q d k ++ if unstB n es q d k = true then [(k : Int)] else [] := by
  unfold unsK
  rw [List.range_succ, List.filter_append, List.map_append]
  congr 1
  by_cases h : unstB n es q d k = true <;> simp [h]
theorem unsK_len (n : Nat) (es : List Ed) (q : Int) (d : List Int) (k : Nat) : (unsK n es q d k).length ≤ k := by
  unfold unsK
  have := List.length_filter_le (fun v => unstB n es q d v) (List.range k)
  simpa using this
theorem lo_pile {m n : Nat} {es : List Ed} {q : Int} {c s : List Int} {x : PV} {T : List AO} (hm : 4 ≤ m) (hT : ∀ ob ∈ T, loO m ob = true) : ∀ ob ∈ AO.box (.p x) :: pileH n es q c s T, loO m ob = true := by
  intro ob hob
  simp only [List.mem_cons] at hob
  rcases hob with rfl | rfl | rfl | rfl | hob
  · rfl
  · simp only [loO, loA, loL, loA_bw, Bool.and_true, Bool.true_and, Bool.and_eq_true, decide_eq_true_eq]; omega
  · rfl
  · rfl
  · exact hT ob hob
section
variable (N : Int) (es : List Ed) (q : Int) (d : List Int) (hel : es.length ≤ 900) (hd : d.length ≤ 1000)
include hel hd
def fallE (N : Int) (es : List Ed) (q : Int) (d : List Int) : Int := if stE N es q d ≠ 0 then stE N es q d else settledE N.toNat es q d
def fallS (N : Int) (es : List Ed) (q : Int) (d : List Int) : List Int := if fallE N es q d = 0 then (stabF N.toNat es q d).1 else []
def fallD (N : Int) (es : List Ed) (q : Int) (d : List Int) : List Int := if fallE N es q d = 0 then movedE es (stabF N.toNat es q d).1 d else []
theorem stabilize_ok : PC Try.prog 32 [G N es, .i q, .is d] (.tup [.p (.is (fallD N es q d)), .p (.is (fallS N es q d)), .i (fallE N es q d)]) [] := by
  refine PC_of_W cfn32 ?_
  simp -implicitDefEqProofs (disch := omega) [c32, List.getElem?_cons_zero, List.getElem?_cons_succ, wrap_id]
  by_cases h0 : stE N es q d = 0
  · obtain ⟨n, rfl, h⟩ := st_ok h0
    have hn := h.n12
    refine HC_of_PC rfl (sgiven_ok es q d hel hd n h0 h) ?_
    simp -implicitDefEqProofs (disch := omega) [List.getElem?_cons_zero, List.getElem?_cons_succ, wrap_id, bw_ren, bw_calm]
    rw [pile_past]
    refine settled_ok h.g h.v h.c ⟨h.q0, h.qn⟩ ?_
    have e : fallE n es q d = settledE n es q d := by rw [fallE, if_neg (by simp [h0]), Int.toNat_natCast]
    have hcl : (movedE es (stabF n es q d).1 d).length = n := by rw [movedE_length, h.c.len]
    have hsl : (stabF n es q d).1.length = n := (stabF_spec h.v).1.len
    by_cases h1 : settledE n es q d = 0
    · simp -implicitDefEqProofs (disch := omega) [List.getElem?_cons_zero, List.getElem?_cons_succ, wrap_id, h1]
      (refine fin0 trivial rfl ?_; simp -implicitDefEqProofs (disch := omega) [List.getElem?_cons_zero, List.getElem?_cons_succ, idx, wrap_id, hcl, hsl, fallS, fallD, e, h1])
    · simp -implicitDefEqProofs (disch := omega) [List.getElem?_cons_zero, List.getElem?_cons_succ, wrap_id, h1]
      refine finW (Wk_nil0 6 rfl) ?_
      refine finW (Wk_nil0 7 rfl) ?_
      (refine fin0 trivial rfl ?_; simp -implicitDefEqProofs (disch := omega) [List.getElem?_cons_zero, List.getElem?_cons_succ, idx, wrap_id, fallS, fallD, e, h1])
  · have e : fallE N es q d = stE N es q d := by rw [fallE, if_pos h0]
    refine HC_of_PC rfl (sgiven_err N es q d hel hd h0) ?_
    simp -implicitDefEqProofs (disch := omega) [List.getElem?_cons_zero, List.getElem?_cons_succ, wrap_id, h0]
    refine finW (Wk_nil0 6 rfl) ?_
    refine finW (Wk_nil0 7 rfl) ?_
    (refine fin0 trivial rfl ?_; simp -implicitDefEqProofs (disch := omega) [List.getElem?_cons_zero, List.getElem?_cons_succ, idx, wrap_id, fallS, fallD, e, h0])
end
end Go.Proofs.Ytgjaekbbdmhjlaa
