/-
  Contracts: graphs, in the reference: ends, sizes.
-/
import Derived.Test.YtjkmhjjfipnbbaaTd
set_option linter.unusedSimpArgs false
namespace Go.Proofs.Ytjkmhjjfipnbbaa
open Go.Abs Go.Sand

abbrev pP (p : Int × Int) : PV := .agg [.i p.1, .i p.2]
abbrev _root_.Go.Abs.PV.ps (l : List (Int × Int)) : PV := .sl (l.map pP)
theorem endsL_take_len {n : Int} {es : List Ed} (hg : ∀ x ∈ es, Right n x) (he : es.length ≤ 1000) (k : Nat) : (endsL (es.take k)).length ≤ 50000 := by
  have h1 := endsL_len (n := n) (es := es.take k) (fun x hx => hg x (List.mem_of_mem_take hx))
  have : (es.take k).length ≤ 1000 := by rw [List.length_take]; omega
  omega
theorem ends_ok (N : Int) (es : List Ed) (hg : ∀ x ∈ es, Right N x) (he : es.length ≤ 1000) : PC Try.prog 106 [G N es] (.p (.ps (endsL es))) [] := by
  refine PC_of_W cfn106 ?_
  simp -implicitDefEqProofs (disch := omega) [c106, List.getElem?_cons_zero, List.getElem?_cons_succ, wrap_id]
  refine loopW es.length (fun k s => s = ⟨[(4, .i k), (3, .os 1 0 (endsL (es.take k)).length), (1, .ptr 0 1 0 0)], [.box (.p (G N es)), .row ((endsL (es.take k)).map pP) 2 131 false]⟩) ((Wk_nil 3 2 131 rfl).trans (wk_norm [0, 1] [4, 3, 1] rfl rfl)) rfl ?_
  rintro k s hk rfl
  have hL := endsL_take_len hg he k
  by_cases hlt : k < es.length
  · have hr := hg es[k] (List.getElem_mem hlt)
    obtain ⟨m, hm⟩ : ∃ m : Nat, es[k].m = m := ⟨es[k].m.toNat, by have := hr.m1; omega⟩
    have hm50 : m ≤ 50 := by have := hr.m50; omega
    simp -implicitDefEqProofs (disch := omega) [List.getElem?_cons_zero, List.getElem?_cons_succ, wrap_id, hlt]
    refine loopW m (fun j s => s = ⟨[(5, .i j), (4, .i k), (3, .os 1 0 ((endsL (es.take k)).length + j)), (1, .ptr 0 1 0 0)], [.box (.p (G N es)), .row ((endsL (es.take k)).map pP ++ List.replicate j (pP (es[k].a, es[k].b))) 2 131 false]⟩) (wk_norm [0, 1] [5, 4, 3, 1] rfl rfl) (by rw [List.replicate_zero, List.append_nil]; rfl) ?_
    rintro j s hj rfl
    by_cases hlj : j < m
    · have hL2 : (endsL (es.take k)).length + j ≤ 1048575 := by omega
      simp -implicitDefEqProofs (disch := omega) [List.getElem?_cons_zero, List.getElem?_cons_succ, wrap_id, hlt, hlj, hm, hL2]
      exact round_end [0, 1] [5, 4, 3, 1] hlj rfl (by rw [List.replicate_succ', ← List.append_assoc]; rfl)
    · have hjm : j = m := by omega
      subst hjm
      have hs := endsL_snoc es k hlt
      rw [hm, Int.toNat_natCast] at hs
      simp -implicitDefEqProofs (disch := omega) [List.getElem?_cons_zero, List.getElem?_cons_succ, wrap_id, hlt, hm]
      exact round_end [0, 1] [4, 3, 1] hlt rfl (by rw [hs, List.length_append, List.map_append, List.map_replicate, List.length_replicate]; rfl)
  · have hk : k = es.length := by omega
    subst hk
    rw [List.take_length]
    simp -implicitDefEqProofs (disch := omega) [List.getElem?_cons_zero, List.getElem?_cons_succ, wrap_id]
    (refine fin0 trivial rfl ?_; simp -implicitDefEqProofs (disch := omega) [List.getElem?_cons_zero, List.getElem?_cons_succ, idx, wrap_id, idx])
theorem size_ok (N : Int) (es : List Ed) (hg : ∀ x ∈ es, Right N x) (he : es.length ≤ 1000) : PC Try.prog 98 [G N es] (.i (endsL es).length) [] := by
  refine PC_of_W cfn98 ?_
  simp -implicitDefEqProofs (disch := omega) [c98, List.getElem?_cons_zero, List.getElem?_cons_succ, wrap_id]
  refine HC_of_PC rfl (ends_ok N es hg he) ?_
  simp -implicitDefEqProofs (disch := omega) [List.getElem?_cons_zero, List.getElem?_cons_succ, wrap_id]
  (refine fin0 trivial rfl ?_; simp -implicitDefEqProofs (disch := omega) [List.getElem?_cons_zero, List.getElem?_cons_succ, idx, wrap_id])
theorem small_ok (N : Int) (es : List Ed) (nv ne : Int) : PC Try.prog 82 [G N es, .i nv, .i ne] (.b (smallG N es nv ne)) [] := by
  refine PC_of_W cfn82 ?_
  by_cases h1 : (40 : Int) < es.length
  · have h1' : ¬ es.length ≤ 40 := by omega
    simp -implicitDefEqProofs (disch := omega) [c82, List.getElem?_cons_zero, List.getElem?_cons_succ, wrap_id, h1]
    (refine fin0 trivial rfl ?_; simp -implicitDefEqProofs (disch := omega) [List.getElem?_cons_zero, List.getElem?_cons_succ, idx, wrap_id, smallG, h1'])
  have h1' : es.length ≤ 40 := by omega
  simp -implicitDefEqProofs (disch := omega) [c82, List.getElem?_cons_zero, List.getElem?_cons_succ, wrap_id, h1]
  refine HC_of_PC rfl (rcheck_ok N es (by omega)) ?_
  by_cases h2 : gcheck N es = 0
  rotate_left
  · simp -implicitDefEqProofs (disch := omega) [List.getElem?_cons_zero, List.getElem?_cons_succ, wrap_id, h2]
    (refine fin0 trivial rfl ?_; simp -implicitDefEqProofs (disch := omega) [List.getElem?_cons_zero, List.getElem?_cons_succ, idx, wrap_id, smallG, h1', h2])
  have hg := (gcheck_ok h2).right
  by_cases h3 : N ≤ nv
  · simp -implicitDefEqProofs (disch := omega) [List.getElem?_cons_zero, List.getElem?_cons_succ, wrap_id, h2, h3]
    refine HC_of_PC rfl (size_ok N es hg (by omega)) ?_
    simp -implicitDefEqProofs (disch := omega) [List.getElem?_cons_zero, List.getElem?_cons_succ, wrap_id]
    (refine fin0 trivial rfl ?_; simp -implicitDefEqProofs (disch := omega) [List.getElem?_cons_zero, List.getElem?_cons_succ, idx, wrap_id, smallG, h1', h2, h3])
  · simp -implicitDefEqProofs (disch := omega) [List.getElem?_cons_zero, List.getElem?_cons_succ, wrap_id, h2, h3]
    (refine fin0 trivial rfl ?_; simp -implicitDefEqProofs (disch := omega) [List.getElem?_cons_zero, List.getElem?_cons_succ, idx, wrap_id, smallG, h1', h2, h3])
theorem few8_ok (N : Int) (es : List Ed) : PC Try.prog 48 [G N es] (.b (smallG N es 6 9)) [] := by
  refine PC_of_W cfn48 ?_
  simp -implicitDefEqProofs (disch := omega) [c48, List.getElem?_cons_zero, List.getElem?_cons_succ, wrap_id]
  refine HC_of_PC rfl (small_ok N es 6 9) ?_
  simp -implicitDefEqProofs (disch := omega) [List.getElem?_cons_zero, List.getElem?_cons_succ, wrap_id]
  (refine fin0 trivial rfl ?_; simp -implicitDefEqProofs (disch := omega) [List.getElem?_cons_zero, List.getElem?_cons_succ, idx, wrap_id])
end Go.Proofs.Ytjkmhjjfipnbbaa
