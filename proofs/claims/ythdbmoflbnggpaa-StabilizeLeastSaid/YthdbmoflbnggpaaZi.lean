/-
  Contracts: stabilizing, toppling, what is unstable, the greatest stable configuration.
-/
import Derived.Test.YthdbmoflbnggpaaZh
set_option linter.unusedSimpArgs false
set_option linter.unusedVariables false
namespace Go.Proofs.Ythdbmoflbnggpaa
open Go.Abs Go.Sand

def unsK (n : Nat) (es : List Ed) (q : Int) (d : List Int) (k : Nat) : List Int := ((List.range k).filter fun v => unstB n es q d v).map fun v : Nat => (v : Int)
theorem unsK_succ (n : Nat) (es : List Ed) (q : Int) (d : List Int) (k : Nat) : unsK n es q d (k + 1) = unsK n es q d k ++ if unstB n es q d k = true then [(k : Int)] else [] := by
  unfold unsK
  rw [List.range_succ, List.filter_append, List.map_append]
  congr 1
  by_cases h : unstB n es q d k = true <;> simp [h]
theorem unsK_len (n : Nat) (es : List Ed) (q : Int) (d : List Int) (k : Nat) : (unsK n es q d k).length ≤ k := by
  unfold unsK
  have := List.length_filter_le (fun v => unstB n es q d v) (List.range k)
  simpa using this
theorem lo_pile {m n : Nat} {es : List Ed} {q : Int} {c s : List Int} {x : PV} {T : List AO} (hm : 4 ≤ m) (hT : ∀ ob ∈ T, loO m ob = true) : ∀ ob ∈ AO.box (.p x) :: pileH n es q c s T, loO m ob = true := by
  intro ob hob
  simp only [List.mem_cons] at hob
  rcases hob with rfl | rfl | rfl | rfl | hob
  · rfl
  · simp only [loO, loA, loL, loA_bw, Bool.and_true, Bool.true_and, Bool.and_eq_true, decide_eq_true_eq]; omega
  · rfl
  · rfl
  · exact hT ob hob
section
variable (N : Int) (es : List Ed) (q : Int) (d : List Int) (hel : es.length ≤ 900) (hd : d.length ≤ 1000)
include hel hd
theorem unstable_ok : PC Try.prog 26 [G N es, .i q, .is d] (.tup [.p (.is (if stE N es q d = 0 then unsK N.toNat es q d N.toNat else [])), .i (stE N es q d)]) [] := by
  refine PC_of_W cfn26 ?_
  simp -implicitDefEqProofs (disch := omega) [c26, List.getElem?_cons_zero, List.getElem?_cons_succ, wrap_id]
  by_cases h0 : stE N es q d = 0
  · obtain ⟨n, rfl, h⟩ := st_ok h0
    have hn := h.n12
    refine HC_of_PC rfl (sgiven_ok es q d hel hd n h0 h) ?_
    simp -implicitDefEqProofs (disch := omega) [List.getElem?_cons_zero, List.getElem?_cons_succ, wrap_id, bw_ren, bw_calm]
    rw [pile_past]
    have hcl := h.c.len
    simp -implicitDefEqProofs (disch := omega) [List.getElem?_cons_zero, List.getElem?_cons_succ, wrap_id, hcl]
    refine loopW n (fun k st => st = ⟨[(27, .i k), (26, .i n), (8, .ptr 1 1 0 0), (10, .os 4 0 (unsK n es q d k).length)], .box (.p (G n es)) :: pileZ n es q d [rowI (unsK n es q d k)]⟩)
      ((Wk_nil 10 1 3 rfl).trans (Wk_keep [27, 26, 8, 10])) rfl ?_
    rintro k st hk rfl
    by_cases hlt : k < n
    · have hW : ((waitsL n es q d).map AV.b)[k]? = some (.b (unstB n es q d k)) := by
        rw [List.getElem?_map, waitsL, List.getElem?_map, List.getElem?_range (by omega)]
        simp [hlt]
      have hs := unsK_succ n es q d k
      have hl := unsK_len n es q d k
      have hk12 : k < 12 := by omega
      have hl1 : (unsK n es q d k).length ≤ 1048575 := by omega
      cases hu : unstB n es q d k with
      | true =>
        rw [hu] at hW
        rw [hu, if_pos rfl] at hs
        simp -implicitDefEqProofs (disch := omega) [List.getElem?_cons_zero, List.getElem?_cons_succ, wrap_id, hlt, hW, hk12, Nat.add_comm 6 k, hl1]
        refine round_end' hlt (Wk_pop 5 [27, 26, 8, 10] (by omega) (by simp) (H' := .box (.p (G n es)) :: pileZ n es q d [rowI (unsK n es q d (k + 1))]) ?_ ?_ (lo_pile (by omega) ?_)) (by rw [hs]; simp [Abs.get])
        · rw [hs]; simp
        · intro i hi
          simp only [List.mem_cons, List.not_mem_nil, or_false] at hi
          rcases hi with rfl | rfl | rfl | rfl <;> simp [Abs.get, loA]
        · simp [loO]
      | false =>
        rw [hu] at hW hs
        simp only [Bool.false_eq_true, if_false, List.append_nil] at hs
        simp -implicitDefEqProofs (disch := omega) [List.getElem?_cons_zero, List.getElem?_cons_succ, wrap_id, hlt, hW, hk12, Nat.add_comm 6 k]
        exact round_keep [27, 26, 8, 10] hlt (by rw [hs]; rfl)
    · have hkn : n = k := by omega
      subst hkn
      simp -implicitDefEqProofs (disch := omega) [List.getElem?_cons_zero, List.getElem?_cons_succ, wrap_id]
      (refine fin0 trivial rfl ?_; simp -implicitDefEqProofs (disch := omega) [List.getElem?_cons_zero, List.getElem?_cons_succ, idx, wrap_id, h0])
  · refine HC_of_PC rfl (sgiven_err N es q d hel hd h0) ?_
    simp -implicitDefEqProofs (disch := omega) [List.getElem?_cons_zero, List.getElem?_cons_succ, wrap_id, h0]
    refine finW (Wk_nil0 6 rfl) ?_
    (refine fin0 trivial rfl ?_; simp -implicitDefEqProofs (disch := omega) [List.getElem?_cons_zero, List.getElem?_cons_succ, idx, wrap_id, h0])
def fallE (N : Int) (es : List Ed) (q : Int) (d : List Int) : Int := if stE N es q d ≠ 0 then stE N es q d else settledE N.toNat es q d
def fallS (N : Int) (es : List Ed) (q : Int) (d : List Int) : List Int := if fallE N es q d = 0 then (stabF N.toNat es q d).1 else []
def fallD (N : Int) (es : List Ed) (q : Int) (d : List Int) : List Int := if fallE N es q d = 0 then movedE es (stabF N.toNat es q d).1 d else []
theorem stabilize_ok : PC Try.prog 13 [G N es, .i q, .is d] (.tup [.p (.is (fallD N es q d)), .p (.is (fallS N es q d)), .i (fallE N es q d)]) [] := by
  refine PC_of_W cfn13 ?_
  simp -implicitDefEqProofs (disch := omega) [c13, List.getElem?_cons_zero, List.getElem?_cons_succ, wrap_id]
  by_cases h0 : stE N es q d = 0
  · obtain ⟨n, rfl, h⟩ := st_ok h0
    have hn := h.n12
    refine HC_of_PC rfl (sgiven_ok es q d hel hd n h0 h) ?_
    simp -implicitDefEqProofs (disch := omega) [List.getElem?_cons_zero, List.getElem?_cons_succ, wrap_id, bw_ren, bw_calm]
    rw [pile_past]
    refine settled_ok h.g h.v h.c ⟨h.q0, h.qn⟩ ?_
    have e : fallE n es q d = settledE n es q d := by rw [fallE, if_neg (by simp [h0]), Int.toNat_natCast]
    have hcl : (movedE es (stabF n es q d).1 d).length = n := by rw [movedE_length, h.c.len]
    have hsl : (stabF n es q d).1.length = n := (stabF_spec h.v).1.len
    by_cases h1 : settledE n es q d = 0
    · simp -implicitDefEqProofs (disch := omega) [List.getElem?_cons_zero, List.getElem?_cons_succ, wrap_id, h1]
      (refine fin0 trivial rfl ?_; simp -implicitDefEqProofs (disch := omega) [List.getElem?_cons_zero, List.getElem?_cons_succ, idx, wrap_id, hcl, hsl, fallS, fallD, e, h1])
    · simp -implicitDefEqProofs (disch := omega) [List.getElem?_cons_zero, List.getElem?_cons_succ, wrap_id, h1]
      refine finW (Wk_nil0 6 rfl) ?_
      refine finW (Wk_nil0 7 rfl) ?_
      (refine fin0 trivial rfl ?_; simp -implicitDefEqProofs (disch := omega) [List.getElem?_cons_zero, List.getElem?_cons_succ, idx, wrap_id, fallS, fallD, e, h1])
  · have e : fallE N es q d = stE N es q d := by rw [fallE, if_pos h0]
    refine HC_of_PC rfl (sgiven_err N es q d hel hd h0) ?_
    simp -implicitDefEqProofs (disch := omega) [List.getElem?_cons_zero, List.getElem?_cons_succ, wrap_id, h0]
    refine finW (Wk_nil0 6 rfl) ?_
    refine finW (Wk_nil0 7 rfl) ?_
    (refine fin0 trivial rfl ?_; simp -implicitDefEqProofs (disch := omega) [List.getElem?_cons_zero, List.getElem?_cons_succ, idx, wrap_id, fallS, fallD, e, h0])
theorem topple_ok : PC Try.prog 16 [G N es, .i q, .is d] (.tup [.p (.is (if stE N es q d = 0 then (topR N.toNat es q d).1 else [])), .i (if stE N es q d = 0 then (topR N.toNat es q d).2 else stE N es q d)]) [] := by
  refine PC_of_W cfn16 ?_
  simp -implicitDefEqProofs (disch := omega) [c16, List.getElem?_cons_zero, List.getElem?_cons_succ, wrap_id]
  by_cases h0 : stE N es q d = 0
  · obtain ⟨n, rfl, h⟩ := st_ok h0
    have hn := h.n12
    refine HC_of_PC rfl (sgiven_ok es q d hel hd n h0 h) ?_
    simp -implicitDefEqProofs (disch := omega) [List.getElem?_cons_zero, List.getElem?_cons_succ, wrap_id, bw_ren, bw_calm]
    rw [pile_past]
    refine next_ok h.n12 ?_
    have hcl := h.c.len
    have hd0 : movedE es (List.replicate n 0) d = d := aft_zero h.g h.c.len
    simp -implicitDefEqProofs (disch := omega) [List.getElem?_cons_zero, List.getElem?_cons_succ, wrap_id]
    refine loopW 4097 (fun k st => (∀ j, j < k → live n es q d j) ∧ k ≤ 4096 ∧ st = ⟨[(11, .i (nxI n es q (movedE es (stp n es q d k) d))), (10, .os 4 0 k), (8, .ptr 1 1 0 0)], .box (.p (G n es)) :: pileH n es q (movedE es (stp n es q d k) d) (stp n es q d k) [rowI (mvs n es q d k)]⟩)
      ((Wk_nil 10 1 3 rfl).trans (Wk_keep [11, 10, 8])) ⟨fun j hj => by omega, by omega, by simp only [stp, mvs, hd0]; rfl⟩ ?_
    rintro k st hk ⟨hall, hk4, rfl⟩
    obtain ⟨hsum, hml⟩ := stp_sum k hall
    have hls := stp_leg (n := n) (es := es) (q := q) (d := d) k
    by_cases hlive : live n es q d k
    · obtain ⟨v, hv⟩ := live_some hlive
      have hx' : nxI n es q (movedE es (stp n es q d k) d) = (v : Int) := by rw [nxI, hv]
      by_cases hk5 : k = 4096
      · have hr : topR n es q d = ([], 12) := topR_over (by rw [← hk5]; exact hlive)
        have hk6 : ((k : Int) = 4096) = True := by simp only [eq_iff_iff, iff_true]; omega
        simp -implicitDefEqProofs (disch := omega) [List.getElem?_cons_zero, List.getElem?_cons_succ, wrap_id, hx', hk6, hml]
        refine finW (Wk_nil0 6 rfl) ?_
        (refine fin0 trivial rfl ?_; simp -implicitDefEqProofs (disch := omega) [List.getElem?_cons_zero, List.getElem?_cons_succ, idx, wrap_id, h0, hr])
      · have hk6 : ((k : Int) = 4096) = False := by simp only [eq_iff_iff, iff_false]; omega
        obtain ⟨e1, e2⟩ := stp_succ hv
        have hmv := fired_moved h.g h.c.len hls.len (nxtF_some hv).1 1
        have hk7 : k ≤ 1048575 := by omega
        simp -implicitDefEqProofs (disch := omega) [List.getElem?_cons_zero, List.getElem?_cons_succ, wrap_id, hx', hk6, hml, hk7]
        refine pfire_ok (T := [_, _]) h.g v 1 (nxtF_some hv).1 ⟨by omega, by omega⟩ (by rw [movedE_length, h.c.len]) hls.len (chip_bd h.g hls h.c) (Leg.sBd hls (by omega)) ⟨by omega, by omega⟩ ?_
        rw [hmv, ← e1]
        simp -implicitDefEqProofs (disch := omega) [List.getElem?_cons_zero, List.getElem?_cons_succ, wrap_id]
        refine next_ok h.n12 ?_
        simp -implicitDefEqProofs (disch := omega) [List.getElem?_cons_zero, List.getElem?_cons_succ, wrap_id]
        refine round_end' (by omega) (Wk_pop 5 [11, 10, 8] (by omega) (by simp) (H' := .box (.p (G n es)) :: pileH n es q (movedE es (stp n es q d (k + 1)) d) (stp n es q d (k + 1)) [rowI (mvs n es q d (k + 1))]) ?_ ?_ (lo_pile (by omega) ?_)) ⟨fun j hj => ?_, by omega, rfl⟩
        · rw [e2]; simp
        · intro i hi
          simp only [List.mem_cons, List.not_mem_nil, or_false] at hi
          rcases hi with rfl | rfl | rfl <;> simp [Abs.get, loA]
        · simp [loO]
        · rcases Nat.lt_or_ge j k with h1 | h1
          · exact hall j h1
          · have e : j = k := by omega
            subst e; exact hlive
    · have hx : nxtF n es q (movedE es (stp n es q d k) d) = none := Decidable.not_not.1 hlive
      have hx' : nxI n es q (movedE es (stp n es q d k) d) = -1 := by rw [nxI, hx]
      have hr := topR_at hk4 hlive
      simp -implicitDefEqProofs (disch := omega) [List.getElem?_cons_zero, List.getElem?_cons_succ, wrap_id, hx']
      (refine fin0 trivial rfl ?_; simp -implicitDefEqProofs (disch := omega) [List.getElem?_cons_zero, List.getElem?_cons_succ, idx, wrap_id, h0, hr, hml])
  · refine HC_of_PC rfl (sgiven_err N es q d hel hd h0) ?_
    simp -implicitDefEqProofs (disch := omega) [List.getElem?_cons_zero, List.getElem?_cons_succ, wrap_id, h0]
    refine finW (Wk_nil0 6 rfl) ?_
    (refine fin0 trivial rfl ?_; simp -implicitDefEqProofs (disch := omega) [List.getElem?_cons_zero, List.getElem?_cons_succ, idx, wrap_id, h0])
end
end Go.Proofs.Ythdbmoflbnggpaa
