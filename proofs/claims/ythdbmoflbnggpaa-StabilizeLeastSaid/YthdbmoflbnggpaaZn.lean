/-
  Contracts: avalanches, the largest one, the greatest stable configuration.
-/
import Derived.Test.YthdbmoflbnggpaaZm
set_option linter.unusedSimpArgs false
set_option linter.unusedVariables false
namespace Go.Proofs.Ythdbmoflbnggpaa
open Go.Abs Go.Sand

/-- A chip more. -/
def moreD (d : List Int) (v : Nat) : List Int := d.set v (d.getD v 0 + 1)
theorem moreD_len (d : List Int) (v : Nat) : (moreD d v).length = d.length := by simp [moreD]
theorem more_conf {n : Nat} {es : List Ed} {q : Int} {d : List Int} (h : StOk n es q d) (hb : Bd 1048576 d) (v : Nat) : StOk n es q (moreD d v) := by
  refine { h with c := ⟨by rw [moreD_len, h.c.len], fun i => ?_, fun u hu hq => ?_⟩ }
  · rw [moreD, getD_set]
    have := hb i
    have := hb v
    split <;> omega
  · have := h.c.pos u hu hq
    rw [moreD, getD_set]
    split
    · rename_i e; rw [e.1]; omega
    · exact this
theorem st_bd {N q : Int} {es : List Ed} {d : List Int} (h : stE N es q d = 0) : Bd 1048576 d := by
  have : givenE N es d = 0 := by
    unfold stE at h
    split at h
    · rename_i h1; exact absurd h h1
    · rename_i h1
      split at h
      · rename_i h2; exact absurd h h2
      · rename_i h2
        obtain ⟨n, rfl, hgc, -⟩ := root_ok (Decidable.not_not.1 h1)
        rw [givenE, if_neg (by simp [hgc]), Decidable.not_not.1 h2]
  obtain ⟨n, -, -, -, hb, -, -⟩ := given_ok this
  exact hb
theorem more_sink {q : Int} {d : List Int} (v : Nat) (h : -1048576 ≤ d.getD q.toNat 0) : -1048576 ≤ (moreD d v).getD q.toNat 0 := by
  rw [moreD, getD_set]
  split
  · rename_i e; rw [e.1]; omega
  · exact h
def calmE (N : Int) (es : List Ed) (q : Int) (d : List Int) : Int := if stE N es q d ≠ 0 then stE N es q d else if nxtF N.toNat es q d = none then 0 else 15
section
variable (es : List Ed) (q : Int) (d : List Int) (hel : es.length ≤ 900) (hd : d.length ≤ 1000)
include hel hd
theorem calm_ok (N : Int) : PC Try.prog 55 [G N es, .i q, .is d] (.tup [if calmE N es q d = 0 then .dead else .p (.v (.pointer none)), .i (calmE N es q d)]) [] := by
  refine PC_of_W cfn55 ?_
  simp -implicitDefEqProofs (disch := omega) [c55, List.getElem?_cons_zero, List.getElem?_cons_succ, wrap_id]
  by_cases h0 : stE N es q d = 0
  · obtain ⟨n, rfl, h⟩ := st_ok h0
    refine HC_of_PC rfl (sgiven_ok es q d hel hd n h0 h) ?_
    simp -implicitDefEqProofs (disch := omega) [List.getElem?_cons_zero, List.getElem?_cons_succ, wrap_id, bw_ren, bw_calm]
    rw [pile_past]
    refine next_ok h.n12 ?_
    cases hx : nxtF n es q d with
    | none =>
      have hx' : nxI n es q d = -1 := by rw [nxI, hx]
      simp -implicitDefEqProofs (disch := omega) [List.getElem?_cons_zero, List.getElem?_cons_succ, wrap_id, hx']
      (refine fin0 trivial rfl ?_; simp -implicitDefEqProofs (disch := omega) [List.getElem?_cons_zero, List.getElem?_cons_succ, idx, wrap_id, calmE, h0, hx])
    | some v =>
      have hx' : nxI n es q d = (v : Int) := by rw [nxI, hx]
      simp -implicitDefEqProofs (disch := omega) [List.getElem?_cons_zero, List.getElem?_cons_succ, wrap_id, hx']
      (refine fin0 trivial rfl ?_; simp -implicitDefEqProofs (disch := omega) [List.getElem?_cons_zero, List.getElem?_cons_succ, idx, wrap_id, calmE, h0, hx])
  · refine HC_of_PC rfl (sgiven_err N es q d hel hd h0) ?_
    simp -implicitDefEqProofs (disch := omega) [List.getElem?_cons_zero, List.getElem?_cons_succ, wrap_id, h0]
    (refine fin0 trivial rfl ?_; simp -implicitDefEqProofs (disch := omega) [List.getElem?_cons_zero, List.getElem?_cons_succ, idx, wrap_id, calmE, h0])
omit hel in
theorem rmore_ok (v : Nat) (hv : v < d.length) (hb : Bd 1048576 d) : PC Try.prog 59 [.is d, .i v] (.p (.is (moreD d v))) [] := by
  have hbv := hb v
  have hgv := getD_get hv
  rw [hgv] at hbv
  have hd6 : d.length ≤ 1048576 := by omega
  have hset : (d.map PV.i).set v (PV.i (d[v] + 1)) = (moreD d v).map PV.i := by rw [moreD, hgv, List.map_set]
  refine PC_of_W cfn59 ?_
  simp -implicitDefEqProofs (disch := omega) [c59, List.getElem?_cons_zero, List.getElem?_cons_succ, wrap_id, hd6, hv, hset]
  have hl := moreD_len d v
  (refine fin0 trivial rfl ?_; simp -implicitDefEqProofs (disch := omega) [List.getElem?_cons_zero, List.getElem?_cons_succ, idx, wrap_id, hl])
theorem more_ok (n v : Nat) (h : StOk n es q d) (hv : v < n) (hb : Bd 1048576 d) : PC Try.prog 56 [G n es, .i q, .is d, .i v] (.tup [.ptr 0 1 0 0, .i 0]) (pile0 n es q (moreD d v) (List.replicate n 0)) := by
  have hdl := h.c.len
  have hvd : v < d.length := by omega
  have hbv := hb v
  have hgv := getD_get hvd
  rw [hgv] at hbv
  have hset : (d.map PV.i).set v (PV.i (d[v] + 1)) = (moreD d v).map PV.i := by rw [moreD, hgv, List.map_set]
  have hml : (moreD d v).length = n := by rw [moreD_len, hdl]
  refine PC_of_W cfn56 ?_
  simp -implicitDefEqProofs (disch := omega) [c56, List.getElem?_cons_zero, List.getElem?_cons_succ, wrap_id]
  refine HC_of_PC rfl (clone_ok d (by omega)) ?_
  simp -implicitDefEqProofs (disch := omega) [List.getElem?_cons_zero, List.getElem?_cons_succ, wrap_id, hvd, hdl, hv, hset]
  refine HC_of_PC (by simp [views, view, viewC, hml]) (pileOf_ok n es q (moreD d v) h.gc (by omega) hml) ?_
  simp -implicitDefEqProofs (disch := omega) [List.getElem?_cons_zero, List.getElem?_cons_succ, wrap_id, bw_ren, bw_calm]
  refine fin1 [2, 3, 4] trivial rfl rfl ⟨rfl, ?_⟩
  rw [pile0]
  simp -implicitDefEqProofs [-AO.ren, renH, ren_box, ren_row, AV.ren, renL, idx_at, idx_at0, bw_ren]
end
/-- What an avalanche leaves. -/
def avE (N : Int) (es : List Ed) (q : Int) (d : List Int) (v : Int) : Int := if stE N es q d ≠ 0 then stE N es q d else if vtx N v = true then (if nxtF N.toNat es q d = none then settledE N.toNat es q (moreD d v.toNat) else 15) else 2
def avS (N : Int) (es : List Ed) (q : Int) (d : List Int) (v : Int) : List Int := if avE N es q d v = 0 then (stabF N.toNat es q (moreD d v.toNat)).1 else []
def avD (N : Int) (es : List Ed) (q : Int) (d : List Int) (v : Int) : List Int := if avE N es q d v = 0 then movedE es (stabF N.toNat es q (moreD d v.toNat)).1 (moreD d v.toNat) else []
def avN (N : Int) (es : List Ed) (q : Int) (d : List Int) (v : Int) : Int := if avE N es q d v = 0 then sumI (stabF N.toNat es q (moreD d v.toNat)).1 else 0
section
variable (N : Int) (es : List Ed) (q : Int) (d : List Int) (v : Int) (hel : es.length ≤ 900) (hd : d.length ≤ 1000)
include hel hd
theorem avalanche_ok : PC Try.prog 22 [G N es, .i q, .is d, .i v] (.tup [.p (.is (avD N es q d v)), .p (.is (avS N es q d v)), .i (avN N es q d v), .i (avE N es q d v)]) [] := by
  refine PC_of_W cfn22 ?_
  simp -implicitDefEqProofs (disch := omega) [c22, List.getElem?_cons_zero, List.getElem?_cons_succ, wrap_id]
  refine HC_of_PC rfl (scheck_ok N es q d hel hd) ?_
  by_cases h0 : stE N es q d = 0
  · obtain ⟨n, rfl, h⟩ := st_ok h0
    have hb := st_bd h0
    by_cases h1 : v < 0
    · have e : vtx n v = false := by simp [vtx]; omega
      have e2 : avE n es q d v = 2 := by simp [avE, h0, e]
      simp -implicitDefEqProofs (disch := omega) [List.getElem?_cons_zero, List.getElem?_cons_succ, wrap_id, h0, h1]
      refine finW (Wk_nil0 8 rfl) ?_
      refine finW (Wk_nil0 9 rfl) ?_
      (refine fin0 trivial rfl ?_; simp -implicitDefEqProofs (disch := omega) [List.getElem?_cons_zero, List.getElem?_cons_succ, idx, wrap_id, avS, avD, avN, e2])
    by_cases h2 : (n : Int) ≤ v
    · have e : vtx n v = false := by simp [vtx]; omega
      have e2 : avE n es q d v = 2 := by simp [avE, h0, e]
      simp -implicitDefEqProofs (disch := omega) [List.getElem?_cons_zero, List.getElem?_cons_succ, wrap_id, h0, h1, h2]
      refine finW (Wk_nil0 8 rfl) ?_
      refine finW (Wk_nil0 9 rfl) ?_
      (refine fin0 trivial rfl ?_; simp -implicitDefEqProofs (disch := omega) [List.getElem?_cons_zero, List.getElem?_cons_succ, idx, wrap_id, avS, avD, avN, e2])
    have e : vtx n v = true := by simp [vtx]; omega
    obtain ⟨u, rfl⟩ : ∃ u : Nat, v = u := ⟨v.toNat, by omega⟩
    have hu : u < n := by omega
    simp -implicitDefEqProofs (disch := omega) [List.getElem?_cons_zero, List.getElem?_cons_succ, wrap_id, h0, h1, h2]
    refine HC_of_PC rfl (calm_ok es q d hel hd n) ?_
    by_cases h3 : nxtF n es q d = none
    · have hc : calmE n es q d = 0 := by simp [calmE, h0, h3]
      have e2 : avE n es q d u = settledE n es q (moreD d u) := by simp [avE, h0, e, h3]
      simp -implicitDefEqProofs (disch := omega) [List.getElem?_cons_zero, List.getElem?_cons_succ, wrap_id, hc]
      refine HC_of_PC rfl (more_ok es q d hel hd n u h hu hb) ?_
      simp -implicitDefEqProofs (disch := omega) [List.getElem?_cons_zero, List.getElem?_cons_succ, wrap_id, bw_ren, bw_calm]
      rw [pile_past]
      have hm := more_conf h hb u
      refine settled_ok hm.g hm.v hm.c ⟨hm.q0, hm.qn⟩ ?_
      have hcl : (movedE es (stabF n es q (moreD d u)).1 (moreD d u)).length = n := by rw [movedE_length, hm.c.len]
      have hsl : (stabF n es q (moreD d u)).1.length = n := (stabF_spec hm.v).1.len
      by_cases h4 : settledE n es q (moreD d u) = 0
      · simp -implicitDefEqProofs (disch := omega) [List.getElem?_cons_zero, List.getElem?_cons_succ, wrap_id, h4]
        (refine fin0 trivial rfl ?_; simp -implicitDefEqProofs (disch := omega) [List.getElem?_cons_zero, List.getElem?_cons_succ, idx, wrap_id, hcl, hsl, avS, avD, avN, e2, h4])
      · simp -implicitDefEqProofs (disch := omega) [List.getElem?_cons_zero, List.getElem?_cons_succ, wrap_id, h4]
        refine finW (Wk_nil0 8 rfl) ?_
        refine finW (Wk_nil0 9 rfl) ?_
        (refine fin0 trivial rfl ?_; simp -implicitDefEqProofs (disch := omega) [List.getElem?_cons_zero, List.getElem?_cons_succ, idx, wrap_id, avS, avD, avN, e2, h4])
    · have hc : calmE n es q d = 15 := by simp [calmE, h0, h3]
      have e2 : avE n es q d u = 15 := by simp [avE, h0, e, h3]
      simp -implicitDefEqProofs (disch := omega) [List.getElem?_cons_zero, List.getElem?_cons_succ, wrap_id, hc]
      refine finW (Wk_nil0 8 rfl) ?_
      refine finW (Wk_nil0 9 rfl) ?_
      (refine fin0 trivial rfl ?_; simp -implicitDefEqProofs (disch := omega) [List.getElem?_cons_zero, List.getElem?_cons_succ, idx, wrap_id, avS, avD, avN, e2])
  · have e2 : avE N es q d v = stE N es q d := by simp [avE, h0]
    simp -implicitDefEqProofs (disch := omega) [List.getElem?_cons_zero, List.getElem?_cons_succ, wrap_id, h0]
    refine finW (Wk_nil0 8 rfl) ?_
    refine finW (Wk_nil0 9 rfl) ?_
    (refine fin0 trivial rfl ?_; simp -implicitDefEqProofs (disch := omega) [List.getElem?_cons_zero, List.getElem?_cons_succ, idx, wrap_id, avS, avD, avN, e2, h0])
theorem ravalanche_ok : PC Try.prog 23 [G N es, .i q, .is d, .i v] (.tup [.p (.is (avD N es q d v)), .p (.is (avS N es q d v)), .i (avN N es q d v), .i (avE N es q d v)]) [] := by
  refine PC_of_W cfn23 ?_
  simp -implicitDefEqProofs (disch := omega) [c23, List.getElem?_cons_zero, List.getElem?_cons_succ, wrap_id]
  refine HC_of_PC rfl (r19check_ok N es q d hel hd) ?_
  by_cases h0 : stE N es q d = 0
  · obtain ⟨n, rfl, h⟩ := st_ok h0
    have hb := st_bd h0
    have hs := st_sink h0
    simp -implicitDefEqProofs (disch := omega) [List.getElem?_cons_zero, List.getElem?_cons_succ, wrap_id, h0]
    refine HC_of_PC rfl (rvertex_ok n v es) ?_
    cases e : vtx n v with
    | false =>
      have e2 : avE n es q d v = 2 := by simp [avE, h0, e]
      simp -implicitDefEqProofs (disch := omega) [List.getElem?_cons_zero, List.getElem?_cons_succ, wrap_id]
      refine finW (Wk_nil0 8 rfl) ?_
      refine finW (Wk_nil0 9 rfl) ?_
      (refine fin0 trivial rfl ?_; simp -implicitDefEqProofs (disch := omega) [List.getElem?_cons_zero, List.getElem?_cons_succ, idx, wrap_id, avS, avD, avN, e2])
    | true =>
      have ev : 0 ≤ v ∧ v < n := by simpa [vtx] using e
      obtain ⟨u, rfl⟩ : ∃ u : Nat, v = u := ⟨v.toNat, by omega⟩
      have hu : u < n := by omega
      simp -implicitDefEqProofs (disch := omega) [List.getElem?_cons_zero, List.getElem?_cons_succ, wrap_id]
      refine HC_of_PC rfl (calmR_ok n es q d hel h.g h.c.len) ?_
      by_cases h3 : nxtF n es q d = none
      · have e2 : avE n es q d u = settledE n es q (moreD d u) := by simp [avE, h0, e, h3]
        have hm := more_conf h hb u
        obtain ⟨k, over, hf⟩ := exists_falls n es q (moreD d u)
        have e3 := settledE_eq hm (more_sink u hs) hf
        simp -implicitDefEqProofs (disch := omega) [List.getElem?_cons_zero, List.getElem?_cons_succ, wrap_id, h3]
        refine tree_join (s0 := ⟨[(13, .ptr 1 1 0 0), (4, .ptr 0 1 0 0), (1, .i q)], [.box (.p (G n es)), .box (.agg [.p (.is (movedE es (stp n es q (moreD d u) k) (moreD d u))), .p (.is (stp n es q (moreD d u) k)), .p (.is (mvs n es q (moreD d u) (min k 4096))), .i k, .b over])]⟩) ?_ ?_
        rotate_left
        · simp -implicitDefEqProofs (disch := omega) [List.getElem?_cons_zero, List.getElem?_cons_succ, wrap_id]
          repeat' (first
            | refine ⟨?_, ?_⟩
            | (refine HC_of_PC rfl (rmore_ok d hd u (by rw [h.c.len]; exact hu) hb) ?_; simp -implicitDefEqProofs [List.getElem?_cons_zero, List.getElem?_cons_succ])
            | (refine HC_of_PC rfl (fallen_ok n es q (moreD d u) hel hm.g hm.c k over hf) ?_; simp -implicitDefEqProofs [List.getElem?_cons_zero, List.getElem?_cons_succ])
            | exact wk_norm [0, 1] [13, 4, 1] rfl rfl)
        simp -implicitDefEqProofs (disch := omega) [List.getElem?_cons_zero, List.getElem?_cons_succ, wrap_id]
        refine HC_of_PC rfl (ended_ok (movedE es (stp n es q (moreD d u) k) (moreD d u)) (stp n es q (moreD d u) k) (mvs n es q (moreD d u) (min k 4096)) k over q ⟨hm.q0, by rw [movedE_length, hm.c.len]; exact hm.qn⟩) ?_
        rw [← e3]
        by_cases h4 : settledE n es q (moreD d u) = 0
        · have e4 := settled_same hm hf h4
          have e5 := (stp_sum k hf.all).1
          simp -implicitDefEqProofs (disch := omega) [List.getElem?_cons_zero, List.getElem?_cons_succ, wrap_id, h4]
          (refine fin0 trivial rfl ?_; simp -implicitDefEqProofs (disch := omega) [List.getElem?_cons_zero, List.getElem?_cons_succ, idx, wrap_id, avS, avD, avN, e2, h4, e4, e5])
        · simp -implicitDefEqProofs (disch := omega) [List.getElem?_cons_zero, List.getElem?_cons_succ, wrap_id, h4]
          refine finW (Wk_nil0 8 rfl) ?_
          refine finW (Wk_nil0 9 rfl) ?_
          (refine fin0 trivial rfl ?_; simp -implicitDefEqProofs (disch := omega) [List.getElem?_cons_zero, List.getElem?_cons_succ, idx, wrap_id, avS, avD, avN, e2, h4])
      · have e2 : avE n es q d u = 15 := by simp [avE, h0, e, h3]
        simp -implicitDefEqProofs (disch := omega) [List.getElem?_cons_zero, List.getElem?_cons_succ, wrap_id, h3]
        refine finW (Wk_nil0 8 rfl) ?_
        refine finW (Wk_nil0 9 rfl) ?_
        (refine fin0 trivial rfl ?_; simp -implicitDefEqProofs (disch := omega) [List.getElem?_cons_zero, List.getElem?_cons_succ, idx, wrap_id, avS, avD, avN, e2])
  · have e2 : avE N es q d v = stE N es q d := by simp [avE, h0]
    simp -implicitDefEqProofs (disch := omega) [List.getElem?_cons_zero, List.getElem?_cons_succ, wrap_id, h0]
    refine finW (Wk_nil0 8 rfl) ?_
    refine finW (Wk_nil0 9 rfl) ?_
    (refine fin0 trivial rfl ?_; simp -implicitDefEqProofs (disch := omega) [List.getElem?_cons_zero, List.getElem?_cons_succ, idx, wrap_id, avS, avD, avN, e2, h0])
end
end Go.Proofs.Ythdbmoflbnggpaa
