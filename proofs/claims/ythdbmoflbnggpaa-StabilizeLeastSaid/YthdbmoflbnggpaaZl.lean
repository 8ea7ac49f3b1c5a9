/-
  Contracts: the reference fires one after the other.
-/
import Derived.Test.YthdbmoflbnggpaaZk
set_option linter.unusedSimpArgs false
set_option linter.unusedVariables false
namespace Go.Proofs.Ythdbmoflbnggpaa
open Go.Abs Go.Sand

theorem exists_falls (n : Nat) (es : List Ed) (q : Int) (d : List Int) : ∃ k over, Falls n es q d k over := by
  have key : ∀ m : Nat, (∀ j, j < m → live n es q d j) ∨ ∃ k, k < m ∧ (∀ j, j < k → live n es q d j) ∧ ¬ live n es q d k := by
    intro m
    induction m with
    | zero => exact .inl fun j hj => by omega
    | succ m ih =>
      rcases ih with h | ⟨k, h1, h2, h3⟩
      · by_cases hl : live n es q d m
        · refine .inl fun j hj => ?_
          rcases Nat.lt_or_ge j m with h1 | h1
          · exact h j h1
          · have e : j = m := by omega
            rw [e]; exact hl
        · exact .inr ⟨m, by omega, h, hl⟩
      · exact .inr ⟨k, by omega, h2, h3⟩
  rcases key 1048577 with h | ⟨k, h1, h2, h3⟩
  · exact ⟨1048576, true, fun j hj => h j (by omega), by omega, (fun e => by cases e), fun _ => ⟨rfl, h _ (by omega)⟩⟩
  · exact ⟨k, false, h2, by omega, (fun _ => h3), (fun e => by cases e)⟩
section
variable (n : Nat) (es : List Ed) (q : Int) (d : List Int) (hel : es.length ≤ 900) (hg : GoodG n es)
include hg
theorem least_ok (c : List Int) (hc : c.length = n) : PC Try.prog 81 [.is c, .i q, .is (valsL n es)] (.i (nxI n es q c)) [] := by
  have hn := hg.n12
  have hvl := valsL_len n es
  refine PC_of_W cfn81 ?_
  simp -implicitDefEqProofs (disch := omega) [c81, List.getElem?_cons_zero, List.getElem?_cons_succ, wrap_id]
  refine loopW n (fun k s => s = ⟨[(7, .i k), (0, .p (.is c)), (1, .i q), (2, .p (.is (valsL n es)))], []⟩ ∧ ∀ u, u < k → unstB n es q c u = false) (Wk_keep [7, 0, 1, 2]) ⟨rfl, fun u hu => by omega⟩ ?_
  rintro k s hk ⟨rfl, hI⟩
  by_cases hlt : k < n
  · have hkc : k < c.length := by omega
    have hkv : k < (valsL n es).length := by omega
    have hgk := getD_get hkc
    have hV : ∀ h, (valsL n es)[k]'h = valTo es k n := fun h => by simp [valsL]
    have go : unstB n es q c k = false → ∀ u, u < k + 1 → unstB n es q c u = false := fun h u hu => by
      rcases Nat.lt_or_ge u k with h1 | h1
      · exact hI u h1
      · have e : u = k := by omega
        rw [e]; exact h
    by_cases h3 : (k : Int) = q
    · have hu : unstB n es q c k = false := by simp [unstB, h3]
      have h3' : ((k : Int) = q) = True := eq_true h3
      have hI' := go hu
      simp -implicitDefEqProofs (disch := omega) [List.getElem?_cons_zero, List.getElem?_cons_succ, wrap_id, hlt, hc, h3']
      exact round_keep [7, 0, 1, 2] hlt ⟨rfl, hI'⟩
    · by_cases h4 : valTo es k n ≤ c[k]
      · have hu : unstB n es q c k = true := by simp only [unstB, decide_eq_true_eq]; exact ⟨h3, by rw [hgk]; exact h4⟩
        have hx := nxtF_at hlt hu hI
        have hx' : nxI n es q c = (k : Int) := by rw [nxI, hx]
        simp -implicitDefEqProofs (disch := omega) [List.getElem?_cons_zero, List.getElem?_cons_succ, wrap_id, hlt, hc, h3, hkc, hkv, hV, h4]
        (refine fin0 trivial rfl ?_; simp -implicitDefEqProofs (disch := omega) [List.getElem?_cons_zero, List.getElem?_cons_succ, idx, wrap_id, hx'])
      · have hu : unstB n es q c k = false := by simp only [unstB, decide_eq_false_iff_not]; rintro ⟨-, h⟩; exact h4 (by rw [← hgk]; exact h)
        have hI' := go hu
        simp -implicitDefEqProofs (disch := omega) [List.getElem?_cons_zero, List.getElem?_cons_succ, wrap_id, hlt, hc, h3, hkc, hkv, hV, h4]
        exact round_keep [7, 0, 1, 2] hlt ⟨rfl, hI'⟩
  · have hkn : k = n := by omega
    subst hkn
    have hx : nxtF k es q c = none := nxtF_of fun v hv hq => by
      have := hI v hv
      simp only [unstB, decide_eq_false_iff_not] at this
      have : ¬ valTo es v k ≤ c.getD v 0 := fun h => this ⟨hq, h⟩
      omega
    have hx' : nxI k es q c = -1 := by rw [nxI, hx]
    simp -implicitDefEqProofs (disch := omega) [List.getElem?_cons_zero, List.getElem?_cons_succ, wrap_id, hc]
    (refine fin0 trivial rfl ?_; simp -implicitDefEqProofs (disch := omega) [List.getElem?_cons_zero, List.getElem?_cons_succ, idx, wrap_id, hx'])
end
def overV (n : Nat) (es : List Ed) (q : Int) (d : List Int) (k : Nat) (over : Bool) : PV := .agg [.is (movedE es (stp n es q d k) d), .is (stp n es q d k), .is (mvs n es q d (min k 4096)), .i k, .b over]
section
variable (n : Nat) (es : List Ed) (q : Int) (d : List Int) (hel : es.length ≤ 900) (hg : GoodG n es)
include hel hg
set_option maxRecDepth 10000 in
set_option maxHeartbeats 2000000 in
theorem fallen_ok (hc : Conf n q d) (k : Nat) (over : Bool) (hf : Falls n es q d k over) : PC Try.prog 46 [G n es, .i q, .is d]
    (.agg [.p (.is (movedE es (stp n es q d k) d)), .p (.is (stp n es q d k)), .p (.is (mvs n es q d (min k 4096))), .i k, .b over]) [] := by
  have hn := hg.n12
  have hn6 : n ≤ 1048576 := by omega
  have hdl := hc.len
  have hd6 : d.length ≤ 1048576 := by omega
  refine PC_of_W cfn46 ?_
  simp -implicitDefEqProofs (disch := omega) [c46, List.getElem?_cons_zero, List.getElem?_cons_succ, wrap_id]
  refine HC_of_PC rfl (rows_ok n es hel hg) ?_
  simp -implicitDefEqProofs (disch := omega) [List.getElem?_cons_zero, List.getElem?_cons_succ, wrap_id]
  refine HC_of_PC rfl (valences_ok n es hel hg) ?_
  simp -implicitDefEqProofs (disch := omega) [List.getElem?_cons_zero, List.getElem?_cons_succ, wrap_id]
  refine tree_join (s0 := ⟨[(9, .ptr 1 1 0 0), (8, .p (.is (valsL n es))), (7, .p (.iss (rowsL n es))), (6, .ptr 2 1 0 0), (3, .ptr 0 1 0 0), (1, .i q)],
    [.box (.p (G n es)), .box (.agg [.os 3 0 n, .os 4 0 n, .p .nil, .i 0, .b false]), .box (.p (.agg [.nil, .nil, .nil, .i 0, .b false])), rowI d, .row (List.replicate n (PV.i 0)) 1 3 false]⟩) ?_ ?_
  rotate_left
  · simp -implicitDefEqProofs (disch := omega) [List.getElem?_cons_zero, List.getElem?_cons_succ, wrap_id, hn6, hd6, hdl]
    repeat' (first
      | refine ⟨?_, ?_⟩
      | exact wk_norm [0, 4, 1, 2, 3] [9, 8, 7, 6, 3, 1] rfl rfl
      | exact wk_norm [0, 3, 1, 2, 4] [9, 8, 7, 6, 3, 1] rfl rfl
      | exact wk_norm [0, 4, 1, 3, 2] [9, 8, 7, 6, 3, 1] rfl rfl
      | exact wk_norm [0, 2, 1, 3, 4] [9, 8, 7, 6, 3, 1] rfl rfl
      | exact wk_norm [0, 3, 1, 4, 2] [9, 8, 7, 6, 3, 1] rfl rfl
      | exact wk_norm [0, 2, 1, 4, 3] [9, 8, 7, 6, 3, 1] rfl rfl)
  have hd0 : movedE es (List.replicate n 0) d = d := aft_zero hg hc.len
  simp -implicitDefEqProofs (disch := omega) [List.getElem?_cons_zero, List.getElem?_cons_succ, wrap_id]
  refine HC_of_PC (by simp [views, view, viewC, hdl]) (least_ok n es q hg d hdl) ?_
  simp -implicitDefEqProofs (disch := omega) [List.getElem?_cons_zero, List.getElem?_cons_succ, wrap_id]
  refine loopW (k + 1) (fun j st => j ≤ k ∧ st = ⟨[(10, .i (nxI n es q (movedE es (stp n es q d j) d))), (9, .ptr 1 1 0 0), (8, .p (.is (valsL n es))), (7, .p (.iss (rowsL n es))), (6, .ptr 2 1 0 0), (3, .ptr 0 1 0 0), (1, .i q)],
      [.box (.p (G n es)), .box (.agg [.os 3 0 n, .os 4 0 n, .os 5 0 (mvs n es q d (min j 4096)).length, .i j, .b false]), .box (.p (.agg [.nil, .nil, .nil, .i 0, .b false])), rowI (movedE es (stp n es q d j) d), rowI (stp n es q d j), rowI (mvs n es q d (min j 4096))]⟩)
    ((Wk_nilB 1 2 1 3 rfl rfl).trans (Wk_keep [10, 9, 8, 7, 6, 3, 1])) ⟨by omega, by simp only [stp, hd0]; rw [rowI, rowI, rowI, List.map_replicate]; rfl⟩ ?_
  rintro j st hj ⟨hjk, rfl⟩
  have hls := stp_leg (n := n) (es := es) (q := q) (d := d) j
  have hcl : (movedE es (stp n es q d j) d).length = n := by rw [movedE_length, hdl]
  have hsl := hls.len
  by_cases hjk2 : j = k
  · subst hjk2
    cases over with
    | true =>
      obtain ⟨h1, h2⟩ := hf.yes rfl
      obtain ⟨v, hv⟩ := live_some h2
      have hx' : nxI n es q (movedE es (stp n es q d j) d) = (v : Int) := by rw [nxI, hv]
      have hj6 : ((j : Int) = 1048576) = True := by simp only [eq_iff_iff, iff_true]; omega
      simp -implicitDefEqProofs (disch := omega) [List.getElem?_cons_zero, List.getElem?_cons_succ, wrap_id, hx', hj6]
      (refine fin0 trivial rfl ?_; simp -implicitDefEqProofs (disch := omega) [List.getElem?_cons_zero, List.getElem?_cons_succ, idx, wrap_id, hcl, hsl])
    | false =>
      have h1 := hf.no rfl
      have hx : nxtF n es q (movedE es (stp n es q d j) d) = none := Decidable.not_not.1 h1
      have hx' : nxI n es q (movedE es (stp n es q d j) d) = -1 := by rw [nxI, hx]
      simp -implicitDefEqProofs (disch := omega) [List.getElem?_cons_zero, List.getElem?_cons_succ, wrap_id, hx']
      (refine fin0 trivial rfl ?_; simp -implicitDefEqProofs (disch := omega) [List.getElem?_cons_zero, List.getElem?_cons_succ, idx, wrap_id, hcl, hsl])
  · have hlt : j < k := by omega
    have hle := hf.le
    obtain ⟨v, hv⟩ := live_some (hf.all j hlt)
    obtain ⟨hvn, hvq, hvd⟩ := nxtF_some hv
    have hx' : nxI n es q (movedE es (stp n es q d j) d) = (v : Int) := by rw [nxI, hv]
    have hj6 : ((j : Int) = 1048576) = False := by simp only [eq_iff_iff, iff_false]; omega
    obtain ⟨e1, e2⟩ := stp_succ hv
    have hmv := fired_moved hg hdl hsl hvn 1
    rw [← e1] at hmv
    have hsum := (stp_sum j fun i hi => hf.all i (by omega)).1
    have hcb := chip_bd hg hls hc
    have hsb := Leg.sBd hls (by omega)
    have hvb := val_bd hg v
    obtain ⟨c, hcd⟩ : ∃ c, c = movedE es (stp n es q d j) d := ⟨_, rfl⟩
    obtain ⟨s, hsd⟩ : ∃ s, s = stp n es q d j := ⟨_, rfl⟩
    rw [← hcd] at hcl hx' hmv hcb ⊢
    rw [← hsd] at hsl hsb e1 ⊢
    have hcv : v < c.length := by omega
    have hsv : v < s.length := by omega
    have hcv' := hcb v
    have hsv' := hsb v
    rw [getD_get hcv] at hcv'
    rw [getD_get hsv] at hsv'
    have hV : ∀ h, (valsL n es)[v]'h = valTo es v n := fun h => by simp [valsL]
    have hvl := valsL_len n es
    have hvlv : v < (valsL n es).length := by omega
    have hset : (c.map PV.i).set v (PV.i (c[v] - valTo es v n)) = (fireTo n es c v 1 0).map PV.i := by
      rw [← fireTo_0 hcl, getD_get hcv, List.map_set, Int.one_mul]
    have hR : ((rowsL n es).map PV.is)[v]? = some (.is (rowL n es v)) := by simp [rowsL, hvn]
    have hRl : (rowL n es v).length = n := by simp [rowL]
    have hRu : ∀ u, u < n → ((rowL n es v).map PV.i)[u]? = some (.i (joinE es v u)) := fun u hu => by simp [rowL, hu]
    simp -implicitDefEqProofs (disch := omega) [List.getElem?_cons_zero, List.getElem?_cons_succ, wrap_id, hx', hj6, hcl, hcv, hvn, hvlv, hV, hset]
    refine loopW n (fun m st => st = ⟨[(11, .i m), (10, .i v), (9, .ptr 1 1 0 0), (8, .p (.is (valsL n es))), (7, .p (.iss (rowsL n es))), (6, .ptr 2 1 0 0), (3, .ptr 0 1 0 0), (1, .i q)],
      [.box (.p (G n es)), .box (.agg [.os 3 0 n, .os 4 0 n, .os 5 0 (mvs n es q d (min j 4096)).length, .i j, .b false]), .box (.p (.agg [.nil, .nil, .nil, .i 0, .b false])), rowI (fireTo n es c v 1 m), rowI s, rowI (mvs n es q d (min j 4096))]⟩)
      (Wk_keep [11, 10, 9, 8, 7, 6, 3, 1]) rfl ?_
    rintro m st hm rfl
    have hFl := fireTo_len n es c v 1 m
    by_cases hmn : m < n
    · have hjb := joinE_bd hg v m
      have hFb : -20000000000 ≤ (fireTo n es c v 1 m).getD m 0 ∧ (fireTo n es c v 1 m).getD m 0 ≤ 20000000000 := by
        rw [fireTo_get hmn]
        have := hcb m
        simp only [Nat.lt_irrefl, if_false]
        split <;> omega
      have hs2 := congrArg (List.map PV.i) (fireTo_succ (n := n) (es := es) (c := c) (v := v) 1 hmn)
      rw [List.map_set, Int.one_mul] at hs2
      have hFm : m < (fireTo n es c v 1 m).length := by omega
      rw [getD_get hFm] at hs2 hFb
      have hRm := hRu m hmn
      simp -implicitDefEqProofs (disch := omega) [List.getElem?_cons_zero, List.getElem?_cons_succ, wrap_id, hmn, hR, hRl, hRm, hFl, hFm, hs2]
      exact round_keep [11, 10, 9, 8, 7, 6, 3, 1] hmn rfl
    · have hmn2 : m = n := by omega
      rw [hmn2, fireTo_n, hmv]
      have hset3 : (s.map PV.i).set v (PV.i (s[v] + 1)) = (stp n es q d (j + 1)).map PV.i := by rw [e1, moreS, getD_get hsv, List.map_set]
      have hcl2 : (movedE es (stp n es q d (j + 1)) d).length = n := by rw [movedE_length, hdl]
      by_cases h4 : j < 4096
      · have hm1 : min j 4096 = j := by omega
        have hm2 : min (j + 1) 4096 = j + 1 := by omega
        have hml := (stp_sum j fun i hi => hf.all i (by omega)).2
        have hml2 : (mvs n es q d (j + 1)).length = j + 1 := by rw [e2, List.length_append, hml]; rfl
        have h4' : (j : Int) < 4096 := by omega
        have hj7 : j ≤ 1048575 := by omega
        rw [hm1]
        simp -implicitDefEqProofs (disch := omega) [List.getElem?_cons_zero, List.getElem?_cons_succ, wrap_id, hsl, hsv, hvn, hset3, h4', hml, hj7]
        refine HC_of_PC (by simp [views, view, viewC, hcl2]) (least_ok n es q hg _ hcl2) ?_
        simp -implicitDefEqProofs (disch := omega) [List.getElem?_cons_zero, List.getElem?_cons_succ, wrap_id]
        refine round_end' (by omega) (Wk_pop 6 [10, 9, 8, 7, 6, 3, 1] (by omega) (by simp) (H' := [.box (.p (G n es)), .box (.agg [.os 3 0 n, .os 4 0 n, .os 5 0 (mvs n es q d (j + 1)).length, .i (j + 1), .b false]), .box (.p (.agg [.nil, .nil, .nil, .i 0, .b false])), rowI (movedE es (stp n es q d (j + 1)) d), rowI (stp n es q d (j + 1)), rowI (mvs n es q d (j + 1))]) ?_ ?_ ?_) ⟨by omega, by rw [hm2]; rfl⟩
        · rw [e2]; simp [hml]
        · intro i hi
          simp only [List.mem_cons, List.not_mem_nil, or_false] at hi
          rcases hi with rfl | rfl | rfl | rfl | rfl | rfl | rfl <;> simp [Abs.get, loA]
        · intro ob hob
          simp only [List.mem_cons, List.not_mem_nil, or_false] at hob
          rcases hob with rfl | rfl | rfl | rfl | rfl | rfl <;> simp [loO, loA, loL]
      · have hm1 : min j 4096 = 4096 := by omega
        have hm2 : min (j + 1) 4096 = 4096 := by omega
        have h4' : ¬ (j : Int) < 4096 := by omega
        rw [hm1]
        simp -implicitDefEqProofs (disch := omega) [List.getElem?_cons_zero, List.getElem?_cons_succ, wrap_id, hsl, hsv, hvn, hset3, h4']
        refine HC_of_PC (by simp [views, view, viewC, hcl2]) (least_ok n es q hg _ hcl2) ?_
        simp -implicitDefEqProofs (disch := omega) [List.getElem?_cons_zero, List.getElem?_cons_succ, wrap_id]
        exact round_keep [10, 9, 8, 7, 6, 3, 1] (by omega) ⟨by omega, by rw [hm2]; rfl⟩
end
end Go.Proofs.Ythdbmoflbnggpaa
