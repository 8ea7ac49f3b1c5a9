/-
  The law Least: no lesser script stabilizes.
-/
import Derived.Test.YthdbmoflbnggpaaZu
set_option linter.unusedSimpArgs false
set_option linter.unusedVariables false
namespace Go.Proofs.Ythdbmoflbnggpaa
open Go.Abs Go.Sand

theorem few19_ends {N : Int} {es : List Ed} {d : List Int} (h : few18 N es d = true) (hg : gcheck N es = 0) : sumI (es.map (·.m)) ≤ 9 := by
  have h1 := ends_sum (gcheck_ok hg).right
  simp only [few18, smallG, Bool.and_eq_true, Bool.or_eq_true, decide_eq_true_eq] at h
  rcases h.1.2 with h2 | h2
  · exact absurd hg h2
  · omega
def partV (s less : List Int) (v : Nat) : Int := max 0 (s.getD v 0 - max (less.getD v 0) (-(less.getD v 0)))
/-- A part of the odometer, for the first k vertices. -/
def partTo (n : Nat) (s less : List Int) (k : Nat) : List Int := lisL n fun v => if v < k then partV s less v else 0
theorem partTo_len (n : Nat) (s less : List Int) (k : Nat) : (partTo n s less k).length = n := by simp [partTo, lisL]
theorem partTo_0 (n : Nat) (s less : List Int) : List.replicate n 0 = partTo n s less 0 := by
  refine List.ext_getElem (by simp [partTo_len]) fun i h1 h2 => by simp [partTo, lisL]
theorem partTo_set {n : Nat} {s less : List Int} {k : Nat} (hk : k < n) : (partTo n s less k).set k (partV s less k) = partTo n s less (k + 1) := by
  refine ext_getD (by simp [partTo_len]) fun u hu => ?_
  have hu' : u < n := by simpa [partTo_len] using hu
  rw [getD_set]
  simp only [partTo, lisL, rg_get, List.length_map, List.length_range, hu', if_true]
  by_cases h1 : k = u
  · subst h1; simp [hk]
  · have h2 : (u < k + 1) = (u < k) := by simp only [eq_iff_iff]; omega
    simp only [h1, false_and, if_false, h2]
theorem partTo_get {n : Nat} {s less : List Int} {v : Nat} (hv : v < n) : (partTo n s less n).getD v 0 = partV s less v := by
  rw [partTo, lisL, rg_get, if_pos hv, if_pos hv]
theorem scripts_same (a b : List Int) (ha : a.length ≤ 1000) : PC Try.prog 35 [.is a, .is b] (.b (decide (a = b))) [] := by
  refine PC_of_W cfn35 ?_
  simp -implicitDefEqProofs (disch := omega) [c35, List.getElem?_cons_zero, List.getElem?_cons_succ, wrap_id]
  refine HC_of_PC rfl (same_ok a b (by omega)) ?_
  simp -implicitDefEqProofs (disch := omega) [List.getElem?_cons_zero, List.getElem?_cons_succ, wrap_id]
  (refine fin0 trivial rfl ?_; simp -implicitDefEqProofs (disch := omega) [List.getElem?_cons_zero, List.getElem?_cons_succ, idx, wrap_id])
theorem dcheck_long (xs : List Int) (n : Nat) (h1 : 1 ≤ n) (h2 : n ≤ 12) (hl : ¬ (xs.length : Int) = n) : PC Try.prog 34 [.is xs, .i n] (.i 8) [] := by
  have h1' : ¬ (n : Int) < 1 := by omega
  have h2' : ¬ (12 : Int) < n := by omega
  refine PC_of_W cfn34 ?_
  simp -implicitDefEqProofs (disch := omega) [c34, List.getElem?_cons_zero, List.getElem?_cons_succ, wrap_id, hl, h1', h2']
  (refine fin0 trivial rfl ?_; simp -implicitDefEqProofs (disch := omega) [List.getElem?_cons_zero, List.getElem?_cons_succ, idx, wrap_id])
set_option maxRecDepth 10000 in
theorem least19_law (N : Int) (es : List Ed) (q : Int) (d less : List Int) : PC Try.prog 8 [G N es, .i q, .agg [.is d, .is less]] (.b true) [] := by
  refine PC_of_W cfn8 ?_
  simp -implicitDefEqProofs (disch := omega) [c8, List.getElem?_cons_zero, List.getElem?_cons_succ, wrap_id]
  refine HC_of_PC rfl (small19_ok N es q d) ?_
  cases hf : small19 N es q d
  · simp -implicitDefEqProofs (disch := omega) [List.getElem?_cons_zero, List.getElem?_cons_succ, wrap_id]
    refine HC_of_PC rfl (awake19_ok) ?_
    simp -implicitDefEqProofs (disch := omega) [List.getElem?_cons_zero, List.getElem?_cons_succ, wrap_id]
    (refine fin0 trivial rfl ?_; simp -implicitDefEqProofs (disch := omega) [List.getElem?_cons_zero, List.getElem?_cons_succ, idx, wrap_id])
  obtain ⟨hf1, h0, h60⟩ := small19_at hf
  obtain ⟨he, hd⟩ := few19_len hf1
  obtain ⟨n, rfl, h⟩ := st_ok h0
  have hn := h.n12
  have hdl := h.c.len
  simp -implicitDefEqProofs (disch := omega) [List.getElem?_cons_zero, List.getElem?_cons_succ, wrap_id]
  by_cases hll : less.length ≤ 4611686018427387904
  rotate_left
  · refine HC_of_PC rfl (dcheck_long less n h.n1 hn (by omega)) ?_
    simp -implicitDefEqProofs (disch := omega) [List.getElem?_cons_zero, List.getElem?_cons_succ, wrap_id]
    refine HC_of_PC rfl (awake19_ok) ?_
    simp -implicitDefEqProofs (disch := omega) [List.getElem?_cons_zero, List.getElem?_cons_succ, wrap_id]
    (refine fin0 trivial rfl ?_; simp -implicitDefEqProofs (disch := omega) [List.getElem?_cons_zero, List.getElem?_cons_succ, idx, wrap_id])
  refine HC_of_PC rfl (dcheck_ok less n hll) ?_
  by_cases hc : dcheck less n = 0
  rotate_left
  · simp -implicitDefEqProofs (disch := omega) [List.getElem?_cons_zero, List.getElem?_cons_succ, wrap_id, hc]
    refine HC_of_PC rfl (awake19_ok) ?_
    simp -implicitDefEqProofs (disch := omega) [List.getElem?_cons_zero, List.getElem?_cons_succ, wrap_id]
    (refine fin0 trivial rfl ?_; simp -implicitDefEqProofs (disch := omega) [List.getElem?_cons_zero, List.getElem?_cons_succ, idx, wrap_id])
  simp -implicitDefEqProofs (disch := omega) [List.getElem?_cons_zero, List.getElem?_cons_succ, wrap_id, hc]
  refine HC_of_PC rfl (stabilize_ok n es q d he hd) ?_
  rcases small_fall (B := 60) h0 h (by omega) (in60_get h60) with h12 | ⟨e0, e1, e2, hg⟩
  · simp -implicitDefEqProofs (disch := omega) [List.getElem?_cons_zero, List.getElem?_cons_succ, wrap_id, h12]
    refine HC_of_PC rfl (awake19_ok) ?_
    simp -implicitDefEqProofs (disch := omega) [List.getElem?_cons_zero, List.getElem?_cons_succ, wrap_id]
    (refine fin0 trivial rfl ?_; simp -implicitDefEqProofs (disch := omega) [List.getElem?_cons_zero, List.getElem?_cons_succ, idx, wrap_id])
  obtain ⟨S, hS⟩ : ∃ S, S = (stabF n es q d).1 := ⟨_, rfl⟩
  rw [← hS] at e1 e2 hg
  have hSl := hg.leg.len
  have hlen : less.length = n := by have := dcheck_len hc (by omega); omega
  have hn6 : n ≤ 1048576 := by omega
  have hgl : givenE n es less = 0 := by rw [givenE, if_neg (by simp [h.gc]), hc]
  obtain ⟨-, -, -, -, hlb, -, -⟩ := given_ok hgl
  -- the odometer is small
  have hodo : ∀ i, S.getD i 0 ≤ n * 720 := odo_small h hg.leg (D := 720) (fun A hA => by
    have h1 : sumN (fun v => if A v = true then d.getD v 0 - (movedE es S d).getD v 0 else 0) n ≤ sumN (fun _ => 60) n := sumN_le fun v hv => by
      split
      · rename_i hAv
        have := hg.leg.pos h.g hdl h.c.pos v hv (hA v hAv)
        have := in60_get h60 v
        omega
      · omega
    have h2 : ∀ k : Nat, sumN (fun _ => 60) k = 60 * k := by
      intro k
      induction k with
      | zero => rfl
      | succ k ih => simp only [sumN, ih]; push_cast; omega
    rw [h2] at h1
    omega) (by omega)
  have hodo2 : ∀ i, 0 ≤ S.getD i 0 ∧ S.getD i 0 ≤ 8640 := fun i => by
    have := hodo i
    have := hg.leg.nn i
    omega
  simp -implicitDefEqProofs (disch := omega) [List.getElem?_cons_zero, List.getElem?_cons_succ, wrap_id, e0, e1, e2, hSl, hn6]
  refine loopW n (fun k st => st = ⟨[(60, .i k), (59, .i n), (12, .os 2 0 n), (10, .p (.is S)), (8, .p (.is less)), (7, .p (.is d)), (3, .ptr 0 1 0 0), (1, .i q)], [.box (.p (G n es)), .box (.p (.agg [.is d, .is less])), rowI (partTo n S less k)]⟩) (Wk_keep [60, 59, 12, 10, 8, 7, 3, 1]) ?_ ?_
  · rw [← partTo_0, rowI, List.map_replicate]; rfl
  rintro k st hk rfl
  have hpl := partTo_len n S less k
  by_cases hlt : k < n
  · have hkS : k < S.length := by omega
    have hkl : k < less.length := by omega
    have b1 := hodo2 k
    have b2 := hlb k
    have hs := congrArg (List.map PV.i) (partTo_set (s := S) (less := less) hlt)
    rw [List.map_set, partV, getD_get hkS, getD_get hkl] at hs
    rw [getD_get hkS] at b1
    rw [getD_get hkl] at b2
    simp -implicitDefEqProofs (disch := omega) [List.getElem?_cons_zero, List.getElem?_cons_succ, wrap_id, hlt, hkS, hkl, hpl, hs]
    exact round_keep [60, 59, 12, 10, 8, 7, 3, 1] hlt rfl
  have hkn : k = n := by omega
  rw [hkn]
  obtain ⟨t, ht⟩ : ∃ t, t = partTo n S less n := ⟨_, rfl⟩
  have htl : t.length = n := by rw [ht, partTo_len]
  have htv : ∀ v, v < n → 0 ≤ t.getD v 0 ∧ t.getD v 0 ≤ S.getD v 0 := fun v hv => by
    rw [ht, partTo_get hv, partV]
    have := hodo2 v
    omega
  have htb : ∀ v, 0 ≤ t.getD v 0 ∧ t.getD v 0 ≤ 8640 := fun v => by
    by_cases hv : v < n
    · have := htv v hv
      have := hodo2 v
      omega
    · rw [List.getD_eq_getElem?_getD, List.getElem?_eq_none (by omega)]; simp
  rw [← ht]
  simp -implicitDefEqProofs (disch := omega) [List.getElem?_cons_zero, List.getElem?_cons_succ, wrap_id]
  refine HC_of_PC (by simp [views, view, viewC, htl]) (scripts_same S t (by omega)) ?_
  by_cases hSt : S = t
  · simp -implicitDefEqProofs (disch := omega) [List.getElem?_cons_zero, List.getElem?_cons_succ, wrap_id, hSt]
    refine HC_of_PC rfl (awake19_ok) ?_
    simp -implicitDefEqProofs (disch := omega) [List.getElem?_cons_zero, List.getElem?_cons_succ, wrap_id]
    (refine fin0 trivial rfl ?_; simp -implicitDefEqProofs (disch := omega) [List.getElem?_cons_zero, List.getElem?_cons_succ, idx, wrap_id])
  have hw := few19_ends hf1 h.gc
  have hcb : (movedE es t d).all inB = true := inB_all fun i _ => by
    have e1 := moved_dif h.g.right t d hdl i
    have e2 := dif_bd h.g.right (s := t) (B := 8640) (by omega) (fun i j _ _ => by have := htb i; have := htb j; omega) i
    have e3 := in60_get h60 i
    omega
  have htB : t.all inB = true := inB_all fun i _ => by have := htb i; omega
  have hdb : d.all inB = true := inB_all fun i _ => by have := in60_get h60 i; omega
  have hcl : (movedE es t d).length = n := by rw [movedE_length, hdl]
  obtain ⟨a, ha⟩ : ∃ a, a = movedE es t d := ⟨_, rfl⟩
  have hap := apply19 h he hdb htl htB hcb
  rw [← ha] at hcb hcl hap
  simp -implicitDefEqProofs (disch := omega) [List.getElem?_cons_zero, List.getElem?_cons_succ, wrap_id, hSt]
  refine HC_of_PC (by simp [views, view, viewC, htl]) (hap) ?_
  simp -implicitDefEqProofs (disch := omega) [List.getElem?_cons_zero, List.getElem?_cons_succ, wrap_id, hcl]
  refine loopW n (fun k st => st = ⟨[(98, .i k), (97, .i n), (14, .p (.is a)), (3, .ptr 0 1 0 0), (1, .i q)], [.box (.p (G n es))]⟩ ∧ ∀ u, u < k → unstB n es q a u = false) (wk_norm [0] [98, 97, 14, 3, 1] rfl rfl) ⟨rfl, fun u hu => by omega⟩ ?_
  rintro k st hk2 ⟨rfl, hI⟩
  by_cases hlt2 : k < n
  · have hka : k < a.length := by omega
    have hgk := getD_get hka
    have go : unstB n es q a k = false → ∀ u, u < k + 1 → unstB n es q a u = false := fun h u hu => by
      rcases Nat.lt_or_ge u k with h1 | h1
      · exact hI u h1
      · have e : u = k := by omega
        rw [e]; exact h
    by_cases h3 : (k : Int) = q
    · have hu : unstB n es q a k = false := by simp [unstB, h3]
      have hI' := go hu
      have h3' : ((k : Int) = q) = True := eq_true h3
      simp -implicitDefEqProofs (disch := omega) [List.getElem?_cons_zero, List.getElem?_cons_succ, wrap_id, hlt2, h3', hka]
      exact round_end [0] [98, 97, 14, 3, 1] hlt2 rfl ⟨rfl, hI'⟩
    · simp -implicitDefEqProofs (disch := omega) [List.getElem?_cons_zero, List.getElem?_cons_succ, wrap_id, hlt2, h3, hka]
      refine HC_of_PC rfl (rval_ok n k es (by omega) h.g.right (by omega)) ?_
      by_cases h4 : valTo es k n ≤ a[k]
      · simp -implicitDefEqProofs (disch := omega) [List.getElem?_cons_zero, List.getElem?_cons_succ, wrap_id, h4]
        refine HC_of_PC rfl (awake19_ok) ?_
        simp -implicitDefEqProofs (disch := omega) [List.getElem?_cons_zero, List.getElem?_cons_succ, wrap_id]
        (refine fin0 trivial rfl ?_; simp -implicitDefEqProofs (disch := omega) [List.getElem?_cons_zero, List.getElem?_cons_succ, idx, wrap_id])
      · have hu : unstB n es q a k = false := by simp only [unstB, decide_eq_false_iff_not]; rintro ⟨-, h⟩; exact h4 (by rw [← hgk]; exact h)
        have hI' := go hu
        simp -implicitDefEqProofs (disch := omega) [List.getElem?_cons_zero, List.getElem?_cons_succ, wrap_id, h4]
        exact round_end [0] [98, 97, 14, 3, 1] hlt2 rfl ⟨rfl, hI'⟩
  · exfalso
    have hx : nxtF n es q a = none := nxtF_of fun v hv hq => by
      have := hI v (by omega)
      simp only [unstB, decide_eq_false_iff_not] at this
      have : ¬ valTo es v n ≤ a.getD v 0 := fun h => this ⟨hq, h⟩
      omega
    have hstab : Stab n es q d t := ⟨htl, fun i _ => (htb i).1, fun v hv hq => by rw [← ha]; exact nxtF_none hx v hv hq⟩
    refine hSt (ext_getD (by omega) fun i hi => ?_)
    have h1 := hg.leg.least h.g hdl hstab i (by omega)
    have h2 := htv i (by omega)
    omega
end Go.Proofs.Ythdbmoflbnggpaa
