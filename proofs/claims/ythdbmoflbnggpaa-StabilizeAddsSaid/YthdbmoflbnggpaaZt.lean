/-
  The law Adds: stabilizing a sum.
-/
import Derived.Test.YthdbmoflbnggpaaZr
set_option linter.unusedSimpArgs false
set_option linter.unusedVariables false
namespace Go.Proofs.Ythdbmoflbnggpaa
open Go.Abs Go.Sand

def addL (a b : List Int) : List Int := (List.range a.length).map fun v => a.getD v 0 + b.getD v 0
theorem addL_len (a b : List Int) : (addL a b).length = a.length := by simp [addL]
theorem addL_get (a b : List Int) (v : Nat) (h : v < a.length) : (addL a b).getD v 0 = a.getD v 0 + b.getD v 0 := by
  rw [addL, rg_get]; exact if_pos h
theorem own2_ok (a b : List Int) (n : Nat) (h1 : 1 ≤ n) (h2 : n ≤ 12) (ha : a.length = n) (hb : b.length = n) (ha2 : a.all inB = true) (hb2 : b.all inB = true) : PC Try.prog 91 [.sl [.is a, .is b]] (.i 0) [] := by
  have da := dcheck_mk h1 h2 ha ha2
  have db := dcheck_mk h1 h2 hb hb2
  have hN : (a.length : Int) = n := by omega
  have hM : (b.length : Int) = n := by omega
  refine PC_of_W cfn91 ?_
  simp -implicitDefEqProofs (disch := omega) [c91, List.getElem?_cons_zero, List.getElem?_cons_succ, wrap_id]
  refine loopW 2 (fun k s => s = ⟨[(10, .i k), (9, .i 2), (8, .p (.sl [.is a, .is b])), (0, .p (.sl [.is a, .is b]))], []⟩) (wk_norm [] [10, 9, 8, 0] rfl rfl) rfl ?_
  rintro k s hk rfl
  match k, hk with
  | 0, _ =>
    simp -implicitDefEqProofs (disch := omega) [List.getElem?_cons_zero, List.getElem?_cons_succ, wrap_id]
    refine HC_of_PC rfl (chk_ok a a.length (by omega)) ?_
    rw [hN, da]
    simp -implicitDefEqProofs (disch := omega) [List.getElem?_cons_zero, List.getElem?_cons_succ, wrap_id]
    exact round_end [] [10, 9, 8, 0] (by decide) rfl rfl
  | 1, _ =>
    simp -implicitDefEqProofs (disch := omega) [List.getElem?_cons_zero, List.getElem?_cons_succ, wrap_id]
    refine HC_of_PC rfl (chk_ok b b.length (by omega)) ?_
    rw [hM, db]
    simp -implicitDefEqProofs (disch := omega) [List.getElem?_cons_zero, List.getElem?_cons_succ, wrap_id]
    exact round_end [] [10, 9, 8, 0] (by decide) rfl rfl
  | 2, _ =>
    simp -implicitDefEqProofs (disch := omega) [List.getElem?_cons_zero, List.getElem?_cons_succ, wrap_id]
    refine loopW 2 (fun k s => s = ⟨[(24, .i k), (23, .i 2), (22, .p (.sl [.is a, .is b])), (0, .p (.sl [.is a, .is b]))], []⟩) (wk_norm [] [24, 23, 22, 0] rfl rfl) rfl ?_
    rintro k s hk rfl
    match k, hk with
    | 0, _ =>
      simp -implicitDefEqProofs (disch := omega) [List.getElem?_cons_zero, List.getElem?_cons_succ, wrap_id]
      exact round_end [] [24, 23, 22, 0] (by decide) rfl rfl
    | 1, _ =>
      simp -implicitDefEqProofs (disch := omega) [List.getElem?_cons_zero, List.getElem?_cons_succ, wrap_id, hN, hM]
      exact round_end [] [24, 23, 22, 0] (by decide) rfl rfl
    | 2, _ =>
      simp -implicitDefEqProofs (disch := omega) [List.getElem?_cons_zero, List.getElem?_cons_succ, wrap_id]
      (refine fin0 trivial rfl ?_; simp -implicitDefEqProofs (disch := omega) [List.getElem?_cons_zero, List.getElem?_cons_succ, idx, wrap_id])
theorem add1_ok (x y : Int) (h1 : -1048576 ≤ x ∧ x ≤ 1048576) (h2 : -1048576 ≤ y ∧ y ≤ 1048576) : PC Try.prog 65 [.i x, .i y] (.i (x + y)) [] := by
  refine PC_of_W cfn65 ?_
  simp -implicitDefEqProofs (disch := omega) [c65, List.getElem?_cons_zero, List.getElem?_cons_succ, wrap_id]
  (refine fin0 trivial rfl ?_; simp -implicitDefEqProofs (disch := omega) [List.getElem?_cons_zero, List.getElem?_cons_succ, idx, wrap_id])
theorem all_get {l : List Int} (h : l.all inB = true) (v : Nat) : -1048576 ≤ l.getD v 0 ∧ l.getD v 0 ≤ 1048576 := by
  by_cases hv : v < l.length
  · have := List.all_eq_true.1 h _ (List.getElem_mem hv)
    rw [getD_get hv]
    exact inB_iff.1 this
  · simp [List.getD_eq_getElem?_getD, List.getElem?_eq_none (Nat.le_of_not_lt hv)]
/-- While two divisors are added. -/
def addTo (a b : List Int) (k : Nat) : List Int := (List.range a.length).map fun v => if v < k then a.getD v 0 + b.getD v 0 else 0
theorem addTo_len (a b : List Int) (k : Nat) : (addTo a b k).length = a.length := by simp [addTo]
theorem addTo_0 (a b : List Int) : List.replicate a.length 0 = addTo a b 0 := by
  refine List.ext_getElem (by simp [addTo]) fun i h1 h2 => by simp [addTo]
theorem addTo_set (a b : List Int) {k : Nat} (hk : k < a.length) : (addTo a b k).set k (a.getD k 0 + b.getD k 0) = addTo a b (k + 1) := by
  refine ext_getD (by simp [addTo]) fun u hu => ?_
  have hu' : u < a.length := by simpa [addTo] using hu
  rw [getD_set]
  simp only [addTo, rg_get, List.length_map, List.length_range, hu', if_true]
  by_cases h1 : k = u
  · subst h1; simp [hk]
  · have h2 : (u < k + 1) = (u < k) := by simp only [eq_iff_iff]; omega
    simp only [h1, false_and, if_false, h2]
theorem addTo_n (a b : List Int) : addTo a b a.length = addL a b := by
  unfold addTo addL
  refine List.map_congr_left fun u hu => ?_
  rw [if_pos (List.mem_range.1 hu)]
section
variable {R : AV → List AO → Prop}
set_option maxRecDepth 10000 in
theorem eachAdd_ok (a b : List Int) (n : Nat) (h1 : 1 ≤ n) (h2 : n ≤ 12) (ha : a.length = n) (hb : b.length = n) (ha2 : a.all inB = true) (hb2 : b.all inB = true) (hs : (addL a b).all inB = true) (hR : R (.tup [.p (.is (addL a b)), .i 0]) []) :
    HC Try.prog false 64 [.p (.is a), .p (.is b), .fn (.func 65) [] []] [] R := by
  have hn6 : n ≤ 1048576 := by omega
  refine HC_of_W (af := _) ((by exact cfn64 : cfn _ _ _ = some _)) ?_
  simp -implicitDefEqProofs (disch := omega) [c64, List.getElem?_cons_zero, List.getElem?_cons_succ, wrap_id]
  refine HC_of_PC rfl (own2_ok a b n h1 h2 ha hb ha2 hb2) ?_
  simp -implicitDefEqProofs (disch := omega) [List.getElem?_cons_zero, List.getElem?_cons_succ, wrap_id, ha, hn6]
  refine loopW n (fun k st => st = ⟨[(23, .i k), (22, .i n), (9, .os 0 0 n), (2, .fn (.func 65) [] []), (1, .p (.is b)), (0, .p (.is a))], [rowI (addTo a b k)]⟩) (Wk_norm [1] [23, 22, 9, 2, 1, 0] rfl) ?_ ?_
  · rw [← addTo_0, ha, rowI, List.map_replicate]; rfl
  rintro k st hk rfl
  have hl := addTo_len a b k
  rw [ha] at hl
  by_cases hlt : k < n
  · have hka : k < a.length := by omega
    have hkb : k < b.length := by omega
    have hga := getD_get hka
    have hgb := getD_get hkb
    have ba := all_get ha2 k
    have bb := all_get hb2 k
    have bs := all_get hs k
    rw [addL_get a b k hka] at bs
    have hset := congrArg (List.map PV.i) (addTo_set a b hka)
    rw [List.map_set, hga, hgb] at hset
    rw [hga] at ba
    rw [hgb] at bb
    rw [hga, hgb] at bs
    have hin : inB (a[k] + b[k]) = true := inB_iff.2 bs
    have hget : (addTo a b (k + 1))[k]? = some (a[k] + b[k]) := by
      have hk2 : k < (addTo a b (k + 1)).length := by rw [addTo_len]; exact hka
      rw [List.getElem?_eq_getElem hk2, ← getD_get hk2, addTo, rg_get]
      simp only [hka, if_true, Nat.lt_succ_self, hga, hgb]
    have hl2 : (addTo a b (k + 1)).length = n := by rw [addTo_len, ha]
    have hgE : ∀ h, (addTo a b (k + 1))[k]'h = a[k] + b[k] := fun h => by rw [List.getElem?_eq_getElem h] at hget; exact Option.some.inj hget
    simp -implicitDefEqProofs (disch := omega) [List.getElem?_cons_zero, List.getElem?_cons_succ, wrap_id, hlt, hka, hkb, hl]
    refine ⟨by kernel_rfl, ?_⟩
    refine HC_of_PC rfl (add1_ok a[k] b[k] ba bb) ?_
    simp -implicitDefEqProofs (disch := omega) [List.getElem?_cons_zero, List.getElem?_cons_succ, wrap_id, hlt, hka, hkb, hl, hset, hl2, hgE]
    refine HC_of_PC rfl (within_ok (a[k] + b[k])) ?_
    simp -implicitDefEqProofs (disch := omega) [List.getElem?_cons_zero, List.getElem?_cons_succ, wrap_id, hin]
    exact round_end [0] [23, 22, 9, 2, 1, 0] hlt rfl rfl
  · have hkn : k = n := by omega
    rw [hkn, ← ha, addTo_n]
    have hll := addL_len a b
    simp -implicitDefEqProofs (disch := omega) [List.getElem?_cons_zero, List.getElem?_cons_succ, wrap_id]
    exact finR [] trivial rfl rfl (by simpa [renH, AV.ren, renL, Abs.idx, ha, hll] using hR)
end
theorem chipsAdd_ok (a b : List Int) (n : Nat) (h1 : 1 ≤ n) (h2 : n ≤ 12) (ha : a.length = n) (hb : b.length = n) (ha2 : a.all inB = true) (hb2 : b.all inB = true) (hs : (addL a b).all inB = true) :
    PC Try.prog 33 [.is a, .is b] (.tup [.p (.is (addL a b)), .i 0]) [] := by
  refine PC_of_W cfn33 ?_
  simp -implicitDefEqProofs (disch := omega) [c33, List.getElem?_cons_zero, List.getElem?_cons_succ, wrap_id]
  refine eachAdd_ok a b n h1 h2 ha hb ha2 hb2 hs ?_
  simp -implicitDefEqProofs (disch := omega) [List.getElem?_cons_zero, List.getElem?_cons_succ, wrap_id]
  (refine fin0 trivial rfl ?_; simp -implicitDefEqProofs (disch := omega) [List.getElem?_cons_zero, List.getElem?_cons_succ, idx, wrap_id])
section
variable {n : Nat} {es : List Ed} {q : Int}
theorem aft_add (hg : GoodG n es) {x y t : List Int} (hx : x.length = n) (i : Nat) : (movedE es t (addL x y)).getD i 0 = (movedE es t x).getD i 0 + (addL x y).getD i 0 - x.getD i 0 := by
  rw [moved_dif hg.right t _ (by rw [addL_len, hx]), moved_dif hg.right t x hx]
  omega
theorem more_eq (hg : GoodG n es) {x y t : List Int} (hx : x.length = n) : addL (movedE es t x) y = movedE es t (addL x y) := by
  refine ext_getD (by rw [addL_len, movedE_length, movedE_length, addL_len]) fun i hi => ?_
  rw [addL_len, movedE_length] at hi
  rw [addL_get _ _ _ (by rw [movedE_length]; exact hi), aft_add hg hx, addL_get x y i hi]
  omega
/-- What is legal stays legal when chips come in. -/
theorem leg_more (hg : GoodG n es) {x y t : List Int} (hx : x.length = n) (hy : ∀ v, v < n → (v : Int) ≠ q → 0 ≤ y.getD v 0) (h : Leg n es q x t) : Leg n es q (addL x y) t := by
  induction h with
  | nil => exact .nil
  | @more s v k h m ih =>
    refine ih.more ⟨m.lt, m.ne, m.k1, ?_⟩
    rw [aft_add hg hx, addL_get x y v (by rw [hx]; exact m.lt)]
    have := m.le
    have := hy v m.lt m.ne
    omega
/-- One legal script behind another one. -/
theorem leg_two (hg : GoodG n es) {d t u : List Int} (hd : d.length = n) (ht : Leg n es q d t) (h : Leg n es q (movedE es t d) u) : Leg n es q d (addL t u) := by
  have htl := ht.len
  induction h with
  | nil =>
    have e : addL t (List.replicate n 0) = t := ext_getD (by rw [addL_len]) fun i hi => by
      rw [addL_len] at hi
      rw [addL_get _ _ _ hi, zeros_get]; omega
    rw [e]; exact ht
  | @more s v k h m ih =>
    have hsl := h.len
    have e : addL t (moreS s v k) = moreS (addL t s) v k := ext_getD (by rw [addL_len, moreS_len, addL_len]) fun i hi => by
      rw [addL_len] at hi
      rw [addL_get _ _ _ hi, moreS_get _ _ _ (by rw [hsl]; exact m.lt), moreS_get _ _ _ (by rw [addL_len, htl]; exact m.lt), addL_get _ _ _ hi]
      omega
    have e2 : movedE es s (movedE es t d) = movedE es (addL t s) d := moved_two hg.right 0 hd fun i hi => by rw [addL_get _ _ _ (by omega)]; omega
    rw [e]
    exact ih.more (by rw [← e2]; exact m)
theorem sum_addL (a b : List Int) (h : a.length = b.length) : sumI (addL a b) = sumI a + sumI b := by
  rw [sumI_sumN, sumI_sumN, sumI_sumN, addL_len, ← h, ← sumN_add]
  exact sumN_congr fun u hu => addL_get a b u hu
/-- STABILIZING A SUM. -/
theorem adds_plain {x y : List Int} (h : StOk n es q x) (hy : ∀ v, v < n → (v : Int) ≠ q → 0 ≤ y.getD v 0) {T S : List Int} (hT : Good n es q x T) (hS : Good n es q (addL x y) S) :
    ∃ U, U = (stabF n es q (addL (movedE es T x) y)).1 ∧ (stabF n es q (addL (movedE es T x) y)).2 = 0 ∧ S = addL T U ∧ movedE es U (addL (movedE es T x) y) = movedE es S (addL x y) := by
  have hx := h.c.len
  have e := more_eq h.g (y := y) (t := T) hx
  have hxy : (addL x y).length = n := by rw [addL_len, hx]
  obtain ⟨hl, hc⟩ := stabF_spec (d := addL (movedE es T x) y) h.v
  obtain ⟨U, hU⟩ : ∃ U, U = (stabF n es q (addL (movedE es T x) y)).1 := ⟨_, rfl⟩
  rw [← hU] at hl hc
  have h1 := leg_more h.g hx hy hT.leg
  have h2 := leg_two h.g hxy h1 (by rw [← e]; exact hl)
  have e2 : movedE es U (addL (movedE es T x) y) = movedE es (addL T U) (addL x y) := by
    rw [e]
    exact moved_two h.g.right 0 hxy fun i hi => by rw [addL_get _ _ _ (by rw [hT.leg.len]; exact hi)]; omega
  have h3 := h2.least h.g hxy (hS.leg.stab (nxtF_none hS.none))
  have h4 := sum_le (by rw [h2.len, hS.leg.len]) (fun i hi => h3 i (by rw [h2.len] at hi; exact hi))
  rw [sum_addL _ _ (by rw [hT.leg.len, hl.len])] at h4
  have h5 := hT.leg.sum
  have h6 := hS.sum
  rcases hc with ⟨c1, c2, -⟩ | ⟨-, c2⟩
  · have e3 : S = addL T U := leg_same h.g hxy hS.leg h2 (hS.leg.stab (nxtF_none hS.none)) (h2.stab (nxtF_none (by rw [← e2]; exact c2)))
    exact ⟨U, hU, c1, e3, by rw [e2, ← e3]⟩
  · omega
end
set_option maxRecDepth 10000 in
theorem adds19_law (N : Int) (es : List Ed) (q : Int) (x y : List Int) : PC Try.prog 7 [G N es, .i q, .agg [.is x, .is y]] (.b true) [] := by
  refine PC_of_W cfn7 ?_
  simp -implicitDefEqProofs (disch := omega) [c7, List.getElem?_cons_zero, List.getElem?_cons_succ, wrap_id]
  refine HC_of_PC rfl (small19_ok N es q x) ?_
  cases hf : small19 N es q x
  · simp -implicitDefEqProofs (disch := omega) [List.getElem?_cons_zero, List.getElem?_cons_succ, wrap_id]
    refine HC_of_PC rfl (awake19_ok) ?_
    simp -implicitDefEqProofs (disch := omega) [List.getElem?_cons_zero, List.getElem?_cons_succ, wrap_id]
    (refine fin0 trivial rfl ?_; simp -implicitDefEqProofs (disch := omega) [List.getElem?_cons_zero, List.getElem?_cons_succ, idx, wrap_id])
  simp -implicitDefEqProofs (disch := omega) [List.getElem?_cons_zero, List.getElem?_cons_succ, wrap_id]
  refine HC_of_PC rfl (small19_ok N es q y) ?_
  cases hf2 : small19 N es q y
  · simp -implicitDefEqProofs (disch := omega) [List.getElem?_cons_zero, List.getElem?_cons_succ, wrap_id]
    refine HC_of_PC rfl (awake19_ok) ?_
    simp -implicitDefEqProofs (disch := omega) [List.getElem?_cons_zero, List.getElem?_cons_succ, wrap_id]
    (refine fin0 trivial rfl ?_; simp -implicitDefEqProofs (disch := omega) [List.getElem?_cons_zero, List.getElem?_cons_succ, idx, wrap_id])
  obtain ⟨hf1, h0, h60⟩ := small19_at hf
  obtain ⟨-, h0y, h60y⟩ := small19_at hf2
  obtain ⟨he, hd⟩ := few19_len hf1
  obtain ⟨n, rfl, h⟩ := st_ok h0
  obtain ⟨n', en, hy⟩ := st_ok h0y
  obtain rfl : n = n' := by omega
  have hn := h.n12
  have hxl := h.c.len
  have hyl := hy.c.len
  have hgx := in60_get h60
  have hgy := in60_get h60y
  have hxb : x.all inB = true := inB_all fun i _ => by have := hgx i; omega
  have hyb : y.all inB = true := inB_all fun i _ => by have := hgy i; omega
  have hsl : (addL x y).length = n := by rw [addL_len, hxl]
  have hsg : ∀ i, -120 ≤ (addL x y).getD i 0 ∧ (addL x y).getD i 0 ≤ 120 := fun i => by
    have := hgx i
    have := hgy i
    by_cases hi : i < x.length
    · rw [addL_get x y i hi]; omega
    · rw [List.getD_eq_getElem?_getD, List.getElem?_eq_none (by rw [addL_len]; omega)]; simp
  have hsb : (addL x y).all inB = true := inB_all fun i _ => by have := hsg i; omega
  have hsp : ∀ v, v < n → (v : Int) ≠ q → 0 ≤ (addL x y).getD v 0 := fun v hv hq => by
    have := h.c.pos v hv hq
    have := hy.c.pos v hv hq
    rw [addL_get x y v (by omega)]; omega
  have hs0 := st_mk h hsl hsb hsp
  have hss : StOk n es q (addL x y) := { h with c := ⟨hsl, fun i => by have := hsg i; omega, hsp⟩ }
  simp -implicitDefEqProofs (disch := omega) [List.getElem?_cons_zero, List.getElem?_cons_succ, wrap_id]
  refine HC_of_PC rfl (chipsAdd_ok x y n h.n1 hn hxl hyl hxb hyb hsb) ?_
  simp -implicitDefEqProofs (disch := omega) [List.getElem?_cons_zero, List.getElem?_cons_succ, wrap_id]
  refine HC_of_PC rfl (stabilize_ok n es q (addL x y) he (by omega)) ?_
  simp -implicitDefEqProofs (disch := omega) [List.getElem?_cons_zero, List.getElem?_cons_succ, wrap_id]
  refine HC_of_PC rfl (stabilize_ok n es q x he hd) ?_
  rcases small_fall (B := 120) hs0 hss (by omega) hsg with s12 | ⟨s0, s1, s2, gS⟩
  · simp -implicitDefEqProofs (disch := omega) [List.getElem?_cons_zero, List.getElem?_cons_succ, wrap_id, s12]
    refine HC_of_PC rfl (awake19_ok) ?_
    simp -implicitDefEqProofs (disch := omega) [List.getElem?_cons_zero, List.getElem?_cons_succ, wrap_id]
    (refine fin0 trivial rfl ?_; simp -implicitDefEqProofs (disch := omega) [List.getElem?_cons_zero, List.getElem?_cons_succ, idx, wrap_id])
  rcases small_fall (B := 60) h0 h (by omega) hgx with x12 | ⟨x0, x1, x2, gT⟩
  · simp -implicitDefEqProofs (disch := omega) [List.getElem?_cons_zero, List.getElem?_cons_succ, wrap_id, s0, x12]
    refine HC_of_PC rfl (awake19_ok) ?_
    simp -implicitDefEqProofs (disch := omega) [List.getElem?_cons_zero, List.getElem?_cons_succ, wrap_id]
    (refine fin0 trivial rfl ?_; simp -implicitDefEqProofs (disch := omega) [List.getElem?_cons_zero, List.getElem?_cons_succ, idx, wrap_id])
  obtain ⟨U, hU, u0, hSU, hmv⟩ := adds_plain h hy.c.pos gT gS
  obtain ⟨T, hT⟩ : ∃ T, T = (stabF n es q x).1 := ⟨_, rfl⟩
  obtain ⟨S, hS⟩ : ∃ S, S = (stabF n es q (addL x y)).1 := ⟨_, rfl⟩
  rw [← hT] at hU u0 hSU hmv x1 x2 gT
  rw [← hS] at s1 s2 gS hSU hmv
  obtain ⟨a, ha⟩ : ∃ a, a = movedE es T x := ⟨_, rfl⟩
  have hal : a.length = n := by rw [ha, movedE_length, hxl]
  have hag := chips_small h (B := 60) (by omega) hgx gT.leg
  rw [← ha] at hag hU u0 hmv x2
  have hab : a.all inB = true := inB_all fun i _ => by have := hag i; omega
  have hml : (addL a y).length = n := by rw [addL_len, hal]
  have hmg : ∀ i, -900 ≤ (addL a y).getD i 0 ∧ (addL a y).getD i 0 ≤ 900 := fun i => by
    have := hag i
    have := hgy i
    by_cases hi : i < a.length
    · rw [addL_get a y i hi]; omega
    · rw [List.getD_eq_getElem?_getD, List.getElem?_eq_none (by rw [addL_len]; omega)]; simp
  have hmb : (addL a y).all inB = true := inB_all fun i _ => by have := hmg i; omega
  have hmp : ∀ v, v < n → (v : Int) ≠ q → 0 ≤ (addL a y).getD v 0 := fun v hv hq => by
    have h1 := gT.leg.pos h.g hxl h.c.pos v hv hq
    rw [← ha] at h1
    have := hy.c.pos v hv hq
    rw [addL_get a y v (by omega)]; omega
  have hm0 := st_mk h hml hmb hmp
  have hms : StOk n es q (addL a y) := { h with c := ⟨hml, fun i => by have := hmg i; omega, hmp⟩ }
  rcases small_fall (B := 900) hm0 hms (by omega) hmg with m12 | ⟨m0, m1, m2, gU⟩
  · exfalso
    have : fallE n es q (addL a y) = settledE n es q (addL a y) := by rw [fallE, if_neg (by simp [hm0]), Int.toNat_natCast]
    rw [this, settledE, u0] at m12
    simp only [ne_eq, not_true_eq_false, if_false] at m12
    split at m12 <;> omega
  rw [← hU] at m1 m2 gU
  rw [hmv] at m2
  have hTl := gT.leg.len
  have hSl := gS.leg.len
  have hUl := gU.leg.len
  simp -implicitDefEqProofs (disch := omega) [List.getElem?_cons_zero, List.getElem?_cons_succ, wrap_id, s0, x0, s1, s2, x1, x2]
  refine HC_of_PC rfl (chipsAdd_ok a y n h.n1 hn hal hyl hab hyb hmb) ?_
  simp -implicitDefEqProofs (disch := omega) [List.getElem?_cons_zero, List.getElem?_cons_succ, wrap_id]
  refine HC_of_PC rfl (stabilize_ok n es q (addL a y) he (by omega)) ?_
  simp -implicitDefEqProofs (disch := omega) [List.getElem?_cons_zero, List.getElem?_cons_succ, wrap_id, m0, m1, m2, hTl, hSl, hUl]
  refine HC_of_PC rfl (same17_refl (movedE es S (addL x y)) (by rw [movedE_length]; omega)) ?_
  simp -implicitDefEqProofs (disch := omega) [List.getElem?_cons_zero, List.getElem?_cons_succ, wrap_id, hSl]
  refine loopW n (fun k s => s = ⟨[(127, .i k), (126, .i n), (10, .p (.is S)), (13, .p (.is T)), (17, .p (.is U))], []⟩) (wk_norm [] [127, 126, 10, 13, 17] rfl rfl) rfl ?_
  rintro k s hk rfl
  by_cases hlt : k < n
  · have hkS : k < S.length := by omega
    have hkT : k < T.length := by omega
    have hkU : k < U.length := by omega
    have h1 : S.getD k 0 = T.getD k 0 + U.getD k 0 := by rw [hSU, addL_get _ _ _ hkT]
    have b1 := script_in gT.leg gT.sum k
    have b2 := script_in gU.leg gU.sum k
    rw [getD_get hkS, getD_get hkT, getD_get hkU] at h1
    rw [getD_get hkT] at b1
    rw [getD_get hkU] at b2
    simp -implicitDefEqProofs (disch := omega) [List.getElem?_cons_zero, List.getElem?_cons_succ, wrap_id, hlt, hkS, hkT, hkU, h1]
    exact round_end [] [127, 126, 10, 13, 17] hlt rfl rfl
  · simp -implicitDefEqProofs (disch := omega) [List.getElem?_cons_zero, List.getElem?_cons_succ, wrap_id, hlt]
    refine HC_of_PC rfl (awake19_ok) ?_
    simp -implicitDefEqProofs (disch := omega) [List.getElem?_cons_zero, List.getElem?_cons_succ, wrap_id]
    (refine fin0 trivial rfl ?_; simp -implicitDefEqProofs (disch := omega) [List.getElem?_cons_zero, List.getElem?_cons_succ, idx, wrap_id])
end Go.Proofs.Ythdbmoflbnggpaa
