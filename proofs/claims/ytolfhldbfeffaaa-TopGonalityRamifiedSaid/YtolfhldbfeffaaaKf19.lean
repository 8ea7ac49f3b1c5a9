/-
  Texts joined: Acd Ye Yf Yg Yh Yi Yj Yl Yo Yp Yq.
-/
import Derived.Test.YtolfhldbfeffaaaKf18

section
namespace Go
namespace Abs
open Go.RowKit
theorem HC_norm {P : Program} {e : Bool} {f : FuncId} {args : List AV} {H : List AO} {K : AV → List AO → Prop} (h : HC P e f args H fun r H' => ∃ σ, okσ σ H.length H' = true ∧ K (r.ren H' (idx σ 0)) (renH σ H')) : HC P e f args H K := by
  intro M vs hM hH ha
  refine (h M vs hM hH ha).mono ?_
  rintro en w' ⟨v, r, H', φ', rfl, ⟨σ, hσ, hK⟩, hM', hle, hrv, hbel, hext⟩
  subst hH
  obtain ⟨M', e1, e2, e3, e4, hM'', hle', -, hx⟩ := mem_norm (M := ⟨w', H', φ', M.base, M.S⟩) hM' hle rfl hσ
  obtain ⟨w1, H1, φ1, base1, S1⟩ := M'
  dsimp only at e1 e2 e3 e4
  subst e1 e2 e3 e4
  exact ⟨v, _, _, φ1, rfl, hK, hM'', hle', hx hrv, hbel, hext⟩
theorem renH_range (A B : List AO) : renH (List.range A.length) (A ++ B) = A.map fun ob => ob.ren (A ++ B) (idx (List.range A.length) 0) := by
  unfold renH
  apply List.ext_getElem?
  intro i
  by_cases h : i < A.length
  · simp [h, List.getD_eq_getElem?_getD, List.getElem?_append_left h]
  · simp [h]
theorem idx_range_none {n o : Nat} (h : n ≤ o) : idx (List.range n) 0 o = none := by
  cases hi : idx (List.range n) 0 o with
  | none => rfl
  | some j =>
    obtain ⟨_, h2⟩ := idx_some hi
    have hj := (List.getElem?_eq_some_iff.1 h2)
    obtain ⟨hj1, hj2⟩ := hj
    simp at hj1 hj2
    omega
theorem map_ren_lo {A : List AO} {m : Nat} (h : ∀ ob ∈ A, loO m ob = true) {n : Nat} (hmn : m ≤ n) (H : List AO) : A.map (fun ob => ob.ren H (idx (List.range n) 0)) = A := by
  conv => rhs; rw [← List.map_id A]
  exact List.map_congr_left fun ob hob => loO_ren (fun i hi => idx_range (by omega)) ob (h ob hob)
end Abs
end Go
end
section
set_option linter.unusedSimpArgs false
set_option linter.unusedVariables false
namespace Go.Proofs.Ytolfhldbfeffaaa
open Go.Abs Go.Sand
def burnC (es : List Ed) (d : List Int) (b : List Bool) (v : Nat) : Bool := !b.getD v false && decide (d.getD v 0 < joinsF v (fun u => b.getD u.toNat false) es)
def burn1 (es : List Ed) (d : List Int) (b : List Bool) (v : Nat) : List Bool := if burnC es d b v = true then b.set v true else b
/-- The first vertices have been asked, and burn if they have to. -/
def passB (es : List Ed) (d : List Int) (b : List Bool) : Nat → List Bool
  | 0 => b
  | k + 1 => burn1 es d (passB es d b k) k
def chgB (es : List Ed) (d : List Int) (b : List Bool) : Nat → Bool
  | 0 => false
  | k + 1 => chgB es d b k || burnC es d (passB es d b k) k
/-- What burns behind so many rounds. -/
def bS (n : Nat) (es : List Ed) (q : Nat) (d : List Int) : Nat → List Bool
  | 0 => (List.replicate n false).set q true
  | k + 1 => passB es d (bS n es q d k) n
def agB (n : Nat) (es : List Ed) (q : Nat) (d : List Int) : Nat → Bool
  | 0 => true
  | k + 1 => chgB es d (bS n es q d k) n
theorem burn1_len (es : List Ed) (d : List Int) (b : List Bool) (v : Nat) : (burn1 es d b v).length = b.length := by unfold burn1; split <;> simp
theorem passB_len (es : List Ed) (d : List Int) (b : List Bool) : ∀ k, (passB es d b k).length = b.length
  | 0 => rfl
  | k + 1 => by rw [passB, burn1_len, passB_len]
theorem bS_len (n : Nat) (es : List Ed) (q : Nat) (d : List Int) : ∀ k, (bS n es q d k).length = n
  | 0 => by simp [bS]
  | k + 1 => by rw [bS, passB_len, bS_len]
/-- How many burn. -/
def cntT (b : List Bool) : Nat := b.count true
theorem cntT_set {b : List Bool} {v : Nat} (hv : v < b.length) (h : b.getD v false = false) : cntT (b.set v true) = cntT b + 1 := by
  have hb : b[v] = false := by rw [← h]; simp [List.getD, hv]
  unfold cntT
  rw [List.count_set hv, hb]
  simp
theorem pass_cnt {es : List Ed} {d : List Int} {b : List Bool} : ∀ {k : Nat}, k ≤ b.length → cntT b ≤ cntT (passB es d b k) ∧ (chgB es d b k = true → cntT b < cntT (passB es d b k))
  | 0, _ => ⟨Nat.le_refl _, fun h => by cases h⟩
  | k + 1, hk => by
    obtain ⟨h1, h2⟩ := pass_cnt (es := es) (d := d) (b := b) (k := k) (by omega)
    rw [passB, chgB, burn1]
    cases hc : burnC es d (passB es d b k) k with
    | false =>
      simp only [Bool.or_false, Bool.false_eq_true, if_false]
      exact ⟨h1, h2⟩
    | true =>
      have hc' := hc
      simp only [burnC, Bool.and_eq_true, Bool.not_eq_true'] at hc'
      simp only [if_true]
      rw [cntT_set (by rw [passB_len]; omega) hc'.1]
      exact ⟨by omega, fun _ => by omega⟩
theorem bS_cnt {n : Nat} {es : List Ed} {q : Nat} {d : List Int} (hq : q < n) : ∀ k, (∀ j, j < k → agB n es q d (j + 1) = true) → k + 1 ≤ cntT (bS n es q d k)
  | 0, _ => by
    rw [bS, cntT_set (by simpa using hq) (by simp [List.getD_eq_getElem?_getD, hq])]
    omega
  | k + 1, h => by
    have ih := bS_cnt hq k fun j hj => h j (by omega)
    have h1 := (pass_cnt (es := es) (d := d) (b := bS n es q d k) (k := n) (by rw [bS_len]; omega)).2 (h k (by omega))
    rw [bS]; omega
theorem cntT_le (b : List Bool) : cntT b ≤ b.length := List.count_le_length
/-- The objects of a divisor's state. -/
abbrev stH (n : Nat) (es : List Ed) (q : Nat) (d s : List Int) (e : Int) : List AO :=
  [.box (.p (G n es)), .box (.agg [.p (.i n), .p (.sl (es.map edP)), .p (.i q), .os 2 0 n, .os 3 0 n, .p (.i e)]), .row (d.map PV.i) 1 3 false, .row (s.map PV.i) 1 3 false]
theorem ub1_ok {n : Nat} {b : List Bool} (hb : b.length = n) (u : Int) (H : List AO) (K : AV → List AO → Prop) (h0 : 0 ≤ u) (hu : u < n) (hK : K (.b (b.getD u.toNat false)) H) : HC Try.prog false 90 [.i u, .sp (.agg [.bo b]) 0] H K := by
  obtain ⟨v, rfl⟩ : ∃ v : Nat, u = v := ⟨u.toNat, by omega⟩
  have hv : v < b.length := by omega
  rw [Int.toNat_natCast, show b.getD v false = b[v] by simp [List.getD, hv]] at hK
  refine HC_of_W (af := _) ((by exact cfn90 : cfn _ _ _ = some _)) ?_
  simp -implicitDefEqProofs (disch := omega) [c90, List.getElem?_cons_zero, List.getElem?_cons_succ, wrap_id, hv]
  exact finH trivial rfl hK
theorem st_view {n : Nat} {es : List Ed} {q : Nat} {d s : List Int} {e : Int} {Z : List AO} (hd : d.length = n) (hs : s.length = n) :
    view (stH n es q d s e ++ Z) (.agg [.p (.i n), .p (.sl (es.map edP)), .p (.i q), .os 2 0 n, .os 3 0 n, .p (.i e)]) = some (.agg [.i n, .sl (es.map edP), .i q, .is d, .is s, .i e]) := by
  simp [view, viewL, viewC, ownEls, stH, hd, hs, PV.one, scalar]
theorem bx_view {n : Nat} {H : List AO} {b : List Bool} {r : Nat} (hr : H[r]? = some (rowB b)) (hb : b.length = n) : view H (.agg [.os r 0 n]) = some (.agg [.bo b]) := by
  simp [view, viewL, viewC, ownEls, hr, hb, PV.one]
theorem ub_joins {n : Nat} {es : List Ed} (hr : ∀ x ∈ es, Right n x) (hn : n ≤ 12) (hel : es.length ≤ 1000) {v : Int} (hv : 0 ≤ v ∧ v < n) {q : Nat} {d s : List Int} {er : Int} (hd : d.length = n) (hs : s.length = n) {b : List Bool} (hb : b.length = n) {e : Bool} {K : AV → List AO → Prop}
    {Z : List AO} (hK : K (.i (joinsF v (fun u => b.getD u.toNat false) es)) (stH n es q d s er ++ rowB b :: .box (.os 4 0 n) :: Z)) :
    HC Try.prog e 83 [.ptr 1 1 0 0, .i v, .fn (.func 90) [] [.ptr 5 1 0 0]] (stH n es q d s er ++ rowB b :: .box (.os 4 0 n) :: Z) K := by
  refine HC_ro (args' := [.sp (.agg [.i n, .sl (es.map edP), .i q, .is d, .is s, .i er]) 0, .i v, .fn (.func 90) [] [.sp (.agg [.bo b]) 0]])
    [.agg [.p (.i n), .p (.sl (es.map edP)), .p (.i q), .os 2 0 n, .os 3 0 n, .p (.i er)], .bs 1 0 0, .i v, .agg [.os 4 0 n], .bs 5 0 0] cfn83 rfl (fun i hi hi' => ?_) rfl
    (joins_W hr hn hel hv (by kernel_rfl) (fun u H K h0 hu hK => ub1_ok hb u H K h0 hu hK)) hK
  match i, hi with
  | 0, _ => exact .ptr 1 0 (.agg [.p (.i n), .p (.sl (es.map edP)), .p (.i q), .os 2 0 n, .os 3 0 n, .p (.i er)]) _ rfl (st_view hd hs) (by simp [AV.flat]) (by simp)
  | 1, _ => exact .p (.i v) (.i v) rfl (by simp)
  | 2, _ =>
    refine .fn _ _ _ rfl fun j hj hj' => ?_
    match j, hj with
    | 0, _ => exact .ptr 5 0 (.os 4 0 n) [.bo b] rfl (bx_view rfl hb) (by simp [AV.flat]) (by simp)
/-- What has not burnt, as far as it is written. -/
def notK (n : Nat) (b : List Bool) (i : Nat) : List Bool := (b.take i).map (!·) ++ List.replicate (n - i) false
theorem notK_len {n : Nat} {b : List Bool} {i : Nat} (hi : i ≤ n) (hb : b.length = n) : (notK n b i).length = n := by
  simp [notK]; omega
theorem notK_set {n : Nat} {b : List Bool} {i : Nat} (h : i < b.length) (hb : b.length = n) : (notK n b i).set i (!b[i]) = notK n b (i + 1) := by
  have hl : ((b.take i).map (!·)).length = i := by simp; omega
  unfold notK
  rw [show n - i = (n - (i + 1)) + 1 by omega, List.replicate_succ, List.set_append_right _ _ (by omega), hl, Nat.sub_self, List.set_cons_zero,
    List.take_succ_eq_append_getElem h, List.map_append, List.append_assoc]
  rfl
section
variable {n : Nat} {es : List Ed} (hr : ∀ x ∈ es, Right n x) (hn : n ≤ 12) (hel : es.length ≤ 1000) {q : Nat} (hq : q < n) {d s : List Int} {er : Int} (hd : d.length = n) (hs : s.length = n)
include hr hn hel hq hd hs
theorem unburnt_hc {K : AV → List AO → Prop} (hK : ∀ k, agB n es q d k = false → (∀ j, j < k → agB n es q d j = true) → K (.tup [.os 4 0 n, .b ((bS n es q d k).any (!·))]) (stH n es q d s er ++ [rowB ((bS n es q d k).map (!·))])) :
    HC Try.prog false 85 [.ptr 1 1 0 0] (stH n es q d s er) K := by
  have hn2 : n ≤ 1048576 := by omega
  refine HC_norm ?_
  refine HC_of_W (af := _) ((by exact cfn85 : cfn _ _ _ = some _)) ?_
  simp -implicitDefEqProofs (disch := omega) [c85, List.getElem?_cons_zero, List.getElem?_cons_succ, wrap_id, hn2, hq]
  have hB0 : rowB (bS n es q d 0) = .row ((List.replicate n (PV.v (.bool false))).set q (PV.v (.bool true))) 1 4 false := by
    rw [bS, rowB, List.map_set, List.map_replicate]
  refine loopW (n + 1) (fun k st => (∀ j, j < k → agB n es q d j = true) ∧ st = ⟨[(6, .b (agB n es q d k)), (0, .ptr 1 1 0 0), (4, .ptr 5 1 0 0), (5, .fn (.func 90) [] [.ptr 5 1 0 0])], [.box (.p (G n es)), .box (.agg [.p (.i n), .p (.sl (es.map edP)), .p (.i q), .os 2 0 n, .os 3 0 n, .p (.i er)]), .row (d.map PV.i) 1 3 false, .row (s.map PV.i) 1 3 false, rowB (bS n es q d k), .box (.os 4 0 n)]⟩)
    (wk_norm [0, 1, 2, 3, 4, 5] [6, 0, 4, 5] rfl rfl) ⟨fun j h => by omega, by rw [hB0]; rfl⟩ ?_
  rintro k st hk ⟨hag, rfl⟩
  cases hak : agB n es q d k with
  | true =>
    have hcnt : k ≤ n := by
      cases k with
      | zero => omega
      | succ k =>
        have h1 := bS_cnt (es := es) (d := d) hq (k + 1) fun j hj => by
          rcases Nat.lt_or_ge (j + 1) (k + 1) with h | h
          · exact hag (j + 1) h
          · have e : j = k := by omega
            subst e; exact hak
        have h2 := cntT_le (bS n es q d (k + 1))
        rw [bS_len] at h2
        omega
    have hbl := bS_len n es q d k
    simp -implicitDefEqProofs (disch := omega) [List.getElem?_cons_zero, List.getElem?_cons_succ, wrap_id]
    refine loopW n (fun v st => st = ⟨[(30, .i v), (29, .i n), (6, .b (chgB es d (bS n es q d k) v)), (0, .ptr 1 1 0 0), (4, .ptr 5 1 0 0), (5, .fn (.func 90) [] [.ptr 5 1 0 0])], [.box (.p (G n es)), .box (.agg [.p (.i n), .p (.sl (es.map edP)), .p (.i q), .os 2 0 n, .os 3 0 n, .p (.i er)]), .row (d.map PV.i) 1 3 false, .row (s.map PV.i) 1 3 false, rowB (passB es d (bS n es q d k) v), .box (.os 4 0 n)]⟩)
      (wk_norm [0, 1, 2, 3, 4, 5] [30, 29, 6, 0, 4, 5] rfl rfl) rfl ?_
    rintro v st hv rfl
    by_cases hvt : v < n
    rotate_left
    · have hvn : v = n := by omega
      subst hvn
      simp -implicitDefEqProofs (disch := omega) [List.getElem?_cons_zero, List.getElem?_cons_succ, wrap_id]
      exact round_end [0, 1, 2, 3, 4, 5] [6, 0, 4, 5] (by omega) rfl ⟨fun j hj => by
        rcases Nat.lt_or_ge j k with h | h
        · exact hag j h
        · have e : j = k := by omega
          subst e; exact hak, rfl⟩
    have hpl : (passB es d (bS n es q d k) v).length = n := by rw [passB_len, hbl]
    have hcs : chgB es d (bS n es q d k) (v + 1) = (chgB es d (bS n es q d k) v || burnC es d (passB es d (bS n es q d k) v) v) := rfl
    have hps : passB es d (bS n es q d k) (v + 1) = burn1 es d (passB es d (bS n es q d k) v) v := rfl
    obtain ⟨b, hb⟩ : ∃ b, b = passB es d (bS n es q d k) v := ⟨_, rfl⟩
    obtain ⟨c, hc⟩ : ∃ c, c = chgB es d (bS n es q d k) v := ⟨_, rfl⟩
    rw [← hb] at hpl hcs hps ⊢
    rw [← hc] at hcs ⊢
    have hvb : v < b.length := by omega
    have hvd : v < d.length := by omega
    have hgb : b.getD v false = b[v] := by simp [List.getD, hvb]
    have hgd : d.getD v 0 = d[v] := getD_get hvd
    cases hbv : b[v] with
    | true =>
      have hbc : burnC es d b v = false := by rw [burnC, hgb, hbv]; rfl
      rw [hbc, Bool.or_false] at hcs
      rw [burn1, hbc] at hps
      simp only [Bool.false_eq_true, if_false] at hps
      simp -implicitDefEqProofs (disch := omega) [List.getElem?_cons_zero, List.getElem?_cons_succ, wrap_id, hvt, hvb, hpl, hbv]
      exact round_end [0, 1, 2, 3, 4, 5] [30, 29, 6, 0, 4, 5] hvt rfl (by show _ = _; rw [hcs, hps]; rfl)
    | false =>
      simp -implicitDefEqProofs (disch := omega) [List.getElem?_cons_zero, List.getElem?_cons_succ, wrap_id, hvt, hvb, hpl, hbv, hvd, hd]
      refine ub_joins (Z := []) hr hn hel (by omega) hd hs hpl ?_
      obtain ⟨jn, hjn⟩ : ∃ jn, jn = joinsF v (fun u => b.getD u.toNat false) es := ⟨_, rfl⟩
      rw [← hjn]
      by_cases hlt : d[v] < jn
      · have hbc : burnC es d b v = true := by rw [burnC, hgb, hbv, hgd, ← hjn]; simp [hlt]
        rw [hbc, Bool.or_true] at hcs
        rw [burn1, hbc] at hps
        simp only [if_true] at hps
        have hset : AO.row ((b.map PV.b).set v (PV.v (.bool true))) 1 4 false = rowB (b.set v true) := by rw [rowB, List.map_set]
        simp -implicitDefEqProofs (disch := omega) [List.getElem?_cons_zero, List.getElem?_cons_succ, wrap_id, hlt, hvt, hvb, hpl, hset]
        exact round_end [0, 1, 2, 3, 4, 5] [30, 29, 6, 0, 4, 5] hvt rfl (by show _ = _; rw [hcs, hps]; rfl)
      · have hbc : burnC es d b v = false := by rw [burnC, hgb, hbv, hgd, ← hjn]; simp [hlt]
        rw [hbc, Bool.or_false] at hcs
        rw [burn1, hbc] at hps
        simp only [Bool.false_eq_true, if_false] at hps
        simp -implicitDefEqProofs (disch := omega) [List.getElem?_cons_zero, List.getElem?_cons_succ, wrap_id, hlt]
        exact round_end [0, 1, 2, 3, 4, 5] [30, 29, 6, 0, 4, 5] hvt rfl (by show _ = _; rw [hcs, hps]; rfl)
  | false =>
    have hKk := hK k hak hag
    have hbl := bS_len n es q d k
    obtain ⟨b, hb⟩ : ∃ b, b = bS n es q d k := ⟨_, rfl⟩
    rw [← hb] at hKk hbl ⊢
    have hN0 : rowB (notK n b 0) = .row (List.replicate n (PV.v (.bool false))) 1 4 false := by rw [notK, rowB]; simp
    simp -implicitDefEqProofs (disch := omega) [List.getElem?_cons_zero, List.getElem?_cons_succ, wrap_id, hn2, hbl]
    refine loopW n (fun i st => st = ⟨[(64, .i i), (63, .i n), (9, .b ((b.take i).any (!·))), (8, .os 6 0 n), (4, .ptr 5 1 0 0)], [.box (.p (G n es)), .box (.agg [.p (.i n), .p (.sl (es.map edP)), .p (.i q), .os 2 0 n, .os 3 0 n, .p (.i er)]), .row (d.map PV.i) 1 3 false, .row (s.map PV.i) 1 3 false, rowB b, .box (.os 4 0 n), rowB (notK n b i)]⟩)
      (wk_norm [0, 1, 2, 3, 4, 5, 6] [64, 63, 9, 8, 4] rfl rfl) (by show _ = _; rw [hN0]; rfl) ?_
    rintro i st hi rfl
    by_cases hit : i < n
    rotate_left
    · have hin : i = n := by omega
      subst hin
      have e1 : b.take i = b := by rw [← hbl]; exact List.take_length
      have e2 : notK i b i = b.map (!·) := by rw [notK, e1]; simp
      rw [e1, e2]
      simp -implicitDefEqProofs (disch := omega) [List.getElem?_cons_zero, List.getElem?_cons_succ, wrap_id]
      exact finH trivial rfl ⟨[0, 1, 2, 3, 6], rfl, hKk⟩
    have hib : i < b.length := by omega
    have hs1 := notK_set (n := n) hib hbl
    have hnl := notK_len (n := n) (b := b) hi hbl
    have hnl1 := notK_len (n := n) (b := b) (i := i + 1) (by omega) hbl
    have hgi : ∀ h, (notK n b (i + 1))[i]'h = !b[i] := fun h => by simp only [← hs1, List.getElem_set_self]
    have hany : (b.take (i + 1)).any (!·) = ((b.take i).any (!·) || !b[i]) := by
      rw [List.take_succ_eq_append_getElem hib, List.any_append]; simp
    have hset : AO.row (((notK n b i).map PV.b).set i (PV.v (.bool (!b[i])))) 1 4 false = rowB (notK n b (i + 1)) := by rw [← hs1, rowB, List.map_set]
    cases ha : (b.take i).any (!·)
    · rw [ha, Bool.false_or] at hany
      simp -implicitDefEqProofs (disch := omega) [List.getElem?_cons_zero, List.getElem?_cons_succ, wrap_id, hit, hib, hbl, hnl, hset, hnl1, hgi]
      exact round_end [0, 1, 2, 3, 4, 5, 6] [64, 63, 9, 8, 4] hit rfl (by show _ = _; rw [hany]; rfl)
    · rw [ha, Bool.true_or] at hany
      simp -implicitDefEqProofs (disch := omega) [List.getElem?_cons_zero, List.getElem?_cons_succ, wrap_id, hit, hib, hbl, hnl, hset, hnl1, hgi]
      exact round_end [0, 1, 2, 3, 4, 5, 6] [64, 63, 9, 8, 4] hit rfl (by show _ = _; rw [hany]; rfl)
end
end Go.Proofs.Ytolfhldbfeffaaa
end
section
set_option linter.unusedSimpArgs false
set_option linter.unusedVariables false
namespace Go.Proofs.Ytolfhldbfeffaaa
open Go.Abs Go.Sand
section
variable (P : Program) (m0 : Nat) (a : AC)
end
section
variable {P : Program} {m0 : Nat} {a : AC} {n : Nat} {Q : AExit → St → Prop} {s : St}
end
theorem mul64_ok (n : Nat) (hn : n ≤ 12) : PC Try.prog 94 [.v (.int .u64 1), .v (.int .u64 n)] (.tup [.p (.v (.int .u64 0)), .p (.v (.int .u64 n))]) [] := by
  have h : n = 0 ∨ n = 1 ∨ n = 2 ∨ n = 3 ∨ n = 4 ∨ n = 5 ∨ n = 6 ∨ n = 7 ∨ n = 8 ∨ n = 9 ∨ n = 10 ∨ n = 11 ∨ n = 12 := by omega
  rcases h with rfl | rfl | rfl | rfl | rfl | rfl | rfl | rfl | rfl | rfl | rfl | rfl | rfl
  all_goals
    refine PC_of_W cfn94 ?_
    simp -implicitDefEqProofs (disch := omega) [c94, List.getElem?_cons_zero, List.getElem?_cons_succ, wrap_id]
    (refine fin0 trivial rfl ?_; simp -implicitDefEqProofs (disch := omega) [List.getElem?_cons_zero, List.getElem?_cons_succ, idx, wrap_id])
    exact ⟨by kernel_rfl, by kernel_rfl⟩
theorem mul_ok (n : Nat) (hn : n ≤ 12) : PC Try.prog 91 [.v (.int .u64 1), .v (.int .u64 n)] (.tup [.p (.v (.int .u64 0)), .p (.v (.int .u64 n))]) [] := by
  refine PC_of_W cfn91 ?_
  simp -implicitDefEqProofs (disch := omega) [c91, List.getElem?_cons_zero, List.getElem?_cons_succ, wrap_id]
  refine HC_of_PC rfl (mul64_ok n hn) ?_
  simp -implicitDefEqProofs (disch := omega) [List.getElem?_cons_zero, List.getElem?_cons_succ, wrap_id]
  (refine fin0 trivial rfl ?_; simp -implicitDefEqProofs (disch := omega) [List.getElem?_cons_zero, List.getElem?_cons_succ, idx, wrap_id])
end Go.Proofs.Ytolfhldbfeffaaa
end
section
set_option linter.unusedSimpArgs false
set_option linter.unusedVariables false
namespace Go.Proofs.Ytolfhldbfeffaaa
open Go.Abs Go.Sand
theorem plain_at {N : Int} {es : List Ed} (h : plainB N es = true) : ∃ n : Nat, N = n ∧ connE n es = 0 ∧ GoodG n es ∧ es.any lpB = false ∧ es.length ≤ 40 ∧ (endsL es).length ≤ 7 ∧ 1 ≤ n ∧ n ≤ 5 := by
  simp only [plainB, Bool.and_eq_true, decide_eq_true_eq, Bool.not_eq_true'] at h
  obtain ⟨⟨hs, hc⟩, hl⟩ := h
  have hg := (conn_good hc).1
  have hgg := gcheck_ok hg
  have h1 := hgg.n1
  obtain ⟨n, rfl⟩ : ∃ n : Nat, N = n := ⟨N.toNat, by omega⟩
  have hel := smallG_len hs
  simp only [smallG, Bool.and_eq_true, Bool.or_eq_true, decide_eq_true_eq] at hs
  rcases hs.2 with h2 | h2
  · exact absurd hg h2
  · exact ⟨n, rfl, hc, hgg, hl, hel, by omega, by omega, by omega⟩
end Go.Proofs.Ytolfhldbfeffaaa
end
section
set_option linter.unusedSimpArgs false
set_option linter.unusedVariables false
namespace Go.Proofs.Ytolfhldbfeffaaa
open Go.Abs Go.Sand
def tri20 : List Ed := [⟨0, 1, 1⟩, ⟨0, 2, 1⟩, ⟨1, 2, 1⟩]
theorem tri20_ok : PC Try.prog 16 [] (.agg [.p (.i 3), .p (.sl (tri20.map edP))]) [] := by
  refine PC_of_W cfn16 ?_
  simp -implicitDefEqProofs (disch := omega) [c16, List.getElem?_cons_zero, List.getElem?_cons_succ, wrap_id]
  (refine fin0 trivial rfl ?_; simp -implicitDefEqProofs (disch := omega) [List.getElem?_cons_zero, List.getElem?_cons_succ, idx, wrap_id, tri20])
theorem given20_ok (n : Nat) (es : List Ed) (hel : es.length ≤ 900) (hc : connE n es = 0) (q : Nat) (hq : q < n) (d : List Int) (hd : d.length ≤ 1000) : PC Try.prog 70 [G n es, .i q, .is d] (.i (dcheck d n)) [] := by
  obtain ⟨hg, hp⟩ := conn_good hc
  rw [Int.toNat_natCast] at hp
  have hr : (rootsL es n).length = 1 := hp
  refine PC_of_W cfn70 ?_
  simp -implicitDefEqProofs (disch := omega) [c70, List.getElem?_cons_zero, List.getElem?_cons_succ, wrap_id]
  refine HC_of_PC rfl (connected_ok n es hel hg) ?_
  simp -implicitDefEqProofs (disch := omega) [List.getElem?_cons_zero, List.getElem?_cons_succ, wrap_id, hr, hq, (show ¬ n ≤ q by omega), (show ¬ (q : Int) < 0 by omega)]
  refine HC_of_PC rfl (chk_ok d n (by omega)) ?_
  simp -implicitDefEqProofs (disch := omega) [List.getElem?_cons_zero, List.getElem?_cons_succ, wrap_id]
  (refine fin0 trivial rfl ?_; simp -implicitDefEqProofs (disch := omega) [List.getElem?_cons_zero, List.getElem?_cons_succ, idx, wrap_id])
end Go.Proofs.Ytolfhldbfeffaaa
end
section
set_option linter.unusedSimpArgs false
set_option linter.unusedVariables false
namespace Go.Proofs.Ytolfhldbfeffaaa
open Go.Abs Go.Sand
theorem clone20_ok (xs : List Int) (hx : xs.length ≤ 1000000) : PC Try.prog 54 [.is xs] (.os 0 0 xs.length) [rowZ xs] := by
  refine PC_of_W cfn54 ?_
  simp -implicitDefEqProofs (disch := omega) [c54, List.getElem?_cons_zero, List.getElem?_cons_succ, wrap_id, stepK_eqn, eqnP]
  have hx' : xs.length ≤ 1048576 := by omega
  refine ⟨?_, ?_⟩
  · rintro rfl
    simp -implicitDefEqProofs (disch := omega) [List.getElem?_cons_zero, List.getElem?_cons_succ, wrap_id]
    refine finW (Wk_nil 2 1 3 rfl) ?_
    exact fin1 [0] trivial rfl rfl ⟨rfl, rfl⟩
  · simp -implicitDefEqProofs (disch := omega) [List.getElem?_cons_zero, List.getElem?_cons_succ, wrap_id, hx']
    exact fin1 [0] trivial rfl rfl ⟨rfl, rfl⟩
theorem begin_ok (n : Nat) (es : List Ed) (q : Nat) (d : List Int) (hd : d.length = n) (hn : n ≤ 12) (hn1 : 1 ≤ n) : PC Try.prog 71 [G n es, .i q, .is d] (.ptr 0 1 0 0)
    [.box (.agg [.p (.i n), .p (.sl (es.map edP)), .p (.i q), .os 1 0 n, .os 2 0 n, .p (.i 0)]), rowZ d, .row (List.replicate n (PV.v (.int .i64 0))) 1 3 false] := by
  have hn2 : n ≤ 1048576 := by omega
  refine PC_of_W cfn71 ?_
  simp -implicitDefEqProofs (disch := omega) [c71, List.getElem?_cons_zero, List.getElem?_cons_succ, wrap_id, hn2]
  refine tree_join (s0 := ⟨[(6, .ptr 0 1 0 0)], [.box (.agg [.p (.i n), .p (.sl (es.map edP)), .p (.i q), .os 1 0 n, .os 2 0 n, .p (.i 0)]), rowZ d, .row (List.replicate n (PV.v (.int .i64 0))) 1 3 false]⟩) ?_ ?_
  rotate_left
  · simp -implicitDefEqProofs (disch := omega) [List.getElem?_cons_zero, List.getElem?_cons_succ, wrap_id, hn2]
    refine ⟨?_, ?_⟩
    · refine HC_of_PC rfl (clone20_ok d (by omega)) ?_
      simp -implicitDefEqProofs (disch := omega) [List.getElem?_cons_zero, List.getElem?_cons_succ, wrap_id, hn2, hd]
      exact wk_norm [3, 1, 2] [6] rfl rfl
    · refine HC_of_PC rfl (clone20_ok d (by omega)) ?_
      simp -implicitDefEqProofs (disch := omega) [List.getElem?_cons_zero, List.getElem?_cons_succ, wrap_id, hn2, hd]
      exact wk_norm [3, 2, 1] [6] rfl rfl
  simp -implicitDefEqProofs (disch := omega) [List.getElem?_cons_zero, List.getElem?_cons_succ, wrap_id]
  exact fin1 [0, 1, 2] trivial rfl (by rfl) ⟨rfl, rfl⟩
end Go.Proofs.Ytolfhldbfeffaaa
end
section
set_option linter.unusedSimpArgs false
set_option linter.unusedVariables false
namespace Go.Proofs.Ytolfhldbfeffaaa
open Go.Abs Go.Sand
section
variable {n : Nat} {es : List Ed} (hn : n ≤ 12) {q : Nat} (hq : q < n) {d s : List Int} (hd : d.length = n) (hs : s.length = n) (hb : Bd 1000000000000 s)
include hn hq hd hs hb
theorem result_hc {w : Int} (hw : w = s.getD q 0) {K : AV → List AO → Prop} (hcd : dcheck d n = 0) (hcs : dcheck (s.map (· - w)) n = 0)
    (hK : K (.tup [.os 2 0 n, .os 3 0 n, .i 0]) (stH n es q d (s.map (· - w)) 0)) :
    HC Try.prog false 74 [.ptr 1 1 0 0] (stH n es q d s 0) K := by
  have hqs : q < s.length := by omega
  have hwq : s[q] = w := by rw [hw, getD_get hqs]
  have hbw := hb q
  rw [← hw] at hbw
  refine HC_norm ?_
  refine HC_of_W (af := _) ((by exact cfn74 : cfn _ _ _ = some _)) ?_
  simp -implicitDefEqProofs (disch := omega) [c74, List.getElem?_cons_zero, List.getElem?_cons_succ, wrap_id, hqs, hs, hq, hwq]
  have hl0 := mapK_zero (· - w) s
  refine loopW n (fun k st => st = ⟨[(31, .i k), (30, .i n), (5, .i w), (0, .ptr 1 1 0 0)], [.box (.p (G n es)), .box (.agg [.p (.i n), .p (.sl (es.map edP)), .p (.i q), .os 2 0 n, .os 3 0 n, .p (.i 0)]), .row (d.map PV.i) 1 3 false, .row ((mapK (· - w) s k).map PV.i) 1 3 false]⟩)
    (wk_norm [0, 1, 2, 3] [31, 30, 5, 0] rfl rfl) (by show _ = _; rw [hl0]; rfl) ?_
  rintro k st hk rfl
  by_cases hkt : k < n
  · have hks : k < s.length := by omega
    have hml := mapK_len (· - w) s k
    have hat := mapK_at (· - w) s k hks
    have hset := mapK_set (· - w) s k hks
    have hbk := hb k
    rw [getD_get hks] at hbk
    obtain ⟨M, hM⟩ : ∃ M, M = mapK (· - w) s k := ⟨_, rfl⟩
    obtain ⟨M1, hM1⟩ : ∃ M1, M1 = mapK (· - w) s (k + 1) := ⟨_, rfl⟩
    have hkM : k < M.length := by rw [hM, hml]; exact hks
    have hMn : M.length = n := by rw [hM, hml]; exact hs
    have hMk : M[k] = s[k] := by simp only [hM, hat]
    have hset2 : AO.row ((M.map PV.i).set k (PV.i (s[k] - w))) 1 3 false = .row (M1.map PV.i) 1 3 false := by rw [hM1, ← hset, ← hM, List.map_set]
    rw [← hM]
    simp -implicitDefEqProofs (disch := omega) [List.getElem?_cons_zero, List.getElem?_cons_succ, wrap_id, hkt, hkM, hMn, hMk, hset2]
    exact round_end [0, 1, 2, 3] [31, 30, 5, 0] hkt rfl (by show _ = _; rw [← hM1]; rfl)
  have hkn : k = n := by omega
  have hall := mapK_all (· - w) s
  rw [hs] at hall
  rw [hkn, hall]
  obtain ⟨S, hS⟩ : ∃ S, S = s.map (· - w) := ⟨_, rfl⟩
  have hSl : S.length = n := by rw [hS, List.length_map, hs]
  rw [← hS] at hcs hK ⊢
  simp -implicitDefEqProofs (disch := omega) [List.getElem?_cons_zero, List.getElem?_cons_succ, wrap_id, hSl, hd]
  refine HC_of_PC (by simp [views, view, viewC, hd]) (chk_ok d n (by omega)) ?_
  simp -implicitDefEqProofs (disch := omega) [List.getElem?_cons_zero, List.getElem?_cons_succ, wrap_id, hcd, hSl, hd]
  refine HC_of_PC (by simp [views, view, viewC, hSl]) (chk_ok S n (by omega)) ?_
  simp -implicitDefEqProofs (disch := omega) [List.getElem?_cons_zero, List.getElem?_cons_succ, wrap_id, hcs, hSl, hd]
  exact finH trivial rfl ⟨[0, 1, 2, 3], rfl, hK⟩
end
end Go.Proofs.Ytolfhldbfeffaaa
end
section
set_option linter.unusedSimpArgs false
set_option linter.unusedVariables false
namespace Go.Proofs.Ytolfhldbfeffaaa
open Go.Abs Go.Sand
/-- The greatest of the first k+1. -/
def maxK (xs : List Int) : Nat → Int
  | 0 => xs.getD 0 0
  | k + 1 => max (maxK xs k) (xs.getD (k + 1) 0)
theorem maxK_ge (xs : List Int) : ∀ k i, i ≤ k → xs.getD i 0 ≤ maxK xs k
  | 0, i, h => by have e : i = 0 := by omega
                  subst e; exact Int.le_refl _
  | k + 1, i, h => by
    rw [maxK]
    rcases Nat.lt_or_ge i (k + 1) with h1 | h1
    · have := maxK_ge xs k i (by omega); omega
    · have e : i = k + 1 := by omega
      subst e; omega
theorem maxK_le (xs : List Int) {B : Int} : ∀ k, (∀ i, i ≤ k → xs.getD i 0 ≤ B) → maxK xs k ≤ B
  | 0, h => h 0 (Nat.le_refl _)
  | k + 1, h => by
    rw [maxK]
    have h1 := maxK_le xs k fun i hi => h i (by omega)
    have h2 := h (k + 1) (Nat.le_refl _)
    omega
theorem max_ok (xs : List Int) (h0 : 0 < xs.length) (hx : xs.length ≤ 1000) : PC Try.prog 82 [.is xs] (.i (maxK xs (xs.length - 1))) [] := by
  have h1 : ¬ xs.length < 1 := by omega
  have h1' : ¬ (xs.length : Int) < 1 := by omega
  have e0 : maxK xs 0 = xs[0] := getD_get h0
  refine PC_of_W cfn82 ?_
  simp -implicitDefEqProofs (disch := omega) [c82, List.getElem?_cons_zero, List.getElem?_cons_succ, wrap_id, h0, h1, h1']
  refine loopW (xs.length - 1) (fun k st => st = ⟨[(4, .i (k + 1 : Nat)), (3, .i (maxK xs k)), (0, .p (.is xs))], []⟩) (wk_norm [] [4, 3, 0] rfl rfl) (by show _ = _; rw [e0]; rfl) ?_
  rintro k st hk rfl
  by_cases hkt : k + 1 < xs.length
  · have hkt' : (k : Int) + 1 < xs.length := by omega
    have e1 : maxK xs (k + 1) = max (maxK xs k) xs[k + 1] := by rw [maxK, getD_get hkt]
    simp -implicitDefEqProofs (disch := omega) [List.getElem?_cons_zero, List.getElem?_cons_succ, wrap_id, hkt, hkt']
    exact round_end [] [4, 3, 0] (by omega) rfl (by show _ = _; rw [e1]; rfl)
  · have hkt' : ¬ (k : Int) + 1 < xs.length := by omega
    have hke : k = xs.length - 1 := by omega
    simp -implicitDefEqProofs (disch := omega) [List.getElem?_cons_zero, List.getElem?_cons_succ, wrap_id, hkt, hkt']
    (refine fin0 trivial rfl ?_; simp -implicitDefEqProofs (disch := omega) [List.getElem?_cons_zero, List.getElem?_cons_succ, idx, wrap_id, hke])
end Go.Proofs.Ytolfhldbfeffaaa
end
section
set_option linter.unusedSimpArgs false
set_option linter.unusedVariables false
namespace Go.Proofs.Ytolfhldbfeffaaa
open Go.Abs Go.Sand
/-- What is written so far. -/
def rpK (n : Nat) (v : Int) (m : Nat) : List Int := List.replicate m v ++ List.replicate (n - m) 0
theorem rpK_len {n : Nat} {v : Int} {m : Nat} (h : m ≤ n) : (rpK n v m).length = n := by simp [rpK]; omega
theorem rpK_full (n : Nat) (v : Int) : rpK n v n = List.replicate n v := by simp [rpK]
theorem rpK_step {n : Nat} {v : Int} {m : Nat} (h : m < n) : (rpK n v m).take m ++ ((rpK n v m).take m).take (n - m) ++ (rpK n v m).drop (m + min m (n - m)) = rpK n v (min (m + m) n) := by
  have h1 : (rpK n v m).take m = List.replicate m v := by
    rw [rpK, List.take_append_of_le_length (by simp)]; simp
  have h2 : (rpK n v m).drop (m + min m (n - m)) = List.replicate (n - m - min m (n - m)) 0 := by
    rw [rpK, List.drop_append]; simp
  rw [h1, h2, List.take_replicate, List.replicate_append_replicate, rpK]
  congr 2 <;> omega
theorem wrap_u {n : Nat} (hn : n ≤ 12) : IntKind.u64.wrap (n : Int) = n := by
  have h : n = 0 ∨ n = 1 ∨ n = 2 ∨ n = 3 ∨ n = 4 ∨ n = 5 ∨ n = 6 ∨ n = 7 ∨ n = 8 ∨ n = 9 ∨ n = 10 ∨ n = 11 ∨ n = 12 := by omega
  rcases h with rfl | rfl | rfl | rfl | rfl | rfl | rfl | rfl | rfl | rfl | rfl | rfl | rfl <;> rfl
theorem repeat_ok (n : Nat) (h1 : 1 ≤ n) (hn : n ≤ 12) (v : Int) : PC Try.prog 88 [.is [v], .i n] (.os 0 0 n) [rowZ (List.replicate n v)] := by
  have hw := wrap_u hn
  have hw1 : IntKind.u64.wrap 1 = 1 := by kernel_rfl
  have hneg : ¬ (n : Int) < 0 := by omega
  have hbig : ¬ (9223372036854775807 : Int) < n := by omega
  have hn2 : n ≤ 1048576 := by omega
  have hn0 : 0 < n := by omega
  refine PC_of_W cfn88 ?_
  simp -implicitDefEqProofs (disch := omega) [c88, List.getElem?_cons_zero, List.getElem?_cons_succ, wrap_id, hw, hneg, hw1]
  refine HC_of_PC rfl (mul_ok n hn) ?_
  simp -implicitDefEqProofs (disch := omega) [List.getElem?_cons_zero, List.getElem?_cons_succ, wrap_id, hbig, hn2, hn0]
  refine loopW 12 (fun k s => s = ⟨[(8, .i (min (2 ^ k) n : Nat)), (7, .os 0 0 n)], [rowZ (rpK n v (min (2 ^ k) n))]⟩)
    (wk_norm [0] [8, 7] rfl rfl) ?_ ?_
  · obtain ⟨m, rfl⟩ : ∃ m, n = m + 1 := ⟨n - 1, by omega⟩
    show _ = _
    rw [show min (2 ^ 0) (m + 1) = 1 by omega, rpK, rowZ, List.map_append, List.map_replicate, List.map_replicate, List.take_succ_cons, List.take_nil]
    rfl
  rintro k s hk rfl
  obtain ⟨m, hm⟩ : ∃ m, m = min (2 ^ k) n := ⟨_, rfl⟩
  have hm2 : min (m + m) n = min (2 ^ (k + 1)) n := by rw [Nat.pow_succ]; omega
  have hpos : 0 < 2 ^ k := Nat.two_pow_pos k
  have hm0 : 0 < m := by omega
  have hmn : m ≤ n := by omega
  rw [← hm]
  have hl := rpK_len (v := v) hmn
  by_cases hlt : m < n
  rotate_left
  · obtain rfl : m = n := by omega
    rw [rpK_full] at *
    simp -implicitDefEqProofs (disch := omega) [List.getElem?_cons_zero, List.getElem?_cons_succ, wrap_id]
    exact fin1 [0] trivial rfl (by rfl) ⟨rfl, rfl⟩
  have hk12 : k < 12 := by
    refine Classical.byContradiction fun h => ?_
    have : k = 12 := by omega
    subst this
    omega
  have hst := rpK_step (v := v) hlt
  obtain ⟨L, hL⟩ : ∃ L, L = rpK n v m := ⟨_, rfl⟩
  rw [← hL] at hst hl ⊢
  have hnm : 0 < n - m := by omega
  have hrow : AO.row (List.take m (List.map PV.i L) ++ (List.take (n - m) (List.take m (List.map PV.i L)) ++ List.drop (m + min m (n - m)) (List.map PV.i L))) 1 3 false = rowZ (rpK n v (min (m + m) n)) := by
    rw [← hst, rowZ, List.map_append, List.map_append, List.map_take, List.map_take, List.map_take, List.map_drop, List.append_assoc]
  have hadd : ((m : Int) + ((min m (n - m) : Nat) : Int)) = ((min (2 ^ (k + 1)) n : Nat) : Int) := by omega
  simp -implicitDefEqProofs (disch := omega) [List.getElem?_cons_zero, List.getElem?_cons_succ, wrap_id, hlt, hl, hm0, hmn, hnm, hrow, hadd]
  rw [if_pos]
  rotate_left
  · intro x hx
    obtain ⟨y, _, rfl⟩ := List.mem_map.1 (List.mem_of_mem_take hx)
    rfl
  simp -implicitDefEqProofs (disch := omega) [List.getElem?_cons_zero, List.getElem?_cons_succ, wrap_id, hadd]
  exact round_end [0] [8, 7] (by omega) rfl (by show _ = _; rw [← hm2]; rfl)
end Go.Proofs.Ytolfhldbfeffaaa
end
section
set_option linter.unusedSimpArgs false
set_option linter.unusedVariables false
namespace Go.Proofs.Ytolfhldbfeffaaa
open Go.Abs Go.Sand
section
variable {n : Nat} {es : List Ed} (hr : ∀ x ∈ es, Right n x) (hn : n ≤ 12) (hel : es.length ≤ 1000) {v : Int} (hv : 0 ≤ v ∧ v < n)
include hr hn hel hv
theorem links_rangeJ {o xi vi lp : Nat} {J : Nat → List AO → Prop} {H0 : List AO} {L : AO} {K : AV → List AO → Prop} {m : AV} {rest : List AV} (h0 : J 0 H0) (hA : H0[o]? = some (.box (.agg (m :: .p (.sl (es.map edP)) :: rest)))) (h1 : H0[xi]? = some (.box (.ptr o 1 0 0)))
    (h2 : ∀ k H, J k H → H[vi]? = some (.box (.i v))) (h3 : ∀ k H, J k H → H[lp]? = some L) (hL : L.len = 1) (hap : ∀ k H Z, J k H → J k (H ++ Z))
    (hsk : ∀ k (hk : k < es.length) H, incB v es[k] = false → J k H → J (k + 1) H)
    (hy : ∀ k (hk : k < es.length) H (K' : AV → List AO → Prop), incB v es[k] = true → J k H → (∀ H', J (k + 1) H' → K' (.b true) H') → HY Try.prog lp [.i (es[k].a + es[k].b - v), .i es[k].m] H K')
    (hK : ∀ r H, J es.length H → K r H) : HC Try.prog false 92 [.yl lp, .ptr xi 1 0 0, .ptr vi 1 0 0] H0 K := by
  have h2' := h2 0 H0 h0
  refine HC_of_W (af := _) ((by exact cfn92 : cfn _ _ _ = some _)) ?_
  simp -implicitDefEqProofs (disch := omega) [c92, List.getElem?_cons_zero, List.getElem?_cons_succ, wrap_id, h1, hA]
  refine loopW es.length (fun k s => ∃ H, J k H ∧ s = ⟨[(13, .i k), (12, .i es.length), (11, .p (.sl (es.map edP))), (0, .yl lp), (1, .ptr xi 1 0 0), (2, .ptr vi 1 0 0)], H⟩) (Wk_keep [13, 12, 11, 0, 1, 2]) ⟨H0, h0, rfl⟩ ?_
  rintro k s hk ⟨H1, hJ, rfl⟩
  by_cases hlt : k < es.length
  rotate_left
  · have hke : k = es.length := by omega
    subst hke
    simp -implicitDefEqProofs (disch := omega) [List.getElem?_cons_zero, List.getElem?_cons_succ, wrap_id]
    exact finH trivial rfl (hK _ H1 hJ)
  have hJy := fun y => hap k H1 [y] hJ
  have g2 : ∀ y, (H1 ++ [y])[vi]? = some (.box (.i v)) := fun y => h2 k _ (hJy y)
  have g3 : ∀ y, (H1 ++ [y])[lp]? = some L := fun y => h3 k _ (hJy y)
  have f1 : ∀ y, (H1 ++ [y])[H1.length]? = some y := fun y => by simp
  have f3 : ∀ y z, (H1 ++ [y]).set H1.length z = H1 ++ [z] := fun y z => by simp
  obtain ⟨r1, r2, r3, r4, r5, r6, r7⟩ := hr es[k] (List.getElem_mem hlt)
  have hyk := hy k hlt
  have hskk := hsk k hlt
  by_cases hi : incB v es[k] = true
  · have hab : decide (es[k].a = es[k].b) = false := by
      simp only [incB, decide_eq_true_eq] at hi
      exact decide_eq_false hi.1
    by_cases ha : es[k].a = v
    · have ha' : decide (es[k].a = v) = true := decide_eq_true ha
      simp -implicitDefEqProofs (disch := omega) [List.getElem?_cons_zero, List.getElem?_cons_succ, wrap_id, hlt, g2, g3, f1, f3, hab, ha']
      refine ⟨hL, hyk _ _ hi (hJy _) fun H' hJ' => ?_⟩
      simp -implicitDefEqProofs (disch := omega) [List.getElem?_cons_zero, List.getElem?_cons_succ, wrap_id]
      exact round_keep [13, 12, 11, 0, 1, 2] hlt ⟨H', hJ', rfl⟩
    · have ha' : decide (es[k].a = v) = false := decide_eq_false ha
      have hb' : decide (es[k].b = v) = true := by
        simp only [incB, decide_eq_true_eq] at hi
        exact decide_eq_true (hi.2.resolve_left ha)
      simp -implicitDefEqProofs (disch := omega) [List.getElem?_cons_zero, List.getElem?_cons_succ, wrap_id, hlt, g2, g3, f1, f3, hab, ha', hb']
      refine ⟨hL, hyk _ _ hi (hJy _) fun H' hJ' => ?_⟩
      simp -implicitDefEqProofs (disch := omega) [List.getElem?_cons_zero, List.getElem?_cons_succ, wrap_id]
      exact round_keep [13, 12, 11, 0, 1, 2] hlt ⟨H', hJ', rfl⟩
  · have hi' : incB v es[k] = false := by simpa using hi
    have hsame := fun y => hskk _ hi' (hJy y)
    by_cases hab : es[k].a = es[k].b
    · have hab' : decide (es[k].a = es[k].b) = true := decide_eq_true hab
      simp -implicitDefEqProofs (disch := omega) [List.getElem?_cons_zero, List.getElem?_cons_succ, wrap_id, hlt, g2, g3, f1, f3, hab']
      exact round_keep [13, 12, 11, 0, 1, 2] hlt ⟨_, hsame _, rfl⟩
    · have hab' : decide (es[k].a = es[k].b) = false := decide_eq_false hab
      have ha' : decide (es[k].a = v) = false := decide_eq_false fun e => hi (by rw [incB]; exact decide_eq_true ⟨hab, .inl e⟩)
      have hb' : decide (es[k].b = v) = false := decide_eq_false fun e => hi (by rw [incB]; exact decide_eq_true ⟨hab, .inr e⟩)
      simp -implicitDefEqProofs (disch := omega) [List.getElem?_cons_zero, List.getElem?_cons_succ, wrap_id, hlt, g2, g3, f1, f3, hab', ha', hb']
      exact round_keep [13, 12, 11, 0, 1, 2] hlt ⟨_, hsame _, rfl⟩
end
end Go.Proofs.Ytolfhldbfeffaaa
end
section
set_option linter.unusedSimpArgs false
set_option linter.unusedVariables false
namespace Go.Proofs.Ytolfhldbfeffaaa
open Go.Abs Go.Sand
/-- How many vertices have been reached. -/
def cntG (far : List Int) : Nat := far.countP fun x => decide (0 ≤ x)
theorem cntG_le (far : List Int) : cntG far ≤ far.length := List.countP_le_length
theorem cntG_set {far : List Int} {u : Nat} (hu : u < far.length) (h : far.getD u 0 < 0) {y : Int} (hy : 0 ≤ y) : cntG (far.set u y) = cntG far + 1 := by
  have hg : far[u] < 0 := by rw [← getD_get hu]; exact h
  unfold cntG
  rw [List.countP_set hu]
  have h1 : decide (0 ≤ far[u]) = false := decide_eq_false (by omega)
  have h2 : decide (0 ≤ y) = true := decide_eq_true hy
  rw [h1, h2]
  simp
theorem getD_set' {far : List Int} {u w : Nat} {y : Int} (hu : u < far.length) : (far.set u y).getD w 0 = if w = u then y else far.getD w 0 := by
  simp only [List.getD_eq_getElem?_getD, List.getElem?_set]
  by_cases h : u = w
  · subst h; simp [hu]
  · rw [if_neg h, if_neg (fun e => h e.symm)]
/-- Breadth first: what has been reached, what waits; the edges at v are being looked at. -/
structure Bf (n : Nat) (es : List Ed) (q : Nat) (v : Int) (far W : List Int) : Prop where
  len : far.length = n
  q0 : far.getD q 0 = 0
  rng : ∀ u, u < n → -1 ≤ far.getD u 0 ∧ far.getD u 0 < cntG far
  par : ∀ u : Nat, u < n → 0 ≤ far.getD u 0 → u ≠ q → 0 < far.getD u 0 ∧ ∃ x ∈ es, incB u x = true ∧ far.getD (x.a + x.b - u).toNat 0 = far.getD u 0 - 1
  w : ∀ u ∈ W, 0 ≤ u ∧ u < n ∧ 0 ≤ far.getD u.toNat 0
  cl : ∀ u : Nat, u < n → 0 ≤ far.getD u 0 → (u : Int) ∉ W → (u : Int) ≠ v → ∀ x ∈ es, incB u x = true → 0 ≤ far.getD (x.a + x.b - u).toNat 0
theorem Bf.push {n : Nat} {es : List Ed} {q : Nat} {v : Int} {far W : List Int} (h : Bf n es q v far W) {u p : Nat} (hu : u < n) (h0 : far.getD u 0 < 0) (hp : p < n) (hp0 : 0 ≤ far.getD p 0)
    (hx : ∃ x ∈ es, incB u x = true ∧ (x.a + x.b - u).toNat = p) : Bf n es q v (far.set u (far.getD p 0 + 1)) (W ++ [(u : Int)]) := by
  have hul : u < far.length := by rw [h.len]; exact hu
  have hne : ∀ w, 0 ≤ far.getD w 0 → w ≠ u := fun w hw e => by subst e; omega
  have hold : ∀ w, 0 ≤ far.getD w 0 → (far.set u (far.getD p 0 + 1)).getD w 0 = far.getD w 0 := fun w hw => by rw [getD_set' hul, if_neg (hne w hw)]
  have hself : (far.set u (far.getD p 0 + 1)).getD u 0 = far.getD p 0 + 1 := by rw [getD_set' hul, if_pos rfl]
  have hcnt : cntG (far.set u (far.getD p 0 + 1)) = cntG far + 1 := cntG_set hul h0 (by omega)
  have hmono : ∀ w, 0 ≤ far.getD w 0 → 0 ≤ (far.set u (far.getD p 0 + 1)).getD w 0 := fun w hw => by rw [hold w hw]; exact hw
  have hback : ∀ w, w ≠ u → (far.set u (far.getD p 0 + 1)).getD w 0 = far.getD w 0 := fun w hw => by rw [getD_set' hul, if_neg hw]
  refine ⟨by rw [List.length_set, h.len], by rw [hold q (by rw [h.q0]; omega), h.q0], fun w hw => ?_, fun w hw hw0 hwq => ?_, fun w hw => ?_, fun w hw hw0 hwW hwv x hx hi => ?_⟩
  · rw [hcnt]
    by_cases e : w = u
    · subst e; rw [hself]; have := (h.rng p hp).2; omega
    · rw [hback w e]; have := h.rng w hw; omega
  · by_cases e : w = u
    · subst e
      rw [hself]
      obtain ⟨x, hx1, hx2, hx3⟩ := hx
      refine ⟨by omega, x, hx1, hx2, ?_⟩
      rw [hx3, hold p hp0]; omega
    · rw [hback w e] at hw0 ⊢
      obtain ⟨h1, x, hx1, hx2, hx3⟩ := h.par w hw hw0 hwq
      exact ⟨h1, x, hx1, hx2, by rw [hold _ (by omega), hx3]⟩
  · rcases List.mem_append.1 hw with hw | hw
    · obtain ⟨h1, h2, h3⟩ := h.w w hw
      exact ⟨h1, h2, hmono _ h3⟩
    · simp only [List.mem_singleton] at hw
      subst hw
      exact ⟨by omega, by omega, by rw [Int.toNat_natCast, hself]; omega⟩
  · have hwu : w ≠ u := fun e => hwW (by subst e; simp)
    rw [hback w hwu] at hw0
    exact hmono _ (h.cl w hw hw0 (fun hm => hwW (List.mem_append_left _ hm)) hwv x hx hi)
theorem Bf.pop {n : Nat} {es : List Ed} {q : Nat} {v : Int} {far W : List Int} (h : Bf n es q (-1) far (v :: W)) : Bf n es q v far W :=
  ⟨h.len, h.q0, h.rng, h.par, fun u hu => h.w u (by simp [hu]), fun u hu h0 hW hv x hx hi => h.cl u hu h0 (fun hm => by
    rcases List.mem_cons.1 hm with e | e
    · exact hv e
    · exact hW e) (by omega) x hx hi⟩
theorem Bf.done {n : Nat} {es : List Ed} {q : Nat} {v : Int} {far W : List Int} (h : Bf n es q v far W) (hv : ∀ x ∈ es, incB v x = true → 0 ≤ far.getD (x.a + x.b - v).toNat 0) : Bf n es q (-1) far W :=
  ⟨h.len, h.q0, h.rng, h.par, h.w, fun u hu h0 hW _ x hx hi => by
    by_cases e : (u : Int) = v
    · rw [e] at hi ⊢; exact hv x hx hi
    · exact h.cl u hu h0 hW e x hx hi⟩
theorem getD_rep {n : Nat} {u : Nat} (h : u < n) : (List.replicate n (-1 : Int)).getD u 0 = -1 := by simp [List.getD_eq_getElem?_getD, h]
theorem Bf.init {n : Nat} {es : List Ed} {q : Nat} (hq : q < n) : Bf n es q (-1) ((List.replicate n (-1)).set q 0) [(q : Int)] := by
  have hl : q < (List.replicate n (-1 : Int)).length := by simpa using hq
  have hc : cntG ((List.replicate n (-1)).set q 0) = 1 := by
    rw [cntG_set hl (by rw [getD_rep hq]; omega) (by omega)]
    unfold cntG
    rw [List.countP_replicate]
    simp
  have hs : ∀ u, u < n → ((List.replicate n (-1 : Int)).set q 0).getD u 0 = if u = q then 0 else -1 := fun u hu => by rw [getD_set' hl, getD_rep hu]
  refine ⟨by simp, by rw [hs q hq, if_pos rfl], fun u hu => ?_, fun u hu h0 hne => ?_, fun u hu => ?_, fun u hu h0 hW _ x hx hi => ?_⟩
  · rw [hc, hs u hu]; split <;> omega
  · rw [hs u hu, if_neg hne] at h0; omega
  · simp only [List.mem_singleton] at hu
    subst hu
    exact ⟨by omega, by omega, by rw [Int.toNat_natCast, hs q hq, if_pos rfl]; omega⟩
  · rw [hs u hu] at h0
    by_cases e : u = q
    · subst e; exact absurd (by simp) hW
    · rw [if_neg e] at h0; omega
/-- How far vertices are: what is known of it. -/
structure FarOk (n : Nat) (es : List Ed) (q : Nat) (far : List Int) : Prop where
  len : far.length = n
  q0 : far.getD q 0 = 0
  rng : ∀ u, u < n → -1 ≤ far.getD u 0 ∧ far.getD u 0 < n
  par : ∀ u : Nat, u < n → 0 ≤ far.getD u 0 → u ≠ q → 0 < far.getD u 0 ∧ ∃ x ∈ es, incB u x = true ∧ far.getD (x.a + x.b - u).toNat 0 = far.getD u 0 - 1
  cl : ∀ u : Nat, u < n → 0 ≤ far.getD u 0 → ∀ x ∈ es, incB u x = true → 0 ≤ far.getD (x.a + x.b - u).toNat 0
theorem Bf.ok {n : Nat} {es : List Ed} {q : Nat} {far : List Int} (h : Bf n es q (-1) far []) : FarOk n es q far :=
  ⟨h.len, h.q0, fun u hu => by have h1 := h.rng u hu; have := cntG_le far; rw [h.len] at this; omega, h.par, fun u hu h0 x hx hi => h.cl u hu h0 (by simp) (by omega) x hx hi⟩
end Go.Proofs.Ytolfhldbfeffaaa
end
