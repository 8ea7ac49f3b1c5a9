/-
  Contracts: what remains when a fire starts.
-/
import Derived.Test.YtgbmdikkdjogpaaYd
import Derived.Test.YtgbmdikkdjogpaaAcd
set_option linter.unusedSimpArgs false
set_option linter.unusedVariables false
namespace Go.Proofs.Ytgbmdikkdjogpaa
open Go.Abs Go.Sand

def burnC (es : List Ed) (d : List Int) (b : List Bool) (v : Nat) : Bool := !b.getD v false && decide (d.getD v 0 < joinsF v (fun u => b.getD u.toNat false) es)
def burn1 (es : List Ed) (d : List Int) (b : List Bool) (v : Nat) : List Bool := if burnC es d b v = true then b.set v true else b
/-- The first vertices have been asked, and burn if they have to. -/
def passB (es : List Ed) (d : List Int) (b : List Bool) : Nat → List Bool
  | 0 => b
  | k + 1 => burn1 es d (passB es d b k) k
def chgB (es : List Ed) (d : List Int) (b : List Bool) : Nat → Bool
  | 0 => false
  | k + 1 => chgB es d b k || burnC es d (passB es d b k) k
/-- What burns behind so many rounds. -/
def bS (n : Nat) (es : List Ed) (q : Nat) (d : List Int) : Nat → List Bool
  | 0 => (List.replicate n false).set q true
  | k + 1 => passB es d (bS n es q d k) n
def agB (n : Nat) (es : List Ed) (q : Nat) (d : List Int) : Nat → Bool
  | 0 => true
  | k + 1 => chgB es d (bS n es q d k) n
theorem burn1_len (es : List Ed) (d : List Int) (b : List Bool) (v : Nat) : (burn1 es d b v).length = b.length := by unfold burn1; split <;> simp
theorem passB_len (es : List Ed) (d : List Int) (b : List Bool) : ∀ k, (passB es d b k).length = b.length
  | 0 => rfl
  | k + 1 => by rw [passB, burn1_len, passB_len]
theorem bS_len (n : Nat) (es : List Ed) (q : Nat) (d : List Int) : ∀ k, (bS n es q d k).length = n
  | 0 => by simp [bS]
  | k + 1 => by rw [bS, passB_len, bS_len]
/-- How many burn. -/
def cntT (b : List Bool) : Nat := b.count true
theorem cntT_set {b : List Bool} {v : Nat} (hv : v < b.length) (h : b.getD v false = false) : cntT (b.set v true) = cntT b + 1 := by
  have hb : b[v] = false := by rw [← h]; simp [List.getD, hv]
  unfold cntT
  rw [List.count_set hv, hb]
  simp
theorem pass_cnt {es : List Ed} {d : List Int} {b : List Bool} : ∀ {k : Nat}, k ≤ b.length → cntT b ≤ cntT (passB es d b k) ∧ (chgB es d b k = true → cntT b < cntT (passB es d b k))
  | 0, _ => ⟨Nat.le_refl _, fun h => by cases h⟩
  | k + 1, hk => by
    obtain ⟨h1, h2⟩ := pass_cnt (es := es) (d := d) (b := b) (k := k) (by omega)
    rw [passB, chgB, burn1]
    cases hc : burnC es d (passB es d b k) k with
    | false =>
      simp only [Bool.or_false, Bool.false_eq_true, if_false]
      exact ⟨h1, h2⟩
    | true =>
      have hc' := hc
      simp only [burnC, Bool.and_eq_true, Bool.not_eq_true'] at hc'
      simp only [if_true]
      rw [cntT_set (by rw [passB_len]; omega) hc'.1]
      exact ⟨by omega, fun _ => by omega⟩
theorem bS_cnt {n : Nat} {es : List Ed} {q : Nat} {d : List Int} (hq : q < n) : ∀ k, (∀ j, j < k → agB n es q d (j + 1) = true) → k + 1 ≤ cntT (bS n es q d k)
  | 0, _ => by
    rw [bS, cntT_set (by simpa using hq) (by simp [List.getD_eq_getElem?_getD, hq])]
    omega
  | k + 1, h => by
    have ih := bS_cnt hq k fun j hj => h j (by omega)
    have h1 := (pass_cnt (es := es) (d := d) (b := bS n es q d k) (k := n) (by rw [bS_len]; omega)).2 (h k (by omega))
    rw [bS]; omega
theorem cntT_le (b : List Bool) : cntT b ≤ b.length := List.count_le_length
/-- The objects of a divisor's state. -/
abbrev stH (n : Nat) (es : List Ed) (q : Nat) (d s : List Int) (e : Int) : List AO :=
  [.box (.p (G n es)), .box (.agg [.p (.i n), .p (.sl (es.map edP)), .p (.i q), .os 2 0 n, .os 3 0 n, .p (.i e)]), .row (d.map PV.i) 1 3 false, .row (s.map PV.i) 1 3 false]
theorem ub1_ok {n : Nat} {b : List Bool} (hb : b.length = n) (u : Int) (H : List AO) (K : AV → List AO → Prop) (h0 : 0 ≤ u) (hu : u < n) (hK : K (.b (b.getD u.toNat false)) H) : HC Try.prog false 85 [.i u, .sp (.agg [.bo b]) 0] H K := by
  obtain ⟨v, rfl⟩ : ∃ v : Nat, u = v := ⟨u.toNat, by omega⟩
  have hv : v < b.length := by omega
  rw [Int.toNat_natCast, show b.getD v false = b[v] by simp [List.getD, hv]] at hK
  refine HC_of_W (af := _) ((by exact cfn85 : cfn _ _ _ = some _)) ?_
  simp -implicitDefEqProofs (disch := omega) [c85, List.getElem?_cons_zero, List.getElem?_cons_succ, wrap_id, hv]
  exact finH trivial rfl hK
theorem st_view {n : Nat} {es : List Ed} {q : Nat} {d s : List Int} {e : Int} {Z : List AO} (hd : d.length = n) (hs : s.length = n) :
    view (stH n es q d s e ++ Z) (.agg [.p (.i n), .p (.sl (es.map edP)), .p (.i q), .os 2 0 n, .os 3 0 n, .p (.i e)]) = some (.agg [.i n, .sl (es.map edP), .i q, .is d, .is s, .i e]) := by
  simp [view, viewL, viewC, ownEls, stH, hd, hs, PV.one, scalar]
theorem bx_view {n : Nat} {H : List AO} {b : List Bool} {r : Nat} (hr : H[r]? = some (rowB b)) (hb : b.length = n) : view H (.agg [.os r 0 n]) = some (.agg [.bo b]) := by
  simp [view, viewL, viewC, ownEls, hr, hb, PV.one]
theorem ub_joins {n : Nat} {es : List Ed} (hr : ∀ x ∈ es, Right n x) (hn : n ≤ 12) (hel : es.length ≤ 1000) {v : Int} (hv : 0 ≤ v ∧ v < n) {q : Nat} {d s : List Int} {er : Int} (hd : d.length = n) (hs : s.length = n) {b : List Bool} (hb : b.length = n) {e : Bool} {K : AV → List AO → Prop}
    {Z : List AO} (hK : K (.i (joinsF v (fun u => b.getD u.toNat false) es)) (stH n es q d s er ++ rowB b :: .box (.os 4 0 n) :: Z)) :
    HC Try.prog e 72 [.ptr 1 1 0 0, .i v, .fn (.func 85) [] [.ptr 5 1 0 0]] (stH n es q d s er ++ rowB b :: .box (.os 4 0 n) :: Z) K := by
  refine HC_ro (args' := [.sp (.agg [.i n, .sl (es.map edP), .i q, .is d, .is s, .i er]) 0, .i v, .fn (.func 85) [] [.sp (.agg [.bo b]) 0]])
    [.agg [.p (.i n), .p (.sl (es.map edP)), .p (.i q), .os 2 0 n, .os 3 0 n, .p (.i er)], .bs 1 0 0, .i v, .agg [.os 4 0 n], .bs 5 0 0] cfn72 rfl (fun i hi hi' => ?_) rfl
    (joins_W hr hn hel hv (by kernel_rfl) (fun u H K h0 hu hK => ub1_ok hb u H K h0 hu hK)) hK
  match i, hi with
  | 0, _ => exact .ptr 1 0 (.agg [.p (.i n), .p (.sl (es.map edP)), .p (.i q), .os 2 0 n, .os 3 0 n, .p (.i er)]) _ rfl (st_view hd hs) (by simp [AV.flat]) (by simp)
  | 1, _ => exact .p (.i v) (.i v) rfl (by simp)
  | 2, _ =>
    refine .fn _ _ _ rfl fun j hj hj' => ?_
    match j, hj with
    | 0, _ => exact .ptr 5 0 (.os 4 0 n) [.bo b] rfl (bx_view rfl hb) (by simp [AV.flat]) (by simp)
/-- What has not burnt, as far as it is written. -/
def notK (n : Nat) (b : List Bool) (i : Nat) : List Bool := (b.take i).map (!·) ++ List.replicate (n - i) false
theorem notK_len {n : Nat} {b : List Bool} {i : Nat} (hi : i ≤ n) (hb : b.length = n) : (notK n b i).length = n := by
  simp [notK]; omega
theorem notK_set {n : Nat} {b : List Bool} {i : Nat} (h : i < b.length) (hb : b.length = n) : (notK n b i).set i (!b[i]) = notK n b (i + 1) := by
  have hl : ((b.take i).map (!·)).length = i := by simp; omega
  unfold notK
  rw [show n - i = (n - (i + 1)) + 1 by omega, List.replicate_succ, List.set_append_right _ _ (by omega), hl, Nat.sub_self, List.set_cons_zero,
    List.take_succ_eq_append_getElem h, List.map_append, List.append_assoc]
  rfl
section
variable {n : Nat} {es : List Ed} (hr : ∀ x ∈ es, Right n x) (hn : n ≤ 12) (hel : es.length ≤ 1000) {q : Nat} (hq : q < n) {d s : List Int} {er : Int} (hd : d.length = n) (hs : s.length = n)
include hr hn hel hq hd hs
theorem unburnt_hc {K : AV → List AO → Prop} (hK : ∀ k, agB n es q d k = false → (∀ j, j < k → agB n es q d j = true) → K (.tup [.os 4 0 n, .b ((bS n es q d k).any (!·))]) (stH n es q d s er ++ [rowB ((bS n es q d k).map (!·))])) :
    HC Try.prog false 74 [.ptr 1 1 0 0] (stH n es q d s er) K := by
  have hn2 : n ≤ 1048576 := by omega
  refine HC_norm ?_
  refine HC_of_W (af := _) ((by exact cfn74 : cfn _ _ _ = some _)) ?_
  simp -implicitDefEqProofs (disch := omega) [c74, List.getElem?_cons_zero, List.getElem?_cons_succ, wrap_id, hn2, hq]
  have hB0 : rowB (bS n es q d 0) = .row ((List.replicate n (PV.v (.bool false))).set q (PV.v (.bool true))) 1 4 false := by
    rw [bS, rowB, List.map_set, List.map_replicate]
  refine loopW (n + 1) (fun k st => (∀ j, j < k → agB n es q d j = true) ∧ st = ⟨[(6, .b (agB n es q d k)), (0, .ptr 1 1 0 0), (4, .ptr 5 1 0 0), (5, .fn (.func 85) [] [.ptr 5 1 0 0])], [.box (.p (G n es)), .box (.agg [.p (.i n), .p (.sl (es.map edP)), .p (.i q), .os 2 0 n, .os 3 0 n, .p (.i er)]), .row (d.map PV.i) 1 3 false, .row (s.map PV.i) 1 3 false, rowB (bS n es q d k), .box (.os 4 0 n)]⟩)
    (wk_norm [0, 1, 2, 3, 4, 5] [6, 0, 4, 5] rfl rfl) ⟨fun j h => by omega, by rw [hB0]; rfl⟩ ?_
  rintro k st hk ⟨hag, rfl⟩
  cases hak : agB n es q d k with
  | true =>
    have hcnt : k ≤ n := by
      cases k with
      | zero => omega
      | succ k =>
        have h1 := bS_cnt (es := es) (d := d) hq (k + 1) fun j hj => by
          rcases Nat.lt_or_ge (j + 1) (k + 1) with h | h
          · exact hag (j + 1) h
          · have e : j = k := by omega
            subst e; exact hak
        have h2 := cntT_le (bS n es q d (k + 1))
        rw [bS_len] at h2
        omega
    have hbl := bS_len n es q d k
    simp -implicitDefEqProofs (disch := omega) [List.getElem?_cons_zero, List.getElem?_cons_succ, wrap_id]
    refine loopW n (fun v st => st = ⟨[(30, .i v), (29, .i n), (6, .b (chgB es d (bS n es q d k) v)), (0, .ptr 1 1 0 0), (4, .ptr 5 1 0 0), (5, .fn (.func 85) [] [.ptr 5 1 0 0])], [.box (.p (G n es)), .box (.agg [.p (.i n), .p (.sl (es.map edP)), .p (.i q), .os 2 0 n, .os 3 0 n, .p (.i er)]), .row (d.map PV.i) 1 3 false, .row (s.map PV.i) 1 3 false, rowB (passB es d (bS n es q d k) v), .box (.os 4 0 n)]⟩)
      (wk_norm [0, 1, 2, 3, 4, 5] [30, 29, 6, 0, 4, 5] rfl rfl) rfl ?_
    rintro v st hv rfl
    by_cases hvt : v < n
    rotate_left
    · have hvn : v = n := by omega
      subst hvn
      simp -implicitDefEqProofs (disch := omega) [List.getElem?_cons_zero, List.getElem?_cons_succ, wrap_id]
      exact round_end [0, 1, 2, 3, 4, 5] [6, 0, 4, 5] (by omega) rfl ⟨fun j hj => by
        rcases Nat.lt_or_ge j k with h | h
        · exact hag j h
        · have e : j = k := by omega
          subst e; exact hak, rfl⟩
    have hpl : (passB es d (bS n es q d k) v).length = n := by rw [passB_len, hbl]
    have hcs : chgB es d (bS n es q d k) (v + 1) = (chgB es d (bS n es q d k) v || burnC es d (passB es d (bS n es q d k) v) v) := rfl
    have hps : passB es d (bS n es q d k) (v + 1) = burn1 es d (passB es d (bS n es q d k) v) v := rfl
    obtain ⟨b, hb⟩ : ∃ b, b = passB es d (bS n es q d k) v := ⟨_, rfl⟩
    obtain ⟨c, hc⟩ : ∃ c, c = chgB es d (bS n es q d k) v := ⟨_, rfl⟩
    rw [← hb] at hpl hcs hps ⊢
    rw [← hc] at hcs ⊢
    have hvb : v < b.length := by omega
    have hvd : v < d.length := by omega
    have hgb : b.getD v false = b[v] := by simp [List.getD, hvb]
    have hgd : d.getD v 0 = d[v] := getD_get hvd
    cases hbv : b[v] with
    | true =>
      have hbc : burnC es d b v = false := by rw [burnC, hgb, hbv]; rfl
      rw [hbc, Bool.or_false] at hcs
      rw [burn1, hbc] at hps
      simp only [Bool.false_eq_true, if_false] at hps
      simp -implicitDefEqProofs (disch := omega) [List.getElem?_cons_zero, List.getElem?_cons_succ, wrap_id, hvt, hvb, hpl, hbv]
      exact round_end [0, 1, 2, 3, 4, 5] [30, 29, 6, 0, 4, 5] hvt rfl (by show _ = _; rw [hcs, hps]; rfl)
    | false =>
      simp -implicitDefEqProofs (disch := omega) [List.getElem?_cons_zero, List.getElem?_cons_succ, wrap_id, hvt, hvb, hpl, hbv, hvd, hd]
      refine ub_joins (Z := []) hr hn hel (by omega) hd hs hpl ?_
      obtain ⟨jn, hjn⟩ : ∃ jn, jn = joinsF v (fun u => b.getD u.toNat false) es := ⟨_, rfl⟩
      rw [← hjn]
      by_cases hlt : d[v] < jn
      · have hbc : burnC es d b v = true := by rw [burnC, hgb, hbv, hgd, ← hjn]; simp [hlt]
        rw [hbc, Bool.or_true] at hcs
        rw [burn1, hbc] at hps
        simp only [if_true] at hps
        have hset : AO.row ((b.map PV.b).set v (PV.v (.bool true))) 1 4 false = rowB (b.set v true) := by rw [rowB, List.map_set]
        simp -implicitDefEqProofs (disch := omega) [List.getElem?_cons_zero, List.getElem?_cons_succ, wrap_id, hlt, hvt, hvb, hpl, hset]
        exact round_end [0, 1, 2, 3, 4, 5] [30, 29, 6, 0, 4, 5] hvt rfl (by show _ = _; rw [hcs, hps]; rfl)
      · have hbc : burnC es d b v = false := by rw [burnC, hgb, hbv, hgd, ← hjn]; simp [hlt]
        rw [hbc, Bool.or_false] at hcs
        rw [burn1, hbc] at hps
        simp only [Bool.false_eq_true, if_false] at hps
        simp -implicitDefEqProofs (disch := omega) [List.getElem?_cons_zero, List.getElem?_cons_succ, wrap_id, hlt]
        exact round_end [0, 1, 2, 3, 4, 5] [30, 29, 6, 0, 4, 5] hvt rfl (by show _ = _; rw [hcs, hps]; rfl)
  | false =>
    have hKk := hK k hak hag
    have hbl := bS_len n es q d k
    obtain ⟨b, hb⟩ : ∃ b, b = bS n es q d k := ⟨_, rfl⟩
    rw [← hb] at hKk hbl ⊢
    have hN0 : rowB (notK n b 0) = .row (List.replicate n (PV.v (.bool false))) 1 4 false := by rw [notK, rowB]; simp
    simp -implicitDefEqProofs (disch := omega) [List.getElem?_cons_zero, List.getElem?_cons_succ, wrap_id, hn2, hbl]
    refine loopW n (fun i st => st = ⟨[(64, .i i), (63, .i n), (9, .b ((b.take i).any (!·))), (8, .os 6 0 n), (4, .ptr 5 1 0 0)], [.box (.p (G n es)), .box (.agg [.p (.i n), .p (.sl (es.map edP)), .p (.i q), .os 2 0 n, .os 3 0 n, .p (.i er)]), .row (d.map PV.i) 1 3 false, .row (s.map PV.i) 1 3 false, rowB b, .box (.os 4 0 n), rowB (notK n b i)]⟩)
      (wk_norm [0, 1, 2, 3, 4, 5, 6] [64, 63, 9, 8, 4] rfl rfl) (by show _ = _; rw [hN0]; rfl) ?_
    rintro i st hi rfl
    by_cases hit : i < n
    rotate_left
    · have hin : i = n := by omega
      subst hin
      have e1 : b.take i = b := by rw [← hbl]; exact List.take_length
      have e2 : notK i b i = b.map (!·) := by rw [notK, e1]; simp
      rw [e1, e2]
      simp -implicitDefEqProofs (disch := omega) [List.getElem?_cons_zero, List.getElem?_cons_succ, wrap_id]
      exact finH trivial rfl ⟨[0, 1, 2, 3, 6], rfl, hKk⟩
    have hib : i < b.length := by omega
    have hs1 := notK_set (n := n) hib hbl
    have hnl := notK_len (n := n) (b := b) hi hbl
    have hnl1 := notK_len (n := n) (b := b) (i := i + 1) (by omega) hbl
    have hgi : ∀ h, (notK n b (i + 1))[i]'h = !b[i] := fun h => by simp only [← hs1, List.getElem_set_self]
    have hany : (b.take (i + 1)).any (!·) = ((b.take i).any (!·) || !b[i]) := by
      rw [List.take_succ_eq_append_getElem hib, List.any_append]; simp
    have hset : AO.row (((notK n b i).map PV.b).set i (PV.v (.bool (!b[i])))) 1 4 false = rowB (notK n b (i + 1)) := by rw [← hs1, rowB, List.map_set]
    cases ha : (b.take i).any (!·)
    · rw [ha, Bool.false_or] at hany
      simp -implicitDefEqProofs (disch := omega) [List.getElem?_cons_zero, List.getElem?_cons_succ, wrap_id, hit, hib, hbl, hnl, hset, hnl1, hgi]
      exact round_end [0, 1, 2, 3, 4, 5, 6] [64, 63, 9, 8, 4] hit rfl (by show _ = _; rw [hany]; rfl)
    · rw [ha, Bool.true_or] at hany
      simp -implicitDefEqProofs (disch := omega) [List.getElem?_cons_zero, List.getElem?_cons_succ, wrap_id, hit, hib, hbl, hnl, hset, hnl1, hgi]
      exact round_end [0, 1, 2, 3, 4, 5, 6] [64, 63, 9, 8, 4] hit rfl (by show _ = _; rw [hany]; rfl)
end
end Go.Proofs.Ytgbmdikkdjogpaa
