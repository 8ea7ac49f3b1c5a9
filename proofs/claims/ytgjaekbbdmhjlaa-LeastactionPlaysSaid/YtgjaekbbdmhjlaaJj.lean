/-
  Contracts: legal orders.
-/
import Derived.Test.YtgjaekbbdmhjlaaJi
set_option linter.unusedSimpArgs false
set_option linter.unusedVariables false
namespace Go.Proofs.Ytgjaekbbdmhjlaa
open Go.Abs Go.Sand

/-- A script that is negative somewhere, or fires the sink. -/
def badB (n : Nat) (q : Int) (s : List Int) : Bool := (List.range n).any fun v => decide (s.getD v 0 < 0) || (decide ((v : Int) = q) && decide (s.getD v 0 ≠ 0))
def OkK (q : Int) (s : List Int) (k : Nat) : Prop := ∀ v, v < k → 0 ≤ s.getD v 0 ∧ ((v : Int) = q → s.getD v 0 = 0)
theorem OkK.succ {q : Int} {s : List Int} {k : Nat} (h : OkK q s k) (h2 : 0 ≤ s.getD k 0 ∧ ((k : Int) = q → s.getD k 0 = 0)) : OkK q s (k + 1) := fun u hu => by
  rcases Nat.lt_or_ge u k with h3 | h3
  · exact h u h3
  · have e : u = k := by omega
    subst e; exact h2
theorem badB_no {n : Nat} {q : Int} {s : List Int} (h : OkK q s n) : badB n q s = false := by
  unfold badB
  refine List.any_eq_false.2 fun v hv => ?_
  have := h v (List.mem_range.1 hv)
  simp only [Bool.or_eq_true, Bool.and_eq_true, decide_eq_true_eq]
  rintro (h1 | ⟨h1, h2⟩)
  · omega
  · exact h2 (this.2 h1)
theorem badB_yes {n : Nat} {q : Int} {s : List Int} {k : Nat} (hk : k < n) (h : s.getD k 0 < 0 ∨ ((k : Int) = q ∧ s.getD k 0 ≠ 0)) : badB n q s = true := by
  unfold badB
  refine List.any_eq_true.2 ⟨k, List.mem_range.2 hk, ?_⟩
  rcases h with h | ⟨h1, h2⟩
  · rw [decide_eq_true h]; rfl
  · rw [decide_eq_true h1, decide_eq_true h2]; simp
theorem badB_ok {n : Nat} {q : Int} {s : List Int} (h : badB n q s = false) : OkK q s n := fun v hv => by
  have := (List.any_eq_false.1 h) v (List.mem_range.2 hv)
  simp only [Bool.or_eq_true, Bool.and_eq_true, decide_eq_true_eq] at this
  refine ⟨Int.not_lt.1 fun h1 => this (.inl h1), fun h1 => ?_⟩
  exact Decidable.not_not.1 fun h2 => this (.inr ⟨h1, h2⟩)
def lgE (N : Int) (es : List Ed) (q : Int) (d s : List Int) : Int := if gvE N es q d s ≠ 0 then gvE N es q d s else if badB N.toNat q s = true then 2 else if 4096 < sumI s then 12 else 0
def lgR (N : Int) (es : List Ed) (q : Int) (d s : List Int) : List Int × Bool := if lgE N es q d s = 0 then ordR N.toNat es q d s (sumI s).toNat else ([], false)
theorem sumT_bd {s : List Int} (hb : Bd 1048576 s) : ∀ k : Nat, k ≤ s.length → -(1048576 * k) ≤ sumI (s.take k) ∧ sumI (s.take k) ≤ 1048576 * k := by
  intro k
  induction k with
  | zero => intro _; simp [sumI]
  | succ k ih =>
    intro hk
    have h1 := ih (by omega)
    have h2 := hb k
    rw [getD_get (by omega)] at h2
    rw [sumI_snoc s k (by omega)]
    push_cast
    omega
/-- What is still to be fired. -/
def rstL (n : Nat) (s r : List Int) : List Int := (List.range n).map fun v => s.getD v 0 - r.getD v 0
theorem rstL_len (n : Nat) (s r : List Int) : (rstL n s r).length = n := by simp [rstL]
theorem rstL_get {n : Nat} {s r : List Int} {v : Nat} (hv : v < n) : (rstL n s r).getD v 0 = s.getD v 0 - r.getD v 0 := by rw [rstL, rg_get, if_pos hv]
theorem rstL_0 {n : Nat} {s : List Int} (hs : s.length = n) : s = rstL n s (List.replicate n 0) := by
  refine ext_getD (by rw [rstL_len, hs]) fun i hi => ?_
  rw [hs] at hi
  rw [rstL_get hi, zeros_get]; omega
theorem rstL_set {n : Nat} {s r : List Int} {v : Nat} (hv : v < n) (hr : r.length = n) : (rstL n s r).set v ((rstL n s r).getD v 0 - 1) = rstL n s (moreS r v 1) := by
  refine ext_getD (by rw [List.length_set, rstL_len, rstL_len]) fun i hi => ?_
  rw [List.length_set, rstL_len] at hi
  rw [getD_set, rstL_len, rstL_get hi, rstL_get hi, rstL_get hv, moreS_get _ _ _ (by rw [hr]; exact hv)]
  by_cases e : v = i
  · subst e; simp [hi]; omega
  · have e' : ¬ i = v := fun h => e h.symm
    simp only [e, e', false_and, if_false]; omega
/-- The state of a legal order. -/
structure LgI (n : Nat) (es : List Ed) (q : Int) (d s : List Int) (k : Nat) : Prop where
  len : (ordM n es q d s k).length = k
theorem LgI.succ {n : Nat} {es : List Ed} {q : Int} {d s : List Int} {k v : Nat} (h : LgI n es q d s k) (hv : pckF n es q d s (ordS n es q d s k) = some v) : LgI n es q d s (k + 1) := ⟨by rw [(ord_succ hv).2, List.length_append, h.len]; rfl⟩
theorem lo_bd {m p n : Nat} {q : Int} {C : List Int} (hp : p < m) : loO m (.box (.agg (bdO q C p n))) = true := lo_board (es := []) (q := q) (C := C) (n := n) (x := .nil) (c := []) hp (.box (.agg (bdO q C p n))) (by simp)
theorem bdO_calm {q : Int} {C : List Int} {o n : Nat} : calmL (bdO q C o n) = true := by
  have hb : ∀ l : List Int, calmL (l.map AV.i ++ [.os o 0 n]) = true := by
    intro l
    induction l with
    | nil => rfl
    | cons x l ih => rw [List.map_cons, List.cons_append, calmL, ih]; rfl
  rw [bdO, calmL, hb]; rfl
section
variable (N : Int) (es : List Ed) (q : Int) (d s : List Int) (hel : es.length ≤ 900) (hd : d.length ≤ 1000) (hs : s.length ≤ 1000)
include hel hd hs
set_option maxRecDepth 20000 in
theorem legal22_ok : PC Try.prog 26 [G N es, .i q, .is d, .is s] (.tup [.p (.is (lgR N es q d s).1), .b (lgR N es q d s).2, .i (lgE N es q d s)]) [] := by
  refine PC_of_W cfn26 ?_
  simp -implicitDefEqProofs (disch := omega) [c26, List.getElem?_cons_zero, List.getElem?_cons_succ, wrap_id]
  by_cases h0 : gvE N es q d s = 0
  rotate_left
  · have e : lgE N es q d s = gvE N es q d s := by rw [lgE, if_pos h0]
    have e2 : lgR N es q d s = ([], false) := by rw [lgR, if_neg (by rw [e]; exact h0)]
    refine HC_of_PC rfl (boardOf_err N es q d s hel hd hs h0) ?_
    simp -implicitDefEqProofs (disch := omega) [List.getElem?_cons_zero, List.getElem?_cons_succ, wrap_id, h0]
    refine finW (Wk_nil0 8 rfl) ?_
    (refine fin0 trivial rfl ?_; simp -implicitDefEqProofs (disch := omega) [List.getElem?_cons_zero, List.getElem?_cons_succ, idx, wrap_id, e, e2])
  obtain ⟨n, rfl, h⟩ := gv_ok h0
  have hn := h.st.n12
  have hsl := h.len
  have hdl := h.st.c.len
  have hg := h.st.g
  have eL : lgE n es q d s = if badB n q s = true then 2 else if 4096 < sumI s then 12 else 0 := by rw [lgE, if_neg (by simp [h0]), Int.toNat_natCast]
  refine HC_of_PC rfl (boardOf_ok es q d s hel hd n h) ?_
  simp -implicitDefEqProofs (disch := omega) [List.getElem?_cons_zero, List.getElem?_cons_succ, wrap_id, bdO_up, hsl]
  refine loopW n (fun k st => OkK q s k ∧ st = ⟨[(34, .i k), (33, .i n), (32, .p (.is s)), (13, .i (sumI (s.take k))), (4, .ptr 0 1 0 0), (1, .i q), (2, .p (.is d)), (3, .p (.is s))], [.box (.p (G n es))]⟩) (wk_norm [0] [34, 33, 32, 13, 4, 1, 2, 3] rfl rfl) ⟨fun u hu => by omega, rfl⟩ ?_
  rintro k st hk ⟨hI, rfl⟩
  by_cases hlt : k < n
  · have hks : k < s.length := by omega
    have hgk := getD_get hks
    have hsum := sumI_snoc s k hks
    have hsb := sumT_bd h.bd k (by omega)
    have hsk := h.bd k
    rw [hgk] at hsk
    by_cases h1 : s[k] < 0
    · have hb : badB n q s = true := badB_yes hlt (.inl (by rw [hgk]; exact h1))
      rw [hb, if_pos rfl] at eL
      have e2 : lgR n es q d s = ([], false) := by rw [lgR, if_neg (by rw [eL]; decide)]
      simp -implicitDefEqProofs (disch := omega) [List.getElem?_cons_zero, List.getElem?_cons_succ, wrap_id, hlt, hks, h1]
      refine finW (Wk_nil0 8 rfl) ?_
      (refine fin0 trivial rfl ?_; simp -implicitDefEqProofs (disch := omega) [List.getElem?_cons_zero, List.getElem?_cons_succ, idx, wrap_id, eL, e2])
    by_cases h2 : (k : Int) = q
    · have h2' : ((k : Int) = q) = True := eq_true h2
      by_cases h3 : s[k] = 0
      · have hI' := hI.succ ⟨by rw [hgk]; omega, fun _ => by rw [hgk]; exact h3⟩
        simp -implicitDefEqProofs (disch := omega) [List.getElem?_cons_zero, List.getElem?_cons_succ, wrap_id, hlt, hks, h1, h2', h3]
        exact round_end [0] [34, 33, 32, 13, 4, 1, 2, 3] hlt rfl ⟨hI', by rw [hsum, h3, Int.add_zero]; rfl⟩
      · have hb : badB n q s = true := badB_yes hlt (.inr ⟨h2, by rw [hgk]; exact h3⟩)
        rw [hb, if_pos rfl] at eL
        have e2 : lgR n es q d s = ([], false) := by rw [lgR, if_neg (by rw [eL]; decide)]
        simp -implicitDefEqProofs (disch := omega) [List.getElem?_cons_zero, List.getElem?_cons_succ, wrap_id, hlt, hks, h1, h2', h3]
        refine finW (Wk_nil0 8 rfl) ?_
        (refine fin0 trivial rfl ?_; simp -implicitDefEqProofs (disch := omega) [List.getElem?_cons_zero, List.getElem?_cons_succ, idx, wrap_id, eL, e2])
    · have hI' := hI.succ ⟨by rw [hgk]; omega, fun e => absurd e h2⟩
      simp -implicitDefEqProofs (disch := omega) [List.getElem?_cons_zero, List.getElem?_cons_succ, wrap_id, hlt, hks, h1, h2]
      exact round_end [0] [34, 33, 32, 13, 4, 1, 2, 3] hlt rfl ⟨hI', by rw [hsum]; rfl⟩
  have hkn : k = n := by omega
  subst hkn
  rw [badB_no hI] at eL
  simp only [Bool.false_eq_true, if_false] at eL
  have ht : s.take k = s := List.take_of_length_le (by omega)
  rw [ht]
  have hnn : ∀ i, 0 ≤ s.getD i 0 := fun i => by
    by_cases hi : i < k
    · exact (hI i hi).1
    · rw [List.getD_eq_getElem?_getD, List.getElem?_eq_none (by omega)]; simp
  have hs0 : 0 ≤ sumI s := by rw [sumI_sumN]; exact sumN_nonneg fun u _ => hnn u
  by_cases hT : 4096 < sumI s
  · rw [if_pos hT] at eL
    have e2 : lgR k es q d s = ([], false) := by rw [lgR, if_neg (by rw [eL]; decide)]
    simp -implicitDefEqProofs (disch := omega) [List.getElem?_cons_zero, List.getElem?_cons_succ, wrap_id, hT]
    refine finW (Wk_nil0 8 rfl) ?_
    (refine fin0 trivial rfl ?_; simp -implicitDefEqProofs (disch := omega) [List.getElem?_cons_zero, List.getElem?_cons_succ, idx, wrap_id, eL, e2])
  rw [if_neg hT] at eL
  obtain ⟨T, hTe⟩ : ∃ T : Nat, sumI s = T := ⟨(sumI s).toNat, by omega⟩
  have e2 : lgR k es q d s = ordR k es q d s T := by rw [lgR, if_pos eL, Int.toNat_natCast, hTe, Int.toNat_natCast]
  have hT4 : T ≤ 4096 := by omega
  rw [hTe]
  have hn6 : k ≤ 1048576 := by omega
  have hz : List.replicate k (PV.i 0) = (List.replicate k 0).map PV.i := by rw [List.map_replicate]
  have hz0 : givenE k es (List.replicate k 0) = 0 := by
    have hin : (List.replicate k (0 : Int)).all inB = true := by
      rw [List.all_eq_true]
      intro x hx
      rw [(List.mem_replicate.1 hx).2]; decide
    rw [givenE, if_neg (by simp [h.st.gc]), dcheck, if_neg (by have := h.st.n1; omega), if_neg (by simp), if_pos hin]
  have hgz : GvOk k es q d (List.replicate k 0) := ⟨h.st, h.s0, hz0, by simp, fun i => by rw [zeros_get]; omega⟩
  have hT2 : ¬ (4096 : Int) < T := by omega
  simp -implicitDefEqProofs (disch := omega) [List.getElem?_cons_zero, List.getElem?_cons_succ, wrap_id, hT2, hn6]
  refine HC_of_PC (by simp [views, view, viewC, List.map_replicate]) (boardOf_ok es q d (List.replicate k 0) hel hd k hgz) ?_
  rw [aft_zero hg hdl]
  have hup2 : ∀ (H : List AO) (C : List Int), renL H (fun o => some (o + 2)) (bdO q C 1 k) = bdO q C 3 k := fun H C => bdO_renL rfl
  simp -implicitDefEqProofs (disch := omega) [List.getElem?_cons_zero, List.getElem?_cons_succ, wrap_id, hup2, bdO_calm]
  refine HC_of_PC rfl (cloneS_ok s (by omega)) ?_
  simp -implicitDefEqProofs (disch := omega) [List.getElem?_cons_zero, List.getElem?_cons_succ, wrap_id, hsl]
  refine loopW T (fun m st => LgI k es q d s m ∧ st = ⟨[(19, .os 5 0 m), (18, .os 4 0 k), (16, .ptr 2 1 0 0), (13, .i T), (4, .ptr 0 1 0 0)], [.box (.p (G k es)), .row (List.replicate k (PV.i 0)) 1 3 false, .box (.agg (bdO q (bcE es) 3 k)), rowI (movedE es (ordS k es q d s m) d), rowI (rstL k s (ordS k es q d s m)), rowI (ordM k es q d s m)]⟩) ((Wk_nil 19 1 3 rfl).trans (Wk_keep [19, 18, 16, 13, 4])) ⟨⟨rfl⟩, by simp only [ordS, ordM]; rw [← rstL_0 hsl, aft_zero hg hdl, hz]; rfl⟩ ?_
  rintro m st hm ⟨hM, rfl⟩
  have hml := hM.len
  have hleg := ord_leg (n := k) (es := es) (q := q) (d := d) (s := s) m
  have hle := ord_le (n := k) (es := es) (q := q) (d := d) (s := s) hnn m
  by_cases hmT : m < T
  rotate_left
  · have e : m = T := by omega
    subst e
    have hr := ordR_yes (n := k) (es := es) (q := q) (d := d) (s := s) hml
    rw [hr] at e2
    simp -implicitDefEqProofs (disch := omega) [List.getElem?_cons_zero, List.getElem?_cons_succ, wrap_id, hml]
    (refine fin0 trivial rfl ?_; simp -implicitDefEqProofs (disch := omega) [List.getElem?_cons_zero, List.getElem?_cons_succ, idx, wrap_id, eL, e2, hml])
  obtain ⟨r, hr⟩ : ∃ r, r = ordS k es q d s m := ⟨_, rfl⟩
  have hrl : r.length = k := by rw [hr]; exact hleg.len
  have hRl := rstL_len k s r
  have hcl : (movedE es r d).length = k := by rw [movedE_length, hdl]
  rw [← hr] at hleg hle ⊢
  have hmTi : (m : Int) < T := by omega
  simp -implicitDefEqProofs (disch := omega) [List.getElem?_cons_zero, List.getElem?_cons_succ, wrap_id, hml, hmTi]
  refine loopW k (fun v st => (∀ u, u < v → pckB k es q d s r u = false) ∧ st = ⟨[(20, .i v), (19, .os 5 0 m), (18, .os 4 0 k), (16, .ptr 2 1 0 0), (13, .i T), (4, .ptr 0 1 0 0)], [.box (.p (G k es)), .row (List.replicate k (PV.i 0)) 1 3 false, .box (.agg (bdO q (bcE es) 3 k)), rowI (movedE es r d), rowI (rstL k s r), rowI (ordM k es q d s m)]⟩) (Wk_keep [20, 19, 18, 16, 13, 4]) ⟨fun u hu => by omega, rfl⟩ ?_
  rintro v st hv ⟨hno, rfl⟩
  by_cases hlv : v < k
  rotate_left
  · have e : v = k := by omega
    subst e
    have hp := pckF_no hno
    rw [hr] at hp
    rw [ordR_no hmT hp] at e2
    simp -implicitDefEqProofs (disch := omega) [List.getElem?_cons_zero, List.getElem?_cons_succ, wrap_id]
    refine finW (Wk_nil0 8 rfl) ?_
    (refine fin0 trivial rfl ?_; simp -implicitDefEqProofs (disch := omega) [List.getElem?_cons_zero, List.getElem?_cons_succ, idx, wrap_id, eL, e2])
  have hvR : v < (rstL k s r).length := by omega
  have hgv := getD_get hvR
  have hrv := rstL_get (s := s) (r := r) hlv
  rw [hgv] at hrv
  have hlev := hle v
  by_cases h1 : (rstL k s r)[v] = 0
  · have hb : pckB k es q d s r v = false := by
      rw [pckB, decide_eq_false (by rw [ne_eq, Decidable.not_not]; omega)]; rfl
    simp -implicitDefEqProofs (disch := omega) [List.getElem?_cons_zero, List.getElem?_cons_succ, wrap_id, hlv, hvR, hRl, h1]
    refine round_keep [20, 19, 18, 16, 13, 4] hlv ⟨fun u hu => ?_, rfl⟩
    rcases Nat.lt_or_ge u v with h2 | h2
    · exact hno u h2
    · have e : u = v := by omega
      rw [e]; exact hb
  have hne : decide (r.getD v 0 ≠ s.getD v 0) = true := decide_eq_true (by omega)
  simp -implicitDefEqProofs (disch := omega) [List.getElem?_cons_zero, List.getElem?_cons_succ, wrap_id, hlv, hvR, hRl, h1]
  refine unst_ptr hg (o := 2) (p := 3) rfl rfl v hlv hcl ?_
  cases hu : unstB k es q (movedE es r d) v with
  | false =>
    have hb : pckB k es q d s r v = false := by rw [pckB, hu, Bool.and_false]
    simp -implicitDefEqProofs (disch := omega) [List.getElem?_cons_zero, List.getElem?_cons_succ, wrap_id]
    refine round_keep [20, 19, 18, 16, 13, 4] hlv ⟨fun u hu => ?_, rfl⟩
    rcases Nat.lt_or_ge u v with h2 | h2
    · exact hno u h2
    · have e : u = v := by omega
      rw [e]; exact hb
  | true =>
    have hb : pckB k es q d s r v = true := by rw [pckB, hu, hne]; rfl
    have hp := pckF_at hlv hb hno
    rw [hr] at hp
    obtain ⟨e3, e4⟩ := ord_succ hp
    rw [← hr] at e3
    have hvk : ¬ (v : Int) = k := by omega
    have hmv := fired_moved hg hdl hrl hlv 1
    have hs2 := congrArg (List.map PV.i) (rstL_set (s := s) hlv hrl)
    rw [List.map_set, hgv] at hs2
    have hb1 := h.bd v
    have hb2 := hleg.nn v
    have hm1 : m ≤ 1048575 := by omega
    simp -implicitDefEqProofs (disch := omega) [List.getElem?_cons_zero, List.getElem?_cons_succ, wrap_id, hvk]
    refine bfire_ok hg (o := 2) (p := 3) rfl rfl (by omega) v 1 hlv (by omega) hcl (fun i => by have := aft_bd hg hleg h.st.c i; omega) ?_
    rw [hmv, ← e3]
    simp -implicitDefEqProofs (disch := omega) [List.getElem?_cons_zero, List.getElem?_cons_succ, wrap_id, hlv, hvR, hRl, hs2, hml, hm1]
    refine round_end' (by omega) (Wk_pop 6 [19, 18, 16, 13, 4] (by simp) (by simp) (H' := [.box (.p (G k es)), .row (List.replicate k (PV.i 0)) 1 3 false, .box (.agg (bdO q (bcE es) 3 k)), rowI (movedE es (ordS k es q d s (m + 1)) d), rowI (rstL k s (ordS k es q d s (m + 1))), rowI (ordM k es q d s (m + 1))]) ?_ ?_ ?_) ⟨hM.succ hp, rfl⟩
    · rw [e3, e4]; simp
    · intro i hi
      simp only [List.mem_cons, List.not_mem_nil, or_false] at hi
      rcases hi with rfl | rfl | rfl | rfl | rfl <;> simp [Abs.get, loA]
    · intro ob hob
      simp only [List.mem_cons, List.not_mem_nil, or_false] at hob
      rcases hob with rfl | rfl | rfl | rfl | rfl | rfl
      · rfl
      · rfl
      · exact lo_bd (by omega)
      · rfl
      · rfl
      · rfl
end
end Go.Proofs.Ytgjaekbbdmhjlaa
