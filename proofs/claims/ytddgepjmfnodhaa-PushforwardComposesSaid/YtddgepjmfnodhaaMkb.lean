/-
  Contracts: the counts of a cover.
-/
import Derived.Test.YtddgepjmfnodhaaMka
set_option linter.unusedSimpArgs false
set_option linter.unusedVariables false
namespace Go.Proofs.Ytddgepjmfnodhaa
open Go.Abs Go.Sand

@[local simp] theorem aev_map0 {t : List (Nat × AV)} : aev t (.const (.map none)) = some (.p (.v (.map none))) := rfl
theorem toD_ren (L : List (KV × Int)) (H : List AO) (ρ : Nat → Option Nat) : (toD L).map (fun x => (x.1, x.2.ren H ρ)) = toD L := by
  simp only [toD, List.map_map]
  refine List.map_congr_left fun x _ => ?_
  simp [AV.ren]
theorem norm_dict {x : AV} {kd : KD} {L : List (KV × Int)} {Hr : List AO} {keep : List Nat} {T : List (Nat × AV)} : norm [0, 1] keep ⟨T, .box x :: .dict kd (toD L) :: Hr⟩ =
    ⟨keep.map fun i => (i, (Abs.get T i).ren (.box x :: .dict kd (toD L) :: Hr) (Abs.idx [0, 1] 0)), [.box (x.ren (.box x :: .dict kd (toD L) :: Hr) (Abs.idx [0, 1] 0)), .dict kd (toD L)]⟩ := by
  simp [norm, AO.ren, toD_ren]
theorem fI_getC {k : KV} {L : List (KV × Int)} {i : Nat} (h : fI k L = some i) : L[i]? = some (k, getC k L) := by
  obtain ⟨n, hn⟩ := fI_some h
  rw [hn]
  unfold getC
  rw [h]
  simp [List.getD_eq_getElem?_getD, hn]
theorem inc_some {k : KV} {L : List (KV × Int)} {i : Nat} (h : fI k L = some i) : dIdx k (toD L) = some i ∧ (toD L)[i]? = some (k, .p (.v (.int .i64 (getC k L)))) ∧ (toD L).set i (k, .p (.v (.int .i64 (getC k L + 1)))) = toD (incL k L) := by
  have hn := fI_getC h
  refine ⟨by rw [dIdx_toD, h], by simp [toD, hn], ?_⟩
  unfold incL
  rw [h]
  simp [toD, List.map_set, List.getD_eq_getElem?_getD, hn]
theorem inc_none {k : KV} {L : List (KV × Int)} (h : fI k L = none) : dIdx k (toD L) = none ∧ toD L ++ [(k, .p (.v (.int .i64 1)))] = toD (incL k L) ∧ dIdx k (toD L ++ [(k, .p (.v (.int .i64 0)))]) = some (toD L).length := by
  have h1 : dIdx k (toD L) = none := by rw [dIdx_toD, h]
  refine ⟨h1, ?_, dIdx_push _ h1⟩
  unfold incL
  rw [h]
  simp [toD]
def dJ (up : List (Int × Int)) (el : List Int) (k j : Nat) : List (KV × Int) := if j = 0 then cL up el k else if j = 1 then incL (.kl [(up.getD k (0, 0)).1, el.getD k 0]) (cL up el k) else cL up el (k + 1)
theorem counts_ok (n : Nat) (M : Int) (es fs : List Ed) (up down : List (Int × Int)) (m : Mo) (hup : ∀ p ∈ up, (0 ≤ p.1 ∧ p.1 < 12) ∧ 0 ≤ p.2 ∧ p.2 < 12) (hle : m.e.length = up.length)
    (hul : up.length ≤ 1000000) (heb : ∀ e ∈ m.e, -1 ≤ e ∧ e ≤ 1000000) :
    PC Try.prog 71 [cov n es M fs up down m] (.mp 0) [.dict (.arr 2) (toD (cL up m.e m.e.length))] := by
  refine PC_of_W cfn71 ?_
  simp -implicitDefEqProofs (disch := omega) [c71, List.getElem?_cons_zero, List.getElem?_cons_succ, wrap_id]
  refine loopW m.e.length (fun k s => s = ⟨[(13, .i k), (12, .i m.e.length), (11, .p (.is m.e)), (3, .mp 1), (1, .ptr 0 1 0 0)], [.box (.p (cov n es M fs up down m)), .dict (.arr 2) (toD (cL up m.e k))]⟩) (wk_norm [0, 1] [13, 12, 11, 3, 1] rfl rfl) rfl ?_
  rintro k s hk rfl
  by_cases hlt : k < m.e.length
  · have hku : k < up.length := by omega
    simp -implicitDefEqProofs (disch := omega) [List.getElem?_cons_zero, List.getElem?_cons_succ, wrap_id, hlt, hku]
    obtain ⟨⟨p1, p2⟩, p3, p4⟩ := hup _ (List.getElem_mem hku)
    obtain ⟨q1, q2⟩ := heb _ (List.getElem_mem hlt)
    have hgu : up.getD k (0, 0) = up[k] := by rw [List.getD_eq_getElem?_getD, List.getElem?_eq_getElem hku]; rfl
    have hge : m.e.getD k 0 = m.e[k] := by rw [List.getD_eq_getElem?_getD, List.getElem?_eq_getElem hlt]; rfl
    refine loopW 2 (fun j s => s = ⟨[(23, .i j), (22, .p (pP up[k])), (5, .i m.e[k]), (3, .mp 1), (13, .i k), (12, .i m.e.length), (11, .p (.is m.e)), (1, .ptr 0 1 0 0)], [.box (.p (cov n es M fs up down m)), .dict (.arr 2) (toD (dJ up m.e k j))]⟩) (wk_norm [0, 1] [23, 22, 5, 3, 13, 12, 11, 1] rfl (norm_dict.trans rfl)) rfl ?_
    rintro j s hj rfl
    have he1 := wf_bd (v := m.e[k]) (by omega) (by omega)
    match j, hj with
    | 0, _ =>
      have hdj : dJ up m.e k (0 + 1) = incL (.kl [up[k].1, m.e[k]]) (dJ up m.e k 0) := by simp only [dJ, hgu, hge]; rfl
      have hv1 := wf_bd (v := up[k].1) (by omega) (by omega)
      have hb := cntK_bd up m.e up[k].1 m.e[k] k
      rw [← getC_cL] at hb
      have hb1 : -9223372036854775808 ≤ getC (.kl [up[k].1, m.e[k]]) (dJ up m.e k 0) + 1 := by rw [show dJ up m.e k 0 = cL up m.e k from rfl]; omega
      have hb2 : getC (.kl [up[k].1, m.e[k]]) (dJ up m.e k 0) + 1 ≤ 9223372036854775807 := by rw [show dJ up m.e k 0 = cL up m.e k from rfl]; omega
      cases hfi : fI (.kl [up[k].1, m.e[k]]) (dJ up m.e k 0) with
      | some i =>
        obtain ⟨i1, i2, i3⟩ := inc_some hfi
        simp -implicitDefEqProofs (disch := omega) [List.getElem?_cons_zero, List.getElem?_cons_succ, wrap_id, hv1, he1, i1, i2, i3, hb1, hb2]
        refine tree_all ?_
        simp -implicitDefEqProofs (disch := omega) [List.getElem?_cons_zero, List.getElem?_cons_succ, wrap_id, hv1, he1, i1, i2, i3, hb1, hb2]
        refine ⟨⟨?_, ?_⟩, ?_⟩ <;> exact round_end [0, 1] [23, 22, 5, 3, 13, 12, 11, 1] (by omega) rfl (by rw [hdj]; exact norm_dict.trans rfl)
      | none =>
        obtain ⟨i1, i2, i3⟩ := inc_none hfi
        have i4 : ∀ x : KV × AV, (toD (dJ up m.e k 0) ++ [x])[(toD (dJ up m.e k 0)).length]? = some x := fun x => by simp
        have i5 : ∀ x y : KV × AV, (toD (dJ up m.e k 0) ++ [x]).set (toD (dJ up m.e k 0)).length y = toD (dJ up m.e k 0) ++ [y] := fun x y => by simp
        simp -implicitDefEqProofs (disch := omega) [List.getElem?_cons_zero, List.getElem?_cons_succ, wrap_id, hv1, he1, i1, i2, i3, i4, i5]
        refine tree_all ?_
        simp -implicitDefEqProofs (disch := omega) [List.getElem?_cons_zero, List.getElem?_cons_succ, wrap_id, hv1, he1, i1, i2, i3, i4, i5]
        refine ⟨⟨?_, ?_⟩, ?_⟩ <;> exact round_end [0, 1] [23, 22, 5, 3, 13, 12, 11, 1] (by omega) rfl (by rw [hdj]; exact norm_dict.trans rfl)
    | 1, _ =>
      have hdj : dJ up m.e k (1 + 1) = incL (.kl [up[k].2, m.e[k]]) (dJ up m.e k 1) := by simp only [dJ, hgu, hge, cL]; rfl
      have hv1 := wf_bd (v := up[k].2) (by omega) (by omega)
      have hb := cntK_bd up m.e up[k].2 m.e[k] k
      rw [← getC_cL] at hb
      have hbb : 0 ≤ getC (.kl [up[k].2, m.e[k]]) (dJ up m.e k 1) ∧ getC (.kl [up[k].2, m.e[k]]) (dJ up m.e k 1) ≤ 2 * k + 1 := by
        rw [show dJ up m.e k 1 = incL (.kl [(up.getD k (0, 0)).1, m.e.getD k 0]) (cL up m.e k) from rfl, getC_inc]
        split <;> omega
      have hb1 : -9223372036854775808 ≤ getC (.kl [up[k].2, m.e[k]]) (dJ up m.e k 1) + 1 := by omega
      have hb2 : getC (.kl [up[k].2, m.e[k]]) (dJ up m.e k 1) + 1 ≤ 9223372036854775807 := by omega
      cases hfi : fI (.kl [up[k].2, m.e[k]]) (dJ up m.e k 1) with
      | some i =>
        obtain ⟨i1, i2, i3⟩ := inc_some hfi
        simp -implicitDefEqProofs (disch := omega) [List.getElem?_cons_zero, List.getElem?_cons_succ, wrap_id, hv1, he1, i1, i2, i3, hb1, hb2]
        refine tree_all ?_
        simp -implicitDefEqProofs (disch := omega) [List.getElem?_cons_zero, List.getElem?_cons_succ, wrap_id, hv1, he1, i1, i2, i3, hb1, hb2]
        refine ⟨⟨?_, ?_⟩, ?_⟩ <;> exact round_end [0, 1] [23, 22, 5, 3, 13, 12, 11, 1] (by omega) rfl (by rw [hdj]; exact norm_dict.trans rfl)
      | none =>
        obtain ⟨i1, i2, i3⟩ := inc_none hfi
        have i4 : ∀ x : KV × AV, (toD (dJ up m.e k 1) ++ [x])[(toD (dJ up m.e k 1)).length]? = some x := fun x => by simp
        have i5 : ∀ x y : KV × AV, (toD (dJ up m.e k 1) ++ [x]).set (toD (dJ up m.e k 1)).length y = toD (dJ up m.e k 1) ++ [y] := fun x y => by simp
        simp -implicitDefEqProofs (disch := omega) [List.getElem?_cons_zero, List.getElem?_cons_succ, wrap_id, hv1, he1, i1, i2, i3, i4, i5]
        refine tree_all ?_
        simp -implicitDefEqProofs (disch := omega) [List.getElem?_cons_zero, List.getElem?_cons_succ, wrap_id, hv1, he1, i1, i2, i3, i4, i5]
        refine ⟨⟨?_, ?_⟩, ?_⟩ <;> exact round_end [0, 1] [23, 22, 5, 3, 13, 12, 11, 1] (by omega) rfl (by rw [hdj]; exact norm_dict.trans rfl)
    | 2, _ =>
      simp -implicitDefEqProofs (disch := omega) [List.getElem?_cons_zero, List.getElem?_cons_succ, wrap_id]
      exact round_end [0, 1] [13, 12, 11, 3, 1] hlt rfl (norm_dict.trans rfl)
  · have hkn : k = m.e.length := by omega
    subst hkn
    simp -implicitDefEqProofs (disch := omega) [List.getElem?_cons_zero, List.getElem?_cons_succ, wrap_id]
    refine fin1 [1] trivial rfl rfl ⟨rfl, ?_⟩
    simp [renH, AO.ren, toD_ren]
end Go.Proofs.Ytddgepjmfnodhaa
/-
  Contracts: multiplicities.
-/
set_option linter.unusedSimpArgs false
set_option linter.unusedVariables false
namespace Go.Proofs.Ytddgepjmfnodhaa
open Go.Abs Go.Sand

/-- Is single edge e of the second graph at the image of v? -/
def tB (vs : List Int) (down : List (Int × Int)) (v e : Nat) : Bool := decide (vs.getD v 0 ∈ [(down.getD e (0, 0)).1, (down.getD e (0, 0)).2])
def locK (t : Nat → Bool) (c : Nat → Int) : Nat → Option (Option Int)
  | 0 => some none
  | k + 1 => match locK t c k with
    | none => none
    | some a => if t k = true then (if a = none ∨ a = some (c k) then some (some (c k)) else none) else some a
theorem locK_none {t : Nat → Bool} {c : Nat → Int} {k : Nat} (h : locK t c k = none) : ∀ {d : Nat}, k ≤ d → locK t c d = none
  | 0, hd => by rw [show k = 0 by omega] at h; exact h
  | d + 1, hd => by
    by_cases e : k = d + 1
    · rw [← e]; exact h
    · rw [locK, locK_none h (by omega)]
abbrev locV (up down : List (Int × Int)) (m : Mo) (v : Nat) : Nat → Option (Option Int) := locK (tB m.v down v) (fun e => cntK up m.e v e m.e.length)
def multV (up down : List (Int × Int)) (m : Mo) (v : Nat) : Int := ((locV up down m v down.length).getD none).getD 0
def harmB (up down : List (Int × Int)) (m : Mo) (n : Nat) : Bool := (List.range n).all fun v => (locV up down m v down.length).isSome
def mL (up down : List (Int × Int)) (m : Mo) (n v : Nat) : List Int := (List.range n).map fun u => if u < v then multV up down m u else 0
theorem at_ok' (N M : Int) (es fs : List Ed) (up down : List (Int × Int)) (m : Mo) (v e : Nat) (hv : v < m.v.length) (he : e < down.length) :
    PC Try.prog 86 [cov N es M fs up down m, .i v, .i e] (.b (tB m.v down v e)) [] := by
  have g1 : m.v.getD v 0 = m.v[v] := by rw [List.getD_eq_getElem?_getD, List.getElem?_eq_getElem hv]; rfl
  have g2 : down.getD e (0, 0) = down[e] := by rw [List.getD_eq_getElem?_getD, List.getElem?_eq_getElem he]; rfl
  refine PC_of_W cfn86 ?_
  simp -implicitDefEqProofs (disch := omega) [c86, List.getElem?_cons_zero, List.getElem?_cons_succ, wrap_id, hv, he]
  refine HC_of_PC rfl (contains_ok [down[e].1, down[e].2] m.v[v] (by simp)) ?_
  simp -implicitDefEqProofs (disch := omega) [List.getElem?_cons_zero, List.getElem?_cons_succ, wrap_id]
  refine fin0 trivial rfl ?_
  rw [tB, g1, g2]
  simp
theorem mL_length (up down : List (Int × Int)) (m : Mo) (n v : Nat) : (mL up down m n v).length = n := by simp [mL]
theorem mL_set (up down : List (Int × Int)) (m : Mo) (n v : Nat) : (mL up down m n v).set v (multV up down m v) = mL up down m n (v + 1) := by
  refine List.ext_getElem (by simp [mL]) fun i h1 h2 => ?_
  rw [List.getElem_set]
  simp only [mL, List.getElem_map, List.getElem_range]
  by_cases e : v = i
  · subst e; simp
  · simp only [if_neg e]
    by_cases h : i < v
    · rw [if_pos h, if_pos (by omega)]
    · rw [if_neg h, if_neg (by omega)]
theorem mL_set0 (up down : List (Int × Int)) (m : Mo) (n v : Nat) : (mL up down m n v).set v 0 = mL up down m n v := by
  refine List.ext_getElem (by simp [mL]) fun i h1 h2 => ?_
  rw [List.getElem_set]
  split
  · rename_i e; subst e; simp [mL]
  · rfl
theorem is_set (l : List Int) (i : Nat) (x : Int) : (l.map PV.i).set i (.v (.int .i64 x)) = (l.set i x).map PV.i := by simp
theorem toD_calm (L : List (KV × Int)) : ((toD L).all fun x => calmA x.2) = true := by
  refine List.all_eq_true.2 fun x hx => ?_
  obtain ⟨y, _, rfl⟩ := List.mem_map.1 hx
  rfl
attribute [local simp] toD_ren toD_calm
theorem norm_dict3 {x : AV} {kd : KD} {L : List (KV × Int)} {l : List PV} {sz : Nat} {t : TypeId} {fz : Bool} {Hr : List AO} {keep : List Nat} {T : List (Nat × AV)} : norm [0, 1, 2] keep ⟨T, .box x :: .dict kd (toD L) :: .row l sz t fz :: Hr⟩ =
    ⟨keep.map fun i => (i, (Abs.get T i).ren (.box x :: .dict kd (toD L) :: .row l sz t fz :: Hr) (Abs.idx [0, 1, 2] 0)), [.box (x.ren (.box x :: .dict kd (toD L) :: .row l sz t fz :: Hr) (Abs.idx [0, 1, 2] 0)), .dict kd (toD L), .row l sz t fz]⟩ := by
  simp [norm, AO.ren, toD_ren]
theorem mults_ok (n : Nat) (M : Int) (es fs : List Ed) (up down : List (Int × Int)) (m : Mo) (hn : n ≤ 12) (hup : ∀ p ∈ up, (0 ≤ p.1 ∧ p.1 < 12) ∧ 0 ≤ p.2 ∧ p.2 < 12) (hle : m.e.length = up.length) (hvl : m.v.length = n)
    (hul : up.length ≤ 1000000) (hdl : down.length ≤ 1000000) (heb : ∀ e ∈ m.e, -1 ≤ e ∧ e ≤ 1000000) :
    PCR Try.prog 51 [cov n es M fs up down m] fun r HR => HR = [] ∧ if harmB up down m n = true then r = .tup [.p (.is (mL up down m n n)), .b true] else ∃ x, r = .tup [.p (.sl x), .b false] := by
  have hn' : n ≤ 1048576 := by omega
  refine PCR_of_W cfn51 ?_
  simp -implicitDefEqProofs (disch := omega) [c51, List.getElem?_cons_zero, List.getElem?_cons_succ, wrap_id]
  refine HC_of_PC rfl (counts_ok n M es fs up down m hup hle hul heb) ?_
  obtain ⟨L, hL⟩ : ∃ L, L = cL up m.e m.e.length := ⟨_, rfl⟩
  rw [← hL]
  simp -implicitDefEqProofs (disch := omega) [List.getElem?_cons_zero, List.getElem?_cons_succ, wrap_id, hn']
  have h0 : List.replicate n (PV.v (.int .i64 0)) = (mL up down m n 0).map PV.i := by
    refine List.ext_getElem (by simp [mL]) fun i h1 h2 => ?_
    simp [mL]
  rw [h0]
  obtain ⟨b0, hb0⟩ : ∃ b0 : PV, b0 = cov n es M fs up down m := ⟨_, rfl⟩
  refine loopW n (fun v s => s = ⟨[(19, .i v), (18, .i n), (5, .os 2 0 n), (6, .b true), (4, .mp 1), (1, .ptr 0 1 0 0)], [.box (.p (cov n es M fs up down m)), .dict (.arr 2) (toD L), .row ((mL up down m n v).map PV.i) 1 3 false]⟩ ∧ ∀ u, u < v → (locV up down m u down.length).isSome = true)
    (wk_norm [0, 1, 2] [19, 18, 5, 6, 4, 1] rfl (norm_dict3.trans rfl)) ⟨rfl, fun u h => by omega⟩ ?_
  rintro v s hv ⟨rfl, hI⟩
  have hml := mL_length up down m n v
  by_cases hlt : v < n
  · have hq : ∀ y : PV, ((List.map PV.i (mL up down m n v)).set v y)[v]? = some y := fun y => List.getElem?_set_self (by simpa [hml] using hlt)
    simp -implicitDefEqProofs (disch := omega) [List.getElem?_cons_zero, List.getElem?_cons_succ, wrap_id, hlt]
    refine loopW down.length (fun e s => ∃ a, s = ⟨[(25, .i e), (24, .i down.length), (8, .b a.isNone), (7, .i v), (19, .i v), (18, .i n), (5, .os 2 0 n), (6, .b true), (4, .mp 1), (1, .ptr 0 1 0 0)], [.box (.p (cov n es M fs up down m)), .dict (.arr 2) (toD L), .row (((mL up down m n v).set v (a.getD 0)).map PV.i) 1 3 false]⟩ ∧ locV up down m v e = some a)
      (wk_norm [0, 1, 2] [25, 24, 8, 7, 19, 18, 5, 6, 4, 1] rfl (norm_dict3.trans rfl)) ⟨none, by rw [show (none : Option Int).getD 0 = 0 from rfl, mL_set0]; rfl, rfl⟩ ?_
    rintro e s he ⟨a, rfl, hJ⟩
    by_cases het : e < down.length
    · have hloc : locV up down m v (e + 1) = if tB m.v down v e = true then (if a = none ∨ a = some (cntK up m.e v e m.e.length) then some (some (cntK up m.e v e m.e.length)) else none) else some a := by
        show locK _ _ (e + 1) = _
        rw [locK, show locK (tB m.v down v) (fun e : Nat => cntK up m.e v e m.e.length) e = some a from hJ]
      have hvl' : v < m.v.length := by omega
      simp -implicitDefEqProofs (disch := omega) [List.getElem?_cons_zero, List.getElem?_cons_succ, wrap_id, het]
      refine HC_of_PC rfl (at_ok' n M es fs up down m v e hvl' het) ?_
      cases htb : tB m.v down v e with
      | false =>
        rw [htb] at hloc
        simp -implicitDefEqProofs (disch := omega) [List.getElem?_cons_zero, List.getElem?_cons_succ, wrap_id]
        exact round_end [0, 1, 2] [25, 24, 8, 7, 19, 18, 5, 6, 4, 1] het rfl ⟨a, norm_dict3.trans rfl, hloc⟩
      | true =>
        rw [htb, if_pos rfl] at hloc
        have w1 := wf_small (v := v) (by omega)
        have w2 := wf_small (v := e) (by omega)
        obtain ⟨c, hc⟩ : ∃ c, c = cntK up m.e v e m.e.length := ⟨_, rfl⟩
        have hgc : getC (.kl [(v : Int), (e : Int)]) L = c := by rw [hL, getC_cL, hc]
        rw [← hc] at hloc
        have hlook : (dIdx (.kl [(v : Int), (e : Int)]) (toD L) = none ∧ c = 0) ∨ ∃ i, dIdx (.kl [(v : Int), (e : Int)]) (toD L) = some i ∧ (toD L)[i]? = some (.kl [(v : Int), (e : Int)], .p (.v (.int .i64 c))) := by
          cases hfi : fI (.kl [(v : Int), (e : Int)]) L with
          | none => exact .inl ⟨by rw [dIdx_toD, hfi], by rw [← hgc, getC, hfi]⟩
          | some i =>
            obtain ⟨i1, i2, _⟩ := inc_some hfi
            exact .inr ⟨i, i1, by rw [i2, hgc]⟩
        rcases hlook with ⟨d1, hc0⟩ | ⟨i, d1, d2⟩
        · rw [hc0] at hloc
          cases a with
          | none =>
            rw [if_pos (.inl rfl)] at hloc
            simp -implicitDefEqProofs (disch := omega) [List.getElem?_cons_zero, List.getElem?_cons_succ, wrap_id, w1, w2, d1, hml, hlt, hq]
            exact round_end [0, 1, 2] [25, 24, 8, 7, 19, 18, 5, 6, 4, 1] het rfl ⟨some (0), norm_dict3.trans rfl, hloc⟩
          | some x =>
            by_cases hcx : x = 0
            · subst hcx
              rw [if_pos (.inr rfl)] at hloc
              simp -implicitDefEqProofs (disch := omega) [List.getElem?_cons_zero, List.getElem?_cons_succ, wrap_id, w1, w2, d1, hml, hlt, hq]
              exact round_end [0, 1, 2] [25, 24, 8, 7, 19, 18, 5, 6, 4, 1] het rfl ⟨some _, norm_dict3.trans rfl, hloc⟩
            · rw [if_neg (by rintro (h | h); cases h; injection h with h; exact hcx h)] at hloc
              have hnone := locK_none hloc (d := down.length) (by omega)
              have hh : harmB up down m n = false := by
                cases hx : harmB up down m n
                · rfl
                · have h2 := List.all_eq_true.1 hx v (by simpa using hlt)
                  rw [show locV up down m v down.length = none from hnone] at h2
                  cases h2
              have hcx' : ¬ 0 = x := fun h => hcx h.symm
              simp -implicitDefEqProofs (disch := omega) [List.getElem?_cons_zero, List.getElem?_cons_succ, wrap_id, w1, w2, d1, hml, hlt, hq, hcx']
              refine fin0R (x := .tup [.os 2 0 n, .b false]) trivial rfl ⟨rfl, ?_⟩
              rw [hh, if_neg (by simp)]
              refine ⟨((mL up down m n v).map PV.i).set v (PV.i x), ?_⟩
              simp [hml]
              rfl
        · cases a with
          | none =>
            rw [if_pos (.inl rfl)] at hloc
            simp -implicitDefEqProofs (disch := omega) [List.getElem?_cons_zero, List.getElem?_cons_succ, wrap_id, w1, w2, d1, d2, hml, hlt, hq]
            exact round_end [0, 1, 2] [25, 24, 8, 7, 19, 18, 5, 6, 4, 1] het rfl ⟨some (c), norm_dict3.trans rfl, hloc⟩
          | some x =>
            by_cases hcx : x = c
            · subst hcx
              rw [if_pos (.inr rfl)] at hloc
              simp -implicitDefEqProofs (disch := omega) [List.getElem?_cons_zero, List.getElem?_cons_succ, wrap_id, w1, w2, d1, d2, hml, hlt, hq]
              exact round_end [0, 1, 2] [25, 24, 8, 7, 19, 18, 5, 6, 4, 1] het rfl ⟨some _, norm_dict3.trans rfl, hloc⟩
            · rw [if_neg (by rintro (h | h); cases h; injection h with h; exact hcx h)] at hloc
              have hnone := locK_none hloc (d := down.length) (by omega)
              have hh : harmB up down m n = false := by
                cases hx : harmB up down m n
                · rfl
                · have h2 := List.all_eq_true.1 hx v (by simpa using hlt)
                  rw [show locV up down m v down.length = none from hnone] at h2
                  cases h2
              have hcx' : ¬ c = x := fun h => hcx h.symm
              simp -implicitDefEqProofs (disch := omega) [List.getElem?_cons_zero, List.getElem?_cons_succ, wrap_id, w1, w2, d1, d2, hml, hlt, hq, hcx']
              refine fin0R (x := .tup [.os 2 0 n, .b false]) trivial rfl ⟨rfl, ?_⟩
              rw [hh, if_neg (by simp)]
              refine ⟨((mL up down m n v).map PV.i).set v (PV.i x), ?_⟩
              simp [hml]
              rfl
    · have hen : e = down.length := by omega
      subst hen
      simp -implicitDefEqProofs (disch := omega) [List.getElem?_cons_zero, List.getElem?_cons_succ, wrap_id]
      have hm : multV up down m v = a.getD 0 := by rw [multV, hJ]; rfl
      refine round_end [0, 1, 2] [19, 18, 5, 6, 4, 1] hlt rfl ⟨?_, fun u hu => ?_⟩
      · rw [← mL_set, hm, ← is_set]
        exact norm_dict3.trans rfl
      · by_cases e : u = v
        · rw [e, hJ]; rfl
        · exact hI u (by omega)
  · have hvn : v = n := by omega
    subst hvn
    have hh : harmB up down m v = true := List.all_eq_true.2 fun u hu => hI u (by simpa using hu)
    simp -implicitDefEqProofs (disch := omega) [List.getElem?_cons_zero, List.getElem?_cons_succ, wrap_id]
    refine fin0R (x := .tup [.os 2 0 v, .b true]) trivial rfl ⟨rfl, ?_⟩
    rw [if_pos hh]
    simp [hml]
    rfl
end Go.Proofs.Ytddgepjmfnodhaa
/-
  Contracts: the exported functions of package morphism.
-/
set_option linter.unusedSimpArgs false
set_option linter.unusedVariables false
namespace Go.Proofs.Ytddgepjmfnodhaa
open Go.Abs Go.Sand

/-- What a right map is. -/
structure Cov (g h : Gr) (m : Mo) (n k : Nat) : Prop where
  gn : g.1 = n
  hk : h.1 = k
  gg : GoodG g.1 g.2
  hg : GoodG h.1 h.2
  gl : loopsB g.2 = false
  hl : loopsB h.2 = false
  gc : partsN g.2 n = 1
  hc : partsN h.2 k = 1
  vl : m.v.length = n
  el : m.e.length = (endsL g.2).length
  vb : ∀ x ∈ m.v, 0 ≤ x ∧ x < k
  st : ∀ i (h' : i < m.e.length) (h'' : i < (endsL g.2).length), stepE m.v (endsL h.2) (endsL g.2)[i] m.e[i] = 0
theorem edgesE_zero {vs : List Int} {down : List (Int × Int)} : ∀ {ps : List (Int × Int)} {el : List Int}, edgesE vs down ps el = 0 → ∀ i (h : i < el.length) (h' : i < ps.length), stepE vs down ps[i] el[i] = 0
  | [], el, _, i, _, h' => by simp at h'
  | p :: ps, [], _, i, h, _ => by simp at h
  | p :: ps, e :: el, hz, i, h, h' => by
    rw [edgesE] at hz
    split at hz
    · rename_i h1; exact absurd hz h1
    · rename_i h1
      cases i with
      | zero => exact Decidable.not_not.1 h1
      | succ i => exact edgesE_zero hz i (by simpa using h) (by simpa using h')
theorem cov_of {g h : Gr} {m : Mo} (hc : coverE g h m = 0) : ∃ n k : Nat, Cov g h m n k := by
  unfold coverE at hc
  split at hc
  · rename_i h1; exact absurd hc h1
  · rename_i h1
    obtain ⟨e1, e2⟩ := errs_two (Decidable.not_not.1 h1)
    obtain ⟨a1, a2, a3⟩ := graph_good e1
    obtain ⟨b1, b2, b3⟩ := graph_good e2
    have n1 := a1.n1
    have n2 := b1.n1
    unfold rightE at hc
    split at hc
    · cases hc
    · rename_i h2
      have h2a : (m.v.length : Int) = g.1 := Decidable.byContradiction fun h => h2 (.inl h)
      have h2b : m.e.length = (endsL g.2).length := Decidable.byContradiction fun h => h2 (.inr h)
      split at hc
      · rename_i h3
        refine ⟨g.1.toNat, h.1.toNat, by omega, by omega, a1, b1, a2, b2, a3, b3, by omega, h2b, fun x hx => ?_, edgesE_zero hc⟩
        have := vtx_iff.1 (List.all_eq_true.1 h3 x hx)
        omega
      · cases hc
theorem Cov.ebd {g h : Gr} {m : Mo} {n k : Nat} (c : Cov g h m n k) : ∀ e ∈ m.e, -1 ≤ e ∧ e < (endsL h.2).length := fun e he => by
  obtain ⟨i, hi, rfl⟩ := List.mem_iff_getElem.1 he
  have := c.st i hi (by rw [← c.el]; exact hi)
  unfold stepE at this
  split at this
  · cases this
  · rename_i h1
    omega
theorem Cov.n12 {g h : Gr} {m : Mo} {n k : Nat} (c : Cov g h m n k) : n ≤ 12 ∧ 1 ≤ n ∧ k ≤ 12 ∧ 1 ≤ k := by
  have h1 := c.gg.n12
  have h2 := c.gg.n1
  have h3 := c.hg.n12
  have h4 := c.hg.n1
  have e1 := c.gn
  have e2 := c.hk
  omega
theorem Cov.up12 {g h : Gr} {m : Mo} {n k : Nat} (c : Cov g h m n k) : ∀ p ∈ endsL g.2, (0 ≤ p.1 ∧ p.1 < 12) ∧ 0 ≤ p.2 ∧ p.2 < 12 := fun p hp => by
  have := ends_in c.gg.right p hp
  have h1 := c.gg.n12
  omega
abbrev harmM (g h : Gr) (m : Mo) : Bool := harmB (endsL g.2) (endsL h.2) m m.v.length
section
variable (g h : Gr) (m : Mo) (hs : Sm g h m)
theorem multsM {g h : Gr} {m : Mo} {n k : Nat} (hs : Sm g h m) (c : Cov g h m n k) :
    PCR Try.prog 51 [covM g h m] fun r HR => HR = [] ∧ if harmM g h m = true then r = .tup [.p (.is (mL (endsL g.2) (endsL h.2) m n n)), .b true] else ∃ x, r = .tup [.p (.sl x), .b false] := by
  have h12 := c.n12
  have l1 := endsL_len9 c.gg.right hs.g
  have l2 := endsL_len9 c.hg.right hs.h
  have := mults_ok n h.1 g.2 h.2 (endsL g.2) (endsL h.2) m (by omega) c.up12 c.el c.vl (by omega) (by omega) (fun e he => by have := c.ebd e he; omega)
  rw [← c.gn] at this
  unfold harmM
  rw [c.vl]
  exact this
theorem check_ok (hs : Sm g h m) : PC Try.prog 60 [GrP g, GrP h, MoP m] (.i (coverE g h m)) [] := by
  refine PC_of_W cfn60 ?_
  simp -implicitDefEqProofs (disch := omega) [c60, List.getElem?_cons_zero, List.getElem?_cons_succ, wrap_id]
  refine HC_of_PC rfl (coverOf_ok g h m hs) ?_
  by_cases hc : coverE g h m = 0
  · simp -implicitDefEqProofs (disch := omega) [List.getElem?_cons_zero, List.getElem?_cons_succ, wrap_id, hc]
    (refine fin0 trivial rfl ?_; simp -implicitDefEqProofs (disch := omega) [List.getElem?_cons_zero, List.getElem?_cons_succ, idx, wrap_id, hc])
  · simp -implicitDefEqProofs (disch := omega) [List.getElem?_cons_zero, List.getElem?_cons_succ, wrap_id, hc]
    (refine fin0 trivial rfl ?_; simp -implicitDefEqProofs (disch := omega) [List.getElem?_cons_zero, List.getElem?_cons_succ, idx, wrap_id, hc])
def harmE (g h : Gr) (m : Mo) : Bool := decide (coverE g h m = 0) && harmM g h m
theorem harmonic_ok (hs : Sm g h m) : PC Try.prog 64 [GrP g, GrP h, MoP m] (.tup [.b (harmE g h m), .i (coverE g h m)]) [] := by
  refine PC_of_W cfn64 ?_
  simp -implicitDefEqProofs (disch := omega) [c64, List.getElem?_cons_zero, List.getElem?_cons_succ, wrap_id]
  refine HC_of_PC rfl (coverOf_ok g h m hs) ?_
  by_cases hc : coverE g h m = 0
  · obtain ⟨n, k, c⟩ := cov_of hc
    simp -implicitDefEqProofs (disch := omega) [List.getElem?_cons_zero, List.getElem?_cons_succ, wrap_id, hc]
    refine HC_of_PCR rfl (multsM hs c) ?_
    rintro r HR ⟨rfl, hr⟩
    cases hh : harmM g h m
    · rw [hh, if_neg (by simp)] at hr
      obtain ⟨x, rfl⟩ := hr
      simp -implicitDefEqProofs (disch := omega) [List.getElem?_cons_zero, List.getElem?_cons_succ, wrap_id]
      (refine fin0 trivial rfl ?_; simp -implicitDefEqProofs (disch := omega) [List.getElem?_cons_zero, List.getElem?_cons_succ, idx, wrap_id, harmE, hc, hh])
    · rw [hh, if_pos rfl] at hr
      subst hr
      simp -implicitDefEqProofs (disch := omega) [List.getElem?_cons_zero, List.getElem?_cons_succ, wrap_id]
      (refine fin0 trivial rfl ?_; simp -implicitDefEqProofs (disch := omega) [List.getElem?_cons_zero, List.getElem?_cons_succ, idx, wrap_id, harmE, hc, hh])
  · simp -implicitDefEqProofs (disch := omega) [List.getElem?_cons_zero, List.getElem?_cons_succ, wrap_id, hc]
    (refine fin0 trivial rfl ?_; simp -implicitDefEqProofs (disch := omega) [List.getElem?_cons_zero, List.getElem?_cons_succ, idx, wrap_id, harmE, hc])
def multE (g h : Gr) (m : Mo) (v : Int) : Int := if coverE g h m ≠ 0 then coverE g h m else if vtx g.1 v = false then 2 else if harmM g h m = false then 15 else 0
def multR (g h : Gr) (m : Mo) (v : Int) : Int := if multE g h m v = 0 then multV (endsL g.2) (endsL h.2) m v.toNat else 0
theorem mL_get (up down : List (Int × Int)) (m : Mo) (n v : Nat) (h : v < n) : (mL up down m n n)[v]'(by simpa [mL] using h) = multV up down m v := by simp [mL, h]
theorem multiplicity_ok (v : Int) (hs : Sm g h m) : PC Try.prog 65 [GrP g, GrP h, MoP m, .i v] (.tup [.i (multR g h m v), .i (multE g h m v)]) [] := by
  refine PC_of_W cfn65 ?_
  simp -implicitDefEqProofs (disch := omega) [c65, List.getElem?_cons_zero, List.getElem?_cons_succ, wrap_id]
  refine HC_of_PC rfl (coverOf_ok g h m hs) ?_
  by_cases hc : coverE g h m = 0
  rotate_left
  · have he : multE g h m v = coverE g h m := by rw [multE, if_pos hc]
    simp -implicitDefEqProofs (disch := omega) [List.getElem?_cons_zero, List.getElem?_cons_succ, wrap_id, hc]
    (refine fin0 trivial rfl ?_; simp -implicitDefEqProofs (disch := omega) [List.getElem?_cons_zero, List.getElem?_cons_succ, idx, wrap_id, multR, he, hc])
  obtain ⟨n, k, c⟩ := cov_of hc
  by_cases h1 : v < 0
  · have he : multE g h m v = 2 := by rw [multE, if_neg (by simp [hc]), if_pos (vtx_not.2 (by omega))]
    simp -implicitDefEqProofs (disch := omega) [List.getElem?_cons_zero, List.getElem?_cons_succ, wrap_id, hc, h1]
    (refine fin0 trivial rfl ?_; simp -implicitDefEqProofs (disch := omega) [List.getElem?_cons_zero, List.getElem?_cons_succ, idx, wrap_id, multR, he])
  by_cases h2 : g.1 ≤ v
  · have he : multE g h m v = 2 := by rw [multE, if_neg (by simp [hc]), if_pos (vtx_not.2 (by omega))]
    simp -implicitDefEqProofs (disch := omega) [List.getElem?_cons_zero, List.getElem?_cons_succ, wrap_id, hc, h1, h2]
    (refine fin0 trivial rfl ?_; simp -implicitDefEqProofs (disch := omega) [List.getElem?_cons_zero, List.getElem?_cons_succ, idx, wrap_id, multR, he])
  have hvt : vtx g.1 v = true := vtx_iff.2 (by omega)
  simp -implicitDefEqProofs (disch := omega) [List.getElem?_cons_zero, List.getElem?_cons_succ, wrap_id, hc, h1, h2]
  refine HC_of_PCR rfl (multsM hs c) ?_
  rintro r HR ⟨rfl, hr⟩
  cases hh : harmM g h m
  · rw [hh, if_neg (by simp)] at hr
    obtain ⟨x, rfl⟩ := hr
    have he : multE g h m v = 15 := by rw [multE, if_neg (by simp [hc]), if_neg (by simp [hvt]), if_pos hh]
    simp -implicitDefEqProofs (disch := omega) [List.getElem?_cons_zero, List.getElem?_cons_succ, wrap_id]
    (refine fin0 trivial rfl ?_; simp -implicitDefEqProofs (disch := omega) [List.getElem?_cons_zero, List.getElem?_cons_succ, idx, wrap_id, multR, he])
  · rw [hh, if_pos rfl] at hr
    subst hr
    have he : multE g h m v = 0 := by rw [multE, if_neg (by simp [hc]), if_neg (by simp [hvt]), if_neg (by simp [hh])]
    have hgn := c.gn
    obtain ⟨u, rfl⟩ : ∃ u : Nat, v = u := ⟨v.toNat, by omega⟩
    have hun : u < n := by omega
    have hml := mL_length (endsL g.2) (endsL h.2) m n n
    have hge := mL_get (endsL g.2) (endsL h.2) m n u hun
    simp -implicitDefEqProofs (disch := omega) [List.getElem?_cons_zero, List.getElem?_cons_succ, wrap_id, hun, hml, hge]
    (refine fin0 trivial rfl ?_; simp -implicitDefEqProofs (disch := omega) [List.getElem?_cons_zero, List.getElem?_cons_succ, idx, wrap_id, multR, he])
end
end Go.Proofs.Ytddgepjmfnodhaa
