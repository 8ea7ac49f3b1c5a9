/-
  Texts joined: Ii Ik.
-/
import Derived.Test.YtekniokkmgencaaGreatKh20

section
set_option linter.unusedSimpArgs false
set_option linter.unusedVariables false
namespace Go.Proofs.YtekniokkmgencaaGreat
open Go.Abs Go.Sand
theorem gtz_ok (k : Int) : PC Tryz.prog 79 [.i k] (.b (decide (0 < k))) [] := by
  refine PC_of_W cfn79 ?_
  simp -implicitDefEqProofs (disch := omega) [c79, List.getElem?_cons_zero, List.getElem?_cons_succ, wrap_id]
  (refine fin0 trivial rfl ?_; simp -implicitDefEqProofs (disch := omega) [List.getElem?_cons_zero, List.getElem?_cons_succ, idx, wrap_id])
theorem call_gtz : callable Tryz.prog 79 = true := by kernel_rfl
section
variable {R : List (List Rl)} {fs : List Int} {m : Nm → Nat} {off : Nat → Nat} {w : WS} {H : List AO} {K : AV → List AO → Prop}
theorem idx_hc {o : Nat} {k : Int} (ho : H[o]? = some (rowQ [k])) (hK : K (.i (if 0 < k then 0 else -1)) H) :
    HC Tryz.prog false 78 [.os o 0 1, .fn (.func 79) [] []] H K := by
  refine HC_of_W (af := _) ((by exact cfn78 : cfn _ _ _ = some _)) ?_
  simp -implicitDefEqProofs (disch := omega) [c78, List.getElem?_cons_zero, List.getElem?_cons_succ, wrap_id, ho]
  refine loopW 1 (fun j s => s = ⟨[(8, .i j), (7, .i 1), (6, .os o 0 1), (0, .os o 0 1), (1, .fn (.func 79) [] [])], H⟩ ∧ (j = 1 → k ≤ 0)) (Wk_keep [8, 7, 6, 0, 1]) ⟨rfl, fun h => by omega⟩ ?_
  rintro j s hj ⟨rfl, hI⟩
  by_cases hlt : j < 1
  · obtain rfl : j = 0 := by omega
    simp -implicitDefEqProofs (disch := omega) [List.getElem?_cons_zero, List.getElem?_cons_succ, wrap_id, ho, call_gtz]
    refine HC_of_PC rfl (gtz_ok k) ?_
    by_cases c : 0 < k
    · rw [if_pos c] at hK
      simp -implicitDefEqProofs (disch := omega) [List.getElem?_cons_zero, List.getElem?_cons_succ, wrap_id, c]
      exact finH trivial rfl hK
    · simp -implicitDefEqProofs (disch := omega) [List.getElem?_cons_zero, List.getElem?_cons_succ, wrap_id, c]
      exact round_keep [8, 7, 6, 0, 1] hlt ⟨rfl, fun _ => by omega⟩
  · obtain rfl : j = 1 := by omega
    rw [if_neg (by have := hI rfl; omega)] at hK
    simp -implicitDefEqProofs (disch := omega) [List.getElem?_cons_zero, List.getElem?_cons_succ, wrap_id]
    exact finH trivial rfl hK
def GoodR (R : List (List Rl)) : Prop := ∀ P ∈ R, GoodPr R.length P
theorem wait_hc' (h : WH R fs m off w H) {o : Nat} (ho : m .W = o) {p : Nat} (hp : p < R.length) (hwl : w.wt.length = R.length) (hb : -1000000000000 ≤ w.wt.getD p 0 ∧ w.wt.getD p 0 ≤ 1000000000000)
    (hK : ∀ H', WH R fs m off (waitS p w) H' → Nxt R.length m H m H' → K (.tup []) H') : HC Tryz.prog false 80 [.ptr o 1 0 0, .i p, .i 0] H K := by
  subst ho
  exact wait_hc h hp hwl hb hK
theorem read_hc (hn12 : R.length ≤ 12) (h : WH R fs m off w H) (hR : GoodR R) {B : Int} (hok : WOk R.length B w) (hB : B ≤ 100000000000) (hq : ∀ k, off k + (lnAt w k).q ≤ 900000) {p : Nat} (hp : p < R.length) (hst : ∀ (h : p < w.st.length), w.st[p] < (R[p]).length) (hcn : 0 ≤ w.cn.getD p 0 ∧ w.cn.getD p 0 ≤ 100000000000)
    (hK : ∀ H' m' off', WH R fs m' off' (readS R p w) H' → (∀ k, off' k + (lnAt (readS R p w) k).q ≤ off k + (lnAt w k).q + 16) → Nxt R.length m H m' H' → WOk R.length (B + 17) (readS R p w) → K (.tup []) H') :
    HC Tryz.prog false 47 [.ptr (m .W) 1 0 0, .i p] H K := by
  have hW := h.at' .W trivial
  have hT := h.at' .Wt trivial
  have hC := h.at' .Cn trivial
  have hS := h.at' .St trivial
  have hr := h.at' (.wr p) hp
  have hc := h.at' (.cr p) hp
  simp only [hpC] at hW hT hC hS hr hc
  have hrg : (List.range R.length)[p]? = some p := List.getElem?_range hp
  obtain ⟨k, hk⟩ : ∃ k, k = w.wt.getD p 0 := ⟨_, rfl⟩
  obtain ⟨c, hcc⟩ : ∃ c, c = w.cn.getD p 0 := ⟨_, rfl⟩
  have hkb := hok.wt p
  rw [← hk] at hr hkb
  rw [← hcc] at hc hcn
  refine HC_of_W (af := _) ((by exact cfn47 : cfn _ _ _ = some _)) ?_
  simp -implicitDefEqProofs (disch := omega) [c47, List.getElem?_cons_zero, List.getElem?_cons_succ, wrap_id, hW, hT, hrg, hp]
  refine idx_hc hr ?_
  by_cases hpos : 0 < k
  rotate_left
  · have hrd : readS R p w = w := by unfold readS; rw [if_neg (by rw [← hk]; exact hpos)]
    rw [hrd] at hK
    rw [if_neg hpos]
    simp -implicitDefEqProofs (disch := omega) [List.getElem?_cons_zero, List.getElem?_cons_succ, wrap_id]
    exact finH trivial rfl (hK _ m off h (fun k => by omega) Nxt.refl (hok.mono (by omega)))
  rw [if_pos hpos]
  have hsl : p < w.st.length := by rw [hok.sl]; exact hp
  have hs := hst hsl
  obtain ⟨sp, hsp⟩ : ∃ sp, sp = w.st[p] := ⟨_, rfl⟩
  rw [← hsp] at hs
  have hSp : (List.map (fun (k : Nat) => PV.i (k : Int)) w.st)[p]? = some (PV.i sp) := by simp [hsl, hsp]
  have q1 : ∀ ob, (H.set (m (.wr p)) ob)[m .W]? = _ := fun ob => (List.getElem?_set_ne (h.ne (x := .wr p) (y := .W) hp trivial (by simp))).trans hW
  have q2 : ∀ ob, (H.set (m (.wr p)) ob)[m .Cn]? = _ := fun ob => (List.getElem?_set_ne (h.ne (x := .wr p) (y := .Cn) hp trivial (by simp))).trans hC
  have q3 : ∀ ob, (H.set (m (.wr p)) ob)[m (.cr p)]? = _ := fun ob => (List.getElem?_set_ne (h.ne (x := .wr p) (y := .cr p) hp hp (by simp))).trans hc
  have q4 : ∀ a b, ((H.set (m (.wr p)) a).set (m (.cr p)) b)[m .W]? = _ := fun a b => (List.getElem?_set_ne (h.ne (x := .cr p) (y := .W) hp trivial (by simp))).trans (q1 a)
  have q5 : ∀ a b, ((H.set (m (.wr p)) a).set (m (.cr p)) b)[m .St]? = _ := fun a b => (List.getElem?_set_ne (h.ne (x := .cr p) (y := .St) hp trivial (by simp))).trans ((List.getElem?_set_ne (h.ne (x := .wr p) (y := .St) hp trivial (by simp))).trans hS)
  have q6 : ∀ a b X, ((H.set (m (.wr p)) a).set (m (.cr p)) b ++ X)[m .W]? = _ := fun a b X => (List.getElem?_append_left (by have := h.lt (x := .W) trivial; simpa using this)).trans (q4 a b)
  have q7 : ∀ a b X, ((H.set (m (.wr p)) a).set (m (.cr p)) b ++ X)[m .St]? = _ := fun a b X => (List.getElem?_append_left (by have := h.lt (x := .St) trivial; simpa using this)).trans (q5 a b)
  have q8 : ∀ a b x, ((H.set (m (.wr p)) a).set (m (.cr p)) b ++ [x])[H.length]? = some x := fun a b x => by rw [List.getElem?_append_right (by simp)]; simp
  have q9 : ∀ a b x y, ((H.set (m (.wr p)) a).set (m (.cr p)) b ++ [x]).set H.length y = (H.set (m (.wr p)) a).set (m (.cr p)) b ++ [y] := fun a b x y => by
    simp
  have q10 : ∀ a b x y, (((H.set (m (.wr p)) a).set (m (.cr p)) b ++ [x]).set (m .St) y)[H.length]? = some x := fun a b x y => (List.getElem?_set_ne (by have := h.lt (x := .St) trivial; omega)).trans (q8 a b x)
  obtain ⟨P, hP⟩ : ∃ P, P = R[p] := ⟨_, rfl⟩
  have hPp : (List.map procP R)[p]? = some (procP P) := by simp [hp, hP]
  rw [← hP] at hs
  obtain ⟨ru, hru⟩ : ∃ ru, ru = P[sp] := ⟨_, rfl⟩
  have hPs : (List.map rrowP P)[sp]? = some (rrowP ru) := by simp [hs, hru]
  have hSL : (R.length = w.st.length) = True := eq_true hok.sl.symm
  simp -implicitDefEqProofs (disch := omega) [List.getElem?_cons_zero, List.getElem?_cons_succ, wrap_id, hW, hT, hrg, hp, hr, hSL, q1, q2, q3, q4, q5, q6, q7, q8, q9, q10, hSp, hsl, hPp, hPs]
  obtain ⟨w1, hw1⟩ : ∃ w1 : WS, w1 = { w with wt := w.wt.set p (k - 1), cn := w.cn.set p (c + 1), st := w.st.set p ru.1 } := ⟨_, rfl⟩
  have hPR : P ∈ R := by rw [hP]; exact List.getElem_mem hp
  have hrP : ru ∈ P := by rw [hru]; exact List.getElem_mem hs
  have hrd : readS R p w = ru.2.foldl (putS R.length p) w1 := by
    have r1 : w.st.getD p 0 = sp := by rw [List.getD_eq_getElem?_getD, List.getElem?_eq_getElem hsl, hsp]; rfl
    have r2 : ruleAt R p sp = ru := by
      unfold ruleAt
      rw [List.getD_eq_getElem?_getD, List.getD_eq_getElem?_getD, List.getElem?_eq_getElem hp, Option.getD_some, ← hP, List.getElem?_eq_getElem hs, Option.getD_some, hru]
    unfold readS
    rw [if_pos (by rw [← hk]; exact hpos), r1, r2, hw1, ← hk, ← hcc]
  have hg : GoodRl R.length P.length ru := (hR P hPR).2.2 ru hrP
  have hwst : ∀ X, WH R fs m off w1 (((H.set (m (.wr p)) (rowQ [k - 1])).set (m (.cr p)) (rowQ [c + 1]) ++ X).set (m .St) (.row ((List.map (fun (k : Nat) => PV.i (k : Int)) w.st).set p (PV.i ru.1)) 1 3 false)) := by
    intro X
    have s1 : WH R fs m off { w with wt := w.wt.set p (k - 1) } (H.set (m (.wr p)) (rowQ [k - 1])) := WH.set h (x := .wr p) hp (by
      simp only [hpC]
      rw [getW_set _ _ _ _ _ (by rw [hok.wl]; exact hp), if_pos rfl]) (fun y hy hn => by
      cases y with
      | wr q =>
        simp only [hpC]
        rw [getW_set _ _ _ _ _ (by rw [hok.wl]; exact hp), if_neg (fun e => hn (by rw [e]))]
      | _ => rfl)
    have s2 : WH R fs m off { w with wt := w.wt.set p (k - 1), cn := w.cn.set p (c + 1) } ((H.set (m (.wr p)) (rowQ [k - 1])).set (m (.cr p)) (rowQ [c + 1])) := WH.set s1 (x := .cr p) hp (by
      simp only [hpC]
      rw [getW_set _ _ _ _ _ (by rw [hok.cl]; exact hp), if_pos rfl]) (fun y hy hn => by
      cases y with
      | cr q =>
        simp only [hpC]
        rw [getW_set _ _ _ _ _ (by rw [hok.cl]; exact hp), if_neg (fun e => hn (by rw [e]))]
      | _ => rfl)
    rw [hw1]
    exact WH.set (s2.app X) (x := .St) trivial (by simp only [hpC, List.map_set]) (fun y hy hn => by
      cases y with
      | St => exact absurd rfl hn
      | _ => rfl)
  have hok1 : WOk R.length (B + 1) w1 := by
    have hm := hok.mono (B' := B + 1) (by omega)
    rw [hw1]
    refine ⟨hm.ll, by simp [hm.wl], by simp [hm.cl], by simp [hm.sl], hm.to, hm.pk, hm.sent, hm.acc, hm.rem, fun i => ?_, hm.snt⟩
    dsimp only
    rw [getW_set _ _ _ _ _ (by rw [hok.wl]; exact hp)]
    split
    · omega
    · exact hm.wt i
  obtain ⟨g1, g2, g3⟩ := hg
  refine loopW ru.2.length (fun j s => ∃ H' m' off', s = ⟨[(79, .i j), (78, .i ru.2.length), (77, .p (.sl (ru.2.map outP))), (0, .ptr (m .W) 1 0 0), (1, .i p)], H'⟩ ∧ WH R fs m' off' ((ru.2.take j).foldl (putS R.length p) w1) H' ∧ Nxt R.length m H m' H' ∧
    WOk R.length (B + 1 + j) ((ru.2.take j).foldl (putS R.length p) w1) ∧ ∀ i, off' i + (lnAt ((ru.2.take j).foldl (putS R.length p) w1) i).q ≤ off i + (lnAt w i).q + j) (Wk_keep [79, 78, 77, 0, 1]) ?_ ?_
  · refine ⟨_, m, off, rfl, hwst _, ?_, by simpa using hok1, fun i => ?_⟩
    · exact (((Nxt.set (.wr p) hp _).trans (Nxt.set (.cr p) hp _)).trans (Nxt.app _)).trans (Nxt.set .St trivial _)
    · rw [hw1]; exact Nat.le_refl _
  rintro j s hj ⟨H', m', off', rfl, hw, hn, hok2, hq2⟩
  by_cases hlj : j < ru.2.length
  rotate_left
  · obtain rfl : j = ru.2.length := by omega
    rw [List.take_of_length_le (Nat.le_refl _), ← hrd] at hw hq2 hok2
    simp -implicitDefEqProofs (disch := omega) [List.getElem?_cons_zero, List.getElem?_cons_succ, wrap_id, hlj]
    exact finH trivial rfl (hK _ _ _ hw (fun i => by have := hq2 i; omega) hn (hok2.mono (by omega)))
  obtain ⟨t, ht⟩ : ∃ t, t = ru.2[j] := ⟨_, rfl⟩
  have htn : t < R.length := by rw [ht]; exact g3 _ (List.getElem_mem hlj)
  have hLt : (List.map outP ru.2)[j]? = some (outP t) := by simp [hlj, ht]
  obtain ⟨wj, hwj⟩ : ∃ wj, wj = (ru.2.take j).foldl (putS R.length p) w1 := ⟨_, rfl⟩
  have hnx : (ru.2.take (j + 1)).foldl (putS R.length p) w1 = putS R.length p wj t := by
    rw [← List.take_append_getElem hlj, List.foldl_append, ← hwj, ← ht]; rfl
  rw [← hwj] at hw hok2 hq2
  have hWm := hn.fix .W trivial
  have hW2 := hw.at' .W trivial
  have hL2 := hw.at' .Ln trivial
  simp only [hpC] at hW2 hL2
  rw [hWm] at hW2
  have a1 : ∀ X, (H' ++ X)[m .W]? = _ := fun X => (List.getElem?_append_left (by rw [← hWm]; exact hw.lt (x := .W) trivial)).trans hW2
  have a2 : ∀ X, (H' ++ X)[m' .Ln]? = _ := fun X => (List.getElem?_append_left (hw.lt (x := .Ln) trivial)).trans hL2
  have a5 : ∀ b X, (H' ++ b :: X)[H'.length]? = some b := fun b X => by rw [List.getElem?_append_right (Nat.le_refl _)]; simp
  by_cases e : t = p
  · subst e
    simp -implicitDefEqProofs (disch := omega) [List.getElem?_cons_zero, List.getElem?_cons_succ, wrap_id, hlj, hLt, a1, a5, set_last]
    refine wait_hc' (m := m') (w := wj) (hw.app _) hWm htn hok2.wl (by have := hok2.wt t; omega) ?_
    intro H3 hw3 hn3
    simp -implicitDefEqProofs (disch := omega) [List.getElem?_cons_zero, List.getElem?_cons_succ, wrap_id]
    refine round_keep [79, 78, 77, 0, 1] hlj ?_
    rw [hnx]
    have e1 : putS R.length t wj t = waitS t wj := by unfold putS; rw [if_pos rfl]
    rw [e1]
    refine ⟨_, rfl, m', off', hw3, (hn.trans (Nxt.app _)).trans hn3, (hok2.wait t htn).mono (by omega), fun i => ?_⟩
    have := hq2 i
    show off' i + (lnAt wj i).q ≤ _
    omega
  · have e1 : putS R.length p wj t = enqS (p * R.length + t) wj := by unfold putS; rw [if_neg e]; rfl
    obtain ⟨z, hz⟩ : ∃ z, z = p * R.length + t := ⟨_, rfl⟩
    have hzn : z < R.length * R.length := by
      have : (p + 1) * R.length ≤ R.length * R.length := Nat.mul_le_mul_right _ hp
      rw [Nat.succ_mul] at this
      omega
    have hzi : (p : Int) * R.length + t = (z : Int) := by rw [hz]; push_cast; rfl
    have hpn0 : 0 ≤ (p : Int) * R.length := by rw [← Int.natCast_mul]; omega
    have hpn1 : (p : Int) * R.length ≤ 1000 := by
      have : p * R.length ≤ 12 * 12 := Nat.mul_le_mul (by omega) hn12
      rw [← Int.natCast_mul]; omega
    have hrz : (List.range (R.length * R.length))[z]? = some z := List.getElem?_range hzn
    have hei : ¬ (t : Int) = p := by omega
    obtain ⟨l, hl⟩ : ∃ l, l = lnAt wj z := ⟨_, rfl⟩
    obtain ⟨o, ho⟩ : ∃ o, o = off' z := ⟨_, rfl⟩
    have hB2 := hw.at' (.lb z) hzn
    have hQ2 := hw.at' (.qr z) hzn
    simp only [hpC, ← hl, ← ho] at hB2 hQ2
    have a3 : ∀ X, (H' ++ X)[m' (.lb z)]? = _ := fun X => (List.getElem?_append_left (hw.lt (x := .lb z) hzn)).trans hB2
    have a4 : ∀ X, (H' ++ X)[m' (.qr z)]? = _ := fun X => (List.getElem?_append_left (hw.lt (x := .qr z) hzn)).trans hQ2
    have a6 : ∀ b c, (H' ++ [b, c])[H'.length + 1]? = some c := fun b c => by rw [List.getElem?_append_right (by omega)]; simp
    have nqb := hw.ne (x := .qr z) (y := .lb z) hzn hzn (by simp)
    have a7 : ∀ X y, ((H' ++ X).set (m' (.qr z)) y)[m' (.lb z)]? = _ := fun X y => (List.getElem?_set_ne nqb).trans (a3 X)
    have a8 : ∀ X y, ((H' ++ X).set (m' (.qr z)) y)[m' (.qr z)]? = some y := fun X y => List.getElem?_set_self (by have := hw.lt (x := .qr z) hzn; simp; omega)
    have a10 : ∀ b c d, (H' ++ [b, c, d])[H'.length + 2]? = some d := fun b c d => by rw [List.getElem?_append_right (by omega)]; simp
    have hqz := hq2 z
    have hqz2 := hq z
    rw [← hl, ← ho] at hqz
    have hok3 : WOk R.length (B + 1 + ((j + 1 : Nat) : Int)) (enqS z wj) := by
      have hr := hok2.rem z
      rw [← hl] at hr
      refine WOk.line (k := z) (hok2.mono (by omega)) hzn (enqL (lnAt wj z)) (by rw [← hl]; exact hl ▸ hok2.to z hzn) ?_ ?_ (hok2.snt z)
      · have := hok2.acc z
        simp only [enqL]; omega
      · rw [← hl]
        simp only [enqL]; omega
    have hq3 : ∀ (f : Nat → Nat), (∀ i, ¬ i = z → f i = off' i) → f z ≤ off' z → ∀ i, f i + (lnAt (enqS z wj) i).q ≤ off i + (lnAt w i).q + (j + 1) := fun f hf hfz i => by
      have := hq2 i
      rw [enqS, lnAt_set (by rw [hok2.ll]; exact hzn)]
      by_cases c : i = z
      · rw [if_pos c, c]; rw [c] at this; simp only [enqL]; omega
      · rw [if_neg c, hf i c]; omega
    have hrow : ∀ n, rowQ (List.replicate n 0 ++ [0]) = AO.row (List.replicate n (PV.i 0) ++ [PV.i 0]) 1 3 false := fun n => by simp [rowQ]
    by_cases c0 : o = 0
    · have b9 : l.q ≤ 1048575 := by omega
      rw [c0] at a3 a4 a7
      rw [Nat.zero_add] at a4
      have hwq := WH.enq (hw.app [AO.box (AV.p (outP t)), AO.row [PV.i 0] 1 3 false]) hzn hok2.ll
      rw [← hl, ← ho, c0] at hwq
      rw [Nat.zero_add, hrow] at hwq
      simp -implicitDefEqProofs (disch := omega) [List.getElem?_cons_zero, List.getElem?_cons_succ, wrap_id, hlj, hLt, a1, a2, a3, a4, a5, a6, set_last, hei, hzi, hrz, hzn, b9, a7, a8, a10]
      refine round_keep [79, 78, 77, 0, 1] hlj ?_
      rw [hnx, e1, ← hz]
      refine ⟨_, rfl, m', off', hwq, ((hn.trans (Nxt.app _)).setM (.qr z) hzn _).setM (.lb z) hzn _, hok3, hq3 off' (fun _ _ => rfl) (Nat.le_refl _)⟩
    · have b9 : o + l.q + 1 ≤ 1048576 := by omega
      have b10 : (o + (l.q + 1) = o + l.q + 1) = True := eq_true (by omega)
      have hwq := WH.enq (hw.app [AO.box (AV.p (outP t)), AO.row [PV.i 0] 1 3 false]) hzn hok2.ll
      rw [← hl, ← ho] at hwq
      rw [hrow] at hwq
      simp -implicitDefEqProofs (disch := omega) [List.getElem?_cons_zero, List.getElem?_cons_succ, wrap_id, hlj, hLt, a1, a2, a3, a4, a5, a6, set_last, hei, hzi, hrz, hzn, c0, appQP, b9, b10, a7, a8, a10]
      constructor
      · refine round_keep [79, 78, 77, 0, 1] hlj ?_
        rw [hnx, e1, ← hz]
        refine ⟨_, rfl, m', off', hwq, ((hn.trans (Nxt.app _)).setM (.qr z) hzn _).setM (.lb z) hzn _, hok3, hq3 off' (fun _ _ => rfl) (Nat.le_refl _)⟩
      · have hwn := WH.enqN (hw.app [AO.box (AV.p (outP t)), AO.row [PV.i 0] 1 3 false, AO.row (List.replicate l.q (PV.i 0) ++ [PV.i 0]) 1 3 false]) hzn hok2.ll (o := H'.length + 2) (by rw [← hl, hrow]; exact a10 _ _ _) (fun x hx => by have := hw.lt hx; omega)
        rw [← hl] at hwn
        refine round_keep [79, 78, 77, 0, 1] hlj ?_
        rw [hnx, e1, ← hz]
        refine ⟨_, rfl, mvQ m' z (H'.length + 2), _, hwn, ((hn.trans (Nxt.app _)).setM (.lb z) hzn _).mvQ (by have := hn.len; omega), hok3, hq3 _ (fun i hi => if_neg hi) (by rw [if_pos rfl]; omega)⟩
end
end Go.Proofs.YtekniokkmgencaaGreat
end
section
set_option linter.unusedSimpArgs false
set_option linter.unusedVariables false
namespace Go.Proofs.YtekniokkmgencaaGreat
open Go.Abs Go.Sand
structure SOk (R : List (List Rl)) (B : Int) (w : WS) : Prop where
  st : ∀ p (h : p < R.length) (h2 : p < w.st.length), w.st[p] < (R[p]).length
  cn : ∀ p, 0 ≤ w.cn.getD p 0 ∧ w.cn.getD p 0 ≤ B
theorem SOk.of {R : List (List Rl)} {B B' : Int} {w w' : WS} (h : SOk R B w) (hb : B ≤ B') (h1 : w'.st = w.st) (h2 : w'.cn = w.cn) : SOk R B' w' :=
  ⟨fun p hp hp2 => by simp only [h1] at hp2 ⊢; exact h.st p hp hp2, fun p => by rw [h2]; exact ⟨(h.cn p).1, by have := (h.cn p).2; omega⟩⟩
theorem handle_keep (fs : List Int) (p : Pk) (w : WS) : (handleS fs p w).st = w.st ∧ (handleS fs p w).cn = w.cn := by
  unfold handleS
  split
  · exact ⟨rfl, rfl⟩
  · dsimp only
    split <;> exact ⟨rfl, rfl⟩
theorem fold_keep (fs : List Int) : ∀ (l : List (Pk × Int)) (w : WS), (l.foldl (fun w x => handleS fs x.1 w) w).st = w.st ∧ (l.foldl (fun w x => handleS fs x.1 w) w).cn = w.cn
  | [], w => ⟨rfl, rfl⟩
  | x :: l, w => by
    have h1 := handle_keep fs x.1 w
    have h2 := fold_keep fs l (handleS fs x.1 w)
    exact ⟨h2.1.trans h1.1, h2.2.trans h1.2⟩
theorem arrive_keep (fs : List Int) (w : WS) : (arriveS fs w).st = w.st ∧ (arriveS fs w).cn = w.cn := fold_keep fs _ _
theorem puts_keep (n p : Nat) : ∀ (l : List Nat) (w : WS), (l.foldl (putS n p) w).st = w.st ∧ (l.foldl (putS n p) w).cn = w.cn ∧ (l.foldl (putS n p) w).fl = w.fl ∧ (l.foldl (putS n p) w).tk = w.tk
  | [], w => ⟨rfl, rfl, rfl, rfl⟩
  | t :: l, w => by
    have h1 : (putS n p w t).st = w.st ∧ (putS n p w t).cn = w.cn ∧ (putS n p w t).fl = w.fl ∧ (putS n p w t).tk = w.tk := by
      unfold putS
      split <;> exact ⟨rfl, rfl, rfl, rfl⟩
    have h2 := puts_keep n p l (putS n p w t)
    exact ⟨h2.1.trans h1.1, h2.2.1.trans h1.2.1, h2.2.2.1.trans h1.2.2.1, h2.2.2.2.trans h1.2.2.2⟩
theorem read_keep (R : List (List Rl)) (p : Nat) (w : WS) : (readS R p w).fl = w.fl ∧ (readS R p w).tk = w.tk := by
  unfold readS
  split
  · exact ⟨(puts_keep R.length p _ _).2.2.1, (puts_keep R.length p _ _).2.2.2⟩
  · exact ⟨rfl, rfl⟩
theorem SOk.read {R : List (List Rl)} {B B' : Int} {w : WS} (hR : GoodR R) (hok : WOk R.length B' w) (h : SOk R B w) {p : Nat} (hp : p < R.length) : SOk R (B + 1) (readS R p w) := by
  unfold readS
  split
  · refine SOk.of (B := B + 1) (w := { w with wt := w.wt.set p (w.wt.getD p 0 - 1), cn := w.cn.set p (w.cn.getD p 0 + 1), st := w.st.set p (ruleAt R p (w.st.getD p 0)).1 }) ⟨fun i hi hi2 => ?_, fun i => ?_⟩ (by omega) (puts_keep R.length p _ _).1 (puts_keep R.length p _ _).2.1
    · dsimp only at hi2 ⊢
      rw [List.getElem_set]
      split
      · rename_i e
        subst e
        have hsl : p < w.st.length := by rw [hok.sl]; exact hp
        have hs := h.st p hp hsl
        have r1 : w.st.getD p 0 = w.st[p] := by rw [List.getD_eq_getElem?_getD, List.getElem?_eq_getElem hsl]; rfl
        have r2 : ruleAt R p w.st[p] = (R[p])[w.st[p]] := by
          unfold ruleAt
          rw [List.getD_eq_getElem?_getD, List.getD_eq_getElem?_getD, List.getElem?_eq_getElem hp, Option.getD_some, List.getElem?_eq_getElem hs, Option.getD_some]
        rw [r1, r2]
        exact ((hR _ (List.getElem_mem hp)).2.2 _ (List.getElem_mem hs)).1
      · exact h.st i hi (by simpa using hi2)
    · dsimp only
      rw [getW_set _ _ _ _ _ (by rw [hok.cl]; exact hp)]
      split
      · have := h.cn p; omega
      · have := h.cn i; omega
  · exact h.of (by omega) rfl rfl
section
variable {R : List (List Rl)} {fs : List Int} {m : Nm → Nat} {off : Nat → Nat} {w : WS} {H : List AO} {K : AV → List AO → Prop}
theorem arrive_hc' (h : WH R fs m off w H) {o : Nat} (ho : m .W = o) {B : Int} (hok : WOk R.length B w) (hB : B ≤ 100000000000) (hphi : phi w.fl ≤ 1000000) (hq : ∀ k, off k + (lnAt w k).q ≤ 1000000)
    (hfs : fs.length ≤ 4096) (hf : ∀ f ∈ fs, 0 ≤ f ∧ f ≤ 3) (ht : 0 ≤ w.tk ∧ w.tk ≤ 1000000)
    (hK : ∀ H' m' off', WH R fs m' off' (arriveS fs w) H' → (∀ k, off' k + (lnAt (arriveS fs w) k).q = off k + (lnAt w k).q) → Nxt R.length m H m' H' → WOk R.length (B + 3000000) (arriveS fs w) → phi (arriveS fs w).fl ≤ phi w.fl → (arriveS fs w).tk = w.tk → K (.tup []) H') :
    HC Tryz.prog false 46 [.ptr o 1 0 0] H K := by
  subst ho
  exact arrive_hc h hok hB hphi hq hfs hf ht hK
theorem read_hc' (hn12 : R.length ≤ 12) (h : WH R fs m off w H) {o : Nat} (ho : m .W = o) (hR : GoodR R) {B : Int} (hok : WOk R.length B w) (hB : B ≤ 100000000000) (hq : ∀ k, off k + (lnAt w k).q ≤ 900000) {p : Nat} (hp : p < R.length) (hso : SOk R B w)
    (hK : ∀ H' m' off', WH R fs m' off' (readS R p w) H' → (∀ k, off' k + (lnAt (readS R p w) k).q ≤ off k + (lnAt w k).q + 16) → Nxt R.length m H m' H' → WOk R.length (B + 17) (readS R p w) → K (.tup []) H') :
    HC Tryz.prog false 47 [.ptr o 1 0 0, .i p] H K := by
  subst ho
  exact read_hc hn12 h hR hok hB hq hp (fun h2 => hso.st p hp h2) (by have := hso.cn p; omega) hK
theorem send_hc' (h : WH R fs m off w H) {o : Nat} (ho : m .W = o) (pk : Pk) (hfs : fs.length ≤ 4096) (hf : ∀ f ∈ fs, 0 ≤ f ∧ f ≤ 3) (hs : 0 ≤ w.sent ∧ w.sent ≤ 1000000000000) (ht : 0 ≤ w.tk ∧ w.tk ≤ 1000000) (hfl : w.fl.length ≤ 1000000)
    (hK : ∀ H', WH R fs m off (sendS fs pk w) H' → Nxt R.length m H m H' → K (.tup []) H') :
    HC Tryz.prog false 48 [.ptr o 1 0 0, pkI m pk] H K := by
  subst ho
  exact send_hc h pk hfs hf hs ht hfl hK
theorem tick_hc (hn12 : R.length ≤ 12) (h : WH R fs m off w H) (hR : GoodR R) {B : Int} (hok : WOk R.length B w) (hso : SOk R B w) (hB : B ≤ 90000000000) (hphi : phi w.fl ≤ 900000) (hq : ∀ k, off k + (lnAt w k).q ≤ 800000)
    (hfs : fs.length ≤ 4096) (hf : ∀ f ∈ fs, 0 ≤ f ∧ f ≤ 3) (ht : 0 ≤ w.tk ∧ w.tk ≤ 900000)
    (hK : ∀ H' m' off', WH R fs m' off' (tickS R fs w) H' → (∀ k, off' k + (lnAt (tickS R fs w) k).q ≤ off k + (lnAt w k).q + 192) → Nxt R.length m H m' H' → WOk R.length (B + 3001000) (tickS R fs w) → SOk R (B + 3001000) (tickS R fs w) → phi (tickS R fs w).fl ≤ phi w.fl + 6 * (R.length * R.length) → (tickS R fs w).tk = w.tk + 1 → K (.tup []) H') :
    HC Tryz.prog false 28 [.ptr (m .W) 1 0 0] H K := by
  have hW := h.at' .W trivial
  simp only [hpC] at hW
  obtain ⟨w0, hw0⟩ : ∃ w0 : WS, w0 = { w with tk := w.tk + 1 } := ⟨_, rfl⟩
  have h0 : WH R fs m off w0 (H.set (m .W) (.box (wiA R fs m w.fl.length (w.tk + 1) w.sent w.large))) := by
    rw [hw0]
    exact WH.set h (x := .W) trivial rfl (fun y hy hn => by
      cases y with
      | W => exact absurd rfl hn
      | _ => rfl)
  have hok0 : WOk R.length B w0 := by rw [hw0]; exact ⟨hok.ll, hok.wl, hok.cl, hok.sl, hok.to, hok.pk, hok.sent, hok.acc, hok.rem, hok.wt, hok.snt⟩
  have hln0 : ∀ k, lnAt w0 k = lnAt w k := fun k => by rw [hw0]; rfl
  refine HC_of_W (af := _) ((by exact cfn28 : cfn _ _ _ = some _)) ?_
  simp -implicitDefEqProofs (disch := omega) [c28, List.getElem?_cons_zero, List.getElem?_cons_succ, wrap_id, hW]
  refine arrive_hc' (m := m) h0 rfl hok0 (by omega) (by rw [hw0]; dsimp only; omega) (fun k => by rw [hln0]; have := hq k; omega) hfs hf (by rw [hw0]; dsimp only; omega) ?_
  intro H1 m1 off1 hw1 hq1 hn1 hok1 hph1 htk1
  obtain ⟨w1, hw1d⟩ : ∃ w1, w1 = arriveS fs w0 := ⟨_, rfl⟩
  rw [← hw1d] at hw1 hq1 hok1 hph1 htk1
  have hW1 := hw1.at' .W trivial
  simp only [hpC] at hW1
  have e1 : m1 .W = m .W := hn1.fix .W trivial
  rw [e1] at hW1
  simp -implicitDefEqProofs (disch := omega) [List.getElem?_cons_zero, List.getElem?_cons_succ, wrap_id, hW1]
  have hk1 := arrive_keep fs w0
  rw [← hw1d] at hk1
  have hso1 : SOk R B w1 := hso.of (Int.le_refl _) (by rw [hk1.1, hw0]) (by rw [hk1.2, hw0])
  have hsx : ∀ j, (List.range (j + 1)).foldl (fun w p => readS R p w) w1 = readS R j ((List.range j).foldl (fun w p => readS R p w) w1) := fun j => by rw [List.range_succ, List.foldl_append]; rfl
  refine loopW R.length (fun j s => ∃ H' m' off', s = ⟨[(20, .i j), (19, .i R.length), (0, .ptr (m .W) 1 0 0)], H'⟩ ∧ WH R fs m' off' ((List.range j).foldl (fun w p => readS R p w) w1) H' ∧ Nxt R.length m H m' H' ∧ WOk R.length (B + 3000000 + 17 * j) ((List.range j).foldl (fun w p => readS R p w) w1) ∧
    SOk R (B + 3000000 + j) ((List.range j).foldl (fun w p => readS R p w) w1) ∧ (∀ i, off' i + (lnAt ((List.range j).foldl (fun w p => readS R p w) w1) i).q ≤ off i + (lnAt w i).q + 16 * j) ∧
    ((List.range j).foldl (fun w p => readS R p w) w1).fl = w1.fl ∧ ((List.range j).foldl (fun w p => readS R p w) w1).tk = w1.tk) (Wk_keep [20, 19, 0]) ?_ ?_
  · exact ⟨H1, m1, off1, rfl, hw1, (Nxt.set .W trivial _).trans hn1, by simpa using hok1, hso1.of (by omega) rfl rfl, fun i => by have := hq1 i; rw [hln0] at this; simpa using Nat.le_of_eq this, rfl, rfl⟩
  rintro j s hj ⟨H2, m2, off2, rfl, hw2, hn2, hok2, hso2, hq2, hfl2, htk2⟩
  obtain ⟨w2, hw2d⟩ : ∃ w2, w2 = (List.range j).foldl (fun w p => readS R p w) w1 := ⟨_, rfl⟩
  rw [← hw2d] at hw2 hok2 hso2 hq2 hfl2 htk2
  have e2 : m2 .W = m .W := hn2.fix .W trivial
  by_cases hlj : j < R.length
  · simp -implicitDefEqProofs (disch := omega) [List.getElem?_cons_zero, List.getElem?_cons_succ, wrap_id, hlj]
    refine read_hc' hn12 hw2 e2 hR (hok2.mono (B' := B + 3000000 + 17 * j) (by omega)) (by omega) (fun i => by have := hq2 i; have := hq i; omega) hlj (hso2.of (by omega) rfl rfl) ?_
    intro H3 m3 off3 hw3 hq3 hn3 hok3
    simp -implicitDefEqProofs (disch := omega) [List.getElem?_cons_zero, List.getElem?_cons_succ, wrap_id]
    refine round_keep [20, 19, 0] hlj ?_
    have hr := read_keep R j w2
    rw [hsx, ← hw2d]
    exact ⟨H3, rfl, m3, off3, hw3, hn2.trans hn3, hok3.mono (by omega), (SOk.read hR hok2 hso2 hlj).of (by omega) rfl rfl, fun i => by have := hq3 i; have := hq2 i; omega, hr.1.trans hfl2, hr.2.trans htk2⟩
  obtain rfl : j = R.length := by omega
  have hW2 := hw2.at' .W trivial
  have hL2 := hw2.at' .Ln trivial
  simp only [hpC] at hW2 hL2
  rw [e2] at hW2
  simp -implicitDefEqProofs (disch := omega) [List.getElem?_cons_zero, List.getElem?_cons_succ, wrap_id, hlj, hW2, hL2]
  have hpx : ∀ k, (List.range (k + 1)).foldl (pushS fs) w2 = pushS fs ((List.range k).foldl (pushS fs) w2) k := fun k => by rw [List.range_succ, List.foldl_append]; rfl
  refine loopW (R.length * R.length) (fun k s => ∃ H', s = ⟨[(32, .i k), (31, .i (R.length * R.length : Nat)), (30, .os (m2 .Ln) 0 (R.length * R.length)), (0, .ptr (m .W) 1 0 0)], H'⟩ ∧ WH R fs m2 off2 ((List.range k).foldl (pushS fs) w2) H' ∧ Nxt R.length m H m2 H' ∧ WOk R.length (B + 3000000 + 204 + k) ((List.range k).foldl (pushS fs) w2) ∧
    SOk R (B + 3000000 + 12) ((List.range k).foldl (pushS fs) w2) ∧ (∀ i, (lnAt ((List.range k).foldl (pushS fs) w2) i).q = (lnAt w2 i).q) ∧ phi ((List.range k).foldl (pushS fs) w2).fl ≤ phi w2.fl + 6 * k ∧ ((List.range k).foldl (pushS fs) w2).tk = w2.tk) (Wk_keep [32, 31, 30, 0]) ?_ ?_
  · exact ⟨H2, by simp [Abs.get], hw2, hn2, hok2.mono (by omega), hso2.of (by omega) rfl rfl, fun _ => rfl, by simp, rfl⟩
  have hnn : R.length * R.length ≤ 144 := Nat.mul_le_mul hn12 hn12
  rintro k s hk ⟨H3, rfl, hw3, hn3, hok3, hso3, hq3, hph3, htk3⟩
  obtain ⟨w3, hw3d⟩ : ∃ w3, w3 = (List.range k).foldl (pushS fs) w2 := ⟨_, rfl⟩
  rw [← hw3d] at hw3 hok3 hso3 hq3 hph3 htk3
  by_cases hlk : k < R.length * R.length
  · have hW3 := hw3.at' .W trivial
    have hL3 := hw3.at' .Ln trivial
    have hB3 := hw3.at' (.lb k) hlk
    have hQ3 := hw3.at' (.qr k) hlk
    obtain ⟨l, hl⟩ : ∃ l, l = lnAt w3 k := ⟨_, rfl⟩
    simp only [hpC, ← hl] at hW3 hL3 hB3 hQ3
    rw [e2] at hW3
    have hrz : (List.range (R.length * R.length))[k]? = some k := List.getElem?_range hlk
    have hlkI : (k : Int) < (R.length : Int) * R.length := by rw [← Int.natCast_mul]; omega
    have hrm := hok3.rem k
    have hsn := hok3.snt k
    have hst3 := hok3.sent
    rw [← hl] at hrm hsn
    have htk : w3.tk = w.tk + 1 := by rw [htk3, htk2, htk1, hw0]
    have hfl3 : w3.fl.length ≤ 1000000 := by
      have := phi_len w3.fl
      have h2 : phi w2.fl ≤ phi w.fl := by rw [hfl2]; rw [hw0] at hph1; exact hph1
      omega
    by_cases c1 : 0 < l.q
    rotate_left
    · have hpu : pushS fs w3 k = w3 := by unfold pushS; rw [if_neg (by rw [← hl]; exact fun h => c1 h.1)]
      simp -implicitDefEqProofs (disch := omega) [List.getElem?_cons_zero, List.getElem?_cons_succ, wrap_id, hlk, hlkI, hW3, hL3, hB3, hQ3, hrz, c1]
      refine round_keep [32, 31, 30, 0] hlk ?_
      rw [hpx, ← hw3d, hpu]
      exact ⟨_, by simp [Abs.get], hw3, hn3, hok3.mono (by omega), hso3, hq3, by omega, htk3⟩
    by_cases c2 : l.snt = 0
    · have hpc : 0 < (lnAt w3 k).q ∧ ((lnAt w3 k).snt = 0 ∨ 4 ≤ w3.tk - (lnAt w3 k).snt) := ⟨by rw [← hl]; exact c1, .inl (by rw [← hl]; exact c2)⟩
      simp -implicitDefEqProofs (disch := omega) [List.getElem?_cons_zero, List.getElem?_cons_succ, wrap_id, hlk, hlkI, hW3, hL3, hB3, hQ3, hrz, c1, c2]
      refine send_hc' (m := m2) (w := w3) hw3 e2 ⟨false, k, l.rem + 1⟩ hfs hf (by omega) (by omega) hfl3 ?_
      intro H4 hw4 hn4
      obtain ⟨w4, hw4d⟩ : ∃ w4, w4 = sendS fs ⟨false, k, l.rem + 1⟩ w3 := ⟨_, rfl⟩
      have hph4 := phi_send fs ⟨false, k, l.rem + 1⟩ w3
      have hok4 := hok3.send fs ⟨false, k, l.rem + 1⟩ hlk
      rw [← hw4d] at hw4 hph4 hok4
      have hln4 : ∀ i, lnAt w4 i = lnAt w3 i := fun i => by rw [hw4d]; rfl
      have htk4 : w4.tk = w3.tk := by rw [hw4d]; rfl
      have hB4 := hw4.at' (.lb k) hlk
      have hW4 := hw4.at' .W trivial
      simp only [hpC, hln4, ← hl] at hB4 hW4
      rw [e2] at hW4
      simp -implicitDefEqProofs (disch := omega) [List.getElem?_cons_zero, List.getElem?_cons_succ, wrap_id, hW4, hB4]
      refine round_keep [32, 31, 30, 0] hlk ?_
      have hpu : pushS fs w3 k = { w4 with ln := w4.ln.set k { l with snt := w4.tk } } := by
        unfold pushS
        rw [if_pos hpc]
        simp only [← hl, ← hw4d, hln4]
      have hli := hw4.line hlk hok4.ll { l with snt := w4.tk } (off2 k) (by rw [hln4, ← hl])
      have ho : (fun i => if i = k then off2 k else off2 i) = off2 := by
        funext i
        by_cases e : i = k
        · rw [if_pos e, e]
        · rw [if_neg e]
      rw [ho] at hli
      rw [hpx, ← hw3d, hpu]
      have hac := hok4.acc k
      rw [hln4, ← hl] at hac
      refine ⟨_, by simp [Abs.get], hli, (hn3.trans hn4).setM (.lb k) hlk _, (hok4.line hlk { l with snt := w4.tk } (by rw [hl]; exact hok3.to k hlk) ⟨hac.1, by have := hac.2; dsimp only; omega⟩ ⟨hrm.1, by have := hrm.2; dsimp only; omega⟩ (by dsimp only; omega)).mono (by omega), hso3.of (Int.le_refl _) (by rw [hw4d]; rfl) (by rw [hw4d]; rfl), fun i => ?_, ?_, htk4.trans htk3⟩
      · rw [lnAt_set (by rw [hok4.ll]; exact hlk)]
        by_cases e : i = k
        · rw [if_pos e, e, ← hq3, ← hl]
        · rw [if_neg e, hln4, hq3]
      · simp only [Bool.false_eq_true, if_false] at hph4
        dsimp only
        omega
    by_cases c3 : 4 ≤ w3.tk - l.snt
    · have hpc : 0 < (lnAt w3 k).q ∧ ((lnAt w3 k).snt = 0 ∨ 4 ≤ w3.tk - (lnAt w3 k).snt) := ⟨by rw [← hl]; exact c1, .inr (by rw [← hl]; exact c3)⟩
      simp -implicitDefEqProofs (disch := omega) [List.getElem?_cons_zero, List.getElem?_cons_succ, wrap_id, hlk, hlkI, hW3, hL3, hB3, hQ3, hrz, c1, c2, c3]
      refine send_hc' (m := m2) (w := w3) hw3 e2 ⟨false, k, l.rem + 1⟩ hfs hf (by omega) (by omega) hfl3 ?_
      intro H4 hw4 hn4
      obtain ⟨w4, hw4d⟩ : ∃ w4, w4 = sendS fs ⟨false, k, l.rem + 1⟩ w3 := ⟨_, rfl⟩
      have hph4 := phi_send fs ⟨false, k, l.rem + 1⟩ w3
      have hok4 := hok3.send fs ⟨false, k, l.rem + 1⟩ hlk
      rw [← hw4d] at hw4 hph4 hok4
      have hln4 : ∀ i, lnAt w4 i = lnAt w3 i := fun i => by rw [hw4d]; rfl
      have htk4 : w4.tk = w3.tk := by rw [hw4d]; rfl
      have hB4 := hw4.at' (.lb k) hlk
      have hW4 := hw4.at' .W trivial
      simp only [hpC, hln4, ← hl] at hB4 hW4
      rw [e2] at hW4
      simp -implicitDefEqProofs (disch := omega) [List.getElem?_cons_zero, List.getElem?_cons_succ, wrap_id, hW4, hB4]
      refine round_keep [32, 31, 30, 0] hlk ?_
      have hpu : pushS fs w3 k = { w4 with ln := w4.ln.set k { l with snt := w4.tk } } := by
        unfold pushS
        rw [if_pos hpc]
        simp only [← hl, ← hw4d, hln4]
      have hli := hw4.line hlk hok4.ll { l with snt := w4.tk } (off2 k) (by rw [hln4, ← hl])
      have ho : (fun i => if i = k then off2 k else off2 i) = off2 := by
        funext i
        by_cases e : i = k
        · rw [if_pos e, e]
        · rw [if_neg e]
      rw [ho] at hli
      rw [hpx, ← hw3d, hpu]
      have hac := hok4.acc k
      rw [hln4, ← hl] at hac
      refine ⟨_, by simp [Abs.get], hli, (hn3.trans hn4).setM (.lb k) hlk _, (hok4.line hlk { l with snt := w4.tk } (by rw [hl]; exact hok3.to k hlk) ⟨hac.1, by have := hac.2; dsimp only; omega⟩ ⟨hrm.1, by have := hrm.2; dsimp only; omega⟩ (by dsimp only; omega)).mono (by omega), hso3.of (Int.le_refl _) (by rw [hw4d]; rfl) (by rw [hw4d]; rfl), fun i => ?_, ?_, htk4.trans htk3⟩
      · rw [lnAt_set (by rw [hok4.ll]; exact hlk)]
        by_cases e : i = k
        · rw [if_pos e, e, ← hq3, ← hl]
        · rw [if_neg e, hln4, hq3]
      · simp only [Bool.false_eq_true, if_false] at hph4
        dsimp only
        omega
    · have hpu : pushS fs w3 k = w3 := by unfold pushS; rw [if_neg (by rw [← hl]; exact fun h => h.2.elim c2 c3)]
      simp -implicitDefEqProofs (disch := omega) [List.getElem?_cons_zero, List.getElem?_cons_succ, wrap_id, hlk, hlkI, hW3, hL3, hB3, hQ3, hrz, c1, c2, c3]
      refine round_keep [32, 31, 30, 0] hlk ?_
      rw [hpx, ← hw3d, hpu]
      exact ⟨_, by simp [Abs.get], hw3, hn3, hok3.mono (by omega), hso3, hq3, by omega, htk3⟩
  · obtain rfl : k = R.length * R.length := by omega
    have htd : tickS R fs w = w3 := by rw [hw3d, hw2d, hw1d, hw0]; rfl
    have hlkI : ¬ ((R.length * R.length : Nat) : Int) < (R.length : Int) * R.length := by rw [← Int.natCast_mul]; omega
    have hphw : phi w2.fl ≤ phi w.fl := by rw [hfl2]; rw [hw0] at hph1; exact hph1
    rw [htd] at hK
    have hfin := hK _ m2 off2 hw3 (fun i => by rw [hq3]; have := hq2 i; omega) hn3 (hok3.mono (by omega)) (hso3.of (by omega) rfl rfl) (by omega) (by rw [htk3, htk2, htk1, hw0])
    simp -implicitDefEqProofs (disch := omega) [List.getElem?_cons_zero, List.getElem?_cons_succ, wrap_id]
    exact finH trivial rfl hfin
end
end Go.Proofs.YtekniokkmgencaaGreat
end
