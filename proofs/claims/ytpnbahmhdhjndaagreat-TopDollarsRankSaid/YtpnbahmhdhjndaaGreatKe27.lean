/-
  Texts joined: Rs Rt Ru Rv.
-/
import Derived.Test.YtpnbahmhdhjndaaGreatKe26

section
set_option linter.unusedSimpArgs false
set_option linter.unusedVariables false
set_option linter.unusedSectionVars false
namespace Go.Proofs.YtpnbahmhdhjndaaGreat
open Go.Abs Go.Sand
theorem flow_neg {n : Nat} {J : Nat → Nat → Int} (hM : MG n J) {s : Nat → Int} {q : Nat} (hq : q < n) {B : Int} (hB : 0 ≤ B) (hb : ∀ v, v < n → lapF n J s v ≤ B) : ∀ v, v < n → s q - ((n : Int) - 1) * ((n : Int) * B) ≤ s v := fun v hv => by
  have h0 : (0 : Int) ≤ (n : Int) * B := Int.mul_nonneg (by omega) hB
  have h := flow_bound hM (s := fun u => - s u) hq (D := (n : Int) * B) h0 (fun A _ => ?_) v hv
  · (try dsimp only at h); omega
  · have e : ∀ k, k ≤ n → - sumN (fun v => if A v = true then lapF n J (fun u => - s u) v else 0) k ≤ (k : Int) * B := by
      intro k
      induction k with
      | zero => intro _; simp [sumN]
      | succ k ih =>
        intro hk
        have h1 := ih (by omega)
        have h2 := hb k (by omega)
        have h3 : ((k + 1 : Nat) : Int) * B = (k : Int) * B + B := by rw [Int.natCast_add, Int.add_mul]; simp
        simp only [sumN]
        rw [h3]
        rw [lapF_neg]
        split <;> omega
    exact e n (Nat.le_refl n)
/-- How the greedy game stands after k rounds. -/
structure GrI (n : Nat) (es : List Ed) (d s : List Int) (k : Nat) : Prop where
  sl : s.length = n
  neg : ∀ v, s.getD v 0 ≤ 0
  sum : sumN (fun v => s.getD v 0) n = -(k : Int)
  up : ∀ v, v < n → (movedE es s d).getD v 0 ≤ 110
  low : ∀ t : Nat → Int, (∀ v, v < n → 0 ≤ d.getD v 0 + lapF n (joinE es) t v) → (∀ v, v < n → t v ≤ 0) → ∀ v, v < n → t v ≤ s.getD v 0
section
variable {n : Nat} {es : List Ed} (hs : Sm n es) {d : List Int} (hdl : d.length = n) (hdb : AbsLe 110 d)
include hs hdl hdb
theorem left_get {s : List Int} (hsl : s.length = n) {v : Nat} (hv : v < n) : (movedE es s d).getD v 0 = d.getD v 0 + lapF n (joinE es) (fun u => s.getD u 0) v := by
  rw [moved_dif hs.g.right s d hdl, lap_dif hs.g]
theorem GrI.zero : GrI n es d (List.replicate n 0) 0 := by
  have hz : ∀ v, (List.replicate n (0 : Int)).getD v 0 = 0 := fun v => zeros_get v
  refine ⟨by simp, fun v => by rw [hz]; omega, ?_, fun v hv => ?_, fun t h1 h2 v hv => by rw [hz]; exact h2 v hv⟩
  · simp only [hz, sumN_zero]; rfl
  · rw [aft_zero hs.g hdl]; exact (hdb v).2
theorem GrI.low_left {s : List Int} {k : Nat} (h : GrI n es d s k) : AbsLe 1000 (movedE es s d) := fun v => by
  have hn5 := hs.n5
  by_cases hv : v < n
  · have h1 := h.up v hv
    have h2 : sumN (fun u => (movedE es s d).getD u 0) n = sumN (fun u => d.getD u 0) n := by
      rw [← deg_sum (d := movedE es s d) (by rw [movedE_length, hdl]), movedE_sum s hs.g.right d hdl, deg_sum hdl]
    have h3 := sum_bd (B := 110) (by omega) (d := fun v => 0 - d.getD v 0) (k := n) fun v _ => by have := (hdb v).1; (try dsimp only); omega
    have h4 := sumN_sub' (fun _ => 0) (fun v => d.getD v 0) n
    (try dsimp only at h4)
    rw [sumN_zero] at h4
    have h5 := (eff_le (n := n) (D := fun u => 110 - (movedE es s d).getD u 0) fun u hu => by have := h.up u hu; (try dsimp only); omega).2 v hv
    have h6 := sumN_sub' (fun _ => 110) (fun v => (movedE es s d).getD v 0) n
    have h7 : ∀ k, sumN (fun _ => 110) k = 110 * (k : Int) := fun k => by
      induction k with
      | zero => rfl
      | succ k ih => simp only [sumN, ih]; omega
    (try dsimp only at h5 h6)
    rw [h7] at h6
    omega
  · rw [List.getD_eq_getElem?_getD, List.getElem?_eq_none (by rw [movedE_length]; omega)]
    simp
theorem GrI.few {s : List Int} {k : Nat} (h : GrI n es d s k) {w : Nat} (hw : w < n) (h0 : s.getD w 0 = 0) : k ≤ 22000 := by
  have hn5 := hs.n5
  have hb := flow_neg hs.mg (s := fun u => s.getD u 0) hw (B := 220) (by omega) (fun v hv => by
    have h1 := h.up v hv
    rw [left_get hs hdl hdb h.sl hv] at h1
    have := (hdb v).1
    omega)
  have h2 := sum_bd (B := 4400) (by omega) (d := fun v => 0 - s.getD v 0) (k := n) fun v hv => by
    have h3 := hb v hv
    (try dsimp only at h3 ⊢)
    have h4 : ((n : Int) - 1) * ((n : Int) * 220) ≤ 4400 := by
      have : n = 1 ∨ n = 2 ∨ n = 3 ∨ n = 4 ∨ n = 5 := by have := hs.n1; omega
      rcases this with rfl | rfl | rfl | rfl | rfl <;> decide
    omega
  have h4 := sumN_sub' (fun _ => 0) (fun v => s.getD v 0) n
  (try dsimp only at h4)
  rw [sumN_zero, h.sum] at h4
  omega
theorem GrI.win {s : List Int} {k : Nat} (h : GrI n es d s k) (h0 : ∀ v, v < n → 0 ≤ (movedE es s d).getD v 0) : WinF n (joinE es) (fun v => d.getD v 0) :=
  ⟨fun v => (movedE es s d).getD v 0, h0, fun u => s.getD u 0, fun v hv => left_get hs hdl hdb h.sl hv⟩
theorem GrI.lose {s : List Int} {k : Nat} (h : GrI n es d s k) (h0 : ∀ v, v < n → s.getD v 0 < 0) : ¬ WinF n (joinE es) (fun v => d.getD v 0) := by
  rintro ⟨E, hE, t, ht⟩
  obtain ⟨w, hw, hmax⟩ : ∃ w, w < n ∧ ∀ v, v < n → t v ≤ t w := by
    have : ∀ m, m < n → ∃ w, w ≤ m ∧ ∀ v, v ≤ m → t v ≤ t w := by
      intro m
      induction m with
      | zero => exact fun _ => ⟨0, Nat.le_refl 0, fun v hv => by rw [show v = 0 by omega]; exact Int.le_refl _⟩
      | succ m ih =>
        intro hm
        obtain ⟨w, hw, hx⟩ := ih (by omega)
        by_cases hc : t w ≤ t (m + 1)
        · refine ⟨m + 1, Nat.le_refl _, fun v hv => ?_⟩
          by_cases e : v = m + 1
          · subst e; exact Int.le_refl _
          · have := hx v (by omega); omega
        · refine ⟨w, by omega, fun v hv => ?_⟩
          by_cases e : v = m + 1
          · subst e; omega
          · exact hx v (by omega)
    have hn1 := hs.n1
    obtain ⟨w, hw, hx⟩ := this (n - 1) (by omega)
    exact ⟨w, by omega, fun v hv => hx v (by omega)⟩
  have h1 := h.low (fun u => t u - t w) (fun v hv => by
    rw [lapF_congr hv (s := fun u => t u - t w) (t := t) (c := - t w) fun u _ => by (try dsimp only); omega]
    have := hE v hv
    rw [ht v hv] at this
    exact this) (fun v hv => by have := hmax v hv; (try dsimp only); omega) w hw
  have h2 := h0 w hw
  (try dsimp only at h1)
  omega
theorem GrI.step {s : List Int} {k : Nat} (h : GrI n es d s k) {v : Nat} (hv : v < n) (hp : (movedE es s d).getD v 0 < 0) : GrI n es d (s.set v (s.getD v 0 - 1)) (k + 1) := by
  have hsl := h.sl
  have hg : ∀ u, (s.set v (s.getD v 0 - 1)).getD u 0 = s.getD u 0 - oneF v u := fun u => by
    rw [getD_set]
    unfold oneF
    by_cases e : u = v
    · subst e; rw [if_pos ⟨rfl, by omega⟩, if_pos rfl]
    · rw [if_neg (fun h => e h.1.symm), if_neg e]; omega
  have h1 : ∀ u, 0 ≤ oneF v u ∧ oneF v u ≤ 1 := fun u => by unfold oneF; split <;> omega
  have hM := hs.mg
  have hone : ∀ u, u < n → lapF n (joinE es) (fun w => s.getD w 0 - oneF v w) u = lapF n (joinE es) (fun w => s.getD w 0) u - lapF n (joinE es) (oneF v) u := fun u hu => by
    have e1 := lapF_add (n := n) (J := joinE es) (fun w => s.getD w 0) (fun w => - oneF v w) u
    have e2 := lapF_neg (n := n) (J := joinE es) (oneF v) u
    rw [e2] at e1
    rw [show (fun w => s.getD w 0 - oneF v w) = fun w => s.getD w 0 + - oneF v w from funext fun w => by omega, e1]
    omega
  have hl : (s.set v (s.getD v 0 - 1)).length = n := by rw [List.length_set, hsl]
  refine ⟨hl, fun u => ?_, ?_, fun u hu => ?_, fun t ht1 ht2 u hu => ?_⟩
  · rw [hg]; have := h.neg u; have := h1 u; omega
  · simp only [hg]
    rw [sumN_sub', h.sum, oneF_sum hv]
    omega
  · have h2 := h.up u hu
    rw [left_get hs hdl hdb hl hu]
    simp only [hg]
    rw [hone u hu]
    rw [left_get hs hdl hdb hsl hu] at h2
    by_cases e : u = v
    · subst e
      rw [left_get hs hdl hdb hsl hu] at hp
      have h3 := hs.val u hu
      have h4 : - lapF n (joinE es) (oneF u) u ≤ sumN (fun w => joinE es u w) n := by
        unfold lapF
        have e5 := sumN_sub' (fun _ => 0) (fun w => joinE es u w * (oneF u w - oneF u u)) n
        rw [sumN_zero] at e5
        (try dsimp only at e5)
        have e6 := sumN_le (f := fun w => 0 - joinE es u w * (oneF u w - oneF u u)) (g := fun w => joinE es u w) (k := n) fun w hw => by
          have a := hM.nn u w
          (try dsimp only)
          unfold oneF
          rw [if_pos rfl]
          split <;> simp <;> omega
        omega
      omega
    · have h4 : 0 ≤ lapF n (joinE es) (oneF v) u := by
        unfold lapF
        refine sumN_nonneg fun w hw => ?_
        have a := hM.nn u w
        unfold oneF
        rw [if_neg e]
        split <;> simp <;> omega
      omega
  · rw [hg]
    have h2 := h.low t ht1 ht2 u hu
    unfold oneF
    split
    · rename_i e
      subst e
      by_cases hc : t u = s.getD u 0
      · exfalso
        have h3 := ht1 u hu
        rw [left_get hs hdl hdb hsl hu] at hp
        have h4 : lapF n (joinE es) t u ≤ lapF n (joinE es) (fun w => s.getD w 0) u := by
          unfold lapF
          refine sumN_le fun w hw => ?_
          have a := hM.nn u w
          have b := h.low t ht1 ht2 w hw
          (try dsimp only)
          exact Int.mul_le_mul_of_nonneg_left (by omega) a
        omega
      · omega
    · omega
end
end Go.Proofs.YtpnbahmhdhjndaaGreat
end
section
set_option linter.unusedSimpArgs false
set_option linter.unusedVariables false
namespace Go.Proofs.YtpnbahmhdhjndaaGreat
open Go.Abs Go.Sand
theorem dmax_ok (xs : List Int) (h0 : 0 < xs.length) (hx : xs.length ≤ 1000) : PC Tryz.prog 72 [.is xs] (.i (maxK xs (xs.length - 1))) [] := by
  have h1 : ¬ xs.length < 1 := by omega
  have h1' : ¬ (xs.length : Int) < 1 := by omega
  have e0 : maxK xs 0 = xs[0] := getD_get h0
  refine PC_of_W cfn72 ?_
  simp -implicitDefEqProofs (disch := omega) [c72, List.getElem?_cons_zero, List.getElem?_cons_succ, wrap_id, h0, h1, h1']
  refine loopW (xs.length - 1) (fun k st => st = ⟨[(4, .i (k + 1 : Nat)), (3, .i (maxK xs k)), (0, .p (.is xs))], []⟩) (wk_norm [] [4, 3, 0] rfl rfl) (by show _ = _; rw [e0]; rfl) ?_
  rintro k st hk rfl
  by_cases hkt : k + 1 < xs.length
  · have hkt' : (k : Int) + 1 < xs.length := by omega
    have e1 : maxK xs (k + 1) = max (maxK xs k) xs[k + 1] := by rw [maxK, getD_get hkt]
    simp -implicitDefEqProofs (disch := omega) [List.getElem?_cons_zero, List.getElem?_cons_succ, wrap_id, hkt, hkt']
    exact round_end [] [4, 3, 0] (by omega) rfl (by show _ = _; rw [e1]; rfl)
  · have hkt' : ¬ (k : Int) + 1 < xs.length := by omega
    have hke : k = xs.length - 1 := by omega
    simp -implicitDefEqProofs (disch := omega) [List.getElem?_cons_zero, List.getElem?_cons_succ, wrap_id, hkt, hkt']
    (refine fin0 trivial rfl ?_; simp -implicitDefEqProofs (disch := omega) [List.getElem?_cons_zero, List.getElem?_cons_succ, idx, wrap_id, hke])
theorem smin0_ok : PC Tryz.prog 105 [.is [0]] (.i 0) [] := by
  refine PC_of_W cfn105 ?_
  simp -implicitDefEqProofs (disch := omega) [c105, List.getElem?_cons_zero, List.getElem?_cons_succ, wrap_id]
  refine loopW 0 (fun k st => st = ⟨[(4, .i 1), (3, .i 0), (0, .p (.is [0]))], []⟩) (wk_norm [] [4, 3, 0] rfl rfl) rfl ?_
  rintro k st hk rfl
  simp -implicitDefEqProofs (disch := omega) [List.getElem?_cons_zero, List.getElem?_cons_succ, wrap_id]
  (refine fin0 trivial rfl ?_; simp -implicitDefEqProofs (disch := omega) [List.getElem?_cons_zero, List.getElem?_cons_succ, idx, wrap_id])
theorem picked0_ok : PC Tryz.prog 70 [.is [0]] (.i 0) [] := by
  refine PC_of_W cfn70 ?_
  simp -implicitDefEqProofs (disch := omega) [c70, List.getElem?_cons_zero, List.getElem?_cons_succ, wrap_id]
  refine HC_of_PC rfl (smin0_ok) ?_
  simp -implicitDefEqProofs (disch := omega) [List.getElem?_cons_zero, List.getElem?_cons_succ, wrap_id]
  (refine fin0 trivial rfl ?_; simp -implicitDefEqProofs (disch := omega) [List.getElem?_cons_zero, List.getElem?_cons_succ, idx, wrap_id])
theorem djoined_ok (n : Nat) (es : List Ed) (hel : es.length ≤ 900) (hc : connE n es = 0) : PC Tryz.prog 98 [G n es] (.i 0) [] := by
  obtain ⟨hg, hp⟩ := conn_good hc
  rw [Int.toNat_natCast] at hp
  have hr : (rootsL es n).length = 1 := hp
  refine PC_of_W cfn98 ?_
  simp -implicitDefEqProofs (disch := omega) [c98, List.getElem?_cons_zero, List.getElem?_cons_succ, wrap_id]
  refine HC_of_PC rfl (connected_ok n es hel hg) ?_
  simp -implicitDefEqProofs (disch := omega) [List.getElem?_cons_zero, List.getElem?_cons_succ, wrap_id, hr]
  (refine fin0 trivial rfl ?_; simp -implicitDefEqProofs (disch := omega) [List.getElem?_cons_zero, List.getElem?_cons_succ, idx, wrap_id])
theorem dgiven_ok (n : Nat) (es : List Ed) (hel : es.length ≤ 900) (hc : connE n es = 0) (d : List Int) (hd : d.length ≤ 1000) : PC Tryz.prog 66 [G n es, .is d] (.i (dcheck d n)) [] := by
  refine PC_of_W cfn66 ?_
  simp -implicitDefEqProofs (disch := omega) [c66, List.getElem?_cons_zero, List.getElem?_cons_succ, wrap_id]
  refine HC_of_PC rfl (djoined_ok n es hel hc) ?_
  simp -implicitDefEqProofs (disch := omega) [List.getElem?_cons_zero, List.getElem?_cons_succ, wrap_id]
  refine HC_of_PC rfl (chk_ok d n (by omega)) ?_
  simp -implicitDefEqProofs (disch := omega) [List.getElem?_cons_zero, List.getElem?_cons_succ, wrap_id]
  (refine fin0 trivial rfl ?_; simp -implicitDefEqProofs (disch := omega) [List.getElem?_cons_zero, List.getElem?_cons_succ, idx, wrap_id])
/-- One vertex borrows. -/
def oneL (n v : Nat) : List Int := (List.replicate n 0).set v (-1)
theorem oneL_get {n v : Nat} (hv : v < n) (u : Nat) : (oneL n v).getD u 0 = if u = v then -1 else 0 := by
  unfold oneL
  rw [getD_set]
  by_cases e : u = v
  · subst e; rw [if_pos ⟨rfl, by simpa using hv⟩, if_pos rfl]
  · rw [if_neg (fun h => e h.1.symm), if_neg e]; exact zeros_get u
theorem bor_one {n : Nat} {x : Ed} (hr : Right n x) {v : Nat} (hv : v < n) {L : List Int} (hL : L.length = n) (h1 : x.a ≠ x.b) (h2 : x.a = v ∨ x.b = v) :
    movE (oneL n v) x L = (L.set v (L.getD v 0 + x.m)).set (x.a + x.b - v).toNat (L.getD (x.a + x.b - v).toNat 0 - x.m) := by
  have a0 := hr.a0
  have ab := hr.ab
  have bn := hr.bn
  have hf : flow (oneL n v) x = if x.a = v then - x.m else x.m := by
    unfold flow
    rw [oneL_get hv, oneL_get hv]
    by_cases e : x.a = v
    · rw [if_pos (by omega), if_neg (by omega), if_pos e]; omega
    · rw [if_neg (by omega), if_pos (by omega), if_neg e]; omega
  refine ext_getD (by simp [movE]) fun i hi => ?_
  have hi' : i < L.length := by simpa [movE] using hi
  have an : x.a.toNat < L.length := by omega
  have bn' : x.b.toNat < L.length := by omega
  have vn : v < L.length := by omega
  unfold movE
  rw [hf]
  simp only [getD_set, List.length_set, an, bn', vn, and_true]
  rcases h2 with h2 | h2
  · have e1 : (x.a + x.b - v).toNat = x.b.toNat := by omega
    have e2 : x.a.toNat = v := by omega
    rw [e1, if_pos h2, e2, if_neg (show ¬ v = x.b.toNat by omega)]
    simp only [bn', and_true]
    by_cases c2 : x.b.toNat = i
    · rw [if_pos c2, if_pos c2]; omega
    · rw [if_neg c2, if_neg c2]
      by_cases c1 : v = i
      · rw [if_pos c1, if_pos c1]; omega
      · rw [if_neg c1, if_neg c1]
  · have e1 : (x.a + x.b - v).toNat = x.a.toNat := by omega
    have e2 : x.b.toNat = v := by omega
    rw [e1, e2, if_neg (show ¬ x.a = v by omega), if_neg (show ¬ x.a.toNat = v by omega)]
    simp only [an, and_true]
    by_cases c1 : v = i
    · rw [if_pos c1, if_neg (show ¬ x.a.toNat = i by omega), if_pos c1]
    · rw [if_neg c1]
      by_cases c2 : x.a.toNat = i
      · rw [if_pos c2, if_pos c2]
      · rw [if_neg c2, if_neg c2, if_neg c1]
theorem bor_none {n : Nat} {x : Ed} (hr : Right n x) {v : Nat} (hv : v < n) {L : List Int} (hL : L.length = n) (h : x.a = x.b ∨ x.a ≠ v ∧ x.b ≠ v) : movE (oneL n v) x L = L := by
  have a0 := hr.a0
  have ab := hr.ab
  have bn := hr.bn
  have hf : flow (oneL n v) x = 0 := by
    unfold flow
    rw [oneL_get hv, oneL_get hv]
    rcases h with h | h
    · rw [h]; omega
    · rw [if_neg (by omega), if_neg (by omega)]; omega
  refine ext_getD (by simp [movE]) fun i hi => ?_
  have hi' : i < L.length := by simpa [movE] using hi
  unfold movE
  rw [hf]
  simp only [getD_set, List.length_set]
  by_cases c1 : x.b.toNat = i
  · by_cases c2 : x.a.toNat = x.b.toNat
    · rw [if_pos ⟨c1, by omega⟩, if_pos ⟨c2, by omega⟩, ← c1, c2]; omega
    · rw [if_pos ⟨c1, by omega⟩, if_neg (by omega), c1]; omega
  · rw [if_neg (by omega)]
    by_cases c2 : x.a.toNat = i
    · rw [if_pos ⟨c2, by omega⟩, c2]; omega
    · rw [if_neg (by omega)]
end Go.Proofs.YtpnbahmhdhjndaaGreat
end
section
set_option linter.unusedSimpArgs false
set_option linter.unusedVariables false
namespace Go.Proofs.YtpnbahmhdhjndaaGreat
open Go.Abs Go.Sand
theorem movE_abs {n : Nat} {x : Ed} (hr : Right n x) {v : Nat} (hv : v < n) {L : List Int} (hL : L.length = n) {B : Int} (h : AbsLe B L) : AbsLe (B + 50) (movE (oneL n v) x L) := by
  have m1 := hr.m1
  have m50 := hr.m50
  by_cases h1 : x.a ≠ x.b ∧ (x.a = v ∨ x.b = v)
  · rw [bor_one hr hv hL h1.1 h1.2]
    intro u
    have a := h u
    have b := h v
    have c := h (x.a + x.b - v).toNat
    simp only [getD_set]
    split
    · omega
    · split <;> omega
  · rw [bor_none hr hv hL (by
      by_cases e : x.a = x.b
      · exact .inl e
      · exact .inr ⟨fun e2 => h1 ⟨e, .inl e2⟩, fun e2 => h1 ⟨e, .inr e2⟩⟩)]
    exact h.mono (by omega)
/-- What holds ahead of each round of borrowing. -/
def BoI (n v : Nat) (es : List Ed) (L : List Int) (H : List AO) (a : Nat) (k : Nat) (st : St) : Prop := ∃ Z, st = ⟨[(13, .i k), (12, .i es.length), (11, .p (.sl (es.map edP))), (1, .os a 0 n), (2, .i v), (3, .i 1), (4, .ptr H.length 1 0 0)], H.set a (rowZ (movedE (es.take k) (oneL n v) L)) ++ .box (.p (G n es)) :: Z⟩
set_option maxRecDepth 10000 in
set_option maxHeartbeats 2000000 in
theorem borrow_hc {n : Nat} {es : List Ed} (hg : GoodG n es) {v : Nat} (hv : v < n) {L : List Int} (hL : L.length = n) (hb : AbsLe 100000 L) {H : List AO} {a : Nat} (ha : H[a]? = some (rowZ L)) {K : AV → List AO → Prop}
    (hK : ∀ Z, K (.tup []) (H.set a (rowZ (movedE es (oneL n v) L)) ++ Z)) : HC Tryz.prog false 73 [.p (G n es), .os a 0 n, .i v, .i 1] H K := by
  have hel := good_few hg
  have hn := hg.n12
  have hal := lt_some ha
  have f1 : ∀ y, (H ++ [y])[H.length]? = some y := fun y => by simp
  have hb' : ∀ k, k ≤ es.length → AbsLe (100000 + 50 * (k : Int)) (movedE (es.take k) (oneL n v) L) ∧ (movedE (es.take k) (oneL n v) L).length = n := by
    intro k
    induction k with
    | zero => intro _; exact ⟨by simpa [movedE] using hb, by rw [movedE_length, hL]⟩
    | succ k ih =>
      intro hk
      obtain ⟨h1, h2⟩ := ih (by omega)
      rw [movedE_snoc es _ _ k (by omega)]
      exact ⟨(movE_abs (hg.right _ (List.getElem_mem (by omega))) hv h2 h1).mono (by omega), by rw [movE_length, h2]⟩
  refine HC_of_W (af := _) ((by exact cfn73 : cfn _ _ _ = some _)) ?_
  simp -implicitDefEqProofs (disch := omega) [c73, List.getElem?_cons_zero, List.getElem?_cons_succ, wrap_id, f1, -getElem?_pos]
  refine loopW es.length (BoI n v es L H a) (Wk_keep [13, 12, 11, 1, 2, 3, 4]) ⟨[], ?_⟩ ?_
  · have e : H.set a (rowZ (movedE (es.take 0) (oneL n v) L)) = H := by
      simp only [List.take_zero, movedE, List.foldl_nil]
      rw [List.getElem?_eq_getElem hal] at ha
      injection ha with ha
      rw [← ha, List.set_getElem_self]
    show _ = _
    rw [e]; rfl
  rintro k st hk ⟨Z, rfl⟩
  by_cases hlt : k < es.length
  · have hx := hg.right es[k] (List.getElem_mem hlt)
    have hek : es[k]? = some es[k] := List.getElem?_eq_getElem hlt
    obtain ⟨hB, hLl⟩ := hb' k hk
    have hs := movedE_snoc es (oneL n v) L k hlt
    obtain ⟨M, hM⟩ : ∃ M, M = movedE (es.take k) (oneL n v) L := ⟨_, rfl⟩
    rw [← hM] at hB hLl hs ⊢
    obtain ⟨x, hxe⟩ : ∃ x, x = es[k] := ⟨_, rfl⟩
    rw [← hxe] at hs hx
    have hx2 : edP es[k] = .agg [PV.i x.a, PV.i x.b, PV.i x.m] := by rw [hxe, edP]
    obtain ⟨X, hX⟩ : ∃ X, X = H.set a (rowZ M) ++ .box (.p (G n es)) :: Z := ⟨_, rfl⟩
    have hXa : X[a]? = some (.row (M.map PV.i) 1 3 false) := by rw [hX, List.getElem?_append_left (by simpa using hal), List.getElem?_set_self hal]
    have hXl := lt_some hXa
    have gX : ∀ y, (X ++ [y])[X.length]? = some y := fun y => by simp
    have gA : ∀ Y, (X ++ Y)[a]? = _ := fun Y => app_some hXa Y
    have sA : ∀ Y z, (X ++ Y).set a z = X.set a z ++ Y := fun Y z => List.set_append_left _ _ hXl
    have sAA : ∀ z Y, (X.set a z ++ Y)[a]? = some z := fun z Y => by rw [List.getElem?_append_left (by simpa using hXl), List.getElem?_set_self hXl]
    have gB : ∀ z y, (X.set a z ++ [y])[X.length]? = some y := fun z y => by simp
    have sB : ∀ r1 Y r2, (X.set a r1 ++ Y).set a r2 = X.set a r2 ++ Y := fun r1 Y r2 => by rw [List.set_append_left _ _ (by simpa using hXl), List.set_set]
    have a0 := hx.a0
    have ab := hx.ab
    have bn := hx.bn
    have m1 := hx.m1
    have m50 := hx.m50
    have eX : ∀ M' b, X.set a (rowZ M') ++ [b] = H.set a (rowZ M') ++ .box (.p (G n es)) :: (Z ++ [b]) := fun M' b => by
      rw [hX, List.set_append_left _ _ (by simpa using hal), List.set_set, List.append_assoc]; rfl
    have eX0 : ∀ b, X ++ [b] = H.set a (rowZ M) ++ .box (.p (G n es)) :: (Z ++ [b]) := fun b => by rw [hX, List.append_assoc]; rfl
    rw [← hX]
    by_cases h1 : x.a = x.b
    · have hn0 := bor_none hx hv hLl (.inl h1)
      rw [hn0] at hs
      simp -implicitDefEqProofs (disch := omega) [List.getElem?_cons_zero, List.getElem?_cons_succ, wrap_id, hlt, hx2, h1, gX]
      exact round_end' hlt (Wk_keep [13, 12, 11, 1, 2, 3, 4]) ⟨Z ++ [_], by rw [hs, ← eX0]; rfl⟩
    obtain ⟨p, hp⟩ : ∃ p : Nat, x.a = p := ⟨x.a.toNat, by omega⟩
    obtain ⟨q, hq⟩ : ∃ q : Nat, x.b = q := ⟨x.b.toNat, by omega⟩
    obtain ⟨m, hm⟩ : ∃ m, m = x.m := ⟨_, rfl⟩
    rw [hp, hq, ← hm] at hx2
    rw [← hm] at m1 m50
    by_cases h2 : x.a = v
    · have hn0 := bor_one hx hv hLl h1 (.inl h2)
      have hpv : p = v := by omega
      subst hpv
      have hqn : q < n := by omega
      rw [show (x.a + x.b - (p : Int)).toNat = q by omega, ← hm] at hn0
      rw [hn0] at hs
      have b1 := hB p
      have b2 := hB q
      have g1 : M[p]? = some (M.getD p 0) := by rw [List.getElem?_eq_getElem (by omega), getD_get (by omega)]
      have g2 : M[q]? = some (M.getD q 0) := by rw [List.getElem?_eq_getElem (by omega), getD_get (by omega)]
      obtain ⟨y, hy⟩ : ∃ y, y = M.getD p 0 := ⟨_, rfl⟩
      obtain ⟨z, hz⟩ : ∃ z, z = M.getD q 0 := ⟨_, rfl⟩
      rw [← hy] at g1 b1 hs
      rw [← hz] at g2 b2 hs
      have e1 : ((p : Int) + q - p) = q := by omega
      have hpq : ¬ (p : Int) = q := by omega
      have hrw : ((List.map PV.i M).set p (PV.v (Value.int IntKind.i64 (y + m)))).set q (PV.v (Value.int IntKind.i64 (z - m))) = List.map PV.i ((M.set p (y + m)).set q (z - m)) := by rw [List.map_set, List.map_set]
      have hqp : ¬ q = p := by omega
      have hqp' : ¬ p = q := by omega
      simp -implicitDefEqProofs (disch := omega) [List.getElem?_cons_zero, List.getElem?_cons_succ, wrap_id, hlt, hek, hx2, hpq, hqp, hqp', gX, gA, sA, sAA, gB, sB, hLl, g1, g2, e1, hv, hqn, -getElem?_pos]
      rw [hrw]
      exact round_end' hlt (Wk_keep [13, 12, 11, 1, 2, 3, 4]) ⟨Z ++ [_], by rw [hs, ← eX]; rfl⟩
    by_cases h3 : x.b = v
    · have hn0 := bor_one hx hv hLl h1 (.inr h3)
      have hpv : q = v := by omega
      subst hpv
      have hqn : p < n := by omega
      rw [show (x.a + x.b - (q : Int)).toNat = p by omega, ← hm] at hn0
      rw [hn0] at hs
      have b1 := hB q
      have b2 := hB p
      have g1 : M[q]? = some (M.getD q 0) := by rw [List.getElem?_eq_getElem (by omega), getD_get (by omega)]
      have g2 : M[p]? = some (M.getD p 0) := by rw [List.getElem?_eq_getElem (by omega), getD_get (by omega)]
      obtain ⟨y, hy⟩ : ∃ y, y = M.getD q 0 := ⟨_, rfl⟩
      obtain ⟨z, hz⟩ : ∃ z, z = M.getD p 0 := ⟨_, rfl⟩
      rw [← hy] at g1 b1 hs
      rw [← hz] at g2 b2 hs
      have e1 : ((p : Int) + q - q) = p := by omega
      have hpq : ¬ (p : Int) = q := by omega
      have hrw : ((List.map PV.i M).set q (PV.v (Value.int IntKind.i64 (y + m)))).set p (PV.v (Value.int IntKind.i64 (z - m))) = List.map PV.i ((M.set q (y + m)).set p (z - m)) := by rw [List.map_set, List.map_set]
      have hqp : ¬ p = q := by omega
      have hqp' : ¬ q = p := by omega
      simp -implicitDefEqProofs (disch := omega) [List.getElem?_cons_zero, List.getElem?_cons_succ, wrap_id, hlt, hek, hx2, hpq, hqp, hqp', gX, gA, sA, sAA, gB, sB, hLl, g1, g2, e1, hv, hqn, -getElem?_pos]
      rw [hrw]
      exact round_end' hlt (Wk_keep [13, 12, 11, 1, 2, 3, 4]) ⟨Z ++ [_], by rw [hs, ← eX]; rfl⟩
    · have hn0 := bor_none hx hv hLl (.inr ⟨h2, h3⟩)
      rw [hn0] at hs
      have h1' : ¬ (p : Int) = q := by omega
      have h2' : ¬ (p : Int) = v := by omega
      have h3' : ¬ (q : Int) = v := by omega
      have h2'' : ¬ p = v := by omega
      have h3'' : ¬ q = v := by omega
      simp -implicitDefEqProofs (disch := omega) [List.getElem?_cons_zero, List.getElem?_cons_succ, wrap_id, hlt, hek, hx2, h1', h2', h3', h2'', h3'', gX]
      exact round_end' hlt (Wk_keep [13, 12, 11, 1, 2, 3, 4]) ⟨Z ++ [_], by rw [hs, ← eX0]; rfl⟩
  · have hke : k = es.length := by omega
    subst hke
    rw [List.take_length]
    simp -implicitDefEqProofs (disch := omega) [List.getElem?_cons_zero, List.getElem?_cons_succ, wrap_id]
    exact finH trivial rfl (hK _)
end Go.Proofs.YtpnbahmhdhjndaaGreat
end
section
set_option linter.unusedSimpArgs false
set_option linter.unusedVariables false
set_option linter.unusedSectionVars false
namespace Go.Proofs.YtpnbahmhdhjndaaGreat
open Go.Abs Go.Sand
def negB (d : List Int) (v : Nat) : Bool := decide (d.getD v 0 < 0)
/-- What Greedy leaves. -/
def GrdR (n : Nat) (es : List Ed) (d : List Int) (r : AV) (HR : List AO) : Prop := ∃ (b : Bool) (s : List Int), (b = true ↔ WinF n (joinE es) (fun v => d.getD v 0)) ∧ r = .tup [.b b, .os 0 0 n, .i 0] ∧ HR = [rowZ s]
/-- What holds ahead of each round. -/
def GrJ (n : Nat) (es : List Ed) (d : List Int) (k : Nat) (st : St) : Prop := ∃ s, GrI n es d s k ∧ st = ⟨[(13, .i k), (12, .os 2 0 n), (11, .os 1 0 n), (3, .ptr 0 1 0 0), (2, .p (.is [0]))], [.box (.p (G n es)), rowZ (movedE es s d), rowZ s]⟩
section
variable {n : Nat} {es : List Ed} (hs : Sm n es) {d : List Int} (hdl : d.length = n) (hdb : AbsLe 110 d)
include hs hdl hdb
set_option maxRecDepth 10000 in
set_option maxHeartbeats 2000000 in
theorem greedy_ok : PCR Tryz.prog 40 [G n es, .is d, .is [0]] (GrdR n es d) := by
  have hn1 := hs.n1
  have hn5 := hs.n5
  have hn2 : n ≤ 1048576 := by omega
  have hd := dcheck_zero (by omega) hdl (hdb.mono (by omega))
  have hz := GrI.zero hs hdl hdb
  have hm0 := aft_zero hs.g hdl (es := es)
  have e0 : rowZ (List.replicate n 0) = .row (List.replicate n (PV.v (.int .i64 0))) 1 3 false := by rw [rowZ, List.map_replicate]
  refine PCR_of_W cfn40 ?_
  simp -implicitDefEqProofs (disch := omega) [c40, List.getElem?_cons_zero, List.getElem?_cons_succ, wrap_id]
  refine HC_of_PC rfl (dgiven_ok n es hs.el hs.c d (by omega)) ?_
  rw [hd]
  simp -implicitDefEqProofs (disch := omega) [List.getElem?_cons_zero, List.getElem?_cons_succ, wrap_id]
  refine HC_of_PC rfl (picked0_ok) ?_
  simp -implicitDefEqProofs (disch := omega) [List.getElem?_cons_zero, List.getElem?_cons_succ, wrap_id, hdl, hn2]
  refine ⟨?_, ?_⟩
  refine HC_of_PC rfl (clone20_ok d (by omega)) ?_
  simp -implicitDefEqProofs (disch := omega) [List.getElem?_cons_zero, List.getElem?_cons_succ, wrap_id, hdl, hn2]
  refine ⟨⟨[(12, .os 2 0 n), (11, .os 1 0 n), (3, .ptr 0 1 0 0), (2, .p (.is [0]))], [.box (.p (G n es)), rowZ d, rowZ (List.replicate n 0)]⟩, wk_norm [0, 1, 2] [12, 11, 3, 2] rfl (by rw [e0]; rfl), ?_⟩
  simp -implicitDefEqProofs (disch := omega) [List.getElem?_cons_zero, List.getElem?_cons_succ, wrap_id]
  refine loopW 25000 (GrJ n es d) (wk_norm [0, 1, 2] [13, 12, 11, 3, 2] rfl rfl) ⟨_, hz, by rw [hm0]; rfl⟩ ?_
  rotate_left
  simp -implicitDefEqProofs (disch := omega) [List.getElem?_cons_zero, List.getElem?_cons_succ, wrap_id, hdl, hn2]
  refine HC_of_PC rfl (clone20_ok d (by omega)) ?_
  simp -implicitDefEqProofs (disch := omega) [List.getElem?_cons_zero, List.getElem?_cons_succ, wrap_id, hdl, hn2]
  refine ⟨⟨[(12, .os 2 0 n), (11, .os 1 0 n), (3, .ptr 0 1 0 0), (2, .p (.is [0]))], [.box (.p (G n es)), rowZ d, rowZ (List.replicate n 0)]⟩, wk_norm [0, 2, 1] [12, 11, 3, 2] rfl (by rw [e0]; rfl), ?_⟩
  simp -implicitDefEqProofs (disch := omega) [List.getElem?_cons_zero, List.getElem?_cons_succ, wrap_id]
  refine loopW 25000 (GrJ n es d) (wk_norm [0, 1, 2] [13, 12, 11, 3, 2] rfl rfl) ⟨_, hz, by rw [hm0]; rfl⟩ ?_
  all_goals
    rintro k st hk ⟨s, hI, rfl⟩
    have hsl := hI.sl
    have hLb := hI.low_left hs hdl hdb
    have hLl : (movedE es s d).length = n := by rw [movedE_length, hdl]
    have hstep := fun v hv hp => GrI.step hs hdl hdb hI (v := v) hv hp
    have hwin := GrI.win hs hdl hdb hI
    have hlose := GrI.lose hs hdl hdb hI
    have hfew := fun w hw h0 => GrI.few hs hdl hdb hI (w := w) hw h0
    have htwo : ∀ v, v < n → movedE es (oneL n v) (movedE es s d) = movedE es (s.set v (s.getD v 0 - 1)) d := fun v hv => moved_two hs.g.right 0 hdl fun i hi => by
      rw [getD_set, oneL_get hv]
      by_cases e : i = v
      · subst e; rw [if_pos ⟨rfl, by omega⟩, if_pos rfl]; omega
      · rw [if_neg (fun h => e h.1.symm), if_neg e]; omega
    obtain ⟨L, hL⟩ : ∃ L, L = movedE es s d := ⟨_, rfl⟩
    rw [← hL] at hLb hLl hstep hwin htwo ⊢
    simp -implicitDefEqProofs (disch := omega) [List.getElem?_cons_zero, List.getElem?_cons_succ, wrap_id, hLl]
    refine loopW n (fun j st => st = ⟨[(38, .i j), (37, .i n), (36, .os 1 0 n), (14, .os 3 0 (selK (negB L) j).length), (13, .i k), (12, .os 2 0 n), (11, .os 1 0 n), (3, .ptr 0 1 0 0), (2, .p (.is [0]))], [.box (.p (G n es)), rowZ L, rowZ s, rowZ (selK (negB L) j)]⟩) ((Wk_nil 14 1 3 rfl).trans (wk_norm [0, 1, 2, 3] [38, 37, 36, 14, 13, 12, 11, 3, 2] rfl rfl)) rfl ?_
    rintro j st hj rfl
    have hpl := selK_len (negB L) j
    have hps := selK_succ (negB L) j
    by_cases hjn : j < n
    · have hjl : j < L.length := by omega
      have hgd := getD_get hjl
      by_cases h0 : L[j] < 0
      · have hd : negB L j = true := by rw [negB, hgd]; exact decide_eq_true h0
        rw [hd, if_pos rfl] at hps
        generalize hS : selK (negB L) j = S at *
        have hS1 : S.length ≤ 1048575 := by omega
        have erow : rowZ (S ++ [(j : Int)]) = .row (S.map PV.i ++ [PV.v (.int .i64 j)]) 1 3 false := by rw [rowZ, List.map_append]; rfl
        simp -implicitDefEqProofs (disch := omega) [List.getElem?_cons_zero, List.getElem?_cons_succ, wrap_id, hjn, hLl, hjl, h0, hS1]
        exact round_end [0, 1, 2, 3] [38, 37, 36, 14, 13, 12, 11, 3, 2] hjn rfl (by rw [hps, erow, List.length_append]; rfl)
      · have hd : negB L j = false := by rw [negB, hgd]; exact decide_eq_false h0
        rw [hd] at hps
        simp only [Bool.false_eq_true, if_false, List.append_nil] at hps
        simp -implicitDefEqProofs (disch := omega) [List.getElem?_cons_zero, List.getElem?_cons_succ, wrap_id, hjn, hLl, hjl, h0]
        exact round_end [0, 1, 2, 3] [38, 37, 36, 14, 13, 12, 11, 3, 2] hjn rfl (by rw [hps]; rfl)
    have hjn' : n = j := by omega
    subst hjn'
    have hpm := fun x => selK_mem (p := negB L) (k := n) (x := x)
    cases hP : selK (negB L) n with
    | nil =>
      simp -implicitDefEqProofs (disch := omega) [List.getElem?_cons_zero, List.getElem?_cons_succ, wrap_id, hP]
      refine finQ [2] trivial rfl rfl rfl rfl ⟨true, s, ⟨fun _ => hwin fun v hv => ?_, fun _ => rfl⟩, rfl, rfl⟩
      by_cases hc : 0 ≤ L.getD v 0
      · exact hc
      · have := (hpm v).2 ⟨v, rfl, hv, decide_eq_true (by omega)⟩
        rw [hP] at this
        cases this
    | cons y P =>
      rw [hP] at hpl
      have hp1 : ((P.length : Int) + 1 = 0) = False := eq_false (by omega)
      obtain ⟨v, rfl, hv, hpv⟩ := (hpm y).1 (by rw [hP]; simp)
      have hLv : L.getD v 0 < 0 := of_decide_eq_true hpv
      obtain ⟨M, hM⟩ : ∃ M, M = maxK s (s.length - 1) := ⟨_, rfl⟩
      have hMg := maxK_ge s (s.length - 1)
      have hMl := maxK_le s (B := -1) (s.length - 1)
      rw [← hM] at hMg hMl
      simp -implicitDefEqProofs (disch := omega) [List.getElem?_cons_zero, List.getElem?_cons_succ, wrap_id, hP, hp1]
      refine HC_of_PC (by simp [views, view, viewC, ownEls, hsl]) (dmax_ok s (by omega) (by omega)) ?_
      rw [← hM]
      by_cases hMn : M < 0
      · simp -implicitDefEqProofs (disch := omega) [List.getElem?_cons_zero, List.getElem?_cons_succ, wrap_id, hMn]
        exact finQ [2] trivial rfl rfl rfl rfl ⟨false, s, ⟨fun e => Bool.noConfusion e, fun hw => absurd hw (hlose fun u hu => by have := hMg u (by omega); omega)⟩, rfl, rfl⟩
      obtain ⟨w, hw, hw0⟩ : ∃ w, w < n ∧ s.getD w 0 = 0 := by
        by_cases hc : ∃ w, w < n ∧ s.getD w 0 = 0
        · exact hc
        · have := hMl fun i hi => by
            by_cases e : s.getD i 0 = 0
            · exact absurd ⟨i, by omega, e⟩ hc
            · have := hI.neg i; omega
          omega
      have hk2 := hfew w hw hw0
      have hk1 : ((k : Int) = 1048576) = False := eq_false (by omega)
      have hsv : s[v]? = some (s.getD v 0) := by rw [List.getElem?_eq_getElem (by omega), getD_get (by omega)]
      obtain ⟨t, ht⟩ : ∃ t, t = s.getD v 0 := ⟨_, rfl⟩
      have hstep' := hstep v hv hLv
      have h2 := htwo v hv
      rw [← ht] at hsv hstep' h2
      have htb : -25000 ≤ t ∧ t ≤ 0 := by
        have a1 := hI.neg v
        have a2 := (eff_le (n := n) (D := fun u => 0 - s.getD u 0) fun u _ => by have := hI.neg u; (try dsimp only); omega).2 v hv
        have a3 := sumN_sub' (fun _ => 0) (fun v => s.getD v 0) n
        (try dsimp only at a2 a3)
        rw [sumN_zero, hI.sum] at a3
        omega
      have er : rowZ ((v : Int) :: P) = .row (PV.v (.int .i64 v) :: P.map PV.i) 1 3 false := rfl
      have es' : rowZ s = .row (s.map PV.i) 1 3 false := rfl
      simp -implicitDefEqProofs (disch := omega) [List.getElem?_cons_zero, List.getElem?_cons_succ, wrap_id, hMn, hk1, hp1, hP, er, es', hsl, hv, hsv, -getElem?_pos]
      refine borrow_hc hs.g hv hLl (hLb.mono (by omega)) rfl fun Z => ?_
      rw [h2]
      simp -implicitDefEqProofs (disch := omega) [List.getElem?_cons_zero, List.getElem?_cons_succ, wrap_id]
      refine round_end' (by omega) (Wk_norm [0, 1, 2] [13, 12, 11, 3, 2] ?_) ⟨_, hstep', ?_⟩
      · simp [okσ, nodupB, firstB]
      · have e2 : rowZ (s.set v (t - 1)) = .row ((s.map PV.i).set v (PV.v (.int .i64 (t - 1)))) 1 3 false := by rw [rowZ, List.map_set]
        rw [e2]; rfl
end
end Go.Proofs.YtpnbahmhdhjndaaGreat
end
