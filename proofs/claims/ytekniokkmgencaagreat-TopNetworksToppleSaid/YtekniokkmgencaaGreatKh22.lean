/-
  Texts joined: Il Io Iaa Ip Mrc.
-/
import Derived.Test.YtekniokkmgencaaGreatKh21

section
set_option linter.unusedSimpArgs false
set_option linter.unusedVariables false
namespace Go.Proofs.YtekniokkmgencaaGreat
open Go.Abs Go.Sand
theorem call_b1 : callable Tryz.prog 45 = true := by kernel_rfl
theorem call_w1 : callable Tryz.prog 51 = true := by kernel_rfl
theorem call_w2 : callable Tryz.prog 53 = true := by kernel_rfl
theorem nz_ok (k : Int) : PC Tryz.prog 53 [.i k] (.b (!decide (k = 0))) [] := by
  refine PC_of_W cfn53 ?_
  simp -implicitDefEqProofs (disch := omega) [c53, List.getElem?_cons_zero, List.getElem?_cons_succ, wrap_id]
  (refine fin0 trivial rfl ?_; simp -implicitDefEqProofs (disch := omega) [List.getElem?_cons_zero, List.getElem?_cons_succ, idx, wrap_id])
theorem any_range {p : Nat → Bool} {n : Nat} : (List.range n).any p = true ↔ ∃ k, k < n ∧ p k = true := by simp [List.any_eq_true]
section
variable {R : List (List Rl)} {fs : List Int} {m : Nm → Nat} {off : Nat → Nat} {w : WS} {H : List AO} {K : AV → List AO → Prop}
theorem busy1_hc (h : WH R fs m off w H) {k : Nat} (hk : k < R.length * R.length) (hK : K (.b (decide (0 < (lnAt w k).q))) H) : HC Tryz.prog false 45 [.ptr (m (.lb k)) 1 0 0] H K := by
  obtain ⟨l, hl⟩ : ∃ l, l = lnAt w k := ⟨_, rfl⟩
  have hB := h.at' (.lb k) hk
  have hQ := h.at' (.qr k) hk
  simp only [hpC, ← hl] at hB hQ
  rw [← hl] at hK
  refine HC_of_W (af := _) ((by exact cfn45 : cfn _ _ _ = some _)) ?_
  simp -implicitDefEqProofs (disch := omega) [c45, List.getElem?_cons_zero, List.getElem?_cons_succ, wrap_id, hB, hQ]
  exact finH trivial rfl hK
theorem idxl_hc (h : WH R fs m off w H) (hn : R.length ≤ 12) (hK : ∀ r : Int, (0 ≤ r ↔ (List.range (R.length * R.length)).any (fun k => decide (0 < (lnAt w k).q)) = true) → K (.i r) H) :
    HC Tryz.prog false 76 [.os (m .Ln) 0 (R.length * R.length), .fn (.func 45) [] []] H K := by
  have hL := h.at' .Ln trivial
  simp only [hpC] at hL
  obtain ⟨N, hN⟩ : ∃ N, N = R.length * R.length := ⟨_, rfl⟩
  have hnn : N ≤ 144 := by rw [hN]; exact Nat.mul_le_mul hn hn
  rw [← hN] at hL hK ⊢
  refine HC_of_W (af := _) ((by exact cfn76 : cfn _ _ _ = some _)) ?_
  simp -implicitDefEqProofs (disch := omega) [c76, List.getElem?_cons_zero, List.getElem?_cons_succ, wrap_id, hL]
  refine loopW N (fun k s => s = ⟨[(8, .i k), (7, .i N), (6, .os (m .Ln) 0 N), (0, .os (m .Ln) 0 N), (1, .fn (.func 45) [] [])], H⟩ ∧ ∀ i, i < k → (lnAt w i).q = 0) (Wk_keep [8, 7, 6, 0, 1]) ⟨rfl, fun i hi => by omega⟩ ?_
  rintro k s hk ⟨rfl, hI⟩
  by_cases hlt : k < N
  · have hrz : (List.range N)[k]? = some k := List.getElem?_range hlt
    simp -implicitDefEqProofs (disch := omega) [List.getElem?_cons_zero, List.getElem?_cons_succ, wrap_id, hlt, hL, hrz, call_b1]
    refine busy1_hc h (by rw [← hN]; exact hlt) ?_
    by_cases c : 0 < (lnAt w k).q
    · simp -implicitDefEqProofs (disch := omega) [List.getElem?_cons_zero, List.getElem?_cons_succ, wrap_id, c]
      exact finH trivial rfl (hK _ ⟨fun _ => any_range.2 ⟨k, hlt, by simpa using c⟩, fun _ => by omega⟩)
    · simp -implicitDefEqProofs (disch := omega) [List.getElem?_cons_zero, List.getElem?_cons_succ, wrap_id, c]
      refine round_keep [8, 7, 6, 0, 1] hlt ⟨rfl, fun i hi => ?_⟩
      by_cases e : i = k
      · rw [e]; omega
      · exact hI i (by omega)
  · obtain rfl : k = N := by omega
    simp -implicitDefEqProofs (disch := omega) [List.getElem?_cons_zero, List.getElem?_cons_succ, wrap_id]
    refine finH trivial rfl (hK _ ⟨fun h => by omega, fun h => ?_⟩)
    obtain ⟨i, hi, hp⟩ := any_range.1 h
    have := hI i hi
    simp [this] at hp
theorem hasl_hc (h : WH R fs m off w H) (hn : R.length ≤ 12) (hK : K (.b ((List.range (R.length * R.length)).any (fun k => decide (0 < (lnAt w k).q)))) H) :
    HC Tryz.prog false 44 [.os (m .Ln) 0 (R.length * R.length), .fn (.func 45) [] []] H K := by
  refine HC_of_W (af := _) ((by exact cfn44 : cfn _ _ _ = some _)) ?_
  simp -implicitDefEqProofs (disch := omega) [c44, List.getElem?_cons_zero, List.getElem?_cons_succ, wrap_id]
  refine idxl_hc h hn fun r hr => ?_
  by_cases c : 0 ≤ r
  · rw [hr.1 c] at hK
    simp -implicitDefEqProofs (disch := omega) [List.getElem?_cons_zero, List.getElem?_cons_succ, wrap_id, c]
    exact finH trivial rfl hK
  · have : (List.range (R.length * R.length)).any (fun k => decide (0 < (lnAt w k).q)) = false := by
      cases hx : (List.range (R.length * R.length)).any (fun k => decide (0 < (lnAt w k).q))
      · rfl
      · exact absurd (hr.2 hx) c
    rw [this] at hK
    simp -implicitDefEqProofs (disch := omega) [List.getElem?_cons_zero, List.getElem?_cons_succ, wrap_id, c]
    exact finH trivial rfl hK
theorem idx1_hc {o : Nat} {k : Int} (ho : H[o]? = some (rowQ [k])) (hK : K (.i (if k = 0 then -1 else 0)) H) :
    HC Tryz.prog false 78 [.os o 0 1, .fn (.func 53) [] []] H K := by
  refine HC_of_W (af := _) ((by exact cfn78 : cfn _ _ _ = some _)) ?_
  simp -implicitDefEqProofs (disch := omega) [c78, List.getElem?_cons_zero, List.getElem?_cons_succ, wrap_id, ho]
  refine loopW 1 (fun j s => s = ⟨[(8, .i j), (7, .i 1), (6, .os o 0 1), (0, .os o 0 1), (1, .fn (.func 53) [] [])], H⟩ ∧ (j = 1 → k = 0)) (Wk_keep [8, 7, 6, 0, 1]) ⟨rfl, fun h => by omega⟩ ?_
  rintro j s hj ⟨rfl, hI⟩
  by_cases hlt : j < 1
  · obtain rfl : j = 0 := by omega
    simp -implicitDefEqProofs (disch := omega) [List.getElem?_cons_zero, List.getElem?_cons_succ, wrap_id, ho, call_w2]
    refine HC_of_PC rfl (nz_ok k) ?_
    by_cases c : k = 0
    · simp -implicitDefEqProofs (disch := omega) [List.getElem?_cons_zero, List.getElem?_cons_succ, wrap_id, c]
      exact round_keep [8, 7, 6, 0, 1] hlt (by first | rfl | exact ⟨rfl, fun _ => c⟩)
    · rw [if_neg c] at hK
      simp -implicitDefEqProofs (disch := omega) [List.getElem?_cons_zero, List.getElem?_cons_succ, wrap_id, c]
      exact finH trivial rfl hK
  · obtain rfl : j = 1 := by omega
    rw [if_pos (hI rfl)] at hK
    simp -implicitDefEqProofs (disch := omega) [List.getElem?_cons_zero, List.getElem?_cons_succ, wrap_id]
    exact finH trivial rfl hK
theorem has1_hc {o : Nat} {k : Int} (ho : H[o]? = some (rowQ [k])) (hK : K (.b (!decide (k = 0))) H) :
    HC Tryz.prog false 52 [.os o 0 1, .fn (.func 53) [] []] H K := by
  refine HC_of_W (af := _) ((by exact cfn52 : cfn _ _ _ = some _)) ?_
  simp -implicitDefEqProofs (disch := omega) [c52, List.getElem?_cons_zero, List.getElem?_cons_succ, wrap_id]
  refine idx1_hc ho ?_
  by_cases c : k = 0
  · rw [if_pos c]
    simp only [c, decide_true, Bool.not_true] at hK
    simp -implicitDefEqProofs (disch := omega) [List.getElem?_cons_zero, List.getElem?_cons_succ, wrap_id]
    exact finH trivial rfl hK
  · rw [if_neg c]
    simp only [c, decide_false, Bool.not_false] at hK
    simp -implicitDefEqProofs (disch := omega) [List.getElem?_cons_zero, List.getElem?_cons_succ, wrap_id]
    exact finH trivial rfl hK
theorem w1_hc {o : Nat} {k : Int} (ho : H[o]? = some (rowQ [k])) (hK : K (.b (!decide (k = 0))) H) : HC Tryz.prog false 51 [.os o 0 1] H K := by
  refine HC_of_W (af := _) ((by exact cfn51 : cfn _ _ _ = some _)) ?_
  simp -implicitDefEqProofs (disch := omega) [c51, List.getElem?_cons_zero, List.getElem?_cons_succ, wrap_id]
  refine has1_hc ho ?_
  simp -implicitDefEqProofs (disch := omega) [List.getElem?_cons_zero, List.getElem?_cons_succ, wrap_id]
  exact finH trivial rfl hK
theorem idxr_hc (h : WH R fs m off w H) (hn : R.length ≤ 12) (hK : ∀ r : Int, (0 ≤ r ↔ (List.range R.length).any (fun p => !decide (w.wt.getD p 0 = 0)) = true) → K (.i r) H) :
    HC Tryz.prog false 85 [.os (m .Wt) 0 R.length, .fn (.func 51) [] []] H K := by
  have hL := h.at' .Wt trivial
  simp only [hpC] at hL
  refine HC_of_W (af := _) ((by exact cfn85 : cfn _ _ _ = some _)) ?_
  simp -implicitDefEqProofs (disch := omega) [c85, List.getElem?_cons_zero, List.getElem?_cons_succ, wrap_id, hL]
  refine loopW R.length (fun k s => s = ⟨[(8, .i k), (7, .i R.length), (6, .os (m .Wt) 0 R.length), (0, .os (m .Wt) 0 R.length), (1, .fn (.func 51) [] [])], H⟩ ∧ ∀ i, i < k → w.wt.getD i 0 = 0) (Wk_keep [8, 7, 6, 0, 1]) ⟨rfl, fun i hi => by omega⟩ ?_
  rintro k s hk ⟨rfl, hI⟩
  by_cases hlt : k < R.length
  · have hrz : (List.range R.length)[k]? = some k := List.getElem?_range hlt
    have hr := h.at' (.wr k) hlt
    simp only [hpC] at hr
    simp -implicitDefEqProofs (disch := omega) [List.getElem?_cons_zero, List.getElem?_cons_succ, wrap_id, hlt, hL, hrz, call_w1]
    refine w1_hc hr ?_
    obtain ⟨v, hv⟩ : ∃ v, v = w.wt.getD k 0 := ⟨_, rfl⟩
    rw [← hv]
    by_cases c : v = 0
    · simp -implicitDefEqProofs (disch := omega) [List.getElem?_cons_zero, List.getElem?_cons_succ, wrap_id, c]
      refine round_keep [8, 7, 6, 0, 1] hlt ⟨rfl, fun i hi => ?_⟩
      by_cases e : i = k
      · have h2 : w.wt.getD i 0 = 0 := by rw [e, ← hv]; exact c
        simpa using h2
      · simpa using hI i (by omega)
    · simp -implicitDefEqProofs (disch := omega) [List.getElem?_cons_zero, List.getElem?_cons_succ, wrap_id, c]
      exact finH trivial rfl (hK _ ⟨fun _ => any_range.2 ⟨k, hlt, by rw [← hv]; simpa using c⟩, fun _ => by omega⟩)
  · obtain rfl : k = R.length := by omega
    simp -implicitDefEqProofs (disch := omega) [List.getElem?_cons_zero, List.getElem?_cons_succ, wrap_id]
    refine finH trivial rfl (hK _ ⟨fun h => by omega, fun h => ?_⟩)
    obtain ⟨i, hi, hp⟩ := any_range.1 h
    have := hI i hi
    exact absurd this (by simpa using hp)
theorem waiting_hc (h : WH R fs m off w H) (hn : R.length ≤ 12) (hK : K (.b ((List.range R.length).any (fun p => !decide (w.wt.getD p 0 = 0)))) H) :
    HC Tryz.prog false 30 [.os (m .Wt) 0 R.length] H K := by
  refine HC_of_W (af := _) ((by exact cfn30 : cfn _ _ _ = some _)) ?_
  simp -implicitDefEqProofs (disch := omega) [c30, List.getElem?_cons_zero, List.getElem?_cons_succ, wrap_id]
  refine HC_of_W (af := _) ((by exact cfn50 : cfn _ _ _ = some _)) ?_
  simp -implicitDefEqProofs (disch := omega) [c50, List.getElem?_cons_zero, List.getElem?_cons_succ, wrap_id]
  refine idxr_hc h hn fun r hr => ?_
  by_cases c : 0 ≤ r
  · rw [hr.1 c] at hK
    simp -implicitDefEqProofs (disch := omega) [List.getElem?_cons_zero, List.getElem?_cons_succ, wrap_id, c]
    refine finH trivial rfl ?_
    simp -implicitDefEqProofs (disch := omega) [List.getElem?_cons_zero, List.getElem?_cons_succ, wrap_id]
    exact finH trivial rfl hK
  · have : (List.range R.length).any (fun p => !decide (w.wt.getD p 0 = 0)) = false := by
      cases hx : (List.range R.length).any (fun p => !decide (w.wt.getD p 0 = 0))
      · rfl
      · exact absurd (hr.2 hx) c
    rw [this] at hK
    simp -implicitDefEqProofs (disch := omega) [List.getElem?_cons_zero, List.getElem?_cons_succ, wrap_id, c]
    refine finH trivial rfl ?_
    simp -implicitDefEqProofs (disch := omega) [List.getElem?_cons_zero, List.getElem?_cons_succ, wrap_id]
    exact finH trivial rfl hK
def busyR (R : List (List Rl)) (w : WS) : Bool := decide (0 < w.fl.length) || ((List.range (R.length * R.length)).any (fun k => decide (0 < (lnAt w k).q)) || (List.range R.length).any (fun p => !decide (w.wt.getD p 0 = 0)))
theorem busy_hc (h : WH R fs m off w H) {o : Nat} (ho : m .W = o) (hn : R.length ≤ 12) (hK : K (.b (busyR R w)) H) :
    HC Tryz.prog false 27 [.ptr o 1 0 0] H K := by
  subst ho
  have hW := h.at' .W trivial
  have hF := h.at' .Fl trivial
  simp only [hpC] at hW hF
  obtain ⟨b1, hb1⟩ : ∃ b, b = (List.range (R.length * R.length)).any (fun k => decide (0 < (lnAt w k).q)) := ⟨_, rfl⟩
  obtain ⟨b2, hb2⟩ : ∃ b, b = (List.range R.length).any (fun p => !decide (w.wt.getD p 0 = 0)) := ⟨_, rfl⟩
  unfold busyR at hK
  rw [← hb1, ← hb2] at hK
  refine HC_of_W (af := _) ((by exact cfn27 : cfn _ _ _ = some _)) ?_
  by_cases c : 0 < w.fl.length
  · simp -implicitDefEqProofs (disch := omega) [c27, List.getElem?_cons_zero, List.getElem?_cons_succ, wrap_id, hW, hF, c]
    simp only [c, decide_true, Bool.true_or] at hK
    exact finH trivial rfl hK
  · simp -implicitDefEqProofs (disch := omega) [c27, List.getElem?_cons_zero, List.getElem?_cons_succ, wrap_id, hW, hF, c]
    simp only [c, decide_false, Bool.false_or] at hK
    refine hasl_hc h hn ?_
    rw [← hb1]
    cases b1
    · simp -implicitDefEqProofs (disch := omega) [List.getElem?_cons_zero, List.getElem?_cons_succ, wrap_id, hW, hF]
      refine waiting_hc h hn ?_
      rw [← hb2]
      simp -implicitDefEqProofs (disch := omega) [List.getElem?_cons_zero, List.getElem?_cons_succ, wrap_id]
      exact finH trivial rfl hK
    · simp -implicitDefEqProofs (disch := omega) [List.getElem?_cons_zero, List.getElem?_cons_succ, wrap_id, hW, hF]
      exact finH trivial rfl hK
end
end Go.Proofs.YtekniokkmgencaaGreat
end
section
set_option linter.unusedSimpArgs false
set_option linter.unusedVariables false
namespace Go
namespace Abs
open Go.RowKit
theorem Wk_nilE {m0 : Nat} {s : St} (o j : Nat) (ob : AO) (hl0 : ob.len = 0) (hob : ∀ (M : Mem) (k : Nat), M.φ k = none → ObOk M k ob) {x : AV} (ho : s.H[o]? = some (.box x)) (hx : x.flat[j]? = some (.p (.v (.slice none 0 0)))) :
    Wk m0 s ⟨s.t, (s.H ++ [ob]).set o (.box (.agg (x.flat.set j (.os s.H.length 0 0))))⟩ := by
  intro N M0 φ a w hm0 hs
  have hM : MemOk (⟨w, s.H, φ, M0.base, M0.S⟩ : Mem) := hs.m
  have hlo := (List.getElem?_eq_some_iff.1 ho).1
  have hle := Le.grow (M := ⟨w, s.H, φ, M0.base, M0.S⟩) (ob := ob) (nb := none) hM (Nat.le_refl _) (fun _ _ => rfl) (fun b h => by cases h)
  have hM2 := MemOk.grow (M := ⟨w, s.H, φ, M0.base, M0.S⟩) (ob := ob) (nb := none) hM (Nat.le_refl _) (fun _ _ => rfl) (fun b h => by cases h) (hob _ _ (upd_at _ _ _))
  obtain ⟨M1, hM1⟩ : ∃ M1 : Mem, M1 = ⟨w, s.H ++ [ob], upd φ s.H.length none, M0.base, M0.S⟩ := ⟨_, rfl⟩
  have ho1 : M1.H[o]? = some (.box x) := by rw [hM1]; dsimp only; rw [List.getElem?_append_left hlo]; exact ho
  have hMM : MemOk M1 := by rw [hM1]; exact hM2
  have hLL : Le ⟨w, s.H, φ, M0.base, M0.S⟩ M1 := by rw [hM1]; exact hle
  have hw1 : M1.w = w := by rw [hM1]
  obtain ⟨b, cur, tt, hb, hh, hc1, hc2⟩ := hMM.ok o _ ho1
  have hturn := Le.turn (ob' := .box (.agg (x.flat.set j (.os s.H.length 0 0)))) (w' := M1.w) (nb := M1.φ o) hMM ho1 rfl (Nat.le_refl _) (fun _ _ _ => rfl) (.inl rfl) rfl (Nat.le_refl _) (fun _ => ⟨rfl, rfl, fun _ _ => rfl⟩)
  have hos : RA ⟨M1.w, M1.H.set o (.box (.agg (x.flat.set j (.os s.H.length 0 0)))), upd M1.φ o (M1.φ o), M1.base, M1.S⟩ (.os s.H.length 0 0) (.slice none 0 0) := by
    refine .os _ _ _ _ ⟨ob, ?_, by omega, fun _ t' _ => .inl (.inl ⟨?_, rfl, rfl, rfl⟩)⟩
    · dsimp only
      rw [List.getElem?_set_ne (by omega), hM1]
      simp
    · simp only [upd]
      rw [if_neg (by omega), hM1]
      exact upd_at _ _ _
  have hcells : CellsOk ⟨M1.w, M1.H.set o (.box (.agg (x.flat.set j (.os s.H.length 0 0)))), upd M1.φ o (M1.φ o), M1.base, M1.S⟩ (x.flat.set j (.os s.H.length 0 0)) cur := by
    refine ⟨by rw [List.length_set]; exact hc1, fun i hi => ?_⟩
    have hi' : i < x.flat.length := by simpa using hi
    obtain ⟨c, k1, k2, k3⟩ := hc2 i hi'
    by_cases e : j = i
    · subst e
      have hxx : x.flat[j] = .p (.v (.slice none 0 0)) := by rw [List.getElem?_eq_getElem hi'] at hx; exact Option.some.inj hx
      rw [hxx] at k2
      refine ⟨c, k1, ?_, k3⟩
      rw [List.getElem_set_self, k2.lit.1]
      exact hos
    · refine ⟨c, k1, ?_, k3⟩
      rw [List.getElem_set_ne e]
      exact k2.mono hturn
  have hmt := MemOk.turn (ob' := .box (.agg (x.flat.set j (.os s.H.length 0 0)))) (w' := M1.w) (nb := M1.φ o) hMM ho1 rfl (Nat.le_refl _) (fun _ _ _ => rfl) (.inl rfl) rfl (Nat.le_refl _) (fun _ => ⟨rfl, rfl, fun _ _ => rfl⟩)
    ⟨b, cur, tt, by simp [upd, hb], hh, hcells⟩
  have hH : M1.H.set o (.box (.agg (x.flat.set j (.os s.H.length 0 0)))) = (s.H ++ [ob]).set o (.box (.agg (x.flat.set j (.os s.H.length 0 0)))) := by rw [hM1]
  have hdd : DOk M0 ⟨w, (s.H ++ [ob]).set o (.box (.agg (x.flat.set j (.os s.H.length 0 0)))), upd M1.φ o (M1.φ o), M0.base, M0.S⟩ a.defers := by
    have h3 := hLL.trans hturn
    have e1 : M1.base = M0.base := by rw [hM1]
    have e2 : M1.S = M0.S := by rw [hM1]
    rw [hw1, e1, e2] at h3
    rw [← hH]
    exact hs.d.mono h3.sh
  refine ⟨upd M1.φ o (M1.φ o), hdd, hs.n, ?_, fun i => ?_, hs.b, ?_⟩
  · rw [← hH]
    have e1 : M1.base = M0.base := by rw [hM1]
    have e2 : M1.S = M0.S := by rw [hM1]
    rw [hw1, e1, e2] at hmt
    exact hmt
  · have := ((hs.r i).mono hLL).mono hturn
    have e1 : M1.base = M0.base := by rw [hM1]
    have e2 : M1.S = M0.S := by rw [hM1]
    rw [hw1, e1, e2] at this
    rw [← hH]
    exact this
  · have h3 := (hs.le.trans hLL).trans hturn
    have e1 : M1.base = M0.base := by rw [hM1]
    have e2 : M1.S = M0.S := by rw [hM1]
    rw [hw1, e1, e2] at h3
    rw [← hH]
    exact h3
end Abs
end Go
end
section
set_option linter.unusedSimpArgs false
set_option linter.unusedVariables false
namespace Go.Proofs.YtekniokkmgencaaGreat
open Go.Abs Go.Sand
theorem nilE_r {m0 : Nat} {s : St} (o j sz : Nat) (t : TypeId) {x : AV} (ho : s.H[o]? = some (.box x)) (hx : x.flat[j]? = some (.p (.v (.slice none 0 0)))) :
    Wk m0 s ⟨s.t, (s.H ++ [AO.row [] sz t false]).set o (.box (.agg (x.flat.set j (.os s.H.length 0 0))))⟩ :=
  Wk_nilE o j (.row [] sz t false) rfl (fun M k hk => ⟨fun e he => (by cases he), .inl ⟨hk, rfl⟩⟩) ho hx
theorem nilE_t {m0 : Nat} {s : St} (o j : Nat) (t : TypeId) {x : AV} (ho : s.H[o]? = some (.box x)) (hx : x.flat[j]? = some (.p (.v (.slice none 0 0)))) :
    Wk m0 s ⟨s.t, (s.H ++ [AO.tab [] t false]).set o (.box (.agg (x.flat.set j (.os s.H.length 0 0))))⟩ :=
  Wk_nilE o j (.tab [] t false) rfl (fun M k hk => Or.inl ⟨hk, rfl⟩) ho hx
theorem nilE_a {m0 : Nat} {s : St} (o j sz : Nat) (t : TypeId) {x : AV} (ho : s.H[o]? = some (.box x)) (hx : x.flat[j]? = some (.p (.v (.slice none 0 0)))) :
    Wk m0 s ⟨s.t, (s.H ++ [AO.arr [] sz t]).set o (.box (.agg (x.flat.set j (.os s.H.length 0 0))))⟩ :=
  Wk_nilE o j (.arr [] sz t) rfl (fun M k hk => ⟨fun e he => (by cases he), .inl ⟨hk, rfl⟩⟩) ho hx
def vB (P C L : Nat) : Nm → Prop
  | .wr p => p < P
  | .cr p => p < C
  | .lb k | .qr k => k < L
  | _ => True
abbrev wbA (x : Net) (fs : List Int) (m : Nm → Nat) (P C L : Nat) : AV :=
  .agg [.p (.sl (x.rules.map procP)), .os (m .St) 0 x.rules.length, .os (m .Wt) 0 P, .os (m .Cn) 0 C, .os (m .Ln) 0 L, .p (.is fs), .os (m .Fl) 0 0, .p (.i 0), .p (.i 0), .p (.b false)]
def ln0 (n k : Nat) : Ln := ⟨0, 0, 0, k / n, k % n, 0⟩
def hpB (x : Net) (fs : List Int) (m : Nm → Nat) (P C L : Nat) : Nm → AO
  | .W => .box (wbA x fs m P C L)
  | .St => .row (x.st.map fun (k : Nat) => PV.i (k : Int)) 1 3 false
  | .Wt => .tab ((List.range P).map fun p => .os (m (.wr p)) 0 1) 25 false
  | .wr p => rowQ [x.wt.getD p 0]
  | .Cn => .tab ((List.range C).map fun p => .os (m (.cr p)) 0 1) 25 false
  | .cr _ => rowQ [0]
  | .Ln => .tab ((List.range L).map fun k => .ptr (m (.lb k)) 1 0 0) 99 false
  | .lb k => .box (lnA (m (.qr k)) 0 (ln0 x.rules.length k))
  | .qr _ => rowQ []
  | .Fl => .arr [] 2 144
structure BH (x : Net) (fs : List Int) (b : Nat) (H0 : List AO) (m : Nm → Nat) (P C L : Nat) (H : List AO) : Prop where
  inj : ∀ y z, vB P C L y → vB P C L z → m y = m z → y = z
  at' : ∀ y, vB P C L y → H[m y]? = some (hpB x fs m P C L y)
  lo : ∀ y, vB P C L y → b ≤ m y
  le : b ≤ H.length
  old : ∀ o, o < b → H[o]? = H0[o]?
def upN (m : Nm → Nat) (y : Nm) (o : Nat) : Nm → Nat := fun z => if z = y then o else m z
section
variable {x : Net} {fs : List Int} {b : Nat} {H0 : List AO} {m : Nm → Nat} {P C L : Nat} {H H' : List AO}
theorem BH.lt (h : BH x fs b H0 m P C L H) {y : Nm} (hy : vB P C L y) : m y < H.length := (List.getElem?_eq_some_iff.1 (h.at' y hy)).1
theorem BH.ne (h : BH x fs b H0 m P C L H) {y z : Nm} (hy : vB P C L y) (hz : vB P C L z) (hn : y ≠ z) : ¬ m y = m z := fun e => hn (h.inj y z hy hz e)
theorem BH.keep (h : BH x fs b H0 m P C L H) (hle : b ≤ H'.length) (hk : ∀ i, i < H.length → H'[i]? = H[i]?) : BH x fs b H0 m P C L H' :=
  ⟨h.inj, fun y hy => (hk _ (h.lt hy)).trans (h.at' y hy), h.lo, hle, fun o ho => (hk o (by have := h.le; omega)).trans (h.old o ho)⟩
theorem upN_inj (h : BH x fs b H0 m P C L H) {V : Nm → Prop} {y : Nm} {o : Nat} (ho : H.length ≤ o) (hV : ∀ z, V z → z ≠ y → vB P C L z) : ∀ z z', V z → V z' → upN m y o z = upN m y o z' → z = z' := by
  intro z z' hz hz' e
  unfold upN at e
  by_cases c1 : z = y
  · by_cases c2 : z' = y
    · rw [c1, c2]
    · rw [if_pos c1, if_neg c2] at e
      have := h.lt (hV z' hz' c2); omega
  · by_cases c2 : z' = y
    · rw [if_neg c1, if_pos c2] at e
      have := h.lt (hV z hz c1); omega
    · rw [if_neg c1, if_neg c2] at e
      exact h.inj z z' (hV z hz c1) (hV z' hz' c2) e
theorem range_upN (f : Nat → Nm) (hf : ∀ i j, f i = f j → i = j) (g : Nat → AV) (o : Nat) (n : Nat) : (List.range (n + 1)).map (fun p => g (upN m (f n) o (f p))) = (List.range n).map (fun p => g (m (f p))) ++ [g o] := by
  rw [List.range_succ, List.map_append, List.map_singleton]
  congr 1
  · refine List.map_congr_left fun p hp => ?_
    have := List.mem_range.1 hp
    unfold upN
    rw [if_neg (fun e => by have := hf _ _ e; omega)]
  · unfold upN; rw [if_pos rfl]
theorem BH.wr (h : BH x fs b H0 m P C L H) {o : Nat} (ho : H.length ≤ o) (hle : b ≤ H'.length) (hk : ∀ i, i < H.length → ¬ i = m .Wt → ¬ i = m .W → H'[i]? = H[i]?)
    (h1 : H'[o]? = some (rowQ [x.wt.getD P 0])) (h2 : H'[m .Wt]? = some (.tab ((List.range P).map (fun p => AV.os (m (.wr p)) 0 1) ++ [.os o 0 1]) 25 false)) (h3 : H'[m .W]? = some (.box (wbA x fs m (P + 1) C L))) :
    BH x fs b H0 (upN m (.wr P) o) (P + 1) C L H' := by
  have hV : ∀ z, vB (P + 1) C L z → z ≠ .wr P → vB P C L z := fun z hz hn => by
    cases z with
    | wr p => have : p ≠ P := fun e => hn (by rw [e]); simp only [vB] at hz ⊢; omega
    | _ => exact hz
  refine ⟨upN_inj h ho hV, fun y hy => ?_, fun y hy => ?_, hle, fun i hi => ?_⟩
  · by_cases e : y = .wr P
    · subst e
      simp only [upN, if_true]
      exact h1
    · have hy' := hV y hy e
      have hm : upN m (.wr P) o y = m y := if_neg e
      rw [hm]
      cases y with
      | W => rw [h3]; rfl
      | Wt => rw [h2]; exact congrArg some (congrArg (fun l => AO.tab l 25 false) (range_upN (m := m) Nm.wr (fun i j e => by cases e; rfl) (fun a => AV.os a 0 1) o P).symm)
      | _ => rw [hk _ (h.lt hy') (h.ne hy' trivial (by simp)) (h.ne hy' trivial (by simp)), h.at' _ hy']; rfl
  · unfold upN; split
    · have := h.le; omega
    · rename_i e; exact h.lo y (hV y hy e)
  · rw [hk i (by have := h.le; omega) (by have := h.lo .Wt trivial; omega) (by have := h.lo .W trivial; omega)]
    exact h.old i hi
theorem BH.cr (h : BH x fs b H0 m P C L H) {o : Nat} (ho : H.length ≤ o) (hle : b ≤ H'.length) (hk : ∀ i, i < H.length → ¬ i = m .Cn → ¬ i = m .W → H'[i]? = H[i]?)
    (h1 : H'[o]? = some (rowQ [0])) (h2 : H'[m .Cn]? = some (.tab ((List.range C).map (fun p => AV.os (m (.cr p)) 0 1) ++ [.os o 0 1]) 25 false)) (h3 : H'[m .W]? = some (.box (wbA x fs m P (C + 1) L))) :
    BH x fs b H0 (upN m (.cr C) o) P (C + 1) L H' := by
  have hV : ∀ z, vB P (C + 1) L z → z ≠ .cr C → vB P C L z := fun z hz hn => by
    cases z with
    | cr p => have : p ≠ C := fun e => hn (by rw [e]); simp only [vB] at hz ⊢; omega
    | _ => exact hz
  refine ⟨upN_inj h ho hV, fun y hy => ?_, fun y hy => ?_, hle, fun i hi => ?_⟩
  · by_cases e : y = .cr C
    · subst e
      simp only [upN, if_true]
      exact h1
    · have hy' := hV y hy e
      have hm : upN m (.cr C) o y = m y := if_neg e
      rw [hm]
      cases y with
      | W => rw [h3]; rfl
      | Cn => rw [h2]; exact congrArg some (congrArg (fun l => AO.tab l 25 false) (range_upN (m := m) Nm.cr (fun i j e => by cases e; rfl) (fun a => AV.os a 0 1) o C).symm)
      | _ => rw [hk _ (h.lt hy') (h.ne hy' trivial (by simp)) (h.ne hy' trivial (by simp)), h.at' _ hy']; rfl
  · unfold upN; split
    · have := h.le; omega
    · rename_i e; exact h.lo y (hV y hy e)
  · rw [hk i (by have := h.le; omega) (by have := h.lo .Cn trivial; omega) (by have := h.lo .W trivial; omega)]
    exact h.old i hi
theorem BH.line (h : BH x fs b H0 m P C L H) {o o2 : Nat} (ho : H.length ≤ o) (ho2 : H.length ≤ o2) (hoo : o ≠ o2) (hle : b ≤ H'.length) (hk : ∀ i, i < H.length → ¬ i = m .Ln → ¬ i = m .W → H'[i]? = H[i]?)
    (h1 : H'[o]? = some (.box (lnA o2 0 (ln0 x.rules.length L)))) (h4 : H'[o2]? = some (rowQ [])) (h2 : H'[m .Ln]? = some (.tab ((List.range L).map (fun p => AV.ptr (m (.lb p)) 1 0 0) ++ [.ptr o 1 0 0]) 99 false)) (h3 : H'[m .W]? = some (.box (wbA x fs m P C (L + 1)))) :
    BH x fs b H0 (upN (upN m (.lb L) o) (.qr L) o2) P C (L + 1) H' := by
  have hV : ∀ z, vB P C (L + 1) z → z ≠ .lb L → z ≠ .qr L → vB P C L z := fun z hz hn hn2 => by
    cases z with
    | lb p => have : p ≠ L := fun e => hn (by rw [e]); simp only [vB] at hz ⊢; omega
    | qr p => have : p ≠ L := fun e => hn2 (by rw [e]); simp only [vB] at hz ⊢; omega
    | _ => exact hz
  have hm0 : ∀ y, y ≠ .lb L → y ≠ .qr L → upN (upN m (.lb L) o) (.qr L) o2 y = m y := fun y e1 e2 => by unfold upN; rw [if_neg e2, if_neg e1]
  have hm1 : upN (upN m (.lb L) o) (.qr L) o2 (.lb L) = o := by simp [upN]
  have hm2 : upN (upN m (.lb L) o) (.qr L) o2 (.qr L) = o2 := by simp [upN]
  refine ⟨fun y z hy hz e => ?_, fun y hy => ?_, fun y hy => ?_, hle, fun i hi => ?_⟩
  · by_cases c1 : y = .lb L
    · by_cases c2 : z = .lb L
      · rw [c1, c2]
      · by_cases c3 : z = .qr L
        · rw [c1, c3, hm1, hm2] at e; exact absurd e hoo
        · rw [c1, hm1, hm0 z c2 c3] at e; have := h.lt (hV z hz c2 c3); omega
    · by_cases c1' : y = .qr L
      · by_cases c2 : z = .lb L
        · rw [c1', c2, hm1, hm2] at e; exact absurd e.symm hoo
        · by_cases c3 : z = .qr L
          · rw [c1', c3]
          · rw [c1', hm2, hm0 z c2 c3] at e; have := h.lt (hV z hz c2 c3); omega
      · have := h.lt (hV y hy c1 c1')
        by_cases c2 : z = .lb L
        · rw [c2, hm1, hm0 y c1 c1'] at e; omega
        · by_cases c3 : z = .qr L
          · rw [c3, hm2, hm0 y c1 c1'] at e; omega
          · rw [hm0 y c1 c1', hm0 z c2 c3] at e
            exact h.inj y z (hV y hy c1 c1') (hV z hz c2 c3) e
  · by_cases e : y = .lb L
    · subst e
      rw [hm1, h1]
      simp only [hpB, hm2]
    · by_cases e2 : y = .qr L
      · subst e2
        rw [hm2, h4]; rfl
      · have hy' := hV y hy e e2
        rw [hm0 y e e2]
        cases y with
        | W => rw [h3]; rfl
        | Ln =>
          rw [h2]
          refine congrArg some (congrArg (fun l => AO.tab l 99 false) ?_)
          rw [← range_upN (m := m) Nm.lb (fun i j e => by cases e; rfl) (fun a => AV.ptr a 1 0 0) o L]
          refine List.map_congr_left fun p _ => ?_
          simp [upN]
        | lb k =>
          rw [hk _ (h.lt hy') (h.ne hy' trivial (by simp)) (h.ne hy' trivial (by simp)), h.at' _ hy']
          simp only [hpB]
          have : k ≠ L := fun c => e (by rw [c])
          rw [hm0 (.qr k) (by simp) (by simpa using this)]
        | _ => rw [hk _ (h.lt hy') (h.ne hy' trivial (by simp)) (h.ne hy' trivial (by simp)), h.at' _ hy']; rfl
  · by_cases e : y = .lb L
    · rw [e, hm1]; have := h.le; omega
    · by_cases e2 : y = .qr L
      · rw [e2, hm2]; have := h.le; omega
      · rw [hm0 y e e2]; exact h.lo y (hV y hy e e2)
  · rw [hk i (by have := h.le; omega) (by have := h.lo .Ln trivial; omega) (by have := h.lo .W trivial; omega)]
    exact h.old i hi
theorem BH.done (h : BH x fs b H0 m x.rules.length x.rules.length (x.rules.length * x.rules.length) H) (hn : 0 < x.rules.length) : WH x.rules fs m (fun _ => 0) (begunS x) H := by
  have hln : ∀ k, k < x.rules.length * x.rules.length → lnAt (begunS x) k = ln0 x.rules.length k := fun k hk => by
    unfold lnAt begunS
    rw [List.getD_eq_getElem?_getD]
    dsimp only
    rw [List.getElem?_map, List.getElem?_range hk]; rfl
  have hv : ∀ y, vN x.rules.length y → vB x.rules.length x.rules.length (x.rules.length * x.rules.length) y := fun y hy => by cases y <;> exact hy
  refine ⟨fun y z hy hz e => h.inj y z (hv y hy) (hv z hz) e, fun y hy => ?_⟩
  rw [h.at' y (hv y hy)]
  cases y with
  | lb k => simp only [hpB, hpC, hln k hy]
  | qr k => simp only [hpB, hpC, hln k hy]; rfl
  | cr p =>
    simp only [hpB, hpC, begunS]
    rw [List.getD_eq_getElem?_getD, List.getElem?_replicate, if_pos (show p < x.rules.length from hy)]; rfl
  | _ => rfl
end
end Go.Proofs.YtekniokkmgencaaGreat
end
section
set_option linter.unusedSimpArgs false
set_option linter.unusedVariables false
namespace Go.Proofs.YtekniokkmgencaaGreat
open Go.Abs Go.Sand
def badF (f : Int) : Bool := decide (f < 0) || decide (3 < f)
def fcheck (fs : List Int) : Int := if 4096 < fs.length then 5 else if fs.any badF then 1 else 0
theorem rfcheck_ok (fs : List Int) (hl : fs.length ≤ 4611686018427387904) : PC Tryz.prog 16 [.is fs] (.i (fcheck fs)) [] := by
  refine PC_of_W cfn16 ?_
  by_cases h1 : 4096 < fs.length
  · have h1' : (4096 : Int) < fs.length := by omega
    simp -implicitDefEqProofs (disch := omega) [c16, List.getElem?_cons_zero, List.getElem?_cons_succ, wrap_id, h1, h1']
    (refine fin0 trivial rfl ?_; simp -implicitDefEqProofs (disch := omega) [List.getElem?_cons_zero, List.getElem?_cons_succ, idx, wrap_id, fcheck, h1])
  have h1' : ¬ (4096 : Int) < fs.length := by omega
  simp -implicitDefEqProofs (disch := omega) [c16, List.getElem?_cons_zero, List.getElem?_cons_succ, wrap_id, h1, h1']
  refine loopW fs.length (fun k s => s = ⟨[(3, .i k), (0, .p (.is fs))], []⟩ ∧ fs.any badF = (fs.drop k).any badF) (wk_norm [] [3, 0] rfl rfl) ⟨rfl, rfl⟩ ?_
  rintro k s hk ⟨rfl, hI⟩
  by_cases hlt : k < fs.length
  · have hd := drop_any badF fs k hlt
    by_cases c1 : fs[k] < 0
    · have hb : badF fs[k] = true := by simp [badF, c1]
      rw [hb, Bool.true_or] at hd
      simp -implicitDefEqProofs (disch := omega) [List.getElem?_cons_zero, List.getElem?_cons_succ, wrap_id, hlt, c1]
      (refine fin0 trivial rfl ?_; simp -implicitDefEqProofs (disch := omega) [List.getElem?_cons_zero, List.getElem?_cons_succ, idx, wrap_id, fcheck, h1, hI, hd])
    · by_cases c2 : 3 < fs[k]
      · have hb : badF fs[k] = true := by simp [badF, c2]
        rw [hb, Bool.true_or] at hd
        simp -implicitDefEqProofs (disch := omega) [List.getElem?_cons_zero, List.getElem?_cons_succ, wrap_id, hlt, c1, c2]
        (refine fin0 trivial rfl ?_; simp -implicitDefEqProofs (disch := omega) [List.getElem?_cons_zero, List.getElem?_cons_succ, idx, wrap_id, fcheck, h1, hI, hd])
      · have hb : badF fs[k] = false := by simp [badF, c1, c2]
        rw [hb, Bool.false_or] at hd
        simp -implicitDefEqProofs (disch := omega) [List.getElem?_cons_zero, List.getElem?_cons_succ, wrap_id, hlt, c1, c2]
        exact round_end [] [3, 0] hlt rfl ⟨rfl, by rw [hI, hd]⟩
  · simp -implicitDefEqProofs (disch := omega) [List.getElem?_cons_zero, List.getElem?_cons_succ, wrap_id, hlt]
    (refine fin0 trivial rfl ?_; simp -implicitDefEqProofs (disch := omega) [List.getElem?_cons_zero, List.getElem?_cons_succ, idx, wrap_id, fcheck, h1, hI, List.drop_of_length_le (Nat.le_of_not_lt hlt)])
theorem cfates_ok (fs : List Int) : PC Tryz.prog 5 [.is fs] (.b (decide (fs.length ≤ 60) && decide (fcheck fs = 0))) [] := by
  refine PC_of_W cfn5 ?_
  by_cases h1 : fs.length ≤ 60
  · have h1' : (fs.length : Int) ≤ 60 := by omega
    simp -implicitDefEqProofs (disch := omega) [c5, List.getElem?_cons_zero, List.getElem?_cons_succ, wrap_id, h1, h1']
    refine HC_of_PC rfl (rfcheck_ok fs (by omega)) ?_
    simp -implicitDefEqProofs (disch := omega) [List.getElem?_cons_zero, List.getElem?_cons_succ, wrap_id]
    (refine fin0 trivial rfl ?_; simp -implicitDefEqProofs (disch := omega) [List.getElem?_cons_zero, List.getElem?_cons_succ, idx, wrap_id, h1])
  · have h1' : ¬ (fs.length : Int) ≤ 60 := by omega
    simp -implicitDefEqProofs (disch := omega) [c5, List.getElem?_cons_zero, List.getElem?_cons_succ, wrap_id, h1, h1']
    (refine fin0 trivial rfl ?_; simp -implicitDefEqProofs (disch := omega) [List.getElem?_cons_zero, List.getElem?_cons_succ, idx, wrap_id, h1])
theorem badf_ok (f : Int) : PC Tryz.prog 75 [.i f] (.b (badF f)) [] := by
  refine PC_of_W cfn75 ?_
  by_cases c1 : f < 0
  · simp -implicitDefEqProofs (disch := omega) [c75, List.getElem?_cons_zero, List.getElem?_cons_succ, wrap_id, c1]
    (refine fin0 trivial rfl ?_; simp -implicitDefEqProofs (disch := omega) [List.getElem?_cons_zero, List.getElem?_cons_succ, idx, wrap_id, badF, c1])
  · simp -implicitDefEqProofs (disch := omega) [c75, List.getElem?_cons_zero, List.getElem?_cons_succ, wrap_id, c1]
    (refine fin0 trivial rfl ?_; simp -implicitDefEqProofs (disch := omega) [List.getElem?_cons_zero, List.getElem?_cons_succ, idx, wrap_id, badF, c1])
end Go.Proofs.YtekniokkmgencaaGreat
end
section
set_option linter.unusedSimpArgs false
namespace Go.Proofs.YtekniokkmgencaaGreat
open Go.Abs Go.Sand
section
variable (N : Int) (es : List Ed) (d s set : List Int) (he : es.length ≤ 1000) (hd : d.length ≤ 4611686018427387904) (hs : s.length ≤ 4611686018427387904) (hset : set.length ≤ 4611686018427387904)
include he hd
end
end Go.Proofs.YtekniokkmgencaaGreat
/-
  Contracts: is a firing legal?
-/
set_option linter.unusedSimpArgs false
namespace Go.Proofs.YtekniokkmgencaaGreat
open Go.Abs Go.Sand
section
variable {f : FuncId} {fs cs : List AV} {H : List AO} {p : Int → Bool} {R : AV → List AO → Prop}
theorem idxfI_ok (xs : List Int) (hx : xs.length ≤ 4611686018427387904) (hc : callable Tryz.prog f = true) (hf : ∀ k ∈ xs, ∀ K, K (.b (p k)) H → HC Tryz.prog false f (fs ++ .i k :: cs) H K) (hR : ∀ i : Int, (0 ≤ i ↔ xs.any p = true) → R (.i i) H) :
    HC Tryz.prog false 78 [.p (.is xs), .fn (.func f) fs cs] H R := by
  refine HC_of_W (af := _) ((by exact cfn78 : cfn _ _ _ = some _)) ?_
  simp -implicitDefEqProofs (disch := omega) [c78, List.getElem?_cons_zero, List.getElem?_cons_succ, wrap_id]
  refine loopW xs.length (fun k s => s = ⟨[(8, .i k), (7, .i xs.length), (6, .p (.is xs)), (0, .p (.is xs)), (1, .fn (.func f) fs cs)], H⟩ ∧ xs.any p = (xs.drop k).any p) (Wk_keep [8, 7, 6, 0, 1]) ⟨rfl, rfl⟩ ?_
  rintro k s hk ⟨rfl, hI⟩
  by_cases hlt : k < xs.length
  · have hd := drop_any p xs k hlt
    simp -implicitDefEqProofs (disch := omega) [List.getElem?_cons_zero, List.getElem?_cons_succ, wrap_id, hlt]
    refine ⟨hc, ?_⟩
    refine hf _ (List.getElem_mem hlt) _ ?_
    cases hv : p xs[k]
    · rw [hv] at hd
      simp -implicitDefEqProofs (disch := omega) [List.getElem?_cons_zero, List.getElem?_cons_succ, wrap_id]
      exact round_keep [8, 7, 6, 0, 1] hlt ⟨rfl, by rw [hI, hd]; rfl⟩
    · rw [hv] at hd
      simp -implicitDefEqProofs (disch := omega) [List.getElem?_cons_zero, List.getElem?_cons_succ, wrap_id]
      exact finH trivial rfl (hR _ (by rw [hI, hd]; simp))
  · simp -implicitDefEqProofs (disch := omega) [List.getElem?_cons_zero, List.getElem?_cons_succ, wrap_id, hlt]
    exact finH trivial rfl (hR _ (by rw [hI, List.drop_of_length_le (Nat.le_of_not_lt hlt)]; simp))
theorem hasfI_ok (xs : List Int) (hx : xs.length ≤ 4611686018427387904) (hc : callable Tryz.prog f = true) (hf : ∀ k ∈ xs, ∀ K, K (.b (p k)) H → HC Tryz.prog false f (fs ++ .i k :: cs) H K) (hR : R (.b (xs.any p)) H) :
    HC Tryz.prog false 52 [.p (.is xs), .fn (.func f) fs cs] H R := by
  refine HC_of_W (af := _) ((by exact cfn52 : cfn _ _ _ = some _)) ?_
  simp -implicitDefEqProofs (disch := omega) [c52, List.getElem?_cons_zero, List.getElem?_cons_succ, wrap_id]
  refine idxfI_ok xs hx hc hf fun i hi => ?_
  by_cases h : 0 ≤ i
  · have hv := hi.1 h
    rw [hv] at hR
    simp -implicitDefEqProofs (disch := omega) [List.getElem?_cons_zero, List.getElem?_cons_succ, wrap_id, h]
    exact finH trivial rfl hR
  · have hv : xs.any p = false := by cases hq : xs.any p; rfl; exact absurd (hi.2 hq) h
    rw [hv] at hR
    simp -implicitDefEqProofs (disch := omega) [List.getElem?_cons_zero, List.getElem?_cons_succ, wrap_id, h]
    exact finH trivial rfl hR
end
end Go.Proofs.YtekniokkmgencaaGreat
/-
  Contracts: is the firing of a set legal?
-/
set_option linter.unusedSimpArgs false
namespace Go.Proofs.YtekniokkmgencaaGreat
open Go.Abs Go.Sand
end Go.Proofs.YtekniokkmgencaaGreat
/-
  Contracts: playing, in package firing.
-/
set_option linter.unusedSimpArgs false
namespace Go.Proofs.YtekniokkmgencaaGreat
open Go.Abs Go.Sand
end Go.Proofs.YtekniokkmgencaaGreat
end
