/-
  Texts joined: Ya Mrc Yc Yb.
-/
import Derived.Test.YtpnbahmhdhjndaaGreatKd16

section
set_option linter.unusedSimpArgs false
set_option linter.unusedVariables false
namespace Go.Proofs.YtpnbahmhdhjndaaGreat
open Go.Abs Go.Sand
def connE (N : Int) (es : List Ed) : Int := if gcheck N es ≠ 0 then gcheck N es else if partsN es N.toNat = 1 then 0 else 13
theorem conn_good {N : Int} {es : List Ed} (h : connE N es = 0) : gcheck N es = 0 ∧ partsN es N.toNat = 1 := by
  unfold connE at h
  split at h
  · rename_i h1; exact absurd h h1
  · rename_i h1
    split at h
    · rename_i h2; exact ⟨Decidable.not_not.1 h1, h2⟩
    · cases h
theorem rconn_ok (n : Nat) (es : List Ed) (hn : n ≤ 12) (hr : ∀ x ∈ es, Right n x) (hel : es.length ≤ 900) : PC Tryz.prog 45 [G n es] (.b (decide (partsN es n = 1))) [] := by
  have hq : (((partsN es n : Nat) : Int) = 1) = (partsN es n = 1) := by simp only [eq_iff_iff]; omega
  refine PC_of_W cfn45 ?_
  simp -implicitDefEqProofs (disch := omega) [c45, List.getElem?_cons_zero, List.getElem?_cons_succ, wrap_id]
  refine HC_of_PC rfl (rparts_ok n es hn hr hel) ?_
  simp -implicitDefEqProofs (disch := omega) [List.getElem?_cons_zero, List.getElem?_cons_succ, wrap_id]
  (refine fin0 trivial rfl ?_; simp -implicitDefEqProofs (disch := omega) [List.getElem?_cons_zero, List.getElem?_cons_succ, idx, wrap_id, hq])
theorem few20_ok (N : Int) (es : List Ed) : PC Tryz.prog 79 [G N es] (.b (smallG N es 5 7)) [] := by
  refine PC_of_W cfn79 ?_
  simp -implicitDefEqProofs (disch := omega) [c79, List.getElem?_cons_zero, List.getElem?_cons_succ, wrap_id]
  refine HC_of_PC rfl (small_ok N es 5 7) ?_
  simp -implicitDefEqProofs (disch := omega) [List.getElem?_cons_zero, List.getElem?_cons_succ, wrap_id]
  (refine fin0 trivial rfl ?_; simp -implicitDefEqProofs (disch := omega) [List.getElem?_cons_zero, List.getElem?_cons_succ, idx, wrap_id])
end Go.Proofs.YtpnbahmhdhjndaaGreat
end
section
set_option linter.unusedSimpArgs false
namespace Go.Proofs.YtpnbahmhdhjndaaGreat
open Go.Abs Go.Sand
section
variable (N : Int) (es : List Ed) (d s set : List Int) (he : es.length ≤ 1000) (hd : d.length ≤ 4611686018427387904) (hs : s.length ≤ 4611686018427387904) (hset : set.length ≤ 4611686018427387904)
include he hd
end
end Go.Proofs.YtpnbahmhdhjndaaGreat
/-
  Contracts: is a firing legal?
-/
set_option linter.unusedSimpArgs false
namespace Go.Proofs.YtpnbahmhdhjndaaGreat
open Go.Abs Go.Sand
section
variable {f : FuncId} {fs cs : List AV} {H : List AO} {p : Int → Bool} {R : AV → List AO → Prop}
end
end Go.Proofs.YtpnbahmhdhjndaaGreat
/-
  Contracts: is the firing of a set legal?
-/
set_option linter.unusedSimpArgs false
namespace Go.Proofs.YtpnbahmhdhjndaaGreat
open Go.Abs Go.Sand
end Go.Proofs.YtpnbahmhdhjndaaGreat
/-
  Contracts: playing, in package firing.
-/
set_option linter.unusedSimpArgs false
namespace Go.Proofs.YtpnbahmhdhjndaaGreat
open Go.Abs Go.Sand
theorem finR {m0 : Nat} {rs : List ARes} {R : AV → List AO → Prop} {s : St} {x : AV} {e : AExit} (σ : List Nat) (he : match e with | .exit _ => False | _ => True) (h : resOf s rs = some x) (hσ : okσ σ m0 s.H = true) (hR : R (x.ren s.H (idx σ 0)) (renH σ s.H)) :
    Abs.Fin m0 rs R e s := ⟨he, .inl ⟨s, x, σ, Wk.refl _ _, h, hσ, hR⟩⟩
end Go.Proofs.YtpnbahmhdhjndaaGreat
end
section
set_option linter.unusedSimpArgs false
set_option linter.unusedVariables false
namespace Go.Proofs.YtpnbahmhdhjndaaGreat
open Go.Abs Go.Sand
/-- The canonical divisor. -/
def canL (n : Nat) (es : List Ed) : List Int := (List.range n).map fun v : Nat => valS es v - 2
theorem canL_len (n : Nat) (es : List Ed) : (canL n es).length = n := by simp [canL]
end Go.Proofs.YtpnbahmhdhjndaaGreat
end
section
set_option linter.unusedSimpArgs false
set_option linter.unusedVariables false
namespace Go.Proofs.YtpnbahmhdhjndaaGreat
open Go.Abs Go.Sand
/-- The canonical divisor, as far as it is written. -/
def canK (n : Nat) (es : List Ed) (k : Nat) : List Int := canL k es ++ List.replicate (n - k) 0
theorem canK_set {n : Nat} {es : List Ed} {k : Nat} (h : k < n) : (canK n es k).set k (valS es k - 2) = canK n es (k + 1) := by
  have hl : (canL k es).length = k := canL_len k es
  unfold canK
  rw [show n - k = (n - (k + 1)) + 1 by omega, List.replicate_succ, List.set_append_right _ _ (by omega), hl, Nat.sub_self, List.set_cons_zero]
  have e : canL (k + 1) es = canL k es ++ [valS es k - 2] := by simp [canL, List.range_succ]
  rw [e, List.append_assoc]; rfl
theorem canK_len {n : Nat} {es : List Ed} {k : Nat} (h : k ≤ n) : (canK n es k).length = n := by
  simp [canK, canL_len]; omega
theorem canK_end (n : Nat) (es : List Ed) : canK n es n = canL n es := by simp [canK]
theorem valences_ok (N : Int) (es : List Ed) : PC Tryz.prog 56 [G N es] (.fn (.func 89) [] [.ptr 0 1 0 0]) [.box (.p (G N es))] := by
  refine PC_of_W cfn56 ?_
  simp -implicitDefEqProofs (disch := omega) [c56, List.getElem?_cons_zero, List.getElem?_cons_succ, wrap_id]
  exact fin1 [0] trivial rfl (by rfl) ⟨rfl, rfl⟩
theorem vals_range {n : Nat} {es : List Ed} (hg : gcheck n es = 0) (hel : es.length ≤ 1000) {gi lp : Nat} {Hk : Nat → List AO} {L : AO} {K : AV → List AO → Prop} (h1 : ∀ k, (Hk k)[gi]? = some (.box (.p (G n es))))
    (h3 : ∀ k, (Hk k)[lp]? = some L) (hL : L.len = 1)
    (hy : ∀ k, k < n → ∀ K' : AV → List AO → Prop, K' (.b true) (Hk (k + 1)) → HY Tryz.prog lp [.i k, .i (valS es k)] (Hk k) K')
    (hK : ∀ r, K r (Hk n)) : HC Tryz.prog false 89 [.yl lp, .ptr gi 1 0 0] (Hk 0) K := by
  have h10 := h1 0
  have hn := (gcheck_ok hg).n12
  refine HC_of_W (af := _) ((by exact cfn89 : cfn _ _ _ = some _)) ?_
  simp -implicitDefEqProofs (disch := omega) [c89, List.getElem?_cons_zero, List.getElem?_cons_succ, wrap_id, h10]
  refine loopW n (fun k s => s = ⟨[(8, .i k), (7, .i n), (0, .yl lp), (1, .ptr gi 1 0 0)], Hk k⟩) (Wk_keep [8, 7, 0, 1]) rfl ?_
  rintro k s hk rfl
  have g1 := h1 k
  have g3 := h3 k
  by_cases hlt : k < n
  · simp -implicitDefEqProofs (disch := omega) [List.getElem?_cons_zero, List.getElem?_cons_succ, wrap_id, hlt, g1]
    refine HC_of_PC rfl (val_ok n es k hg (vtx_iff.2 (by omega)) hel) ?_
    simp -implicitDefEqProofs (disch := omega) [List.getElem?_cons_zero, List.getElem?_cons_succ, wrap_id, g3, hL]
    refine ⟨hL, hy k hlt _ ?_⟩
    simp -implicitDefEqProofs (disch := omega) [List.getElem?_cons_zero, List.getElem?_cons_succ, wrap_id]
    exact round_keep [8, 7, 0, 1] hlt rfl
  · have hkn : k = n := by omega
    subst hkn
    simp -implicitDefEqProofs (disch := omega) [List.getElem?_cons_zero, List.getElem?_cons_succ, wrap_id]
    exact finH trivial rfl (hK _)
/-- The objects while the canonical divisor is written. -/
abbrev canH (n : Nat) (es : List Ed) (lp : AO) (k : Nat) : List AO := [.box (.p (G n es)), rowZ (canK n es k), .box (.os 1 0 n), .box (.p (G n es)), lp]
theorem can_range {n : Nat} {es : List Ed} (hg : gcheck n es = 0) (hel : es.length ≤ 1000) (t : List (Nat × AV)) (ht : Abs.get t 3 = .ptr 2 1 0 0) {K : AV → List AO → Prop}
    (hK : ∀ r, K r (canH n es (.lp 19 t [11, 12] rc27_0a rc27_0c .ready) n)) :
    HC Tryz.prog false 89 [.yl 4, .ptr 3 1 0 0] (canH n es (.lp 19 t [11, 12] rc27_0a rc27_0c .ready) 0) K := by
  refine vals_range hg hel (fun k => rfl) (fun k => rfl) rfl (fun k hk K' hK' => ?_) hK
  have hb := valS_bd (gcheck_ok hg).right (k : Int)
  have hs := canK_set (es := es) hk
  have hl := canK_len (es := es) (Nat.le_of_lt hk)
  have e : rowZ (canK n es (k + 1)) = .row (((canK n es k).map PV.i).set k (.i (valS es k - 2))) 1 3 false := by rw [← hs, rowZ, List.map_set]
  dsimp only [canH] at hK' ⊢
  rw [e] at hK'
  generalize hD : canK n es k = D at *
  generalize hv : valS es (k : Int) = x at *
  have hkD : k < D.length := by omega
  refine HY_of_W rfl rcc27_0a rcc27_0c rfl rfl rfl rfl ?_
  simp -implicitDefEqProofs (disch := omega) [List.getElem?_cons_zero, List.getElem?_cons_succ, wrap_id, ra27_0a, ra27_0c, ht, hl, hkD, hk]
  exact hK'
theorem canon_ok (n : Nat) (es : List Ed) (hg : gcheck n es = 0) (hel : es.length ≤ 900) : PC Tryz.prog 27 [G n es] (.os 0 0 n) [rowZ (canL n es)] := by
  have hgood := gcheck_ok hg
  have hn := hgood.n12
  have hn2 : n ≤ 1048576 := by omega
  have e0 : List.replicate n (PV.v (Value.int .i64 0)) = (canK n es 0).map PV.i := by simp [canK, canL]
  refine PC_of_W cfn27 ?_
  simp -implicitDefEqProofs (disch := omega) [c27, List.getElem?_cons_zero, List.getElem?_cons_succ, wrap_id, hn2]
  refine HC_of_PC rfl (valences_ok n es) ?_
  simp -implicitDefEqProofs (disch := omega) [List.getElem?_cons_zero, List.getElem?_cons_succ, wrap_id, e0]
  refine ⟨by kernel_rfl, can_range hg (by omega) _ rfl fun r => ?_⟩
  refine AfterR_ready rfl ?_
  dsimp only [canH]
  rw [canK_end]
  have hl := canL_len n es
  simp -implicitDefEqProofs (disch := omega) [List.getElem?_cons_zero, List.getElem?_cons_succ, wrap_id]
  exact fin1 [1] trivial rfl (by rfl) ⟨rfl, rfl⟩
theorem joined20_ok (n : Nat) (es : List Ed) (hel : es.length ≤ 900) (hc : connE n es = 0) : PC Tryz.prog 26 [G n es] (.i 0) [] := by
  obtain ⟨hg, hp⟩ := conn_good hc
  rw [Int.toNat_natCast] at hp
  have hr : (rootsL es n).length = 1 := hp
  refine PC_of_W cfn26 ?_
  simp -implicitDefEqProofs (disch := omega) [c26, List.getElem?_cons_zero, List.getElem?_cons_succ, wrap_id]
  refine HC_of_PC rfl (connected_ok n es hel hg) ?_
  simp -implicitDefEqProofs (disch := omega) [List.getElem?_cons_zero, List.getElem?_cons_succ, wrap_id, hr]
  (refine fin0 trivial rfl ?_; simp -implicitDefEqProofs (disch := omega) [List.getElem?_cons_zero, List.getElem?_cons_succ, idx, wrap_id])
theorem canonical_ok (n : Nat) (es : List Ed) (hel : es.length ≤ 900) (hc : connE n es = 0) : PC Tryz.prog 8 [G n es] (.tup [.os 0 0 n, .i 0]) [rowZ (canL n es)] := by
  have hg := (conn_good hc).1
  refine PC_of_W cfn8 ?_
  simp -implicitDefEqProofs (disch := omega) [c8, List.getElem?_cons_zero, List.getElem?_cons_succ, wrap_id]
  refine HC_of_PC rfl (joined20_ok n es hel hc) ?_
  simp -implicitDefEqProofs (disch := omega) [List.getElem?_cons_zero, List.getElem?_cons_succ, wrap_id]
  refine HC_of_PC rfl (canon_ok n es hg hel) ?_
  simp -implicitDefEqProofs (disch := omega) [List.getElem?_cons_zero, List.getElem?_cons_succ, wrap_id]
  exact fin1 [1] trivial rfl (by rfl) ⟨rfl, rfl⟩
end Go.Proofs.YtpnbahmhdhjndaaGreat
end
