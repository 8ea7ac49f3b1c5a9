/-
  Contracts: equivalent orientations.
-/
import Derived.Test.YtjinjbcdbkgedaaMnu
set_option linter.unusedSimpArgs false
set_option linter.unusedVariables false
namespace Go.Proofs.Ytjinjbcdbkgedaa
open Go.Abs Go.Sand

attribute [local simp] app_0 app_i set_0 set_i
attribute [local simp ↓ 10000] lit_shl lit_shr lit_and
theorem aequiv_same (n : Nat) (es : List Ed) (a b : List Bool) (hel : es.length ≤ 1000) (ha : oE n es a = 0) (hb : oE n es b = 0) (hm : a.length ≤ 12) (hs : inL n es b = inL n es a) :
    PC Try.prog 14 [G n es, .bo a, .bo b] (.tup [.b true, .i 0]) [] := by
  obtain ⟨hg, hla⟩ := oE_ok ha
  obtain ⟨_, hlb⟩ := oE_ok hb
  have hgood := gcheck_ok hg
  have hn := hgood.n12
  have hl12 : ¬ (12 : Int) < a.length := by omega
  refine PC_of_W cfn14 ?_
  simp -implicitDefEqProofs (disch := omega) [c14, List.getElem?_cons_zero, List.getElem?_cons_succ, wrap_id]
  refine loopW 2 (fun k s => s = ⟨[(32, .i k), (31, .i 2), (30, .p (.bos [a, b])), (3, .ptr 0 1 0 0), (1, .p (.bo a)), (2, .p (.bo b))], [.box (.p (G n es))]⟩) (wk_norm [0] [32, 31, 30, 3, 1, 2] rfl rfl) rfl ?_
  rintro k s hk rfl
  by_cases hlt : k < 2
  · rcases (by omega : k = 0 ∨ k = 1) with rfl | rfl
    · simp -implicitDefEqProofs (disch := omega) [List.getElem?_cons_zero, List.getElem?_cons_succ, wrap_id]
      refine HC_of_PC rfl (ocheck_ok n es a hel (by omega)) ?_
      simp -implicitDefEqProofs (disch := omega) [List.getElem?_cons_zero, List.getElem?_cons_succ, wrap_id, ha]
      exact round_end [0] [32, 31, 30, 3, 1, 2] hlt rfl rfl
    · simp -implicitDefEqProofs (disch := omega) [List.getElem?_cons_zero, List.getElem?_cons_succ, wrap_id]
      refine HC_of_PC rfl (ocheck_ok n es b hel (by omega)) ?_
      simp -implicitDefEqProofs (disch := omega) [List.getElem?_cons_zero, List.getElem?_cons_succ, wrap_id, hb]
      exact round_end [0] [32, 31, 30, 3, 1, 2] hlt rfl rfl
  · have hk2 : k = 2 := by omega
    subst hk2
    simp -implicitDefEqProofs (disch := omega) [List.getElem?_cons_zero, List.getElem?_cons_succ, wrap_id, hl12]
    refine HC_of_PC rfl (orientations_ok a.length) ?_
    simp -implicitDefEqProofs (disch := omega) [List.getElem?_cons_zero, List.getElem?_cons_succ, wrap_id]
    refine ⟨by kernel_rfl, al_range hg hel hla.symm hm (fun c hc => by simp [loT, loA, loL]; omega) rfl rfl fun r0 b0 => ?_⟩
    refine AfterR_ready rfl ?_
    dsimp only [alH, alB]
    obtain ⟨AL, hAL⟩ : ∃ AL, AL = alK n es a.length (2 ^ a.length) := ⟨_, rfl⟩
    rw [← hAL]
    generalize hLP : AO.lp 156 _ _ _ _ _ = LP
    simp -implicitDefEqProofs (disch := omega) [List.getElem?_cons_zero, List.getElem?_cons_succ, wrap_id]
    have hca := calm_rowZ (inL n es a)
    have hcb := calm_rowZ (inL n es b)
    have hda := inL_len n es a
    have hdb := inL_len n es b
    have hba : ∀ x ∈ inL n es a, 0 ≤ x ∧ x < 256 := fun x hx => by have := inL_mem_bd hgood.right hla hx; omega
    have hbb : ∀ x ∈ inL n es b, 0 ≤ x ∧ x < 256 := fun x hx => by have := inL_mem_bd hgood.right hlb hx; omega
    have hft : (strN (inL n es a)).size ≤ maxLen := by rw [strN_size, hda]; unfold maxLen; omega
    have hn62 : n ≤ 62 := by omega
    have e0 : ∀ k, List.replicate n (PV.v (Value.bool false)) = (setJ n k 0).map PV.b := fun k => by rw [setJ_zero, List.map_replicate]
    have hn20 : n ≤ 1048576 := by omega
    refine HC_of_PC rfl (indegrees_ok n es b hg hel hlb) ?_
    simp -implicitDefEqProofs (disch := omega) [List.getElem?_cons_zero, List.getElem?_cons_succ, wrap_id, hcb]
    refine HC_of_PC (by simp [views, view, viewC, ownEls, hdb]) (key_ok (inL n es b) (by omega) hbb) ?_
    simp -implicitDefEqProofs (disch := omega) [List.getElem?_cons_zero, List.getElem?_cons_succ, wrap_id]
    refine HC_of_PC rfl (indegrees_ok n es a hg hel hla) ?_
    simp -implicitDefEqProofs (disch := omega) [List.getElem?_cons_zero, List.getElem?_cons_succ, wrap_id, hca]
    refine HC_of_PC (by simp [views, view, viewC, ownEls, hda]) (key_ok (inL n es a) (by omega) hba) ?_
    simp -implicitDefEqProofs (disch := omega) [List.getElem?_cons_zero, List.getElem?_cons_succ, wrap_id, hft, hn62]
    refine loopW (powN n) (fun k s => s = ⟨[(81, .i k), (80, .i (powN n : Nat)), (17, .os 5 0 k), (16, .mp 4), (15, .os 3 0 1), (14, .p (.st (inL n es b))), (11, .ptr 2 1 0 0), (3, .ptr 0 1 0 0)], bfH n es AL [inL n es a] [inL n es a] ++ [.tab ((setsK n k).map fun o => .p (.bo o)) 25 false]⟩)
      (Wk.trans (b := ⟨[(81, .i (0 : Nat)), (80, .i (powN n : Nat)), (17, .p .nil), (16, .mp 4), (15, .os 3 0 1), (14, .p (.st (inL n es b))), (11, .ptr 2 1 0 0), (3, .ptr 0 1 0 0)], bfH n es AL [inL n es a] [inL n es a]⟩) (wk_al (w := [inL n es a]) (sn := [inL n es a]) rfl rfl rfl rfl rfl rfl rfl rfl) ((Wk_nilT 17 25 rfl).trans (Wk_keep [81, 80, 17, 16, 15, 14, 11, 3]))) rfl ?_
    rintro k s hk rfl
    obtain ⟨SK, hSK⟩ : ∃ SK, SK = setsK n k := ⟨_, rfl⟩
    have hSl : SK.length = k := by rw [hSK, setsK_len]
    by_cases hlk : k < powN n
    · have hk63 : k < 9223372036854775808 := by have := Nat.pow_le_pow_right (n := 2) (by omega) hn62; unfold powN at hlk; omega
      have hk1m : k + 1 ≤ 1048576 := by have := Nat.pow_le_pow_right (n := 2) (by omega) (show n ≤ 12 by omega); unfold powN at hlk; omega
      rw [← hSK]
      simp -implicitDefEqProofs (disch := omega) [List.getElem?_cons_zero, List.getElem?_cons_succ, wrap_id, hn62, hlk, hn20]
      rw [e0 k]
      refine loopW n (fun j s => s = ⟨[(89, .i j), (88, .i n), (19, .os 6 0 n), (18, .i k), (81, .i k), (80, .i (powN n : Nat)), (17, .os 5 0 k), (16, .mp 4), (15, .os 3 0 1), (14, .p (.st (inL n es b))), (11, .ptr 2 1 0 0), (3, .ptr 0 1 0 0)], bfH n es AL [inL n es a] [inL n es a] ++ [.tab (SK.map fun o => .p (.bo o)) 25 false, rowB (setJ n k j)]⟩) (Wk_keep [89, 88, 19, 18, 81, 80, 17, 16, 15, 14, 11, 3]) rfl ?_
      rintro j s hj rfl
      have hJl := setJ_len n k j
      by_cases hlj : j < n
      · have hj63 : j ≤ 63 := by omega
        have hj0 : ¬ (j : Int) < 0 := by omega
        have hjJ : j < (setJ n k j).length := by omega
        have hst := setJ_set (k := k) hlj
        have hms : ((setJ n k j).map PV.b).set j (PV.v (Value.bool (decide (bitN k j = 1)))) = (setJ n k (j + 1)).map PV.b := by rw [← hst, List.map_set]
        have hi1 : ((bitN k j : Nat) : Int) = 1 ↔ bitN k j = 1 := by omega
        simp -implicitDefEqProofs (disch := omega) [List.getElem?_cons_zero, List.getElem?_cons_succ, wrap_id, hlj, hJl, hj63, hk63, hj0, hjJ, hms, hi1]
        exact round_keep [89, 88, 19, 18, 81, 80, 17, 16, 15, 14, 11, 3] hlj rfl
      · have hjn : j = n := by omega
        rw [hjn, setJ_end]
        have hMl := setM_len n k
        simp -implicitDefEqProofs (disch := omega) [List.getElem?_cons_zero, List.getElem?_cons_succ, wrap_id, hMl, hSl, hk1m]
        refine round_end [0, 1, 2, 3, 4, 5] [81, 80, 17, 16, 15, 14, 11, 3] hlk rfl ?_
        rw [norm_bfU hMl, hSK, ← setsK_succ]
        simp [Abs.get, AV.ren, Abs.idx, AO.ren]
    · have hkn : k = powN n := by omega
      subst hkn
      rw [← hSK]
      simp -implicitDefEqProofs (disch := omega) [List.getElem?_cons_zero, List.getElem?_cons_succ, wrap_id]
      refine loopW 1 (fun k s => k = 0 ∧ s = ⟨[(15, .os 3 0 1), (14, .p (.st (inL n es b))), (11, .ptr 2 1 0 0), (3, .ptr 0 1 0 0), (21, .b false)], bfH n es AL [inL n es a] [inL n es a] ++ [.tab (SK.map fun o => .p (.bo o)) 25 false]⟩) (Wk_keep [15, 14, 11, 3, 21]) ⟨rfl, rfl⟩ ?_
      rintro k s hk ⟨rfl, rfl⟩
      simp -implicitDefEqProofs (disch := omega) [List.getElem?_cons_zero, List.getElem?_cons_succ, wrap_id, hs]
      exact fin0 trivial rfl rfl
end Go.Proofs.Ytjinjbcdbkgedaa
