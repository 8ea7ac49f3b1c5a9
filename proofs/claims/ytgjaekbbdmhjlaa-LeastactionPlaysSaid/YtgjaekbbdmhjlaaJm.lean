/-
  Contracts: descending by the program.
-/
import Derived.Test.YtgjaekbbdmhjlaaJl
set_option linter.unusedSimpArgs false
set_option linter.unusedVariables false
namespace Go.Proofs.Ytgjaekbbdmhjlaa
open Go.Abs Go.Sand

theorem keyA_b {B : List Bool} (h : B.length = 12) : keyA (.p (.agg (B.map PV.b))) = some (.kt B) := by
  have hb : ∀ l : List Bool, bools (l.map PV.b) = some l := by
    intro l
    induction l with
    | nil => rfl
    | cons x l ih =>
      show (bools (l.map PV.b)).map _ = _
      rw [ih]; rfl
  have h2 : isB (B.map PV.b) = true := by
    cases B with
    | nil => simp at h
    | cons x l => rfl
  show (if isB (B.map PV.b) then (bools (B.map PV.b)).map KV.kt else _) = _
  rw [if_pos h2, hb]; rfl
theorem descent_ok {n : Nat} {H : List AO} (hH : H.length = 8) {K : AV → List AO → Prop} (hK : K (.fn (.func 76) [] [.ptr 8 1 0 0, .ptr 9 1 0 0]) (H ++ [.box (.ptr 4 1 0 0), .box (.os 6 0 n)])) (h4 : solid H (.ptr 4 1 0 0) = true) (h6 : ∀ x, solid (H ++ [x]) (.os 6 0 n) = true) : HC Try.prog false 49 [.ptr 4 1 0 0, .os 6 0 n] H K := by
  have b4 : boxable H (.ptr 4 1 0 0) = true := h4
  have b6 : ∀ x, boxable (H ++ [x]) (.os 6 0 n) = true := h6
  obtain ⟨g, hg⟩ : ∃ g, g = boxable := ⟨_, rfl⟩
  refine HC_of_W (af := _) ((by exact cfn49 : cfn _ _ _ = some _)) ?_
  simp -implicitDefEqProofs (disch := omega) [c49, -boxable, -solid, b4, b6, hH, List.getElem?_cons_zero, List.getElem?_cons_succ, wrap_id]
  refine finH trivial rfl ?_
  simpa using hK
section
variable {n : Nat} {es : List Ed} (hg : GoodG n es) {q : Int} {d : List Int} (hd : d.length = n) (hdb : Bd 1048600 d)
include hg hd hdb
set_option maxRecDepth 20000 in
theorem desc_range (s : List Int) (hst0 : Stl n es q d s) (hsb : Bd 1048576 s) (t : List (Nat × AV)) (ht8 : Abs.get t 8 = .ptr 1 1 0 0) (ht9 : Abs.get t 9 = .ptr 2 1 0 0) (ht10 : Abs.get t 10 = .ptr 3 1 0 0) (ht13 : Abs.get t 13 = .ptr 7 1 0 0) (hf : loT 10 t = true) {K : AV → List AO → Prop}
    (hK0 : ∀ r (s' : List Int) (k : Nat) X, desF n es d 4098 s 0 = (s', k, 0) → s'.length = n → K r (dsH n es q d s' k 0 0 (.lp 37 t [30] rc23_0a rc23_0c .ready) X))
    (hK1 : ∀ r (s' : List Int) (k : Nat) X, desF n es d 4098 s 0 = ([], 0, 12) → K r (dsH n es q d s' k 0 12 (.lp 37 t [30] rc23_0a rc23_0c (.done .ret)) X)) :
    HC Try.prog false 76 [.yl 10, .ptr 8 1 0 0, .ptr 9 1 0 0] (dsH n es q d s 0 0 0 (.lp 37 t [30] rc23_0a rc23_0c .ready) []) K := by
  have hn := hg.n12
  have hcl : ∀ s, (movedE es s d).length = n := fun s => by rw [movedE_length, hd]
  have hren : ∀ H, renL H (Abs.idx [0, 1, 2, 3, 4, 5, 6, 7, 8, 9, 10, 14] 0) (bdO q (bcE es) 5 n) = bdO q (bcE es) 5 n := fun H => bdO_renL rfl
  have hlp : ∀ H, AO.ren H (Abs.idx [0, 1, 2, 3, 4, 5, 6, 7, 8, 9, 10, 14] 0) (.lp 37 t [30] rc23_0a rc23_0c .ready) = .lp 37 t [30] rc23_0a rc23_0c .ready := fun H => lp_ren hf (by decide)
  have hsl := hst0.st.len
  have hgl : ∀ s, (grF n es (movedE es s d) s).length = 12 := fun s => grF_len
  refine HC_of_W (af := _) ((by exact cfn76 : cfn _ _ _ = some _)) ?_
  simp -implicitDefEqProofs (disch := omega) [c76, List.getElem?_cons_zero, List.getElem?_cons_succ, wrap_id]
  refine gr_ptr hg (p := 5) (c := movedE es s d) (s := s) rfl rfl (by simp [view, viewC, ownEls, hsl]) (hcl s) hsl ?_
  have hg0 := hgl s
  simp -implicitDefEqProofs (disch := omega) [List.getElem?_cons_zero, List.getElem?_cons_succ, wrap_id, hg0]
  refine loopW 4097 (fun k st => ∃ s' : List Int, (desF n es d (4098 - k) s' k = desF n es d 4098 s 0 ∧ Stl n es q d s' ∧ Bd 1048576 s' ∧ k ≤ 4096) ∧ st = ⟨[(4, .ptr 11 1 0 0), (0, .yl 10), (1, .ptr 8 1 0 0), (2, .ptr 9 1 0 0)], dsH n es q d s' k 0 0 (.lp 37 t [30] rc23_0a rc23_0c .ready) [.box (.p (.agg ((grF n es (movedE es s' d) s').map PV.b)))]⟩) (Wk_keep [4, 0, 1, 2]) ⟨s, ⟨rfl, hst0, hsb, by omega⟩, rfl⟩ ?_
  rintro k st hk ⟨s', ⟨hD, hst', hb', hk4⟩, rfl⟩
  have hsl' := hst'.st.len
  have hfit := grF_fit (n := n) (es := es) (L := movedE es s' d) hsl'
  obtain ⟨f, hf'⟩ : ∃ f, 4098 - k = f + 1 := ⟨4097 - k, by omega⟩
  rw [hf', desF_succ f s' k] at hD
  have hst2 := gr_stl hg hd hst'
  have hb2 := gr_less_bd hg hd hst' hb'
  have hBl := hgl s'
  obtain ⟨B, hB⟩ : ∃ B, B = grF n es (movedE es s' d) s' := ⟨_, rfl⟩
  rw [← hB] at hD hst2 hb2 hBl hfit ⊢
  have hkey := keyA_b hBl
  have hz := toN_rep hBl
  by_cases h1 : toN B = 0
  · rw [if_pos h1] at hD
    have hBz := hz.2 h1
    have hzz : [false, false, false, false, false, false, false, false, false, false, false, false].length = 12 := rfl
    have hkey2 := keyA_b hzz
    rw [hBz]
    simp -implicitDefEqProofs (disch := omega) [List.getElem?_cons_zero, List.getElem?_cons_succ, wrap_id]
    exact finH trivial rfl (hK0 _ _ _ _ hD.symm hsl')
  rw [if_neg h1] at hD
  have hBn : ¬ B = [false, false, false, false, false, false, false, false, false, false, false, false] := fun e => h1 (hz.1 e)
  simp -implicitDefEqProofs (disch := omega) [-keyA, ↓hkey, hBl, hBn, List.getElem?_cons_zero, List.getElem?_cons_succ, wrap_id]
  simp -implicitDefEqProofs (disch := omega) [List.getElem?_cons_zero, List.getElem?_cons_succ, wrap_id, hBl, hBn]
  refine HY_of_W rfl rcc23_0a rcc23_0c rfl rfl rfl rfl ?_
  by_cases h2 : k = 4096
  · rw [if_pos h2] at hD
    have h2' : ((k : Int) = 4096) = True := eq_true (by omega)
    simp -implicitDefEqProofs (disch := omega) [List.getElem?_cons_zero, List.getElem?_cons_succ, wrap_id, ra23_0a, ra23_0c, ht8, ht9, ht10, ht13, h2']
    exact finH trivial rfl (hK1 _ s' k _ hD.symm)
  rw [if_neg h2] at hD
  have h2' : ((k : Int) = 4096) = False := eq_false (by omega)
  simp -implicitDefEqProofs (disch := omega) [List.getElem?_cons_zero, List.getElem?_cons_succ, wrap_id, ra23_0a, ra23_0c, ht8, ht9, ht10, ht13, h2', hBl]
  refine HC_of_PC rfl (members_ok B) ?_
  simp -implicitDefEqProofs (disch := omega) [List.getElem?_cons_zero, List.getElem?_cons_succ, wrap_id]
  obtain ⟨s2, hs2⟩ : ∃ s2, s2 = lessB n s' B := ⟨_, rfl⟩
  have hsl2 : s2.length = n := by rw [hs2, lessB_len]
  refine ⟨by kernel_rfl, take_range hg hd hdb s' B hBl hfit.lt hsl' hb' hfit.pos (k + 1) _ _ _ _ rfl rfl rfl fun r => AfterR_ready rfl ?_⟩
  rw [← hs2] at hst2 hb2 hD ⊢
  simp -implicitDefEqProofs (disch := omega) [List.getElem?_cons_zero, List.getElem?_cons_succ, wrap_id, hBl]
  refine gr_ptr hg (p := 5) (c := movedE es s2 d) (s := s2) rfl rfl (by simp [view, viewC, ownEls, hsl2]) (hcl s2) hsl2 ?_
  have hgl2 := hgl s2
  simp -implicitDefEqProofs (disch := omega) [List.getElem?_cons_zero, List.getElem?_cons_succ, wrap_id, hgl2, hBl]
  exact round_end [0, 1, 2, 3, 4, 5, 6, 7, 8, 9, 10, 14] [4, 0, 1, 2] (by omega) rfl ⟨s2, ⟨by rw [show 4098 - (k + 1) = f by omega]; exact hD, hst2, hb2, by omega⟩, (by simp -implicitDefEqProofs [-AO.ren, norm, renH, ren_box, ren_fbx, ren_row, ren_tab, ren_dict, Abs.get, AV.ren, idx_at, idx_at0, hlp, hren])⟩
end
section
variable (N : Int) (es : List Ed) (q : Int) (d s : List Int) (hel : es.length ≤ 900) (hd : d.length ≤ 1000) (hs : s.length ≤ 1000)
include hel hd hs
set_option maxRecDepth 20000 in
set_option maxHeartbeats 2000000 in
theorem descend_ok : PC Try.prog 23 [G N es, .i q, .is d, .is s] (.tup [.p (.is (desR N es q d s).1), .i (desR N es q d s).2.1, .i (desR N es q d s).2.2]) [] := by
  refine PC_of_W cfn23 ?_
  simp -implicitDefEqProofs (disch := omega) [c23, List.getElem?_cons_zero, List.getElem?_cons_succ, wrap_id]
  by_cases h0 : settledR N es q d s = 0
  rotate_left
  · have e2 : desR N es q d s = ([], 0, settledR N es q d s) := by rw [desR, if_pos h0]
    refine HC_of_PC rfl (settled22_err N es q d s hel hd hs h0) ?_
    simp -implicitDefEqProofs (disch := omega) [List.getElem?_cons_zero, List.getElem?_cons_succ, wrap_id, h0]
    refine finW (Wk_nilB 1 0 1 3 rfl rfl) ?_
    (refine fin0 trivial rfl ?_; simp -implicitDefEqProofs (disch := omega) [List.getElem?_cons_zero, List.getElem?_cons_succ, idx, wrap_id, e2])
  obtain ⟨n, rfl, h, hst, hb⟩ := settledR_ok h0
  have hg := h.st.g
  have hdl := h.st.c.len
  have hsl := h.len
  have e2 : desR n es q d s = desF n es d 4098 s 0 := by rw [desR, if_neg (by simp [h0]), Int.toNat_natCast]
  refine HC_of_PC rfl (settled22_ok es q d s hel hd n h hb) ?_
  have hup : ∀ (H : List AO) (C : List Int), renL H (fun o => some (o + 4)) (bdO q C 1 n) = bdO q C 5 n := fun H C => bdO_renL rfl
  simp -implicitDefEqProofs (disch := omega) [List.getElem?_cons_zero, List.getElem?_cons_succ, wrap_id, hup, bdO_calm]
  refine HC_of_PC rfl (cloneS_ok s (by omega)) ?_
  simp -implicitDefEqProofs (disch := omega) [List.getElem?_cons_zero, List.getElem?_cons_succ, wrap_id, hsl]
  refine descent_ok (n := n) rfl ?_ rfl (fun x => by simp [hsl])
  simp -implicitDefEqProofs (disch := omega) [List.getElem?_cons_zero, List.getElem?_cons_succ, wrap_id]
  refine ⟨by kernel_rfl, desc_range hg hdl h.st.c.bd s hst h.bd _ rfl rfl rfl rfl rfl (fun r s' k X hD hl => AfterR_ready rfl ?_) (fun r s' k X hD => AfterR_ret rfl ?_)⟩
  · rw [hD] at e2
    simp -implicitDefEqProofs (disch := omega) [List.getElem?_cons_zero, List.getElem?_cons_succ, wrap_id, hl]
    refine (fun (hh : ∀ Y, W _ _ _ _ (St.mk _ (_ :: _ :: _ :: _ :: _ :: _ :: _ :: _ :: Y))) => hh _) (fun Y => ?_)
    refine tree_join (s0 := ⟨[(8, .ptr 1 1 0 0), (9, .ptr 2 1 0 0), (10, .ptr 3 1 0 0)], .box (.p (G n es)) :: .box (.os 6 0 n) :: .box (.i k) :: .box (.i 0) :: .box (.agg (bdO q (bcE es) 5 n)) :: rowI (movedE es s' d) :: rowI s' :: .box (.i k) :: Y⟩) ?_ ?_
    · simp -implicitDefEqProofs (disch := omega) [List.getElem?_cons_zero, List.getElem?_cons_succ, wrap_id, hl]
      (refine fin0 trivial rfl ?_; simp -implicitDefEqProofs (disch := omega) [List.getElem?_cons_zero, List.getElem?_cons_succ, idx, wrap_id, e2, hl])
    · simp -implicitDefEqProofs (disch := omega) [List.getElem?_cons_zero, List.getElem?_cons_succ, wrap_id, hl]
      exact Wk_keep [8, 9, 10]
  · rw [hD] at e2
    simp -implicitDefEqProofs (disch := omega) [List.getElem?_cons_zero, List.getElem?_cons_succ, wrap_id]
    refine (fun (hh : ∀ Y, Abs.Fin _ _ _ _ (St.mk _ (_ :: _ :: _ :: _ :: _ :: _ :: _ :: _ :: Y))) => hh _) (fun Y => ?_)
    have hY : ∀ r : AO, (Y ++ [r])[Y.length]? = some r := fun r => by simp
    refine finW (Wk_nilB 1 0 1 3 rfl rfl) ?_
    (refine fin0 trivial rfl ?_; simp -implicitDefEqProofs (disch := omega) [List.getElem?_cons_zero, List.getElem?_cons_succ, idx, wrap_id, e2, hY])
end
end Go.Proofs.Ytgjaekbbdmhjlaa
