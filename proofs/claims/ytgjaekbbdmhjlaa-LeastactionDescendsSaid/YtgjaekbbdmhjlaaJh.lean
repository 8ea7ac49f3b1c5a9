/-
  Contracts: a set's vertices, one after the other; witnesses, proofs; meets.
-/
import Derived.Test.YtgjaekbbdmhjlaaJg
import Derived.Test.YtgjaekbbdmhjlaaGn
set_option linter.unusedSimpArgs false
set_option linter.unusedVariables false
namespace Go.Proofs.Ytgjaekbbdmhjlaa
open Go.Abs Go.Sand

theorem members_ok (B : List Bool) : PC Try.prog 45 [.agg (B.map PV.b)] (.fn (.func 74) [] [.ptr 0 1 0 0]) [.box (.p (.agg (B.map PV.b)))] := by
  refine PC_of_W cfn45 ?_
  simp -implicitDefEqProofs (disch := omega) [c45, List.getElem?_cons_zero, List.getElem?_cons_succ, wrap_id]
  exact fin1 [0] trivial rfl (by rfl) ⟨rfl, rfl⟩
/-- The objects while a set is collected. -/
abbrev colH (b0 b1 b2 : AO) (B : List Bool) (lp : AO) (L : List Int) : List AO := [b0, b1, b2, .box (.p (.agg (B.map PV.b))), .box (.os 6 0 L.length), lp, rowI L]
theorem col_range {b0 b1 b2 : AO} (B : List Bool) (hB : B.length = 12) (h0 : ∀ ob ∈ [b0, b1, b2], loO 7 ob = true) (t : List (Nat × AV)) (ht : Abs.get t 2 = .ptr 4 1 0 0) (hf : loT 7 t = true) {K : AV → List AO → Prop}
    (hK : ∀ r, K r (colH b0 b1 b2 B (.lp 13 t [7] rc73_0a rc73_0c .ready) (memK B 12))) :
    HC Try.prog false 74 [.yl 5, .ptr 3 1 0 0] [b0, b1, b2, .box (.p (.agg (B.map PV.b))), .box (.p .nil), .lp 13 t [7] rc73_0a rc73_0c .ready] K := by
  refine HC_of_W (af := _) ((by exact cfn74 : cfn _ _ _ = some _)) ?_
  simp -implicitDefEqProofs (disch := omega) [c74, List.getElem?_cons_zero, List.getElem?_cons_succ, wrap_id, hB]
  refine loopW 12 (fun k s => s = ⟨[(6, .i k), (5, .p (.agg (B.map PV.b))), (0, .yl 5)], colH b0 b1 b2 B (.lp 13 t [7] rc73_0a rc73_0c .ready) (memK B k)⟩)
    (((Wk_nilB 4 0 1 3 rfl rfl).trans (Wk_flat 4 (x := .agg [.os 6 0 0]) (y := .os 6 0 0) rfl rfl)).trans (Wk_keep [6, 5, 0])) rfl ?_
  rintro k s hk rfl
  by_cases hlt : k < 12
  · have hkB : k < B.length := by omega
    have hg1 : B.getD k false = B[k] := by simp [hkB]
    have hlt2 : (k : Int) < 12 := by omega
    have hs := memK_succ B k
    have hl := memK_len B k
    have hl1 : (memK B k).length ≤ 1048575 := by omega
    have hl2 : (memK B k).length + 1 ≤ 1048576 := by omega
    cases hw : B[k] with
    | true =>
      rw [hw] at hg1
      rw [hg1, if_pos rfl] at hs
      simp -implicitDefEqProofs (disch := omega) [List.getElem?_cons_zero, List.getElem?_cons_succ, wrap_id, hlt, hlt2, hkB, hw]
      refine HY_of_W rfl rcc73_0a rcc73_0c rfl rfl rfl rfl ?_
      simp -implicitDefEqProofs (disch := omega) [List.getElem?_cons_zero, List.getElem?_cons_succ, wrap_id, ra73_0a, ra73_0c, ht, hl1, hl2]
      refine round_end' hlt (Wk_pop 7 [6, 5, 0] (by simp) (by simp) (H' := colH b0 b1 b2 B (.lp 13 t [7] rc73_0a rc73_0c .ready) (memK B (k + 1))) ?_ ?_ ?_) rfl
      · rw [colH, hs]; simp
      · intro i hi
        simp only [List.mem_cons, List.not_mem_nil, or_false] at hi
        rcases hi with rfl | rfl | rfl <;> simp [Abs.get, loA]
      · intro ob hob
        simp only [colH, List.mem_cons, List.not_mem_nil, or_false] at hob
        rcases hob with rfl | rfl | rfl | rfl | rfl | rfl | rfl
        · exact h0 _ (by simp)
        · exact h0 _ (by simp)
        · exact h0 _ (by simp)
        · rfl
        · rfl
        · exact hf
        · rfl
    | false =>
      rw [hw] at hg1
      rw [hg1] at hs
      simp only [Bool.false_eq_true, if_false, List.append_nil] at hs
      simp -implicitDefEqProofs (disch := omega) [List.getElem?_cons_zero, List.getElem?_cons_succ, wrap_id, hlt, hlt2, hkB, hw]
      exact round_keep [6, 5, 0] hlt (by rw [hs]; rfl)
  · have hk : k = 12 := by omega
    subst hk
    simp -implicitDefEqProofs (disch := omega) [List.getElem?_cons_zero, List.getElem?_cons_succ, wrap_id]
    exact finH trivial rfl (hK _)
theorem collect_ok {b0 b1 b2 : AO} (B : List Bool) (hB : B.length = 12) (h0 : ∀ ob ∈ [b0, b1, b2], loO 7 ob = true) {K : AV → List AO → Prop}
    (hK : ∀ x, K (.os 6 0 (memK B 12).length) (colH b0 b1 b2 B x (memK B 12))) :
    HC Try.prog false 44 [.fn (.func 74) [] [.ptr 3 1 0 0]] [b0, b1, b2, .box (.p (.agg (B.map PV.b)))] K := by
  have hA : HC Try.prog false 73 [.p .nil, .fn (.func 74) [] [.ptr 3 1 0 0]] [b0, b1, b2, .box (.p (.agg (B.map PV.b)))] K := by
    refine HC_of_W (af := _) ((by exact cfn73 : cfn _ _ _ = some _)) ?_
    simp -implicitDefEqProofs (disch := omega) [c73, List.getElem?_cons_zero, List.getElem?_cons_succ, wrap_id]
    refine ⟨by kernel_rfl, col_range B hB h0 _ rfl rfl fun r => AfterR_ready rfl ?_⟩
    simp -implicitDefEqProofs (disch := omega) [List.getElem?_cons_zero, List.getElem?_cons_succ, wrap_id]
    exact finH trivial rfl (hK _)
  refine HC_of_W (af := _) ((by exact cfn44 : cfn _ _ _ = some _)) ?_
  simp -implicitDefEqProofs (disch := omega) [c44, List.getElem?_cons_zero, List.getElem?_cons_succ, wrap_id]
  refine HC.mono hA ?_
  intro r H hr
  simp -implicitDefEqProofs (disch := omega) [List.getElem?_cons_zero, List.getElem?_cons_succ, wrap_id]
  exact finH trivial rfl hr
theorem gloop_ne (N : Int) : ∀ (es : List Ed) (a b : Int), gloop N es a b ≠ 15
  | [], a, b => by simp [gloop]
  | x :: es, a, b => by
    have ih := gloop_ne N es
    have he : edgeErr N a b x ≠ 15 := by unfold edgeErr; (repeat' split) <;> decide
    unfold gloop
    split
    · exact he
    · exact ih _ _
theorem gvE_ne (N : Int) (es : List Ed) (q : Int) (d s : List Int) : ¬ gvE N es q d s = 15 := by
  have h1 : ¬ gcheck N es = 15 := by
    unfold gcheck
    split
    · decide
    · exact gloop_ne N es _ _
  have h2 : ∀ x, ¬ dcheck x N = 15 := fun x => by
    unfold dcheck
    (repeat' split) <;> decide
  have h3 : ¬ rootE N es q = 15 := by
    unfold rootE
    (repeat' split) <;> first | exact h1 | decide
  have h4 : ¬ stE N es q d = 15 := by
    unfold stE
    (repeat' split) <;> first | exact h3 | exact h2 _ | decide
  unfold gvE givenE
  (repeat' split) <;> first | exact h4 | exact h1 | exact h2 _
theorem lo_board {n m : Nat} {es : List Ed} {q : Int} {C c : List Int} {x : PV} {p : Nat} (hp : p < m) : ∀ ob ∈ [AO.box (.p x), .box (.agg (bdO q C p n)), rowI c], loO m ob = true := by
  intro ob hob
  have hb : ∀ l : List Int, loL m (l.map AV.i ++ [.os p 0 n]) = true := by
    intro l
    induction l with
    | nil => simp [loL, loA, hp]
    | cons x l ih => rw [List.map_cons, List.cons_append, loL, ih]; rfl
  simp only [List.mem_cons, List.not_mem_nil, or_false] at hob
  rcases hob with rfl | rfl | rfl
  · rfl
  · show loL m (bdO q C p n) = true
    rw [bdO, loL, hb]; rfl
  · rfl
section
variable (N : Int) (es : List Ed) (q : Int) (d s : List Int) (hel : es.length ≤ 900) (hd : d.length ≤ 1000) (hs : s.length ≤ 1000)
include hel hd hs
theorem witness_ok : PC Try.prog 17 [G N es, .i q, .is d, .is s] (.tup [.p (.is (wtL N es q d s)), .i (settledR N es q d s)]) [] := by
  refine PC_of_W cfn17 ?_
  simp -implicitDefEqProofs (disch := omega) [c17, List.getElem?_cons_zero, List.getElem?_cons_succ, wrap_id]
  by_cases h0 : settledR N es q d s = 0
  rotate_left
  · refine HC_of_PC rfl (settled22_err N es q d s hel hd hs h0) ?_
    simp -implicitDefEqProofs (disch := omega) [List.getElem?_cons_zero, List.getElem?_cons_succ, wrap_id, h0]
    refine finW (Wk_nil0 8 rfl) ?_
    (refine fin0 trivial rfl ?_; simp -implicitDefEqProofs (disch := omega) [List.getElem?_cons_zero, List.getElem?_cons_succ, idx, wrap_id, wtL, h0])
  obtain ⟨n, rfl, h, hst, hb⟩ := settledR_ok h0
  refine HC_of_PC rfl (settled22_ok es q d s hel hd n h hb) ?_
  simp -implicitDefEqProofs (disch := omega) [List.getElem?_cons_zero, List.getElem?_cons_succ, wrap_id, bdO_up]
  have hcl : (movedE es s d).length = n := by rw [movedE_length, h.st.c.len]
  refine gr_ptr h.st.g (p := 2) (c := movedE es s d) (s := s) rfl rfl rfl hcl h.len ?_
  have hgl : (grF n es (movedE es s d) s).length = 12 := grF_len
  have hw : wtL n es q d s = memK (grF n es (movedE es s d) s) 12 := by rw [wtL, if_pos h0, grR, Int.toNat_natCast]
  obtain ⟨B, hB⟩ : ∃ B, B = grF n es (movedE es s d) s := ⟨_, rfl⟩
  rw [← hB] at hgl hw ⊢
  simp -implicitDefEqProofs (disch := omega) [List.getElem?_cons_zero, List.getElem?_cons_succ, wrap_id]
  refine HC_of_PC rfl (members_ok B) ?_
  simp -implicitDefEqProofs (disch := omega) [List.getElem?_cons_zero, List.getElem?_cons_succ, wrap_id]
  refine collect_ok B hgl (lo_board (es := es) (by omega)) fun x => ?_
  simp -implicitDefEqProofs (disch := omega) [List.getElem?_cons_zero, List.getElem?_cons_succ, wrap_id]
  (refine fin0 trivial rfl ?_; simp -implicitDefEqProofs (disch := omega) [List.getElem?_cons_zero, List.getElem?_cons_succ, idx, wrap_id, h0, hw])
theorem verify_ok : PC Try.prog 20 [G N es, .i q, .is d, .is s] (.i (vrE N es q d s)) [] := by
  have hl : (wtL N es q d s).length ≤ 12 := by
    unfold wtL
    split
    · exact memK_len _ _
    · simp
  refine PC_of_W cfn20 ?_
  simp -implicitDefEqProofs (disch := omega) [c20, List.getElem?_cons_zero, List.getElem?_cons_succ, wrap_id]
  refine HC_of_PC rfl (witness_ok N es q d s hel hd hs) ?_
  by_cases h0 : gvE N es q d s = 0
  rotate_left
  · have e : settledR N es q d s = gvE N es q d s := by rw [settledR, if_pos h0]
    have e2 : vrE N es q d s = gvE N es q d s := by rw [vrE, if_pos h0]
    have e3 : wtL N es q d s = [] := by rw [wtL, if_neg (by rw [e]; exact h0)]
    have h15 : ¬ gvE N es q d s = 15 := gvE_ne N es q d s
    simp -implicitDefEqProofs (disch := omega) [List.getElem?_cons_zero, List.getElem?_cons_succ, wrap_id, e, h15, e3]
    (refine fin0 trivial rfl ?_; simp -implicitDefEqProofs (disch := omega) [List.getElem?_cons_zero, List.getElem?_cons_succ, idx, wrap_id, e2, e])
  by_cases h1 : settledR N es q d s = 0
  · have e2 : vrE N es q d s = if toN (grR N es d s) = 0 then 0 else 16 := by rw [vrE, if_neg (by simp [h0])]; simp [h1]
    have hgl : (grR N es d s).length ≤ 12 := by rw [grR, grF_len]; exact Nat.le_refl _
    have hw : wtL N es q d s = memK (grR N es d s) 12 := by rw [wtL, if_pos h1]
    by_cases h2 : toN (grR N es d s) = 0
    · rw [if_pos h2] at e2
      have h3 := (memK_nil (k := 12) hgl).2 h2
      rw [← hw] at h3
      simp -implicitDefEqProofs (disch := omega) [List.getElem?_cons_zero, List.getElem?_cons_succ, wrap_id, h1, h3]
      (refine fin0 trivial rfl ?_; simp -implicitDefEqProofs (disch := omega) [List.getElem?_cons_zero, List.getElem?_cons_succ, idx, wrap_id, e2])
    · rw [if_neg h2] at e2
      have h3 : 0 < (wtL N es q d s).length := by
        rw [hw]
        exact Nat.pos_of_ne_zero fun e => h2 ((memK_nil (k := 12) hgl).1 e)
      have h4 : ¬ wtL N es q d s = [] := fun e => by rw [e] at h3; simp at h3
      simp -implicitDefEqProofs (disch := omega) [List.getElem?_cons_zero, List.getElem?_cons_succ, wrap_id, h1, h3, h4]
      (refine fin0 trivial rfl ?_; simp -implicitDefEqProofs (disch := omega) [List.getElem?_cons_zero, List.getElem?_cons_succ, idx, wrap_id, e2])
  · have e : settledR N es q d s = 15 := by
      unfold settledR at h1 ⊢
      rw [if_neg (by simp [h0])] at h1 ⊢
      split at h1
      · exact absurd rfl h1
      · rename_i h2; rw [if_neg h2]
    have e2 : vrE N es q d s = 16 := by rw [vrE, if_neg (by simp [h0]), if_neg (by rw [e]; simp)]
    simp -implicitDefEqProofs (disch := omega) [List.getElem?_cons_zero, List.getElem?_cons_succ, wrap_id, e]
    (refine fin0 trivial rfl ?_; simp -implicitDefEqProofs (disch := omega) [List.getElem?_cons_zero, List.getElem?_cons_succ, idx, wrap_id, e2])
end
end Go.Proofs.Ytgjaekbbdmhjlaa
