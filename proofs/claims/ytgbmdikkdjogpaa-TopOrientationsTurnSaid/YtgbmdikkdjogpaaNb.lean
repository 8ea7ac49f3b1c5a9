/-
  Contracts: orientations: arrows, indegrees.
-/
import Derived.Test.YtgbmdikkdjogpaaNa
import Derived.Test.YtgbmdikkdjogpaaGn
import Derived.Test.YtgbmdikkdjogpaaMrb
set_option linter.unusedSimpArgs false
set_option linter.unusedVariables false
namespace Go.Proofs.Ytgbmdikkdjogpaa
open Go.Abs Go.Sand

abbrev _root_.Go.Abs.PV.bo (o : List Bool) : PV := .sl (o.map PV.b)
abbrev rowZ (c : List Int) : AO := .row (c.map PV.i) 1 3 false
abbrev rowB (o : List Bool) : AO := .row (o.map PV.b) 1 4 false
theorem gsize_ok (N : Int) (es : List Ed) (hel : es.length ≤ 1000) : PC Try.prog 42 [G N es] (.tup [.i (if gcheck N es = 0 then ((endsL es).length : Int) else 0), .i (gcheck N es)]) [] := by
  refine PC_of_W cfn42 ?_
  simp -implicitDefEqProofs (disch := omega) [c42, List.getElem?_cons_zero, List.getElem?_cons_succ, wrap_id]
  by_cases h : gcheck N es = 0
  · refine HC_of_PC rfl (gends_ok N es hel h) ?_
    simp -implicitDefEqProofs (disch := omega) [List.getElem?_cons_zero, List.getElem?_cons_succ, wrap_id, h]
    (refine fin0 trivial rfl ?_; simp -implicitDefEqProofs (disch := omega) [List.getElem?_cons_zero, List.getElem?_cons_succ, idx, wrap_id, h])
  · refine HC_of_PC rfl (gends_err N es (by omega) h) ?_
    simp -implicitDefEqProofs (disch := omega) [List.getElem?_cons_zero, List.getElem?_cons_succ, wrap_id, h]
    (refine fin0 trivial rfl ?_; simp -implicitDefEqProofs (disch := omega) [List.getElem?_cons_zero, List.getElem?_cons_succ, idx, wrap_id, h])
theorem ocheck_ok (N : Int) (es : List Ed) (o : List Bool) (hel : es.length ≤ 1000) (hol : o.length ≤ 4611686018427387904) : PC Try.prog 22 [G N es, .bo o] (.i (oE N es o)) [] := by
  refine PC_of_W cfn22 ?_
  simp -implicitDefEqProofs (disch := omega) [c22, List.getElem?_cons_zero, List.getElem?_cons_succ, wrap_id]
  refine HC_of_PC rfl (gsize_ok N es hel) ?_
  by_cases h : gcheck N es = 0
  · by_cases h2 : o.length = (endsL es).length
    · have h2' : (o.length : Int) = (endsL es).length := by omega
      simp -implicitDefEqProofs (disch := omega) [List.getElem?_cons_zero, List.getElem?_cons_succ, wrap_id, h, h2']
      (refine fin0 trivial rfl ?_; simp -implicitDefEqProofs (disch := omega) [List.getElem?_cons_zero, List.getElem?_cons_succ, idx, wrap_id, oE, h, h2])
    · have h2' : ¬ (o.length : Int) = (endsL es).length := by omega
      simp -implicitDefEqProofs (disch := omega) [List.getElem?_cons_zero, List.getElem?_cons_succ, wrap_id, h, h2']
      (refine fin0 trivial rfl ?_; simp -implicitDefEqProofs (disch := omega) [List.getElem?_cons_zero, List.getElem?_cons_succ, idx, wrap_id, oE, h, h2])
  · simp -implicitDefEqProofs (disch := omega) [List.getElem?_cons_zero, List.getElem?_cons_succ, wrap_id, h]
    (refine fin0 trivial rfl ?_; simp -implicitDefEqProofs (disch := omega) [List.getElem?_cons_zero, List.getElem?_cons_succ, idx, wrap_id, oE, h])
theorem arrow_ok (p : Int × Int) (d : Bool) : PC Try.prog 60 [pP p, .b d] (.tup [.i (arw p d).1, .i (arw p d).2]) [] := by
  refine PC_of_W cfn60 ?_
  cases d
  · simp -implicitDefEqProofs (disch := omega) [c60, List.getElem?_cons_zero, List.getElem?_cons_succ, wrap_id]
    (refine fin0 trivial rfl ?_; simp -implicitDefEqProofs (disch := omega) [List.getElem?_cons_zero, List.getElem?_cons_succ, idx, wrap_id, arw])
  · simp -implicitDefEqProofs (disch := omega) [c60, List.getElem?_cons_zero, List.getElem?_cons_succ, wrap_id]
    (refine fin0 trivial rfl ?_; simp -implicitDefEqProofs (disch := omega) [List.getElem?_cons_zero, List.getElem?_cons_succ, idx, wrap_id, arw])
theorem arrows_ok (N : Int) (es : List Ed) (o : List Bool) : PC Try.prog 44 [G N es, .bo o] (.fn (.func 59) [] [.ptr 0 1 0 0, .ptr 1 1 0 0]) [.box (.p (G N es)), .box (.p (.bo o))] := by
  refine PC_of_W cfn44 ?_
  simp -implicitDefEqProofs (disch := omega) [c44, List.getElem?_cons_zero, List.getElem?_cons_succ, wrap_id]
  exact fin1 [0, 1] trivial rfl (by rfl) ⟨rfl, rfl⟩
section
variable {N : Int} {es : List Ed} {o : List Bool} (hg : gcheck N es = 0) (hel : es.length ≤ 1000) (hol : o.length = (endsL es).length)
include hg hel hol
/-- All arrows are yielded; the objects are those of Hk, and what is left over. -/
theorem arrows_range {gi oi lp : Nat} {Hk : Nat → List AO} {L : AO} {K : AV → List AO → Prop} (h1 : ∀ k Z, (Hk k ++ Z)[gi]? = some (.box (.p (G N es)))) (h2 : ∀ k Z, (Hk k ++ Z)[oi]? = some (.box (.p (.bo o))))
    (h3 : ∀ k Z, (Hk k ++ Z)[lp]? = some L) (hL : L.len = 1)
    (hy : ∀ k (hk : k < (arwsL es o).length) Z (K' : AV → List AO → Prop), (∀ Z', K' (.b true) (Hk (k + 1) ++ Z')) → HY Try.prog lp [.i ((arwsL es o)[k]).1, .i ((arwsL es o)[k]).2] (Hk k ++ Z) K')
    (hK : ∀ r Z, K r (Hk (arwsL es o).length ++ Z)) : HC Try.prog false 59 [.yl lp, .ptr gi 1 0 0, .ptr oi 1 0 0] (Hk 0) K := by
  have hm := arwsL_len hol
  have hgood := gcheck_ok hg
  have he := endsL_len hgood.right
  have h10 := h1 0 []
  have h20 := h2 0 []
  rw [List.append_nil] at h10 h20
  refine HC_of_W (af := _) ((by exact cfn59 : cfn _ _ _ = some _)) ?_
  simp -implicitDefEqProofs (disch := omega) [c59, List.getElem?_cons_zero, List.getElem?_cons_succ, wrap_id, h10]
  refine HC_of_PC rfl (gends_ok N es hel hg) ?_
  simp -implicitDefEqProofs (disch := omega) [List.getElem?_cons_zero, List.getElem?_cons_succ, wrap_id]
  refine loopW (endsL es).length (fun k s => ∃ Z, s = ⟨[(15, .i k), (14, .i (endsL es).length), (13, .p (.ps (endsL es))), (0, .yl lp), (1, .ptr gi 1 0 0), (2, .ptr oi 1 0 0)], Hk k ++ Z⟩) (Wk_keep [15, 14, 13, 0, 1, 2]) ⟨[], by rw [List.append_nil]; rfl⟩ ?_
  rintro k s hk ⟨Z, rfl⟩
  by_cases hlt : k < (endsL es).length
  · obtain ⟨H1, hH1⟩ : ∃ H1, H1 = Hk k ++ Z := ⟨_, rfl⟩
    have g1 : ∀ y, (H1 ++ [y])[gi]? = some (.box (.p (G N es))) := fun y => by rw [hH1, List.append_assoc]; exact h1 k _
    have g2 : ∀ y, (H1 ++ [y])[oi]? = some (.box (.p (.bo o))) := fun y => by rw [hH1, List.append_assoc]; exact h2 k _
    have g3 : ∀ y, (H1 ++ [y])[lp]? = some L := fun y => by rw [hH1, List.append_assoc]; exact h3 k _
    have f1 : ∀ y, (H1 ++ [y])[H1.length]? = some y := fun y => by simp
    have f3 : ∀ y z, (H1 ++ [y]).set H1.length z = H1 ++ [z] := fun y z => by simp
    have hko : k < o.length := by omega
    have hka : k < (arwsL es o).length := by omega
    have hat := arwsL_at hol k hlt
    rw [← hH1]
    simp -implicitDefEqProofs (disch := omega) [List.getElem?_cons_zero, List.getElem?_cons_succ, wrap_id, hlt, hko, g1, g2, g3, f1, f3]
    refine HC_of_PC rfl (arrow_ok (endsL es)[k] o[k]) ?_
    simp -implicitDefEqProofs (disch := omega) [List.getElem?_cons_zero, List.getElem?_cons_succ, wrap_id, g3, hL]
    rw [← hat, hH1, List.append_assoc]
    refine ⟨hL, hy k hka _ _ fun Z' => ?_⟩
    simp -implicitDefEqProofs (disch := omega) [List.getElem?_cons_zero, List.getElem?_cons_succ, wrap_id]
    exact round_keep [15, 14, 13, 0, 1, 2] hlt ⟨Z', rfl⟩
  · have hke : k = (arwsL es o).length := by omega
    subst hke
    simp -implicitDefEqProofs (disch := omega) [List.getElem?_cons_zero, List.getElem?_cons_succ, wrap_id, hlt]
    exact finH trivial rfl (hK _ Z)
end
/-- The objects while indegrees are counted. -/
abbrev inH (N : Int) (es : List Ed) (o : List Bool) (n : Nat) (lp : AO) (k : Nat) : List AO :=
  [.box (.p (G N es)), rowZ (degL n ((hdsL es o).take k)), .box (.os 1 0 n), .box (.p (G N es)), .box (.p (.bo o)), lp]
theorem in_range {n : Nat} {es : List Ed} {o : List Bool} (hg : gcheck n es = 0) (hel : es.length ≤ 1000) (hol : o.length = (endsL es).length) (t : List (Nat × AV)) (ht : Abs.get t 5 = .ptr 2 1 0 0) {K : AV → List AO → Prop}
    (hK : ∀ r Z, K r (inH n es o n (.lp 23 t [14, 15] rc25_0a rc25_0c .ready) (arwsL es o).length ++ Z)) :
    HC Try.prog false 59 [.yl 5, .ptr 3 1 0 0, .ptr 4 1 0 0] (inH n es o n (.lp 23 t [14, 15] rc25_0a rc25_0c .ready) 0) K := by
  have hgood := gcheck_ok hg
  have hml := arwsL_len hol
  have he := endsL_len hgood.right
  refine arrows_range hg hel hol (fun k Z => rfl) (fun k Z => rfl) (fun k Z => rfl) rfl (fun k hk Z K' hK' => ?_) hK
  have hkh : k < (hdsL es o).length := by rw [hdsL_len]; exact hk
  have hm := hdsL_mem hgood.right _ (List.getElem_mem hkh)
  have hs := degL_take (n := n) hkh
  have hvs : ∀ x ∈ (hdsL es o).take k, 0 ≤ x := fun x hx => (hdsL_mem hgood.right x (List.mem_of_mem_take hx)).1
  have hat := hdsL_at hkh
  rw [← hat]
  obtain ⟨u, hu⟩ : ∃ u : Nat, (hdsL es o)[k] = u := ⟨((hdsL es o)[k]).toNat, by omega⟩
  rw [hu] at hs
  have hun : u < n := by omega
  have hget := degL_get (n := n) hvs u hun
  have hc : ((hdsL es o).take k).count (u : Int) ≤ 50000 := by
    refine Nat.le_trans List.count_le_length ?_
    rw [List.length_take, hdsL_len]
    omega
  have hn0 := degL_len n ((hdsL es o).take k)
  generalize hD : degL n ((hdsL es o).take k) = D at *
  have huD : u < D.length := by omega
  generalize hcv : ((hdsL es o).take k).count (u : Int) = c at *
  have hget2 : D[u] = (c : Int) := by rw [← getD_get huD]; exact hget
  refine HY_of_W rfl rcc25_0a rcc25_0c rfl rfl rfl rfl ?_
  rw [hu]
  dsimp only [inH]
  rw [hD]
  simp -implicitDefEqProofs (disch := omega) [List.getElem?_cons_zero, List.getElem?_cons_succ, wrap_id, ra25_0a, ra25_0c, ht, hn0, huD, hun, hget2]
  have := hK' Z
  dsimp only [inH] at this
  rw [hs, bumpL, Int.toNat_natCast, hget, rowZ, List.map_set] at this
  exact this
theorem indegrees_ok (n : Nat) (es : List Ed) (o : List Bool) (hg : gcheck n es = 0) (hel : es.length ≤ 1000) (hol : o.length = (endsL es).length) :
    PC Try.prog 25 [G n es, .bo o] (.os 0 0 n) [rowZ (inL n es o)] := by
  have hgood := gcheck_ok hg
  have hn := hgood.n12
  have hn2 : n ≤ 1048576 := by omega
  have e0 : List.replicate n (PV.v (Value.int .i64 0)) = (degL n ((hdsL es o).take 0)).map PV.i := by simp [degL]
  have hl := inL_len n es o
  have ht : (hdsL es o).take (arwsL es o).length = hdsL es o := by rw [← hdsL_len]; exact List.take_length
  refine PC_of_W cfn25 ?_
  simp -implicitDefEqProofs (disch := omega) [c25, List.getElem?_cons_zero, List.getElem?_cons_succ, wrap_id, hn2]
  refine HC_of_PC rfl (arrows_ok n es o) ?_
  simp -implicitDefEqProofs (disch := omega) [List.getElem?_cons_zero, List.getElem?_cons_succ, wrap_id, e0]
  refine ⟨by kernel_rfl, in_range hg hel hol _ rfl fun r Z => ?_⟩
  refine AfterR_ready rfl ?_
  dsimp only [inH]
  rw [ht]
  simp -implicitDefEqProofs (disch := omega) [List.getElem?_cons_zero, List.getElem?_cons_succ, wrap_id]
  exact fin1 [1] trivial rfl (by rfl) ⟨rfl, rfl⟩
end Go.Proofs.Ytgbmdikkdjogpaa
