/-
  Contracts: orientations: sorting the vertices.
-/
import Derived.Test.YtjinjbcdbkgedaaNg
import Derived.Test.YtjinjbcdbkgedaaNh
set_option linter.unusedSimpArgs false
set_option linter.unusedVariables false
namespace Go.Proofs.Ytjinjbcdbkgedaa
open Go.Abs Go.Sand

theorem indexZ_ok (xs : List Int) (hx : xs.length ≤ 4611686018427387904) : PC Try.prog 88 [.is xs, .i 0] (.i (lst (zeroB xs) xs.length)) [] := by
  refine PC_of_W cfn88 ?_
  simp -implicitDefEqProofs (disch := omega) [c88, List.getElem?_cons_zero, List.getElem?_cons_succ, wrap_id]
  refine loopW xs.length (fun k s => s = ⟨[(8, .i k), (7, .i xs.length), (6, .p (.is xs)), (0, .p (.is xs)), (1, .i 0)], []⟩ ∧ ∀ u, u < k → zeroB xs u = false) (Wk_keep [8, 7, 6, 0, 1]) ⟨rfl, fun u hu => by omega⟩ ?_
  rintro k s hk ⟨rfl, hI⟩
  by_cases hlt : k < xs.length
  · have hgd := getD_get hlt
    by_cases h0 : xs[k] = 0
    · have hz : zeroB xs k = true := by rw [zeroB, hgd, h0]; rfl
      have hl := lst_at hlt hz hI
      simp -implicitDefEqProofs (disch := omega) [List.getElem?_cons_zero, List.getElem?_cons_succ, wrap_id, hlt, h0]
      (refine fin0 trivial rfl ?_; simp -implicitDefEqProofs (disch := omega) [List.getElem?_cons_zero, List.getElem?_cons_succ, idx, wrap_id, hl])
    · have hz : zeroB xs k = false := by rw [zeroB, hgd]; simpa using h0
      have h0' : ¬ 0 = xs[k] := fun h => h0 h.symm
      simp -implicitDefEqProofs (disch := omega) [List.getElem?_cons_zero, List.getElem?_cons_succ, wrap_id, hlt, h0, h0']
      exact round_keep [8, 7, 6, 0, 1] hlt ⟨rfl, fun u hu => by
        by_cases e : u = k
        · subst e; exact hz
        · exact hI u (by omega)⟩
  · have hke : k = xs.length := by omega
    subst hke
    have hl := lst_none hI
    simp -implicitDefEqProofs (disch := omega) [List.getElem?_cons_zero, List.getElem?_cons_succ, wrap_id, hlt]
    (refine fin0 trivial rfl ?_; simp -implicitDefEqProofs (disch := omega) [List.getElem?_cons_zero, List.getElem?_cons_succ, idx, wrap_id, hl])
theorem zeroB_wt {n : Nat} {al : List (Int × Int)} {out : List Int} (v : Nat) (hv : v < n) : zeroB (wtL n al out) v = canB al out v := by
  rw [zeroB, getD_get (by rw [wtL_len]; exact hv), wtL_at, wtAt_zero]
/-- The objects while the arrows of a vertex are taken away. -/
abbrev srtH (N : Int) (es : List Ed) (o : List Bool) (n v : Nat) (W : List Int) (out : List Int) (lp : AO) (k : Nat) : List AO :=
  [.box (.p (G N es)), rowZ (decA v W ((arwsL es o).take k)), .box (.os 1 0 n), rowZ out, .box (.i v), rowZ [(v : Int)], .box (.p (G N es)), .box (.p (.bo o)), lp]
theorem srt_range {n v : Nat} {es : List Ed} {o : List Bool} {W out : List Int} (hg : gcheck n es = 0) (hel : es.length ≤ 1000) (hol : o.length = (endsL es).length) (hW : W.length = n) (hWb : ∀ u : Nat, u < n → -100000 ≤ W.getD u 0 ∧ W.getD u 0 ≤ 100000) (t : List (Nat × AV))
    (ht6 : Abs.get t 6 = .ptr 2 1 0 0) (ht8 : Abs.get t 8 = .ptr 4 1 0 0) {K : AV → List AO → Prop}
    (hK : ∀ r Z, K r (srtH n es o n v W out (.lp 45 t [32, 33] rc71_0a rc71_0c .ready) (arwsL es o).length ++ Z)) :
    HC Try.prog false 102 [.yl 8, .ptr 6 1 0 0, .ptr 7 1 0 0] (srtH n es o n v W out (.lp 45 t [32, 33] rc71_0a rc71_0c .ready) 0) K := by
  have hgood := gcheck_ok hg
  have hml := arwsL_len hol
  have he := endsL_len hgood.right
  refine arrows_range hg hel hol (fun k Z => rfl) (fun k Z => rfl) (fun k Z => rfl) rfl (fun k hk Z K' hK' => ?_) hK
  obtain ⟨⟨m1, m2⟩, m3, m4⟩ := arw_mem hgood.right _ (List.getElem_mem hk)
  have hs := decA_take v W (arwsL es o) k hk
  have hKZ := hK' Z
  obtain ⟨u, hu⟩ : ∃ u : Nat, ((arwsL es o)[k]).2 = u := ⟨((arwsL es o)[k]).2.toNat, by omega⟩
  have hun : u < n := by omega
  have hDl : (decA v W ((arwsL es o).take k)).length = n := by rw [decA_len]; exact hW
  have hget := decA_get v ((arwsL es o).take k) W u (by omega) (fun p hp => (arw_mem hgood.right p (List.mem_of_mem_take hp)).2.1)
  have hc : ((arwsL es o).take k).countP (fun p => decide (p.2 = (u : Int)) && decide (p.1 = (v : Int))) ≤ 50000 := by
    refine Nat.le_trans List.countP_le_length ?_
    rw [List.length_take]; omega
  have hWu := hWb u hun
  refine HY_of_W rfl rcc71_0a rcc71_0c rfl rfl rfl rfl ?_
  rw [hu] at hs ⊢
  dsimp only [srtH] at hKZ ⊢
  generalize hDD : decA v W ((arwsL es o).take k) = D at *
  have huD : u < D.length := by omega
  have hDu : D[u] = D.getD u 0 := (getD_get huD).symm
  obtain ⟨x, hx⟩ : ∃ x, x = D.getD u 0 := ⟨_, rfl⟩
  rw [← hx] at hDu hget
  by_cases e : ((arwsL es o)[k]).1 = (v : Int)
  · rw [if_pos e, bumpL, Int.toNat_natCast, ← hx] at hs
    have hx1 : -9223372036854775808 ≤ x - 1 := by omega
    have hx2 : x - 1 ≤ 9223372036854775807 := by omega
    simp -implicitDefEqProofs (disch := omega) [List.getElem?_cons_zero, List.getElem?_cons_succ, wrap_id, ra71_0a, ra71_0c, ht6, ht8, e, hDl, huD, hun, hDu]
    rw [hs, rowZ, List.map_set] at hKZ
    exact hKZ
  · rw [if_neg e] at hs
    rw [hs] at hKZ
    simp -implicitDefEqProofs (disch := omega) [List.getElem?_cons_zero, List.getElem?_cons_succ, wrap_id, ra71_0a, ra71_0c, ht6, ht8, e]
    exact hKZ
theorem wt_bd {n : Nat} {al : List (Int × Int)} {out : List Int} (ha : al.length ≤ 50000) (u : Nat) (hu : u < n) : -1 ≤ (wtL n al out).getD u 0 ∧ (wtL n al out).getD u 0 ≤ 50000 := by
  rw [getD_get (by rw [wtL_len]; exact hu), wtL_at, wtAt]
  split
  · omega
  · have h1 : (al.countP fun p => decide (p.2 = (u : Int)) && !decide (p.1 ∈ out)) ≤ al.length := List.countP_le_length
    omega
theorem sorted_ok (n : Nat) (es : List Ed) (o : List Bool) (hg : gcheck n es = 0) (hel : es.length ≤ 1000) (hol : o.length = (endsL es).length) (hd : (sortL n (arwsL es o)).length = n) :
    PC Try.prog 71 [G n es, .bo o] (.tup [.os 0 0 n, .b true]) [rowZ (sortL n (arwsL es o))] := by
  have hgood := gcheck_ok hg
  have hn := hgood.n12
  have hml := arwsL_len hol
  have he := endsL_len hgood.right
  have hall : ∀ k, k < n → 0 ≤ nxt n (arwsL es o) (sortK n (arwsL es o) k) := fun k hk => by
    by_cases h : 0 ≤ nxt n (arwsL es o) (sortK n (arwsL es o) k)
    · exact h
    · have h1 := sortK_stuck h (n - k)
      have h2 := sortK_len n (arwsL es o) k
      rw [show k + (n - k) = n by omega] at h1
      unfold sortL at hd
      rw [h1] at hd
      omega
  have hlen : ∀ k, k ≤ n → (sortK n (arwsL es o) k).length = k := fun k => by
    induction k with
    | zero => intro _; rfl
    | succ k ih =>
      intro hk
      rw [sortK, if_pos (hall k (by omega)), List.length_append, ih (by omega)]; rfl
  have ht1 : (arwsL es o).take (arwsL es o).length = arwsL es o := List.take_length
  have hgn : ∀ p ∈ arwsL es o, 0 ≤ p.2 := fun p hp => (arw_mem hgood.right p hp).2.1
  have hw0 := wtL_nil (n := n) hgood.right o
  refine PC_of_W cfn71 ?_
  simp -implicitDefEqProofs (disch := omega) [c71, List.getElem?_cons_zero, List.getElem?_cons_succ, wrap_id]
  refine HC_of_PC rfl (indegrees_ok n es o hg hel hol) ?_
  rw [← hw0]
  have hwl0 := wtL_len n (arwsL es o) []
  simp -implicitDefEqProofs (disch := omega) [List.getElem?_cons_zero, List.getElem?_cons_succ, wrap_id, hwl0]
  refine loopW n (fun k s => s = ⟨[(16, .i k), (15, .i n), (7, .os 3 0 k), (6, .ptr 2 1 0 0), (2, .ptr 0 1 0 0), (1, .p (.bo o))], [.box (.p (G n es)), rowZ (wtL n (arwsL es o) (sortK n (arwsL es o) k)), .box (.os 1 0 n), rowZ (sortK n (arwsL es o) k)]⟩) ((Wk_nil 7 1 3 rfl).trans (wk_norm [0, 1, 2, 3] [16, 15, 7, 6, 2, 1] rfl rfl)) rfl ?_
  rintro k s hk rfl
  have hkl := hlen k hk
  by_cases hlt : k < n
  · have h0 := hall k hlt
    have hwl := wtL_len n (arwsL es o) (sortK n (arwsL es o) k)
    have hwb := fun u hu => wt_bd (n := n) (al := arwsL es o) (out := sortK n (arwsL es o) k) (by omega) u hu
    have hcl := sortK_closed (n := n) (al := arwsL es o) k
    have hnx : sortK n (arwsL es o) (k + 1) = sortK n (arwsL es o) k ++ [nxt n (arwsL es o) (sortK n (arwsL es o) k)] := by rw [sortK, if_pos h0]
    have hlz : lst (zeroB (wtL n (arwsL es o) (sortK n (arwsL es o) k))) n = nxt n (arwsL es o) (sortK n (arwsL es o) k) := lst_congr fun v hv => zeroB_wt v hv
    obtain ⟨v, hvn, hv, hcan⟩ : ∃ v : Nat, v < n ∧ nxt n (arwsL es o) (sortK n (arwsL es o) k) = v ∧ canB (arwsL es o) (sortK n (arwsL es o) k) v = true := by
      rcases lst_spec (canB (arwsL es o) (sortK n (arwsL es o) k)) n with ⟨h1, _⟩ | ⟨v, h1, h2, h3, _⟩
      · unfold nxt at h0; omega
      · exact ⟨v, h1, h2, h3⟩
    have hstep := wt_step hgn hcl hvn hcan
    rw [hv] at hnx hlz
    rw [← hnx] at hstep
    obtain ⟨W, hW⟩ : ∃ W, W = wtL n (arwsL es o) (sortK n (arwsL es o) k) := ⟨_, rfl⟩
    obtain ⟨S, hS⟩ : ∃ S, S = sortK n (arwsL es o) k := ⟨_, rfl⟩
    rw [← hS] at hW hwl hwb hnx hstep hkl hlz ⊢
    rw [← hW] at hwl hwb hstep hlz ⊢
    have hvW : v < W.length := by omega
    have hS1 : S.length + 1 ≤ 1048576 := by omega
    have hk1 : k + 1 ≤ 1048576 := by omega
    have hiz := indexZ_ok W (by omega)
    rw [hwl, hlz] at hiz
    simp -implicitDefEqProofs (disch := omega) [List.getElem?_cons_zero, List.getElem?_cons_succ, wrap_id, hlt, hwl]
    refine HC_of_PC (by simp [views, view, viewC, hwl]) (hiz) ?_
    have hv0 : ¬ (v : Int) < 0 := by omega
    simp -implicitDefEqProofs (disch := omega) [List.getElem?_cons_zero, List.getElem?_cons_succ, wrap_id, hkl, hk1, hvn, hwl, hv0]
    refine HC_of_PC rfl (arrows_ok n es o) ?_
    simp -implicitDefEqProofs (disch := omega) [List.getElem?_cons_zero, List.getElem?_cons_succ, wrap_id]
    have hset : (W.map PV.i).set v (PV.v (Value.int .i64 (-1))) = (decA v (W.set v (-1)) ((arwsL es o).take 0)).map PV.i := by rw [List.take_zero, decA, List.foldl_nil, List.map_set]
    have hou : S.map PV.i ++ [PV.v (Value.int .i64 (v : Int))] = (S ++ [(v : Int)]).map PV.i := by rw [List.map_append]; rfl
    rw [hset, hou]
    refine ⟨by kernel_rfl, srt_range (W := W.set v (-1)) (out := S ++ [(v : Int)]) hg hel hol (by rw [List.length_set]; exact hwl) (fun u hu => by
      rw [getD_set]
      have := hwb u hu
      split <;> omega) _ rfl rfl fun r Z => ?_⟩
    refine AfterR_ready rfl ?_
    dsimp only [srtH]
    rw [ht1, hstep, ← hnx]
    simp -implicitDefEqProofs (disch := omega) [List.getElem?_cons_zero, List.getElem?_cons_succ, wrap_id]
    refine round_end [0, 1, 2, 3] [16, 15, 7, 6, 2, 1] hlt rfl ?_
    rfl
  · have hke : k = n := by omega
    subst hke
    simp -implicitDefEqProofs (disch := omega) [List.getElem?_cons_zero, List.getElem?_cons_succ, wrap_id, hlt]
    exact fin1 [3] trivial rfl (by rfl) ⟨rfl, rfl⟩
end Go.Proofs.Ytjinjbcdbkgedaa
