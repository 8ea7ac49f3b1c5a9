/-
  Contracts: orientations: acyclic orientations; in the reference too.
-/
import Derived.Test.YtjinjbcdbkgedaaNi
set_option linter.unusedSimpArgs false
set_option linter.unusedVariables false
namespace Go.Proofs.Ytjinjbcdbkgedaa
open Go.Abs Go.Sand

theorem sorted_no (n : Nat) (es : List Ed) (o : List Bool) (hg : gcheck n es = 0) (hel : es.length ≤ 1000) (hol : o.length = (endsL es).length) (hd : (sortL n (arwsL es o)).length ≠ n) :
    PC Try.prog 71 [G n es, .bo o] (.tup [.p .nil, .b false]) [] := by
  have hgood := gcheck_ok hg
  have hn := hgood.n12
  have hml := arwsL_len hol
  have he := endsL_len hgood.right
  have ht1 : (arwsL es o).take (arwsL es o).length = arwsL es o := List.take_length
  have hgn : ∀ p ∈ arwsL es o, 0 ≤ p.2 := fun p hp => (arw_mem hgood.right p hp).2.1
  have hw0 := wtL_nil (n := n) hgood.right o
  refine PC_of_W cfn71 ?_
  simp -implicitDefEqProofs (disch := omega) [c71, List.getElem?_cons_zero, List.getElem?_cons_succ, wrap_id]
  refine HC_of_PC rfl (indegrees_ok n es o hg hel hol) ?_
  rw [← hw0]
  have hwl0 := wtL_len n (arwsL es o) []
  simp -implicitDefEqProofs (disch := omega) [List.getElem?_cons_zero, List.getElem?_cons_succ, wrap_id, hwl0]
  refine loopW n (fun k s => s = ⟨[(16, .i k), (15, .i n), (7, .os 3 0 k), (6, .ptr 2 1 0 0), (2, .ptr 0 1 0 0), (1, .p (.bo o)), (4, .p .nil), (5, .b false)], [.box (.p (G n es)), rowZ (wtL n (arwsL es o) (sortK n (arwsL es o) k)), .box (.os 1 0 n), rowZ (sortK n (arwsL es o) k)]⟩ ∧ (sortK n (arwsL es o) k).length = k) ((Wk_nil 7 1 3 rfl).trans (wk_norm [0, 1, 2, 3] [16, 15, 7, 6, 2, 1, 4, 5] rfl rfl)) ⟨rfl, rfl⟩ ?_
  rintro k s hk ⟨rfl, hkl⟩
  by_cases hlt : k < n
  · have hwl := wtL_len n (arwsL es o) (sortK n (arwsL es o) k)
    have hwb := fun u hu => wt_bd (n := n) (al := arwsL es o) (out := sortK n (arwsL es o) k) (by omega) u hu
    have hcl := sortK_closed (n := n) (al := arwsL es o) k
    have hlz : lst (zeroB (wtL n (arwsL es o) (sortK n (arwsL es o) k))) n = nxt n (arwsL es o) (sortK n (arwsL es o) k) := lst_congr fun v hv => zeroB_wt v hv
    have hiz := indexZ_ok (wtL n (arwsL es o) (sortK n (arwsL es o) k)) (by omega)
    rw [hwl, hlz] at hiz
    by_cases h0 : 0 ≤ nxt n (arwsL es o) (sortK n (arwsL es o) k)
    rotate_left
    · have h0' : nxt n (arwsL es o) (sortK n (arwsL es o) k) < 0 := by omega
      generalize wtL n (arwsL es o) (sortK n (arwsL es o) k) = W at *
      generalize nxt n (arwsL es o) (sortK n (arwsL es o) k) = x at *
      simp -implicitDefEqProofs (disch := omega) [List.getElem?_cons_zero, List.getElem?_cons_succ, wrap_id, hlt, hwl]
      refine HC_of_PC (by simp [views, view, viewC, hwl]) (hiz) ?_
      simp -implicitDefEqProofs (disch := omega) [List.getElem?_cons_zero, List.getElem?_cons_succ, wrap_id, h0']
      (refine fin0 trivial rfl ?_; simp -implicitDefEqProofs (disch := omega) [List.getElem?_cons_zero, List.getElem?_cons_succ, idx, wrap_id])
    have hnx : sortK n (arwsL es o) (k + 1) = sortK n (arwsL es o) k ++ [nxt n (arwsL es o) (sortK n (arwsL es o) k)] := by rw [sortK, if_pos h0]
    have hkl1 : (sortK n (arwsL es o) (k + 1)).length = k + 1 := by rw [hnx, List.length_append, hkl]; rfl
    obtain ⟨v, hvn, hv, hcan⟩ : ∃ v : Nat, v < n ∧ nxt n (arwsL es o) (sortK n (arwsL es o) k) = v ∧ canB (arwsL es o) (sortK n (arwsL es o) k) v = true := by
      rcases lst_spec (canB (arwsL es o) (sortK n (arwsL es o) k)) n with ⟨h1, _⟩ | ⟨v, h1, h2, h3, _⟩
      · unfold nxt at h0; omega
      · exact ⟨v, h1, h2, h3⟩
    have hstep := wt_step hgn hcl hvn hcan
    rw [hv] at hnx hlz hiz
    rw [← hnx] at hstep
    obtain ⟨W, hW⟩ : ∃ W, W = wtL n (arwsL es o) (sortK n (arwsL es o) k) := ⟨_, rfl⟩
    obtain ⟨S, hS⟩ : ∃ S, S = sortK n (arwsL es o) k := ⟨_, rfl⟩
    rw [← hS] at hW hwl hwb hnx hstep hkl hlz hiz ⊢
    rw [← hW] at hwl hwb hstep hlz hiz ⊢
    have hvW : v < W.length := by omega
    have hS1 : S.length + 1 ≤ 1048576 := by omega
    have hk1 : k + 1 ≤ 1048576 := by omega
    have hv0 : ¬ (v : Int) < 0 := by omega
    simp -implicitDefEqProofs (disch := omega) [List.getElem?_cons_zero, List.getElem?_cons_succ, wrap_id, hlt, hwl]
    refine HC_of_PC (by simp [views, view, viewC, hwl]) (hiz) ?_
    simp -implicitDefEqProofs (disch := omega) [List.getElem?_cons_zero, List.getElem?_cons_succ, wrap_id, hkl, hk1, hvn, hwl, hv0]
    refine HC_of_PC rfl (arrows_ok n es o) ?_
    simp -implicitDefEqProofs (disch := omega) [List.getElem?_cons_zero, List.getElem?_cons_succ, wrap_id]
    have hset : (W.map PV.i).set v (PV.v (Value.int .i64 (-1))) = (decA v (W.set v (-1)) ((arwsL es o).take 0)).map PV.i := by rw [List.take_zero, decA, List.foldl_nil, List.map_set]
    have hou : S.map PV.i ++ [PV.v (Value.int .i64 (v : Int))] = (S ++ [(v : Int)]).map PV.i := by rw [List.map_append]; rfl
    rw [hset, hou]
    refine ⟨by kernel_rfl, srt_range (W := W.set v (-1)) (out := S ++ [(v : Int)]) hg hel hol (by rw [List.length_set]; exact hwl) (fun u hu => by
      rw [getD_set]
      have := hwb u hu
      split <;> omega) _ rfl rfl fun r Z => ?_⟩
    refine AfterR_ready rfl ?_
    dsimp only [srtH]
    rw [ht1, hstep, ← hnx]
    simp -implicitDefEqProofs (disch := omega) [List.getElem?_cons_zero, List.getElem?_cons_succ, wrap_id]
    exact round_end [0, 1, 2, 3] [16, 15, 7, 6, 2, 1, 4, 5] hlt rfl ⟨rfl, hkl1⟩
  · have hke : k = n := by omega
    subst hke
    exact absurd hkl hd
abbrev acyB (n : Nat) (es : List Ed) (o : List Bool) : Bool := decide ((sortL n (arwsL es o)).length = n)
theorem aacyclic_ok (n : Nat) (es : List Ed) (o : List Bool) (hel : es.length ≤ 1000) (ho : o.length ≤ 100) (h : oE n es o = 0) (hd : (sortL n (arwsL es o)).length = n) :
    PC Try.prog 41 [G n es, .bo o] (.tup [.b true, .os 0 0 n, .i 0]) [rowZ (sortL n (arwsL es o))] := by
  obtain ⟨hg, hol⟩ := oE_ok h
  refine PC_of_W cfn41 ?_
  simp -implicitDefEqProofs (disch := omega) [c41, List.getElem?_cons_zero, List.getElem?_cons_succ, wrap_id]
  refine HC_of_PC rfl (ocheck_ok n es o hel (by omega)) ?_
  simp -implicitDefEqProofs (disch := omega) [List.getElem?_cons_zero, List.getElem?_cons_succ, wrap_id, h]
  refine HC_of_PC rfl (sorted_ok n es o hg hel hol hd) ?_
  simp -implicitDefEqProofs (disch := omega) [List.getElem?_cons_zero, List.getElem?_cons_succ, wrap_id]
  exact fin1 [1] trivial rfl (by rfl) ⟨rfl, rfl⟩
theorem aacyclic_no (n : Nat) (es : List Ed) (o : List Bool) (hel : es.length ≤ 1000) (ho : o.length ≤ 100) (h : oE n es o = 0) (hd : (sortL n (arwsL es o)).length ≠ n) :
    PC Try.prog 41 [G n es, .bo o] (.tup [.b false, .p (.is []), .i 0]) [] := by
  obtain ⟨hg, hol⟩ := oE_ok h
  refine PC_of_W cfn41 ?_
  simp -implicitDefEqProofs (disch := omega) [c41, List.getElem?_cons_zero, List.getElem?_cons_succ, wrap_id]
  refine HC_of_PC rfl (ocheck_ok n es o hel (by omega)) ?_
  simp -implicitDefEqProofs (disch := omega) [List.getElem?_cons_zero, List.getElem?_cons_succ, wrap_id, h]
  refine HC_of_PC rfl (sorted_no n es o hg hel hol hd) ?_
  simp -implicitDefEqProofs (disch := omega) [List.getElem?_cons_zero, List.getElem?_cons_succ, wrap_id]
  refine finW (Wk_nil0 5 rfl) ?_
  (refine fin0 trivial rfl ?_; simp -implicitDefEqProofs (disch := omega) [List.getElem?_cons_zero, List.getElem?_cons_succ, idx, wrap_id])
theorem aacyclic_err (N : Int) (es : List Ed) (o : List Bool) (hel : es.length ≤ 1000) (ho : o.length ≤ 100) (h : oE N es o ≠ 0) :
    PC Try.prog 41 [G N es, .bo o] (.tup [.b false, .p (.is []), .i (oE N es o)]) [] := by
  refine PC_of_W cfn41 ?_
  simp -implicitDefEqProofs (disch := omega) [c41, List.getElem?_cons_zero, List.getElem?_cons_succ, wrap_id]
  refine HC_of_PC rfl (ocheck_ok N es o hel (by omega)) ?_
  simp -implicitDefEqProofs (disch := omega) [List.getElem?_cons_zero, List.getElem?_cons_succ, wrap_id, h]
  refine finW (Wk_nil0 5 rfl) ?_
  (refine fin0 trivial rfl ?_; simp -implicitDefEqProofs (disch := omega) [List.getElem?_cons_zero, List.getElem?_cons_succ, idx, wrap_id])
theorem free_ok {es : List Ed} {o : List Bool} (hol : o.length = (endsL es).length) (hm : (endsL es).length ≤ 50000) (out : List Int) (hout : out.length ≤ 1000) (v : Int) :
    PC Try.prog 99 [.ps (endsL es), .bo o, .is out, .i v] (.b (freeB (arwsL es o) out v)) [] := by
  have hml := arwsL_len hol
  refine PC_of_W cfn99 ?_
  simp -implicitDefEqProofs (disch := omega) [c99, List.getElem?_cons_zero, List.getElem?_cons_succ, wrap_id]
  refine loopW (endsL es).length (fun k s => s = ⟨[(9, .i k), (0, .p (.ps (endsL es))), (1, .p (.bo o)), (2, .p (.is out)), (3, .i v)], []⟩ ∧ freeB (arwsL es o) out v = ((arwsL es o).drop k).all fun p => !decide (p.2 = v) || decide (p.1 ∈ out)) (wk_norm [] [9, 0, 1, 2, 3] rfl rfl) ⟨rfl, rfl⟩ ?_
  rintro k s hk ⟨rfl, hI⟩
  by_cases hlt : k < (endsL es).length
  · have hko : k < o.length := by omega
    have hka : k < (arwsL es o).length := by omega
    have hat := arwsL_at hol k hlt
    rw [List.drop_eq_getElem_cons hka, List.all_cons, hat] at hI
    simp -implicitDefEqProofs (disch := omega) [List.getElem?_cons_zero, List.getElem?_cons_succ, wrap_id, hlt, hko]
    refine HC_of_PC rfl (head_ok (endsL es)[k] o[k]) ?_
    by_cases h1 : (arw (endsL es)[k] o[k]).2 = v
    · simp only [h1, decide_true, Bool.not_true, Bool.false_or] at hI
      simp -implicitDefEqProofs (disch := omega) [List.getElem?_cons_zero, List.getElem?_cons_succ, wrap_id, h1, hlt, hko]
      refine HC_of_PC rfl (tail_ok (endsL es)[k] o[k]) ?_
      simp -implicitDefEqProofs (disch := omega) [List.getElem?_cons_zero, List.getElem?_cons_succ, wrap_id]
      refine HC_of_PC rfl (holds_ok out (arw (endsL es)[k] o[k]).1 (by omega)) ?_
      by_cases h2 : (arw (endsL es)[k] o[k]).1 ∈ out
      · simp only [h2, decide_true, Bool.true_and] at hI
        simp -implicitDefEqProofs (disch := omega) [List.getElem?_cons_zero, List.getElem?_cons_succ, wrap_id, h2]
        exact round_end [] [9, 0, 1, 2, 3] hlt rfl ⟨rfl, hI⟩
      · simp only [h2, decide_false, Bool.false_and] at hI
        simp -implicitDefEqProofs (disch := omega) [List.getElem?_cons_zero, List.getElem?_cons_succ, wrap_id, h2]
        (refine fin0 trivial rfl ?_; simp -implicitDefEqProofs (disch := omega) [List.getElem?_cons_zero, List.getElem?_cons_succ, idx, wrap_id, hI])
    · simp only [h1, decide_false, Bool.not_false, Bool.true_or, Bool.true_and] at hI
      simp -implicitDefEqProofs (disch := omega) [List.getElem?_cons_zero, List.getElem?_cons_succ, wrap_id, h1]
      exact round_end [] [9, 0, 1, 2, 3] hlt rfl ⟨rfl, hI⟩
  · rw [List.drop_of_length_le (by omega)] at hI
    simp -implicitDefEqProofs (disch := omega) [List.getElem?_cons_zero, List.getElem?_cons_succ, wrap_id, hlt]
    (refine fin0 trivial rfl ?_; simp -implicitDefEqProofs (disch := omega) [List.getElem?_cons_zero, List.getElem?_cons_succ, idx, wrap_id, hI])
/-- What the reference has found when it has come down to n - k. -/
def DnI (p : Nat → Bool) (n k : Nat) (x : Int) : Prop := (x = -1 ∧ ∀ v, n - k ≤ v → v < n → p v = false) ∨ ∃ v : Nat, x = v ∧ n - k ≤ v ∧ v < n ∧ p v = true ∧ ∀ u, n - k ≤ u → u < v → p u = false
theorem DnI.end {p : Nat → Bool} {n : Nat} {x : Int} (h : DnI p n n x) : x = lst p n := by
  rcases h with ⟨h1, h2⟩ | ⟨v, h1, h2, h3, h4, h5⟩
  · rw [h1, lst_none fun v hv => h2 v (by omega) hv]
  · rw [h1, lst_at h3 h4 fun u hu => h5 u (by omega) hu]
theorem DnI.yes {p : Nat → Bool} {n k : Nat} (hk : k < n) (hp : p (n - 1 - k) = true) : DnI p n (k + 1) ((n - 1 - k : Nat) : Int) :=
  .inr ⟨n - 1 - k, rfl, by omega, by omega, hp, fun u h1 h2 => by omega⟩
theorem DnI.no {p : Nat → Bool} {n k : Nat} {x : Int} (hk : k < n) (hp : p (n - 1 - k) = false) (h : DnI p n k x) : DnI p n (k + 1) x := by
  have key : ∀ v, n - (k + 1) ≤ v → v < n - k → p v = false := fun v h1 h2 => by
    have : v = n - 1 - k := by omega
    rw [this]; exact hp
  rcases h with ⟨h1, h2⟩ | ⟨v, h1, h2, h3, h4, h5⟩
  · refine .inl ⟨h1, fun v hv hn => ?_⟩
    by_cases h : n - k ≤ v
    · exact h2 v h hn
    · exact key v hv (by omega)
  · refine .inr ⟨v, h1, by omega, h3, h4, fun u hu huv => ?_⟩
    by_cases h : n - k ≤ u
    · exact h5 u h huv
    · exact key u hu (by omega)
theorem sorting_ok (n : Nat) (es : List Ed) (o : List Bool) (hg : gcheck n es = 0) (hel : es.length ≤ 1000) (hol : o.length = (endsL es).length) :
    PC Try.prog 83 [G n es, .bo o] (.os 0 0 (sortL n (arwsL es o)).length) [rowZ (sortL n (arwsL es o))] := by
  have hgood := gcheck_ok hg
  have hn := hgood.n12
  have he := endsL_len hgood.right
  have hem : (endsL es).length ≤ 50000 := by omega
  refine PC_of_W cfn83 ?_
  simp -implicitDefEqProofs (disch := omega) [c83, List.getElem?_cons_zero, List.getElem?_cons_succ, wrap_id]
  refine HC_of_PC rfl (ends_ok n es hgood.right hel) ?_
  simp -implicitDefEqProofs (disch := omega) [List.getElem?_cons_zero, List.getElem?_cons_succ, wrap_id]
  refine loopW n (fun k s => s = ⟨[(7, .i k), (6, .os 1 0 (sortK n (arwsL es o) k).length), (5, .p (.ps (endsL es))), (2, .ptr 0 1 0 0), (1, .p (.bo o))], [.box (.p (G n es)), rowZ (sortK n (arwsL es o) k)]⟩) ((Wk_nil 6 1 3 rfl).trans (wk_norm [0, 1] [7, 6, 5, 2, 1] rfl rfl)) rfl ?_
  rintro k s hk rfl
  have hkl := sortK_len n (arwsL es o) k
  by_cases hlt : k < n
  · have hsk : sortK n (arwsL es o) (k + 1) = if 0 ≤ nxt n (arwsL es o) (sortK n (arwsL es o) k) then sortK n (arwsL es o) k ++ [nxt n (arwsL es o) (sortK n (arwsL es o) k)] else sortK n (arwsL es o) k := rfl
    unfold nxt at hsk
    obtain ⟨S, hS⟩ : ∃ S, S = sortK n (arwsL es o) k := ⟨_, rfl⟩
    rw [← hS] at hkl hsk ⊢
    have hw1 : (n : Int) - 1 ≤ 9223372036854775807 := by omega
    simp -implicitDefEqProofs (disch := omega) [List.getElem?_cons_zero, List.getElem?_cons_succ, wrap_id, hlt]
    refine loopW n (fun j s => ∃ x, s = ⟨[(9, .i ((n : Int) - 1 - j)), (8, .i x), (7, .i k), (6, .os 1 0 S.length), (5, .p (.ps (endsL es))), (2, .ptr 0 1 0 0), (1, .p (.bo o))], [.box (.p (G n es)), rowZ S]⟩ ∧ DnI (canB (arwsL es o) S) n j x) (wk_norm [0, 1] [9, 8, 7, 6, 5, 2, 1] rfl (by simp -implicitDefEqProofs [-AO.ren, norm, renH, ren_box, ren_fbx, ren_row, ren_tab, ren_dict, Abs.get, AV.ren, idx_at, idx_at0, ])) ⟨-1, rfl, .inl ⟨rfl, fun v h1 h2 => by omega⟩⟩ ?_
    rintro j s hj ⟨x, rfl, hI⟩
    by_cases hlj : j < n
    · have hx : (n : Int) - 1 - j = ((n - 1 - j : Nat) : Int) := by omega
      obtain ⟨v, hv⟩ : ∃ v, v = n - 1 - j := ⟨_, rfl⟩
      rw [← hv] at hx
      have hcan : canB (arwsL es o) S v = (!decide ((v : Int) ∈ S) && freeB (arwsL es o) S v) := rfl
      have hv1 : (0 : Int) ≤ (v : Int) := by omega
      have hvj : (v : Int) - 1 = (n : Int) - 1 - ((j + 1 : Nat) : Int) := by omega
      rw [hx]
      simp -implicitDefEqProofs (disch := omega) [List.getElem?_cons_zero, List.getElem?_cons_succ, wrap_id, hv1]
      refine HC_of_PC (by simp [views, view, viewC]) (holds_ok S (v : Int) (by omega)) ?_
      by_cases h1 : (v : Int) ∈ S
      · have hc : canB (arwsL es o) S (n - 1 - j) = false := by rw [← hv, hcan]; simp [h1]
        simp -implicitDefEqProofs (disch := omega) [List.getElem?_cons_zero, List.getElem?_cons_succ, wrap_id, h1]
        exact round_end [0, 1] [9, 8, 7, 6, 5, 2, 1] hlj rfl ⟨x, by rw [← hvj]; rfl, hI.no hlj hc⟩
      · simp -implicitDefEqProofs (disch := omega) [List.getElem?_cons_zero, List.getElem?_cons_succ, wrap_id, h1]
        refine HC_of_PC (by simp [views, view, viewC]) (free_ok hol hem S (by omega) (v : Int)) ?_
        cases h2 : freeB (arwsL es o) S (v : Int)
        · have hc : canB (arwsL es o) S (n - 1 - j) = false := by rw [← hv, hcan, h2]; simp
          simp -implicitDefEqProofs (disch := omega) [List.getElem?_cons_zero, List.getElem?_cons_succ, wrap_id]
          exact round_end [0, 1] [9, 8, 7, 6, 5, 2, 1] hlj rfl ⟨x, by rw [← hvj]; rfl, hI.no hlj hc⟩
        · have hc : canB (arwsL es o) S (n - 1 - j) = true := by rw [← hv, hcan, h2]; simp [h1]
          simp -implicitDefEqProofs (disch := omega) [List.getElem?_cons_zero, List.getElem?_cons_succ, wrap_id]
          exact round_end [0, 1] [9, 8, 7, 6, 5, 2, 1] hlj rfl ⟨(v : Int), by rw [← hvj]; rfl, by rw [hv]; exact DnI.yes hlj hc⟩
    · have hje : j = n := by omega
      subst hje
      have hxe := hI.end
      rw [← hxe] at hsk
      have e1 : (j : Int) - 1 - (j : Int) = -1 := by omega
      rw [e1]
      by_cases hx0 : 0 ≤ x
      · rw [if_pos hx0] at hsk
        have hS1 : S.length + 1 ≤ 1048576 := by omega
        simp -implicitDefEqProofs (disch := omega) [List.getElem?_cons_zero, List.getElem?_cons_succ, wrap_id, hx0, hS1]
        exact round_end [0, 1] [7, 6, 5, 2, 1] hlt rfl (by rw [hsk, List.length_append, rowZ, List.map_append]; rfl)
      · rw [if_neg hx0] at hsk
        simp -implicitDefEqProofs (disch := omega) [List.getElem?_cons_zero, List.getElem?_cons_succ, wrap_id, hx0]
        exact round_end [0, 1] [7, 6, 5, 2, 1] hlt rfl (by rw [hsk]; rfl)
  · have hke : k = n := by omega
    subst hke
    simp -implicitDefEqProofs (disch := omega) [List.getElem?_cons_zero, List.getElem?_cons_succ, wrap_id, hlt]
    exact fin1 [1] trivial rfl (by rfl) ⟨rfl, rfl⟩
theorem sortL_le (n : Nat) (al : List (Int × Int)) : (sortL n al).length ≤ n := sortK_len n al n
theorem racyclic_ok (n : Nat) (es : List Ed) (o : List Bool) (hel : es.length ≤ 1000) (ho : o.length ≤ 100) (h : oE n es o = 0) (hd : (sortL n (arwsL es o)).length = n) :
    PC Try.prog 42 [G n es, .bo o] (.tup [.b true, .os 0 0 n, .i 0]) [rowZ (sortL n (arwsL es o))] := by
  obtain ⟨hg, hol⟩ := oE_ok h
  have hso := sorting_ok n es o hg hel hol
  rw [hd] at hso
  refine PC_of_W cfn42 ?_
  simp -implicitDefEqProofs (disch := omega) [c42, List.getElem?_cons_zero, List.getElem?_cons_succ, wrap_id]
  refine HC_of_PC rfl (rocheck_ok n es o hel (by omega)) ?_
  simp -implicitDefEqProofs (disch := omega) [List.getElem?_cons_zero, List.getElem?_cons_succ, wrap_id, h]
  refine HC_of_PC rfl (hso) ?_
  simp -implicitDefEqProofs (disch := omega) [List.getElem?_cons_zero, List.getElem?_cons_succ, wrap_id, hd]
  exact fin1 [1] trivial rfl (by rfl) ⟨rfl, rfl⟩
theorem racyclic_no (n : Nat) (es : List Ed) (o : List Bool) (hel : es.length ≤ 1000) (ho : o.length ≤ 100) (h : oE n es o = 0) (hd : (sortL n (arwsL es o)).length ≠ n) :
    PC Try.prog 42 [G n es, .bo o] (.tup [.b false, .p (.is []), .i 0]) [] := by
  obtain ⟨hg, hol⟩ := oE_ok h
  have hle := sortL_le n (arwsL es o)
  have hlt : (sortL n (arwsL es o)).length < n := by omega
  have hso := sorting_ok n es o hg hel hol
  refine PC_of_W cfn42 ?_
  simp -implicitDefEqProofs (disch := omega) [c42, List.getElem?_cons_zero, List.getElem?_cons_succ, wrap_id]
  refine HC_of_PC rfl (rocheck_ok n es o hel (by omega)) ?_
  simp -implicitDefEqProofs (disch := omega) [List.getElem?_cons_zero, List.getElem?_cons_succ, wrap_id, h]
  refine HC_of_PC rfl (hso) ?_
  simp -implicitDefEqProofs (disch := omega) [List.getElem?_cons_zero, List.getElem?_cons_succ, wrap_id, hlt]
  refine finW (Wk_nil0 5 rfl) ?_
  (refine fin0 trivial rfl ?_; simp -implicitDefEqProofs (disch := omega) [List.getElem?_cons_zero, List.getElem?_cons_succ, idx, wrap_id])
theorem racyclic_err (N : Int) (es : List Ed) (o : List Bool) (hel : es.length ≤ 1000) (ho : o.length ≤ 100) (h : oE N es o ≠ 0) :
    PC Try.prog 42 [G N es, .bo o] (.tup [.b false, .p (.is []), .i (oE N es o)]) [] := by
  refine PC_of_W cfn42 ?_
  simp -implicitDefEqProofs (disch := omega) [c42, List.getElem?_cons_zero, List.getElem?_cons_succ, wrap_id]
  refine HC_of_PC rfl (rocheck_ok N es o hel (by omega)) ?_
  simp -implicitDefEqProofs (disch := omega) [List.getElem?_cons_zero, List.getElem?_cons_succ, wrap_id, h]
  refine finW (Wk_nil0 5 rfl) ?_
  (refine fin0 trivial rfl ?_; simp -implicitDefEqProofs (disch := omega) [List.getElem?_cons_zero, List.getElem?_cons_succ, idx, wrap_id])
end Go.Proofs.Ytjinjbcdbkgedaa
