/-
  The law Cuts: reversing the cut of a directed set.
-/
import Derived.Test.YtjinjbcdbkgedaaNmb
import Derived.Test.YtjinjbcdbkgedaaNmf
set_option linter.unusedSimpArgs false
set_option linter.unusedVariables false
namespace Go.Proofs.Ytjinjbcdbkgedaa
open Go.Abs Go.Sand

theorem rsubset_any (N : Int) (es : List Ed) (xs : List Int) (hN : N ≤ 100) : PC Try.prog 47 [G N es, .is xs] (.i (subErr N (-1) xs)) [] := by
  refine PC_of_W cfn47 ?_
  simp -implicitDefEqProofs (disch := omega) [c47, List.getElem?_cons_zero, List.getElem?_cons_succ, wrap_id]
  refine loopW xs.length (fun k s => s = ⟨[(5, .i k), (2, .ptr 0 1 0 0), (1, .p (.is xs))], [.box (.p (G N es))]⟩ ∧ subErr N (-1) xs = subErr N (prvI xs k) (xs.drop k) ∧ (k : Int) ≤ prvI xs k + 1 ∧ prvI xs k < max N 0) (wk_norm [0] [5, 2, 1] rfl rfl) ⟨rfl, rfl, by simp [prvI], by simp [prvI]; omega⟩ ?_
  rintro k s hk ⟨rfl, hI, hK, hP⟩
  have hk100 : k ≤ 1000 := by omega
  by_cases hlt : k < xs.length
  · have hd := subErr_drop N xs k hlt
    simp -implicitDefEqProofs (disch := omega) [List.getElem?_cons_zero, List.getElem?_cons_succ, wrap_id, hlt]
    refine HC_of_PC rfl (rvertex_ok N xs[k] es) ?_
    cases hv : vtx N xs[k]
    · simp -implicitDefEqProofs (disch := omega) [List.getElem?_cons_zero, List.getElem?_cons_succ, wrap_id]
      (refine fin0 trivial rfl ?_; simp -implicitDefEqProofs (disch := omega) [List.getElem?_cons_zero, List.getElem?_cons_succ, idx, wrap_id, hI, hd, hv])
    rcases Nat.eq_zero_or_pos k with h0 | h0
    · subst h0
      have hnn : ¬ xs[0] ≤ prvI xs 0 := by have := vtx_iff.1 hv; simp only [prvI]; omega
      simp -implicitDefEqProofs (disch := omega) [List.getElem?_cons_zero, List.getElem?_cons_succ, wrap_id]
      exact round_end [0] [5, 2, 1] hlt rfl ⟨rfl, by rw [hI, hd, hv, if_neg hnn]; rfl, by rw [prvI_succ hlt]; have := vtx_iff.1 hv; simp only [prvI] at hK; omega, by rw [prvI_succ hlt]; have := vtx_iff.1 hv; omega⟩
    · obtain ⟨j, rfl⟩ : ∃ j, k = j + 1 := ⟨k - 1, by omega⟩
      have hj : j < xs.length := by omega
      have e1 : ((j : Int) + 1 - 1) = j := by omega
      have hA : prvI xs (j + 1) = xs[j] := prvI_succ hj
      rw [hA] at hI hd
      by_cases h6 : xs[j + 1] ≤ xs[j]
      · simp -implicitDefEqProofs (disch := omega) [List.getElem?_cons_zero, List.getElem?_cons_succ, wrap_id, h6, e1, hj]
        (refine fin0 trivial rfl ?_; simp -implicitDefEqProofs (disch := omega) [List.getElem?_cons_zero, List.getElem?_cons_succ, idx, wrap_id, hI, hd, hv, h6])
      · simp -implicitDefEqProofs (disch := omega) [List.getElem?_cons_zero, List.getElem?_cons_succ, wrap_id, h6, e1, hj]
        exact round_end [0] [5, 2, 1] hlt rfl ⟨rfl, by rw [hI, hd, hv, if_neg h6]; rfl, by rw [prvI_succ hlt]; rw [hA] at hK; push_cast at hK ⊢; omega, by rw [prvI_succ hlt]; have := vtx_iff.1 hv; omega⟩
  · simp -implicitDefEqProofs (disch := omega) [List.getElem?_cons_zero, List.getElem?_cons_succ, wrap_id, hlt]
    (refine fin0 trivial rfl ?_; simp -implicitDefEqProofs (disch := omega) [List.getElem?_cons_zero, List.getElem?_cons_succ, idx, wrap_id, hI, subErr, List.drop_of_length_le (Nat.le_of_not_lt hlt)])
theorem sub_len {N last : Int} : ∀ {xs : List Int}, subErr N last xs = 0 → -1 ≤ last → (xs.length : Int) ≤ max 0 (N - 1 - last) := by
  intro xs
  induction xs generalizing last with
  | nil => intro _ _; simp; omega
  | cons v l ih =>
    intro h hl
    unfold subErr at h
    split at h
    · cases h
    · rename_i h1
      split at h
      · cases h
      · have hv : vtx N v = true := by simpa using h1
        have hv2 := vtx_iff.1 hv
        have := ih h (by omega)
        rw [List.length_cons]
        push_cast
        omega
def pick3 (a b c : List Int) : Nat → List Int
  | 0 => a
  | 1 => b
  | _ => c
theorem bump_row {L : List Int} {u : Nat} {c : Int} (hu : u < L.length) : (L.map PV.i).set u (PV.v (Value.int .i64 (L[u] + c))) = (bumpL c L u).map PV.i := by
  unfold bumpL
  rw [Int.toNat_natCast, getD_get hu, List.map_set]
set_option maxRecDepth 100000 in
theorem cuts14_law (N : Int) (es : List Ed) (o : List Bool) (set : List Int) : PC Try.prog 10 [G N es, .bo o, .is set] (.b true) [] := by
  refine PC_of_W cfn10 ?_
  simp -implicitDefEqProofs (disch := omega) [c10, List.getElem?_cons_zero, List.getElem?_cons_succ, wrap_id]
  refine HC_of_PC rfl (right14_ok N es o) ?_
  cases hr : rightB N es o
  · simp -implicitDefEqProofs (disch := omega) [List.getElem?_cons_zero, List.getElem?_cons_succ, wrap_id]
    refine HC_of_PC rfl (awake14_ok) ?_
    simp -implicitDefEqProofs (disch := omega) [List.getElem?_cons_zero, List.getElem?_cons_succ, wrap_id]
    (refine fin0 trivial rfl ?_; simp -implicitDefEqProofs (disch := omega) [List.getElem?_cons_zero, List.getElem?_cons_succ, idx, wrap_id])
  obtain ⟨n, rfl, h, hel, ho9, hn1, hn6⟩ := right_ok hr
  have ho1 : o.length ≤ 100 := by omega
  obtain ⟨hg, hla⟩ := oE_ok h
  have hgood := gcheck_ok hg
  simp -implicitDefEqProofs (disch := omega) [List.getElem?_cons_zero, List.getElem?_cons_succ, wrap_id]
  refine HC_of_PC rfl (rsubset_any n es set (by omega)) ?_
  by_cases hs : subErr n (-1) set = 0
  rotate_left
  · simp -implicitDefEqProofs (disch := omega) [List.getElem?_cons_zero, List.getElem?_cons_succ, wrap_id, hs]
    refine HC_of_PC rfl (awake14_ok) ?_
    simp -implicitDefEqProofs (disch := omega) [List.getElem?_cons_zero, List.getElem?_cons_succ, wrap_id]
    (refine fin0 trivial rfl ?_; simp -implicitDefEqProofs (disch := omega) [List.getElem?_cons_zero, List.getElem?_cons_succ, idx, wrap_id])
  have hsl := sub_len hs (by omega)
  have hsl1 : set.length ≤ 1000 := by omega
  have hsl2 : set.length ≤ 4611686018427387904 := by omega
  have hde : dirE n es o set = 0 := by rw [dirE, if_neg (by simp [h])]; exact hs
  simp -implicitDefEqProofs (disch := omega) [List.getElem?_cons_zero, List.getElem?_cons_succ, wrap_id, hs]
  have c0 := adirected_ok n es o set hel ho1 hsl1
  rw [hde, if_pos rfl] at c0
  refine HC_of_PC rfl (c0) ?_
  obtain ⟨w, hw⟩ : ∃ w, wayP (memB set) es o = w := ⟨_, rfl⟩
  rw [hw]
  by_cases hw0 : w = 0
  · simp -implicitDefEqProofs (disch := omega) [List.getElem?_cons_zero, List.getElem?_cons_succ, wrap_id, hw0]
    refine HC_of_PC rfl (awake14_ok) ?_
    simp -implicitDefEqProofs (disch := omega) [List.getElem?_cons_zero, List.getElem?_cons_succ, wrap_id]
    (refine fin0 trivial rfl ?_; simp -implicitDefEqProofs (disch := omega) [List.getElem?_cons_zero, List.getElem?_cons_succ, idx, wrap_id])
  have hw1 : w = 1 ∨ w = -1 := by rcases way_one hw hw0 with ⟨h1, _⟩ | ⟨h1, _⟩ <;> simp [h1]
  obtain ⟨C, hC⟩ : ∃ C, C = cutL (memB set) es := ⟨_, rfl⟩
  have hCr : ∀ x ∈ C, 0 ≤ x ∧ x < o.length := fun x hx => by rw [hC] at hx; have := cutL_mem hx; omega
  have hCl : C.length ≤ (endsL es).length := by rw [hC]; exact selK_len _ _
  have hCn : C.Nodup := by rw [hC]; exact selK_nodup _ _
  have hrv : rvE n es o C = 0 := by
    unfold rvE
    rw [if_neg (by simp [h])]
    exact revErr_of hCr hCn (fun x _ hx => by simp at hx)
  obtain ⟨bk, hbk⟩ : ∃ bk, bk = flipL o C := ⟨_, rfl⟩
  have hbl : bk.length = o.length := by rw [hbk]; exact flipL_len _ _
  have h2 : oE n es bk = 0 := oE_of hg (by omega)
  have hway2 : wayP (memB set) es bk = -w := by rw [hbk, hC]; exact cut_way hla hw hw0
  have hde2 : dirE n es bk set = 0 := by rw [dirE, if_neg (by simp [h2])]; exact hs
  have c1 := rcut_ok n es set hg hel hsl1
  rw [← hC] at c1
  have c2 := areverse_ok n es o C hel ho1 (by omega) hrv
  rw [← hbk] at c2
  have c3 := adirected_ok n es bk set hel (by omega) hsl1
  rw [hde2, if_pos rfl, hway2] at c3
  obtain ⟨A, hA⟩ : ∃ A, A = inL n es o := ⟨_, rfl⟩
  obtain ⟨B, hB⟩ : ∃ B, B = inL n es bk := ⟨_, rfl⟩
  have hAl : A.length = n := by rw [hA, inL_len]
  have hBl : B.length = n := by rw [hB, inL_len]
  have c4 := aindegrees_ok n es o hel ho1 h
  have c5 := aindegrees_ok n es bk hel (by omega) h2
  rw [← hA] at c4
  rw [← hB] at c5
  simp -implicitDefEqProofs (disch := omega) [List.getElem?_cons_zero, List.getElem?_cons_succ, wrap_id, hw0]
  refine HC_of_PC rfl (c1) ?_
  simp -implicitDefEqProofs (disch := omega) [List.getElem?_cons_zero, List.getElem?_cons_succ, wrap_id]
  refine HC_of_PC (by simp [views, view, viewC, ownEls]) (c2) ?_
  simp -implicitDefEqProofs (disch := omega) [List.getElem?_cons_zero, List.getElem?_cons_succ, wrap_id]
  refine HC_of_PC (by simp [views, view, viewC, ownEls, hbl]) (c3) ?_
  simp -implicitDefEqProofs (disch := omega) [List.getElem?_cons_zero, List.getElem?_cons_succ, wrap_id]
  refine HC_of_PC rfl (c4) ?_
  simp -implicitDefEqProofs (disch := omega) [List.getElem?_cons_zero, List.getElem?_cons_succ, wrap_id]
  refine HC_of_PC (by simp [views, view, viewC, ownEls, hbl]) (c5) ?_
  simp -implicitDefEqProofs (disch := omega) [List.getElem?_cons_zero, List.getElem?_cons_succ, wrap_id, hAl, hBl]
  refine HC_of_PC rfl (ends_ok n es hgood.right hel) ?_
  have e0 : inL n es (cutO (memB set) es o 0) = A := by rw [hA]; simp [cutO, flipL]
  rw [← e0]
  simp -implicitDefEqProofs (disch := omega) [List.getElem?_cons_zero, List.getElem?_cons_succ, wrap_id]
  refine loopW C.length (fun k s => s = ⟨[(112, .i k), (111, .i C.length), (110, .os 1 0 C.length), (17, .p (.ps (endsL es))), (13, .os 3 0 n), (15, .os 4 0 n), (7, .i w), (2, .p (.is set))], [.box (.p (G n es)), rowZ C, rowB bk, rowZ (inL n es (cutO (memB set) es o k)), rowZ B]⟩) (Wk_keep [112, 111, 110, 17, 13, 15, 7, 2]) rfl ?_
  rintro k s hk rfl
  by_cases hlt : k < C.length
  · obtain ⟨i, hx, hi, hstep⟩ := cutO_in hgood.right hla hw hw0 (show k < (cutL (memB set) es).length by rw [← hC]; exact hlt)
    have hCk : C[k] = i := by simp only [hC]; exact hx
    have hp := endsL_mem hgood.right _ (List.getElem_mem hi)
    obtain ⟨p, hpp⟩ : ∃ p, p = (endsL es)[i] := ⟨_, rfl⟩
    rw [← hpp] at hstep hp
    obtain ⟨a, b⟩ := p
    obtain ⟨u, hu⟩ : ∃ u : Nat, a = u := ⟨a.toNat, by dsimp only at hp; omega⟩
    obtain ⟨v, hv⟩ : ∃ v : Nat, b = v := ⟨b.toNat, by dsimp only at hp; omega⟩
    subst hu hv
    dsimp only at hp hstep
    have hun : u < n := by omega
    have hvn : v < n := by omega
    obtain ⟨L0, hL0⟩ : ∃ L, L = inL n es (cutO (memB set) es o k) := ⟨_, rfl⟩
    rw [← hL0] at hstep ⊢
    have hl0 : L0.length = n := by rw [hL0, inL_len]
    have hb0 : ∀ q, (hq : q < L0.length) → -1 ≤ L0[q] ∧ L0[q] ≤ 10 := fun q hq => by
      have := inL_mem_bd hgood.right (o := cutO (memB set) es o k) (by rw [cutO_len]; exact hla) (x := L0[q]) (by rw [← hL0]; exact List.getElem_mem hq)
      omega
    have hbu : ∀ c : Int, -1 ≤ c → c ≤ 1 → ∀ q, (hq : q < (bumpL c L0 u).length) → -2 ≤ (bumpL c L0 u)[q] ∧ (bumpL c L0 u)[q] ≤ 11 := fun c hc1 hc2 q hq => by
      have hq0 : q < L0.length := by rw [bumpL_len] at hq; exact hq
      have := bump_get (c := c) (l := L0) (v := (u : Int)) (u := q) (by omega) hq0
      rw [getD_get hq, getD_get hq0] at this
      have h3 := hb0 q hq0
      rw [this]
      split <;> omega
    have hsu : -1 ≤ sgV (memB set) w u ∧ sgV (memB set) w u ≤ 1 := by unfold sgV; rcases hw1 with rfl | rfl <;> split <;> omega
    obtain ⟨L1, hL1⟩ : ∃ L, L = bumpL (sgV (memB set) w u) L0 u := ⟨_, rfl⟩
    have hl1 : L1.length = n := by rw [hL1, bumpL_len, hl0]
    have hb1 : ∀ q, (hq : q < L1.length) → -2 ≤ L1[q] ∧ L1[q] ≤ 11 := by subst hL1; exact hbu _ hsu.1 hsu.2
    rw [← hL1] at hstep
    have hi0 : ¬ (i : Int) < 0 := by omega
    have hpi : (endsL es)[i] = ((u : Int), (v : Int)) := hpp.symm
    simp -implicitDefEqProofs (disch := omega) [List.getElem?_cons_zero, List.getElem?_cons_succ, wrap_id, hlt, hCk, hi, hi0, hpi]
    refine loopW 2 (fun j s => s = ⟨[(120, .i j), (119, .p (pP ((u : Int), (v : Int)))), (112, .i k), (111, .i C.length), (110, .os 1 0 C.length), (17, .p (.ps (endsL es))), (13, .os 3 0 n), (15, .os 4 0 n), (7, .i w), (2, .p (.is set))], [.box (.p (G n es)), rowZ C, rowB bk, rowZ (pick3 L0 L1 (bumpL (sgV (memB set) w v) L1 v) j), rowZ B]⟩) (Wk_keep [120, 119, 112, 111, 110, 17, 13, 15, 7, 2]) rfl ?_
    rintro j s hj rfl
    by_cases hlj : j < 2
    · rcases (by omega : j = 0 ∨ j = 1) with rfl | rfl
      · have ep : pick3 L0 L1 (bumpL (sgV (memB set) w v) L1 v) 0 = L0 := rfl
        rw [ep]
        simp -implicitDefEqProofs (disch := omega) [List.getElem?_cons_zero, List.getElem?_cons_succ, wrap_id]
        have hu0 : ¬ ((u : Nat) : Int) < 0 := by omega
        have huL : u < (L0).length := by omega
        obtain ⟨x, hx⟩ : ∃ x, x = (L0)[u] := ⟨_, rfl⟩
        have hbx := hb0 u huL
        rw [← hx] at hbx
        have hx' := hx.symm
        by_cases hm : ((u : Nat) : Int) ∈ set
        · have hsg : sgV (memB set) w (u : Nat) = w := by simp [sgV, memB, hm]
          have hr3 : ((L0).map PV.i).set u (PV.v (Value.int .i64 (x + w))) = (L1).map PV.i := by
            have := bump_row (c := w) huL
            rw [hx'] at this
            rw [this, hL1, hsg]
          refine HC_of_PC rfl (contains_ok set (u : Nat) hsl2) ?_
          simp -implicitDefEqProofs (disch := omega) [List.getElem?_cons_zero, List.getElem?_cons_succ, wrap_id, hm, hu0, huL, hx', hr3, hl0, hun]
          exact round_keep [120, 119, 112, 111, 110, 17, 13, 15, 7, 2] hlj rfl
        · have hsg : sgV (memB set) w (u : Nat) = -w := by simp [sgV, memB, hm]
          have hr3 : ((L0).map PV.i).set u (PV.v (Value.int .i64 (x - w))) = (L1).map PV.i := by
            have := bump_row (c := -w) huL
            rw [hx', ← Int.sub_eq_add_neg] at this
            rw [this, hL1, hsg]
          refine HC_of_PC rfl (contains_ok set (u : Nat) hsl2) ?_
          simp -implicitDefEqProofs (disch := omega) [List.getElem?_cons_zero, List.getElem?_cons_succ, wrap_id, hm, hu0, huL, hx', hr3, hl0, hun]
          exact round_keep [120, 119, 112, 111, 110, 17, 13, 15, 7, 2] hlj rfl
      · have ep : pick3 L0 L1 (bumpL (sgV (memB set) w v) L1 v) 1 = L1 := rfl
        rw [ep]
        simp -implicitDefEqProofs (disch := omega) [List.getElem?_cons_zero, List.getElem?_cons_succ, wrap_id]
        have hu0 : ¬ ((v : Nat) : Int) < 0 := by omega
        have huL : v < (L1).length := by omega
        obtain ⟨x, hx⟩ : ∃ x, x = (L1)[v] := ⟨_, rfl⟩
        have hbx := hb1 v huL
        rw [← hx] at hbx
        have hx' := hx.symm
        by_cases hm : ((v : Nat) : Int) ∈ set
        · have hsg : sgV (memB set) w (v : Nat) = w := by simp [sgV, memB, hm]
          have hr3 : ((L1).map PV.i).set v (PV.v (Value.int .i64 (x + w))) = (bumpL (sgV (memB set) w v) L1 v).map PV.i := by
            have := bump_row (c := w) huL
            rw [hx'] at this
            rw [this, hsg]
          refine HC_of_PC rfl (contains_ok set (v : Nat) hsl2) ?_
          simp -implicitDefEqProofs (disch := omega) [List.getElem?_cons_zero, List.getElem?_cons_succ, wrap_id, hm, hu0, huL, hx', hr3, hl1, hvn]
          exact round_keep [120, 119, 112, 111, 110, 17, 13, 15, 7, 2] hlj rfl
        · have hsg : sgV (memB set) w (v : Nat) = -w := by simp [sgV, memB, hm]
          have hr3 : ((L1).map PV.i).set v (PV.v (Value.int .i64 (x - w))) = (bumpL (sgV (memB set) w v) L1 v).map PV.i := by
            have := bump_row (c := -w) huL
            rw [hx', ← Int.sub_eq_add_neg] at this
            rw [this, hsg]
          refine HC_of_PC rfl (contains_ok set (v : Nat) hsl2) ?_
          simp -implicitDefEqProofs (disch := omega) [List.getElem?_cons_zero, List.getElem?_cons_succ, wrap_id, hm, hu0, huL, hx', hr3, hl1, hvn]
          exact round_keep [120, 119, 112, 111, 110, 17, 13, 15, 7, 2] hlj rfl
    · have hj2 : j = 2 := by omega
      subst hj2
      have ep : pick3 L0 L1 (bumpL (sgV (memB set) w v) L1 v) 2 = bumpL (sgV (memB set) w v) L1 v := rfl
      rw [ep, ← hstep]
      simp -implicitDefEqProofs (disch := omega) [List.getElem?_cons_zero, List.getElem?_cons_succ, wrap_id]
      exact round_keep [112, 111, 110, 17, 13, 15, 7, 2] hlt rfl
  · have hkn : k = C.length := by omega
    have eB : inL n es (cutO (memB set) es o k) = B := by rw [hB, hbk, hkn, cutO, ← hC, List.take_length]
    rw [eB]
    simp -implicitDefEqProofs (disch := omega) [List.getElem?_cons_zero, List.getElem?_cons_succ, wrap_id, hlt]
    refine HC_of_PC (by simp [views, view, viewC, ownEls, hBl]) (equalZ_ok B B (by omega)) ?_
    simp -implicitDefEqProofs (disch := omega) [List.getElem?_cons_zero, List.getElem?_cons_succ, wrap_id]
    refine HC_of_PC rfl (awake14_ok) ?_
    simp -implicitDefEqProofs (disch := omega) [List.getElem?_cons_zero, List.getElem?_cons_succ, wrap_id]
    (refine fin0 trivial rfl ?_; simp -implicitDefEqProofs (disch := omega) [List.getElem?_cons_zero, List.getElem?_cons_succ, idx, wrap_id])
end Go.Proofs.Ytjinjbcdbkgedaa
