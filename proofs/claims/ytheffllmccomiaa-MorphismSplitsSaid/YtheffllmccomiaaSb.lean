/-
  Contracts: the law MorphismCovers.
-/
import Derived.Test.YtheffllmccomiaaSa
set_option linter.unusedSimpArgs false
set_option linter.unusedVariables false
namespace Go.Proofs.Ytheffllmccomiaa
open Go.Abs Go.Sand

theorem fib_sum (m : Mo) (w : Int) (f : Nat → Int) : ∀ k, sumI ((fibL m.v w k).map fun v => f v.toNat) = sm (fun v => if vI m v = w then f v else 0) k
  | 0 => rfl
  | k + 1 => by
    rw [fibL_succ, sm, ← fib_sum m w f k]
    by_cases hv : m.v.getD k 0 = w
    · rw [if_pos hv, if_pos hv, List.map_append, sumI_append]
      simp [sumI]
    · rw [if_neg hv, if_neg hv]; omega
theorem fib_mem {vs : List Int} {w : Int} {k : Nat} {v : Int} (h : v ∈ fibL vs w k) : 0 ≤ v ∧ v < k := by
  simp only [fibL, List.mem_map, List.mem_filter, List.mem_range] at h
  obtain ⟨i, ⟨hi, _⟩, rfl⟩ := h
  omega
theorem sm_bd {f : Nat → Int} {B : Int} : ∀ {k : Nat}, (∀ i, i < k → 0 ≤ f i ∧ f i ≤ B) → 0 ≤ sm f k ∧ sm f k ≤ k * B
  | 0, _ => by simp [sm]
  | k + 1, h => by
    have := sm_bd (k := k) fun i hi => h i (by omega)
    have := h k (by omega)
    have e : ((k + 1 : Nat) : Int) * B = k * B + B := by rw [Int.natCast_succ, Int.add_mul, Int.one_mul]
    rw [sm, e]; omega
/-- The partial sums over a list of vertices. -/
def fsum (f : Nat → Int) (L : List Int) (i : Nat) : Int := sm (fun j => f (L.getD j 0).toNat) i
theorem fsum_succ {f : Nat → Int} {L : List Int} {i u : Nat} (h : i < L.length) (hu : L[i] = u) : fsum f L (i + 1) = fsum f L i + f u := by
  have hgd : L.getD i 0 = L[i] := by rw [List.getD_eq_getElem?_getD, List.getElem?_eq_getElem h]; rfl
  rw [fsum, sm, hgd, hu]; rfl
theorem covers_law (g h : Gr) (m : Mo) : PC Try.prog 4 [EnP g h, MoP m] (.b true) [] := by
  refine PC_of_W cfn4 ?_
  simp -implicitDefEqProofs (disch := omega) [c4, List.getElem?_cons_zero, List.getElem?_cons_succ, wrap_id]
  refine HC_of_PC rfl (lright_ok g h m) ?_
  cases hr : rightM g h m
  · simp -implicitDefEqProofs (disch := omega) [List.getElem?_cons_zero, List.getElem?_cons_succ, wrap_id]
    refine HC_of_PC rfl (awake_ok) ?_
    simp -implicitDefEqProofs (disch := omega) [List.getElem?_cons_zero, List.getElem?_cons_succ, wrap_id]
    (refine fin0 trivial rfl ?_; simp -implicitDefEqProofs (disch := omega) [List.getElem?_cons_zero, List.getElem?_cons_succ, idx, wrap_id])
  obtain ⟨⟨hf, hc⟩, hh⟩ : (fewM g h m = true ∧ coverE g h m = 0) ∧ harmM g h m = true := by simpa [rightM] using hr
  have hs := few_sm hf
  obtain ⟨n, k, c⟩ := cov_of hc
  have h12 := c.n12
  have hk := c.hk
  have hgn := c.gn
  have hvl := c.vl
  have hel := c.elg
  have h9 : nE g ≤ 45000 := endsL_len9 c.gg.right hs.g
  have h9h : nE h ≤ 45000 := endsL_len9 c.hg.right hs.h
  have hdE : degE g h m = 0 := by rw [degE, if_neg (by simp [hc]), if_neg (by simp [hh])]
  have hd := degree_ok g h m hs
  rw [hdE, if_pos rfl] at hd
  have hob := occ_bd 0 m.e
  simp -implicitDefEqProofs (disch := omega) [List.getElem?_cons_zero, List.getElem?_cons_succ, wrap_id]
  refine HC_of_PC rfl (hd) ?_
  by_cases h1 : h.1 = 1
  · have h0 := one_none c h1
    simp -implicitDefEqProofs (disch := omega) [List.getElem?_cons_zero, List.getElem?_cons_succ, wrap_id, h1, h0]
    refine HC_of_PC rfl (awake_ok) ?_
    simp -implicitDefEqProofs (disch := omega) [List.getElem?_cons_zero, List.getElem?_cons_succ, wrap_id]
    (refine fin0 trivial rfl ?_; simp -implicitDefEqProofs (disch := omega) [List.getElem?_cons_zero, List.getElem?_cons_succ, idx, wrap_id])
  obtain ⟨dv, de⟩ := deg_same c hh (by omega)
  simp -implicitDefEqProofs (disch := omega) [List.getElem?_cons_zero, List.getElem?_cons_succ, wrap_id, h1]
  refine HC_of_PC rfl (size_ok h.1 h.2 c.hg.right (by have := hs.h; omega)) ?_
  simp -implicitDefEqProofs (disch := omega) [List.getElem?_cons_zero, List.getElem?_cons_succ, wrap_id]
  refine loopW (nE h) (fun j s => s = ⟨[(44, .i j), (43, .i (nE h)), (5, .i (occ 0 m.e)), (2, .ptr 0 1 0 0), (3, .ptr 1 1 0 0)], [.box (.p (EnP g h)), .box (.p (MoP m))]⟩)
    (wk_norm [0, 1] [44, 43, 5, 2, 3] rfl rfl) rfl ?_
  rintro j s hj rfl
  by_cases hlt : j < nE h
  · have hde := de j hlt
    simp -implicitDefEqProofs (disch := omega) [List.getElem?_cons_zero, List.getElem?_cons_succ, wrap_id, hlt]
    refine HC_of_PC rfl (images_ok m j hs.e) ?_
    simp -implicitDefEqProofs (disch := omega) [List.getElem?_cons_zero, List.getElem?_cons_succ, wrap_id, hde]
    exact round_end [0, 1] [44, 43, 5, 2, 3] hlt rfl rfl
  have hjn : j = nE h := by omega
  subst hjn
  simp -implicitDefEqProofs (disch := omega) [List.getElem?_cons_zero, List.getElem?_cons_succ, wrap_id]
  refine loopW k (fun j s => s = ⟨[(56, .i j), (55, .i h.1), (5, .i (occ 0 m.e)), (2, .ptr 0 1 0 0), (3, .ptr 1 1 0 0)], [.box (.p (EnP g h)), .box (.p (MoP m))]⟩)
    (wk_norm [0, 1] [56, 55, 5, 2, 3] rfl rfl) rfl ?_
  rintro j s hj rfl
  by_cases hlt : j < k
  · have h2 : (j : Int) < h.1 := by omega
    have hv : vtx h.1 j = true := vtx_iff.2 (by omega)
    have hi1 : inE g h m true = 0 := by rw [inE, if_neg (by simp [hc]), if_neg (by simp)]
    have hfb := fibre_ok g h m j hs
    rw [hv, hi1, if_pos rfl] at hfb
    simp -implicitDefEqProofs (disch := omega) [List.getElem?_cons_zero, List.getElem?_cons_succ, wrap_id, h2]
    refine HC_of_PC rfl (hfb) ?_
    obtain ⟨L, hL⟩ : ∃ L, L = fibL m.v j m.v.length := ⟨_, rfl⟩
    have hLl := fibL_length m.v j m.v.length
    rw [← hL] at hLl ⊢
    have hLm : ∀ v ∈ L, 0 ≤ v ∧ v < n := fun v hv => by rw [hL, hvl] at hv; exact fib_mem hv
    have hsum : fsum (mM g h m) L L.length = occ 0 m.e := by
      have e1 := sumI_sm (fun v => mM g h m v.toNat) L L.length (Nat.le_refl _)
      rw [List.take_length] at e1
      rw [fsum, ← e1, hL, fib_sum m j (mM g h m), hvl]
      exact dv j hlt
    simp -implicitDefEqProofs (disch := omega) [List.getElem?_cons_zero, List.getElem?_cons_succ, wrap_id]
    refine loopW L.length (fun i s => s = ⟨[(73, .i i), (72, .i L.length), (71, .p (.is L)), (11, .i (fsum (mM g h m) L i)), (5, .i (occ 0 m.e)), (56, .i j), (55, .i h.1), (2, .ptr 0 1 0 0), (3, .ptr 1 1 0 0)], [.box (.p (EnP g h)), .box (.p (MoP m))]⟩)
      (wk_norm [0, 1] [73, 72, 71, 11, 5, 56, 55, 2, 3] rfl rfl) rfl ?_
    rintro i s hi rfl
    by_cases hli : i < L.length
    · have hLi := hLm _ (List.getElem_mem hli)
      obtain ⟨u, hu⟩ : ∃ u : Nat, L[i] = u := ⟨L[i].toNat, by omega⟩
      have hgd : L.getD i 0 = L[i] := by rw [List.getD_eq_getElem?_getD, List.getElem?_eq_getElem hli]; rfl
      have hvu : vtx g.1 u = true := vtx_iff.2 (by omega)
      have hme : multE g h m u = 0 := by rw [multE, if_neg (by simp [hc]), if_neg (by simp [hvu]), if_neg (by simp [hh])]
      have hmu : multR g h m u = mM g h m u := by rw [multR, if_pos hme]; rfl
      have hmul := multiplicity_ok g h m u hs
      rw [hme, hmu] at hmul
      have hmb := mM_nonneg g h m u
      have hsb : 0 ≤ fsum (mM g h m) L i ∧ fsum (mM g h m) L i ≤ i * 90000 := sm_bd (fun i _ => by have := mM_nonneg g h m (L.getD i 0).toNat; omega)
      have hss := fsum_succ (f := mM g h m) hli hu
      have hm0 : ¬ mM g h m u < 0 := by omega
      simp -implicitDefEqProofs (disch := omega) [List.getElem?_cons_zero, List.getElem?_cons_succ, wrap_id, hli, hu]
      refine HC_of_PC rfl (hmul) ?_
      simp -implicitDefEqProofs (disch := omega) [List.getElem?_cons_zero, List.getElem?_cons_succ, wrap_id, hm0]
      exact round_end [0, 1] [73, 72, 71, 11, 5, 56, 55, 2, 3] hli rfl (by rw [hss]; rfl)
    have hin : i = L.length := by omega
    subst hin
    simp -implicitDefEqProofs (disch := omega) [List.getElem?_cons_zero, List.getElem?_cons_succ, wrap_id, hsum]
    exact round_end [0, 1] [56, 55, 5, 2, 3] hlt rfl rfl
  have hjn : j = k := by omega
  subst hjn
  have h2 : ¬ (j : Int) < h.1 := by omega
  simp -implicitDefEqProofs (disch := omega) [List.getElem?_cons_zero, List.getElem?_cons_succ, wrap_id, h2]
  refine HC_of_PC rfl (awake_ok) ?_
  simp -implicitDefEqProofs (disch := omega) [List.getElem?_cons_zero, List.getElem?_cons_succ, wrap_id]
  (refine fin0 trivial rfl ?_; simp -implicitDefEqProofs (disch := omega) [List.getElem?_cons_zero, List.getElem?_cons_succ, idx, wrap_id])
end Go.Proofs.Ytheffllmccomiaa
