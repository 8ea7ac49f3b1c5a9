/-
  Texts joined: Re Ya.
-/
import Derived.Test.YtgbmdikkdjogpaaKb21

section
set_option linter.unusedSimpArgs false
set_option linter.unusedVariables false
namespace Go.Proofs.Ytgbmdikkdjogpaa
open Go.Abs Go.Sand
section
variable {n : Nat} {es : List Ed} (hg : GoodG n es)
include hg
/-- Out of each set of vertices, but none or all, leads a single edge. -/
theorem edge_out (hp : partsN es n = 1) (A : Nat → Bool) {a b : Nat} (ha : a < n) (hb : b < n) (hAa : A a = true) (hAb : A b = false) : ∃ u w, u < n ∧ w < n ∧ A u = true ∧ A w = false ∧ 1 ≤ joinE es u w := by
  have hn := hg.n12
  refine Classical.byContradiction fun hno => ?_
  have hcl : ∀ u u', cls es u = cls es u' → (A u = true ↔ A u' = true) := by
    intro u u' h
    have := cls_closed (n := n) (es := es) (fun y => A y = true) (fun x hx => by
      have r := hg.right x hx
      have h1 := r.m1
      have h2 := r.a0
      have h3 := r.b0
      have h4 := r.an
      have h5 := r.bn
      have hne : ∀ u w : Nat, u < n → w < n → A u = true → A w = false → joinE es u w ≤ 0 := fun u w h1 h2 h3 h4 => by
        refine Classical.byContradiction fun h5 => hno ⟨u, w, h1, h2, h3, h4, by omega⟩
      by_cases hab : x.a.toNat = x.b.toNat
      · rw [hab]
      · have hadj := (adj_of (n := n) hg.right hx).1
        unfold adj at hadj
        have hj : 0 < joinE es x.a.toNat x.b.toNat := by
          rw [joinE, if_neg (fun e => hab e.symm), Int.min_comm, Int.max_comm]
          exact hadj
        have hj2 : 0 < joinE es x.b.toNat x.a.toNat := by rw [joinE_sym]; exact hj
        constructor
        · intro h6
          cases h7 : A x.b.toNat
          · have := hne _ _ (by omega) (by omega) h6 h7; omega
          · rfl
        · intro h6
          cases h7 : A x.a.toNat
          · have := hne _ _ (by omega) (by omega) h6 h7; omega
          · rfl) es.length (Nat.le_refl _) u u'
    rw [List.take_length] at this
    exact this h
  have hF := ufJ_forest (n := n) (by omega) hg.right es.length (Nat.le_refl _)
  rw [List.take_length] at hF
  have root : ∀ u, u < n → cls es u ∈ rootsL es n := fun u hu => by
    obtain ⟨h1, h2⟩ := hF.le u (by omega)
    refine List.mem_filter.2 ⟨List.mem_range.2 ?_, decide_eq_true h2⟩
    show (ufJ es).2 u < n
    omega
  obtain ⟨r, hr⟩ := List.length_eq_one_iff.1 hp
  have h1 := root a ha
  have h2 := root b hb
  rw [hr] at h1 h2
  have h3 : cls es a = cls es b := by rw [List.mem_singleton.1 h1, List.mem_singleton.1 h2]
  have := (hcl a b h3).1 hAa
  rw [hAb] at this
  cases this
theorem mg_of (hp : partsN es n = 1) : MG n (joinE es) :=
  ⟨joinE_sym, fun u v => (joinE_bd hg u v).1, joinE_self, fun A a b ha hb hA hB => edge_out hg hp A ha hb hA hB⟩
end
end Go.Proofs.Ytgbmdikkdjogpaa
end
section
set_option linter.unusedSimpArgs false
set_option linter.unusedVariables false
namespace Go.Proofs.Ytgbmdikkdjogpaa
open Go.Abs Go.Sand
def connE (N : Int) (es : List Ed) : Int := if gcheck N es ≠ 0 then gcheck N es else if partsN es N.toNat = 1 then 0 else 13
theorem conn_good {N : Int} {es : List Ed} (h : connE N es = 0) : gcheck N es = 0 ∧ partsN es N.toNat = 1 := by
  unfold connE at h
  split at h
  · rename_i h1; exact absurd h h1
  · rename_i h1
    split at h
    · rename_i h2; exact ⟨Decidable.not_not.1 h1, h2⟩
    · cases h
theorem rconn_ok (n : Nat) (es : List Ed) (hn : n ≤ 12) (hr : ∀ x ∈ es, Right n x) (hel : es.length ≤ 900) : PC Try.prog 38 [G n es] (.b (decide (partsN es n = 1))) [] := by
  have hq : (((partsN es n : Nat) : Int) = 1) = (partsN es n = 1) := by simp only [eq_iff_iff]; omega
  refine PC_of_W cfn38 ?_
  simp -implicitDefEqProofs (disch := omega) [c38, List.getElem?_cons_zero, List.getElem?_cons_succ, wrap_id]
  refine HC_of_PC rfl (rparts_ok n es hn hr hel) ?_
  simp -implicitDefEqProofs (disch := omega) [List.getElem?_cons_zero, List.getElem?_cons_succ, wrap_id]
  (refine fin0 trivial rfl ?_; simp -implicitDefEqProofs (disch := omega) [List.getElem?_cons_zero, List.getElem?_cons_succ, idx, wrap_id, hq])
theorem rjoined_ok (N : Int) (es : List Ed) (hel : es.length ≤ 900) : PC Try.prog 14 [G N es] (.i (connE N es)) [] := by
  refine PC_of_W cfn14 ?_
  simp -implicitDefEqProofs (disch := omega) [c14, List.getElem?_cons_zero, List.getElem?_cons_succ, wrap_id]
  refine HC_of_PC rfl (rcheck_ok N es (by omega)) ?_
  by_cases hg : gcheck N es = 0
  · have hgg := gcheck_ok hg
    have h1 := hgg.n1
    have h12 := hgg.n12
    obtain ⟨n, rfl⟩ : ∃ n : Nat, N = n := ⟨N.toNat, by omega⟩
    simp -implicitDefEqProofs (disch := omega) [List.getElem?_cons_zero, List.getElem?_cons_succ, wrap_id, hg]
    refine HC_of_PC rfl (rconn_ok n es (by omega) hgg.right hel) ?_
    by_cases hp : partsN es n = 1
    · simp -implicitDefEqProofs (disch := omega) [List.getElem?_cons_zero, List.getElem?_cons_succ, wrap_id, hp]
      (refine fin0 trivial rfl ?_; simp -implicitDefEqProofs (disch := omega) [List.getElem?_cons_zero, List.getElem?_cons_succ, idx, wrap_id, connE, hg, hp])
    · simp -implicitDefEqProofs (disch := omega) [List.getElem?_cons_zero, List.getElem?_cons_succ, wrap_id, hp]
      (refine fin0 trivial rfl ?_; simp -implicitDefEqProofs (disch := omega) [List.getElem?_cons_zero, List.getElem?_cons_succ, idx, wrap_id, connE, hg, hp])
  · simp -implicitDefEqProofs (disch := omega) [List.getElem?_cons_zero, List.getElem?_cons_succ, wrap_id, hg]
    (refine fin0 trivial rfl ?_; simp -implicitDefEqProofs (disch := omega) [List.getElem?_cons_zero, List.getElem?_cons_succ, idx, wrap_id, connE, hg])
theorem few20_ok (N : Int) (es : List Ed) : PC Try.prog 13 [G N es] (.b (smallG N es 5 7)) [] := by
  refine PC_of_W cfn13 ?_
  simp -implicitDefEqProofs (disch := omega) [c13, List.getElem?_cons_zero, List.getElem?_cons_succ, wrap_id]
  refine HC_of_PC rfl (small_ok N es 5 7) ?_
  simp -implicitDefEqProofs (disch := omega) [List.getElem?_cons_zero, List.getElem?_cons_succ, wrap_id]
  (refine fin0 trivial rfl ?_; simp -implicitDefEqProofs (disch := omega) [List.getElem?_cons_zero, List.getElem?_cons_succ, idx, wrap_id])
/-- Is an edge a loop? -/
def lpB (x : Ed) : Bool := decide (x.a = x.b)
theorem lp_ok (x : Ed) : PC Try.prog 16 [edP x] (.b (lpB x)) [] := by
  refine PC_of_W cfn16 ?_
  simp -implicitDefEqProofs (disch := omega) [c16, List.getElem?_cons_zero, List.getElem?_cons_succ, wrap_id]
  (refine fin0 trivial rfl ?_; simp -implicitDefEqProofs (disch := omega) [List.getElem?_cons_zero, List.getElem?_cons_succ, idx, wrap_id, lpB])
theorem idxe_ok (xs : List Ed) (hx : xs.length ≤ 4611686018427387904) {R : AV → List AO → Prop} {H : List AO} (hR : ∀ i : Int, (0 ≤ i ↔ xs.any lpB = true) → R (.i i) H) :
    HC Try.prog false 39 [.p (.sl (xs.map edP)), .fn (.func 16) [] []] H R := by
  refine HC_of_W (af := _) ((by exact cfn39 : cfn _ _ _ = some _)) ?_
  simp -implicitDefEqProofs (disch := omega) [c39, List.getElem?_cons_zero, List.getElem?_cons_succ, wrap_id]
  refine loopW xs.length (fun k s => s = ⟨[(8, .i k), (7, .i xs.length), (6, .p (.sl (xs.map edP))), (0, .p (.sl (xs.map edP))), (1, .fn (.func 16) [] [])], H⟩ ∧ xs.any lpB = (xs.drop k).any lpB) (Wk_keep [8, 7, 6, 0, 1]) ⟨rfl, rfl⟩ ?_
  rintro k s hk ⟨rfl, hI⟩
  by_cases hlt : k < xs.length
  · have hd := drop_any lpB xs k hlt
    simp -implicitDefEqProofs (disch := omega) [List.getElem?_cons_zero, List.getElem?_cons_succ, wrap_id, hlt]
    refine ⟨by kernel_rfl, ?_⟩
    refine HC_of_PC rfl (lp_ok xs[k]) ?_
    cases hv : lpB xs[k]
    · rw [hv] at hd
      simp -implicitDefEqProofs (disch := omega) [List.getElem?_cons_zero, List.getElem?_cons_succ, wrap_id]
      exact round_keep [8, 7, 6, 0, 1] hlt ⟨rfl, by rw [hI, hd]; rfl⟩
    · rw [hv] at hd
      simp -implicitDefEqProofs (disch := omega) [List.getElem?_cons_zero, List.getElem?_cons_succ, wrap_id]
      exact finH trivial rfl (hR _ (by rw [hI, hd]; simp))
  · simp -implicitDefEqProofs (disch := omega) [List.getElem?_cons_zero, List.getElem?_cons_succ, wrap_id, hlt]
    exact finH trivial rfl (hR _ (by rw [hI, List.drop_of_length_le (Nat.le_of_not_lt hlt)]; simp))
theorem hase_ok (xs : List Ed) (hx : xs.length ≤ 4611686018427387904) {R : AV → List AO → Prop} {H : List AO} (hR : R (.b (xs.any lpB)) H) :
    HC Try.prog false 15 [.p (.sl (xs.map edP)), .fn (.func 16) [] []] H R := by
  refine HC_of_W (af := _) ((by exact cfn15 : cfn _ _ _ = some _)) ?_
  simp -implicitDefEqProofs (disch := omega) [c15, List.getElem?_cons_zero, List.getElem?_cons_succ, wrap_id]
  refine idxe_ok xs hx fun i hi => ?_
  by_cases h : 0 ≤ i
  · have hv := hi.1 h
    rw [hv] at hR
    simp -implicitDefEqProofs (disch := omega) [List.getElem?_cons_zero, List.getElem?_cons_succ, wrap_id, h]
    exact finH trivial rfl hR
  · have hv : xs.any lpB = false := by cases hq : xs.any lpB; rfl; exact absurd (hi.2 hq) h
    rw [hv] at hR
    simp -implicitDefEqProofs (disch := omega) [List.getElem?_cons_zero, List.getElem?_cons_succ, wrap_id, h]
    exact finH trivial rfl hR
theorem smallG_len {N : Int} {es : List Ed} {a b : Int} (h : smallG N es a b = true) : es.length ≤ 40 := by
  unfold smallG at h
  simp only [Bool.and_eq_true, decide_eq_true_eq] at h
  exact h.1
/-- A graph that is connected and small, without loops. -/
def plainB (N : Int) (es : List Ed) : Bool := smallG N es 5 7 && decide (connE N es = 0) && !es.any lpB
theorem plain_ok (N : Int) (es : List Ed) : PC Try.prog 5 [G N es] (.b (plainB N es)) [] := by
  refine PC_of_W cfn5 ?_
  simp -implicitDefEqProofs (disch := omega) [c5, List.getElem?_cons_zero, List.getElem?_cons_succ, wrap_id]
  refine HC_of_PC rfl (few20_ok N es) ?_
  cases hs : smallG N es 5 7
  · simp -implicitDefEqProofs (disch := omega) [List.getElem?_cons_zero, List.getElem?_cons_succ, wrap_id]
    (refine fin0 trivial rfl ?_; simp -implicitDefEqProofs (disch := omega) [List.getElem?_cons_zero, List.getElem?_cons_succ, idx, wrap_id, plainB, hs])
  have hel := smallG_len hs
  simp -implicitDefEqProofs (disch := omega) [List.getElem?_cons_zero, List.getElem?_cons_succ, wrap_id]
  refine HC_of_PC rfl (rjoined_ok N es (by omega)) ?_
  by_cases hc : connE N es = 0
  rotate_left
  · simp -implicitDefEqProofs (disch := omega) [List.getElem?_cons_zero, List.getElem?_cons_succ, wrap_id, hc]
    (refine fin0 trivial rfl ?_; simp -implicitDefEqProofs (disch := omega) [List.getElem?_cons_zero, List.getElem?_cons_succ, idx, wrap_id, plainB, hs, hc])
  simp -implicitDefEqProofs (disch := omega) [List.getElem?_cons_zero, List.getElem?_cons_succ, wrap_id, hc]
  refine hase_ok es (by omega) ?_
  simp -implicitDefEqProofs (disch := omega) [List.getElem?_cons_zero, List.getElem?_cons_succ, wrap_id]
  (refine fin0 trivial rfl ?_; simp -implicitDefEqProofs (disch := omega) [List.getElem?_cons_zero, List.getElem?_cons_succ, idx, wrap_id, plainB, hs, hc])
end Go.Proofs.Ytgbmdikkdjogpaa
end
