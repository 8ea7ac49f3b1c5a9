/-
  Contracts: the exported functions of package morphism, 2.
-/
import Derived.Test.YtddgepjmfnodhaaMkb
import Derived.Test.YtddgepjmfnodhaaMae
set_option linter.unusedSimpArgs false
set_option linter.unusedVariables false
namespace Go.Proofs.Ytddgepjmfnodhaa
open Go.Abs Go.Sand

/-- How many numbers of a list are k. -/
def occ (k : Int) (l : List Int) : Int := sumI (l.map fun x => if x = k then 1 else 0)
theorem occ_take (k : Int) (l : List Int) (i : Nat) (h : i < l.length) : occ k (l.take (i + 1)) = occ k (l.take i) + if l[i] = k then 1 else 0 := by
  have e : l.take (i + 1) = l.take i ++ [l[i]] := by rw [List.take_add_one, List.getElem?_eq_getElem h]; rfl
  rw [e]
  simp only [occ, List.map_append, sumI_append, List.map_cons, List.map_nil, sumI]
  omega
theorem occ_bd (k : Int) (l : List Int) : 0 ≤ occ k l ∧ occ k l ≤ l.length := by
  induction l with
  | nil => simp [occ, sumI]
  | cons x l ih =>
    simp only [occ, List.map_cons, sumI, List.length_cons] at ih ⊢
    split <;> omega
def degE (g h : Gr) (m : Mo) : Int := if coverE g h m ≠ 0 then coverE g h m else if harmM g h m = false then 15 else 0
section
variable (g h : Gr) (m : Mo) (hs : Sm g h m)
theorem degree_ok (hs : Sm g h m) : PC Try.prog 21 [GrP g, GrP h, MoP m] (.tup [.i (if degE g h m = 0 then occ 0 m.e else 0), .i (degE g h m)]) [] := by
  refine PC_of_W cfn21 ?_
  simp -implicitDefEqProofs (disch := omega) [c21, List.getElem?_cons_zero, List.getElem?_cons_succ, wrap_id]
  refine HC_of_PC rfl (coverOf_ok g h m hs) ?_
  by_cases hc : coverE g h m = 0
  rotate_left
  · have he : degE g h m = coverE g h m := by rw [degE, if_pos hc]
    simp -implicitDefEqProofs (disch := omega) [List.getElem?_cons_zero, List.getElem?_cons_succ, wrap_id, hc]
    (refine fin0 trivial rfl ?_; simp -implicitDefEqProofs (disch := omega) [List.getElem?_cons_zero, List.getElem?_cons_succ, idx, wrap_id, he, hc])
  obtain ⟨n, k, c⟩ := cov_of hc
  simp -implicitDefEqProofs (disch := omega) [List.getElem?_cons_zero, List.getElem?_cons_succ, wrap_id, hc]
  refine HC_of_PCR rfl (multsM hs c) ?_
  rintro r HR ⟨rfl, hr⟩
  cases hh : harmM g h m
  · rw [hh, if_neg (by simp)] at hr
    obtain ⟨x, rfl⟩ := hr
    have he : degE g h m = 15 := by rw [degE, if_neg (by simp [hc]), if_pos hh]
    simp -implicitDefEqProofs (disch := omega) [List.getElem?_cons_zero, List.getElem?_cons_succ, wrap_id]
    (refine fin0 trivial rfl ?_; simp -implicitDefEqProofs (disch := omega) [List.getElem?_cons_zero, List.getElem?_cons_succ, idx, wrap_id, he])
  · rw [hh, if_pos rfl] at hr
    subst hr
    have he : degE g h m = 0 := by rw [degE, if_neg (by simp [hc]), if_neg (by simp [hh])]
    have hme := hs.e
    simp -implicitDefEqProofs (disch := omega) [List.getElem?_cons_zero, List.getElem?_cons_succ, wrap_id]
    refine loopW m.e.length (fun j s => s = ⟨[(35, .i j), (34, .i m.e.length), (33, .p (.is m.e)), (12, .i (occ 0 (m.e.take j)))], []⟩) (wk_norm [] [35, 34, 33, 12] rfl rfl) rfl ?_
    rintro j s hj rfl
    by_cases hlt : j < m.e.length
    · have ht := occ_take 0 m.e j hlt
      have hb := occ_bd 0 (m.e.take j)
      have hbl : (m.e.take j).length ≤ j := by simp; omega
      by_cases hz : m.e[j] = 0
      · rw [if_pos hz] at ht
        simp -implicitDefEqProofs (disch := omega) [List.getElem?_cons_zero, List.getElem?_cons_succ, wrap_id, hlt, hz]
        exact round_end [] [35, 34, 33, 12] hlt rfl (by rw [ht]; rfl)
      · rw [if_neg hz, Int.add_zero] at ht
        simp -implicitDefEqProofs (disch := omega) [List.getElem?_cons_zero, List.getElem?_cons_succ, wrap_id, hlt, hz]
        exact round_end [] [35, 34, 33, 12] hlt rfl (by rw [ht]; rfl)
    · have hjn : j = m.e.length := by omega
      subst hjn
      have ht : m.e.take m.e.length = m.e := List.take_length
      simp -implicitDefEqProofs (disch := omega) [List.getElem?_cons_zero, List.getElem?_cons_succ, wrap_id, ht]
      (refine fin0 trivial rfl ?_; simp -implicitDefEqProofs (disch := omega) [List.getElem?_cons_zero, List.getElem?_cons_succ, idx, wrap_id, he])
def inE (g h : Gr) (m : Mo) (b : Bool) : Int := if coverE g h m ≠ 0 then coverE g h m else if b = false then 2 else 0
def fibL (vs : List Int) (w : Int) (k : Nat) : List Int := ((List.range k).filter fun i => decide (vs.getD i 0 = w)).map fun i : Nat => (i : Int)
theorem fibL_succ (vs : List Int) (w : Int) (k : Nat) : fibL vs w (k + 1) = if vs.getD k 0 = w then fibL vs w k ++ [(k : Int)] else fibL vs w k := by
  simp only [fibL, List.range_succ, List.filter_append]
  by_cases h : vs.getD k 0 = w <;> simp only [h, decide_true, decide_false, List.filter_cons, List.filter_nil, if_true, if_false, List.map_append, List.append_nil, List.map_nil, List.map_cons, Bool.false_eq_true]
theorem fibL_length (vs : List Int) (w : Int) (k : Nat) : (fibL vs w k).length ≤ k := by
  have := List.length_filter_le (fun i => decide (vs.getD i 0 = w)) (List.range k)
  simpa [fibL] using this
theorem look_cnt {up : List (Int × Int)} {el : List Int} {v e : Int} : (dIdx (.kl [v, e]) (toD (cL up el el.length)) = none ∧ cntK up el v e el.length = 0) ∨
    ∃ i, dIdx (.kl [v, e]) (toD (cL up el el.length)) = some i ∧ (toD (cL up el el.length))[i]? = some (.kl [v, e], .p (.v (.int .i64 (cntK up el v e el.length)))) := by
  cases hfi : fI (.kl [v, e]) (cL up el el.length) with
  | none => exact .inl ⟨by rw [dIdx_toD, hfi], by rw [← getC_cL, getC, hfi]⟩
  | some i =>
    obtain ⟨i1, i2, _⟩ := inc_some hfi
    exact .inr ⟨i, i1, by rw [i2, getC_cL]⟩
theorem countsM {g h : Gr} {m : Mo} {n k : Nat} (hs : Sm g h m) (c : Cov g h m n k) : PC Try.prog 71 [covM g h m] (.mp 0) [.dict (.arr 2) (toD (cL (endsL g.2) m.e m.e.length))] := by
  have l1 := endsL_len9 c.gg.right hs.g
  have l2 := endsL_len9 c.hg.right hs.h
  have := counts_ok n h.1 g.2 h.2 (endsL g.2) (endsL h.2) m c.up12 c.el (by omega) (fun e he => by have := c.ebd e he; omega)
  rw [← c.gn] at this
  exact this
attribute [local simp] toD_ren toD_calm
theorem vertical_ok (v : Int) (hs : Sm g h m) : PC Try.prog 42 [GrP g, GrP h, MoP m, .i v] (.tup [.i (if inE g h m (vtx g.1 v) = 0 then cntK (endsL g.2) m.e v (-1) m.e.length else 0), .i (inE g h m (vtx g.1 v))]) [] := by
  refine PC_of_W cfn42 ?_
  simp -implicitDefEqProofs (disch := omega) [c42, List.getElem?_cons_zero, List.getElem?_cons_succ, wrap_id]
  refine HC_of_PC rfl (coverOf_ok g h m hs) ?_
  by_cases hc : coverE g h m = 0
  rotate_left
  · have he : ∀ b, inE g h m b = coverE g h m := fun b => by rw [inE, if_pos hc]
    simp -implicitDefEqProofs (disch := omega) [List.getElem?_cons_zero, List.getElem?_cons_succ, wrap_id, hc]
    (refine fin0 trivial rfl ?_; simp -implicitDefEqProofs (disch := omega) [List.getElem?_cons_zero, List.getElem?_cons_succ, idx, wrap_id, he, hc])
  by_cases h1 : v < 0
  · have he : inE g h m (vtx g.1 v) = 2 := by rw [inE, if_neg (by simp [hc]), if_pos (vtx_not.2 (by omega))]
    simp -implicitDefEqProofs (disch := omega) [List.getElem?_cons_zero, List.getElem?_cons_succ, wrap_id, hc, h1]
    (refine fin0 trivial rfl ?_; simp -implicitDefEqProofs (disch := omega) [List.getElem?_cons_zero, List.getElem?_cons_succ, idx, wrap_id, he])
  by_cases h2 : g.1 ≤ v
  · have he : inE g h m (vtx g.1 v) = 2 := by rw [inE, if_neg (by simp [hc]), if_pos (vtx_not.2 (by omega))]
    simp -implicitDefEqProofs (disch := omega) [List.getElem?_cons_zero, List.getElem?_cons_succ, wrap_id, hc, h1, h2]
    (refine fin0 trivial rfl ?_; simp -implicitDefEqProofs (disch := omega) [List.getElem?_cons_zero, List.getElem?_cons_succ, idx, wrap_id, he])
  have hwt : vtx g.1 v = true := vtx_iff.2 (by omega)
  have he : inE g h m (vtx g.1 v) = 0 := by rw [inE, if_neg (by simp [hc]), if_neg (by simp [hwt])]
  rw [he]
  obtain ⟨n, k, c⟩ := cov_of hc
  have hgn := c.gn
  have h12 := c.n12
  have w1 := wf_bd (v := v) (by omega) (by omega)
  have w2 : (Lit.int .i64 (-1)).wf = true := wf_bd (by omega) (by omega)
  simp -implicitDefEqProofs (disch := omega) [List.getElem?_cons_zero, List.getElem?_cons_succ, wrap_id, hc, h1, h2]
  refine HC_of_PC rfl (countsM hs c) ?_
  rcases look_cnt (up := endsL g.2) (el := m.e) (v := v) (e := -1) with ⟨d1, d2⟩ | ⟨i, d1, d2⟩
  · simp -implicitDefEqProofs (disch := omega) [List.getElem?_cons_zero, List.getElem?_cons_succ, wrap_id, w1, w2, d1]
    (refine fin0 trivial rfl ?_; simp -implicitDefEqProofs (disch := omega) [List.getElem?_cons_zero, List.getElem?_cons_succ, idx, wrap_id, d2])
  · simp -implicitDefEqProofs (disch := omega) [List.getElem?_cons_zero, List.getElem?_cons_succ, wrap_id, w1, w2, d1, d2]
    (refine fin0 trivial rfl ?_; simp -implicitDefEqProofs (disch := omega) [List.getElem?_cons_zero, List.getElem?_cons_succ, idx, wrap_id])
end
end Go.Proofs.Ytddgepjmfnodhaa
/-
  Contracts: the exported functions of package morphism, 3.
-/
set_option linter.unusedSimpArgs false
set_option linter.unusedVariables false
namespace Go.Proofs.Ytddgepjmfnodhaa
open Go.Abs Go.Sand

def sameM (a b : Mo) : Bool := decide (a.v = b.v) && decide (a.e = b.e)
def aboveE (g h : Gr) (m : Mo) (v e : Int) : Int := if coverE g h m ≠ 0 then coverE g h m else if vtx g.1 v = false ∨ vtx (endsL h.2).length e = false then 2 else if tB m.v (endsL h.2) v.toNat e.toNat = false then 6 else 0
attribute [local simp] toD_ren toD_calm
end Go.Proofs.Ytddgepjmfnodhaa
/-
  Contracts: the reference of chapter 51.
-/
set_option linter.unusedSimpArgs false
set_option linter.unusedVariables false
namespace Go.Proofs.Ytddgepjmfnodhaa
open Go.Abs Go.Sand

def fitB (down : List (Int × Int)) (a b e : Int) : Bool := if e = -1 then decide (a = b) else decide (down.getD e.toNat (0, 0) = (a, b)) || decide (down.getD e.toNat (0, 0) = (b, a))
theorem pair_dec (p : Int × Int) (a b : Int) : decide (p = (a, b)) = (decide (p.1 = a) && decide (p.2 = b)) := by
  rw [Bool.eq_iff_iff]
  simp [Prod.ext_iff]
theorem fits_ok (M : Int) (fs : List Ed) (a b e : Int) (hr : ∀ x ∈ fs, Right M x) (hM : M ≤ 12) (hfl : fs.length ≤ 900) (ha : 0 ≤ a ∧ a ≤ 1000) (hb : 0 ≤ b ∧ b ≤ 1000) (he : -1 ≤ e ∧ e < (endsL fs).length) :
    PC Try.prog 83 [G M fs, .i a, .i b, .i e] (.b (fitB (endsL fs) a b e)) [] := by
  refine PC_of_W cfn83 ?_
  by_cases h1 : e = -1
  · subst h1
    simp -implicitDefEqProofs (disch := omega) [c83, List.getElem?_cons_zero, List.getElem?_cons_succ, wrap_id]
    (refine fin0 trivial rfl ?_; simp -implicitDefEqProofs (disch := omega) [List.getElem?_cons_zero, List.getElem?_cons_succ, idx, wrap_id, fitB])
  · obtain ⟨d, rfl⟩ : ∃ d : Nat, e = d := ⟨e.toNat, by omega⟩
    have h1' : ¬ (d : Int) = -1 := h1
    have hd : d < (endsL fs).length := by omega
    have hgd : (endsL fs).getD d (0, 0) = (endsL fs)[d] := by rw [List.getD_eq_getElem?_getD, List.getElem?_eq_getElem hd]; rfl
    have hin := ends_in hr _ (List.getElem_mem hd)
    have w1 := wf_bd (v := (endsL fs)[d].1) (by omega) (by omega)
    have w2 := wf_bd (v := (endsL fs)[d].2) (by omega) (by omega)
    have w3 := wf_bd (v := a) (by omega) (by omega)
    have w4 := wf_bd (v := b) (by omega) (by omega)
    have hfit : fitB (endsL fs) a b d = ((decide ((endsL fs)[d].1 = a) && decide ((endsL fs)[d].2 = b)) || (decide ((endsL fs)[d].1 = b) && decide ((endsL fs)[d].2 = a))) := by
      rw [fitB, if_neg h1, Int.toNat_natCast, hgd, pair_dec, pair_dec]
    rw [hfit]
    simp -implicitDefEqProofs (disch := omega) [c83, List.getElem?_cons_zero, List.getElem?_cons_succ, wrap_id, h1']
    refine HC_of_PC rfl (ends_ok M fs hr (by omega)) ?_
    simp -implicitDefEqProofs (disch := omega) [List.getElem?_cons_zero, List.getElem?_cons_succ, wrap_id, hd, w1, w2, w3, w4]
    by_cases c1 : (endsL fs)[d].1 = a ∧ (endsL fs)[d].2 = b
    · rw [decide_eq_true c1.1, decide_eq_true c1.2]
      simp -implicitDefEqProofs (disch := omega) [List.getElem?_cons_zero, List.getElem?_cons_succ, wrap_id]
      (refine fin0 trivial rfl ?_; simp -implicitDefEqProofs (disch := omega) [List.getElem?_cons_zero, List.getElem?_cons_succ, idx, wrap_id])
    · have hc : (decide ((endsL fs)[d].1 = a) && decide ((endsL fs)[d].2 = b)) = false := by
        rw [Bool.eq_false_iff]
        intro h
        simp only [Bool.and_eq_true, decide_eq_true_eq] at h
        exact c1 h
      have hc2 : (!decide ((endsL fs)[d].1 = a) || !decide ((endsL fs)[d].2 = b)) = true := by rw [← Bool.not_and, hc]; rfl
      rw [hc]
      simp -implicitDefEqProofs (disch := omega) [List.getElem?_cons_zero, List.getElem?_cons_succ, wrap_id, w1, w2, w3, w4, hc2]
      (refine fin0 trivial rfl ?_; simp -implicitDefEqProofs (disch := omega) [List.getElem?_cons_zero, List.getElem?_cons_succ, idx, wrap_id])
theorem step_fit {vs : List Int} {fs : List Ed} {n : Int} (hr : ∀ x ∈ fs, Right n x) (p : Int × Int) (e : Int) : stepE vs (endsL fs) p e = if e < -1 ∨ ((endsL fs).length : Int) ≤ e then 2 else if fitB (endsL fs) (vs.getD p.1.toNat 0) (vs.getD p.2.toNat 0) e = true then 0 else 15 := by
  unfold stepE
  split
  · rfl
  · rename_i h1
    generalize vs.getD p.1.toNat 0 = a
    generalize vs.getD p.2.toNat 0 = b
    unfold fitB
    by_cases h2 : e = -1
    · subst h2
      by_cases h3 : a = b <;> simp [h3]
    · obtain ⟨d, rfl⟩ : ∃ d : Nat, e = d := ⟨e.toNat, by omega⟩
      have hd : d < (endsL fs).length := by omega
      have hgd : (endsL fs).getD d (0, 0) = (endsL fs)[d] := by rw [List.getD_eq_getElem?_getD, List.getElem?_eq_getElem hd]; rfl
      have hle : (endsL fs)[d].1 ≤ (endsL fs)[d].2 := by
        have := List.getElem_mem hd
        generalize (endsL fs)[d] = q at this
        simp only [endsL, List.mem_flatMap, List.mem_replicate] at this
        obtain ⟨x, hx, _, rfl⟩ := this
        exact (hr x hx).ab
      simp only [Int.toNat_natCast, hgd, if_neg h2]
      generalize (endsL fs)[d] = q at hle
      obtain ⟨q1, q2⟩ := q
      simp only at hle
      have key : ((q1, q2) ≠ (min a b, max a b)) ↔ ¬ ((q1 = a ∧ q2 = b) ∨ (q1 = b ∧ q2 = a)) := by
        rw [Ne, Prod.mk.injEq]
        omega
      by_cases h3 : (q1 = a ∧ q2 = b) ∨ (q1 = b ∧ q2 = a)
      · rw [if_neg (by rintro (h | h); exact h2 h.1; exact (key.1 h.2) h3), if_pos (by simpa using h3)]
      · rw [if_pos (.inr ⟨by omega, key.2 h3⟩), if_neg (by simpa using h3)]
theorem rcheck51_ok (g h : Gr) (m : Mo) (hs : Sm g h m) : PC Try.prog 48 [GrP g, GrP h, MoP m] (.i (coverE g h m)) [] := by
  refine PC_of_W cfn48 ?_
  simp -implicitDefEqProofs (disch := omega) [c48, List.getElem?_cons_zero, List.getElem?_cons_succ, wrap_id]
  refine HC_of_PC rfl (rgraphs_ok g.1 h.1 g.2 h.2 hs.g hs.h) ?_
  have hee : errsE [g, h] = graphsE g.1 g.2 h.1 h.2 := by
    by_cases h1 : graphE g.1 g.2 = 0 <;> by_cases h2 : graphE h.1 h.2 = 0 <;> simp [errsE, graphsE, h1, h2]
  by_cases he : graphsE g.1 g.2 h.1 h.2 = 0
  rotate_left
  · have hc : coverE g h m = graphsE g.1 g.2 h.1 h.2 := by rw [coverE, if_pos (by rw [hee]; exact he), hee]
    simp -implicitDefEqProofs (disch := omega) [List.getElem?_cons_zero, List.getElem?_cons_succ, wrap_id, he]
    (refine fin0 trivial rfl ?_; simp -implicitDefEqProofs (disch := omega) [List.getElem?_cons_zero, List.getElem?_cons_succ, idx, wrap_id, hc, he])
  have hcov : coverE g h m = rightE g.1 h.1 (endsL g.2) (endsL h.2) m := by rw [coverE, if_neg (by rw [hee]; simp [he])]
  obtain ⟨e1, e2⟩ := errs_two (hee.trans he)
  obtain ⟨g1, _⟩ := graph_good e1
  obtain ⟨g2, _⟩ := graph_good e2
  have a1 := g1.n1
  have a2 := g1.n12
  have b1 := g2.n1
  have b2 := g2.n12
  have l1 := endsL_len9 g1.right hs.g
  have l2 := endsL_len9 g2.right hs.h
  have hsg := hs.g
  have hsh := hs.h
  have hsv := hs.v
  have hse := hs.e
  obtain ⟨r, hr⟩ : ∃ r, r = coverE g h m := ⟨_, rfl⟩
  rw [← hr] at hcov ⊢
  simp -implicitDefEqProofs (disch := omega) [List.getElem?_cons_zero, List.getElem?_cons_succ, wrap_id, he]
  refine HC_of_PC rfl (ends_ok g.1 g.2 g1.right (by omega)) ?_
  by_cases h1 : (m.v.length : Int) = g.1
  rotate_left
  · have hr8 : r = 8 := by rw [hcov, rightE, if_pos (.inl h1)]
    simp -implicitDefEqProofs (disch := omega) [List.getElem?_cons_zero, List.getElem?_cons_succ, wrap_id, h1]
    (refine fin0 trivial rfl ?_; simp -implicitDefEqProofs (disch := omega) [List.getElem?_cons_zero, List.getElem?_cons_succ, idx, wrap_id, hr8])
  by_cases h2 : m.e.length = (endsL g.2).length
  rotate_left
  · have h2' : ¬ (m.e.length : Int) = (endsL g.2).length := by omega
    have hr8 : r = 8 := by rw [hcov, rightE, if_pos (.inr h2)]
    simp -implicitDefEqProofs (disch := omega) [List.getElem?_cons_zero, List.getElem?_cons_succ, wrap_id, h1, h2']
    (refine fin0 trivial rfl ?_; simp -implicitDefEqProofs (disch := omega) [List.getElem?_cons_zero, List.getElem?_cons_succ, idx, wrap_id, hr8])
  have h2' : (m.e.length : Int) = (endsL g.2).length := by omega
  have hr2 : r = if m.v.all (vtx h.1) = true then edgesE m.v (endsL h.2) (endsL g.2) m.e else 2 := by rw [hcov, rightE, if_neg (by simp [h1, h2])]
  clear hcov
  simp -implicitDefEqProofs (disch := omega) [List.getElem?_cons_zero, List.getElem?_cons_succ, wrap_id, h1, h2']
  obtain ⟨n, hn⟩ : ∃ n : Nat, g.1 = n := ⟨g.1.toNat, by omega⟩
  have hvn : m.v.length = n := by omega
  refine loopW n (fun k s => s = ⟨[(9, .i k), (8, .p (.ps (endsL g.2))), (3, .ptr 0 1 0 0), (4, .ptr 1 1 0 0), (5, .ptr 2 1 0 0)], [.box (.p (GrP g)), .box (.p (GrP h)), .box (.p (MoP m))]⟩ ∧ m.v.all (vtx h.1) = (m.v.drop k).all (vtx h.1)) (wk_norm [0, 1, 2] [9, 8, 3, 4, 5] rfl rfl) ⟨rfl, rfl⟩ ?_
  rintro k s hk ⟨rfl, hI⟩
  by_cases hlt : k < n
  · have hkv : k < m.v.length := by omega
    have hkg : (k : Int) < g.1 := by omega
    rw [List.drop_eq_getElem_cons hkv, List.all_cons] at hI
    simp -implicitDefEqProofs (disch := omega) [List.getElem?_cons_zero, List.getElem?_cons_succ, wrap_id, hkg, hkv]
    refine HC_of_PC rfl (rvertex_ok h.1 m.v[k] h.2) ?_
    cases hv : vtx h.1 m.v[k]
    · have hr3 : r = 2 := by rw [hr2, hI, hv]; rfl
      simp -implicitDefEqProofs (disch := omega) [List.getElem?_cons_zero, List.getElem?_cons_succ, wrap_id]
      (refine fin0 trivial rfl ?_; simp -implicitDefEqProofs (disch := omega) [List.getElem?_cons_zero, List.getElem?_cons_succ, idx, wrap_id, hr3])
    · rw [hv, Bool.true_and] at hI
      simp -implicitDefEqProofs (disch := omega) [List.getElem?_cons_zero, List.getElem?_cons_succ, wrap_id]
      exact round_end [0, 1, 2] [9, 8, 3, 4, 5] hlt rfl ⟨rfl, hI⟩
  · have hkn : k = n := by omega
    subst hkn
    have hall : m.v.all (vtx h.1) = true := by rw [hI, List.drop_of_length_le (by omega)]; rfl
    rw [hall, if_pos rfl] at hr2
    have hvb : ∀ x ∈ m.v, 0 ≤ x ∧ x < h.1 := fun x hx => vtx_iff.1 (List.all_eq_true.1 hall x hx)
    have hup := ends_in g1.right
    have hkg : ¬ (k : Int) < g.1 := by omega
    simp -implicitDefEqProofs (disch := omega) [List.getElem?_cons_zero, List.getElem?_cons_succ, wrap_id, hkg]
    refine loopW (endsL g.2).length (fun j s => s = ⟨[(10, .i j), (8, .p (.ps (endsL g.2))), (3, .ptr 0 1 0 0), (4, .ptr 1 1 0 0), (5, .ptr 2 1 0 0)], [.box (.p (GrP g)), .box (.p (GrP h)), .box (.p (MoP m))]⟩ ∧ r = edgesE m.v (endsL h.2) ((endsL g.2).drop j) (m.e.drop j)) (wk_norm [0, 1, 2] [10, 8, 3, 4, 5] rfl rfl) ⟨rfl, hr2⟩ ?_
    rintro j s hj ⟨rfl, hJ⟩
    by_cases hjt : j < (endsL g.2).length
    · have hje : j < m.e.length := by omega
      rw [edgesE_drop m.v (endsL h.2) (endsL g.2) m.e j hje hjt] at hJ
      obtain ⟨q, hq⟩ : ∃ q, q = stepE m.v (endsL h.2) (endsL g.2)[j] m.e[j] := ⟨_, rfl⟩
      rw [← hq] at hJ
      rw [step_fit g2.right] at hq
      obtain ⟨⟨p1, p2⟩, p3, p4⟩ := hup _ (List.getElem_mem hjt)
      obtain ⟨a, ha⟩ : ∃ a : Nat, (endsL g.2)[j].1 = a := ⟨(endsL g.2)[j].1.toNat, by omega⟩
      obtain ⟨b, hb⟩ : ∃ b : Nat, (endsL g.2)[j].2 = b := ⟨(endsL g.2)[j].2.toNat, by omega⟩
      have hav : a < m.v.length := by omega
      have hbv : b < m.v.length := by omega
      have g1' : m.v.getD a 0 = m.v[a] := by rw [List.getD_eq_getElem?_getD, List.getElem?_eq_getElem hav]; rfl
      have g2' : m.v.getD b 0 = m.v[b] := by rw [List.getD_eq_getElem?_getD, List.getElem?_eq_getElem hbv]; rfl
      rw [ha, hb, Int.toNat_natCast, Int.toNat_natCast, g1', g2'] at hq
      obtain ⟨ma1, ma2⟩ := hvb _ (List.getElem_mem hav)
      obtain ⟨mb1, mb2⟩ := hvb _ (List.getElem_mem hbv)
      by_cases c1 : m.e[j] < -1
      · rw [if_pos (.inl c1)] at hq
        have hr3 : r = 2 := by rw [hJ, hq]; rfl
        simp -implicitDefEqProofs (disch := omega) [List.getElem?_cons_zero, List.getElem?_cons_succ, wrap_id, hjt, hje, c1]
        (refine fin0 trivial rfl ?_; simp -implicitDefEqProofs (disch := omega) [List.getElem?_cons_zero, List.getElem?_cons_succ, idx, wrap_id, hr3])
      simp -implicitDefEqProofs (disch := omega) [List.getElem?_cons_zero, List.getElem?_cons_succ, wrap_id, hjt, hje, c1]
      refine HC_of_PC rfl (size_ok h.1 h.2 g2.right (by omega)) ?_
      by_cases c2 : ((endsL h.2).length : Int) ≤ m.e[j]
      · rw [if_pos (.inr c2)] at hq
        have hr3 : r = 2 := by rw [hJ, hq]; rfl
        simp -implicitDefEqProofs (disch := omega) [List.getElem?_cons_zero, List.getElem?_cons_succ, wrap_id, c2]
        (refine fin0 trivial rfl ?_; simp -implicitDefEqProofs (disch := omega) [List.getElem?_cons_zero, List.getElem?_cons_succ, idx, wrap_id, hr3])
      rw [if_neg (by omega)] at hq
      simp -implicitDefEqProofs (disch := omega) [List.getElem?_cons_zero, List.getElem?_cons_succ, wrap_id, hjt, hje, c2, ha, hb, hav, hbv]
      refine HC_of_PC rfl (fits_ok h.1 h.2 m.v[a] m.v[b] m.e[j] g2.right (by omega) hs.h (by omega) (by omega) (by omega)) ?_
      cases hf : fitB (endsL h.2) m.v[a] m.v[b] m.e[j]
      · rw [hf] at hq
        have hr3 : r = 15 := by rw [hJ, hq]; rfl
        simp -implicitDefEqProofs (disch := omega) [List.getElem?_cons_zero, List.getElem?_cons_succ, wrap_id]
        (refine fin0 trivial rfl ?_; simp -implicitDefEqProofs (disch := omega) [List.getElem?_cons_zero, List.getElem?_cons_succ, idx, wrap_id, hr3])
      · rw [hf] at hq
        have hr3 : r = edgesE m.v (endsL h.2) ((endsL g.2).drop (j + 1)) (m.e.drop (j + 1)) := by rw [hJ, hq]; rfl
        simp -implicitDefEqProofs (disch := omega) [List.getElem?_cons_zero, List.getElem?_cons_succ, wrap_id]
        exact round_end [0, 1, 2] [10, 8, 3, 4, 5] hjt rfl ⟨rfl, hr3⟩
    · have hjn : j = (endsL g.2).length := by omega
      subst hjn
      have hr0 : r = 0 := by rw [hJ, List.drop_of_length_le (Nat.le_refl _)]; rfl
      simp -implicitDefEqProofs (disch := omega) [List.getElem?_cons_zero, List.getElem?_cons_succ, wrap_id]
      (refine fin0 trivial rfl ?_; simp -implicitDefEqProofs (disch := omega) [List.getElem?_cons_zero, List.getElem?_cons_succ, idx, wrap_id, hr0])
end Go.Proofs.Ytddgepjmfnodhaa
/-
  Contracts: the reference of chapter 51, 2.
-/
set_option linter.unusedSimpArgs false
set_option linter.unusedVariables false
namespace Go.Proofs.Ytddgepjmfnodhaa
open Go.Abs Go.Sand

theorem no_loop {es : List Ed} (hl : loopsB es = false) : ∀ p ∈ endsL es, p.1 ≠ p.2 := fun p hp e => by
  have : loopsB es = true := by
    unfold loopsB
    exact List.any_eq_true.2 ⟨p, hp, by simpa using e⟩
  rw [hl] at this
  cases this
theorem rcounted_ok (N : Int) (es : List Ed) (m : Mo) (v e : Int) (hr : ∀ x ∈ es, Right N x) (hel : es.length ≤ 900) (hl : loopsB es = false) (hme : m.e.length = (endsL es).length) :
    PC Try.prog 72 [G N es, MoP m, .i v, .i e] (.i (cntK (endsL es) m.e v e m.e.length)) [] := by
  have l1 := endsL_len9 hr hel
  refine PC_of_W cfn72 ?_
  simp -implicitDefEqProofs (disch := omega) [c72, List.getElem?_cons_zero, List.getElem?_cons_succ, wrap_id]
  refine HC_of_PC rfl (ends_ok N es hr (by omega)) ?_
  simp -implicitDefEqProofs (disch := omega) [List.getElem?_cons_zero, List.getElem?_cons_succ, wrap_id]
  refine loopW (endsL es).length (fun j s => s = ⟨[(11, .i j), (10, .i (cntK (endsL es) m.e v e j)), (9, .p (.ps (endsL es))), (5, .ptr 1 1 0 0), (2, .i v), (3, .i e)], [.box (.p (G N es)), .box (.p (MoP m))]⟩) (wk_norm [0, 1] [11, 10, 9, 5, 2, 3] rfl rfl) rfl ?_
  rintro j s hj rfl
  by_cases hlt : j < (endsL es).length
  · have hje : j < m.e.length := by omega
    have hgu : (endsL es).getD j (0, 0) = (endsL es)[j] := by rw [List.getD_eq_getElem?_getD, List.getElem?_eq_getElem hlt]; rfl
    have hge : m.e.getD j 0 = m.e[j] := by rw [List.getD_eq_getElem?_getD, List.getElem?_eq_getElem hje]; rfl
    have hb := cntK_bd (endsL es) m.e v e j
    have hnl := no_loop hl _ (List.getElem_mem hlt)
    have hn : cntK (endsL es) m.e v e (j + 1) = cntK (endsL es) m.e v e j + at1 (endsL es)[j] m.e[j] v e := by rw [cntK, hgu, hge]
    unfold at1 at hn
    by_cases c1 : m.e[j] = e
    · rw [if_pos c1] at hn
      by_cases c2 : (endsL es)[j].1 = v
      · have c3 : ¬ (endsL es)[j].2 = v := fun h => hnl (c2.trans h.symm)
        rw [if_pos c2, if_neg c3, Int.add_zero] at hn
        simp -implicitDefEqProofs (disch := omega) [List.getElem?_cons_zero, List.getElem?_cons_succ, wrap_id, hlt, hje, c1, c2]
        exact round_end [0, 1] [11, 10, 9, 5, 2, 3] hlt rfl (by rw [hn]; rfl)
      · by_cases c3 : (endsL es)[j].2 = v
        · rw [if_neg c2, if_pos c3, Int.zero_add] at hn
          simp -implicitDefEqProofs (disch := omega) [List.getElem?_cons_zero, List.getElem?_cons_succ, wrap_id, hlt, hje, c1, c2, c3]
          exact round_end [0, 1] [11, 10, 9, 5, 2, 3] hlt rfl (by rw [hn]; rfl)
        · rw [if_neg c2, if_neg c3, Int.add_zero, Int.add_zero] at hn
          simp -implicitDefEqProofs (disch := omega) [List.getElem?_cons_zero, List.getElem?_cons_succ, wrap_id, hlt, hje, c1, c2, c3]
          exact round_end [0, 1] [11, 10, 9, 5, 2, 3] hlt rfl (by rw [hn]; rfl)
    · rw [if_neg c1, Int.add_zero] at hn
      simp -implicitDefEqProofs (disch := omega) [List.getElem?_cons_zero, List.getElem?_cons_succ, wrap_id, hlt, hje, c1]
      exact round_end [0, 1] [11, 10, 9, 5, 2, 3] hlt rfl (by rw [hn]; rfl)
  · have hjn : j = (endsL es).length := by omega
    subst hjn
    simp -implicitDefEqProofs (disch := omega) [List.getElem?_cons_zero, List.getElem?_cons_succ, wrap_id]
    (refine fin0 trivial rfl ?_; simp -implicitDefEqProofs (disch := omega) [List.getElem?_cons_zero, List.getElem?_cons_succ, idx, wrap_id, hme])
def tchB (d : Int × Int) (w : Int) : Bool := decide (d.1 = w) || decide (d.2 = w)
theorem tB_eq (vs : List Int) (down : List (Int × Int)) (v e : Nat) : tB vs down v e = tchB (down.getD e (0, 0)) (vs.getD v 0) := by
  rw [tB, tchB, Bool.eq_iff_iff]
  simp only [List.mem_cons, List.not_mem_nil, or_false, decide_eq_true_eq, Bool.or_eq_true]
  exact ⟨fun h => h.imp Eq.symm Eq.symm, fun h => h.imp Eq.symm Eq.symm⟩
theorem touches_ok (M : Int) (fs : List Ed) (e : Nat) (w : Int) (hr : ∀ x ∈ fs, Right M x) (hfl : fs.length ≤ 900) (he : e < (endsL fs).length) :
    PC Try.prog 101 [G M fs, .i e, .i w] (.b (tchB ((endsL fs).getD e (0, 0)) w)) [] := by
  have hgu : (endsL fs).getD e (0, 0) = (endsL fs)[e] := by rw [List.getD_eq_getElem?_getD, List.getElem?_eq_getElem he]; rfl
  rw [hgu, tchB]
  refine PC_of_W cfn101 ?_
  simp -implicitDefEqProofs (disch := omega) [c101, List.getElem?_cons_zero, List.getElem?_cons_succ, wrap_id]
  refine HC_of_PC rfl (ends_ok M fs hr (by omega)) ?_
  simp -implicitDefEqProofs (disch := omega) [List.getElem?_cons_zero, List.getElem?_cons_succ, wrap_id, he]
  by_cases c1 : (endsL fs)[e].1 = w
  · simp -implicitDefEqProofs (disch := omega) [List.getElem?_cons_zero, List.getElem?_cons_succ, wrap_id, c1]
    (refine fin0 trivial rfl ?_; simp -implicitDefEqProofs (disch := omega) [List.getElem?_cons_zero, List.getElem?_cons_succ, idx, wrap_id])
  · simp -implicitDefEqProofs (disch := omega) [List.getElem?_cons_zero, List.getElem?_cons_succ, wrap_id, c1]
    (refine fin0 trivial rfl ?_; simp -implicitDefEqProofs (disch := omega) [List.getElem?_cons_zero, List.getElem?_cons_succ, idx, wrap_id])
abbrev locM (g h : Gr) (m : Mo) (v : Nat) := locV (endsL g.2) (endsL h.2) m v
theorem rlocal_ok (g h : Gr) (m : Mo) (n k v : Nat) (hs : Sm g h m) (c : Cov g h m n k) (hv : v < n) :
    PC Try.prog 84 [GrP g, GrP h, MoP m, .i v] (.tup [.i (multV (endsL g.2) (endsL h.2) m v), .b (locM g h m v (endsL h.2).length).isSome]) [] := by
  have l1 := endsL_len9 c.gg.right hs.g
  have l2 := endsL_len9 c.hg.right hs.h
  have hsg := hs.g
  have hsh := hs.h
  have hvl : v < m.v.length := by rw [c.vl]; exact hv
  have hgv : m.v.getD v 0 = m.v[v] := by rw [List.getD_eq_getElem?_getD, List.getElem?_eq_getElem hvl]; rfl
  refine PC_of_W cfn84 ?_
  simp -implicitDefEqProofs (disch := omega) [c84, List.getElem?_cons_zero, List.getElem?_cons_succ, wrap_id]
  refine loopW (endsL h.2).length (fun e s => ∃ a, s = ⟨[(12, .i e), (10, .i (a.getD 0)), (11, .b a.isSome), (4, .ptr 0 1 0 0), (5, .ptr 1 1 0 0), (6, .ptr 2 1 0 0), (3, .i v)], [.box (.p (GrP g)), .box (.p (GrP h)), .box (.p (MoP m))]⟩ ∧ locM g h m v e = some a) (wk_norm [0, 1, 2] [12, 10, 11, 4, 5, 6, 3] rfl rfl) ⟨none, rfl, rfl⟩ ?_
  rintro e s he ⟨a, rfl, hJ⟩
  by_cases het : e < (endsL h.2).length
  · have hloc : locM g h m v (e + 1) = if tB m.v (endsL h.2) v e = true then (if a = none ∨ a = some (cntK (endsL g.2) m.e v e m.e.length) then some (some (cntK (endsL g.2) m.e v e m.e.length)) else none) else some a := by
      show locK _ _ (e + 1) = _
      rw [locK, show locK (tB m.v (endsL h.2) v) (fun e : Nat => cntK (endsL g.2) m.e v e m.e.length) e = some a from hJ]
    rw [tB_eq, hgv] at hloc
    simp -implicitDefEqProofs (disch := omega) [List.getElem?_cons_zero, List.getElem?_cons_succ, wrap_id]
    refine HC_of_PC rfl (size_ok h.1 h.2 c.hg.right (by omega)) ?_
    simp -implicitDefEqProofs (disch := omega) [List.getElem?_cons_zero, List.getElem?_cons_succ, wrap_id, het, hvl]
    refine HC_of_PC rfl (touches_ok h.1 h.2 e m.v[v] c.hg.right hsh het) ?_
    cases ht : tchB ((endsL h.2).getD e (0, 0)) m.v[v]
    · rw [ht] at hloc
      simp -implicitDefEqProofs (disch := omega) [List.getElem?_cons_zero, List.getElem?_cons_succ, wrap_id]
      exact round_end [0, 1, 2] [12, 10, 11, 4, 5, 6, 3] het rfl ⟨a, rfl, hloc⟩
    · rw [ht, if_pos rfl] at hloc
      simp -implicitDefEqProofs (disch := omega) [List.getElem?_cons_zero, List.getElem?_cons_succ, wrap_id]
      refine HC_of_PC rfl (rcounted_ok g.1 g.2 m v e c.gg.right hsg c.gl c.el) ?_
      cases a with
      | none =>
        rw [if_pos (.inl rfl)] at hloc
        simp -implicitDefEqProofs (disch := omega) [List.getElem?_cons_zero, List.getElem?_cons_succ, wrap_id]
        exact round_end [0, 1, 2] [12, 10, 11, 4, 5, 6, 3] het rfl ⟨_, rfl, hloc⟩
      | some x =>
        by_cases hx : x = cntK (endsL g.2) m.e v e m.e.length
        · rw [if_pos (.inr (by rw [hx]))] at hloc
          simp -implicitDefEqProofs (disch := omega) [List.getElem?_cons_zero, List.getElem?_cons_succ, wrap_id, hx]
          exact round_end [0, 1, 2] [12, 10, 11, 4, 5, 6, 3] het rfl ⟨_, rfl, hloc⟩
        · rw [if_neg (by rintro (h | h); cases h; injection h with h; exact hx h)] at hloc
          have hnone : locM g h m v (endsL h.2).length = none := locK_none hloc (by omega)
          have hm : multV (endsL g.2) (endsL h.2) m v = 0 := by rw [multV, show locV (endsL g.2) (endsL h.2) m v (endsL h.2).length = none from hnone]; rfl
          have hx' : ¬ cntK (endsL g.2) m.e v e m.e.length = x := fun h => hx h.symm
          simp -implicitDefEqProofs (disch := omega) [List.getElem?_cons_zero, List.getElem?_cons_succ, wrap_id, hx']
          (refine fin0 trivial rfl ?_; simp -implicitDefEqProofs (disch := omega) [List.getElem?_cons_zero, List.getElem?_cons_succ, idx, wrap_id, hm, hnone])
  · have hen : e = (endsL h.2).length := by omega
    subst hen
    have hm : multV (endsL g.2) (endsL h.2) m v = a.getD 0 := by rw [multV, show locV (endsL g.2) (endsL h.2) m v (endsL h.2).length = some a from hJ]; rfl
    simp -implicitDefEqProofs (disch := omega) [List.getElem?_cons_zero, List.getElem?_cons_succ, wrap_id]
    refine HC_of_PC rfl (size_ok h.1 h.2 c.hg.right (by omega)) ?_
    simp -implicitDefEqProofs (disch := omega) [List.getElem?_cons_zero, List.getElem?_cons_succ, wrap_id]
    (refine fin0 trivial rfl ?_; simp -implicitDefEqProofs (disch := omega) [List.getElem?_cons_zero, List.getElem?_cons_succ, idx, wrap_id, hm, hJ])
theorem rharm_ok (g h : Gr) (m : Mo) (n k : Nat) (hs : Sm g h m) (c : Cov g h m n k) : PC Try.prog 49 [GrP g, GrP h, MoP m] (.b (harmM g h m)) [] := by
  have hvl := c.vl
  have hgn := c.gn
  have h12 := c.n12
  refine PC_of_W cfn49 ?_
  simp -implicitDefEqProofs (disch := omega) [c49, List.getElem?_cons_zero, List.getElem?_cons_succ, wrap_id]
  refine loopW n (fun v s => s = ⟨[(7, .i v), (3, .ptr 0 1 0 0), (4, .ptr 1 1 0 0), (5, .ptr 2 1 0 0)], [.box (.p (GrP g)), .box (.p (GrP h)), .box (.p (MoP m))]⟩ ∧ ∀ u, u < v → (locM g h m u (endsL h.2).length).isSome = true) (wk_norm [0, 1, 2] [7, 3, 4, 5] rfl rfl) ⟨rfl, fun u h => by omega⟩ ?_
  rintro v s hv ⟨rfl, hI⟩
  by_cases hlt : v < n
  · have hvg : (v : Int) < g.1 := by omega
    simp -implicitDefEqProofs (disch := omega) [List.getElem?_cons_zero, List.getElem?_cons_succ, wrap_id, hvg]
    refine HC_of_PC rfl (rlocal_ok g h m n k v hs c hlt) ?_
    cases hl : (locM g h m v (endsL h.2).length).isSome
    · have hh : harmM g h m = false := by
        cases hx : harmM g h m
        · rfl
        · have h2 := List.all_eq_true.1 hx v (by simp; omega)
          rw [hl] at h2
          cases h2
      simp -implicitDefEqProofs (disch := omega) [List.getElem?_cons_zero, List.getElem?_cons_succ, wrap_id]
      (refine fin0 trivial rfl ?_; simp -implicitDefEqProofs (disch := omega) [List.getElem?_cons_zero, List.getElem?_cons_succ, idx, wrap_id, hh])
    · simp -implicitDefEqProofs (disch := omega) [List.getElem?_cons_zero, List.getElem?_cons_succ, wrap_id]
      exact round_end [0, 1, 2] [7, 3, 4, 5] hlt rfl ⟨rfl, fun u hu => by
        by_cases e : u = v
        · rw [e]; exact hl
        · exact hI u (by omega)⟩
  · have hvg : ¬ (v : Int) < g.1 := by omega
    have hh : harmM g h m = true := List.all_eq_true.2 fun u hu => hI u (by simp at hu; omega)
    simp -implicitDefEqProofs (disch := omega) [List.getElem?_cons_zero, List.getElem?_cons_succ, wrap_id, hvg]
    (refine fin0 trivial rfl ?_; simp -implicitDefEqProofs (disch := omega) [List.getElem?_cons_zero, List.getElem?_cons_succ, idx, wrap_id, hh])
theorem rmult1_ok (g h : Gr) (m : Mo) (n k v : Nat) (hs : Sm g h m) (c : Cov g h m n k) (hv : v < n) : PC Try.prog 70 [GrP g, GrP h, MoP m, .i v] (.i (multV (endsL g.2) (endsL h.2) m v)) [] := by
  refine PC_of_W cfn70 ?_
  simp -implicitDefEqProofs (disch := omega) [c70, List.getElem?_cons_zero, List.getElem?_cons_succ, wrap_id]
  refine HC_of_PC rfl (rlocal_ok g h m n k v hs c hv) ?_
  simp -implicitDefEqProofs (disch := omega) [List.getElem?_cons_zero, List.getElem?_cons_succ, wrap_id]
  (refine fin0 trivial rfl ?_; simp -implicitDefEqProofs (disch := omega) [List.getElem?_cons_zero, List.getElem?_cons_succ, idx, wrap_id])
theorem images_ok (m : Mo) (k : Int) (hme : m.e.length ≤ 1000000) : PC Try.prog 77 [MoP m, .i k] (.i (occ k m.e)) [] := by
  refine PC_of_W cfn77 ?_
  simp -implicitDefEqProofs (disch := omega) [c77, List.getElem?_cons_zero, List.getElem?_cons_succ, wrap_id]
  refine loopW m.e.length (fun j s => s = ⟨[(6, .i j), (5, .i (occ k (m.e.take j))), (2, .ptr 0 1 0 0), (1, .i k)], [.box (.p (MoP m))]⟩) (wk_norm [0] [6, 5, 2, 1] rfl rfl) rfl ?_
  rintro j s hj rfl
  by_cases hlt : j < m.e.length
  · have ht := occ_take k m.e j hlt
    have hb := occ_bd k (m.e.take j)
    have hbl : (m.e.take j).length ≤ j := by simp; omega
    by_cases hz : m.e[j] = k
    · rw [if_pos hz] at ht
      simp -implicitDefEqProofs (disch := omega) [List.getElem?_cons_zero, List.getElem?_cons_succ, wrap_id, hlt, hz]
      exact round_end [0] [6, 5, 2, 1] hlt rfl (by rw [ht]; rfl)
    · rw [if_neg hz, Int.add_zero] at ht
      simp -implicitDefEqProofs (disch := omega) [List.getElem?_cons_zero, List.getElem?_cons_succ, wrap_id, hlt, hz]
      exact round_end [0] [6, 5, 2, 1] hlt rfl (by rw [ht]; rfl)
  · have hjn : j = m.e.length := by omega
    subst hjn
    have ht : m.e.take m.e.length = m.e := List.take_length
    simp -implicitDefEqProofs (disch := omega) [List.getElem?_cons_zero, List.getElem?_cons_succ, wrap_id]
    (refine fin0 trivial rfl ?_; simp -implicitDefEqProofs (disch := omega) [List.getElem?_cons_zero, List.getElem?_cons_succ, idx, wrap_id, ht])
theorem one_none {g h : Gr} {m : Mo} {n k : Nat} (c : Cov g h m n k) (h1 : h.1 = 1) : occ 0 m.e = 0 := by
  have hd : endsL h.2 = [] := by
    refine List.eq_nil_iff_forall_not_mem.2 fun p hp => ?_
    have h2 := ends_in c.hg.right p hp
    exact no_loop c.hl p hp (by omega)
  have : ∀ l : List Int, (∀ x ∈ l, x ≠ 0) → occ 0 l = 0 := fun l => by
    induction l with
    | nil => intro _; rfl
    | cons x l ih =>
      intro hx
      have := ih (fun y hy => hx y (by simp [hy]))
      simp only [occ, List.map_cons, sumI] at this ⊢
      rw [if_neg (hx x (by simp)), this]
      rfl
  refine this _ fun x hx => ?_
  have := c.ebd x hx
  rw [hd] at this
  simp at this
  omega
theorem rdegree_ok (g h : Gr) (m : Mo) (hs : Sm g h m) : PC Try.prog 46 [GrP g, GrP h, MoP m] (.tup [.i (if degE g h m = 0 then occ 0 m.e else 0), .i (degE g h m)]) [] := by
  refine PC_of_W cfn46 ?_
  simp -implicitDefEqProofs (disch := omega) [c46, List.getElem?_cons_zero, List.getElem?_cons_succ, wrap_id]
  refine HC_of_PC rfl (rcheck51_ok g h m hs) ?_
  by_cases hc : coverE g h m = 0
  rotate_left
  · have he : degE g h m = coverE g h m := by rw [degE, if_pos hc]
    simp -implicitDefEqProofs (disch := omega) [List.getElem?_cons_zero, List.getElem?_cons_succ, wrap_id, hc]
    (refine fin0 trivial rfl ?_; simp -implicitDefEqProofs (disch := omega) [List.getElem?_cons_zero, List.getElem?_cons_succ, idx, wrap_id, he, hc])
  obtain ⟨n, k, c⟩ := cov_of hc
  simp -implicitDefEqProofs (disch := omega) [List.getElem?_cons_zero, List.getElem?_cons_succ, wrap_id, hc]
  refine HC_of_PC rfl (rharm_ok g h m n k hs c) ?_
  cases hh : harmM g h m
  · have he : degE g h m = 15 := by rw [degE, if_neg (by simp [hc]), if_pos hh]
    simp -implicitDefEqProofs (disch := omega) [List.getElem?_cons_zero, List.getElem?_cons_succ, wrap_id]
    (refine fin0 trivial rfl ?_; simp -implicitDefEqProofs (disch := omega) [List.getElem?_cons_zero, List.getElem?_cons_succ, idx, wrap_id, he])
  · have he : degE g h m = 0 := by rw [degE, if_neg (by simp [hc]), if_neg (by simp [hh])]
    by_cases h1 : h.1 = 1
    · have ho := one_none c h1
      simp -implicitDefEqProofs (disch := omega) [List.getElem?_cons_zero, List.getElem?_cons_succ, wrap_id, h1]
      (refine fin0 trivial rfl ?_; simp -implicitDefEqProofs (disch := omega) [List.getElem?_cons_zero, List.getElem?_cons_succ, idx, wrap_id, he, ho])
    · simp -implicitDefEqProofs (disch := omega) [List.getElem?_cons_zero, List.getElem?_cons_succ, wrap_id, h1]
      refine HC_of_PC rfl (images_ok m 0 hs.e) ?_
      simp -implicitDefEqProofs (disch := omega) [List.getElem?_cons_zero, List.getElem?_cons_succ, wrap_id]
      (refine fin0 trivial rfl ?_; simp -implicitDefEqProofs (disch := omega) [List.getElem?_cons_zero, List.getElem?_cons_succ, idx, wrap_id, he])
end Go.Proofs.Ytddgepjmfnodhaa
