/-
  What right morphisms push and pull; the law Degrees.
-/
import Derived.Test.YtddgepjmfnodhaaPf
set_option linter.unusedSimpArgs false
set_option linter.unusedVariables false
namespace Go.Proofs.Ytddgepjmfnodhaa
open Go.Abs Go.Sand

theorem bnd_of {m : List Int} (h : Bd 1048576 m) : bndE m = 0 := by
  rw [bndE, if_pos]
  refine List.all_eq_true.2 fun x hx => ?_
  obtain ⟨i, hi, rfl⟩ := List.getElem_of_mem hx
  exact inB_iff.2 (Bd.get h hi)
theorem dchk_of {n : Nat} {m : List Int} (h1 : 1 ≤ n) (h2 : n ≤ 12) (hl : m.length = n) (h : Bd 1048576 m) : dcheck m n = 0 := by
  have hb := bnd_of h
  refine dchk_mk h1 h2 hl ?_
  unfold bndE at hb
  split at hb
  · assumption
  · cases hb
theorem Bd.list {B : Int} {n : Nat} {f : Nat → Int} (hB : 0 ≤ B) (h : ∀ v, v < n → -B ≤ f v ∧ f v ≤ B) : Bd B (lsF n f) := fun i => by
  by_cases hi : i < n
  · rw [lsF_get hi]; exact h i hi
  · rw [List.getD_eq_getElem?_getD, List.getElem?_eq_none (by rw [lsF_len]; omega)]
    simp only [Option.getD_none]; omega
theorem few_nE {g h : Gr} {m : Mo} (hf : fewM g h m = true) (hc : coverE g h m = 0) : nE g ≤ 24 ∧ nE h ≤ 24 := by
  obtain ⟨e1, e2⟩ := errs_gc hc
  simp only [fewM, smM, e1, e2, ne_eq, not_true_eq_false, decide_false, Bool.false_or, Bool.and_eq_true, decide_eq_true_eq] at hf
  exact ⟨hf.1.1.1.2, hf.1.1.2.2⟩
/-- What is known of a small right morphism. -/
structure Rt (g h : Gr) (m : Mo) (n k : Nat) : Prop where
  hs : Sm g h m
  c : Cov g h m n k
  hh : harmM g h m = true
  dg : degE g h m = 0
  eg : nE g ≤ 24
  eh : nE h ≤ 24
theorem rt_of {g h : Gr} {m : Mo} (hs : Sm g h m) (hf : fewM g h m = true) (h1 : degE g h m = 0) : ∃ n k : Nat, Rt g h m n k := by
  obtain ⟨hc, hh⟩ := deg_ok h1
  obtain ⟨n, k, c⟩ := cov_of hc
  obtain ⟨a, b⟩ := few_nE hf hc
  exact ⟨n, k, hs, c, hh, h1, a, b⟩
section
variable {g h : Gr} {m : Mo} {n k : Nat}
theorem Rt.mb (r : Rt g h m n k) (v : Nat) : 0 ≤ mM g h m v ∧ mM g h m v ≤ 48 := by
  have h1 := mM_nonneg g h m v
  have h2 := r.c.elg
  have h3 := r.eg
  omega
theorem Rt.occ (r : Rt g h m n k) : 0 ≤ occ 0 m.e ∧ occ 0 m.e ≤ 24 := by
  have h1 := occ_bd 0 m.e
  have h2 := r.c.elg
  have h3 := r.eg
  omega
theorem Rt.sumB (r : Rt g h m n k) {d : List Int} {B : Int} (hB0 : 0 ≤ B) (hB : Bd B d) : Bd (12 * B) (sumF m (fun _ => 1) d k n) := by
  have n12 := r.c.n12
  refine Bd.list (by omega) fun w hw => ?_
  have := sm_abd (f := fun v => if vI m v = (w : Int) then d.getD v 0 * 1 else 0) hB0 (fun i => by have := hB i; split <;> omega) n
  have e : (n : Int) * B ≤ 12 * B := Int.mul_le_mul_of_nonneg_right (by omega) hB0
  simp only at this ⊢
  omega
theorem Rt.lifB (r : Rt g h m n k) {d : List Int} {B : Int} (hB0 : 0 ≤ B) (hB : Bd B d) : Bd (B * 48) (lifF m (mM g h m) d n) :=
  Bd.list (by omega) fun v hv => mul_bd (hB _) (r.mb v) hB0
theorem Rt.lifB1 {d : List Int} {B : Int} (hB0 : 0 ≤ B) (hB : Bd B d) : Bd B (lifF m (fun _ => 1) d n) :=
  Bd.list hB0 fun v hv => by have := hB (vI m v).toNat; simp only [Int.mul_one]; omega
theorem Rt.push (r : Rt g h m n k) {d : List Int} (hd : d.length = n) (hB : Bd 80000 d) : PC Try.prog 12 [GrP g, GrP h, MoP m, .is d] (.tup [.p (.is (sumF m (fun _ => 1) d k n)), .i 0]) [] := by
  have n12 := r.c.n12
  have hgn := r.c.gn
  have hhk := r.c.hk
  have ct := push_ok g h m r.hs d (by omega)
  have e : pushL g h m false d = sumF m (fun _ => 1) d k n := by simp only [pushL, hgn, hhk, Int.toNat_natCast]; rfl
  have hb := r.sumB (by omega) hB
  rwa [pu_at (L' := sumF m (fun _ => 1) d k n) ⟨by rw [pu_3 r.dg (by rw [hgn]; exact dchk_of (by omega) (by omega) hd (hB.more (by omega))), e]; exact bnd_of (hb.more (by omega)), e⟩] at ct
theorem Rt.pull (r : Rt g h m n k) {d : List Int} (hd : d.length = k) (hB : Bd 1048576 d) (hb : Bd 1048576 (lifF m (mM g h m) d n)) : PC Try.prog 14 [GrP g, GrP h, MoP m, .is d] (.tup [.p (.is (lifF m (mM g h m) d n)), .i 0]) [] := by
  have n12 := r.c.n12
  have hgn := r.c.gn
  have hhk := r.c.hk
  have ct := pull_ok g h m r.hs d (by omega)
  have e : pullL g h m true d = lifF m (mM g h m) d n := by simp only [pullL, hgn, Int.toNat_natCast]; rfl
  rwa [pu_at (L' := lifF m (mM g h m) d n) ⟨by rw [pu_3 r.dg (by rw [hhk]; exact dchk_of (by omega) (by omega) hd hB), e]; exact bnd_of hb, e⟩] at ct
theorem Rt.pushS (r : Rt g h m n k) {d : List Int} (hd : d.length = n) (hB : Bd 1048576 d) (hb : Bd 1048576 (sumF m (mM g h m) d k n)) : PC Try.prog 25 [GrP g, GrP h, MoP m, .is d] (.tup [.p (.is (sumF m (mM g h m) d k n)), .i 0]) [] := by
  have n12 := r.c.n12
  have hgn := r.c.gn
  have hhk := r.c.hk
  have ct := pushS_ok g h m r.hs d (by omega)
  have e : pushL g h m true d = sumF m (mM g h m) d k n := by simp only [pushL, hgn, hhk, Int.toNat_natCast]; rfl
  rwa [pu_at (L' := sumF m (mM g h m) d k n) ⟨by rw [pu_3 r.dg (by rw [hgn]; exact dchk_of (by omega) (by omega) hd hB), e]; exact bnd_of hb, e⟩] at ct
theorem Rt.pullS (r : Rt g h m n k) {d : List Int} (hd : d.length = k) (hB : Bd 1048576 d) : PC Try.prog 26 [GrP g, GrP h, MoP m, .is d] (.tup [.p (.is (lifF m (fun _ => 1) d n)), .i 0]) [] := by
  have n12 := r.c.n12
  have hgn := r.c.gn
  have hhk := r.c.hk
  have ct := pullS_ok g h m r.hs d (by omega)
  have e : pullL g h m false d = lifF m (fun _ => 1) d n := by simp only [pullL, hgn, Int.toNat_natCast]; rfl
  rwa [pu_at (L' := lifF m (fun _ => 1) d n) ⟨by rw [pu_3 r.dg (by rw [hhk]; exact dchk_of (by omega) (by omega) hd hB), e]; exact bnd_of (Rt.lifB1 (by omega) hB), e⟩] at ct
end
theorem right_good {g h : Gr} {m : Mo} {d : List Int} {N : Int} (hr : rightP g h m d N = true) : (d.length : Int) = N ∧ Bd 1000 d := by
  simp only [rightP, Bool.and_eq_true, decide_eq_true_eq, Bool.not_eq_true'] at hr
  obtain ⟨⟨-, h1⟩, h2⟩ := hr
  refine ⟨h1, fun i => ?_⟩
  by_cases hi : i < d.length
  · rw [getD_get hi]
    have := List.any_eq_false.1 h2 d[i] (List.getElem_mem hi)
    simp only [big52, Bool.or_eq_true, decide_eq_true_eq, not_or] at this
    omega
  · rw [List.getD_eq_getElem?_getD, List.getElem?_eq_none (by omega)]; simp
theorem degrees52_law (g h : Gr) (m : Mo) (d : List Int) : PC Try.prog 5 [EnP g h, MoP m, .is d] (.b true) [] := by
  refine PC_of_W cfn5 ?_
  simp -implicitDefEqProofs (disch := omega) [c5, List.getElem?_cons_zero, List.getElem?_cons_succ, wrap_id]
  refine HC_of_PC rfl (lfew52_ok g h m d) ?_
  cases hf : fewP g h m d
  · simp -implicitDefEqProofs (disch := omega) [List.getElem?_cons_zero, List.getElem?_cons_succ, wrap_id]
    refine HC_of_PC rfl (awake52_ok) ?_
    simp -implicitDefEqProofs (disch := omega) [List.getElem?_cons_zero, List.getElem?_cons_succ, wrap_id]
    (refine fin0 trivial rfl ?_; simp -implicitDefEqProofs (disch := omega) [List.getElem?_cons_zero, List.getElem?_cons_succ, idx, wrap_id])
  obtain ⟨hs, hl, hfm⟩ := fewP_sm hf
  simp -implicitDefEqProofs (disch := omega) [List.getElem?_cons_zero, List.getElem?_cons_succ, wrap_id]
  refine HC_of_PC rfl (given52_ok g h m hs) ?_
  by_cases h1 : degE g h m = 0
  rotate_left
  · simp -implicitDefEqProofs (disch := omega) [List.getElem?_cons_zero, List.getElem?_cons_succ, wrap_id, h1]
    refine HC_of_PC rfl (awake52_ok) ?_
    simp -implicitDefEqProofs (disch := omega) [List.getElem?_cons_zero, List.getElem?_cons_succ, wrap_id]
    (refine fin0 trivial rfl ?_; simp -implicitDefEqProofs (disch := omega) [List.getElem?_cons_zero, List.getElem?_cons_succ, idx, wrap_id])
  obtain ⟨n, k, r⟩ := rt_of hs hfm h1
  have c := r.c
  have hh := r.hh
  have hgn := c.gn
  have hhk := c.hk
  have n12 := c.n12
  simp -implicitDefEqProofs (disch := omega) [List.getElem?_cons_zero, List.getElem?_cons_succ, wrap_id, h1]
  refine HC_of_PC rfl (degree_ok g h m hs) ?_
  simp -implicitDefEqProofs (disch := omega) [List.getElem?_cons_zero, List.getElem?_cons_succ, wrap_id, h1]
  refine HC_of_PC rfl (right52_ok g h m d g.1) ?_
  cases hr1 : rightP g h m d g.1
  · simp -implicitDefEqProofs (disch := omega) [List.getElem?_cons_zero, List.getElem?_cons_succ, wrap_id]
    refine HC_of_PC rfl (right52_ok g h m d h.1) ?_
    cases hr2 : rightP g h m d h.1
    · simp -implicitDefEqProofs (disch := omega) [List.getElem?_cons_zero, List.getElem?_cons_succ, wrap_id]
      refine HC_of_PC rfl (awake52_ok) ?_
      simp -implicitDefEqProofs (disch := omega) [List.getElem?_cons_zero, List.getElem?_cons_succ, wrap_id]
      (refine fin0 trivial rfl ?_; simp -implicitDefEqProofs (disch := omega) [List.getElem?_cons_zero, List.getElem?_cons_succ, idx, wrap_id])
    obtain ⟨hl2, hB2⟩ := right_good hr2
    have hlk : d.length = k := by omega
    have b2 := r.lifB (by omega) hB2
    have hPl : (lifF m (mM g h m) d n).length = n := lsF_len _ _
    have hPg : (n : Int) = g.1 := by omega
    have hpl := r.pull hlk (hB2.more (by omega)) (b2.more (by omega))
    have hpp := r.push hPl (b2.more (by omega))
    rw [pull_push c hh d hlk] at hpp
    have ht := pull_total c hh d
    have ht2 := sumI_getD d
    rw [hlk] at ht2
    rw [← ht2] at ht
    have hob := r.occ
    have hsb : -12000 ≤ sumI d ∧ sumI d ≤ 12000 := by
      have := sm_abd (f := fun i => d.getD i 0) (B := 1000) (by omega) (fun i => hB2 i) k
      rw [← ht2] at this
      omega
    have hmb := mul_bd (a := sumI d) (b := occ 0 m.e) (A := 12000) (B := 24) hsb hob (by omega)
    rw [Int.mul_comm (sumI d)] at hmb
    simp -implicitDefEqProofs (disch := omega) [List.getElem?_cons_zero, List.getElem?_cons_succ, wrap_id]
    refine HC_of_PC rfl (hpl) ?_
    simp -implicitDefEqProofs (disch := omega) [List.getElem?_cons_zero, List.getElem?_cons_succ, wrap_id, hPl, hPg]
    refine HC_of_PC rfl (total_ok (lifF m (mM g h m) d n) (by omega) (b2.more (by omega))) ?_
    simp -implicitDefEqProofs (disch := omega) [List.getElem?_cons_zero, List.getElem?_cons_succ, wrap_id]
    refine HC_of_PC rfl (total_ok d (by omega) (hB2.more (by omega))) ?_
    simp -implicitDefEqProofs (disch := omega) [List.getElem?_cons_zero, List.getElem?_cons_succ, wrap_id, ht]
    refine HC_of_PC rfl (hpp) ?_
    simp -implicitDefEqProofs (disch := omega) [List.getElem?_cons_zero, List.getElem?_cons_succ, wrap_id]
    have hQl : (d.map fun x => occ 0 m.e * x).length = d.length := List.length_map ..
    refine loopW d.length (fun j s => s = ⟨[(124, .i j), (123, .i d.length), (13, .p (.is (d.map fun x => occ 0 m.e * x))), (2, .p (.is d)), (7, .i (occ 0 m.e)), (3, .ptr 0 1 0 0), (4, .ptr 1 1 0 0)], [.box (.p (EnP g h)), .box (.p (MoP m))]⟩)
      (wk_norm [0, 1] [124, 123, 13, 2, 7, 3, 4] rfl rfl) rfl ?_
    rintro j s hj rfl
    by_cases hlt : j < d.length
    · have hjq : j < (d.map fun x => occ 0 m.e * x).length := by omega
      have hge : (d.map fun x => occ 0 m.e * x)[j] = occ 0 m.e * d[j] := List.getElem_map ..
      have hbj := Bd.get hB2 hlt
      have hmb := mul_bd (a := d[j]) (b := occ 0 m.e) (A := 1000) (B := 24) hbj hob (by omega)
      rw [Int.mul_comm d[j]] at hmb
      simp -implicitDefEqProofs (disch := omega) [List.getElem?_cons_zero, List.getElem?_cons_succ, wrap_id, hlt, hjq, hge]
      exact round_end [0, 1] [124, 123, 13, 2, 7, 3, 4] hlt rfl rfl
    · simp -implicitDefEqProofs (disch := omega) [List.getElem?_cons_zero, List.getElem?_cons_succ, wrap_id, hlt]
      refine HC_of_PC rfl (awake52_ok) ?_
      simp -implicitDefEqProofs (disch := omega) [List.getElem?_cons_zero, List.getElem?_cons_succ, wrap_id]
      (refine fin0 trivial rfl ?_; simp -implicitDefEqProofs (disch := omega) [List.getElem?_cons_zero, List.getElem?_cons_succ, idx, wrap_id])
  obtain ⟨hl1, hB1⟩ := right_good hr1
  have hln : d.length = n := by omega
  have hp := r.push hln (hB1.more (by omega))
  have b1 := r.sumB (by omega) hB1
  have hPk : (sumF m (fun _ => 1) d k n).length = k := lsF_len _ _
  have hs1 := push_total c d
  have hs2 := sumI_getD d
  rw [hln] at hs2
  rw [← hs2] at hs1
  simp -implicitDefEqProofs (disch := omega) [List.getElem?_cons_zero, List.getElem?_cons_succ, wrap_id]
  refine HC_of_PC rfl (hp) ?_
  simp -implicitDefEqProofs (disch := omega) [List.getElem?_cons_zero, List.getElem?_cons_succ, wrap_id]
  refine HC_of_PC rfl (total_ok (sumF m (fun _ => 1) d k n) (by omega) (b1.more (by omega))) ?_
  simp -implicitDefEqProofs (disch := omega) [List.getElem?_cons_zero, List.getElem?_cons_succ, wrap_id]
  refine HC_of_PC rfl (total_ok d (by omega) (hB1.more (by omega))) ?_
  simp -implicitDefEqProofs (disch := omega) [List.getElem?_cons_zero, List.getElem?_cons_succ, wrap_id, hs1]
  refine HC_of_PC rfl (right52_ok g h m d h.1) ?_
  cases hr2 : rightP g h m d h.1
  · simp -implicitDefEqProofs (disch := omega) [List.getElem?_cons_zero, List.getElem?_cons_succ, wrap_id]
    refine HC_of_PC rfl (awake52_ok) ?_
    simp -implicitDefEqProofs (disch := omega) [List.getElem?_cons_zero, List.getElem?_cons_succ, wrap_id]
    (refine fin0 trivial rfl ?_; simp -implicitDefEqProofs (disch := omega) [List.getElem?_cons_zero, List.getElem?_cons_succ, idx, wrap_id])
  obtain ⟨hl2, hB2⟩ := right_good hr2
  have hlk : d.length = k := by omega
  have b2 := r.lifB (by omega) hB2
  have hPl : (lifF m (mM g h m) d n).length = n := lsF_len _ _
  have hPg : (n : Int) = g.1 := by omega
  have hpl := r.pull hlk (hB2.more (by omega)) (b2.more (by omega))
  have hpp := r.push hPl (b2.more (by omega))
  rw [pull_push c hh d hlk] at hpp
  have ht := pull_total c hh d
  have ht2 := sumI_getD d
  rw [hlk] at ht2
  rw [← ht2] at ht
  have hob := r.occ
  have hsb : -12000 ≤ sumI d ∧ sumI d ≤ 12000 := by
    have := sm_abd (f := fun i => d.getD i 0) (B := 1000) (by omega) (fun i => hB2 i) k
    rw [← ht2] at this
    omega
  have hmb := mul_bd (a := sumI d) (b := occ 0 m.e) (A := 12000) (B := 24) hsb hob (by omega)
  rw [Int.mul_comm (sumI d)] at hmb
  simp -implicitDefEqProofs (disch := omega) [List.getElem?_cons_zero, List.getElem?_cons_succ, wrap_id]
  refine HC_of_PC rfl (hpl) ?_
  simp -implicitDefEqProofs (disch := omega) [List.getElem?_cons_zero, List.getElem?_cons_succ, wrap_id, hPl, hPg]
  refine HC_of_PC rfl (total_ok (lifF m (mM g h m) d n) (by omega) (b2.more (by omega))) ?_
  simp -implicitDefEqProofs (disch := omega) [List.getElem?_cons_zero, List.getElem?_cons_succ, wrap_id]
  refine HC_of_PC rfl (total_ok d (by omega) (hB2.more (by omega))) ?_
  simp -implicitDefEqProofs (disch := omega) [List.getElem?_cons_zero, List.getElem?_cons_succ, wrap_id, ht]
  refine HC_of_PC rfl (hpp) ?_
  simp -implicitDefEqProofs (disch := omega) [List.getElem?_cons_zero, List.getElem?_cons_succ, wrap_id]
  have hQl : (d.map fun x => occ 0 m.e * x).length = d.length := List.length_map ..
  refine loopW d.length (fun j s => s = ⟨[(124, .i j), (123, .i d.length), (13, .p (.is (d.map fun x => occ 0 m.e * x))), (2, .p (.is d)), (7, .i (occ 0 m.e)), (3, .ptr 0 1 0 0), (4, .ptr 1 1 0 0)], [.box (.p (EnP g h)), .box (.p (MoP m))]⟩)
    (wk_norm [0, 1] [124, 123, 13, 2, 7, 3, 4] rfl rfl) rfl ?_
  rintro j s hj rfl
  by_cases hlt : j < d.length
  · have hjq : j < (d.map fun x => occ 0 m.e * x).length := by omega
    have hge : (d.map fun x => occ 0 m.e * x)[j] = occ 0 m.e * d[j] := List.getElem_map ..
    have hbj := Bd.get hB2 hlt
    have hmb := mul_bd (a := d[j]) (b := occ 0 m.e) (A := 1000) (B := 24) hbj hob (by omega)
    rw [Int.mul_comm d[j]] at hmb
    simp -implicitDefEqProofs (disch := omega) [List.getElem?_cons_zero, List.getElem?_cons_succ, wrap_id, hlt, hjq, hge]
    exact round_end [0, 1] [124, 123, 13, 2, 7, 3, 4] hlt rfl rfl
  · simp -implicitDefEqProofs (disch := omega) [List.getElem?_cons_zero, List.getElem?_cons_succ, wrap_id, hlt]
    refine HC_of_PC rfl (awake52_ok) ?_
    simp -implicitDefEqProofs (disch := omega) [List.getElem?_cons_zero, List.getElem?_cons_succ, wrap_id]
    (refine fin0 trivial rfl ?_; simp -implicitDefEqProofs (disch := omega) [List.getElem?_cons_zero, List.getElem?_cons_succ, idx, wrap_id])
end Go.Proofs.Ytddgepjmfnodhaa
