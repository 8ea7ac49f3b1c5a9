/-
  Texts joined: Iam Zi Zj Wb Ian Iao.
-/
import Derived.Test.YtekniokkmgencaaGreatKh28

section
set_option linter.unusedSimpArgs false
set_option linter.unusedVariables false
namespace Go.Proofs.YtekniokkmgencaaGreat
open Go.Abs Go.Sand
theorem good_wp {n : Nat} {es : List Ed} {q : Int} {d : List Int} (hg : GoodG n es) (hV : ∀ v, v < n → (v : Int) ≠ q → 1 ≤ valTo es v n ∧ valTo es v n ≤ 16) (hd : d.length = n) (hb : ∀ v, v < n → (v : Int) ≠ q → 0 ≤ d.getD v 0 ∧ d.getD v 0 ≤ 1048576) : GoodNet (wpN n es q d) := by
  have h1 := hg.n1
  have h12 := hg.n12
  have hR : (wpN n es q d).rules.length = n := wpR_len
  have hpr : ∀ v, v < n → GoodPr n (procR n es q v) := fun v hv => by
    unfold procR
    by_cases c : (v : Int) = q
    · rw [if_pos c]
      exact ⟨by simp, by simp, fun r hr => by
        simp only [List.mem_singleton] at hr
        subst hr
        exact ⟨by simp, by simp, fun w hw => by simp at hw⟩⟩
    · rw [if_neg c]
      obtain ⟨k1, k2⟩ := hV v hv c
      refine ⟨by simp; omega, by simp; omega, fun r hr => ?_⟩
      obtain ⟨s, hs, rfl⟩ := List.mem_map.1 hr
      have hs := List.mem_range.1 hs
      have hl : ((sentL n es v).length : Int) = valTo es v n := sentTo_len hg v n
      refine ⟨by simp only [List.length_map, List.length_range]; exact Nat.mod_lt _ (by omega), ?_, fun w hw => ?_⟩
      · dsimp only; split
        · omega
        · simp
      · dsimp only at hw
        split at hw
        · exact (sent_mem hw).1
        · simp at hw
  refine ⟨by rw [hR]; omega, by rw [hR]; omega, fun R hm => ?_, by rw [hR]; simp [wpN], fun p h h2 => ?_, by rw [hR]; simp [wpN, waitL, hd], fun k hk => ?_⟩
  · rw [hR]
    obtain ⟨v, hv, rfl⟩ := List.mem_map.1 (show R ∈ (List.range n).map (procR n es q) from hm)
    exact hpr v (List.mem_range.1 hv)
  · rw [hR] at h
    have g1 : ((List.range n).map (procR n es q))[p]'(by simpa using h) = procR n es q p := by simp
    have g2 : (List.replicate n 0)[p]'(by simpa using h) = 0 := by simp
    have e1 : (wpN n es q d).rules[p] = procR n es q p := g1
    have e2 : (wpN n es q d).st[p] = 0 := g2
    rw [e1, e2]
    exact (hpr p h).1
  · obtain ⟨v, hv, rfl⟩ := List.mem_map.1 (show k ∈ (List.range d.length).map (waitI q d) from hk)
    have hv := List.mem_range.1 hv
    unfold waitI
    split
    · omega
    · rename_i c; exact hb v (by omega) c
theorem good_pair : GoodNet pairN := by
  refine ⟨by decide, by decide, fun R hR => ?_, rfl, fun p h h2 => ?_, rfl, fun k hk => ?_⟩
  · simp only [pairN, List.mem_cons, List.not_mem_nil, or_false] at hR
    rcases hR with rfl | rfl <;> simp [GoodPr, GoodRl, pairN]
  · have h : p < 2 := h
    match p, h with
    | 0, _ => exact Nat.one_pos
    | 1, _ => exact Nat.one_pos
  · simp only [pairN, List.mem_cons, List.not_mem_nil, or_false] at hk
    rcases hk with rfl | rfl <;> omega
def triE : List Ed := [⟨0, 1, 1⟩, ⟨0, 2, 1⟩, ⟨1, 2, 1⟩]
theorem iwheel_ok : PC Tryz.prog 18 [] (.agg [.p (.i 3), .p (.sl (triE.map edP))]) [] := by
  refine PC_of_W cfn18 ?_
  simp -implicitDefEqProofs (disch := omega) [c18, List.getElem?_cons_zero, List.getElem?_cons_succ, wrap_id]
  (refine fin0 trivial rfl ?_; simp -implicitDefEqProofs (disch := omega) [List.getElem?_cons_zero, List.getElem?_cons_succ, idx, wrap_id, triE])
theorem iequal_refl (xs : List Int) (hx : xs.length ≤ 4611686018427387904) : PC Tryz.prog 19 [.is xs, .is xs] (.b true) [] := by
  refine PC_of_W cfn19 ?_
  simp -implicitDefEqProofs (disch := omega) [c19, List.getElem?_cons_zero, List.getElem?_cons_succ, wrap_id]
  refine loopW xs.length (fun k s => s = ⟨[(13, .i k), (12, .i xs.length), (0, .p (.is xs)), (1, .p (.is xs))], []⟩) (wk_norm [] [13, 12, 0, 1] rfl rfl) rfl ?_
  rintro k s hk rfl
  by_cases hlt : k < xs.length
  · simp -implicitDefEqProofs (disch := omega) [List.getElem?_cons_zero, List.getElem?_cons_succ, wrap_id, hlt]
    exact round_end [] [13, 12, 0, 1] hlt rfl rfl
  · simp -implicitDefEqProofs (disch := omega) [List.getElem?_cons_zero, List.getElem?_cons_succ, wrap_id, hlt]
    (refine fin0 trivial rfl ?_; simp -implicitDefEqProofs (disch := omega) [List.getElem?_cons_zero, List.getElem?_cons_succ, idx, wrap_id])
theorem ex_pair : (runB pairN.rules [1] (20 : Nat) 21 (begunS pairN)).2 = 0 ∧ (runB pairN.rules [1] (20 : Nat) 21 (begunS pairN)).1.tk = 7 := by decide +kernel
theorem ex_tri : (runB (wpN 3 triE 0 [0, 2, 1]).rules [3, 2] (200 : Nat) 201 (begunS (wpN 3 triE 0 [0, 2, 1]))).2 = 0 ∧ (runB (wpN 3 triE 0 [0, 2, 1]).rules [3, 2] (200 : Nat) 201 (begunS (wpN 3 triE 0 [0, 2, 1]))).1.st = [0, 1, 0] := by decide +kernel
theorem tri_val : ∀ v, v < 3 → ((v : Nat) : Int) ≠ 0 → 1 ≤ valTo triE v 3 ∧ valTo triE v 3 ≤ 12 := fun v hv => match v, hv with
  | 0, _ => fun h => absurd rfl h
  | 1, _ => fun _ => by decide +kernel
  | 2, _ => fun _ => by decide +kernel
theorem tri_st : stE (3 : Nat) triE 0 [0, 2, 1] = 0 := by decide +kernel
theorem cwires_ok : PC Tryz.prog 6 [] (.b true) [] := by
  obtain ⟨p1, p2⟩ := ex_pair
  obtain ⟨t1, t2⟩ := ex_tri
  have hr1 := run_okQ pairN [1] 20 good_pair (by decide) (by decide) (by decide) (by decide)
  have hg3 : GoodG (3 : Nat) triE := by
    obtain ⟨n, h1, h2⟩ := st_ok tri_st
    have : n = 3 := by omega
    subst this
    exact h2.g
  have hr2 := run_okQ (wpN 3 triE 0 [0, 2, 1]) [3, 2] 200 (good_wp hg3 (fun v hv h0 => by have := tri_val v hv h0; omega) rfl (fun v hv h0 => by
    match v, hv with
    | 0, _ => decide
    | 1, _ => decide
    | 2, _ => decide)) (by decide) (by decide) (by decide) (by decide)
  have e1 : runV pairN.rules (runB pairN.rules [1] (20 : Nat) 21 (begunS pairN)) = _ := if_pos p1
  have e2 : runV (wpN 3 triE 0 [0, 2, 1]).rules (runB (wpN 3 triE 0 [0, 2, 1]).rules [3, 2] (200 : Nat) 201 (begunS (wpN 3 triE 0 [0, 2, 1]))) = _ := if_pos t1
  rw [p1, e1] at hr1
  rw [t1, e2] at hr2
  obtain ⟨w1, hw1⟩ : ∃ w, w = (runB pairN.rules [1] (20 : Nat) 21 (begunS pairN)).1 := ⟨_, rfl⟩
  obtain ⟨w2, hw2⟩ : ∃ w, w = (runB (wpN 3 triE 0 [0, 2, 1]).rules [3, 2] (200 : Nat) 201 (begunS (wpN 3 triE 0 [0, 2, 1]))).1 := ⟨_, rfl⟩
  rw [← hw1] at hr1 p2
  rw [← hw2] at hr2 t2
  obtain ⟨q1, hq1⟩ : ∃ q, q = quN w1 (pairN.rules.length * pairN.rules.length) := ⟨_, rfl⟩
  obtain ⟨q2, hq2⟩ : ∃ q, q = quN w2 ((wpN 3 triE 0 [0, 2, 1]).rules.length * (wpN 3 triE 0 [0, 2, 1]).rules.length) := ⟨_, rfl⟩
  rw [← hq1] at hr1
  rw [← hq2] at hr2
  unfold snV at hr1 hr2
  rw [p2] at hr1
  rw [t2] at hr2
  refine PC_of_W cfn6 ?_
  simp -implicitDefEqProofs (disch := omega) [c6, List.getElem?_cons_zero, List.getElem?_cons_succ, wrap_id]
  refine HC_of_PC rfl (pair_ok) ?_
  simp -implicitDefEqProofs (disch := omega) [List.getElem?_cons_zero, List.getElem?_cons_succ, wrap_id]
  refine HC_of_PC rfl (hr1) ?_
  simp -implicitDefEqProofs (disch := omega) [List.getElem?_cons_zero, List.getElem?_cons_succ, wrap_id]
  refine HC_of_PC rfl (iwheel_ok) ?_
  simp -implicitDefEqProofs (disch := omega) [List.getElem?_cons_zero, List.getElem?_cons_succ, wrap_id]
  refine HC_of_PC rfl (sandpile_ok 3 triE 0 [0, 2, 1] (by decide) tri_st tri_val (by decide)) ?_
  simp -implicitDefEqProofs (disch := omega) [List.getElem?_cons_zero, List.getElem?_cons_succ, wrap_id]
  refine HC_of_PC rfl (hr2) ?_
  simp -implicitDefEqProofs (disch := omega) [List.getElem?_cons_zero, List.getElem?_cons_succ, wrap_id]
  refine HC_of_PC rfl (iequal_refl [0, 1, 0] (by decide)) ?_
  simp -implicitDefEqProofs (disch := omega) [List.getElem?_cons_zero, List.getElem?_cons_succ, wrap_id]
  (refine fin0 trivial rfl ?_; simp -implicitDefEqProofs (disch := omega) [List.getElem?_cons_zero, List.getElem?_cons_succ, idx, wrap_id])
end Go.Proofs.YtekniokkmgencaaGreat
end
section
set_option linter.unusedSimpArgs false
set_option linter.unusedVariables false
namespace Go.Proofs.YtekniokkmgencaaGreat
open Go.Abs Go.Sand
section
variable (N : Int) (es : List Ed) (q : Int) (d : List Int) (hel : es.length ≤ 900) (hd : d.length ≤ 1000)
include hel hd
def fallE (N : Int) (es : List Ed) (q : Int) (d : List Int) : Int := if stE N es q d ≠ 0 then stE N es q d else settledE N.toNat es q d
def fallS (N : Int) (es : List Ed) (q : Int) (d : List Int) : List Int := if fallE N es q d = 0 then (stabF N.toNat es q d).1 else []
def fallD (N : Int) (es : List Ed) (q : Int) (d : List Int) : List Int := if fallE N es q d = 0 then movedE es (stabF N.toNat es q d).1 d else []
theorem stabilize_ok : PC Tryz.prog 8 [G N es, .i q, .is d] (.tup [.p (.is (fallD N es q d)), .p (.is (fallS N es q d)), .i (fallE N es q d)]) [] := by
  refine PC_of_W cfn8 ?_
  simp -implicitDefEqProofs (disch := omega) [c8, List.getElem?_cons_zero, List.getElem?_cons_succ, wrap_id]
  by_cases h0 : stE N es q d = 0
  · obtain ⟨n, rfl, h⟩ := st_ok h0
    have hn := h.n12
    refine HC_of_PC rfl (sgiven_ok es q d hel hd n h0 h) ?_
    simp -implicitDefEqProofs (disch := omega) [List.getElem?_cons_zero, List.getElem?_cons_succ, wrap_id, bw_ren, bw_calm]
    rw [pile_past]
    refine settled_ok h.g h.v h.c ⟨h.q0, h.qn⟩ ?_
    have e : fallE n es q d = settledE n es q d := by rw [fallE, if_neg (by simp [h0]), Int.toNat_natCast]
    have hcl : (movedE es (stabF n es q d).1 d).length = n := by rw [movedE_length, h.c.len]
    have hsl : (stabF n es q d).1.length = n := (stabF_spec h.v).1.len
    by_cases h1 : settledE n es q d = 0
    · simp -implicitDefEqProofs (disch := omega) [List.getElem?_cons_zero, List.getElem?_cons_succ, wrap_id, h1]
      (refine fin0 trivial rfl ?_; simp -implicitDefEqProofs (disch := omega) [List.getElem?_cons_zero, List.getElem?_cons_succ, idx, wrap_id, hcl, hsl, fallS, fallD, e, h1])
    · simp -implicitDefEqProofs (disch := omega) [List.getElem?_cons_zero, List.getElem?_cons_succ, wrap_id, h1]
      refine finW (Wk_nil0 6 rfl) ?_
      refine finW (Wk_nil0 7 rfl) ?_
      (refine fin0 trivial rfl ?_; simp -implicitDefEqProofs (disch := omega) [List.getElem?_cons_zero, List.getElem?_cons_succ, idx, wrap_id, fallS, fallD, e, h1])
  · have e : fallE N es q d = stE N es q d := by rw [fallE, if_pos h0]
    refine HC_of_PC rfl (sgiven_err N es q d hel hd h0) ?_
    simp -implicitDefEqProofs (disch := omega) [List.getElem?_cons_zero, List.getElem?_cons_succ, wrap_id, h0]
    refine finW (Wk_nil0 6 rfl) ?_
    refine finW (Wk_nil0 7 rfl) ?_
    (refine fin0 trivial rfl ?_; simp -implicitDefEqProofs (disch := omega) [List.getElem?_cons_zero, List.getElem?_cons_succ, idx, wrap_id, fallS, fallD, e, h0])
end
end Go.Proofs.YtekniokkmgencaaGreat
end
section
set_option linter.unusedSimpArgs false
set_option linter.unusedVariables false
namespace Go.Proofs.YtekniokkmgencaaGreat
open Go.Abs Go.Sand
theorem rconn19_ok (n : Nat) (es : List Ed) (hn : n ≤ 12) (hr : ∀ x ∈ es, Right n x) (hel : es.length ≤ 900) : PC Tryz.prog 56 [G n es] (.b (decide (partsN es n = 1))) [] := by
  have hq : (((partsN es n : Nat) : Int) = 1) = (partsN es n = 1) := by simp only [eq_iff_iff]; omega
  refine PC_of_W cfn56 ?_
  simp -implicitDefEqProofs (disch := omega) [c56, List.getElem?_cons_zero, List.getElem?_cons_succ, wrap_id]
  refine HC_of_PC rfl (rparts_ok n es hn hr hel) ?_
  simp -implicitDefEqProofs (disch := omega) [List.getElem?_cons_zero, List.getElem?_cons_succ, wrap_id]
  (refine fin0 trivial rfl ?_; simp -implicitDefEqProofs (disch := omega) [List.getElem?_cons_zero, List.getElem?_cons_succ, idx, wrap_id, hq])
theorem rrooted_ok (N : Int) (es : List Ed) (q : Int) (hel : es.length ≤ 900) : PC Tryz.prog 33 [G N es, .i q] (.i (rootE N es q)) [] := by
  refine PC_of_W cfn33 ?_
  simp -implicitDefEqProofs (disch := omega) [c33, List.getElem?_cons_zero, List.getElem?_cons_succ, wrap_id]
  refine HC_of_PC rfl (rcheck_ok N es (by omega)) ?_
  by_cases hg : gcheck N es = 0
  · have hgg := gcheck_ok hg
    have hn1 := hgg.n1
    have hn12 := hgg.n12
    obtain ⟨n, rfl⟩ : ∃ n : Nat, N = n := ⟨N.toNat, by omega⟩
    simp -implicitDefEqProofs (disch := omega) [List.getElem?_cons_zero, List.getElem?_cons_succ, wrap_id, hg]
    refine HC_of_PC rfl (rconn19_ok n es (by omega) hgg.right hel) ?_
    by_cases hp : partsN es n = 1
    · simp -implicitDefEqProofs (disch := omega) [List.getElem?_cons_zero, List.getElem?_cons_succ, wrap_id, hp]
      refine HC_of_PC rfl (rvertex_ok n q es) ?_
      cases hv : vtx n q
      · simp -implicitDefEqProofs (disch := omega) [List.getElem?_cons_zero, List.getElem?_cons_succ, wrap_id, hv]
        (refine fin0 trivial rfl ?_; simp -implicitDefEqProofs (disch := omega) [List.getElem?_cons_zero, List.getElem?_cons_succ, idx, wrap_id, rootE, hg, hp, hv])
      · simp -implicitDefEqProofs (disch := omega) [List.getElem?_cons_zero, List.getElem?_cons_succ, wrap_id, hv]
        (refine fin0 trivial rfl ?_; simp -implicitDefEqProofs (disch := omega) [List.getElem?_cons_zero, List.getElem?_cons_succ, idx, wrap_id, rootE, hg, hp, hv])
    · simp -implicitDefEqProofs (disch := omega) [List.getElem?_cons_zero, List.getElem?_cons_succ, wrap_id, hp]
      (refine fin0 trivial rfl ?_; simp -implicitDefEqProofs (disch := omega) [List.getElem?_cons_zero, List.getElem?_cons_succ, idx, wrap_id, rootE, hg, hp])
  · simp -implicitDefEqProofs (disch := omega) [List.getElem?_cons_zero, List.getElem?_cons_succ, wrap_id, hg]
    (refine fin0 trivial rfl ?_; simp -implicitDefEqProofs (disch := omega) [List.getElem?_cons_zero, List.getElem?_cons_succ, idx, wrap_id, rootE, hg])
theorem dcheck_len {N : Int} {d : List Int} (h : dcheck d N = 0) (hN : 0 ≤ N) : (d.length : Int) = N := by
  unfold dcheck at h
  split at h
  · cases h
  · split at h
    · cases h
    · rename_i h2; omega
section
variable (N : Int) (es : List Ed) (q : Int) (d : List Int) (hel : es.length ≤ 900) (hd : d.length ≤ 1000)
include hel hd
theorem r19check_ok : PC Tryz.prog 12 [G N es, .i q, .is d] (.i (stE N es q d)) [] := by
  refine PC_of_W cfn12 ?_
  simp -implicitDefEqProofs (disch := omega) [c12, List.getElem?_cons_zero, List.getElem?_cons_succ, wrap_id]
  refine HC_of_PC rfl (rrooted_ok N es q hel) ?_
  by_cases h1 : rootE N es q = 0
  · simp -implicitDefEqProofs (disch := omega) [List.getElem?_cons_zero, List.getElem?_cons_succ, wrap_id, h1]
    refine HC_of_PC rfl (dcheck_ok d N (by omega)) ?_
    by_cases h2 : dcheck d N = 0
    · obtain ⟨n, rfl, -, -, -, -, -, -, hn⟩ := root_ok h1
      have hdl := dcheck_len h2 (by omega)
      have hdn : d.length = n := by omega
      simp -implicitDefEqProofs (disch := omega) [List.getElem?_cons_zero, List.getElem?_cons_succ, wrap_id, h2]
      refine loopW n (fun k s => s = ⟨[(9, .i k), (3, .ptr 0 1 0 0), (2, .p (.is d)), (1, .i q)], [.box (.p (G n es))]⟩ ∧ NN q d k) (wk_norm [0] [9, 3, 2, 1] rfl rfl) ⟨rfl, fun u hu => by omega⟩ ?_
      rintro k s hk ⟨rfl, hI⟩
      by_cases hlt : k < n
      · have hkd : k < d.length := by omega
        have hg := getD_get hkd
        by_cases h3 : (k : Int) = q
        · have hI' := hI.succ (fun h => h.1 h3)
          have h3' : ((k : Int) = q) = True := eq_true h3
          simp -implicitDefEqProofs (disch := omega) [List.getElem?_cons_zero, List.getElem?_cons_succ, wrap_id, hlt, h3']
          exact round_end [0] [9, 3, 2, 1] hlt rfl ⟨rfl, hI'⟩
        · by_cases h4 : d[k] < 0
          · have hr := negB_take (q := q) hkd ⟨h3, by rw [hg]; exact h4⟩
            simp -implicitDefEqProofs (disch := omega) [List.getElem?_cons_zero, List.getElem?_cons_succ, wrap_id, hlt, h3, h4, hkd]
            (refine fin0 trivial rfl ?_; simp -implicitDefEqProofs (disch := omega) [List.getElem?_cons_zero, List.getElem?_cons_succ, idx, wrap_id, stE, h1, h2, hr])
          · have hI' := hI.succ (fun h => h4 (by rw [← hg]; exact h.2))
            simp -implicitDefEqProofs (disch := omega) [List.getElem?_cons_zero, List.getElem?_cons_succ, wrap_id, hlt, h3, h4, hkd]
            exact round_end [0] [9, 3, 2, 1] hlt rfl ⟨rfl, hI'⟩
      · have hkn : k = n := by omega
        subst hkn
        have hr := negB_none (q := q) (d := d) (by rw [hdn]; exact hI)
        simp -implicitDefEqProofs (disch := omega) [List.getElem?_cons_zero, List.getElem?_cons_succ, wrap_id, hlt]
        (refine fin0 trivial rfl ?_; simp -implicitDefEqProofs (disch := omega) [List.getElem?_cons_zero, List.getElem?_cons_succ, idx, wrap_id, stE, h1, h2, hr])
    · simp -implicitDefEqProofs (disch := omega) [List.getElem?_cons_zero, List.getElem?_cons_succ, wrap_id, h2]
      (refine fin0 trivial rfl ?_; simp -implicitDefEqProofs (disch := omega) [List.getElem?_cons_zero, List.getElem?_cons_succ, idx, wrap_id, stE, h1, h2])
  · simp -implicitDefEqProofs (disch := omega) [List.getElem?_cons_zero, List.getElem?_cons_succ, wrap_id, h1]
    (refine fin0 trivial rfl ?_; simp -implicitDefEqProofs (disch := omega) [List.getElem?_cons_zero, List.getElem?_cons_succ, idx, wrap_id, stE, h1])
end
section
variable (n : Nat) (es : List Ed) (q : Int) (d : List Int) (hel : es.length ≤ 900) (hg : GoodG n es) (hd : d.length = n)
include hel hg
include hd
end
end Go.Proofs.YtekniokkmgencaaGreat
end
section
set_option linter.unusedSimpArgs false
set_option linter.unusedVariables false
namespace Go.Proofs.YtekniokkmgencaaGreat
open Go.Abs Go.Sand
def llE (es : List Ed) : List Ed := es.filter fun x => decide (x.a ≠ x.b)
theorem endsL_cons (x : Ed) (es : List Ed) : endsL (x :: es) = List.replicate x.m.toNat (x.a, x.b) ++ endsL es := by simp [endsL]
theorem val_twice {n : Nat} : ∀ {es : List Ed}, (∀ x ∈ es, Right n x) → sumN (fun v : Nat => valS es v) n = 2 * ((endsL (llE es)).length : Int)
  | [], _ => by
    have : sumN (fun v : Nat => valS [] v) n = 0 := by
      rw [show (fun v : Nat => valS [] v) = fun _ => (0 : Int) from funext fun v => by simp [valS, sumI]]
      exact sumN_zero n
    rw [this]; simp [llE, endsL]
  | x :: es, hr => by
    have ih := val_twice (es := es) fun y hy => hr y (by simp [hy])
    have r := hr x (by simp)
    have e1 : (fun v : Nat => valS (x :: es) v) = fun v : Nat => val1 v x + valS es v := funext fun v => by simp [valS, sumI]
    rw [e1, sumN_add, ih]
    obtain ⟨a, ha⟩ : ∃ a : Nat, x.a = a := ⟨x.a.toNat, by have := r.a0; omega⟩
    obtain ⟨b, hb⟩ : ∃ b : Nat, x.b = b := ⟨x.b.toNat, by have := r.b0; omega⟩
    have han : a < n := by have := r.an; omega
    have hbn : b < n := by have := r.bn; omega
    have hm := r.m1
    by_cases hab : x.a = x.b
    · have e2 : sumN (fun v : Nat => val1 v x) n = 0 := by
        rw [show (fun v : Nat => val1 v x) = fun _ => (0 : Int) from funext fun v => by simp [val1, hab]]
        exact sumN_zero n
      have e3 : llE (x :: es) = llE es := by simp [llE, hab]
      rw [e2, e3]; omega
    · have e2 : sumN (fun v : Nat => val1 v x) n = 2 * x.m := by
        have : (fun v : Nat => val1 v x) = fun v : Nat => (if v = a then x.m else 0) + if v = b then x.m else 0 := funext fun v => by
          unfold val1
          by_cases h1 : v = a
          · have h2 : ¬ v = b := by omega
            rw [if_pos h1, if_neg h2, if_pos ⟨hab, by omega⟩]; omega
          · by_cases h2 : v = b
            · rw [if_neg h1, if_pos h2, if_pos ⟨hab, by omega⟩]; omega
            · rw [if_neg h1, if_neg h2, if_neg (by omega)]; rfl
        rw [this, sumN_add, sumN_one, sumN_one, if_pos han, if_pos hbn]; omega
      have e3 : llE (x :: es) = x :: llE es := by simp [llE, hab]
      rw [e2, e3, endsL_cons, List.length_append, List.length_replicate]
      push_cast
      omega
theorem val_twice' {n : Nat} {es : List Ed} (hg : GoodG n es) : sumN (fun v : Nat => valTo es v n) n = 2 * ((endsL (llE es)).length : Int) := by
  rw [← val_twice hg.right]
  exact sumN_congr fun v hv => valTo_all hg.right hg.asc v ⟨by omega, by omega⟩
end Go.Proofs.YtekniokkmgencaaGreat
end
section
set_option linter.unusedSimpArgs false
set_option linter.unusedVariables false
namespace Go.Proofs.YtekniokkmgencaaGreat
open Go.Abs Go.Sand
theorem val_le {n : Nat} {es : List Ed} (hg : GoodG n es) {v : Nat} (hv : v < n) : valTo es v n ≤ (endsL es).length := by
  have h1 := val_twice' hg
  have h2 : sumN (fun u => (if u = v then valTo es v n else 0) + joinE es v u) n ≤ sumN (fun u : Nat => valTo es u n) n := by
    refine sumN_le fun u hu => ?_
    by_cases c : u = v
    · rw [if_pos c, c, joinE_self]; omega
    · rw [if_neg c, valTo_sum, joinE_sym v u]
      have h3 : sumN (fun w => if w = v then joinE es u v else 0) n ≤ sumN (fun w => joinE es u w) n := sumN_le fun w hw => by
        split
        · rename_i e; rw [e]; exact Int.le_refl _
        · exact (joinE_bd hg u w).1
      rw [sumN_one, if_pos hv] at h3
      omega
  rw [sumN_add, sumN_one, if_pos hv, ← valTo_sum] at h2
  have h3 : (endsL (llE es)).length ≤ (endsL es).length := by
    clear h1 h2 hg
    induction es with
    | nil => exact Nat.le_refl _
    | cons x es ih =>
      rw [endsL_cons, List.length_append]
      by_cases c : x.a ≠ x.b
      · have e : llE (x :: es) = x :: llE es := by simp [llE, c]
        rw [e, endsL_cons, List.length_append]; omega
      · have e : llE (x :: es) = llE es := by simp [llE, c]
        rw [e]; omega
  omega
section
variable {n : Nat} {es : List Ed} {q : Int} {d : List Int}
theorem runB_ok (c : FewC n es q d) (fs : List Int) (lim : Int) : ∀ (f : Nat) (w : WS), (∃ s, JI n es q d s w) →
    ((runB (wpR n es q) fs lim f w).2 = 0 ∧ (∃ s, JI n es q d s (runB (wpR n es q) fs lim f w).1) ∧ busyR (wpR n es q) (runB (wpR n es q) fs lim f w).1 = false) ∨ (runB (wpR n es q) fs lim f w).2 = 12
  | 0, w, h => .inr rfl
  | f + 1, w, ⟨s, h⟩ => by
    unfold runB
    by_cases c1 : busyR (wpR n es q) w = true
    · rw [if_pos c1]
      by_cases c2 : w.tk = lim
      · rw [if_pos c2]; exact .inr rfl
      · rw [if_neg c2]
        obtain ⟨s', h'⟩ := h.tick c fs
        rw [if_neg (by rw [h'.lg]; simp)]
        exact runB_ok c fs lim f _ ⟨s', h'⟩
    · rw [if_neg c1]
      exact .inl ⟨rfl, ⟨s, h⟩, by simpa using c1⟩
theorem few_of {n : Nat} {es : List Ed} {q : Int} {d : List Int} (h : StOk n es q d) (hb : ∀ i, -60 ≤ d.getD i 0 ∧ d.getD i 0 ≤ 60) : FewC n es q d := ⟨h.g, h.c.len, h.q0, h.qn, hb, h.c.pos⟩
theorem fall_cases (h : StOk n es q d) (hs : stE n es q d = 0) (c : FewC n es q d) : fallE n es q d = 12 ∨ (fallE n es q d = 0 ∧ Stab n es q d (stabF n es q d).1 ∧ Leg n es q d (stabF n es q d).1) := by
  have e1 : fallE n es q d = settledE n es q d := by rw [fallE, if_neg (by simp [hs]), Int.toNat_natCast]
  obtain ⟨hl, ⟨h0, hn, -⟩ | ⟨h0, -⟩⟩ := stabF_spec h.v
  · right
    have hm : (movedE es (stabF n es q d).1 d).getD q.toNat 0 ≤ 780 := c.moved hl (by have := h.q0; have := h.qn; omega)
    refine ⟨?_, hl.stab fun v hv hq => nxtF_none hn v hv hq, hl⟩
    rw [e1, settledE, if_neg (by simp [h0]), if_neg (by omega)]
  · left
    rw [e1, settledE, if_pos (by rw [h0]; decide), h0]
theorem quiet_end (h : StOk n es q d) (c : FewC n es q d) {w : WS} {s : List Int} (hJ : JI n es q d s w) (hb : busyR (wpR n es q) w = false) (hst : Stab n es q d (stabF n es q d).1) (hl : Leg n es q d (stabF n es q d).1) :
    w.st.length = n ∧ w.fl.length = 0 ∧ quN w (n * n) = 0 ∧ (∀ v, v < n → w.wt.getD v 0 = 0) ∧ w.wt.length = n ∧ ∀ v, v < n → (v : Int) ≠ q → ((w.st.getD v 0 : Nat) : Int) = (movedE es (stabF n es q d).1 d).getD v 0 := by
  unfold busyR at hb
  rw [wpR_len] at hb
  simp only [Bool.or_eq_false_iff, decide_eq_false_iff_not, Nat.not_lt] at hb
  obtain ⟨b1, b2, b3⟩ := hb
  have hq : ∀ k, k < n * n → (lnAt w k).q = 0 := fun k hk => by
    have := List.any_eq_false.1 b2 k (List.mem_range.2 hk)
    simpa using this
  have hw : ∀ v, v < n → w.wt.getD v 0 = 0 := fun v hv => by
    have := List.any_eq_false.1 b3 v (List.mem_range.2 hv)
    simpa using this
  obtain ⟨g1, g2⟩ := hJ.quiet c hq hw
  have hss := leg_same h.g h.c.len hJ.leg hl g1 hst
  have hqu : ∀ k, k ≤ n * n → quN w k = 0 := by
    intro k
    induction k with
    | zero => intro _; rfl
    | succ k ih => intro hk; rw [quN, ih (by omega), hq k hk]
  exact ⟨hJ.sl, by omega, hqu _ (Nat.le_refl _), hw, hJ.wl, fun v hv hvq => by rw [g2 v hv hvq, hss]⟩
end
end Go.Proofs.YtekniokkmgencaaGreat
end
section
set_option linter.unusedSimpArgs false
set_option linter.unusedVariables false
namespace Go.Proofs.YtekniokkmgencaaGreat
open Go.Abs Go.Sand
theorem in60_get' {s : List Int} (h : s.all in60 = true) (i : Nat) : -60 ≤ s.getD i 0 ∧ s.getD i 0 ≤ 60 := by
  by_cases hi : i < s.length
  · have := List.all_eq_true.1 h _ (List.getElem_mem hi)
    have e : s.getD i 0 = s[i] := by rw [List.getD_eq_getElem?_getD, List.getElem?_eq_getElem hi]; rfl
    rw [e]
    simpa [in60] using this
  · simp [List.getD_eq_getElem?_getD, List.getElem?_eq_none (Nat.le_of_not_lt hi)]
def fpB (l : List Int) : Bool := decide (l.length ≤ 60) || (decide (4096 < l.length) && decide (l.length ≤ 8192))
theorem fewp_ok (l : List Int) : PC Tryz.prog 14 [.is l] (.b (fpB l)) [] := by
  refine PC_of_W cfn14 ?_
  by_cases h1 : l.length ≤ 60
  · have h1' : (l.length : Int) ≤ 60 := by omega
    simp -implicitDefEqProofs (disch := omega) [c14, List.getElem?_cons_zero, List.getElem?_cons_succ, wrap_id, h1, h1']
    (refine fin0 trivial rfl ?_; simp -implicitDefEqProofs (disch := omega) [List.getElem?_cons_zero, List.getElem?_cons_succ, idx, wrap_id, fpB, h1])
  have h1' : ¬ (l.length : Int) ≤ 60 := by omega
  by_cases h2 : 4096 < l.length
  · have h2' : (4096 : Int) < l.length := by omega
    by_cases h3 : l.length ≤ 8192
    · have h3' : (l.length : Int) ≤ 8192 := by omega
      simp -implicitDefEqProofs (disch := omega) [c14, List.getElem?_cons_zero, List.getElem?_cons_succ, wrap_id, h1, h1', h2, h2', h3, h3']
      (refine fin0 trivial rfl ?_; simp -implicitDefEqProofs (disch := omega) [List.getElem?_cons_zero, List.getElem?_cons_succ, idx, wrap_id, fpB, h1, h2, h3])
    · have h3' : ¬ (l.length : Int) ≤ 8192 := by omega
      simp -implicitDefEqProofs (disch := omega) [c14, List.getElem?_cons_zero, List.getElem?_cons_succ, wrap_id, h1, h1', h2, h2', h3, h3']
      (refine fin0 trivial rfl ?_; simp -implicitDefEqProofs (disch := omega) [List.getElem?_cons_zero, List.getElem?_cons_succ, idx, wrap_id, fpB, h1, h2, h3])
  · have h2' : ¬ (4096 : Int) < l.length := by omega
    simp -implicitDefEqProofs (disch := omega) [c14, List.getElem?_cons_zero, List.getElem?_cons_succ, wrap_id, h1, h1', h2, h2']
    (refine fin0 trivial rfl ?_; simp -implicitDefEqProofs (disch := omega) [List.getElem?_cons_zero, List.getElem?_cons_succ, idx, wrap_id, fpB, h1, h2])
def ngB (x : Int) : Bool := decide (x < 0)
def pickE (l : List Int) : Int := if 4096 < l.length then 5 else if l.length = 0 then 14 else if l.any ngB then 2 else 0
theorem picks_ok (l : List Int) (hl : l.length ≤ 1000000) : PC Tryz.prog 15 [.is l] (.i (pickE l)) [] := by
  refine PC_of_W cfn15 ?_
  by_cases h1 : 4096 < l.length
  · have h1' : (4096 : Int) < l.length := by omega
    simp -implicitDefEqProofs (disch := omega) [c15, List.getElem?_cons_zero, List.getElem?_cons_succ, wrap_id, h1, h1']
    (refine fin0 trivial rfl ?_; simp -implicitDefEqProofs (disch := omega) [List.getElem?_cons_zero, List.getElem?_cons_succ, idx, wrap_id, pickE, h1])
  have h1' : ¬ (4096 : Int) < l.length := by omega
  by_cases h2 : l.length = 0
  · obtain rfl : l = [] := List.length_eq_zero_iff.1 h2
    simp -implicitDefEqProofs (disch := omega) [c15, List.getElem?_cons_zero, List.getElem?_cons_succ, wrap_id]
    (refine fin0 trivial rfl ?_; simp -implicitDefEqProofs (disch := omega) [List.getElem?_cons_zero, List.getElem?_cons_succ, idx, wrap_id, pickE])
  have h2' : ¬ (l.length : Int) = 0 := by omega
  simp -implicitDefEqProofs (disch := omega) [c15, List.getElem?_cons_zero, List.getElem?_cons_succ, wrap_id, h1, h1', h2', h2]
  refine loopW l.length (fun k s => s = ⟨[(3, .i k), (0, .p (.is l))], []⟩ ∧ l.any ngB = (l.drop k).any ngB) (wk_norm [] [3, 0] rfl rfl) ⟨rfl, rfl⟩ ?_
  rintro k s hk ⟨rfl, hI⟩
  by_cases hlt : k < l.length
  · have hd := drop_any ngB l k hlt
    by_cases c1 : l[k] < 0
    · have hb : ngB l[k] = true := by simp [ngB, c1]
      rw [hb, Bool.true_or] at hd
      simp -implicitDefEqProofs (disch := omega) [List.getElem?_cons_zero, List.getElem?_cons_succ, wrap_id, hlt, c1]
      (refine fin0 trivial rfl ?_; simp -implicitDefEqProofs (disch := omega) [List.getElem?_cons_zero, List.getElem?_cons_succ, idx, wrap_id, pickE, h1, h2, hI, hd])
    · have hb : ngB l[k] = false := by simp [ngB, c1]
      rw [hb, Bool.false_or] at hd
      simp -implicitDefEqProofs (disch := omega) [List.getElem?_cons_zero, List.getElem?_cons_succ, wrap_id, hlt, c1]
      exact round_end [] [3, 0] hlt rfl ⟨rfl, by rw [hI, hd]⟩
  · simp -implicitDefEqProofs (disch := omega) [List.getElem?_cons_zero, List.getElem?_cons_succ, wrap_id, hlt]
    (refine fin0 trivial rfl ?_; simp -implicitDefEqProofs (disch := omega) [List.getElem?_cons_zero, List.getElem?_cons_succ, idx, wrap_id, pickE, h1, h2, hI, List.drop_of_length_le (Nat.le_of_not_lt hlt)])
abbrev pileP (q : Int) (d p s : List Int) : PV := .agg [.i q, .is d, .is p, .is s]
def pileB (N : Int) (es : List Ed) (q : Int) (d p : List Int) : Bool := few18 N es d && (decide (stE N es q d = 0) && (d.all in60 && (fpB p && decide (pickE p = 0))))
theorem few_lens {N : Int} {es : List Ed} {d : List Int} (h : few18 N es d = true) : es.length ≤ 40 ∧ d.length ≤ 24 ∧ (gcheck N es = 0 → N ≤ 6 ∧ (endsL es).length ≤ 9) := by
  unfold few18 smallG at h
  simp only [Bool.and_eq_true, Bool.or_eq_true, decide_eq_true_eq] at h
  obtain ⟨⟨h1, h2⟩, h3⟩ := h
  refine ⟨h1, h3, fun hg => ?_⟩
  rcases h2 with h2 | ⟨h2, h4⟩
  · exact absurd hg h2
  · exact ⟨h2, by omega⟩
theorem pile_ok (N : Int) (es : List Ed) (q : Int) (d p s : List Int) : PC Tryz.prog 4 [G N es, pileP q d p s] (.b (pileB N es q d p)) [] := by
  refine PC_of_W cfn4 ?_
  simp -implicitDefEqProofs (disch := omega) [c4, List.getElem?_cons_zero, List.getElem?_cons_succ, wrap_id]
  refine HC_of_PC rfl (rfew_ok N es d) ?_
  cases h0 : few18 N es d
  · simp -implicitDefEqProofs (disch := omega) [List.getElem?_cons_zero, List.getElem?_cons_succ, wrap_id]
    (refine fin0 trivial rfl ?_; simp -implicitDefEqProofs (disch := omega) [List.getElem?_cons_zero, List.getElem?_cons_succ, idx, wrap_id, pileB, h0])
  obtain ⟨he, hd, -⟩ := few_lens h0
  simp -implicitDefEqProofs (disch := omega) [List.getElem?_cons_zero, List.getElem?_cons_succ, wrap_id]
  refine HC_of_PC rfl (r19check_ok N es q d (by omega) (by omega)) ?_
  by_cases h1 : stE N es q d = 0
  rotate_left
  · simp -implicitDefEqProofs (disch := omega) [List.getElem?_cons_zero, List.getElem?_cons_succ, wrap_id, h1]
    (refine fin0 trivial rfl ?_; simp -implicitDefEqProofs (disch := omega) [List.getElem?_cons_zero, List.getElem?_cons_succ, idx, wrap_id, pileB, h0, h1])
  simp -implicitDefEqProofs (disch := omega) [List.getElem?_cons_zero, List.getElem?_cons_succ, wrap_id, h1]
  refine HC_of_PC rfl (dsmall_ok d (by omega)) ?_
  cases h2 : d.all in60
  · simp -implicitDefEqProofs (disch := omega) [List.getElem?_cons_zero, List.getElem?_cons_succ, wrap_id]
    (refine fin0 trivial rfl ?_; simp -implicitDefEqProofs (disch := omega) [List.getElem?_cons_zero, List.getElem?_cons_succ, idx, wrap_id, pileB, h0, h1, h2])
  simp -implicitDefEqProofs (disch := omega) [List.getElem?_cons_zero, List.getElem?_cons_succ, wrap_id]
  refine HC_of_PC rfl (fewp_ok p) ?_
  cases h3 : fpB p
  · simp -implicitDefEqProofs (disch := omega) [List.getElem?_cons_zero, List.getElem?_cons_succ, wrap_id]
    (refine fin0 trivial rfl ?_; simp -implicitDefEqProofs (disch := omega) [List.getElem?_cons_zero, List.getElem?_cons_succ, idx, wrap_id, pileB, h0, h1, h2, h3])
  have hp : p.length ≤ 1000000 := by
    unfold fpB at h3
    simp only [Bool.and_eq_true, Bool.or_eq_true, decide_eq_true_eq] at h3
    omega
  simp -implicitDefEqProofs (disch := omega) [List.getElem?_cons_zero, List.getElem?_cons_succ, wrap_id]
  refine HC_of_PC rfl (picks_ok p hp) ?_
  simp -implicitDefEqProofs (disch := omega) [List.getElem?_cons_zero, List.getElem?_cons_succ, wrap_id]
  (refine fin0 trivial rfl ?_; simp -implicitDefEqProofs (disch := omega) [List.getElem?_cons_zero, List.getElem?_cons_succ, idx, wrap_id, pileB, h0, h1, h2, h3])
theorem topple_law (N : Int) (es : List Ed) (q : Int) (d p sc : List Int) (fs : List Int) : PC Tryz.prog 3 [G N es, pileP q d p sc, .is fs] (.b true) [] := by
  refine PC_of_W cfn3 ?_
  simp -implicitDefEqProofs (disch := omega) [c3, List.getElem?_cons_zero, List.getElem?_cons_succ, wrap_id]
  refine HC_of_PC rfl (pile_ok N es q d p sc) ?_
  cases h0 : pileB N es q d p
  · simp -implicitDefEqProofs (disch := omega) [List.getElem?_cons_zero, List.getElem?_cons_succ, wrap_id]
    refine HC_of_PC rfl (cwires_ok) ?_
    simp -implicitDefEqProofs (disch := omega) [List.getElem?_cons_zero, List.getElem?_cons_succ, wrap_id]
    (refine fin0 trivial rfl ?_; simp -implicitDefEqProofs (disch := omega) [List.getElem?_cons_zero, List.getElem?_cons_succ, idx, wrap_id])
  simp -implicitDefEqProofs (disch := omega) [List.getElem?_cons_zero, List.getElem?_cons_succ, wrap_id]
  refine HC_of_PC rfl (cfates_ok fs) ?_
  by_cases h1 : fs.length ≤ 60 ∧ fcheck fs = 0
  rotate_left
  · have h1' : (decide (fs.length ≤ 60) && decide (fcheck fs = 0)) = false := by
      cases hx : (decide (fs.length ≤ 60) && decide (fcheck fs = 0))
      · rfl
      · simp only [Bool.and_eq_true, decide_eq_true_eq] at hx; exact absurd hx h1
    rw [h1']
    simp -implicitDefEqProofs (disch := omega) [List.getElem?_cons_zero, List.getElem?_cons_succ, wrap_id]
    refine HC_of_PC rfl (cwires_ok) ?_
    simp -implicitDefEqProofs (disch := omega) [List.getElem?_cons_zero, List.getElem?_cons_succ, wrap_id]
    (refine fin0 trivial rfl ?_; simp -implicitDefEqProofs (disch := omega) [List.getElem?_cons_zero, List.getElem?_cons_succ, idx, wrap_id])
  obtain ⟨h1, h2⟩ := h1
  have h1' : (decide (fs.length ≤ 60) && decide (fcheck fs = 0)) = true := by simp [h1, h2]
  rw [h1']
  unfold pileB at h0
  simp only [Bool.and_eq_true, decide_eq_true_eq] at h0
  obtain ⟨hfew, hst, h60, -, -⟩ := h0
  obtain ⟨he, hd, hsm⟩ := few_lens hfew
  obtain ⟨n, rfl, hS⟩ := st_ok hst
  obtain ⟨hn6, hen⟩ := hsm hS.gc
  have hc := few_of hS (in60_get' h60)
  have hV : ∀ v, v < n → (v : Int) ≠ q → 1 ≤ valTo es v n ∧ valTo es v n ≤ 12 := fun v hv hq => ⟨hS.v v hv hq, by have := val_le hS.g hv; omega⟩
  simp -implicitDefEqProofs (disch := omega) [List.getElem?_cons_zero, List.getElem?_cons_succ, wrap_id]
  refine HC_of_PC rfl (sandpile_ok n es q d (by omega) hst hV (by omega)) ?_
  simp -implicitDefEqProofs (disch := omega) [List.getElem?_cons_zero, List.getElem?_cons_succ, wrap_id]
  refine HC_of_PC rfl (stabilize_ok n es q d (by omega) (by omega)) ?_
  simp -implicitDefEqProofs (disch := omega) [List.getElem?_cons_zero, List.getElem?_cons_succ, wrap_id]
  have hR : (wpN n es q d).rules.length = n := wpR_len
  have hnn : n * n ≤ 6 * 6 := Nat.mul_le_mul (by omega) (by omega)
  have hbad : fs.any badF = false := by
    unfold fcheck at h2
    rw [if_neg (by omega)] at h2
    cases hx : fs.any badF
    · rfl
    · rw [hx] at h2; simp at h2
  have hrun := run_okQ (wpN n es q d) fs 2000 (good_wp hS.g (fun v hv hq => by have := hV v hv hq; omega) hS.c.len (fun v hv hq => by have := hS.c.pos v hv hq; have := hc.bd v; omega)) (by omega) hbad (by omega) (by rw [hR]; omega)
  have hcase := runB_ok hc fs 2000 (2000 + 1) (begunS (wpN n es q d)) ⟨_, JI.begun hc hS.v⟩
  have hrr : runB (wpN n es q d).rules fs (2000 : Nat) (2000 + 1) (begunS (wpN n es q d)) = runB (wpR n es q) fs 2000 (2000 + 1) (begunS (wpN n es q d)) := rfl
  rw [hrr] at hrun
  clear hrr
  obtain ⟨r, hr⟩ : ∃ r, r = runB (wpR n es q) fs 2000 (2000 + 1) (begunS (wpN n es q d)) := ⟨_, rfl⟩
  rw [← hr] at hrun hcase
  clear hr
  obtain ⟨w, e⟩ := r
  dsimp only at hrun hcase
  rcases hcase with ⟨he0, ⟨s, hJ⟩, hb⟩ | he12
  rotate_left
  · subst he12
    have e1 : runV (wpN n es q d).rules (w, 12) = noV := rfl
    rw [e1] at hrun
    refine HC_of_PC rfl (hrun) ?_
    rcases fall_cases hS hst hc with hf | ⟨hf, -, -⟩
    · simp -implicitDefEqProofs (disch := omega) [List.getElem?_cons_zero, List.getElem?_cons_succ, wrap_id, hf, noV]
      refine HC_of_PC rfl (cwires_ok) ?_
      simp -implicitDefEqProofs (disch := omega) [List.getElem?_cons_zero, List.getElem?_cons_succ, wrap_id]
      (refine fin0 trivial rfl ?_; simp -implicitDefEqProofs (disch := omega) [List.getElem?_cons_zero, List.getElem?_cons_succ, idx, wrap_id])
    · simp -implicitDefEqProofs (disch := omega) [List.getElem?_cons_zero, List.getElem?_cons_succ, wrap_id, hf, noV]
      refine HC_of_PC rfl (cwires_ok) ?_
      simp -implicitDefEqProofs (disch := omega) [List.getElem?_cons_zero, List.getElem?_cons_succ, wrap_id]
      (refine fin0 trivial rfl ?_; simp -implicitDefEqProofs (disch := omega) [List.getElem?_cons_zero, List.getElem?_cons_succ, idx, wrap_id])
  subst he0
  have e1 : runV (wpN n es q d).rules (w, 0) = snV (wpR n es q) w (quN w (n * n)) := by
    show snV (wpR n es q) w (quN w ((wpR n es q).length * (wpR n es q).length)) = _
    rw [wpR_len]
  rw [e1, snV] at hrun
  refine HC_of_PC rfl (hrun) ?_
  rcases fall_cases hS hst hc with hf | ⟨hf, hstab, hleg⟩
  · simp -implicitDefEqProofs (disch := omega) [List.getElem?_cons_zero, List.getElem?_cons_succ, wrap_id, hf]
    refine HC_of_PC rfl (cwires_ok) ?_
    simp -implicitDefEqProofs (disch := omega) [List.getElem?_cons_zero, List.getElem?_cons_succ, wrap_id]
    (refine fin0 trivial rfl ?_; simp -implicitDefEqProofs (disch := omega) [List.getElem?_cons_zero, List.getElem?_cons_succ, idx, wrap_id])
  obtain ⟨k1, k2, k3, k4, k5, k6⟩ := quiet_end hS hc hJ hb hstab hleg
  have hD : fallD n es q d = movedE es (stabF n es q d).1 d := by rw [fallD, if_pos hf, Int.toNat_natCast]
  rw [hD]
  obtain ⟨D, hDd⟩ : ∃ D, D = movedE es (stabF n es q d).1 d := ⟨_, rfl⟩
  have hDl : D.length = n := by rw [hDd, movedE_length, hS.c.len]
  rw [← hDd] at k6 ⊢
  simp -implicitDefEqProofs (disch := omega) [List.getElem?_cons_zero, List.getElem?_cons_succ, wrap_id, hf, k1, hDl]
  have hany : w.wt.any nzB = false := by
    rw [List.any_eq_false]
    intro x hx
    obtain ⟨i, hi, rfl⟩ := List.getElem_of_mem hx
    have := k4 i (by omega)
    rw [List.getD_eq_getElem?_getD, List.getElem?_eq_getElem hi] at this
    have h0 : w.wt[i] = 0 := this
    simp [nzB, h0]
  refine HC_of_PC rfl (quiet_ok (wpR n es q) w.st w.wt w.cn w.tk w.sent w.fl.length (quN w (n * n)) (by omega)) ?_
  rw [hany, k2, k3]
  simp -implicitDefEqProofs (disch := omega) [List.getElem?_cons_zero, List.getElem?_cons_succ, wrap_id, hDl]
  refine loopW n (fun v s => s = ⟨[(97, .i v), (96, .i n), (9, .p (.is D)), (4, .ptr 1 1 0 0), (12, .ptr 3 1 0 0)], [.box (.p (G n es)), .box (.p (pileP q d p sc)), .box (.agg [.p (.sl ((wpN n es q d).rules.map procQ)), .p (stP (wpN n es q d).st), .p (.sl ((wpN n es q d).wt.map wtP))]),
    .box (.agg [.p (.sl ((wpR n es q).map procP)), .p (stP w.st), .p (.sl (w.wt.map wtP)), .p (.sl (w.cn.map wtP)), .p (.i w.tk), .p (.i w.sent), .p (.i 0), .p (.i 0)])]⟩) (Wk_keep [97, 96, 9, 4, 12]) rfl ?_
  rintro v s hv rfl
  by_cases hlt : v < n
  · have hvs : v < w.st.length := by omega
    have hvD : v < D.length := by omega
    by_cases hvq : (v : Int) = q
    · have hvq' : ((v : Int) = q) = True := eq_true hvq
      simp -implicitDefEqProofs (disch := omega) [List.getElem?_cons_zero, List.getElem?_cons_succ, wrap_id, hlt, hvs, hvD, hvq']
      exact round_keep [97, 96, 9, 4, 12] hlt rfl
    · have hk := k6 v hlt hvq
      rw [List.getD_eq_getElem?_getD, List.getElem?_eq_getElem hvs, List.getD_eq_getElem?_getD, List.getElem?_eq_getElem hvD] at hk
      have hk' : ((w.st[v] : Int) = D[v]) = True := eq_true hk
      simp -implicitDefEqProofs (disch := omega) [List.getElem?_cons_zero, List.getElem?_cons_succ, wrap_id, hlt, hvs, hvD, hvq, hk']
      exact round_keep [97, 96, 9, 4, 12] hlt rfl
  · simp -implicitDefEqProofs (disch := omega) [List.getElem?_cons_zero, List.getElem?_cons_succ, wrap_id, hlt]
    refine HC_of_PC rfl (cwires_ok) ?_
    simp -implicitDefEqProofs (disch := omega) [List.getElem?_cons_zero, List.getElem?_cons_succ, wrap_id]
    (refine fin0 trivial rfl ?_; simp -implicitDefEqProofs (disch := omega) [List.getElem?_cons_zero, List.getElem?_cons_succ, idx, wrap_id])
end Go.Proofs.YtekniokkmgencaaGreat
end
