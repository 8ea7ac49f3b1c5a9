/-
  The law of sums.
-/
import Derived.Test.YtjkmhjjfipnbbaaTy
import Derived.Test.YtjkmhjjfipnbbaaGb
import Derived.Test.YtjkmhjjfipnbbaaMla
set_option linter.unusedSimpArgs false
namespace Go.Proofs.Ytjkmhjjfipnbbaa
open Go.Abs Go.Sand

theorem cells_scr2 : Try.prog.cellsOf 62 = 2 := by kernel_rfl
theorem o_scr2 : Opens Try.prog 62 (fun p : List Int × List Int => PV.agg [.is p.1, .is p.2]) :=
  (opens_array2 o_scr Try.underlying62 (by rw [cells_scr2, cells_scr])).to id id (fun _ => rfl) (fun _ => rfl)
/-- The sum of two scripts, as far as it is done. -/
def bothL (s t : List Int) (n k : Nat) : List Int := (List.range n).map fun i => if i < k then s.getD i 0 + t.getD i 0 else 0
theorem bothL_len (s t : List Int) (n k : Nat) : (bothL s t n k).length = n := by simp [bothL]
theorem bothL_getD (s t : List Int) (n k i : Nat) (h : i < n) : (bothL s t n k).getD i 0 = if i < k then s.getD i 0 + t.getD i 0 else 0 := by
  simp [bothL, List.getD_eq_getElem?_getD, List.getElem?_map, List.getElem?_range h]
theorem bothL_zero (s t : List Int) (n : Nat) : bothL s t n 0 = List.replicate n 0 := by
  refine ext_getD (by simp [bothL_len]) fun i hi => ?_
  rw [bothL_len] at hi
  rw [bothL_getD s t n 0 i hi, zero_getD]
  simp
theorem bothL_set (s t : List Int) (n k : Nat) (h : k < n) : (bothL s t n k).set k (s.getD k 0 + t.getD k 0) = bothL s t n (k + 1) := by
  refine ext_getD (by simp [bothL_len]) fun i hi => ?_
  simp only [List.length_set, bothL_len] at hi
  rw [getD_set, bothL_len, bothL_getD s t n _ i hi, bothL_getD s t n _ i hi]
  by_cases hv : k = i
  · subst hv; simp [h]
  · by_cases h2 : i < k
    · rw [if_neg (by omega), if_pos h2, if_pos (by omega)]
    · rw [if_neg (by omega), if_neg h2, if_neg (by omega)]
theorem adds_at (N : Int) (es : List Ed) (d s t : List Int) : PC Try.prog 9 [G N es, .is d, .agg [.is s, .is t]] (.b true) [] := by
  refine PC_of_W cfn9 ?_
  simp -implicitDefEqProofs (disch := omega) [c9, List.getElem?_cons_zero, List.getElem?_cons_succ, wrap_id]
  refine HC_of_PC rfl (small18_ok N es d) ?_
  cases hsm : smallB N es d
  · simp -implicitDefEqProofs (disch := omega) [List.getElem?_cons_zero, List.getElem?_cons_succ, wrap_id]
    refine HC_of_PC rfl (awake_ok) ?_
    simp -implicitDefEqProofs (disch := omega) [List.getElem?_cons_zero, List.getElem?_cons_succ, wrap_id]
    (refine fin0 trivial rfl ?_; simp -implicitDefEqProofs (disch := omega) [List.getElem?_cons_zero, List.getElem?_cons_succ, idx, wrap_id])
  simp -implicitDefEqProofs (disch := omega) [List.getElem?_cons_zero, List.getElem?_cons_succ, wrap_id]
  refine HC_of_PC rfl (small18_ok N es s) ?_
  cases hss : smallB N es s
  · simp -implicitDefEqProofs (disch := omega) [List.getElem?_cons_zero, List.getElem?_cons_succ, wrap_id]
    refine HC_of_PC rfl (awake_ok) ?_
    simp -implicitDefEqProofs (disch := omega) [List.getElem?_cons_zero, List.getElem?_cons_succ, wrap_id]
    (refine fin0 trivial rfl ?_; simp -implicitDefEqProofs (disch := omega) [List.getElem?_cons_zero, List.getElem?_cons_succ, idx, wrap_id])
  simp -implicitDefEqProofs (disch := omega) [List.getElem?_cons_zero, List.getElem?_cons_succ, wrap_id]
  refine HC_of_PC rfl (small18_ok N es t) ?_
  cases hst : smallB N es t
  · simp -implicitDefEqProofs (disch := omega) [List.getElem?_cons_zero, List.getElem?_cons_succ, wrap_id]
    refine HC_of_PC rfl (awake_ok) ?_
    simp -implicitDefEqProofs (disch := omega) [List.getElem?_cons_zero, List.getElem?_cons_succ, wrap_id]
    (refine fin0 trivial rfl ?_; simp -implicitDefEqProofs (disch := omega) [List.getElem?_cons_zero, List.getElem?_cons_succ, idx, wrap_id])
  obtain ⟨hf, h0, h60⟩ := smallB_ok hsm
  obtain ⟨-, s0, s60⟩ := smallB_ok hss
  obtain ⟨-, t0, t60⟩ := smallB_ok hst
  have hl := few_len hf
  have he : es.length ≤ 1000 := by omega
  have hgc := given_gcheck h0
  have hw := few_ends hf hgc
  obtain ⟨n, rfl, hg, hn0, hb, hn1, hn⟩ := given_ok h0
  have hn' : n ≤ 1048576 := by omega
  have hsl : s.length = n := by obtain ⟨n', h1, -, h2, -⟩ := given_ok s0; omega
  have htl : t.length = n := by obtain ⟨n', h1, -, h2, -⟩ := given_ok t0; omega
  simp -implicitDefEqProofs (disch := omega) [List.getElem?_cons_zero, List.getElem?_cons_succ, wrap_id, hn']
  refine loopW n (fun k st => st = ⟨[(47, .i k), (46, .i n), (9, .os 1 0 n), (8, .p (.is t)), (7, .p (.is s)), (3, .ptr 0 1 0 0), (1, .p (.is d))], [.box (.p (G n es)), .row ((bothL s t n k).map .i) 1 3 false]⟩) (wk_norm [0, 2] [47, 46, 9, 8, 7, 3, 1] rfl rfl) (by rw [bothL_zero, List.map_replicate]; rfl) ?_
  rintro k st hk rfl
  have hbl := bothL_len s t n k
  by_cases hlt : k < n
  · have hks : k < s.length := by omega
    have hkt : k < t.length := by omega
    have q1 := small_get s60 k
    have q2 := small_get t60 k
    have hset := bothL_set s t n k hlt
    rw [getD_get hks, getD_get hkt] at hset
    rw [getD_get hks] at q1
    rw [getD_get hkt] at q2
    simp -implicitDefEqProofs (disch := omega) [List.getElem?_cons_zero, List.getElem?_cons_succ, wrap_id, hlt, hks, hkt, hbl]
    exact round_end [0, 1] [47, 46, 9, 8, 7, 3, 1] hlt rfl (by rw [← hset]; simp only [List.map_set]; rfl)
  have : k = n := by omega
  subst this
  simp -implicitDefEqProofs (disch := omega) [List.getElem?_cons_zero, List.getElem?_cons_succ, wrap_id, hlt]
  have hd1 : ∀ i, -100000 ≤ d.getD i 0 ∧ d.getD i 0 ≤ 100000 := fun i => by have := small_get h60 i; omega
  have hmv : ∀ x : List Int, x.all in60 = true → (movedE es x d).all inB = true ∧ ∀ i, -100000 ≤ (movedE es x d).getD i 0 ∧ (movedE es x d).getD i 0 ≤ 100000 := fun x hx => by
    have hsp : ∀ i j, i < k → j < k → x.getD i 0 - x.getD j 0 ≤ 120 := fun i j _ _ => by have := small_get hx i; have := small_get hx j; omega
    refine ⟨moved_small hg.right hw hn0 hsp hd1, fun i => ?_⟩
    have e1 := moved_dif hg.right x d hn0 i
    have e2 := dif_bd hg.right (B := 120) (by omega) hsp i
    have e3 := small_get h60 i
    omega
  have hmv2 : ∀ x y : List Int, x.all in60 = true → y.all in60 = true → (movedE es y (movedE es x d)).all inB = true := fun x y hx hy =>
    moved_small hg.right hw (by rw [movedE_length, hn0]) (fun i j _ _ => by have := small_get hy i; have := small_get hy j; omega) (hmv x hx).2
  have hu : ∀ i, i < k → (bothL s t k k).getD i 0 = s.getD i 0 + t.getD i 0 := fun i hi => by rw [bothL_getD s t k k i hi, if_pos hi]
  have e1 : movedE es t (movedE es s d) = movedE es (bothL s t k k) d := moved_two hg.right 0 hn0 (fun i hi => by rw [hu i hi]; omega)
  have e2 : movedE es s (movedE es t d) = movedE es (bothL s t k k) d := moved_two hg.right 0 hn0 (fun i hi => by rw [hu i hi]; omega)
  have hub : (bothL s t k k).all inB = true := all_inB fun i hi => by
    rw [hu i (by omega)]
    have := small_get s60 i
    have := small_get t60 i
    omega
  have u0 : givenE k es (bothL s t k k) = 0 := given_mk h0 (by omega) hub
  have l1 : ∀ x, (movedE es x d).length = k := fun x => by rw [movedE_length, hn0]
  have g2 : ∀ a b, givenE k es a = 0 → givenE k es b = 0 → giv2E k es a b = 0 := fun a b h1 h2 => by rw [giv2E, if_neg (by simp [h1]), h2]
  have gm : ∀ x, x.all in60 = true → givenE k es (movedE es x d) = 0 := fun x hx => given_mk h0 (movedE_length _ _ _) (hmv x hx).1
  have ap : ∀ a x, a.length ≤ 1000 → x.length ≤ 1000 → givenE k es a = 0 → givenE k es x = 0 → (movedE es x a).all inB = true → PC Try.prog 37 [G k es, .is a, .is x] (.tup [.p (.is (movedE es x a)), .i 0]) [] := fun a x ha hx h1 h2 h3 => by
    have := res_in h3
    exact PC_is (apply_ok k es a x he (by omega) (by omega)) (by rw [resT2, g2 a x h1 h2, this.1, this.2])
  have b1 := hmv2 s t s60 t60
  have b2 := hmv2 t s t60 s60
  have a1 := ap d s (by omega) (by omega) h0 s0 (hmv s s60).1
  have a2 := ap (movedE es s d) t (by rw [l1]; omega) (by omega) (gm s s60) t0 b1
  have a3 := ap d t (by omega) (by omega) h0 t0 (hmv t t60).1
  have a4 := ap (movedE es t d) s (by rw [l1]; omega) (by omega) (gm t t60) s0 b2
  have a5 := ap d (bothL s t k k) (by omega) (by omega) h0 u0 (by rw [← e1]; exact b1)
  rw [e1] at a2
  rw [e2] at a4
  have hsum := movedE_sum s hg.right d hn0
  have hl1 := l1 s
  have hBs : Bd 4611686018427 (movedE es s d) := fun i => by have := (hmv s s60).2 i; omega
  have hBd : Bd 4611686018427 d := fun i => by have := hd1 i; omega
  refine HC_of_PC rfl (a1) ?_
  simp -implicitDefEqProofs (disch := omega) [List.getElem?_cons_zero, List.getElem?_cons_succ, wrap_id]
  refine HC_of_PC rfl (a2) ?_
  simp -implicitDefEqProofs (disch := omega) [List.getElem?_cons_zero, List.getElem?_cons_succ, wrap_id]
  refine HC_of_PC rfl (a3) ?_
  simp -implicitDefEqProofs (disch := omega) [List.getElem?_cons_zero, List.getElem?_cons_succ, wrap_id]
  refine HC_of_PC rfl (a4) ?_
  simp -implicitDefEqProofs (disch := omega) [List.getElem?_cons_zero, List.getElem?_cons_succ, wrap_id]
  refine HC_of_PC (by simp [views, view, viewC, hbl]) (a5) ?_
  simp -implicitDefEqProofs (disch := omega) [List.getElem?_cons_zero, List.getElem?_cons_succ, wrap_id]
  refine HC_of_PC rfl (total_ok (movedE es s d) (by omega) hBs) ?_
  simp -implicitDefEqProofs (disch := omega) [List.getElem?_cons_zero, List.getElem?_cons_succ, wrap_id]
  refine HC_of_PC rfl (total_ok d (by omega) hBd) ?_
  simp -implicitDefEqProofs (disch := omega) [List.getElem?_cons_zero, List.getElem?_cons_succ, wrap_id, hsum]
  refine HC_of_PC rfl (aws (movedE es (bothL s t k k) d) (by rw [l1]; omega)) ?_
  simp -implicitDefEqProofs (disch := omega) [List.getElem?_cons_zero, List.getElem?_cons_succ, wrap_id]
  refine HC_of_PC rfl (aws (movedE es (bothL s t k k) d) (by rw [l1]; omega)) ?_
  simp -implicitDefEqProofs (disch := omega) [List.getElem?_cons_zero, List.getElem?_cons_succ, wrap_id]
  refine HC_of_PC rfl (awake_ok) ?_
  simp -implicitDefEqProofs (disch := omega) [List.getElem?_cons_zero, List.getElem?_cons_succ, wrap_id]
  (refine fin0 trivial rfl ?_; simp -implicitDefEqProofs (disch := omega) [List.getElem?_cons_zero, List.getElem?_cons_succ, idx, wrap_id])
end Go.Proofs.Ytjkmhjjfipnbbaa
