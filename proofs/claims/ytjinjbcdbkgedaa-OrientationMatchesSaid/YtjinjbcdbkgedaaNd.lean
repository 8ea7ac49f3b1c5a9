/-
  Contracts: orientations, in the reference: indegrees, divisors, sources.
-/
import Derived.Test.YtjinjbcdbkgedaaNc
set_option linter.unusedSimpArgs false
set_option linter.unusedVariables false
namespace Go.Sand
theorem arw_not (p : Int × Int) (d : Bool) : (arw p !d).2 = (arw p d).1 := by cases d <;> rfl
end Go.Sand
namespace Go.Proofs.Ytjinjbcdbkgedaa
open Go.Abs Go.Sand

theorem rocheck_ok (N : Int) (es : List Ed) (o : List Bool) (hel : es.length ≤ 1000) (hol : o.length ≤ 4611686018427387904) : PC Try.prog 33 [G N es, .bo o] (.i (oE N es o)) [] := by
  refine PC_of_W cfn33 ?_
  simp -implicitDefEqProofs (disch := omega) [c33, List.getElem?_cons_zero, List.getElem?_cons_succ, wrap_id]
  refine HC_of_PC rfl (rcheck_ok N es (by omega)) ?_
  by_cases h : gcheck N es = 0
  · have hgood := gcheck_ok h
    simp -implicitDefEqProofs (disch := omega) [List.getElem?_cons_zero, List.getElem?_cons_succ, wrap_id, h]
    refine HC_of_PC rfl (size_ok N es hgood.right hel) ?_
    by_cases h2 : o.length = (endsL es).length
    · have h2' : (o.length : Int) = (endsL es).length := by omega
      simp -implicitDefEqProofs (disch := omega) [List.getElem?_cons_zero, List.getElem?_cons_succ, wrap_id, h2']
      (refine fin0 trivial rfl ?_; simp -implicitDefEqProofs (disch := omega) [List.getElem?_cons_zero, List.getElem?_cons_succ, idx, wrap_id, oE, h, h2])
    · have h2' : ¬ (o.length : Int) = (endsL es).length := by omega
      simp -implicitDefEqProofs (disch := omega) [List.getElem?_cons_zero, List.getElem?_cons_succ, wrap_id, h2']
      (refine fin0 trivial rfl ?_; simp -implicitDefEqProofs (disch := omega) [List.getElem?_cons_zero, List.getElem?_cons_succ, idx, wrap_id, oE, h, h2])
  · simp -implicitDefEqProofs (disch := omega) [List.getElem?_cons_zero, List.getElem?_cons_succ, wrap_id, h]
    (refine fin0 trivial rfl ?_; simp -implicitDefEqProofs (disch := omega) [List.getElem?_cons_zero, List.getElem?_cons_succ, idx, wrap_id, oE, h])
theorem head_ok (p : Int × Int) (d : Bool) : PC Try.prog 97 [pP p, .b d] (.i (arw p d).2) [] := by
  refine PC_of_W cfn97 ?_
  cases d
  · simp -implicitDefEqProofs (disch := omega) [c97, List.getElem?_cons_zero, List.getElem?_cons_succ, wrap_id]
    (refine fin0 trivial rfl ?_; simp -implicitDefEqProofs (disch := omega) [List.getElem?_cons_zero, List.getElem?_cons_succ, idx, wrap_id, arw])
  · simp -implicitDefEqProofs (disch := omega) [c97, List.getElem?_cons_zero, List.getElem?_cons_succ, wrap_id]
    (refine fin0 trivial rfl ?_; simp -implicitDefEqProofs (disch := omega) [List.getElem?_cons_zero, List.getElem?_cons_succ, idx, wrap_id, arw])
theorem tail_ok (p : Int × Int) (d : Bool) : PC Try.prog 98 [pP p, .b d] (.i (arw p d).1) [] := by
  refine PC_of_W cfn98 ?_
  simp -implicitDefEqProofs (disch := omega) [c98, List.getElem?_cons_zero, List.getElem?_cons_succ, wrap_id]
  refine HC_of_PC rfl (head_ok p !d) ?_
  rw [arw_not]
  simp -implicitDefEqProofs (disch := omega) [List.getElem?_cons_zero, List.getElem?_cons_succ, wrap_id]
  (refine fin0 trivial rfl ?_; simp -implicitDefEqProofs (disch := omega) [List.getElem?_cons_zero, List.getElem?_cons_succ, idx, wrap_id])
theorem into_ok (n : Nat) (es : List Ed) (o : List Bool) (hg : gcheck n es = 0) (hel : es.length ≤ 1000) (hol : o.length = (endsL es).length) :
    PC Try.prog 75 [G n es, .bo o] (.os 0 0 n) [rowZ (inL n es o)] := by
  have hgood := gcheck_ok hg
  have hn := hgood.n12
  have hn2 : n ≤ 1048576 := by omega
  have hml := arwsL_len hol
  have he := endsL_len hgood.right
  have hl := inL_len n es o
  refine PC_of_W cfn75 ?_
  simp -implicitDefEqProofs (disch := omega) [c75, List.getElem?_cons_zero, List.getElem?_cons_succ, wrap_id, hn2]
  refine HC_of_PC rfl (ends_ok n es hgood.right hel) ?_
  simp -implicitDefEqProofs (disch := omega) [List.getElem?_cons_zero, List.getElem?_cons_succ, wrap_id]
  refine loopW (endsL es).length (fun k s => s = ⟨[(7, .i k), (6, .p (.ps (endsL es))), (5, .os 0 0 n), (1, .p (.bo o))], [rowZ (degL n ((hdsL es o).take k))]⟩) (wk_norm [1] [7, 6, 5, 1] rfl rfl) (by rw [List.take_zero, rowZ, show degL n [] = List.replicate n 0 from rfl, List.map_replicate]; rfl) ?_
  rintro k s hk rfl
  by_cases hk2 : k < (endsL es).length
  · have hkh : k < (hdsL es o).length := by rw [hdsL_len, hml]; exact hk2
    have hko : k < o.length := by omega
    have hm := hdsL_mem hgood.right _ (List.getElem_mem hkh)
    have hs := degL_take (n := n) hkh
    have hvs : ∀ x ∈ (hdsL es o).take k, 0 ≤ x := fun x hx => (hdsL_mem hgood.right x (List.mem_of_mem_take hx)).1
    have hat : (arw (endsL es)[k] o[k]).2 = (hdsL es o)[k] := by rw [hdsL_at hkh, arwsL_at hol k hk2]
    obtain ⟨u, hu⟩ : ∃ u : Nat, (hdsL es o)[k] = u := ⟨((hdsL es o)[k]).toNat, by omega⟩
    rw [hu] at hs hat
    have hun : u < n := by omega
    have hget := degL_get (n := n) hvs u hun
    have hc : ((hdsL es o).take k).count (u : Int) ≤ 50000 := by
      refine Nat.le_trans List.count_le_length ?_
      rw [List.length_take, hdsL_len]
      omega
    have hn0 := degL_len n ((hdsL es o).take k)
    have huD : u < (degL n ((hdsL es o).take k)).length := by omega
    have hget2 : (degL n ((hdsL es o).take k))[u] = ((((hdsL es o).take k).count (u : Int) : Nat) : Int) := by rw [← getD_get huD]; exact hget
    generalize ((hdsL es o).take k).count (u : Int) = c at *
    simp -implicitDefEqProofs (disch := omega) [List.getElem?_cons_zero, List.getElem?_cons_succ, wrap_id, hk2, hko]
    refine HC_of_PC rfl (head_ok (endsL es)[k] o[k]) ?_
    simp -implicitDefEqProofs (disch := omega) [List.getElem?_cons_zero, List.getElem?_cons_succ, wrap_id, hat, hn0, huD, hun, hget2]
    exact round_end [0] [7, 6, 5, 1] hk2 rfl (by rw [hs, bumpL, Int.toNat_natCast, hget, rowZ, List.map_set]; rfl)
  · have hke : k = (endsL es).length := by omega
    have ht : (hdsL es o).take k = hdsL es o := by rw [hke, ← hml, ← hdsL_len]; exact List.take_length
    rw [ht]
    simp -implicitDefEqProofs (disch := omega) [List.getElem?_cons_zero, List.getElem?_cons_succ, wrap_id, hk2]
    exact fin1 [0] trivial rfl (by rfl) ⟨rfl, rfl⟩
theorem rindegrees_ok (n : Nat) (es : List Ed) (o : List Bool) (hel : es.length ≤ 1000) (ho : o.length ≤ 100) (h : oE n es o = 0) : PC Try.prog 27 [G n es, .bo o] (.tup [.os 0 0 n, .i 0]) [rowZ (inL n es o)] := by
  obtain ⟨hg, hol⟩ := oE_ok h
  refine PC_of_W cfn27 ?_
  simp -implicitDefEqProofs (disch := omega) [c27, List.getElem?_cons_zero, List.getElem?_cons_succ, wrap_id]
  refine HC_of_PC rfl (rocheck_ok n es o hel (by omega)) ?_
  simp -implicitDefEqProofs (disch := omega) [List.getElem?_cons_zero, List.getElem?_cons_succ, wrap_id, h]
  refine HC_of_PC rfl (into_ok n es o hg hel hol) ?_
  simp -implicitDefEqProofs (disch := omega) [List.getElem?_cons_zero, List.getElem?_cons_succ, wrap_id]
  exact fin1 [1] trivial rfl (by rfl) ⟨rfl, rfl⟩
theorem rindegrees_err (N : Int) (es : List Ed) (o : List Bool) (hel : es.length ≤ 1000) (ho : o.length ≤ 100) (h : oE N es o ≠ 0) : PC Try.prog 27 [G N es, .bo o] (.tup [.p (.is []), .i (oE N es o)]) [] := by
  refine PC_of_W cfn27 ?_
  simp -implicitDefEqProofs (disch := omega) [c27, List.getElem?_cons_zero, List.getElem?_cons_succ, wrap_id]
  refine HC_of_PC rfl (rocheck_ok N es o hel (by omega)) ?_
  simp -implicitDefEqProofs (disch := omega) [List.getElem?_cons_zero, List.getElem?_cons_succ, wrap_id, h]
  refine finW (Wk_nil0 4 rfl) ?_
  (refine fin0 trivial rfl ?_; simp -implicitDefEqProofs (disch := omega) [List.getElem?_cons_zero, List.getElem?_cons_succ, idx, wrap_id])
theorem shifted_ok (n : Nat) (es : List Ed) (o : List Bool) (hg : gcheck n es = 0) (hel : es.length ≤ 1000) (hol : o.length = (endsL es).length) : PC Try.prog 76 [G n es, .bo o] (.os 0 0 n) [rowZ (divL n es o)] := by
  have hgood := gcheck_ok hg
  have hl := inL_len n es o
  have hdl := divL_len n es o
  have hn := hgood.n12
  have hn2 : n ≤ 1048576 := by omega
  have hlen : ∀ k, k ≤ n → ((divL n es o).take k ++ List.replicate (n - k) 0).length = n := fun k hk => by simp [hdl]; omega
  refine PC_of_W cfn76 ?_
  simp -implicitDefEqProofs (disch := omega) [c76, List.getElem?_cons_zero, List.getElem?_cons_succ, wrap_id]
  refine HC_of_PC rfl (into_ok n es o hg hel hol) ?_
  simp -implicitDefEqProofs (disch := omega) [List.getElem?_cons_zero, List.getElem?_cons_succ, wrap_id, hn2]
  refine loopW n (fun k s => s = ⟨[(7, .i k), (6, .os 2 0 n), (5, .os 1 0 n), (2, .ptr 0 1 0 0)], [.box (.p (G n es)), rowZ (inL n es o), rowZ ((divL n es o).take k ++ List.replicate (n - k) 0)]⟩) (wk_norm [0, 1, 2] [7, 6, 5, 2] rfl rfl) (by simp only [rowZ, List.map_replicate, List.take_zero, List.nil_append, Nat.sub_zero]; rfl) ?_
  rintro k s hk rfl
  by_cases hlt : k < n
  · have hkl : k < (inL n es o).length := by omega
    have hkd : k < (divL n es o).length := by omega
    have hb := inL_bd hgood.right hel hol k hkl
    have hdv : (divL n es o)[k] = (inL n es o)[k] - 1 := by simp [divL]
    have hln := hlen k hk
    have hset : ((divL n es o).take k ++ List.replicate (n - k) 0).set k ((inL n es o)[k] - 1) = (divL n es o).take (k + 1) ++ List.replicate (n - (k + 1)) 0 := by
      have htl : ((divL n es o).take k).length = k := by rw [List.length_take]; omega
      rw [List.set_append_right _ _ (by omega), htl, Nat.sub_self, show n - k = (n - (k + 1)) + 1 by omega, List.replicate_succ, List.set_cons_zero, List.take_succ_eq_append_getElem hkd, hdv, List.append_assoc]
      rfl
    obtain ⟨D, hD⟩ : ∃ D, D = (divL n es o).take k ++ List.replicate (n - k) 0 := ⟨_, rfl⟩
    rw [← hD] at hln hset ⊢
    have hkD : k < D.length := by omega
    obtain ⟨v, hv⟩ : ∃ v, v = (inL n es o)[k] := ⟨_, rfl⟩
    have hv' := hv.symm
    rw [← hv] at hb hset
    simp -implicitDefEqProofs (disch := omega) [List.getElem?_cons_zero, List.getElem?_cons_succ, wrap_id, hlt, hl, hkl, hln, hkD, hv']
    exact round_end [0, 1, 2] [7, 6, 5, 2] hlt rfl (by rw [← hset, rowZ, rowZ, List.map_set]; rfl)
  · have hke : k = n := by omega
    subst hke
    have e1 : (divL k es o).take k ++ List.replicate (k - k) 0 = divL k es o := by rw [List.take_of_length_le (by omega), Nat.sub_self]; simp
    rw [e1]
    simp -implicitDefEqProofs (disch := omega) [List.getElem?_cons_zero, List.getElem?_cons_succ, wrap_id, hlt]
    exact fin1 [2] trivial rfl (by rfl) ⟨rfl, rfl⟩
theorem rdivisor_ok (n : Nat) (es : List Ed) (o : List Bool) (hel : es.length ≤ 1000) (ho : o.length ≤ 100) (h : oE n es o = 0) : PC Try.prog 29 [G n es, .bo o] (.tup [.os 0 0 n, .i 0]) [rowZ (divL n es o)] := by
  obtain ⟨hg, hol⟩ := oE_ok h
  refine PC_of_W cfn29 ?_
  simp -implicitDefEqProofs (disch := omega) [c29, List.getElem?_cons_zero, List.getElem?_cons_succ, wrap_id]
  refine HC_of_PC rfl (rocheck_ok n es o hel (by omega)) ?_
  simp -implicitDefEqProofs (disch := omega) [List.getElem?_cons_zero, List.getElem?_cons_succ, wrap_id, h]
  refine HC_of_PC rfl (shifted_ok n es o hg hel hol) ?_
  simp -implicitDefEqProofs (disch := omega) [List.getElem?_cons_zero, List.getElem?_cons_succ, wrap_id]
  exact fin1 [1] trivial rfl (by rfl) ⟨rfl, rfl⟩
theorem rdivisor_err (N : Int) (es : List Ed) (o : List Bool) (hel : es.length ≤ 1000) (ho : o.length ≤ 100) (h : oE N es o ≠ 0) : PC Try.prog 29 [G N es, .bo o] (.tup [.p (.is []), .i (oE N es o)]) [] := by
  refine PC_of_W cfn29 ?_
  simp -implicitDefEqProofs (disch := omega) [c29, List.getElem?_cons_zero, List.getElem?_cons_succ, wrap_id]
  refine HC_of_PC rfl (rocheck_ok N es o hel (by omega)) ?_
  simp -implicitDefEqProofs (disch := omega) [List.getElem?_cons_zero, List.getElem?_cons_succ, wrap_id, h]
  refine finW (Wk_nil0 4 rfl) ?_
  (refine fin0 trivial rfl ?_; simp -implicitDefEqProofs (disch := omega) [List.getElem?_cons_zero, List.getElem?_cons_succ, idx, wrap_id])
theorem roots_ok (n : Nat) (es : List Ed) (o : List Bool) (hg : gcheck n es = 0) (hel : es.length ≤ 1000) (hol : o.length = (endsL es).length) : PC Try.prog 77 [G n es, .bo o] (.os 0 0 (srcL n es o).length) [rowZ (srcL n es o)] := by
  have hgood := gcheck_ok hg
  have hl := inL_len n es o
  have hn := hgood.n12
  refine PC_of_W cfn77 ?_
  simp -implicitDefEqProofs (disch := omega) [c77, List.getElem?_cons_zero, List.getElem?_cons_succ, wrap_id]
  refine HC_of_PC rfl (into_ok n es o hg hel hol) ?_
  simp -implicitDefEqProofs (disch := omega) [List.getElem?_cons_zero, List.getElem?_cons_succ, wrap_id, hl]
  refine loopW n (fun k s => s = ⟨[(7, .i k), (6, .os 2 0 (selK (zeroB (inL n es o)) k).length), (5, .os 1 0 n), (2, .ptr 0 1 0 0)], [.box (.p (G n es)), rowZ (inL n es o), rowZ (selK (zeroB (inL n es o)) k)]⟩) ((Wk_nil 6 1 3 rfl).trans (wk_norm [0, 1, 2] [7, 6, 5, 2] rfl rfl)) rfl ?_
  rintro k s hk rfl
  have hsl := selK_len (zeroB (inL n es o)) k
  have hss := selK_succ (zeroB (inL n es o)) k
  by_cases hlt : k < n
  · have hkl : k < (inL n es o).length := by omega
    have hgd := getD_get hkl
    by_cases h0 : (inL n es o)[k] = 0
    · have hd : zeroB (inL n es o) k = true := by rw [zeroB, hgd, h0]; rfl
      rw [hd, if_pos rfl] at hss
      generalize hS : selK (zeroB (inL n es o)) k = S at *
      have hS1 : S.length ≤ 1048575 := by omega
      simp -implicitDefEqProofs (disch := omega) [List.getElem?_cons_zero, List.getElem?_cons_succ, wrap_id, hlt, hl, hkl, h0, hS1]
      exact round_end [0, 1, 2] [7, 6, 5, 2] hlt rfl (by rw [hss, List.length_append, rowZ, rowZ, List.map_append]; rfl)
    · have hd : zeroB (inL n es o) k = false := by rw [zeroB, hgd]; simpa using h0
      rw [hd] at hss
      simp only [Bool.false_eq_true, if_false, List.append_nil] at hss
      simp -implicitDefEqProofs (disch := omega) [List.getElem?_cons_zero, List.getElem?_cons_succ, wrap_id, hlt, hl, hkl, h0]
      exact round_end [0, 1, 2] [7, 6, 5, 2] hlt rfl (by rw [hss]; rfl)
  · have hke : k = n := by omega
    subst hke
    simp -implicitDefEqProofs (disch := omega) [List.getElem?_cons_zero, List.getElem?_cons_succ, wrap_id, hlt]
    exact fin1 [2] trivial rfl (by rfl) ⟨rfl, rfl⟩
theorem rsources_ok (n : Nat) (es : List Ed) (o : List Bool) (hel : es.length ≤ 1000) (ho : o.length ≤ 100) (h : oE n es o = 0) : PC Try.prog 31 [G n es, .bo o] (.tup [.os 0 0 (srcL n es o).length, .i 0]) [rowZ (srcL n es o)] := by
  obtain ⟨hg, hol⟩ := oE_ok h
  refine PC_of_W cfn31 ?_
  simp -implicitDefEqProofs (disch := omega) [c31, List.getElem?_cons_zero, List.getElem?_cons_succ, wrap_id]
  refine HC_of_PC rfl (rocheck_ok n es o hel (by omega)) ?_
  simp -implicitDefEqProofs (disch := omega) [List.getElem?_cons_zero, List.getElem?_cons_succ, wrap_id, h]
  refine HC_of_PC rfl (roots_ok n es o hg hel hol) ?_
  simp -implicitDefEqProofs (disch := omega) [List.getElem?_cons_zero, List.getElem?_cons_succ, wrap_id]
  exact fin1 [1] trivial rfl (by rfl) ⟨rfl, rfl⟩
theorem rsources_err (N : Int) (es : List Ed) (o : List Bool) (hel : es.length ≤ 1000) (ho : o.length ≤ 100) (h : oE N es o ≠ 0) : PC Try.prog 31 [G N es, .bo o] (.tup [.p (.is []), .i (oE N es o)]) [] := by
  refine PC_of_W cfn31 ?_
  simp -implicitDefEqProofs (disch := omega) [c31, List.getElem?_cons_zero, List.getElem?_cons_succ, wrap_id]
  refine HC_of_PC rfl (rocheck_ok N es o hel (by omega)) ?_
  simp -implicitDefEqProofs (disch := omega) [List.getElem?_cons_zero, List.getElem?_cons_succ, wrap_id, h]
  refine finW (Wk_nil0 4 rfl) ?_
  (refine fin0 trivial rfl ?_; simp -implicitDefEqProofs (disch := omega) [List.getElem?_cons_zero, List.getElem?_cons_succ, idx, wrap_id])
theorem sameD_ok (xs ys : List Int) (hx : xs.length ≤ 4611686018427387904) : PC Try.prog 35 [.is xs, .is ys] (.b (decide (xs = ys))) [] := by
  refine PC_of_W cfn35 ?_
  by_cases hl : xs.length = ys.length
  rotate_left
  · have hne : xs ≠ ys := fun e => hl (by rw [e])
    have hl' : ¬ (xs.length : Int) = ys.length := by omega
    simp -implicitDefEqProofs (disch := omega) [c35, List.getElem?_cons_zero, List.getElem?_cons_succ, wrap_id, hl']
    (refine fin0 trivial rfl ?_; simp -implicitDefEqProofs (disch := omega) [List.getElem?_cons_zero, List.getElem?_cons_succ, idx, wrap_id, hne])
  simp -implicitDefEqProofs (disch := omega) [c35, List.getElem?_cons_zero, List.getElem?_cons_succ, wrap_id, hl]
  refine loopW xs.length (fun k s => s = ⟨[(5, .i k), (0, .p (.is xs)), (1, .p (.is ys))], []⟩ ∧ xs.take k = ys.take k) (wk_norm [] [5, 0, 1] rfl rfl) ⟨rfl, rfl⟩ ?_
  rintro k s hk ⟨rfl, hI⟩
  by_cases hlt : k < xs.length
  · have hlt' : k < ys.length := by omega
    by_cases h1 : xs[k] = ys[k]
    · simp -implicitDefEqProofs (disch := omega) [List.getElem?_cons_zero, List.getElem?_cons_succ, wrap_id, hlt, hlt', h1]
      exact round_end [] [5, 0, 1] hlt rfl ⟨rfl, by rw [List.take_succ_eq_append_getElem hlt, List.take_succ_eq_append_getElem hlt', hI, h1]⟩
    · have hne : xs ≠ ys := fun e => h1 (by subst e; rfl)
      simp -implicitDefEqProofs (disch := omega) [List.getElem?_cons_zero, List.getElem?_cons_succ, wrap_id, hlt, hlt', h1]
      (refine fin0 trivial rfl ?_; simp -implicitDefEqProofs (disch := omega) [List.getElem?_cons_zero, List.getElem?_cons_succ, idx, wrap_id, hne])
  · have heq : xs = ys := by rwa [List.take_of_length_le (by omega), List.take_of_length_le (by omega)] at hI
    simp -implicitDefEqProofs (disch := omega) [List.getElem?_cons_zero, List.getElem?_cons_succ, wrap_id, hlt]
    (refine fin0 trivial rfl ?_; simp -implicitDefEqProofs (disch := omega) [List.getElem?_cons_zero, List.getElem?_cons_succ, idx, wrap_id, heq])
theorem sameB_ok (xs ys : List Bool) (hx : xs.length ≤ 4611686018427387904) : PC Try.prog 40 [.bo xs, .bo ys] (.b (decide (xs = ys))) [] := by
  refine PC_of_W cfn40 ?_
  by_cases hl : xs.length = ys.length
  rotate_left
  · have hne : xs ≠ ys := fun e => hl (by rw [e])
    have hl' : ¬ (xs.length : Int) = ys.length := by omega
    simp -implicitDefEqProofs (disch := omega) [c40, List.getElem?_cons_zero, List.getElem?_cons_succ, wrap_id, hl']
    (refine fin0 trivial rfl ?_; simp -implicitDefEqProofs (disch := omega) [List.getElem?_cons_zero, List.getElem?_cons_succ, idx, wrap_id, hne])
  simp -implicitDefEqProofs (disch := omega) [c40, List.getElem?_cons_zero, List.getElem?_cons_succ, wrap_id, hl]
  refine loopW xs.length (fun k s => s = ⟨[(5, .i k), (0, .p (.bo xs)), (1, .p (.bo ys))], []⟩ ∧ xs.take k = ys.take k) (wk_norm [] [5, 0, 1] rfl rfl) ⟨rfl, rfl⟩ ?_
  rintro k s hk ⟨rfl, hI⟩
  by_cases hlt : k < xs.length
  · have hlt' : k < ys.length := by omega
    by_cases h1 : xs[k] = ys[k]
    · simp -implicitDefEqProofs (disch := omega) [List.getElem?_cons_zero, List.getElem?_cons_succ, wrap_id, hlt, hlt', h1]
      exact round_end [] [5, 0, 1] hlt rfl ⟨rfl, by rw [List.take_succ_eq_append_getElem hlt, List.take_succ_eq_append_getElem hlt', hI, h1]⟩
    · have hne : xs ≠ ys := fun e => h1 (by subst e; rfl)
      have hb : (xs[k] != ys[k]) = true := by simpa using h1
      simp -implicitDefEqProofs (disch := omega) [List.getElem?_cons_zero, List.getElem?_cons_succ, wrap_id, hlt, hlt', h1, hb]
      (refine fin0 trivial rfl ?_; simp -implicitDefEqProofs (disch := omega) [List.getElem?_cons_zero, List.getElem?_cons_succ, idx, wrap_id, hne])
  · have heq : xs = ys := by rwa [List.take_of_length_le (by omega), List.take_of_length_le (by omega)] at hI
    simp -implicitDefEqProofs (disch := omega) [List.getElem?_cons_zero, List.getElem?_cons_succ, wrap_id, hlt]
    (refine fin0 trivial rfl ?_; simp -implicitDefEqProofs (disch := omega) [List.getElem?_cons_zero, List.getElem?_cons_succ, idx, wrap_id, heq])
abbrev _root_.Go.Abs.PV.bos (l : List (List Bool)) : PV := .sl (l.map PV.bo)
theorem sameBs_ok (xs ys : List (List Bool)) (hx : xs.length ≤ 4611686018427387904) (hx2 : ∀ x ∈ xs, x.length ≤ 4611686018427387904) : PC Try.prog 22 [.bos xs, .bos ys] (.b (decide (xs = ys))) [] := by
  refine PC_of_W cfn22 ?_
  by_cases hl : xs.length = ys.length
  rotate_left
  · have hne : xs ≠ ys := fun e => hl (by rw [e])
    have hl' : ¬ (xs.length : Int) = ys.length := by omega
    simp -implicitDefEqProofs (disch := omega) [c22, List.getElem?_cons_zero, List.getElem?_cons_succ, wrap_id, hl']
    (refine fin0 trivial rfl ?_; simp -implicitDefEqProofs (disch := omega) [List.getElem?_cons_zero, List.getElem?_cons_succ, idx, wrap_id, hne])
  simp -implicitDefEqProofs (disch := omega) [c22, List.getElem?_cons_zero, List.getElem?_cons_succ, wrap_id, hl]
  refine loopW xs.length (fun k s => s = ⟨[(5, .i k), (0, .p (.bos xs)), (1, .p (.bos ys))], []⟩ ∧ xs.take k = ys.take k) (wk_norm [] [5, 0, 1] rfl rfl) ⟨rfl, rfl⟩ ?_
  rintro k s hk ⟨rfl, hI⟩
  by_cases hlt : k < xs.length
  · have hlt' : k < ys.length := by omega
    simp -implicitDefEqProofs (disch := omega) [List.getElem?_cons_zero, List.getElem?_cons_succ, wrap_id, hlt, hlt']
    refine HC_of_PC rfl (sameB_ok xs[k] ys[k] (hx2 _ (List.getElem_mem hlt))) ?_
    by_cases h1 : xs[k] = ys[k]
    · simp -implicitDefEqProofs (disch := omega) [List.getElem?_cons_zero, List.getElem?_cons_succ, wrap_id, h1]
      exact round_end [] [5, 0, 1] hlt rfl ⟨rfl, by rw [List.take_succ_eq_append_getElem hlt, List.take_succ_eq_append_getElem hlt', hI, h1]⟩
    · have hne : xs ≠ ys := fun e => h1 (by subst e; rfl)
      simp -implicitDefEqProofs (disch := omega) [List.getElem?_cons_zero, List.getElem?_cons_succ, wrap_id, h1]
      (refine fin0 trivial rfl ?_; simp -implicitDefEqProofs (disch := omega) [List.getElem?_cons_zero, List.getElem?_cons_succ, idx, wrap_id, hne])
  · have heq : xs = ys := by rwa [List.take_of_length_le (by omega), List.take_of_length_le (by omega)] at hI
    simp -implicitDefEqProofs (disch := omega) [List.getElem?_cons_zero, List.getElem?_cons_succ, wrap_id, hlt]
    (refine fin0 trivial rfl ?_; simp -implicitDefEqProofs (disch := omega) [List.getElem?_cons_zero, List.getElem?_cons_succ, idx, wrap_id, heq])
end Go.Proofs.Ytjinjbcdbkgedaa
