/-
  Contracts: what is legal, in the reference; the law of it.
-/
import Derived.Test.YtjkmhjjfipnbbaaTr
set_option linter.unusedSimpArgs false
namespace Go.Proofs.Ytjkmhjjfipnbbaa
open Go.Abs Go.Sand

abbrev HG2 (O : AO) (n : Nat) (es : List Ed) (d : List Int) : List AO := [O, .box (.p (.agg [.i n, .sl (es.map edP), .is d]))]
theorem may2_ok (n v : Nat) (es : List Ed) (d : List Int) (O : AO) (hg : gcheck n es = 0) (hv : v < n) (hd : d.length = n) (he : es.length ≤ 1000) {R : AV → List AO → Prop} (hR : R (.b (mayB es d v)) (HG2 O n es d)) :
    HC Try.prog false 73 [.ptr 1 1 0 0, .i v] (HG2 O n es d) R := by
  refine HC_of_W (af := _) ((by exact cfn73 : cfn _ _ _ = some _)) ?_
  have hvd : v < d.length := by omega
  simp -implicitDefEqProofs (disch := omega) [c73, List.getElem?_cons_zero, List.getElem?_cons_succ, wrap_id]
  refine HC_of_PC rfl (val_ok n es v hg (vtx_iff.2 (by omega)) he) ?_
  by_cases h1 : 0 < valS es v
  · by_cases h2 : valS es v ≤ d[v]
    · have hm : mayB es d v = true := by simp [mayB, h1, h2, hvd]
      rw [hm] at hR
      simp -implicitDefEqProofs (disch := omega) [List.getElem?_cons_zero, List.getElem?_cons_succ, wrap_id, h1, h2, hvd]
      exact finH trivial rfl hR
    · have hm : mayB es d v = false := by simp [mayB, h1, h2, hvd]
      rw [hm] at hR
      simp -implicitDefEqProofs (disch := omega) [List.getElem?_cons_zero, List.getElem?_cons_succ, wrap_id, h1, h2, hvd]
      exact finH trivial rfl hR
  · have hm : mayB es d v = false := by simp [mayB, h1]
    rw [hm] at hR
    simp -implicitDefEqProofs (disch := omega) [List.getElem?_cons_zero, List.getElem?_cons_succ, wrap_id, h1]
    exact finH trivial rfl hR
theorem legal_ok (N : Int) (es : List Ed) (d : List Int) (v : Int) (he : es.length ≤ 1000) (hd : d.length ≤ 4611686018427387904) :
    PC Try.prog 33 [G N es, .is d, .i v] (.tup [.b (resB (vtxE N es d v) (mayB es d v)), .i (vtxE N es d v)]) [] := by
  refine PC_of_W cfn33 ?_
  simp -implicitDefEqProofs (disch := omega) [c33, List.getElem?_cons_zero, List.getElem?_cons_succ, wrap_id]
  refine HC_of_PC rfl (fvertex_ok N es d v (by omega) hd) ?_
  by_cases h0 : vtxE N es d v = 0
  · obtain ⟨hg0, hv1, hv2⟩ := vtxE_ok h0
    obtain ⟨n, rfl, hg, hl, hb, hn1, hn⟩ := given_ok hg0
    obtain ⟨u, rfl⟩ : ∃ u : Nat, v = u := ⟨v.toNat, by omega⟩
    simp -implicitDefEqProofs (disch := omega) [List.getElem?_cons_zero, List.getElem?_cons_succ, wrap_id, h0]
    refine may2_ok n u es d _ (given_gcheck hg0) (by omega) hl he ?_
    simp -implicitDefEqProofs (disch := omega) [List.getElem?_cons_zero, List.getElem?_cons_succ, wrap_id]
    (refine fin0 trivial rfl ?_; simp -implicitDefEqProofs (disch := omega) [List.getElem?_cons_zero, List.getElem?_cons_succ, idx, wrap_id, h0, resB_ok])
  · have hr := resB_err (b := mayB es d v) h0
    simp -implicitDefEqProofs (disch := omega) [List.getElem?_cons_zero, List.getElem?_cons_succ, wrap_id, h0]
    (refine fin0 trivial rfl ?_; simp -implicitDefEqProofs (disch := omega) [List.getElem?_cons_zero, List.getElem?_cons_succ, idx, wrap_id, hr])
theorem rmay_ok (n v : Nat) (es : List Ed) (d : List Int) (hg : GoodG n es) (hv : v < n) (hd : d.length = n) (he : es.length ≤ 1000) : PC Try.prog 74 [G n es, .is d, .i v] (.b (mayB es d v)) [] := by
  refine PC_of_W cfn74 ?_
  have hvd : v < d.length := by omega
  have hn := hg.n12
  have hva := valTo_all hg.right hg.asc (v : Int) (by omega)
  simp -implicitDefEqProofs (disch := omega) [c74, List.getElem?_cons_zero, List.getElem?_cons_succ, wrap_id]
  refine HC_of_PC rfl (rval_ok n v es (by omega) hg.right (by omega)) ?_
  rw [hva]
  by_cases h1 : 0 < valS es v
  · by_cases h2 : valS es v ≤ d[v]
    · have hm : mayB es d v = true := by simp [mayB, h1, h2, hvd]
      simp -implicitDefEqProofs (disch := omega) [List.getElem?_cons_zero, List.getElem?_cons_succ, wrap_id, h1, h2, hvd]
      (refine fin0 trivial rfl ?_; simp -implicitDefEqProofs (disch := omega) [List.getElem?_cons_zero, List.getElem?_cons_succ, idx, wrap_id, hm])
    · have hm : mayB es d v = false := by simp [mayB, h1, h2, hvd]
      simp -implicitDefEqProofs (disch := omega) [List.getElem?_cons_zero, List.getElem?_cons_succ, wrap_id, h1, h2, hvd]
      (refine fin0 trivial rfl ?_; simp -implicitDefEqProofs (disch := omega) [List.getElem?_cons_zero, List.getElem?_cons_succ, idx, wrap_id, hm])
  · have hm : mayB es d v = false := by simp [mayB, h1]
    simp -implicitDefEqProofs (disch := omega) [List.getElem?_cons_zero, List.getElem?_cons_succ, wrap_id, h1]
    (refine fin0 trivial rfl ?_; simp -implicitDefEqProofs (disch := omega) [List.getElem?_cons_zero, List.getElem?_cons_succ, idx, wrap_id, hm])
theorem rlegal_ok (N : Int) (es : List Ed) (d : List Int) (v : Int) (he : es.length ≤ 1000) (hd : d.length ≤ 4611686018427387904) :
    PC Try.prog 34 [G N es, .is d, .i v] (.tup [.b (resB (vtxE N es d v) (mayB es d v)), .i (vtxE N es d v)]) [] := by
  refine PC_of_W cfn34 ?_
  simp -implicitDefEqProofs (disch := omega) [c34, List.getElem?_cons_zero, List.getElem?_cons_succ, wrap_id]
  refine HC_of_PC rfl (rgiven_ok N es d (by omega) hd) ?_
  by_cases hg0 : givenE N es d = 0
  rotate_left
  · have h1 : vtxE N es d v = givenE N es d := by rw [vtxE, if_pos hg0]
    have hr := resB_err (b := mayB es d v) hg0
    simp -implicitDefEqProofs (disch := omega) [List.getElem?_cons_zero, List.getElem?_cons_succ, wrap_id, hg0]
    (refine fin0 trivial rfl ?_; simp -implicitDefEqProofs (disch := omega) [List.getElem?_cons_zero, List.getElem?_cons_succ, idx, wrap_id, h1, hr])
  simp -implicitDefEqProofs (disch := omega) [List.getElem?_cons_zero, List.getElem?_cons_succ, wrap_id, hg0]
  refine HC_of_PC rfl (rvertex_ok N v es) ?_
  cases hv : vtx N v
  · have h1 : vtxE N es d v = 2 := by rw [vtxE, if_neg (by simp [hg0]), if_neg (by simp [hv])]
    have hr := resB_err (b := mayB es d v) (e := 2) (by simp)
    simp -implicitDefEqProofs (disch := omega) [List.getElem?_cons_zero, List.getElem?_cons_succ, wrap_id]
    (refine fin0 trivial rfl ?_; simp -implicitDefEqProofs (disch := omega) [List.getElem?_cons_zero, List.getElem?_cons_succ, idx, wrap_id, h1, hr])
  · have h0 : vtxE N es d v = 0 := by rw [vtxE, if_neg (by simp [hg0]), if_pos hv]
    have hv1 := vtx_iff.1 hv
    obtain ⟨n, rfl, hg, hl, hb, hn1, hn⟩ := given_ok hg0
    obtain ⟨u, rfl⟩ : ∃ u : Nat, v = u := ⟨v.toNat, by omega⟩
    simp -implicitDefEqProofs (disch := omega) [List.getElem?_cons_zero, List.getElem?_cons_succ, wrap_id]
    refine HC_of_PC rfl (rmay_ok n u es d hg (by omega) hl he) ?_
    simp -implicitDefEqProofs (disch := omega) [List.getElem?_cons_zero, List.getElem?_cons_succ, wrap_id]
    (refine fin0 trivial rfl ?_; simp -implicitDefEqProofs (disch := omega) [List.getElem?_cons_zero, List.getElem?_cons_succ, idx, wrap_id, h0, resB_ok])
theorem rout_ok (n : Nat) (es : List Ed) (set : List Int) (v : Int) (hg : GoodG n es) (he : es.length ≤ 1000) (hs : set.length ≤ 4611686018427387904) : PC Try.prog 94 [G n es, .is set, .i v] (.i (outTo es set v n)) [] := by
  refine PC_of_W cfn94 ?_
  simp -implicitDefEqProofs (disch := omega) [c94, List.getElem?_cons_zero, List.getElem?_cons_succ, wrap_id]
  have hbw := betw_bd hg.right
  have hn := hg.n12
  refine loopW n (fun k s => s = ⟨[(8, .i k), (7, .i (outTo es set v k)), (3, .ptr 0 1 0 0), (2, .i v), (1, .p (.is set))], [.box (.p (G n es))]⟩) (wk_norm [0] [8, 7, 3, 2, 1] rfl rfl) rfl ?_
  rintro k s hk rfl
  by_cases hlt : k < n
  · have hb := outTo_bd set v hbw k
    have hb1 := hbw (min v k) (max v k)
    have ho : outTo es set v (k + 1) = outTo es set v k + if (k : Int) ∈ set then 0 else betw es (min v k) (max v k) := rfl
    simp -implicitDefEqProofs (disch := omega) [List.getElem?_cons_zero, List.getElem?_cons_succ, wrap_id, hlt]
    refine HC_of_PC rfl (holds_ok set k hs) ?_
    by_cases h1 : (k : Int) ∈ set
    · rw [if_pos h1, Int.add_zero] at ho
      simp -implicitDefEqProofs (disch := omega) [List.getElem?_cons_zero, List.getElem?_cons_succ, wrap_id, h1]
      exact round_end [0] [8, 7, 3, 2, 1] hlt rfl (by rw [ho]; rfl)
    · rw [if_neg h1] at ho
      simp -implicitDefEqProofs (disch := omega) [List.getElem?_cons_zero, List.getElem?_cons_succ, wrap_id, h1]
      refine HC_of_PC rfl (rbetw_ok n v k es (by omega)) ?_
      simp -implicitDefEqProofs (disch := omega) [List.getElem?_cons_zero, List.getElem?_cons_succ, wrap_id]
      exact round_end [0] [8, 7, 3, 2, 1] hlt rfl (by rw [ho]; rfl)
  · have : k = n := by omega
    subst this
    simp -implicitDefEqProofs (disch := omega) [List.getElem?_cons_zero, List.getElem?_cons_succ, wrap_id]
    (refine fin0 trivial rfl ?_; simp -implicitDefEqProofs (disch := omega) [List.getElem?_cons_zero, List.getElem?_cons_succ, idx, wrap_id])
theorem rmayset_ok (n : Nat) (es : List Ed) (d set : List Int) (hg : GoodG n es) (he : es.length ≤ 1000) (hd : d.length = n) (hs : ∀ x ∈ set, 0 ≤ x ∧ x < (n : Int)) (hl : set.length ≤ 1000) : PC Try.prog 75 [G n es, .is d, .is set] (.b (maySet n es d set)) [] := by
  refine PC_of_W cfn75 ?_
  simp -implicitDefEqProofs (disch := omega) [c75, List.getElem?_cons_zero, List.getElem?_cons_succ, wrap_id]
  have hbw := betw_bd hg.right
  have hn := hg.n12
  refine loopW set.length (fun k s => ∃ a : Int, s = ⟨[(8, .i k), (7, .i a), (3, .ptr 0 1 0 0), (2, .p (.is set)), (1, .p (.is d))], [.box (.p (G n es))]⟩ ∧ 0 ≤ a ∧ a ≤ 600 * k ∧ maySet n es d set = maySetL n es d set (set.drop k) a) (wk_norm [0] [8, 7, 3, 2, 1] rfl rfl) ⟨0, rfl, by omega, by omega, rfl⟩ ?_
  rintro k s hk ⟨a, rfl, ha1, ha2, hI⟩
  by_cases hlt : k < set.length
  · obtain ⟨v, hv⟩ : ∃ v : Nat, set[k] = v := ⟨set[k].toNat, by have := hs _ (List.getElem_mem hlt); omega⟩
    have hvd : v < d.length := by have := hs _ (List.getElem_mem hlt); omega
    have hb := outTo_bd set (v : Int) hbw n
    rw [List.drop_eq_getElem_cons hlt, hv, maySetL, Int.toNat_natCast, getD_get hvd] at hI
    simp -implicitDefEqProofs (disch := omega) [List.getElem?_cons_zero, List.getElem?_cons_succ, wrap_id, hlt, hv]
    refine HC_of_PC rfl (rout_ok n es set v hg he (by omega)) ?_
    by_cases h1 : d[v] < outTo es set v n
    · rw [if_pos h1] at hI
      simp -implicitDefEqProofs (disch := omega) [List.getElem?_cons_zero, List.getElem?_cons_succ, wrap_id, hlt, hv, hvd, h1]
      (refine fin0 trivial rfl ?_; simp -implicitDefEqProofs (disch := omega) [List.getElem?_cons_zero, List.getElem?_cons_succ, idx, wrap_id, hI])
    · rw [if_neg h1] at hI
      simp -implicitDefEqProofs (disch := omega) [List.getElem?_cons_zero, List.getElem?_cons_succ, wrap_id, hlt, hv, hvd, h1]
      exact round_end [0] [8, 7, 3, 2, 1] hlt rfl ⟨a + outTo es set v n, rfl, by omega, by push_cast; omega, hI⟩
  · rw [List.drop_of_length_le (Nat.le_of_not_lt hlt), maySetL] at hI
    simp -implicitDefEqProofs (disch := omega) [List.getElem?_cons_zero, List.getElem?_cons_succ, wrap_id, hlt]
    (refine fin0 trivial rfl ?_; simp -implicitDefEqProofs (disch := omega) [List.getElem?_cons_zero, List.getElem?_cons_succ, idx, wrap_id, hI])
theorem rlegalset_ok (N : Int) (es : List Ed) (d set : List Int) (he : es.length ≤ 1000) (hd : d.length ≤ 4611686018427387904) (hset : set.length ≤ 1000) :
    PC Try.prog 35 [G N es, .is d, .is set] (.tup [.b (resB (subE N es d set) (legalSet N.toNat es d set)), .i (subE N es d set)]) [] := by
  refine PC_of_W cfn35 ?_
  simp -implicitDefEqProofs (disch := omega) [c35, List.getElem?_cons_zero, List.getElem?_cons_succ, wrap_id]
  refine HC_of_PC rfl (rgiven_ok N es d (by omega) hd) ?_
  by_cases hg0 : givenE N es d = 0
  rotate_left
  · have h1 : subE N es d set = givenE N es d := by rw [subE, if_pos hg0]
    have hr := resB_err (b := legalSet N.toNat es d set) hg0
    simp -implicitDefEqProofs (disch := omega) [List.getElem?_cons_zero, List.getElem?_cons_succ, wrap_id, hg0]
    (refine fin0 trivial rfl ?_; simp -implicitDefEqProofs (disch := omega) [List.getElem?_cons_zero, List.getElem?_cons_succ, idx, wrap_id, h1, hr])
  have h1 : subE N es d set = subErr N (-1) set := by rw [subE, if_neg (by simp [hg0])]
  simp -implicitDefEqProofs (disch := omega) [List.getElem?_cons_zero, List.getElem?_cons_succ, wrap_id, hg0]
  refine HC_of_PC rfl (rsubset_ok N es set (by omega)) ?_
  by_cases hs0 : subErr N (-1) set = 0
  rotate_left
  · have hr := resB_err (b := legalSet N.toNat es d set) hs0
    simp -implicitDefEqProofs (disch := omega) [List.getElem?_cons_zero, List.getElem?_cons_succ, wrap_id, hs0]
    (refine fin0 trivial rfl ?_; simp -implicitDefEqProofs (disch := omega) [List.getElem?_cons_zero, List.getElem?_cons_succ, idx, wrap_id, h1, hr])
  · obtain ⟨n, rfl, hg, hl, hb, hn1, hn⟩ := given_ok hg0
    have hss := (subErr_ok hs0).1
    have hms := may_same hg d set hss
    simp -implicitDefEqProofs (disch := omega) [List.getElem?_cons_zero, List.getElem?_cons_succ, wrap_id, hs0]
    refine HC_of_PC rfl (rmayset_ok n es d set hg he hl hss hset) ?_
    simp -implicitDefEqProofs (disch := omega) [List.getElem?_cons_zero, List.getElem?_cons_succ, wrap_id]
    (refine fin0 trivial rfl ?_; simp -implicitDefEqProofs (disch := omega) [List.getElem?_cons_zero, List.getElem?_cons_succ, idx, wrap_id, h1, hs0, resB_ok, hms])
theorem legal_at (N : Int) (es : List Ed) (d set : List Int) : PC Try.prog 7 [G N es, .is d, .is set] (.b true) [] := by
  refine PC_of_W cfn7 ?_
  simp -implicitDefEqProofs (disch := omega) [c7, List.getElem?_cons_zero, List.getElem?_cons_succ, wrap_id]
  refine HC_of_PC rfl (rfew_ok N es d) ?_
  cases hf : few18 N es d
  · simp -implicitDefEqProofs (disch := omega) [List.getElem?_cons_zero, List.getElem?_cons_succ, wrap_id]
    refine HC_of_PC rfl (awake_ok) ?_
    simp -implicitDefEqProofs (disch := omega) [List.getElem?_cons_zero, List.getElem?_cons_succ, wrap_id]
    (refine fin0 trivial rfl ?_; simp -implicitDefEqProofs (disch := omega) [List.getElem?_cons_zero, List.getElem?_cons_succ, idx, wrap_id])
  have hl := few_len hf
  have hd : d.length ≤ 4611686018427387904 := by omega
  have he : es.length ≤ 1000 := by omega
  by_cases hs : (20 : Int) < set.length
  · simp -implicitDefEqProofs (disch := omega) [List.getElem?_cons_zero, List.getElem?_cons_succ, wrap_id, hs]
    refine HC_of_PC rfl (awake_ok) ?_
    simp -implicitDefEqProofs (disch := omega) [List.getElem?_cons_zero, List.getElem?_cons_succ, wrap_id]
    (refine fin0 trivial rfl ?_; simp -implicitDefEqProofs (disch := omega) [List.getElem?_cons_zero, List.getElem?_cons_succ, idx, wrap_id])
  have hs1 : set.length ≤ 1000 := by omega
  have hs2 : set.length ≤ 4611686018427387904 := by omega
  by_cases h0 : set = []
  · subst h0
    simp -implicitDefEqProofs (disch := omega) [List.getElem?_cons_zero, List.getElem?_cons_succ, wrap_id]
    refine HC_of_PC rfl (legal_ok N es d N he hd) ?_
    simp -implicitDefEqProofs (disch := omega) [List.getElem?_cons_zero, List.getElem?_cons_succ, wrap_id]
    refine HC_of_PC rfl (rlegal_ok N es d N he hd) ?_
    simp -implicitDefEqProofs (disch := omega) [List.getElem?_cons_zero, List.getElem?_cons_succ, wrap_id]
    refine HC_of_PC rfl (legalset_ok N es d [] he hd hs2) ?_
    simp -implicitDefEqProofs (disch := omega) [List.getElem?_cons_zero, List.getElem?_cons_succ, wrap_id]
    refine HC_of_PC rfl (rlegalset_ok N es d [] he hd hs1) ?_
    simp -implicitDefEqProofs (disch := omega) [List.getElem?_cons_zero, List.getElem?_cons_succ, wrap_id]
    refine HC_of_PC rfl (awake_ok) ?_
    simp -implicitDefEqProofs (disch := omega) [List.getElem?_cons_zero, List.getElem?_cons_succ, wrap_id]
    (refine fin0 trivial rfl ?_; simp -implicitDefEqProofs (disch := omega) [List.getElem?_cons_zero, List.getElem?_cons_succ, idx, wrap_id])
  · have hp : 0 < set.length := List.length_pos_iff.2 h0
    simp -implicitDefEqProofs (disch := omega) [List.getElem?_cons_zero, List.getElem?_cons_succ, wrap_id, hs, hp]
    refine HC_of_PC rfl (legal_ok N es d set[0] he hd) ?_
    simp -implicitDefEqProofs (disch := omega) [List.getElem?_cons_zero, List.getElem?_cons_succ, wrap_id]
    refine HC_of_PC rfl (rlegal_ok N es d set[0] he hd) ?_
    simp -implicitDefEqProofs (disch := omega) [List.getElem?_cons_zero, List.getElem?_cons_succ, wrap_id]
    refine HC_of_PC rfl (legalset_ok N es d set he hd hs2) ?_
    simp -implicitDefEqProofs (disch := omega) [List.getElem?_cons_zero, List.getElem?_cons_succ, wrap_id]
    refine HC_of_PC rfl (rlegalset_ok N es d set he hd hs1) ?_
    simp -implicitDefEqProofs (disch := omega) [List.getElem?_cons_zero, List.getElem?_cons_succ, wrap_id]
    refine HC_of_PC rfl (awake_ok) ?_
    simp -implicitDefEqProofs (disch := omega) [List.getElem?_cons_zero, List.getElem?_cons_succ, wrap_id]
    (refine fin0 trivial rfl ?_; simp -implicitDefEqProofs (disch := omega) [List.getElem?_cons_zero, List.getElem?_cons_succ, idx, wrap_id])
end Go.Proofs.Ytjkmhjjfipnbbaa
