/-
  Contracts: playing, in package firing.
-/
import Derived.Test.YtjkmhjjfipnbbaaTm
set_option linter.unusedSimpArgs false
namespace Go.Proofs.Ytjkmhjjfipnbbaa
open Go.Abs Go.Sand

theorem finR {m0 : Nat} {rs : List ARes} {R : AV → List AO → Prop} {s : St} {x : AV} {e : AExit} (σ : List Nat) (he : match e with | .exit _ => False | _ => True) (h : resOf s rs = some x) (hσ : okσ σ m0 s.H = true) (hR : R (x.ren s.H (idx σ 0)) (renH σ s.H)) :
    Abs.Fin m0 rs R e s := ⟨he, .inl ⟨s, x, σ, Wk.refl _ _, h, hσ, hR⟩⟩
theorem cloneP_ok (xs : List Int) (hx : xs.length ≤ 1000000) : PC Try.prog 77 [.is xs] (.p (.is xs)) [] := by
  refine PC_of_W cfn77 ?_
  simp -implicitDefEqProofs (disch := omega) [c77, List.getElem?_cons_zero, List.getElem?_cons_succ, wrap_id, stepK_eqn, eqnP]
  have hx' : xs.length ≤ 1048576 := by omega
  refine ⟨?_, ?_⟩
  · rintro rfl
    refine finW (Wk_nil0 2 rfl) ?_
    (refine fin0 trivial rfl ?_; simp -implicitDefEqProofs (disch := omega) [List.getElem?_cons_zero, List.getElem?_cons_succ, idx, wrap_id])
  · simp -implicitDefEqProofs (disch := omega) [List.getElem?_cons_zero, List.getElem?_cons_succ, wrap_id, hx']
    (refine fin0 trivial rfl ?_; simp -implicitDefEqProofs (disch := omega) [List.getElem?_cons_zero, List.getElem?_cons_succ, idx, wrap_id])
abbrev HG (n : Nat) (es : List Ed) (d : List Int) : List AO := [.box (.p (.agg [.i n, .sl (es.map edP), .is d]))]
theorem may_ok (n v : Nat) (es : List Ed) (d : List Int) (hg : gcheck n es = 0) (hv : v < n) (hd : d.length = n) (he : es.length ≤ 1000) {R : AV → List AO → Prop} (hR : R (.b (mayB es d v)) (HG n es d)) :
    HC Try.prog false 73 [.ptr 0 1 0 0, .i v] (HG n es d) R := by
  refine HC_of_W (af := _) ((by exact cfn73 : cfn _ _ _ = some _)) ?_
  have hvd : v < d.length := by omega
  simp -implicitDefEqProofs (disch := omega) [c73, List.getElem?_cons_zero, List.getElem?_cons_succ, wrap_id]
  refine HC_of_PC rfl (val_ok n es v hg (vtx_iff.2 (by omega)) he) ?_
  by_cases h1 : 0 < valS es v
  · by_cases h2 : valS es v ≤ d[v]
    · have hm : mayB es d v = true := by simp [mayB, h1, h2, hvd]
      rw [hm] at hR
      simp -implicitDefEqProofs (disch := omega) [List.getElem?_cons_zero, List.getElem?_cons_succ, wrap_id, h1, h2, hvd]
      exact finH trivial rfl hR
    · have hm : mayB es d v = false := by simp [mayB, h1, h2, hvd]
      rw [hm] at hR
      simp -implicitDefEqProofs (disch := omega) [List.getElem?_cons_zero, List.getElem?_cons_succ, wrap_id, h1, h2, hvd]
      exact finH trivial rfl hR
  · have hm : mayB es d v = false := by simp [mayB, h1]
    rw [hm] at hR
    simp -implicitDefEqProofs (disch := omega) [List.getElem?_cons_zero, List.getElem?_cons_succ, wrap_id, h1]
    exact finH trivial rfl hR
theorem gfire_ok (n v : Nat) (es : List Ed) (d : List Int) (hg : gcheck n es = 0) (hv : v < n) (hd : d.length = n) (he : es.length ≤ 1000) (hb : Bd 1048576 d) {R : AV → List AO → Prop} (hR : R (.tup []) (HG n es (movedE es (ofL n [(v : Int)] 1) d))) :
    HC Try.prog false 78 [.ptr 0 1 0 0, .i v] (HG n es d) R := by
  have hgg := gcheck_ok hg
  have hn := hgg.n12
  refine HC_of_W (af := _) ((by exact cfn78 : cfn _ _ _ = some _)) ?_
  simp -implicitDefEqProofs (disch := omega) [c78, List.getElem?_cons_zero, List.getElem?_cons_succ, wrap_id]
  refine HC_of_PC rfl (of_ok n es [(v : Int)] 1 (by omega) (by simp; omega) (by simp)) ?_
  simp -implicitDefEqProofs (disch := omega) [List.getElem?_cons_zero, List.getElem?_cons_succ, wrap_id]
  refine HC_of_PC rfl (moved_ok n es _ d hgg.right (ofL_length _ _ _) hd (by omega) he (ofL_bd _ _ _ (by omega)) (hb.more (by omega))) ?_
  simp -implicitDefEqProofs (disch := omega) [List.getElem?_cons_zero, List.getElem?_cons_succ, wrap_id]
  exact finR [0] trivial rfl rfl hR
abbrev HN (N : Int) (es : List Ed) : List AO := [.box (.p (G N es))]
theorem listed1_ok (N : Int) (es : List Ed) (v : Int) {R : AV → List AO → Prop} (hR : R (.b (!vtx N v)) (HN N es)) :
    HC Try.prog false 95 [.i v, .ptr 0 1 0 0] (HN N es) R := by
  refine HC_of_W (af := _) ((by exact cfn95 : cfn _ _ _ = some _)) ?_
  by_cases h1 : v < 0
  · have hv : vtx N v = false := vtx_not.2 (by omega)
    rw [hv] at hR
    simp -implicitDefEqProofs (disch := omega) [c95, List.getElem?_cons_zero, List.getElem?_cons_succ, wrap_id, h1]
    exact finH trivial rfl hR
  by_cases h2 : N ≤ v
  · have hv : vtx N v = false := vtx_not.2 (by omega)
    rw [hv] at hR
    simp -implicitDefEqProofs (disch := omega) [c95, List.getElem?_cons_zero, List.getElem?_cons_succ, wrap_id, h1, h2]
    exact finH trivial rfl hR
  · have hv : vtx N v = true := vtx_iff.2 (by omega)
    rw [hv] at hR
    simp -implicitDefEqProofs (disch := omega) [c95, List.getElem?_cons_zero, List.getElem?_cons_succ, wrap_id, h1, h2]
    exact finH trivial rfl hR
theorem listed_ok (N : Int) (es : List Ed) (ms : List Int) (hm : ms.length ≤ 4611686018427387904) : PC Try.prog 76 [G N es, .is ms] (.i (listE N ms)) [] := by
  refine PC_of_W cfn76 ?_
  by_cases h1 : (4096 : Int) < ms.length
  · have h1' : 4096 < ms.length := by omega
    simp -implicitDefEqProofs (disch := omega) [c76, List.getElem?_cons_zero, List.getElem?_cons_succ, wrap_id, h1]
    (refine fin0 trivial rfl ?_; simp -implicitDefEqProofs (disch := omega) [List.getElem?_cons_zero, List.getElem?_cons_succ, idx, wrap_id, listE, h1'])
  have h1' : ¬ 4096 < ms.length := by omega
  simp -implicitDefEqProofs (disch := omega) [c76, List.getElem?_cons_zero, List.getElem?_cons_succ, wrap_id, h1]
  refine hasfI_ok (p := fun v => !vtx N v) ms hm (by kernel_rfl) (fun k _ K hK => listed1_ok N es k hK) ?_
  rw [any_not]
  cases hv : ms.all (vtx N)
  · simp -implicitDefEqProofs (disch := omega) [List.getElem?_cons_zero, List.getElem?_cons_succ, wrap_id]
    (refine fin0 trivial rfl ?_; simp -implicitDefEqProofs (disch := omega) [List.getElem?_cons_zero, List.getElem?_cons_succ, idx, wrap_id, listE, h1', hv])
  · simp -implicitDefEqProofs (disch := omega) [List.getElem?_cons_zero, List.getElem?_cons_succ, wrap_id]
    (refine fin0 trivial rfl ?_; simp -implicitDefEqProofs (disch := omega) [List.getElem?_cons_zero, List.getElem?_cons_succ, idx, wrap_id, listE, h1', hv])
theorem play_ok (N : Int) (es : List Ed) (d ms : List Int) (he : es.length ≤ 1000) (hd : d.length ≤ 4611686018427387904) (hm : ms.length ≤ 4611686018427387904) :
    PC Try.prog 41 [G N es, .is d, .is ms] (.tup [.p (.is (playE N es d ms).1), .i (playE N es d ms).2.1, .i (playE N es d ms).2.2]) [] := by
  refine PC_of_W cfn41 ?_
  simp -implicitDefEqProofs (disch := omega) [c41, List.getElem?_cons_zero, List.getElem?_cons_succ, wrap_id]
  refine HC_of_PC rfl (given_ok' N es d (by omega) hd) ?_
  by_cases h0 : givenE N es d = 0
  rotate_left
  · have hp : playE N es d ms = ([], 0, givenE N es d) := by rw [playE, if_pos h0]
    simp -implicitDefEqProofs (disch := omega) [List.getElem?_cons_zero, List.getElem?_cons_succ, wrap_id, h0]
    refine finW (Wk_nil0 6 rfl) ?_
    (refine fin0 trivial rfl ?_; simp -implicitDefEqProofs (disch := omega) [List.getElem?_cons_zero, List.getElem?_cons_succ, idx, wrap_id, hp])
  simp -implicitDefEqProofs (disch := omega) [List.getElem?_cons_zero, List.getElem?_cons_succ, wrap_id, h0]
  refine HC_of_PC rfl (listed_ok N es ms hm) ?_
  by_cases h1 : listE N ms = 0
  rotate_left
  · have hp : playE N es d ms = ([], 0, listE N ms) := by rw [playE, if_neg (by simp [h0]), if_pos h1]
    simp -implicitDefEqProofs (disch := omega) [List.getElem?_cons_zero, List.getElem?_cons_succ, wrap_id, h1]
    refine finW (Wk_nil0 6 rfl) ?_
    (refine fin0 trivial rfl ?_; simp -implicitDefEqProofs (disch := omega) [List.getElem?_cons_zero, List.getElem?_cons_succ, idx, wrap_id, hp])
  have hp : playE N es d ms = playL N.toNat es d ms 0 := by rw [playE, if_neg (by simp [h0]), if_neg (by simp [h1])]
  obtain ⟨n, rfl, hg, hl, hb, hn1, hn⟩ := given_ok h0
  have hgc := given_gcheck h0
  have hms := (list_ok h1).1
  simp -implicitDefEqProofs (disch := omega) [List.getElem?_cons_zero, List.getElem?_cons_succ, wrap_id, h1]
  refine HC_of_PC rfl (cloneP_ok d (by omega)) ?_
  simp -implicitDefEqProofs (disch := omega) [List.getElem?_cons_zero, List.getElem?_cons_succ, wrap_id]
  refine loopW ms.length (fun k s => ∃ d' : List Int, s = ⟨[(38, .i k), (37, .i ms.length), (36, .p (.is ms)), (12, .fn (.func 73) [.ptr 0 1 0 0] []), (11, .ptr 0 1 0 0), (2, .p (.is ms))], HG n es d'⟩ ∧ d'.length = n ∧ Bd 1048576 d' ∧ playL n es d ms 0 = playL n es d' (ms.drop k) k) (wk_norm [1] [38, 37, 36, 12, 11, 2] rfl rfl) ⟨d, rfl, hl, hb, rfl⟩ ?_
  rintro k s hk ⟨d', rfl, hl', hb', hI⟩
  by_cases hlt : k < ms.length
  rotate_left
  · rw [List.drop_of_length_le (Nat.le_of_not_lt hlt)] at hI
    have hk' : (k : Int) = ms.length := by omega
    simp -implicitDefEqProofs (disch := omega) [List.getElem?_cons_zero, List.getElem?_cons_succ, wrap_id, hlt]
    (refine fin0 trivial rfl ?_; simp -implicitDefEqProofs (disch := omega) [List.getElem?_cons_zero, List.getElem?_cons_succ, idx, wrap_id, hp, hI, playL, hk'])
  obtain ⟨v, hv⟩ : ∃ v : Nat, ms[k] = v := ⟨ms[k].toNat, by have := hms _ (List.getElem_mem hlt); omega⟩
  have hvn : v < n := by have := hms _ (List.getElem_mem hlt); omega
  rw [List.drop_eq_getElem_cons hlt, hv] at hI
  simp -implicitDefEqProofs (disch := omega) [List.getElem?_cons_zero, List.getElem?_cons_succ, wrap_id, hlt, hv]
  refine ⟨by kernel_rfl, may_ok n v es d' hgc hvn hl' he ?_⟩
  cases h2 : mayB es d' v
  · rw [playL_no h2] at hI
    simp -implicitDefEqProofs (disch := omega) [List.getElem?_cons_zero, List.getElem?_cons_succ, wrap_id]
    refine finW (Wk_nil0 6 rfl) ?_
    (refine fin0 trivial rfl ?_; simp -implicitDefEqProofs (disch := omega) [List.getElem?_cons_zero, List.getElem?_cons_succ, idx, wrap_id, hp, hI])
  simp -implicitDefEqProofs (disch := omega) [List.getElem?_cons_zero, List.getElem?_cons_succ, wrap_id]
  refine gfire_ok n v es d' hgc hvn hl' he hb' ?_
  simp -implicitDefEqProofs (disch := omega) [List.getElem?_cons_zero, List.getElem?_cons_succ, wrap_id]
  refine HC_of_PC rfl (bounded_ok _ (by rw [movedE_length]; omega)) ?_
  by_cases h3 : bndE (movedE es (ofL n [(v : Int)] 1) d') = 0
  · rw [playL_go h2 h3] at hI
    simp -implicitDefEqProofs (disch := omega) [List.getElem?_cons_zero, List.getElem?_cons_succ, wrap_id, Sand.res_ok, h3]
    exact round_end [0] [38, 37, 36, 12, 11, 2] hlt rfl ⟨_, rfl, by rw [movedE_length, hl'], (bnd_ok h3).1, hI⟩
  · rw [playL_large h2 h3] at hI
    simp -implicitDefEqProofs (disch := omega) [List.getElem?_cons_zero, List.getElem?_cons_succ, wrap_id, Sand.res_ok, h3]
    refine finW (Wk_nil0 6 rfl) ?_
    (refine fin0 trivial rfl ?_; simp -implicitDefEqProofs (disch := omega) [List.getElem?_cons_zero, List.getElem?_cons_succ, idx, wrap_id, hp, hI])
end Go.Proofs.Ytjkmhjjfipnbbaa
