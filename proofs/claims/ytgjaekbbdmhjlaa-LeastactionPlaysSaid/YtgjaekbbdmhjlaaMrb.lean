/-
  Contracts: package graph, sets and valences; what is given.
-/
import Derived.Test.YtgjaekbbdmhjlaaMra
set_option linter.unusedSimpArgs false
namespace Go.Proofs.Ytgjaekbbdmhjlaa
open Go.Abs Go.Sand

def atErr (N : Int) (es : List Ed) (vs : List Int) : Int := if gcheck N es ≠ 0 then gcheck N es else atE N vs
theorem at_ok (N : Int) (es : List Ed) (xs : List Int) (hel : es.length ≤ 4611686018427387904) (hx : xs.length ≤ 4611686018427387904) : PC Try.prog 108 [G N es, .is xs] (.i (atErr N es xs)) [] := by
  refine PC_of_W cfn108 ?_
  simp -implicitDefEqProofs (disch := omega) [c108, List.getElem?_cons_zero, List.getElem?_cons_succ, wrap_id]
  refine HC_of_PC rfl (gcheck_ok' N es hel) ?_
  by_cases h0 : gcheck N es = 0
  rotate_left
  · simp -implicitDefEqProofs (disch := omega) [List.getElem?_cons_zero, List.getElem?_cons_succ, wrap_id, h0]
    (refine fin0 trivial rfl ?_; simp -implicitDefEqProofs (disch := omega) [List.getElem?_cons_zero, List.getElem?_cons_succ, idx, wrap_id, atErr, h0])
  simp -implicitDefEqProofs (disch := omega) [List.getElem?_cons_zero, List.getElem?_cons_succ, wrap_id, h0]
  refine loopW xs.length (fun k s => s = ⟨[(15, .i k), (14, .i xs.length), (13, .p (.is xs)), (2, .ptr 0 1 0 0)], [.box (.p (G N es))]⟩ ∧ xs.all (vtx N) = (xs.drop k).all (vtx N)) (wk_norm [0] [15, 14, 13, 2] rfl rfl) ⟨rfl, rfl⟩ ?_
  rintro k s hk ⟨rfl, hI⟩
  by_cases hlt : k < xs.length
  · have hd := drop_all (vtx N) xs k hlt
    simp -implicitDefEqProofs (disch := omega) [List.getElem?_cons_zero, List.getElem?_cons_succ, wrap_id, hlt]
    refine HC_of_PC rfl (gvertex_ok N xs[k]) ?_
    cases hv : vtx N xs[k]
    · rw [hv] at hd
      simp -implicitDefEqProofs (disch := omega) [List.getElem?_cons_zero, List.getElem?_cons_succ, wrap_id]
      (refine fin0 trivial rfl ?_; simp -implicitDefEqProofs (disch := omega) [List.getElem?_cons_zero, List.getElem?_cons_succ, idx, wrap_id, atErr, atE, h0, hI, hd])
    · rw [hv] at hd
      simp -implicitDefEqProofs (disch := omega) [List.getElem?_cons_zero, List.getElem?_cons_succ, wrap_id]
      exact round_end [0] [15, 14, 13, 2] hlt rfl ⟨rfl, by rw [hI, hd]; rfl⟩
  · simp -implicitDefEqProofs (disch := omega) [List.getElem?_cons_zero, List.getElem?_cons_succ, wrap_id, hlt]
    (refine fin0 trivial rfl ?_; simp -implicitDefEqProofs (disch := omega) [List.getElem?_cons_zero, List.getElem?_cons_succ, idx, wrap_id, atErr, atE, h0, hI, List.drop_of_length_le (Nat.le_of_not_lt hlt)])
theorem val_ok (N : Int) (es : List Ed) (v : Int) (hgc : gcheck N es = 0) (hv : vtx N v = true) (hel : es.length ≤ 1000) : PC Try.prog 89 [G N es, .i v] (.tup [.i (valS es v), .i 0]) [] := by
  refine PC_of_W cfn89 ?_
  simp -implicitDefEqProofs (disch := omega) [c89, List.getElem?_cons_zero, List.getElem?_cons_succ, wrap_id]
  have hg := gcheck_ok hgc
  have hat : atErr N es [v] = 0 := by simp [atErr, hgc, atE, hv]
  refine HC_of_PC rfl (at_ok N es [v] (by omega) (by simp)) ?_
  simp -implicitDefEqProofs (disch := omega) [List.getElem?_cons_zero, List.getElem?_cons_succ, wrap_id, hat]
  refine loopW es.length (fun k s => s = ⟨[(20, .i k), (19, .i es.length), (18, .p (.sl (es.map edP))), (7, .i (valS (es.take k) v)), (1, .i v)], []⟩) (wk_norm [] [20, 19, 18, 7, 1] rfl rfl) rfl ?_
  rintro k s hk rfl
  by_cases hlt : k < es.length
  rotate_left
  · have : k = es.length := by omega
    subst this
    rw [List.take_length]
    simp -implicitDefEqProofs (disch := omega) [List.getElem?_cons_zero, List.getElem?_cons_succ, wrap_id]
    (refine fin0 trivial rfl ?_; simp -implicitDefEqProofs (disch := omega) [List.getElem?_cons_zero, List.getElem?_cons_succ, idx, wrap_id])
  have hs := valS_snoc es v k hlt
  have hb := valS_bd (n := N) (es := es.take k) (fun x hx => hg.right x (List.mem_of_mem_take hx)) v
  have hb2 := valS_bd (n := N) (es := es.take (k + 1)) (fun x hx => hg.right x (List.mem_of_mem_take hx)) v
  have hl2 : (es.take k).length ≤ 1000 := by rw [List.length_take]; omega
  have hl3 : (es.take (k + 1)).length ≤ 1000 := by rw [List.length_take]; omega
  by_cases h1 : es[k].a = es[k].b
  · have hv1 : val1 v es[k] = 0 := by simp [val1, h1]
    rw [hv1, Int.add_zero] at hs
    simp -implicitDefEqProofs (disch := omega) [List.getElem?_cons_zero, List.getElem?_cons_succ, wrap_id, hlt, h1]
    exact round_end [] [20, 19, 18, 7, 1] hlt rfl (by rw [hs]; rfl)
  by_cases h2 : es[k].a = v
  · have hv1 : val1 v es[k] = es[k].m := by simp [val1, h1, h2]; intro h; exact absurd (h2.trans h) h1
    rw [hv1] at hs
    rw [hs] at hb2
    have h1v : ¬ v = es[k].b := fun h => h1 (h2.trans h)
    simp -implicitDefEqProofs (disch := omega) [List.getElem?_cons_zero, List.getElem?_cons_succ, wrap_id, hlt, h1v, h2]
    exact round_end [] [20, 19, 18, 7, 1] hlt rfl (by rw [hs]; rfl)
  by_cases h3 : es[k].b = v
  · have hv1 : val1 v es[k] = es[k].m := by simp [val1, h1, h2, h3]
    rw [hv1] at hs
    rw [hs] at hb2
    simp -implicitDefEqProofs (disch := omega) [List.getElem?_cons_zero, List.getElem?_cons_succ, wrap_id, hlt, h1, h2, h3]
    exact round_end [] [20, 19, 18, 7, 1] hlt rfl (by rw [hs]; rfl)
  · have hv1 : val1 v es[k] = 0 := by simp [val1, h1, h2, h3]
    rw [hv1, Int.add_zero] at hs
    simp -implicitDefEqProofs (disch := omega) [List.getElem?_cons_zero, List.getElem?_cons_succ, wrap_id, hlt, h1, h2, h3]
    exact round_end [] [20, 19, 18, 7, 1] hlt rfl (by rw [hs]; rfl)
theorem given_ok' (N : Int) (es : List Ed) (d : List Int) (hel : es.length ≤ 4611686018427387904) (hd : d.length ≤ 4611686018427387904) : PC Try.prog 62 [G N es, .is d] (.i (givenE N es d)) [] := by
  refine PC_of_W cfn62 ?_
  simp -implicitDefEqProofs (disch := omega) [c62, List.getElem?_cons_zero, List.getElem?_cons_succ, wrap_id]
  refine HC_of_PC rfl (gcheck_ok' N es hel) ?_
  by_cases h0 : gcheck N es = 0
  · simp -implicitDefEqProofs (disch := omega) [List.getElem?_cons_zero, List.getElem?_cons_succ, wrap_id, h0]
    refine HC_of_PC rfl (chk_ok d N hd) ?_
    simp -implicitDefEqProofs (disch := omega) [List.getElem?_cons_zero, List.getElem?_cons_succ, wrap_id]
    (refine fin0 trivial rfl ?_; simp -implicitDefEqProofs (disch := omega) [List.getElem?_cons_zero, List.getElem?_cons_succ, idx, wrap_id, givenE, h0])
  · simp -implicitDefEqProofs (disch := omega) [List.getElem?_cons_zero, List.getElem?_cons_succ, wrap_id, h0]
    (refine fin0 trivial rfl ?_; simp -implicitDefEqProofs (disch := omega) [List.getElem?_cons_zero, List.getElem?_cons_succ, idx, wrap_id, givenE, h0])
theorem fcheck_ok (N : Int) (es : List Ed) (d : List Int) (hel : es.length ≤ 4611686018427387904) (hd : d.length ≤ 4611686018427387904) : PC Try.prog 55 [G N es, .is d] (.i (givenE N es d)) [] := by
  refine PC_of_W cfn55 ?_
  simp -implicitDefEqProofs (disch := omega) [c55, List.getElem?_cons_zero, List.getElem?_cons_succ, wrap_id]
  refine HC_of_PC rfl (given_ok' N es d hel hd) ?_
  simp -implicitDefEqProofs (disch := omega) [List.getElem?_cons_zero, List.getElem?_cons_succ, wrap_id]
  (refine fin0 trivial rfl ?_; simp -implicitDefEqProofs (disch := omega) [List.getElem?_cons_zero, List.getElem?_cons_succ, idx, wrap_id])
theorem rscheck_ok (N : Int) (es : List Ed) (d : List Int) (hel : es.length ≤ 4611686018427387904) (hd : d.length ≤ 4611686018427387904) : PC Try.prog 31 [G N es, .is d] (.i (givenE N es d)) [] := by
  refine PC_of_W cfn31 ?_
  simp -implicitDefEqProofs (disch := omega) [c31, List.getElem?_cons_zero, List.getElem?_cons_succ, wrap_id]
  refine HC_of_PC rfl (rcheck_ok N es hel) ?_
  by_cases h0 : gcheck N es = 0
  · simp -implicitDefEqProofs (disch := omega) [List.getElem?_cons_zero, List.getElem?_cons_succ, wrap_id, h0]
    refine HC_of_PC rfl (dcheck_ok d N hd) ?_
    simp -implicitDefEqProofs (disch := omega) [List.getElem?_cons_zero, List.getElem?_cons_succ, wrap_id]
    (refine fin0 trivial rfl ?_; simp -implicitDefEqProofs (disch := omega) [List.getElem?_cons_zero, List.getElem?_cons_succ, idx, wrap_id, givenE, h0])
  · simp -implicitDefEqProofs (disch := omega) [List.getElem?_cons_zero, List.getElem?_cons_succ, wrap_id, h0]
    (refine fin0 trivial rfl ?_; simp -implicitDefEqProofs (disch := omega) [List.getElem?_cons_zero, List.getElem?_cons_succ, idx, wrap_id, givenE, h0])
theorem rfew_ok (N : Int) (es : List Ed) (d : List Int) : PC Try.prog 11 [G N es, .is d] (.b (few18 N es d)) [] := by
  refine PC_of_W cfn11 ?_
  simp -implicitDefEqProofs (disch := omega) [c11, List.getElem?_cons_zero, List.getElem?_cons_succ, wrap_id]
  refine HC_of_PC rfl (few8_ok N es) ?_
  cases h : smallG N es 6 9
  · simp -implicitDefEqProofs (disch := omega) [List.getElem?_cons_zero, List.getElem?_cons_succ, wrap_id]
    (refine fin0 trivial rfl ?_; simp -implicitDefEqProofs (disch := omega) [List.getElem?_cons_zero, List.getElem?_cons_succ, idx, wrap_id, few18, h])
  · simp -implicitDefEqProofs (disch := omega) [List.getElem?_cons_zero, List.getElem?_cons_succ, wrap_id]
    refine HC_of_PC rfl (dfew_ok d) ?_
    simp -implicitDefEqProofs (disch := omega) [List.getElem?_cons_zero, List.getElem?_cons_succ, wrap_id]
    (refine fin0 trivial rfl ?_; simp -implicitDefEqProofs (disch := omega) [List.getElem?_cons_zero, List.getElem?_cons_succ, idx, wrap_id, few18, h])
end Go.Proofs.Ytgjaekbbdmhjlaa
/-
  Contracts: package slices; what a script changes.
-/
set_option linter.unusedSimpArgs false
namespace Go.Proofs.Ytgjaekbbdmhjlaa
open Go.Abs Go.Sand

theorem clone_ok (xs : List Int) (hx : xs.length ≤ 1000000) : PC Try.prog 64 [.is xs] (.os 0 0 xs.length) [.row (xs.map .i) 1 3 false] := by
  refine PC_of_W cfn64 ?_
  simp -implicitDefEqProofs (disch := omega) [c64, List.getElem?_cons_zero, List.getElem?_cons_succ, wrap_id, stepK_eqn, eqnP]
  have hx' : xs.length ≤ 1048576 := by omega
  refine ⟨?_, ?_⟩
  · rintro rfl
    simp -implicitDefEqProofs (disch := omega) [List.getElem?_cons_zero, List.getElem?_cons_succ, wrap_id]
    refine finW (Wk_nil 2 1 3 rfl) ?_
    exact fin1 [0] trivial rfl rfl ⟨rfl, rfl⟩
  · simp -implicitDefEqProofs (disch := omega) [List.getElem?_cons_zero, List.getElem?_cons_succ, wrap_id, hx']
    exact fin1 [0] trivial rfl rfl ⟨rfl, rfl⟩
theorem cloneI_ok (xs : List Int) (hx : xs.length ≤ 1000000) : PC Try.prog 101 [.is xs] (.os 0 0 xs.length) [.row (xs.map .i) 1 3 false] := by
  refine PC_of_W cfn101 ?_
  simp -implicitDefEqProofs (disch := omega) [c101, List.getElem?_cons_zero, List.getElem?_cons_succ, wrap_id, stepK_eqn, eqnP]
  have hx' : xs.length ≤ 1048576 := by omega
  refine ⟨?_, ?_⟩
  · rintro rfl
    simp -implicitDefEqProofs (disch := omega) [List.getElem?_cons_zero, List.getElem?_cons_succ, wrap_id]
    refine finW (Wk_nil 2 1 3 rfl) ?_
    exact fin1 [0] trivial rfl rfl ⟨rfl, rfl⟩
  · simp -implicitDefEqProofs (disch := omega) [List.getElem?_cons_zero, List.getElem?_cons_succ, wrap_id, hx']
    exact fin1 [0] trivial rfl rfl ⟨rfl, rfl⟩
theorem drop_any {α : Type} (p : α → Bool) (xs : List α) (k : Nat) (h : k < xs.length) : (xs.drop k).any p = (p xs[k] || (xs.drop (k + 1)).any p) := by
  rw [List.drop_eq_getElem_cons h, List.any_cons]
section
variable {e : Bool} {f : FuncId} {fs cs : List AV} {H : List AO} {p : Int → Bool} {R : AV → List AO → Prop}
theorem idxf_ok (xs : List Int) (hx : xs.length ≤ 4611686018427387904) (hc : callable Try.prog f = true) (hf : ∀ e k K, K (.b (p k)) H → HC Try.prog e f (fs ++ .i k :: cs) H K) (hR : ∀ i : Int, (0 ≤ i ↔ xs.any p = true) → R (.i i) H) :
    HC Try.prog false 110 [.p (.is xs), .fn (.func f) fs cs] H R := by
  refine HC_of_W (af := _) ((by exact cfn110 : cfn _ _ _ = some _)) ?_
  simp -implicitDefEqProofs (disch := omega) [c110, List.getElem?_cons_zero, List.getElem?_cons_succ, wrap_id]
  refine loopW xs.length (fun k s => s = ⟨[(8, .i k), (7, .i xs.length), (6, .p (.is xs)), (0, .p (.is xs)), (1, .fn (.func f) fs cs)], H⟩ ∧ xs.any p = (xs.drop k).any p) (Wk_keep [8, 7, 6, 0, 1]) ⟨rfl, rfl⟩ ?_
  rintro k s hk ⟨rfl, hI⟩
  by_cases hlt : k < xs.length
  · have hd := drop_any p xs k hlt
    simp -implicitDefEqProofs (disch := omega) [List.getElem?_cons_zero, List.getElem?_cons_succ, wrap_id, hlt]
    refine ⟨hc, ?_⟩
    refine hf _ _ _ ?_
    cases hv : p xs[k]
    · rw [hv] at hd
      simp -implicitDefEqProofs (disch := omega) [List.getElem?_cons_zero, List.getElem?_cons_succ, wrap_id]
      exact round_keep [8, 7, 6, 0, 1] hlt ⟨rfl, by rw [hI, hd]; rfl⟩
    · rw [hv] at hd
      simp -implicitDefEqProofs (disch := omega) [List.getElem?_cons_zero, List.getElem?_cons_succ, wrap_id]
      exact finH trivial rfl (hR _ (by rw [hI, hd]; simp))
  · simp -implicitDefEqProofs (disch := omega) [List.getElem?_cons_zero, List.getElem?_cons_succ, wrap_id, hlt]
    exact finH trivial rfl (hR _ (by rw [hI, List.drop_of_length_le (Nat.le_of_not_lt hlt)]; simp))
theorem hasf_ok (xs : List Int) (hx : xs.length ≤ 4611686018427387904) (hc : callable Try.prog f = true) (hf : ∀ e k K, K (.b (p k)) H → HC Try.prog e f (fs ++ .i k :: cs) H K) (hR : R (.b (xs.any p)) H) :
    HC Try.prog false 92 [.p (.is xs), .fn (.func f) fs cs] H R := by
  refine HC_of_W (af := _) ((by exact cfn92 : cfn _ _ _ = some _)) ?_
  simp -implicitDefEqProofs (disch := omega) [c92, List.getElem?_cons_zero, List.getElem?_cons_succ, wrap_id]
  refine idxf_ok xs hx hc hf fun i hi => ?_
  by_cases h : 0 ≤ i
  · have hv := hi.1 h
    rw [hv] at hR
    simp -implicitDefEqProofs (disch := omega) [List.getElem?_cons_zero, List.getElem?_cons_succ, wrap_id, h]
    exact finH trivial rfl hR
  · have hv : xs.any p = false := by cases hq : xs.any p; rfl; exact absurd (hi.2 hq) h
    rw [hv] at hR
    simp -implicitDefEqProofs (disch := omega) [List.getElem?_cons_zero, List.getElem?_cons_succ, wrap_id, h]
    exact finH trivial rfl hR
end
theorem bdd1_ok (k : Int) : PC Try.prog 93 [.i k] (.b (!inB k)) [] := by
  refine PC_of_W cfn93 ?_
  by_cases h1 : k < -1048576
  · have hv : inB k = false := by simp [inB]; omega
    simp -implicitDefEqProofs (disch := omega) [c93, List.getElem?_cons_zero, List.getElem?_cons_succ, wrap_id, h1]
    (refine fin0 trivial rfl ?_; simp -implicitDefEqProofs (disch := omega) [List.getElem?_cons_zero, List.getElem?_cons_succ, idx, wrap_id, hv])
  by_cases h2 : 1048576 < k
  · have hv : inB k = false := by simp [inB]; omega
    simp -implicitDefEqProofs (disch := omega) [c93, List.getElem?_cons_zero, List.getElem?_cons_succ, wrap_id, h1, h2]
    (refine fin0 trivial rfl ?_; simp -implicitDefEqProofs (disch := omega) [List.getElem?_cons_zero, List.getElem?_cons_succ, idx, wrap_id, hv])
  · have hv : inB k = true := by simp [inB]; omega
    simp -implicitDefEqProofs (disch := omega) [c93, List.getElem?_cons_zero, List.getElem?_cons_succ, wrap_id, h1, h2]
    (refine fin0 trivial rfl ?_; simp -implicitDefEqProofs (disch := omega) [List.getElem?_cons_zero, List.getElem?_cons_succ, idx, wrap_id, hv])
theorem bounded_ok (d : List Int) (hd : d.length ≤ 4611686018427387904) : PC Try.prog 67 [.is d] (.tup [.p (.is (Sand.resL 0 d)), .i (resE 0 d)]) [] := by
  refine PC_of_W cfn67 ?_
  simp -implicitDefEqProofs (disch := omega) [c67, List.getElem?_cons_zero, List.getElem?_cons_succ, wrap_id]
  refine hasf_ok (p := fun k => !inB k) d hd (by kernel_rfl) (fun e k K hK => HC_of_PC rfl (bdd1_ok k) (by simpa [hpast, calmA, calmP, AV.ren] using hK)) ?_
  rw [any_not]
  cases hv : d.all inB
  · simp -implicitDefEqProofs (disch := omega) [List.getElem?_cons_zero, List.getElem?_cons_succ, wrap_id]
    refine finW (Wk_nil0 2 rfl) ?_
    (refine fin0 trivial rfl ?_; simp -implicitDefEqProofs (disch := omega) [List.getElem?_cons_zero, List.getElem?_cons_succ, idx, wrap_id, Sand.resL, resE, bndE, hv])
  · simp -implicitDefEqProofs (disch := omega) [List.getElem?_cons_zero, List.getElem?_cons_succ, wrap_id]
    (refine fin0 trivial rfl ?_; simp -implicitDefEqProofs (disch := omega) [List.getElem?_cons_zero, List.getElem?_cons_succ, idx, wrap_id, Sand.resL, resE, bndE, hv])
end Go.Proofs.Ytgjaekbbdmhjlaa
/-
  Contracts: what a script changes, in package firing.
-/
set_option linter.unusedSimpArgs false
namespace Go.Proofs.Ytgjaekbbdmhjlaa
open Go.Abs Go.Sand

theorem Bd.get {B : Int} {d : List Int} (h : Bd B d) {k : Nat} (hk : k < d.length) : -B ≤ d[k] ∧ d[k] ≤ B := by
  have := h k
  rwa [getD_get hk] at this
theorem moved1_ok {n : Nat} (x : Ed) (s d : List Int) (hx : Right n x) (hs : s.length = n) (hd : d.length = n) (B1 : Bd 1048576 s) (B2 : Bd 4611686018427 d) {O0 O4 : AO} {R : AV → List AO → Prop}
    (hR : ∀ O5, R (.tup []) [O0, .box (.p (.is s)), .box (.os 3 0 n), .row ((movE s x d).map .i) 1 3 false, O4, O5]) :
    HC Try.prog false 109 [.p (edP x), .ptr 1 1 0 0, .ptr 2 1 0 0] [O0, .box (.p (.is s)), .box (.os 3 0 n), .row (d.map .i) 1 3 false, O4] R := by
  refine HC_of_W (af := _) ((by exact cfn109 : cfn _ _ _ = some _)) ?_
  have hfl := flow_bd B1 (x := x) (by have := hx.m1; omega) hx.m50
  obtain ⟨xa, xb, m⟩ := x
  have q1 := hx.a0
  have q2 := hx.ab
  have q3 := hx.bn
  dsimp only at q1 q2 q3
  obtain ⟨a, rfl⟩ : ∃ a : Nat, xa = a := ⟨xa.toNat, by omega⟩
  obtain ⟨b, rfl⟩ : ∃ b : Nat, xb = b := ⟨xb.toNat, by omega⟩
  subst hd
  have ha : a < s.length := by omega
  have hb : b < s.length := by omega
  have ha' : a < d.length := by omega
  have hb' : b < d.length := by omega
  have s1 := Bd.get B1 ha
  have s2 := Bd.get B1 hb
  have d1 := Bd.get B2 ha'
  have d2 := Bd.get B2 hb'
  simp only [flow, Int.toNat_natCast, getD_get ha, getD_get hb] at hfl
  have hw : IntKind.i64.wrap (m * (s[a] - s[b])) = m * (s[a] - s[b]) := wrap_id (by omega) (by omega)
  by_cases hab : a = b
  · subst hab
    have hq : ∀ v, ((d.map PV.i).set a v)[a]? = some v := fun v => by simp [ha']
    have hE : (movE s ⟨a, a, m⟩ d).map PV.i = (d.map PV.i).set a (.i d[a]) := by
      simp [movE, flow, getD_get ha', ha', List.map_set, getD_set]
      rw [← List.map_set, List.set_getElem_self]
    simp -implicitDefEqProofs (disch := omega) [c109, List.getElem?_cons_zero, List.getElem?_cons_succ, wrap_id, ha, ha', hw, hq]
    refine finH trivial rfl ?_
    have := hR (.box (.p (edP ⟨a, a, m⟩)))
    rwa [hE] at this
  · have hE : (movE s ⟨a, b, m⟩ d).map PV.i = ((d.map PV.i).set a (.i (d[a] - m * (s[a] - s[b])))).set b (.i (d[b] + m * (s[a] - s[b]))) := by
      simp [movE, flow, getD_get ha, getD_get hb, getD_get ha', getD_get hb', hab, ha, hb, ha', hb', List.map_set, getD_set]
    simp -implicitDefEqProofs (disch := omega) [c109, List.getElem?_cons_zero, List.getElem?_cons_succ, wrap_id, ha, ha', hb, hb', hab, hw]
    refine finH trivial rfl ?_
    have := hR (.box (.p (edP ⟨a, b, m⟩)))
    rwa [hE] at this
theorem movedE_bd {B : Int} {n : Int} {es : List Ed} {s : List Int} (hg : ∀ x ∈ es, Right n x) (hs : Bd 1048576 s) : ∀ (k : Nat) (_ : k ≤ es.length) {d : List Int}, Bd B d → Bd (B + 209715200 * k) (movedE (es.take k) s d)
  | 0, _, d, hd => by simpa [movedE] using hd
  | k + 1, h, d, hd => by
    have hr := hg es[k] (List.getElem_mem (by omega))
    rw [movedE_snoc es s d k (by omega)]
    exact ((movedE_bd hg hs k (by omega) hd).movE hs (by have := hr.m1; omega) hr.m50).more (by push_cast; omega)
theorem moved_ok (n : Nat) (es : List Ed) (s d : List Int) (hg : ∀ x ∈ es, Right n x) (hs : s.length = n) (hd : d.length = n) (hn : n ≤ 1000) (he : es.length ≤ 1000) (B1 : Bd 1048576 s) (B2 : Bd 1073741824 d) :
    PC Try.prog 90 [G n es, .is d, .is s] (.p (.is (movedE es s d))) [] := by
  refine PC_of_W cfn90 ?_
  simp -implicitDefEqProofs (disch := omega) [c90, List.getElem?_cons_zero, List.getElem?_cons_succ, wrap_id]
  refine HC_of_PC rfl (clone_ok d (by omega)) ?_
  simp -implicitDefEqProofs (disch := omega) [List.getElem?_cons_zero, List.getElem?_cons_succ, wrap_id]
  subst hd
  refine loopW es.length (fun k s0 => s0 = ⟨[(17, .i k), (16, .i es.length), (15, .p (.sl (es.map edP))), (8, .fn (.func 109) [] [.ptr 1 1 0 0, .ptr 2 1 0 0]), (7, .ptr 2 1 0 0)], [.box (.p (G d.length es)), .box (.p (.is s)), .box (.os 3 0 d.length), .row ((movedE (es.take k) s d).map .i) 1 3 false]⟩) (wk_norm [0, 1, 3, 2] [17, 16, 15, 8, 7] rfl rfl) rfl ?_
  rintro k s0 hk rfl
  by_cases hlt : k < es.length
  rotate_left
  · have : k = es.length := by omega
    subst this
    rw [List.take_length]
    simp -implicitDefEqProofs (disch := omega) [List.getElem?_cons_zero, List.getElem?_cons_succ, wrap_id]
    (refine fin0 trivial rfl ?_; simp -implicitDefEqProofs (disch := omega) [List.getElem?_cons_zero, List.getElem?_cons_succ, idx, wrap_id, movedE_length])
  have hb := movedE_bd hg B1 k hk B2
  simp -implicitDefEqProofs (disch := omega) [List.getElem?_cons_zero, List.getElem?_cons_succ, wrap_id, hlt]
  refine ⟨by kernel_rfl, moved1_ok es[k] s (movedE (es.take k) s d) (hg _ (List.getElem_mem hlt)) hs (movedE_length _ _ _) B1 (hb.more (by omega)) fun O5 => ?_⟩
  simp -implicitDefEqProofs (disch := omega) [List.getElem?_cons_zero, List.getElem?_cons_succ, wrap_id]
  exact round_end [0, 1, 2, 3] [17, 16, 15, 8, 7] hlt rfl (by rw [movedE_snoc es s d k hlt]; rfl)
end Go.Proofs.Ytgjaekbbdmhjlaa
/-
  Contracts: what a script changes, in the reference.
-/
set_option linter.unusedSimpArgs false
namespace Go.Proofs.Ytgjaekbbdmhjlaa
open Go.Abs Go.Sand

theorem rmoved_ok (n : Nat) (es : List Ed) (s d : List Int) (hg : GoodG n es) (hs : s.length = n) (hd : d.length = n) (he : es.length ≤ 1000) (B1 : Bd 1048576 s) (B2 : Bd 1073741824 d) :
    PC Try.prog 60 [G n es, .is d, .is s] (.p (.is (movedE es s d))) [] := by
  refine PC_of_W cfn60 ?_
  have hn := hg.n12
  have hd' : d.length ≤ 1048576 := by omega
  have hsame := moved_same hg s d hd
  have hbw := betw_bd hg.right
  have hst := mvR_start n es s d hd
  simp -implicitDefEqProofs (disch := omega) [c60, List.getElem?_cons_zero, List.getElem?_cons_succ, wrap_id, hd']
  refine loopW n (fun v st => st = ⟨[(8, .i v), (7, .os 1 0 n), (3, .ptr 0 1 0 0), (2, .p (.is s))], [.box (.p (G n es)), .row ((mvR n es s d v).map .i) 1 3 false]⟩) (wk_norm [0, 1] [8, 7, 3, 2] rfl rfl) (by rw [hst]; subst hd; rfl) ?_
  rintro v st hv rfl
  by_cases hlt : v < n
  rotate_left
  · have : v = n := by omega
    subst this
    simp -implicitDefEqProofs (disch := omega) [List.getElem?_cons_zero, List.getElem?_cons_succ, wrap_id]
    (refine fin0 trivial rfl ?_; simp -implicitDefEqProofs (disch := omega) [List.getElem?_cons_zero, List.getElem?_cons_succ, idx, wrap_id, mvR_length, hsame])
  have hml := mvR_length n es s d v
  have hvs : v < s.length := by omega
  have hvd : v < d.length := by omega
  have hd0 := Bd.get B2 hvd
  have hdg := getD_get hvd
  simp -implicitDefEqProofs (disch := omega) [List.getElem?_cons_zero, List.getElem?_cons_succ, wrap_id, hlt]
  refine loopW n (fun w st => st = ⟨[(9, .i w), (8, .i v), (7, .os 1 0 n), (3, .ptr 0 1 0 0), (2, .p (.is s))], [.box (.p (G n es)), .row (((mvR n es s d v).map .i).set v (.i (d.getD v 0 + rowTo es s v w))) 1 3 false]⟩) (wk_norm [0, 1] [9, 8, 7, 3, 2] rfl rfl) (by have := mvR_set0 n es s d v hlt; rw [← List.map_set]; rw [show rowTo es s v 0 = 0 from rfl, this]; rfl) ?_
  rintro w st hw rfl
  have hb0 := rowTo_bd hbw B1 v w
  by_cases hlw : w < n
  · have hws : w < s.length := by omega
    have hb1 := rowTo_bd hbw B1 v (w + 1)
    have hro : rowTo es s v (w + 1) = rowTo es s v w + if w = v then 0 else betw es (min (v : Int) w) (max (v : Int) w) * (s.getD w 0 - s.getD v 0) := rfl
    have hqv : ∀ x, (((mvR n es s d v).map PV.i).set v x)[v]? = some x := fun x => by simp [hml, hlt]
    by_cases hwv : v = w
    · subst hwv
      rw [if_pos rfl, Int.add_zero] at hro
      simp -implicitDefEqProofs (disch := omega) [List.getElem?_cons_zero, List.getElem?_cons_succ, wrap_id, hlt]
      exact round_end [0, 1] [9, 8, 7, 3, 2] hlw rfl (by rw [hro]; rfl)
    · have hwv' : ¬ w = v := fun h => hwv h.symm
      have hwi : ¬ (v : Int) = w := by omega
      rw [if_neg hwv', getD_get hws, getD_get hvs] at hro
      rw [hro] at hb1
      have s1 := Bd.get B1 hws
      have s2 := Bd.get B1 hvs
      have hb2 := hbw (min (v : Int) w) (max (v : Int) w)
      have hfl := flow_bd B1 (x := ⟨w, v, betw es (min (v : Int) w) (max (v : Int) w)⟩) hb2.1 hb2.2
      simp only [flow, Int.toNat_natCast, getD_get hws, getD_get hvs] at hfl
      have hw1 := wrap_id (n := betw es (min (v : Int) w) (max (v : Int) w) * (s[w] - s[v])) (by omega) (by omega)
      simp -implicitDefEqProofs (disch := omega) [List.getElem?_cons_zero, List.getElem?_cons_succ, wrap_id, hlt, hlw, hvs, hws, hwi, hqv, hml]
      refine HC_of_PC rfl (rbetw_ok n v w es (by omega)) ?_
      simp -implicitDefEqProofs (disch := omega) [List.getElem?_cons_zero, List.getElem?_cons_succ, wrap_id, hlt, hlw, hvs, hws, hwi, hqv, hml, hw1]
      exact round_end [0, 1] [9, 8, 7, 3, 2] hlw rfl (by rw [hro, ← Int.add_assoc]; rfl)
  · have : w = n := by omega
    subst this
    have hms := mvR_set w es s d v hlt
    rw [hdg] at hms
    simp -implicitDefEqProofs (disch := omega) [List.getElem?_cons_zero, List.getElem?_cons_succ, wrap_id]
    exact round_end [0, 1] [8, 7, 3, 2] hlt rfl (by rw [← hms]; simp only [List.map_set]; rfl)
theorem of_ok (n : Nat) (es : List Ed) (set : List Int) (t : Int) (hn : n ≤ 1000) (hs : ∀ x ∈ set, 0 ≤ x ∧ x < (n : Int)) (hl : set.length ≤ 4611686018427387904) : PC Try.prog 91 [G n es, .is set, .i t] (.p (.is (ofL n set t))) [] := by
  refine PC_of_W cfn91 ?_
  have hn' : n ≤ 1048576 := by omega
  simp -implicitDefEqProofs (disch := omega) [c91, List.getElem?_cons_zero, List.getElem?_cons_succ, wrap_id, hn']
  refine loopW set.length (fun k st => st = ⟨[(15, .i k), (14, .i set.length), (13, .p (.is set)), (7, .os 0 0 n), (2, .i t)], [.row ((ofL n (set.take k) t).map .i) 1 3 false]⟩) (wk_norm [1] [15, 14, 13, 7, 2] rfl rfl) (by simp [ofL, norm, renH, Abs.get, AV.ren, AO.ren, idx]) ?_
  rintro k st hk rfl
  by_cases hlt : k < set.length
  · obtain ⟨v, hv⟩ : ∃ v : Nat, set[k] = v := ⟨set[k].toNat, by have := hs _ (List.getElem_mem hlt); omega⟩
    have hvn : v < n := by have := hs _ (List.getElem_mem hlt); omega
    have hol := ofL_length n (set.take k) t
    have hsn := ofL_snoc n set t k hlt
    rw [hv, Int.toNat_natCast] at hsn
    simp -implicitDefEqProofs (disch := omega) [List.getElem?_cons_zero, List.getElem?_cons_succ, wrap_id, hlt, hv, hvn, hol]
    exact round_end [0] [15, 14, 13, 7, 2] hlt rfl (by rw [hsn, List.map_set]; rfl)
  · have : k = set.length := by omega
    subst this
    rw [List.take_length]
    simp -implicitDefEqProofs (disch := omega) [List.getElem?_cons_zero, List.getElem?_cons_succ, wrap_id]
    (refine fin0 trivial rfl ?_; simp -implicitDefEqProofs (disch := omega) [List.getElem?_cons_zero, List.getElem?_cons_succ, idx, wrap_id, ofL_length])
theorem one_ok (n v : Nat) (es : List Ed) (t : Int) (hn : n ≤ 1000) (hv : v < n) : PC Try.prog 79 [G n es, .i v, .i t] (.p (.is (ofL n [(v : Int)] t))) [] := by
  refine PC_of_W cfn79 ?_
  have hn' : n ≤ 1048576 := by omega
  simp -implicitDefEqProofs (disch := omega) [c79, List.getElem?_cons_zero, List.getElem?_cons_succ, wrap_id, hn', hv]
  (refine fin0 trivial rfl ?_; simp -implicitDefEqProofs (disch := omega) [List.getElem?_cons_zero, List.getElem?_cons_succ, idx, wrap_id, ofL, List.map_set, AO.len])
end Go.Proofs.Ytgjaekbbdmhjlaa
/-
  Contracts: what a script changes, and bounds it.
-/
set_option linter.unusedSimpArgs false
set_option linter.unusedVariables false
namespace Go.Proofs.Ytgjaekbbdmhjlaa
open Go.Abs Go.Sand

abbrev resT2 (e : Int) (m : List Int) : AV := .tup [.p (.is (Sand.resL e m)), .i (resE e m)]
def chgM (es : List Ed) (N : Int) (s : List Int) : List Int := movedE es s (List.replicate N.toNat 0)
end Go.Proofs.Ytgjaekbbdmhjlaa
