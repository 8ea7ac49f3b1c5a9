/-
  Contracts: package graph, sets and valences; what is given.
-/
import Derived.Test.YtddgepjmfnodhaaMra
set_option linter.unusedSimpArgs false
namespace Go.Proofs.Ytddgepjmfnodhaa
open Go.Abs Go.Sand

def atErr (N : Int) (es : List Ed) (vs : List Int) : Int := if gcheck N es ≠ 0 then gcheck N es else atE N vs
theorem given_ok' (N : Int) (es : List Ed) (d : List Int) (hel : es.length ≤ 4611686018427387904) (hd : d.length ≤ 4611686018427387904) : PC Try.prog 88 [G N es, .is d] (.i (givenE N es d)) [] := by
  refine PC_of_W cfn88 ?_
  simp -implicitDefEqProofs (disch := omega) [c88, List.getElem?_cons_zero, List.getElem?_cons_succ, wrap_id]
  refine HC_of_PC rfl (gcheck_ok' N es hel) ?_
  by_cases h0 : gcheck N es = 0
  · simp -implicitDefEqProofs (disch := omega) [List.getElem?_cons_zero, List.getElem?_cons_succ, wrap_id, h0]
    refine HC_of_PC rfl (chk_ok d N hd) ?_
    simp -implicitDefEqProofs (disch := omega) [List.getElem?_cons_zero, List.getElem?_cons_succ, wrap_id]
    (refine fin0 trivial rfl ?_; simp -implicitDefEqProofs (disch := omega) [List.getElem?_cons_zero, List.getElem?_cons_succ, idx, wrap_id, givenE, h0])
  · simp -implicitDefEqProofs (disch := omega) [List.getElem?_cons_zero, List.getElem?_cons_succ, wrap_id, h0]
    (refine fin0 trivial rfl ?_; simp -implicitDefEqProofs (disch := omega) [List.getElem?_cons_zero, List.getElem?_cons_succ, idx, wrap_id, givenE, h0])
theorem fcheck_ok (N : Int) (es : List Ed) (d : List Int) (hel : es.length ≤ 4611686018427387904) (hd : d.length ≤ 4611686018427387904) : PC Try.prog 55 [G N es, .is d] (.i (givenE N es d)) [] := by
  refine PC_of_W cfn55 ?_
  simp -implicitDefEqProofs (disch := omega) [c55, List.getElem?_cons_zero, List.getElem?_cons_succ, wrap_id]
  refine HC_of_PC rfl (given_ok' N es d hel hd) ?_
  simp -implicitDefEqProofs (disch := omega) [List.getElem?_cons_zero, List.getElem?_cons_succ, wrap_id]
  (refine fin0 trivial rfl ?_; simp -implicitDefEqProofs (disch := omega) [List.getElem?_cons_zero, List.getElem?_cons_succ, idx, wrap_id])
end Go.Proofs.Ytddgepjmfnodhaa
/-
  Contracts: package slices; what a script changes.
-/
set_option linter.unusedSimpArgs false
namespace Go.Proofs.Ytddgepjmfnodhaa
open Go.Abs Go.Sand

theorem clone_ok (xs : List Int) (hx : xs.length ≤ 1000000) : PC Try.prog 93 [.is xs] (.os 0 0 xs.length) [.row (xs.map .i) 1 3 false] := by
  refine PC_of_W cfn93 ?_
  simp -implicitDefEqProofs (disch := omega) [c93, List.getElem?_cons_zero, List.getElem?_cons_succ, wrap_id, stepK_eqn, eqnP]
  have hx' : xs.length ≤ 1048576 := by omega
  refine ⟨?_, ?_⟩
  · rintro rfl
    simp -implicitDefEqProofs (disch := omega) [List.getElem?_cons_zero, List.getElem?_cons_succ, wrap_id]
    refine finW (Wk_nil 2 1 3 rfl) ?_
    exact fin1 [0] trivial rfl rfl ⟨rfl, rfl⟩
  · simp -implicitDefEqProofs (disch := omega) [List.getElem?_cons_zero, List.getElem?_cons_succ, wrap_id, hx']
    exact fin1 [0] trivial rfl rfl ⟨rfl, rfl⟩
theorem drop_any {α : Type} (p : α → Bool) (xs : List α) (k : Nat) (h : k < xs.length) : (xs.drop k).any p = (p xs[k] || (xs.drop (k + 1)).any p) := by
  rw [List.drop_eq_getElem_cons h, List.any_cons]
section
variable {e : Bool} {f : FuncId} {fs cs : List AV} {H : List AO} {p : Int → Bool} {R : AV → List AO → Prop}
theorem idxf_ok (xs : List Int) (hx : xs.length ≤ 4611686018427387904) (hc : callable Try.prog f = true) (hf : ∀ e k K, K (.b (p k)) H → HC Try.prog e f (fs ++ .i k :: cs) H K) (hR : ∀ i : Int, (0 ≤ i ↔ xs.any p = true) → R (.i i) H) :
    HC Try.prog false 107 [.p (.is xs), .fn (.func f) fs cs] H R := by
  refine HC_of_W (af := _) ((by exact cfn107 : cfn _ _ _ = some _)) ?_
  simp -implicitDefEqProofs (disch := omega) [c107, List.getElem?_cons_zero, List.getElem?_cons_succ, wrap_id]
  refine loopW xs.length (fun k s => s = ⟨[(8, .i k), (7, .i xs.length), (6, .p (.is xs)), (0, .p (.is xs)), (1, .fn (.func f) fs cs)], H⟩ ∧ xs.any p = (xs.drop k).any p) (Wk_keep [8, 7, 6, 0, 1]) ⟨rfl, rfl⟩ ?_
  rintro k s hk ⟨rfl, hI⟩
  by_cases hlt : k < xs.length
  · have hd := drop_any p xs k hlt
    simp -implicitDefEqProofs (disch := omega) [List.getElem?_cons_zero, List.getElem?_cons_succ, wrap_id, hlt]
    refine ⟨hc, ?_⟩
    refine hf _ _ _ ?_
    cases hv : p xs[k]
    · rw [hv] at hd
      simp -implicitDefEqProofs (disch := omega) [List.getElem?_cons_zero, List.getElem?_cons_succ, wrap_id]
      exact round_keep [8, 7, 6, 0, 1] hlt ⟨rfl, by rw [hI, hd]; rfl⟩
    · rw [hv] at hd
      simp -implicitDefEqProofs (disch := omega) [List.getElem?_cons_zero, List.getElem?_cons_succ, wrap_id]
      exact finH trivial rfl (hR _ (by rw [hI, hd]; simp))
  · simp -implicitDefEqProofs (disch := omega) [List.getElem?_cons_zero, List.getElem?_cons_succ, wrap_id, hlt]
    exact finH trivial rfl (hR _ (by rw [hI, List.drop_of_length_le (Nat.le_of_not_lt hlt)]; simp))
theorem hasf_ok (xs : List Int) (hx : xs.length ≤ 4611686018427387904) (hc : callable Try.prog f = true) (hf : ∀ e k K, K (.b (p k)) H → HC Try.prog e f (fs ++ .i k :: cs) H K) (hR : R (.b (xs.any p)) H) :
    HC Try.prog false 91 [.p (.is xs), .fn (.func f) fs cs] H R := by
  refine HC_of_W (af := _) ((by exact cfn91 : cfn _ _ _ = some _)) ?_
  simp -implicitDefEqProofs (disch := omega) [c91, List.getElem?_cons_zero, List.getElem?_cons_succ, wrap_id]
  refine idxf_ok xs hx hc hf fun i hi => ?_
  by_cases h : 0 ≤ i
  · have hv := hi.1 h
    rw [hv] at hR
    simp -implicitDefEqProofs (disch := omega) [List.getElem?_cons_zero, List.getElem?_cons_succ, wrap_id, h]
    exact finH trivial rfl hR
  · have hv : xs.any p = false := by cases hq : xs.any p; rfl; exact absurd (hi.2 hq) h
    rw [hv] at hR
    simp -implicitDefEqProofs (disch := omega) [List.getElem?_cons_zero, List.getElem?_cons_succ, wrap_id, h]
    exact finH trivial rfl hR
end
theorem bdd1_ok (k : Int) : PC Try.prog 92 [.i k] (.b (!inB k)) [] := by
  refine PC_of_W cfn92 ?_
  by_cases h1 : k < -1048576
  · have hv : inB k = false := by simp [inB]; omega
    simp -implicitDefEqProofs (disch := omega) [c92, List.getElem?_cons_zero, List.getElem?_cons_succ, wrap_id, h1]
    (refine fin0 trivial rfl ?_; simp -implicitDefEqProofs (disch := omega) [List.getElem?_cons_zero, List.getElem?_cons_succ, idx, wrap_id, hv])
  by_cases h2 : 1048576 < k
  · have hv : inB k = false := by simp [inB]; omega
    simp -implicitDefEqProofs (disch := omega) [c92, List.getElem?_cons_zero, List.getElem?_cons_succ, wrap_id, h1, h2]
    (refine fin0 trivial rfl ?_; simp -implicitDefEqProofs (disch := omega) [List.getElem?_cons_zero, List.getElem?_cons_succ, idx, wrap_id, hv])
  · have hv : inB k = true := by simp [inB]; omega
    simp -implicitDefEqProofs (disch := omega) [c92, List.getElem?_cons_zero, List.getElem?_cons_succ, wrap_id, h1, h2]
    (refine fin0 trivial rfl ?_; simp -implicitDefEqProofs (disch := omega) [List.getElem?_cons_zero, List.getElem?_cons_succ, idx, wrap_id, hv])
theorem bounded_ok (d : List Int) (hd : d.length ≤ 4611686018427387904) : PC Try.prog 61 [.is d] (.tup [.p (.is (Sand.resL 0 d)), .i (resE 0 d)]) [] := by
  refine PC_of_W cfn61 ?_
  simp -implicitDefEqProofs (disch := omega) [c61, List.getElem?_cons_zero, List.getElem?_cons_succ, wrap_id]
  refine hasf_ok (p := fun k => !inB k) d hd (by kernel_rfl) (fun e k K hK => HC_of_PC rfl (bdd1_ok k) (by simpa [hpast, calmA, calmP, AV.ren] using hK)) ?_
  rw [any_not]
  cases hv : d.all inB
  · simp -implicitDefEqProofs (disch := omega) [List.getElem?_cons_zero, List.getElem?_cons_succ, wrap_id]
    refine finW (Wk_nil0 2 rfl) ?_
    (refine fin0 trivial rfl ?_; simp -implicitDefEqProofs (disch := omega) [List.getElem?_cons_zero, List.getElem?_cons_succ, idx, wrap_id, Sand.resL, resE, bndE, hv])
  · simp -implicitDefEqProofs (disch := omega) [List.getElem?_cons_zero, List.getElem?_cons_succ, wrap_id]
    (refine fin0 trivial rfl ?_; simp -implicitDefEqProofs (disch := omega) [List.getElem?_cons_zero, List.getElem?_cons_succ, idx, wrap_id, Sand.resL, resE, bndE, hv])
end Go.Proofs.Ytddgepjmfnodhaa
/-
  Contracts: what a script changes, in package firing.
-/
set_option linter.unusedSimpArgs false
namespace Go.Proofs.Ytddgepjmfnodhaa
open Go.Abs Go.Sand

theorem Bd.get {B : Int} {d : List Int} (h : Bd B d) {k : Nat} (hk : k < d.length) : -B ≤ d[k] ∧ d[k] ≤ B := by
  have := h k
  rwa [getD_get hk] at this
theorem moved1_ok {n : Nat} (x : Ed) (s d : List Int) (hx : Right n x) (hs : s.length = n) (hd : d.length = n) (B1 : Bd 1048576 s) (B2 : Bd 4611686018427 d) {O0 O4 : AO} {R : AV → List AO → Prop}
    (hR : ∀ O5, R (.tup []) [O0, .box (.p (.is s)), .box (.os 3 0 n), .row ((movE s x d).map .i) 1 3 false, O4, O5]) :
    HC Try.prog false 94 [.p (edP x), .ptr 1 1 0 0, .ptr 2 1 0 0] [O0, .box (.p (.is s)), .box (.os 3 0 n), .row (d.map .i) 1 3 false, O4] R := by
  refine HC_of_W (af := _) ((by exact cfn94 : cfn _ _ _ = some _)) ?_
  have hfl := flow_bd B1 (x := x) (by have := hx.m1; omega) hx.m50
  obtain ⟨xa, xb, m⟩ := x
  have q1 := hx.a0
  have q2 := hx.ab
  have q3 := hx.bn
  dsimp only at q1 q2 q3
  obtain ⟨a, rfl⟩ : ∃ a : Nat, xa = a := ⟨xa.toNat, by omega⟩
  obtain ⟨b, rfl⟩ : ∃ b : Nat, xb = b := ⟨xb.toNat, by omega⟩
  subst hd
  have ha : a < s.length := by omega
  have hb : b < s.length := by omega
  have ha' : a < d.length := by omega
  have hb' : b < d.length := by omega
  have s1 := Bd.get B1 ha
  have s2 := Bd.get B1 hb
  have d1 := Bd.get B2 ha'
  have d2 := Bd.get B2 hb'
  simp only [flow, Int.toNat_natCast, getD_get ha, getD_get hb] at hfl
  have hw : IntKind.i64.wrap (m * (s[a] - s[b])) = m * (s[a] - s[b]) := wrap_id (by omega) (by omega)
  by_cases hab : a = b
  · subst hab
    have hq : ∀ v, ((d.map PV.i).set a v)[a]? = some v := fun v => by simp [ha']
    have hE : (movE s ⟨a, a, m⟩ d).map PV.i = (d.map PV.i).set a (.i d[a]) := by
      simp [movE, flow, getD_get ha', ha', List.map_set, getD_set]
      rw [← List.map_set, List.set_getElem_self]
    simp -implicitDefEqProofs (disch := omega) [c94, List.getElem?_cons_zero, List.getElem?_cons_succ, wrap_id, ha, ha', hw, hq]
    refine finH trivial rfl ?_
    have := hR (.box (.p (edP ⟨a, a, m⟩)))
    rwa [hE] at this
  · have hE : (movE s ⟨a, b, m⟩ d).map PV.i = ((d.map PV.i).set a (.i (d[a] - m * (s[a] - s[b])))).set b (.i (d[b] + m * (s[a] - s[b]))) := by
      simp [movE, flow, getD_get ha, getD_get hb, getD_get ha', getD_get hb', hab, ha, hb, ha', hb', List.map_set, getD_set]
    simp -implicitDefEqProofs (disch := omega) [c94, List.getElem?_cons_zero, List.getElem?_cons_succ, wrap_id, ha, ha', hb, hb', hab, hw]
    refine finH trivial rfl ?_
    have := hR (.box (.p (edP ⟨a, b, m⟩)))
    rwa [hE] at this
theorem movedE_bd {B : Int} {n : Int} {es : List Ed} {s : List Int} (hg : ∀ x ∈ es, Right n x) (hs : Bd 1048576 s) : ∀ (k : Nat) (_ : k ≤ es.length) {d : List Int}, Bd B d → Bd (B + 209715200 * k) (movedE (es.take k) s d)
  | 0, _, d, hd => by simpa [movedE] using hd
  | k + 1, h, d, hd => by
    have hr := hg es[k] (List.getElem_mem (by omega))
    rw [movedE_snoc es s d k (by omega)]
    exact ((movedE_bd hg hs k (by omega) hd).movE hs (by have := hr.m1; omega) hr.m50).more (by push_cast; omega)
theorem moved_ok (n : Nat) (es : List Ed) (s d : List Int) (hg : ∀ x ∈ es, Right n x) (hs : s.length = n) (hd : d.length = n) (hn : n ≤ 1000) (he : es.length ≤ 1000) (B1 : Bd 1048576 s) (B2 : Bd 1073741824 d) :
    PC Try.prog 62 [G n es, .is d, .is s] (.p (.is (movedE es s d))) [] := by
  refine PC_of_W cfn62 ?_
  simp -implicitDefEqProofs (disch := omega) [c62, List.getElem?_cons_zero, List.getElem?_cons_succ, wrap_id]
  refine HC_of_PC rfl (clone_ok d (by omega)) ?_
  simp -implicitDefEqProofs (disch := omega) [List.getElem?_cons_zero, List.getElem?_cons_succ, wrap_id]
  subst hd
  refine loopW es.length (fun k s0 => s0 = ⟨[(17, .i k), (16, .i es.length), (15, .p (.sl (es.map edP))), (8, .fn (.func 94) [] [.ptr 1 1 0 0, .ptr 2 1 0 0]), (7, .ptr 2 1 0 0)], [.box (.p (G d.length es)), .box (.p (.is s)), .box (.os 3 0 d.length), .row ((movedE (es.take k) s d).map .i) 1 3 false]⟩) (wk_norm [0, 1, 3, 2] [17, 16, 15, 8, 7] rfl rfl) rfl ?_
  rintro k s0 hk rfl
  by_cases hlt : k < es.length
  rotate_left
  · have : k = es.length := by omega
    subst this
    rw [List.take_length]
    simp -implicitDefEqProofs (disch := omega) [List.getElem?_cons_zero, List.getElem?_cons_succ, wrap_id]
    (refine fin0 trivial rfl ?_; simp -implicitDefEqProofs (disch := omega) [List.getElem?_cons_zero, List.getElem?_cons_succ, idx, wrap_id, movedE_length])
  have hb := movedE_bd hg B1 k hk B2
  simp -implicitDefEqProofs (disch := omega) [List.getElem?_cons_zero, List.getElem?_cons_succ, wrap_id, hlt]
  refine ⟨by kernel_rfl, moved1_ok es[k] s (movedE (es.take k) s d) (hg _ (List.getElem_mem hlt)) hs (movedE_length _ _ _) B1 (hb.more (by omega)) fun O5 => ?_⟩
  simp -implicitDefEqProofs (disch := omega) [List.getElem?_cons_zero, List.getElem?_cons_succ, wrap_id]
  exact round_end [0, 1, 2, 3] [17, 16, 15, 8, 7] hlt rfl (by rw [movedE_snoc es s d k hlt]; rfl)
end Go.Proofs.Ytddgepjmfnodhaa
/-
  Contracts: what a script changes, in the reference.
-/
set_option linter.unusedSimpArgs false
namespace Go.Proofs.Ytddgepjmfnodhaa
open Go.Abs Go.Sand

end Go.Proofs.Ytddgepjmfnodhaa
/-
  Contracts: what a script changes, and bounds it.
-/
set_option linter.unusedSimpArgs false
set_option linter.unusedVariables false
namespace Go.Proofs.Ytddgepjmfnodhaa
open Go.Abs Go.Sand

abbrev resT2 (e : Int) (m : List Int) : AV := .tup [.p (.is (Sand.resL e m)), .i (resE e m)]
def chgM (es : List Ed) (N : Int) (s : List Int) : List Int := movedE es s (List.replicate N.toNat 0)
theorem change_ok (N : Int) (es : List Ed) (s : List Int) (he : es.length ≤ 1000) (hs : s.length ≤ 4611686018427387904) : PC Try.prog 29 [G N es, .is s] (resT2 (givenE N es s) (chgM es N s)) [] := by
  refine PC_of_W cfn29 ?_
  simp -implicitDefEqProofs (disch := omega) [c29, List.getElem?_cons_zero, List.getElem?_cons_succ, wrap_id]
  refine HC_of_PC rfl (fcheck_ok N es s (by omega) hs) ?_
  by_cases h0 : givenE N es s = 0
  · obtain ⟨n, rfl, hg, hl, hb, hn1, hn⟩ := given_ok h0
    have hn' : n ≤ 1048576 := by omega
    simp -implicitDefEqProofs (disch := omega) [List.getElem?_cons_zero, List.getElem?_cons_succ, wrap_id, h0, hn']
    rw [← List.map_replicate (f := PV.i)]
    refine HC_of_PC (by simp [views, view, viewC]) (moved_ok n es s (List.replicate n 0) hg.right hl (by simp) (by omega) he hb (zeros_bd n)) ?_
    simp -implicitDefEqProofs (disch := omega) [List.getElem?_cons_zero, List.getElem?_cons_succ, wrap_id]
    refine HC_of_PC rfl (bounded_ok _ (by rw [movedE_length, List.length_replicate]; omega)) ?_
    simp -implicitDefEqProofs (disch := omega) [List.getElem?_cons_zero, List.getElem?_cons_succ, wrap_id]
    (refine fin0 trivial rfl ?_; simp -implicitDefEqProofs (disch := omega) [List.getElem?_cons_zero, List.getElem?_cons_succ, idx, wrap_id, h0, chgM])
  · have hr := res_err (m := chgM es N s) h0
    simp -implicitDefEqProofs (disch := omega) [List.getElem?_cons_zero, List.getElem?_cons_succ, wrap_id, h0]
    refine finW (Wk_nil0 4 rfl) ?_
    (refine fin0 trivial rfl ?_; simp -implicitDefEqProofs (disch := omega) [List.getElem?_cons_zero, List.getElem?_cons_succ, idx, wrap_id, hr.1, hr.2])
end Go.Proofs.Ytddgepjmfnodhaa
