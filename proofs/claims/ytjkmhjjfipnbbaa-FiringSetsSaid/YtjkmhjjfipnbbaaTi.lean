/-
  Contracts: what a script changes, in package firing.
-/
import Derived.Test.YtjkmhjjfipnbbaaTh
set_option linter.unusedSimpArgs false
namespace Go.Proofs.Ytjkmhjjfipnbbaa
open Go.Abs Go.Sand

theorem Bd.get {B : Int} {d : List Int} (h : Bd B d) {k : Nat} (hk : k < d.length) : -B ≤ d[k] ∧ d[k] ≤ B := by
  have := h k
  rwa [getD_get hk] at this
theorem moved1_ok {n : Nat} (x : Ed) (s d : List Int) (hx : Right n x) (hs : s.length = n) (hd : d.length = n) (B1 : Bd 1048576 s) (B2 : Bd 4611686018427 d) {O0 O4 : AO} {R : AV → List AO → Prop}
    (hR : ∀ O5, R (.tup []) [O0, .box (.p (.is s)), .box (.os 3 0 n), .row ((movE s x d).map .i) 1 3 false, O4, O5]) :
    HC Try.prog false 85 [.p (edP x), .ptr 1 1 0 0, .ptr 2 1 0 0] [O0, .box (.p (.is s)), .box (.os 3 0 n), .row (d.map .i) 1 3 false, O4] R := by
  refine HC_of_W (af := _) ((by exact cfn85 : cfn _ _ _ = some _)) ?_
  have hfl := flow_bd B1 (x := x) (by have := hx.m1; omega) hx.m50
  obtain ⟨xa, xb, m⟩ := x
  have q1 := hx.a0
  have q2 := hx.ab
  have q3 := hx.bn
  dsimp only at q1 q2 q3
  obtain ⟨a, rfl⟩ : ∃ a : Nat, xa = a := ⟨xa.toNat, by omega⟩
  obtain ⟨b, rfl⟩ : ∃ b : Nat, xb = b := ⟨xb.toNat, by omega⟩
  subst hd
  have ha : a < s.length := by omega
  have hb : b < s.length := by omega
  have ha' : a < d.length := by omega
  have hb' : b < d.length := by omega
  have s1 := Bd.get B1 ha
  have s2 := Bd.get B1 hb
  have d1 := Bd.get B2 ha'
  have d2 := Bd.get B2 hb'
  simp only [flow, Int.toNat_natCast, getD_get ha, getD_get hb] at hfl
  have hw : IntKind.i64.wrap (m * (s[a] - s[b])) = m * (s[a] - s[b]) := wrap_id (by omega) (by omega)
  by_cases hab : a = b
  · subst hab
    have hq : ∀ v, ((d.map PV.i).set a v)[a]? = some v := fun v => by simp [ha']
    have hE : (movE s ⟨a, a, m⟩ d).map PV.i = (d.map PV.i).set a (.i d[a]) := by
      simp [movE, flow, getD_get ha', ha', List.map_set, getD_set]
      rw [← List.map_set, List.set_getElem_self]
    simp -implicitDefEqProofs (disch := omega) [c85, List.getElem?_cons_zero, List.getElem?_cons_succ, wrap_id, ha, ha', hw, hq]
    refine finH trivial rfl ?_
    have := hR (.box (.p (edP ⟨a, a, m⟩)))
    rwa [hE] at this
  · have hE : (movE s ⟨a, b, m⟩ d).map PV.i = ((d.map PV.i).set a (.i (d[a] - m * (s[a] - s[b])))).set b (.i (d[b] + m * (s[a] - s[b]))) := by
      simp [movE, flow, getD_get ha, getD_get hb, getD_get ha', getD_get hb', hab, ha, hb, ha', hb', List.map_set, getD_set]
    simp -implicitDefEqProofs (disch := omega) [c85, List.getElem?_cons_zero, List.getElem?_cons_succ, wrap_id, ha, ha', hb, hb', hab, hw]
    refine finH trivial rfl ?_
    have := hR (.box (.p (edP ⟨a, b, m⟩)))
    rwa [hE] at this
theorem movedE_bd {B : Int} {n : Int} {es : List Ed} {s : List Int} (hg : ∀ x ∈ es, Right n x) (hs : Bd 1048576 s) : ∀ (k : Nat) (_ : k ≤ es.length) {d : List Int}, Bd B d → Bd (B + 209715200 * k) (movedE (es.take k) s d)
  | 0, _, d, hd => by simpa [movedE] using hd
  | k + 1, h, d, hd => by
    have hr := hg es[k] (List.getElem_mem (by omega))
    rw [movedE_snoc es s d k (by omega)]
    exact ((movedE_bd hg hs k (by omega) hd).movE hs (by have := hr.m1; omega) hr.m50).more (by push_cast; omega)
theorem moved_ok (n : Nat) (es : List Ed) (s d : List Int) (hg : ∀ x ∈ es, Right n x) (hs : s.length = n) (hd : d.length = n) (hn : n ≤ 1000) (he : es.length ≤ 1000) (B1 : Bd 1048576 s) (B2 : Bd 1073741824 d) :
    PC Try.prog 51 [G n es, .is d, .is s] (.p (.is (movedE es s d))) [] := by
  refine PC_of_W cfn51 ?_
  simp -implicitDefEqProofs (disch := omega) [c51, List.getElem?_cons_zero, List.getElem?_cons_succ, wrap_id]
  refine HC_of_PC rfl (clone_ok d (by omega)) ?_
  simp -implicitDefEqProofs (disch := omega) [List.getElem?_cons_zero, List.getElem?_cons_succ, wrap_id]
  subst hd
  refine loopW es.length (fun k s0 => s0 = ⟨[(17, .i k), (16, .i es.length), (15, .p (.sl (es.map edP))), (8, .fn (.func 85) [] [.ptr 1 1 0 0, .ptr 2 1 0 0]), (7, .ptr 2 1 0 0)], [.box (.p (G d.length es)), .box (.p (.is s)), .box (.os 3 0 d.length), .row ((movedE (es.take k) s d).map .i) 1 3 false]⟩) (wk_norm [0, 1, 3, 2] [17, 16, 15, 8, 7] rfl rfl) rfl ?_
  rintro k s0 hk rfl
  by_cases hlt : k < es.length
  rotate_left
  · have : k = es.length := by omega
    subst this
    rw [List.take_length]
    simp -implicitDefEqProofs (disch := omega) [List.getElem?_cons_zero, List.getElem?_cons_succ, wrap_id]
    (refine fin0 trivial rfl ?_; simp -implicitDefEqProofs (disch := omega) [List.getElem?_cons_zero, List.getElem?_cons_succ, idx, wrap_id, movedE_length])
  have hb := movedE_bd hg B1 k hk B2
  simp -implicitDefEqProofs (disch := omega) [List.getElem?_cons_zero, List.getElem?_cons_succ, wrap_id, hlt]
  refine ⟨by kernel_rfl, moved1_ok es[k] s (movedE (es.take k) s d) (hg _ (List.getElem_mem hlt)) hs (movedE_length _ _ _) B1 (hb.more (by omega)) fun O5 => ?_⟩
  simp -implicitDefEqProofs (disch := omega) [List.getElem?_cons_zero, List.getElem?_cons_succ, wrap_id]
  exact round_end [0, 1, 2, 3] [17, 16, 15, 8, 7] hlt rfl (by rw [movedE_snoc es s d k hlt]; rfl)
end Go.Proofs.Ytjkmhjjfipnbbaa
