/-
  Contracts: a configuration that is stabilized: its vertices that wait.
-/
import Derived.Test.YtgjaekbbdmhjlaaMza
import Derived.Test.YtgjaekbbdmhjlaaMae
import Derived.Test.YtgjaekbbdmhjlaaMrb
set_option linter.unusedSimpArgs false
set_option linter.unusedVariables false
namespace Go.Proofs.Ytgjaekbbdmhjlaa
open Go.Abs Go.Sand

/-- A list of lists of numbers. -/
abbrev _root_.Go.Abs.PV.iss (l : List (List Int)) : PV := .sl (l.map PV.is)
/-- Truths, a cell each. -/
abbrev bw (W : List Bool) : List AV := W.map AV.b
theorem bw_at {W : List Bool} {v : Nat} (h : v < W.length) : (bw W)[v]? = some (.b (W.getD v false)) := by
  simp [bw, h]
theorem bw_set (W : List Bool) (v : Nat) (b : Bool) : (bw W).set v (.b b) = bw (W.set v b) := by simp [bw, List.map_set]
theorem bw_ren {H : List AO} {ρ : Nat → Option Nat} : ∀ W : List Bool, renL H ρ (bw W) = bw W
  | [] => rfl
  | x :: W => by
    show AV.ren H ρ (.b x) :: renL H ρ (bw W) = _
    rw [bw_ren W, AV.ren]; rfl
theorem bw_one (W : List Bool) : allOne (bw W) = some (W.map PV.b) := by
  have := allOne_ps (W.map PV.b) (fun e he => by obtain ⟨x, _, rfl⟩ := List.mem_map.1 he; rfl)
  rw [List.map_map] at this
  exact this
theorem bw_allP (W : List Bool) : allP (bw W) = some (W.map PV.b) := by
  have := allP_ps (W.map PV.b)
  rw [List.map_map] at this
  exact this
theorem putA_os {H : List AO} {o a n i : Nat} {l : List AV} {z : Value} (hz : scalar z = true) (hi : i < l.length) : putA H (.agg (.os o a n :: l)) (i + 1) (.p (.v z)) = some (.agg (.os o a n :: l.set i (.p (.v z)))) := by
  unfold putA
  rw [if_neg (by simp)]
  rw [if_pos ⟨rfl, by simpa [AV.flat] using hi⟩]
  simp [AV.flat, mkAgg, allP]
/-- A configuration's variable: its rows and its valences read alone; its chips are object o+1, what has fired is object o+2. -/
abbrev pileA (o n : Nat) (q : Int) (R : List (List Int)) (V : List Int) (tot : Int) (W : List Bool) : AV :=
  .agg (.os (o + 1) 0 n :: .i q :: .p (.iss R) :: .p (.is V) :: .os (o + 2) 0 n :: .i tot :: bw W)
abbrev rowI (c : List Int) : AO := .row (c.map PV.i) 1 3 false
/-- Whether a vertex waits. -/
def waitB (q : Int) (V c : List Int) (v : Nat) : Bool := decide ((v : Int) ≠ q) && decide (V.getD v 0 ≤ c.getD v 0)
theorem is_at {c : List Int} {v : Nat} (h : v < c.length) : (c.map PV.i)[v]? = some (.i (c.getD v 0)) := by
  simp [List.getD_eq_getElem?_getD, h]

section
variable {n : Nat} {q : Int} {R : List (List Int)} {V c s : List Int} {tot : Int} {W : List Bool} {b0 : AO} {T : List AO} {K : AV → List AO → Prop}
theorem bw_view (H : List AO) : ∀ W : List Bool, viewL H (bw W) = some (W.map PV.b)
  | [] => rfl
  | x :: W => by
    show viewL H (.b x :: bw W) = _
    rw [viewL, bw_view H W]; rfl
/-- What a configuration's variable reads as. -/
abbrev pileR (q : Int) (R : List (List Int)) (V c s : List Int) (tot : Int) (W : List Bool) : List PV := .is c :: .i q :: .iss R :: .is V :: .is s :: .i tot :: W.map PV.b
theorem pile_view (hc : c.length = n) (hs : s.length = n) : view (b0 :: .box (pileA 1 n q R V tot W) :: rowI c :: rowI s :: T) (.agg (pileA 1 n q R V tot W).flat) = some (.agg (pileR q R V c s tot W)) := by
  simp [view, viewL, viewC, ownEls, hc, hs, bw_view, AV.flat]
theorem unst_ok {e : Bool} (v : Nat) (hv : v < n) (hc : c.length = n) (hs : s.length = n) (hV : V.length = n) (hK : K (.b (waitB q V c v)) (b0 :: .box (pileA 1 n q R V tot W) :: rowI c :: rowI s :: T)) :
    HC Try.prog e 117 [.ptr 1 1 0 0, .i v] (b0 :: .box (pileA 1 n q R V tot W) :: rowI c :: rowI s :: T) K := by
  have hcv : v < c.length := by omega
  have hVv : v < V.length := by omega
  refine HC_ptr (rest := [.i v]) (ps := pileR q R V c s tot W) (x := .bool (waitB q V c v)) cfn117 rfl (pile_view hc hs) ?_ hK
  by_cases h1 : (v : Int) = q
  · simp -implicitDefEqProofs (disch := omega) [c117, List.getElem?_cons_zero, List.getElem?_cons_succ, wrap_id, h1]
    (refine fin0 trivial rfl ?_; simp -implicitDefEqProofs (disch := omega) [List.getElem?_cons_zero, List.getElem?_cons_succ, idx, wrap_id, waitB, h1])
  · simp -implicitDefEqProofs (disch := omega) [c117, List.getElem?_cons_zero, List.getElem?_cons_succ, wrap_id, h1, hcv, hVv]
    (refine fin0 trivial rfl ?_; simp -implicitDefEqProofs (disch := omega) [List.getElem?_cons_zero, List.getElem?_cons_succ, idx, wrap_id, waitB, h1, hcv, hVv])
attribute [local simp ↓ 10000] putA_os
theorem wait_ok (v : Nat) (hv : v < n) (hn : n ≤ 12) (hc : c.length = n) (hs : s.length = n) (hV : V.length = n) (hW : W.length = 12) (hK : K (.tup []) (b0 :: .box (pileA 1 n q R V tot (W.set v (waitB q V c v))) :: rowI c :: rowI s :: T)) :
    HC Try.prog false 102 [.ptr 1 1 0 0, .i v] (b0 :: .box (pileA 1 n q R V tot W) :: rowI c :: rowI s :: T) K := by
  have hv12 : v < 12 := by omega
  refine HC_of_W (af := _) ((by exact cfn102 : cfn _ _ _ = some _)) ?_
  simp -implicitDefEqProofs (disch := omega) [c102, List.getElem?_cons_zero, List.getElem?_cons_succ, wrap_id]
  refine unst_ok v hv hc hs hV ?_
  have h18 : v + 6 < 18 := by omega
  simp -implicitDefEqProofs (disch := omega) [List.getElem?_cons_zero, List.getElem?_cons_succ, wrap_id, hv12, h18, hW, Nat.add_comm 6 v]
  refine finH trivial rfl ?_
  show K _ (b0 :: .box (.agg (.os 2 0 n :: .i q :: .p (.iss R) :: .p (.is V) :: .os 3 0 n :: .i tot :: (bw W).set v (.b (waitB q V c v)))) :: rowI c :: rowI s :: T)
  rw [bw_set]
  exact hK
theorem indexB_ok (W : List Bool) (r : Int) (hx : W.length ≤ 1000) (h : (r = -1 ∧ ∀ u, u < W.length → W.getD u false = false) ∨ ∃ v : Nat, r = v ∧ v < W.length ∧ W.getD v false = true ∧ ∀ u, u < v → W.getD u false = false) :
    PC Try.prog 118 [.sl (W.map PV.b), .b true] (.i r) [] := by
  refine PC_of_W cfn118 ?_
  simp -implicitDefEqProofs (disch := omega) [c118, List.getElem?_cons_zero, List.getElem?_cons_succ, wrap_id]
  refine loopW W.length (fun k s => s = ⟨[(8, .i k), (7, .i W.length), (0, .p (.sl (W.map PV.b))), (1, .b true)], []⟩ ∧ ∀ v : Nat, r = v → k ≤ v) (Wk_keep [8, 7, 0, 1]) ⟨rfl, fun v _ => by omega⟩ ?_
  rintro k s hk ⟨rfl, hI⟩
  by_cases hlt : k < W.length
  · have hg : W.getD k false = W[k] := by simp [hlt]
    cases hw : W[k] with
    | true =>
      rw [hw] at hg
      have hr : r = k := by
        rcases h with ⟨-, h2⟩ | ⟨v, h1, h2, h3, h4⟩
        · rw [h2 k hlt] at hg; cases hg
        · have := hI v h1
          rcases Nat.lt_or_ge k v with h5 | h5
          · rw [h4 k h5] at hg; cases hg
          · omega
      simp -implicitDefEqProofs (disch := omega) [List.getElem?_cons_zero, List.getElem?_cons_succ, wrap_id, hlt, hw]
      (refine fin0 trivial rfl ?_; simp -implicitDefEqProofs (disch := omega) [List.getElem?_cons_zero, List.getElem?_cons_succ, idx, wrap_id, hr])
    | false =>
      rw [hw] at hg
      simp -implicitDefEqProofs (disch := omega) [List.getElem?_cons_zero, List.getElem?_cons_succ, wrap_id, hlt, hw]
      refine round_keep [8, 7, 0, 1] hlt ⟨rfl, fun v hv => ?_⟩
      have := hI v hv
      rcases h with ⟨h1, -⟩ | ⟨v', h1, h2, h3, h4⟩
      · omega
      · have e : v = v' := by omega
        subst e
        rcases Nat.lt_or_ge k v with h5 | h5
        · omega
        · have e : v = k := by omega
          subst e
          rw [hg] at h3; cases h3
  · have hr : r = -1 := by
      rcases h with ⟨h1, -⟩ | ⟨v', h1, h2, h3, h4⟩
      · exact h1
      · have := hI v' h1; omega
    simp -implicitDefEqProofs (disch := omega) [List.getElem?_cons_zero, List.getElem?_cons_succ, wrap_id, hlt]
    (refine fin0 trivial rfl ?_; simp -implicitDefEqProofs (disch := omega) [List.getElem?_cons_zero, List.getElem?_cons_succ, idx, wrap_id, hr])
theorem nextW_ok (r : Int) (hW : W.length = 12) (h : (r = -1 ∧ ∀ u, u < W.length → W.getD u false = false) ∨ ∃ v : Nat, r = v ∧ v < W.length ∧ W.getD v false = true ∧ ∀ u, u < v → W.getD u false = false)
    (hK : K (.i r) (b0 :: .box (pileA 1 n q R V tot W) :: rowI c :: rowI s :: T)) :
    HC Try.prog false 104 [.ptr 1 1 0 0] (b0 :: .box (pileA 1 n q R V tot W) :: rowI c :: rowI s :: T) K := by
  refine HC_of_W (af := _) ((by exact cfn104 : cfn _ _ _ = some _)) ?_
  simp -implicitDefEqProofs (disch := omega) [c104, List.getElem?_cons_zero, List.getElem?_cons_succ, wrap_id, hW]
  have ht : (bw W).take 12 = bw W := List.take_of_length_le (by simp [hW])
  refine HC_of_PC (by simp [views, view, viewC, hW, ht, bw_allP]) (indexB_ok W r (by omega) h) ?_
  simp -implicitDefEqProofs (disch := omega) [List.getElem?_cons_zero, List.getElem?_cons_succ, wrap_id]
  exact finH trivial rfl hK
end
end Go.Proofs.Ytgjaekbbdmhjlaa
