/-
  Contracts: the examples.
-/
import Derived.Test.YtjkmhjjfipnbbaaTo
set_option linter.unusedSimpArgs false
namespace Go.Proofs.Ytjkmhjjfipnbbaa
open Go.Abs Go.Sand

def tri : List Ed := [⟨0, 1, 1⟩, ⟨0, 2, 1⟩, ⟨1, 2, 1⟩]
theorem tri_ok : PC Try.prog 49 [] (.agg [.p (.i 3), .p (.sl (tri.map edP))]) [] := by
  refine PC_of_W cfn49 ?_
  simp -implicitDefEqProofs (disch := omega) [c49, List.getElem?_cons_zero, List.getElem?_cons_succ, wrap_id]
  refine fin0 trivial rfl rfl
theorem PC_is {f : FuncId} {ps : List PV} {r r' : AV} {HR : List AO} (h : PC Try.prog f ps r HR) (e : r = r') : PC Try.prog f ps r' HR := e ▸ h
theorem aw1 : PC Try.prog 19 [G 3 tri, .is [3, 0, 0], .i 0] (.tup [.p (.is [1, 1, 1]), .i 0]) [] := PC_is (fire_ok 3 tri [3, 0, 0] (by decide) (by decide) 0) (by kernel_rfl)
theorem aw2 : PC Try.prog 21 [G 3 tri, .is [1, 1, 1], .i 0] (.tup [.p (.is [3, 0, 0]), .i 0]) [] := PC_is (borrow_ok 3 tri [1, 1, 1] (by decide) (by decide) 0) (by kernel_rfl)
theorem aw3 : PC Try.prog 23 [G 3 tri, .is [1, 1, 0], .is [0, 1]] (.tup [.p (.is [0, 0, 2]), .i 0]) [] := PC_is (fireset_ok 3 tri [1, 1, 0] [0, 1] (by decide) (by decide) (by decide)) (by kernel_rfl)
theorem aw4 : PC Try.prog 32 [G 3 tri, .is [1, 1, 0], .is [0, 1]] (.tup [.b true, .i 0]) [] := PC_is (legalset_ok 3 tri [1, 1, 0] [0, 1] (by decide) (by decide) (by decide)) (by kernel_rfl)
theorem aw5 : PC Try.prog 14 [G 3 tri, .is [2, 1, 0]] (.tup [.p (.is [-3, 0, 3]), .i 0]) [] := PC_is (change_ok 3 tri [2, 1, 0] (by decide) (by decide)) (by kernel_rfl)
theorem aw6 : PC Try.prog 25 [G 3 tri, .is [2, 1, 0]] (.tup [.p (.iss [[0], [0, 1]]), .i 0]) [] := PC_is (sets_ok 3 tri [2, 1, 0] (by decide) (by decide)) (by kernel_rfl)
theorem aw7 : PC Try.prog 41 [G 3 tri, .is [4, 0, 0], .is [0, 0]] (.tup [.p (.is [0, 2, 2]), .i 2, .i 0]) [] := PC_is (play_ok 3 tri [4, 0, 0] [0, 0] (by decide) (by decide) (by decide)) (by kernel_rfl)
theorem aw8 : PC Try.prog 41 [G 3 tri, .is [4, 0, 0], .is [0, 0, 0]] (.tup [.p (.is []), .i 2, .i 18]) [] := PC_is (play_ok 3 tri [4, 0, 0] [0, 0, 0] (by decide) (by decide) (by decide)) (by kernel_rfl)
theorem aws (l : List Int) (h : l.length ≤ 1000) : PC Try.prog 18 [.is l, .is l] (.b true) [] := PC_is (same_ok l l (by omega)) (by simp)
theorem awsets (o r0 r1 : Nat) (H : List AO) {t t0 t1 : TypeId} {z z0 z1 : Bool} (h : H[o]? = some (.tab [.os r0 0 1, .os r1 0 2] t z)) (h0 : H[r0]? = some (.row [.i 0] 1 t0 z0)) (h1 : H[r1]? = some (.row [.i 0, .i 1] 1 t1 z1)) {R : AV → List AO → Prop} (hR : R (.b true) H) :
    HC Try.prog false 27 [.p (.iss [[0], [0, 1]]), .os o 0 2] H R := by
  refine HC_of_W (af := _) ((by exact cfn27 : cfn _ _ _ = some _)) ?_
  simp -implicitDefEqProofs (disch := omega) [c27, List.getElem?_cons_zero, List.getElem?_cons_succ, wrap_id, h]
  refine loopW 2 (fun k s => s = ⟨[(5, .i k), (0, .p (.iss [[0], [0, 1]])), (1, .os o 0 2)], H⟩) (Wk_keep [5, 0, 1]) rfl ?_
  rintro k s hk rfl
  match k, hk with
  | 0, _ =>
    simp -implicitDefEqProofs (disch := omega) [List.getElem?_cons_zero, List.getElem?_cons_succ, wrap_id, h, h0, h1]
    refine HC_of_PC (show views H [.p (.is [0]), .os r0 0 1] = some [.is [0], .is [0]] by simp [views, view, viewC, ownEls, h0]) (sameInts_ok [0] [0] (by decide)) ?_
    simp -implicitDefEqProofs (disch := omega) [List.getElem?_cons_zero, List.getElem?_cons_succ, wrap_id]
    exact round_end' (by decide) (Wk_keep [5, 0, 1]) rfl
  | 1, _ =>
    simp -implicitDefEqProofs (disch := omega) [List.getElem?_cons_zero, List.getElem?_cons_succ, wrap_id, h, h0, h1]
    refine HC_of_PC (show views H [.p (.is [0, 1]), .os r1 0 2] = some [.is [0, 1], .is [0, 1]] by simp [views, view, viewC, ownEls, h1]) (sameInts_ok [0, 1] [0, 1] (by decide)) ?_
    simp -implicitDefEqProofs (disch := omega) [List.getElem?_cons_zero, List.getElem?_cons_succ, wrap_id]
    exact round_end' (by decide) (Wk_keep [5, 0, 1]) rfl
  | 2, _ =>
    simp -implicitDefEqProofs (disch := omega) [List.getElem?_cons_zero, List.getElem?_cons_succ, wrap_id]
    exact finH trivial rfl hR
theorem awake_ok : PC Try.prog 13 [] (.b true) [] := by
  refine PC_of_W cfn13 ?_
  simp -implicitDefEqProofs (disch := omega) [c13, List.getElem?_cons_zero, List.getElem?_cons_succ, wrap_id]
  refine HC_of_PC rfl (tri_ok) ?_
  simp -implicitDefEqProofs (disch := omega) [List.getElem?_cons_zero, List.getElem?_cons_succ, wrap_id]
  refine HC_of_PC rfl (aw1) ?_
  simp -implicitDefEqProofs (disch := omega) [List.getElem?_cons_zero, List.getElem?_cons_succ, wrap_id]
  refine HC_of_PC rfl (aw2) ?_
  simp -implicitDefEqProofs (disch := omega) [List.getElem?_cons_zero, List.getElem?_cons_succ, wrap_id]
  refine HC_of_PC rfl (aw3) ?_
  simp -implicitDefEqProofs (disch := omega) [List.getElem?_cons_zero, List.getElem?_cons_succ, wrap_id]
  refine HC_of_PC rfl (aw4) ?_
  simp -implicitDefEqProofs (disch := omega) [List.getElem?_cons_zero, List.getElem?_cons_succ, wrap_id]
  refine HC_of_PC rfl (aws [1, 1, 1] (by decide)) ?_
  simp -implicitDefEqProofs (disch := omega) [List.getElem?_cons_zero, List.getElem?_cons_succ, wrap_id]
  refine HC_of_PC rfl (aws [3, 0, 0] (by decide)) ?_
  simp -implicitDefEqProofs (disch := omega) [List.getElem?_cons_zero, List.getElem?_cons_succ, wrap_id]
  refine HC_of_PC rfl (aws [0, 0, 2] (by decide)) ?_
  simp -implicitDefEqProofs (disch := omega) [List.getElem?_cons_zero, List.getElem?_cons_succ, wrap_id]
  refine HC_of_PC rfl (aw5) ?_
  simp -implicitDefEqProofs (disch := omega) [List.getElem?_cons_zero, List.getElem?_cons_succ, wrap_id]
  refine HC_of_PC rfl (aw6) ?_
  simp -implicitDefEqProofs (disch := omega) [List.getElem?_cons_zero, List.getElem?_cons_succ, wrap_id]
  refine HC_of_PC rfl (aws [-3, 0, 3] (by decide)) ?_
  simp -implicitDefEqProofs (disch := omega) [List.getElem?_cons_zero, List.getElem?_cons_succ, wrap_id]
  refine awsets 14 12 13 _ rfl rfl rfl ?_
  simp -implicitDefEqProofs (disch := omega) [List.getElem?_cons_zero, List.getElem?_cons_succ, wrap_id]
  refine HC_of_PC rfl (aw7) ?_
  simp -implicitDefEqProofs (disch := omega) [List.getElem?_cons_zero, List.getElem?_cons_succ, wrap_id]
  refine HC_of_PC rfl (aw8) ?_
  simp -implicitDefEqProofs (disch := omega) [List.getElem?_cons_zero, List.getElem?_cons_succ, wrap_id]
  refine HC_of_PC rfl (aws [0, 2, 2] (by decide)) ?_
  simp -implicitDefEqProofs (disch := omega) [List.getElem?_cons_zero, List.getElem?_cons_succ, wrap_id]
  (refine fin0 trivial rfl ?_; simp -implicitDefEqProofs (disch := omega) [List.getElem?_cons_zero, List.getElem?_cons_succ, idx, wrap_id])
end Go.Proofs.Ytjkmhjjfipnbbaa
