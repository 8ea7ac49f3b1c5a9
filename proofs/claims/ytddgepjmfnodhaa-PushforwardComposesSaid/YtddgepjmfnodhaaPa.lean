/-
  Contracts: package pushforward, weights and sums.
-/
import Derived.Test.YtddgepjmfnodhaaSe
import Derived.Test.YtddgepjmfnodhaaMrb
import Derived.Test.YtddgepjmfnodhaaMae
set_option linter.unusedSimpArgs false
set_option linter.unusedVariables false
namespace Go.Proofs.Ytddgepjmfnodhaa
open Go.Abs Go.Sand

def mulK (g h : Gr) (m : Mo) (k : Nat) : List Int := (List.range k).map fun v => mM g h m v
theorem mulK_len (g h : Gr) (m : Mo) (k : Nat) : (mulK g h m k).length = k := by simp [mulK]
theorem mulK_succ (g h : Gr) (m : Mo) (k : Nat) : mulK g h m (k + 1) = mulK g h m k ++ [mM g h m k] := by simp [mulK, List.range_succ]
theorem mulK_get (g h : Gr) (m : Mo) (k v : Nat) (hv : v < k) : (mulK g h m k)[v]'(by rw [mulK_len]; exact hv) = mM g h m v := by simp [mulK]
def mulL (g h : Gr) (m : Mo) : List Int := mulK g h m g.1.toNat
theorem deg_ok {g h : Gr} {m : Mo} (hd : degE g h m = 0) : coverE g h m = 0 ∧ harmM g h m = true := by
  unfold degE at hd
  split at hd
  · rename_i h1; exact absurd hd h1
  · rename_i h1
    split at hd
    · cases hd
    · rename_i h2
      exact ⟨Decidable.not_not.1 h1, by simpa using h2⟩
theorem mults52_ok (g h : Gr) (m : Mo) (hs : Sm g h m) : PC Try.prog 32 [GrP g, GrP h, MoP m] (.tup [.p (if degE g h m = 0 then .is (mulL g h m) else .nil), .i (degE g h m)]) [] := by
  refine PC_of_W cfn32 ?_
  simp -implicitDefEqProofs (disch := omega) [c32, List.getElem?_cons_zero, List.getElem?_cons_succ, wrap_id]
  refine HC_of_PC rfl (harmonic_ok g h m hs) ?_
  by_cases hc : coverE g h m = 0
  rotate_left
  · have hd : degE g h m = coverE g h m := by rw [degE, if_pos hc]
    simp -implicitDefEqProofs (disch := omega) [List.getElem?_cons_zero, List.getElem?_cons_succ, wrap_id, hc]
    (refine fin0 trivial rfl ?_; simp -implicitDefEqProofs (disch := omega) [List.getElem?_cons_zero, List.getElem?_cons_succ, idx, wrap_id, hd, hc])
  cases hh : harmM g h m
  · have hd : degE g h m = 15 := by rw [degE, if_neg (by simp [hc]), if_pos hh]
    have hb : harmE g h m = false := by simp [harmE, hh]
    simp -implicitDefEqProofs (disch := omega) [List.getElem?_cons_zero, List.getElem?_cons_succ, wrap_id, hc, hb]
    (refine fin0 trivial rfl ?_; simp -implicitDefEqProofs (disch := omega) [List.getElem?_cons_zero, List.getElem?_cons_succ, idx, wrap_id, hd])
  have hd := degE_zero hc hh
  have hb : harmE g h m = true := by simp [harmE, hh, hc]
  obtain ⟨n, k, c⟩ := cov_of hc
  have h12 := c.n12
  have hgn := c.gn
  have hml : mulL g h m = mulK g h m n := by rw [mulL, hgn]; rfl
  simp -implicitDefEqProofs (disch := omega) [List.getElem?_cons_zero, List.getElem?_cons_succ, wrap_id, hc, hb]
  refine loopW n (fun k s => s = ⟨[(28, .i k), (27, .i g.1), (10, .os 3 0 (mulK g h m k).length), (3, .ptr 0 1 0 0), (4, .ptr 1 1 0 0), (5, .ptr 2 1 0 0)], [.box (.p (GrP g)), .box (.p (GrP h)), .box (.p (MoP m)), .row ((mulK g h m k).map PV.i) 1 3 false]⟩)
    ((wk_norm [0, 1, 2] [28, 27, 10, 3, 4, 5] rfl rfl).trans ((Wk_nil 10 1 3 rfl).trans (Wk_keep [28, 27, 10, 3, 4, 5]))) rfl ?_
  rintro k s hk rfl
  have hkl := mulK_len g h m k
  by_cases hlt : k < n
  · have h2 : (k : Int) < g.1 := by omega
    have hsn := mulK_succ g h m k
    have hvu : vtx g.1 k = true := vtx_iff.2 (by omega)
    have hme : multE g h m k = 0 := by rw [multE, if_neg (by simp [hc]), if_neg (by simp [hvu]), if_neg (by simp [hh])]
    have hmu : multR g h m k = mM g h m k := by rw [multR, if_pos hme]; rfl
    have hmul := multiplicity_ok g h m k hs
    rw [hme, hmu] at hmul
    have hbd : (mulK g h m k).length ≤ 1048575 := by omega
    simp -implicitDefEqProofs (disch := omega) [List.getElem?_cons_zero, List.getElem?_cons_succ, wrap_id, h2]
    refine HC_of_PC rfl (hmul) ?_
    simp -implicitDefEqProofs (disch := omega) [List.getElem?_cons_zero, List.getElem?_cons_succ, wrap_id, hbd]
    exact round_end [0, 1, 2, 3] [28, 27, 10, 3, 4, 5] hlt rfl (by rw [hsn, List.length_append, List.map_append]; rfl)
  have hkn : k = n := by omega
  subst hkn
  have h2 : ¬ (k : Int) < g.1 := by omega
  simp -implicitDefEqProofs (disch := omega) [List.getElem?_cons_zero, List.getElem?_cons_succ, wrap_id, h2]
  (refine fin0 trivial rfl ?_; simp -implicitDefEqProofs (disch := omega) [List.getElem?_cons_zero, List.getElem?_cons_succ, idx, wrap_id, hd, hml])
theorem bndD_ok (l : List Int) (hl : l.length ≤ 4611686018427387904) : PC Try.prog 68 [.is l] (.tup [.p (if bndE l = 0 then .is l else .nil), .i (bndE l)]) [] := by
  refine PC_of_W cfn68 ?_
  simp -implicitDefEqProofs (disch := omega) [c68, List.getElem?_cons_zero, List.getElem?_cons_succ, wrap_id]
  refine loopW l.length (fun k s => s = ⟨[(8, .i k), (7, .i l.length), (6, .p (.is l)), (0, .p (.is l))], []⟩ ∧ l.all inB = (l.drop k).all inB) (wk_norm [] [8, 7, 6, 0] rfl rfl) ⟨rfl, rfl⟩ ?_
  rintro k s hk ⟨rfl, hI⟩
  by_cases hlt : k < l.length
  · have hd := drop_all inB l k hlt
    by_cases hx : inB l[k] = true
    · have hx' := inB_iff.1 hx
      rw [hx, Bool.true_and] at hd
      have q1 : ¬ l[k] < -1048576 := by omega
      have q2 : ¬ 1048576 < l[k] := by omega
      simp -implicitDefEqProofs (disch := omega) [List.getElem?_cons_zero, List.getElem?_cons_succ, wrap_id, hlt, q1, q2]
      exact round_end [] [8, 7, 6, 0] hlt rfl ⟨rfl, hI.trans hd⟩
    · have hx' : ¬ (-1048576 ≤ l[k] ∧ l[k] ≤ 1048576) := fun h => hx (inB_iff.2 h)
      have hx0 : inB l[k] = false := by simpa using hx
      rw [hx0, Bool.false_and] at hd
      have hb : bndE l = 11 := by rw [bndE, if_neg (by rw [hI, hd]; simp)]
      by_cases q1 : l[k] < -1048576
      · simp -implicitDefEqProofs (disch := omega) [List.getElem?_cons_zero, List.getElem?_cons_succ, wrap_id, hlt, q1]
        (refine fin0 trivial rfl ?_; simp -implicitDefEqProofs (disch := omega) [List.getElem?_cons_zero, List.getElem?_cons_succ, idx, wrap_id, hb])
      · have q2 : 1048576 < l[k] := by omega
        simp -implicitDefEqProofs (disch := omega) [List.getElem?_cons_zero, List.getElem?_cons_succ, wrap_id, hlt, q1, q2]
        (refine fin0 trivial rfl ?_; simp -implicitDefEqProofs (disch := omega) [List.getElem?_cons_zero, List.getElem?_cons_succ, idx, wrap_id, hb])
  · have hb : bndE l = 0 := by rw [bndE, if_pos (by rw [hI, List.drop_of_length_le (Nat.le_of_not_lt hlt)]; rfl)]
    simp -implicitDefEqProofs (disch := omega) [List.getElem?_cons_zero, List.getElem?_cons_succ, wrap_id, hlt]
    (refine fin0 trivial rfl ?_; simp -implicitDefEqProofs (disch := omega) [List.getElem?_cons_zero, List.getElem?_cons_succ, idx, wrap_id, hb])
theorem bndS_ok (l : List Int) (hl : l.length ≤ 4611686018427387904) : PC Try.prog 89 [.is l] (.tup [.p (if bndE l = 0 then .is l else .nil), .i (bndE l)]) [] := by
  refine PC_of_W cfn89 ?_
  simp -implicitDefEqProofs (disch := omega) [c89, List.getElem?_cons_zero, List.getElem?_cons_succ, wrap_id]
  refine loopW l.length (fun k s => s = ⟨[(8, .i k), (7, .i l.length), (6, .p (.is l)), (0, .p (.is l))], []⟩ ∧ l.all inB = (l.drop k).all inB) (wk_norm [] [8, 7, 6, 0] rfl rfl) ⟨rfl, rfl⟩ ?_
  rintro k s hk ⟨rfl, hI⟩
  by_cases hlt : k < l.length
  · have hd := drop_all inB l k hlt
    by_cases hx : inB l[k] = true
    · have hx' := inB_iff.1 hx
      rw [hx, Bool.true_and] at hd
      have q1 : ¬ l[k] < -1048576 := by omega
      have q2 : ¬ 1048576 < l[k] := by omega
      simp -implicitDefEqProofs (disch := omega) [List.getElem?_cons_zero, List.getElem?_cons_succ, wrap_id, hlt, q1, q2]
      exact round_end [] [8, 7, 6, 0] hlt rfl ⟨rfl, hI.trans hd⟩
    · have hx' : ¬ (-1048576 ≤ l[k] ∧ l[k] ≤ 1048576) := fun h => hx (inB_iff.2 h)
      have hx0 : inB l[k] = false := by simpa using hx
      rw [hx0, Bool.false_and] at hd
      have hb : bndE l = 11 := by rw [bndE, if_neg (by rw [hI, hd]; simp)]
      by_cases q1 : l[k] < -1048576
      · simp -implicitDefEqProofs (disch := omega) [List.getElem?_cons_zero, List.getElem?_cons_succ, wrap_id, hlt, q1]
        (refine fin0 trivial rfl ?_; simp -implicitDefEqProofs (disch := omega) [List.getElem?_cons_zero, List.getElem?_cons_succ, idx, wrap_id, hb])
      · have q2 : 1048576 < l[k] := by omega
        simp -implicitDefEqProofs (disch := omega) [List.getElem?_cons_zero, List.getElem?_cons_succ, wrap_id, hlt, q1, q2]
        (refine fin0 trivial rfl ?_; simp -implicitDefEqProofs (disch := omega) [List.getElem?_cons_zero, List.getElem?_cons_succ, idx, wrap_id, hb])
  · have hb : bndE l = 0 := by rw [bndE, if_pos (by rw [hI, List.drop_of_length_le (Nat.le_of_not_lt hlt)]; rfl)]
    simp -implicitDefEqProofs (disch := omega) [List.getElem?_cons_zero, List.getElem?_cons_succ, wrap_id, hlt]
    (refine fin0 trivial rfl ?_; simp -implicitDefEqProofs (disch := omega) [List.getElem?_cons_zero, List.getElem?_cons_succ, idx, wrap_id, hb])
theorem once_ok (v : Int) : PC Try.prog 35 [.i v] (.i 1) [] := by
  refine PC_of_W cfn35 ?_
  simp -implicitDefEqProofs (disch := omega) [c35, List.getElem?_cons_zero, List.getElem?_cons_succ, wrap_id]
  (refine fin0 trivial rfl ?_; simp -implicitDefEqProofs (disch := omega) [List.getElem?_cons_zero, List.getElem?_cons_succ, idx, wrap_id])
theorem pull1_ok {H : List AO} {o v : Nat} {l : List Int} (ho : H[o]? = some (.box (.p (.is l)))) (hv : v < l.length) {K : AV → List AO → Prop} (hK : K (.i l[v]) H) : HC Try.prog false 41 [.i v, .ptr o 1 0 0] H K := by
  refine HC_of_W (af := _) ((by exact cfn41 : cfn _ _ _ = some _)) ?_
  simp -implicitDefEqProofs (disch := omega) [c41, List.getElem?_cons_zero, List.getElem?_cons_succ, wrap_id, ho, hv]
  exact finH trivial rfl hK
theorem pushs1_ok {H : List AO} {o v : Nat} {l : List Int} (ho : H[o]? = some (.box (.p (.is l)))) (hv : v < l.length) {K : AV → List AO → Prop} (hK : K (.i l[v]) H) : HC Try.prog false 57 [.i v, .ptr o 1 0 0] H K := by
  refine HC_of_W (af := _) ((by exact cfn57 : cfn _ _ _ = some _)) ?_
  simp -implicitDefEqProofs (disch := omega) [c57, List.getElem?_cons_zero, List.getElem?_cons_succ, wrap_id, ho, hv]
  exact finH trivial rfl hK
end Go.Proofs.Ytddgepjmfnodhaa
