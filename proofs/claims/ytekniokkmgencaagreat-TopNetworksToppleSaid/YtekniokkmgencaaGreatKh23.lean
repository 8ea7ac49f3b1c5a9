/-
  Texts joined: Im Iq Iad Iai Ir It Zc.
-/
import Derived.Test.YtekniokkmgencaaGreatKh22

section
set_option linter.unusedSimpArgs false
set_option linter.unusedVariables false
namespace Go.Proofs.YtekniokkmgencaaGreat
open Go.Abs Go.Sand
theorem renL_mp {α : Type} {H : List AO} {ρ : Nat → Option Nat} (f : α → PV) (l : List α) : renL H ρ (l.map fun x => .p (f x)) = l.map fun x => .p (f x) := by
  rw [renL_eq, List.map_map]
  refine List.map_congr_left fun x _ => ?_
  simp [AV.ren]
theorem renL_set (H : List AO) (ρ : Nat → Option Nat) (l : List AV) (k : Nat) (x : AV) : renL H ρ (l.set k x) = (renL H ρ l).set k (x.ren H ρ) := by
  rw [renL_eq, renL_eq, List.map_set]
theorem allOne_mp {α : Type} (f : α → PV) (hf : ∀ x, (f x).one = true) : ∀ l : List α, allOne (l.map fun x => .p (f x)) = some (l.map f) := fun l => by
  have h1 : ∀ l : List α, allP (l.map fun x => AV.p (f x)) = some (l.map f) := fun l => by
    induction l with
    | nil => rfl
    | cons x l ih => simp [allP, ih]
  unfold allOne
  rw [h1]
  have : (l.map f).all (·.one) = true := List.all_eq_true.2 fun x hx => by obtain ⟨y, _, rfl⟩ := List.mem_map.1 hx; exact hf y
  dsimp only
  rw [if_pos this]
theorem clonePr_ok (R : List (List Rl)) (hx : R.length ≤ 1000000) : PC Tryz.prog 81 [.sl (R.map procP)] (.os 0 0 R.length) [.row (R.map procP) 3 59 false] := by
  refine PC_of_W cfn81 ?_
  simp -implicitDefEqProofs (disch := omega) [c81, List.getElem?_cons_zero, List.getElem?_cons_succ, wrap_id, stepK_eqn, eqnP]
  have hx' : R.length ≤ 1048576 := by omega
  refine ⟨?_, ?_⟩
  · rintro rfl
    simp -implicitDefEqProofs (disch := omega) [List.getElem?_cons_zero, List.getElem?_cons_succ, wrap_id]
    refine finW (Wk_nil 2 3 59 rfl) ?_
    exact fin1 [0] trivial rfl rfl ⟨rfl, rfl⟩
  · simp -implicitDefEqProofs (disch := omega) [List.getElem?_cons_zero, List.getElem?_cons_succ, wrap_id, hx']
    exact fin1 [0] trivial rfl rfl ⟨rfl, rfl⟩
theorem cloneRR_ok (P : List Rl) (hx : P.length ≤ 1000000) : PC Tryz.prog 82 [.sl (P.map rrowP)] (.os 0 0 P.length) [.tab (P.map fun r => .p (rrowP r)) 87 false] := by
  refine PC_of_W cfn82 ?_
  simp -implicitDefEqProofs (disch := omega) [c82, List.getElem?_cons_zero, List.getElem?_cons_succ, wrap_id, stepK_eqn, eqnP]
  have hx' : P.length ≤ 1048576 := by omega
  refine ⟨?_, ?_⟩
  · rintro rfl
    simp -implicitDefEqProofs (disch := omega) [List.getElem?_cons_zero, List.getElem?_cons_succ, wrap_id]
    refine finW (Wk_nilT 2 87 rfl) ?_
    exact fin1 [0] trivial rfl rfl ⟨rfl, rfl⟩
  · have hall : ((P.map rrowP).all fun x => x.one) = true := by simp [PV.one]
    simp -implicitDefEqProofs (disch := omega) [List.getElem?_cons_zero, List.getElem?_cons_succ, wrap_id, hx', elemsT, hall, Function.comp_def, PV.one]
    exact fin1 [0] trivial rfl rfl ⟨rfl, by simp [renH, ren_tab, renL_mp]⟩
theorem cloneR_ok (r : Rl) : PC Tryz.prog 83 [rrowP r] (.os 0 0 1) [.row [ruleP r] 2 86 false] := by
  refine PC_of_W cfn83 ?_
  simp -implicitDefEqProofs (disch := omega) [c83, List.getElem?_cons_zero, List.getElem?_cons_succ, wrap_id, stepK_eqn, eqnP]
  exact fin1 [0] trivial rfl rfl ⟨rfl, rfl⟩
theorem cloneO_ok (L : List Nat) (hx : L.length ≤ 1000000) : PC Tryz.prog 84 [.sl (L.map outP)] (.p (.sl (L.map outP))) [] := by
  refine PC_of_W cfn84 ?_
  simp -implicitDefEqProofs (disch := omega) [c84, List.getElem?_cons_zero, List.getElem?_cons_succ, wrap_id, stepK_eqn, eqnP]
  have hx' : L.length ≤ 1048576 := by omega
  refine ⟨?_, ?_⟩
  · rintro rfl
    simp -implicitDefEqProofs (disch := omega) [List.getElem?_cons_zero, List.getElem?_cons_succ, wrap_id]
    refine finW (Wk_nil0 2 rfl) ?_
    (refine fin0 trivial rfl ?_; simp -implicitDefEqProofs (disch := omega) [List.getElem?_cons_zero, List.getElem?_cons_succ, idx, wrap_id])
  · simp -implicitDefEqProofs (disch := omega) [List.getElem?_cons_zero, List.getElem?_cons_succ, wrap_id, hx']
    (refine fin0 trivial rfl ?_; simp -implicitDefEqProofs (disch := omega) [List.getElem?_cons_zero, List.getElem?_cons_succ, idx, wrap_id])
theorem copied_ok (R : List (List Rl)) (h1 : 1 ≤ R.length) (hn : R.length ≤ 12) (hR : ∀ P ∈ R, 1 ≤ P.length ∧ P.length ≤ 16 ∧ ∀ r ∈ P, r.2.length ≤ 16) :
    PC Tryz.prog 49 [.sl (R.map procP)] (.p (.sl (R.map procP))) [] := by
  refine PC_of_W cfn49 ?_
  simp -implicitDefEqProofs (disch := omega) [c49, List.getElem?_cons_zero, List.getElem?_cons_succ, wrap_id]
  refine HC_of_PC rfl (clonePr_ok R (by omega)) ?_
  simp -implicitDefEqProofs (disch := omega) [List.getElem?_cons_zero, List.getElem?_cons_succ, wrap_id]
  refine loopW R.length (fun i s => s = ⟨[(15, .i i), (14, .i R.length), (13, .os 0 0 R.length), (3, .os 0 0 R.length)], [.row (R.map procP) 3 59 false]⟩) (wk_norm [0] [15, 14, 13, 3] rfl rfl) rfl ?_
  rintro i s hi rfl
  by_cases hlt : i < R.length
  rotate_left
  · simp -implicitDefEqProofs (disch := omega) [List.getElem?_cons_zero, List.getElem?_cons_succ, wrap_id, hlt]
    (refine fin0 trivial rfl ?_; simp -implicitDefEqProofs (disch := omega) [List.getElem?_cons_zero, List.getElem?_cons_succ, idx, wrap_id])
  obtain ⟨P, hP⟩ : ∃ P, P = R[i] := ⟨_, rfl⟩
  have hPm : P ∈ R := by rw [hP]; exact List.getElem_mem hlt
  obtain ⟨p1, p16, hr⟩ := hR P hPm
  have hRi : (R.map procP)[i]? = some (procP P) := by simp [hlt, hP]
  simp -implicitDefEqProofs (disch := omega) [List.getElem?_cons_zero, List.getElem?_cons_succ, wrap_id, hlt, hRi]
  refine HC_of_PC rfl (cloneRR_ok P (by omega)) ?_
  simp -implicitDefEqProofs (disch := omega) [List.getElem?_cons_zero, List.getElem?_cons_succ, wrap_id, renL_mp]
  refine loopW P.length (fun k s => (k < P.length → s = ⟨[(25, .i k), (24, .i P.length), (23, .os 1 0 P.length), (6, .os 1 0 P.length), (4, .i i), (15, .i i), (14, .i R.length), (13, .os 0 0 R.length), (3, .os 0 0 R.length)], [.row (R.map procP) 3 59 false, .tab (P.map fun r => .p (rrowP r)) 87 false]⟩) ∧
    (k = P.length → s = ⟨[(25, .i k), (24, .i P.length), (23, .p (.sl (P.map rrowP))), (6, .p (.sl (P.map rrowP))), (4, .i i), (15, .i i), (14, .i R.length), (13, .os 0 0 R.length), (3, .os 0 0 R.length)], [.row (R.map procP) 3 59 false]⟩)) (wk_norm [0, 2] [25, 24, 23, 6, 4, 15, 14, 13, 3] rfl rfl) ?_ ?_
  · refine ⟨fun _ => ?_, fun h => by omega⟩
    simp [norm, renH, ren_row, ren_tab, renL_mp, Abs.get, AV.ren, idx_at, idx_at0]
  rintro k s hk ⟨hA, hB⟩
  by_cases hkl : k < P.length
  · obtain rfl := hA hkl
    obtain ⟨r, hrd⟩ : ∃ r, r = P[k] := ⟨_, rfl⟩
    have hPk : (P.map fun r => AV.p (rrowP r))[k]? = some (.p (rrowP r)) := by simp [hkl, hrd]
    have hPs : ∀ x, ((P.map fun r => AV.p (rrowP r)).set k x)[k]? = some x := fun x => by rw [List.getElem?_set_self (by simpa using hkl)]
    have hrl := hr r (by rw [hrd]; exact List.getElem_mem hkl)
    simp -implicitDefEqProofs (disch := omega) [List.getElem?_cons_zero, List.getElem?_cons_succ, wrap_id, hkl, hPk]
    refine HC_of_PC rfl (cloneR_ok r) ?_
    simp -implicitDefEqProofs (disch := omega) [List.getElem?_cons_zero, List.getElem?_cons_succ, wrap_id, hkl, hPk]
    have hset : (P.map fun r => AV.p (rrowP r)).set k (.p (rrowP r)) = P.map fun r => AV.p (rrowP r) := by
      apply List.ext_getElem (by simp)
      intro i h1 h2
      rw [List.getElem_set]
      split
      · rename_i e; subst e; simp [hrd]
      · rfl
    refine loopW 1 (fun a s => s = ⟨[(37, .i a), (36, .i 1), (35, .p (rrowP r)), (7, .i k), (25, .i k), (24, .i P.length), (23, .os 1 0 P.length), (6, .os 1 0 P.length), (4, .i i), (15, .i i), (14, .i R.length), (13, .os 0 0 R.length), (3, .os 0 0 R.length)], [.row (R.map procP) 3 59 false, .tab ((P.map fun r => AV.p (rrowP r)).set k (.os 2 0 1)) 87 false, .row [ruleP r] 2 86 false]⟩) (wk_norm [0, 1, 2] [37, 36, 35, 7, 25, 24, 23, 6, 4, 15, 14, 13, 3] rfl rfl) ?_ ?_
    · simp [norm, renH, ren_row, ren_tab, renL_set, renL_mp, Abs.get, AV.ren, idx_at, idx_at0]
    rintro a s ha rfl
    by_cases hla : a < 1
    · obtain rfl : a = 0 := by omega
      simp -implicitDefEqProofs (disch := omega) [List.getElem?_cons_zero, List.getElem?_cons_succ, wrap_id, hkl, hPs]
      refine HC_of_PC rfl (cloneO_ok r.2 (by omega)) ?_
      simp -implicitDefEqProofs (disch := omega) [List.getElem?_cons_zero, List.getElem?_cons_succ, wrap_id, hkl, hPs]
      refine round_end [0, 1, 2] [37, 36, 35, 7, 25, 24, 23, 6, 4, 15, 14, 13, 3] hla rfl ?_
      simp [norm, renH, ren_row, ren_tab, renL_set, renL_mp, Abs.get, AV.ren, idx_at, idx_at0]
    · obtain rfl : a = 1 := by omega
      simp -implicitDefEqProofs (disch := omega) [List.getElem?_cons_zero, List.getElem?_cons_succ, wrap_id]
      by_cases hke : k + 1 = P.length
      · refine round_end [0] [25, 24, 23, 6, 4, 15, 14, 13, 3] hkl rfl ⟨fun h => by omega, fun _ => ?_⟩
        have hren : List.map (ren0 [AO.row (List.map procP R) 3 59 false, AO.tab ((List.map (fun r => AV.p (rrowP r)) P).set k (AV.os 2 0 1)) 87 false, AO.row [ruleP r] 2 86 false] (idx [0] 0)) ((List.map (fun r => AV.p (rrowP r)) P).set k (AV.os 2 0 1)) = P.map fun r => AV.p (rrowP r) := by
          rw [List.map_set, List.map_map]
          have e1 : (ren0 [AO.row (List.map procP R) 3 59 false, AO.tab ((List.map (fun r => AV.p (rrowP r)) P).set k (AV.os 2 0 1)) 87 false, AO.row [ruleP r] 2 86 false] (idx [0] 0)) ∘ (fun r : Rl => AV.p (rrowP r)) = fun r => AV.p (rrowP r) := by funext x; rfl
          rw [e1]
          exact hset
        have hall := allOne_mp (fun r : Rl => rrowP r) (fun _ => rfl) P
        simp [-allOne, norm, renH, ren_row, ren_tab, renL_set, renL_mp, Abs.get, AV.ren, idx_at, idx_at0] at hren ⊢
        simp [-allOne, hren, hall]
      · refine round_end [0, 1] [25, 24, 23, 6, 4, 15, 14, 13, 3] hkl rfl ⟨fun _ => ?_, fun h => by omega⟩
        simp [norm, renH, ren_row, ren_tab, renL_set, renL_mp, Abs.get, AV.ren, idx_at, idx_at0, hset]
  · obtain rfl := hB (by omega)
    obtain rfl : k = P.length := by omega
    have hset2 : (R.map procP).set i (PV.agg [.i P.length, .i 1, .sl (P.map rrowP)]) = R.map procP := by
      apply List.ext_getElem (by simp)
      intro j h1 h2
      rw [List.getElem_set]
      split
      · rename_i e; subst e; simp [hP]
      · rfl
    simp -implicitDefEqProofs (disch := omega) [List.getElem?_cons_zero, List.getElem?_cons_succ, wrap_id, hlt, hRi]
    rw [hset2]
    exact round_end [0] [15, 14, 13, 3] hlt rfl rfl
end Go.Proofs.YtekniokkmgencaaGreat
end
section
set_option linter.unusedSimpArgs false
set_option linter.unusedVariables false
namespace Go.Proofs.YtekniokkmgencaaGreat
open Go.Abs Go.Sand
theorem call_bf : callable Tryz.prog 75 = true := by kernel_rfl
theorem wcheck_ok (fs : List Int) (hl : fs.length ≤ 4096) (hf : fs.any badF = false) : PC Tryz.prog 42 [.is fs] (.i 0) [] := by
  have h1 : ¬ (4096 : Int) < fs.length := by omega
  refine PC_of_W cfn42 ?_
  simp -implicitDefEqProofs (disch := omega) [c42, List.getElem?_cons_zero, List.getElem?_cons_succ, wrap_id, h1]
  refine hasfI_ok (fs := []) (cs := []) (p := badF) fs (by omega) call_bf (fun k _ K hK => ?_) ?_
  · refine HC_of_PC rfl (badf_ok k) ?_
    exact hK
  · rw [hf]
    simp -implicitDefEqProofs (disch := omega) [List.getElem?_cons_zero, List.getElem?_cons_succ, wrap_id]
    (refine fin0 trivial rfl ?_; simp -implicitDefEqProofs (disch := omega) [List.getElem?_cons_zero, List.getElem?_cons_succ, idx, wrap_id])
def waitI (q : Int) (d : List Int) (i : Nat) : Int := if (i : Int) = q then 0 else d.getD i 0
def waitL (q : Int) (d : List Int) : List Int := (List.range d.length).map (waitI q d)
theorem renL_app (H : List AO) (ρ : Nat → Option Nat) (a b : List AV) : renL H ρ (a ++ b) = renL H ρ a ++ renL H ρ b := by
  rw [renL_eq, renL_eq, renL_eq, List.map_append]
theorem nwaiting_ok (d : List Int) (q : Int) (hl : d.length ≤ 1000) : PC Tryz.prog 21 [.is d, .i q] (.p (.sl ((waitL q d).map wtP))) [] := by
  refine PC_of_W cfn21 ?_
  simp -implicitDefEqProofs (disch := omega) [c21, List.getElem?_cons_zero, List.getElem?_cons_succ, wrap_id]
  refine loopW d.length (fun k s => s = ⟨[(10, .i k), (9, .i d.length), (8, .p (.is d)), (1, .i q), (5, .os 0 0 k)], [.tab ((List.range k).map fun i => .p (wtP (waitI q d i))) 25 false]⟩) ((Wk_nilT 5 25 rfl).trans (wk_norm [0] [10, 9, 8, 1, 5] rfl rfl)) (by simp [norm, renH, ren_tab, renL, Abs.get, put, AV.ren, idx_at, idx_at0]) ?_
  rintro k s hk rfl
  by_cases hlt : k < d.length
  · have hb : k ≤ 1048575 := by omega
    have hg : d.getD k 0 = d[k] := by rw [List.getD_eq_getElem?_getD, List.getElem?_eq_getElem hlt]; rfl
    by_cases c : (k : Int) = q
    · have hw : waitI q d k = 0 := by unfold waitI; rw [if_pos c]
      have c' : ((k : Int) = q) = True := eq_true c
      simp -implicitDefEqProofs (disch := omega) [List.getElem?_cons_zero, List.getElem?_cons_succ, wrap_id, hlt, c', hb]
      refine round_end [0] [10, 9, 8, 1, 5] hlt rfl ?_
      simp [norm, renH, ren_tab, renL_app, renL_mp, renL, Abs.get, AV.ren, idx_at, idx_at0, List.range_succ, hw]
    · have hw : waitI q d k = d[k] := by unfold waitI; rw [if_neg c, hg]
      simp -implicitDefEqProofs (disch := omega) [List.getElem?_cons_zero, List.getElem?_cons_succ, wrap_id, hlt, c, hb]
      refine round_end [0] [10, 9, 8, 1, 5] hlt rfl ?_
      simp [norm, renH, ren_tab, renL_app, renL_mp, renL, Abs.get, AV.ren, idx_at, idx_at0, List.range_succ, hw]
  · obtain rfl : k = d.length := by omega
    simp -implicitDefEqProofs (disch := omega) [List.getElem?_cons_zero, List.getElem?_cons_succ, wrap_id]
    have hren : ∀ (Hs : List AO) (ρ : Nat → Option Nat), List.map (ren0 Hs ρ) ((List.range d.length).map fun i => AV.p (wtP (waitI q d i))) = (List.range d.length).map fun i => AV.p (wtP (waitI q d i)) := fun Hs ρ => by
      rw [List.map_map]; rfl
    have hall := allOne_mp (fun i : Nat => wtP (waitI q d i)) (fun _ => rfl) (List.range d.length)
    have hml : (waitL q d).map wtP = (List.range d.length).map fun i => wtP (waitI q d i) := by rw [waitL, List.map_map]; rfl
    refine fin0 trivial rfl ?_
    rw [hml]
    simp -implicitDefEqProofs [-allOne, idx, AV.ren]
    have e1 : (ren0 [AO.tab (List.map (fun i => AV.p (wtP (waitI q d i))) (List.range d.length)) 25 false] fun _ => none) ∘ (fun i => AV.p (wtP (waitI q d i))) = fun i => AV.p (wtP (waitI q d i)) := by funext i; rfl
    rw [e1, hall]
end Go.Proofs.YtekniokkmgencaaGreat
end
section
set_option linter.unusedSimpArgs false
set_option linter.unusedVariables false
namespace Go.Proofs.YtekniokkmgencaaGreat
open Go.Abs Go.Sand
theorem ixlt {n u v : Nat} (hu : u < n) (hv : v < n) : u * n + v < n * n := by
  have : (u + 1) * n ≤ n * n := Nat.mul_le_mul_right _ hu
  rw [Nat.succ_mul] at this; omega
theorem ixinj {n u v u' v' : Nat} (hv : v < n) (hv' : v' < n) (e : u * n + v = u' * n + v') : u = u' ∧ v = v' := by
  have h1 : ∀ u v, v < n → (u * n + v) % n = v := fun u v h => by rw [Nat.add_comm, Nat.add_mul_mod_self_right, Nat.mod_eq_of_lt h]
  have h2 : ∀ u v, v < n → (u * n + v) / n = u := fun u v h => by rw [Nat.add_comm, Nat.add_mul_div_right _ _ (by omega), Nat.div_eq_of_lt h, Nat.zero_add]
  exact ⟨by rw [← h2 u v hv, e, h2 u' v' hv'], by rw [← h1 u v hv, e, h1 u' v' hv']⟩
theorem ixof {n k : Nat} (hk : k < n * n) : ∃ u v, u < n ∧ v < n ∧ k = u * n + v := by
  have h0 : 0 < n := Nat.pos_of_ne_zero (by rintro rfl; simp at hk)
  exact ⟨k / n, k % n, Nat.div_lt_of_lt_mul hk, Nat.mod_lt _ h0, by rw [Nat.mul_comm]; exact (Nat.div_add_mod k n).symm⟩
def sentL (n : Nat) (es : List Ed) (v : Nat) : List Nat := (List.range n).flatMap fun u => if u = v then [] else List.replicate (joinE es v u).toNat u
def procR (n : Nat) (es : List Ed) (q : Int) (v : Nat) : List Rl :=
  if (v : Int) = q then [(0, [])] else (List.range (valTo es v n).toNat).map fun s => ((s + 1) % (valTo es v n).toNat, if s + 1 = (valTo es v n).toNat then sentL n es v else [])
def wpR (n : Nat) (es : List Ed) (q : Int) : List (List Rl) := (List.range n).map (procR n es q)
def wpN (n : Nat) (es : List Ed) (q : Int) (d : List Int) : Net := ⟨wpR n es q, List.replicate n 0, waitL q d⟩
theorem wpR_len {n : Nat} {es : List Ed} {q : Int} : (wpR n es q).length = n := by simp [wpR]
theorem count_flat (f : Nat → List Nat) (t : Nat) : ∀ k, ((List.range k).flatMap f).count t = ((List.range k).map fun u => (f u).count t).foldr (· + ·) 0
  | 0 => by simp
  | k + 1 => by
    have h0 : ∀ (l : List Nat) (a : Nat), (l ++ [a]).foldr (· + ·) 0 = l.foldr (· + ·) 0 + a := fun l a => by
      induction l with
      | nil => simp
      | cons x l ih => simp only [List.cons_append, List.foldr_cons, ih]; omega
    rw [List.range_succ, List.flatMap_append, List.count_append, count_flat f t k, List.map_append, List.map_singleton, h0]
    simp
theorem sum_one (g : Nat → Nat) (t : Nat) (hg : ∀ u, u ≠ t → g u = 0) : ∀ k, ((List.range k).map g).foldr (· + ·) 0 = if t < k then g t else 0
  | 0 => by simp
  | k + 1 => by
    have h0 : ∀ (l : List Nat) (a : Nat), (l ++ [a]).foldr (· + ·) 0 = l.foldr (· + ·) 0 + a := fun l a => by
      induction l with
      | nil => simp
      | cons x l ih => simp only [List.cons_append, List.foldr_cons, ih]; omega
    rw [List.range_succ, List.map_append, List.map_singleton, h0, sum_one g t hg k]
    by_cases c : t = k
    · subst c; simp
    · rw [hg k (fun e => c e.symm)]
      by_cases c2 : t < k
      · rw [if_pos c2, if_pos (by omega)]; rfl
      · rw [if_neg c2, if_neg (by omega)]
theorem sent_count {n : Nat} {es : List Ed} {v t : Nat} (ht : t < n) : (sentL n es v).count t = (joinE es v t).toNat := by
  unfold sentL
  rw [count_flat, sum_one (t := t) _ (fun u hu => by
    by_cases c : u = v
    · rw [if_pos c]; simp
    · rw [if_neg c, List.count_replicate, if_neg (by simpa using hu)]), if_pos ht]
  by_cases c : t = v
  · rw [if_pos c, c, joinE, if_pos rfl]; rfl
  · rw [if_neg c, List.count_replicate, if_pos (by simp)]
theorem sent_mem {n : Nat} {es : List Ed} {v t : Nat} (h : t ∈ sentL n es v) : t < n ∧ t ≠ v := by
  unfold sentL at h
  obtain ⟨u, hu, ht⟩ := List.mem_flatMap.1 h
  split at ht
  · simp at ht
  · rename_i c
    have := (List.mem_replicate.1 ht).2
    subst this
    exact ⟨List.mem_range.1 hu, c⟩
section
variable {n : Nat} {es : List Ed} {q : Int} {d s : List Int} {w : WS}
structure PkOk (n : Nat) (w : WS) (p : Pk) : Prop where
  lt : p.ln < n * n
  a : p.ack = true → p.num ≤ (lnAt w p.ln).acc
  l : p.ack = false → p.num ≤ (lnAt w p.ln).rem + (lnAt w p.ln).q
theorem PkOk.of {w' : WS} {p : Pk} (h : PkOk n w p) (ha : ∀ k, (lnAt w k).acc ≤ (lnAt w' k).acc) (hq : ∀ k, (lnAt w k).rem + (lnAt w k).q ≤ (lnAt w' k).rem + (lnAt w' k).q) : PkOk n w' p :=
  ⟨h.lt, fun e => Int.le_trans (h.a e) (ha _), fun e => Int.le_trans (h.l e) (hq _)⟩
structure JI (n : Nat) (es : List Ed) (q : Int) (d : List Int) (s : List Int) (w : WS) : Prop where
  leg : Leg n es q d s
  ll : w.ln.length = n * n
  wl : w.wt.length = n
  cl : w.cn.length = n
  sl : w.st.length = n
  cn : ∀ v, v < n → (v : Int) ≠ q → w.cn.getD v 0 = valTo es v n * s.getD v 0 + (w.st.getD v 0 : Nat)
  cnn : ∀ v, v < n → 0 ≤ w.cn.getD v 0
  stb : ∀ v, v < n → (v : Int) ≠ q → ((w.st.getD v 0 : Nat) : Int) < valTo es v n
  stq : ∀ v, v < n → (v : Int) = q → w.st.getD v 0 = 0
  wt : ∀ v, v < n → w.wt.getD v 0 = (waitL q d).getD v 0 + sumN (fun u => (lnAt w (u * n + v)).acc) n - w.cn.getD v 0
  ln : ∀ u v, u < n → v < n → (lnAt w (u * n + v)).rem + (lnAt w (u * n + v)).q = joinE es u v * s.getD u 0
  to : ∀ u v, u < n → v < n → (lnAt w (u * n + v)).to = v
  acc : ∀ k, k < n * n → (lnAt w k).acc ≤ (lnAt w k).rem + (lnAt w k).q
  rem : ∀ k, k < n * n → (lnAt w k).rem ≤ (lnAt w k).acc
  fl : ∀ x ∈ w.fl, PkOk n w x.1
  lg : w.large = false
theorem wait_get (hd : d.length = n) {v : Nat} (hv : v < n) : (waitL q d).getD v 0 = if (v : Int) = q then 0 else d.getD v 0 := by
  unfold waitL
  rw [List.getD_eq_getElem?_getD, List.getElem?_map, List.getElem?_range (by omega)]
  rfl
theorem JI.bal (hg : GoodG n es) (hd : d.length = n) (h : JI n es q d s w) {v : Nat} (hv : v < n) (hq : (v : Int) ≠ q) :
    (movedE es s d).getD v 0 = w.wt.getD v 0 + (w.st.getD v 0 : Nat) + sumN (fun u => (lnAt w (u * n + v)).rem + (lnAt w (u * n + v)).q - (lnAt w (u * n + v)).acc) n := by
  have h1 : sumN (fun u => (lnAt w (u * n + v)).rem + (lnAt w (u * n + v)).q - (lnAt w (u * n + v)).acc) n + sumN (fun u => (lnAt w (u * n + v)).acc) n = sumN (fun u => joinE es v u * s.getD u 0) n := by
    rw [← sumN_add]
    refine sumN_congr fun u hu => ?_
    have := h.ln u v hu hv
    rw [joinE_sym (es := es) v u]
    omega
  have h2 := h.wt v hv
  have h3 := h.cn v hv hq
  rw [wait_get hd hv, if_neg hq] at h2
  rw [aft_eq hg hd, dif_sum hg, Int.mul_comm (s.getD v 0)]
  omega
theorem JI.pend (h : JI n es q d s w) {v : Nat} (hv : v < n) : 0 ≤ sumN (fun u => (lnAt w (u * n + v)).rem + (lnAt w (u * n + v)).q - (lnAt w (u * n + v)).acc) n :=
  sumN_nonneg fun u hu => by have := h.acc _ (ixlt hu hv); omega
end
end Go.Proofs.YtekniokkmgencaaGreat
end
section
set_option linter.unusedSimpArgs false
set_option linter.unusedVariables false
namespace Go.Proofs.YtekniokkmgencaaGreat
open Go.Abs Go.Sand
abbrev toQ (l : List Nat) : PV := if l = [] then .nil else .sl (l.map outP)
abbrev ruleQ (r : Rl) : PV := .agg [.i r.1, toQ r.2]
abbrev rrowQ (r : Rl) : PV := .sl [ruleQ r]
abbrev procQ (R : List Rl) : PV := .agg [.i R.length, .i 1, .sl (R.map rrowQ)]
def sentTo (es : List Ed) (v k : Nat) : List Nat := (List.range k).flatMap fun u => if u = v then [] else List.replicate (joinE es v u).toNat u
theorem sentTo_succ (es : List Ed) (v k : Nat) : sentTo es v (k + 1) = sentTo es v k ++ if k = v then [] else List.replicate (joinE es v k).toNat k := by
  unfold sentTo
  rw [List.range_succ, List.flatMap_append]
  simp
theorem sentTo_len {n : Nat} {es : List Ed} (hg : GoodG n es) (v : Nat) : ∀ k, ((sentTo es v k).length : Int) = valTo es v k
  | 0 => rfl
  | k + 1 => by
    rw [sentTo_succ, List.length_append, Int.natCast_add, sentTo_len hg v k, valTo_sum v k, valTo_sum v (k + 1), sumN]
    have := (joinE_bd hg v k).1
    by_cases c : k = v
    · subst c; rw [if_pos rfl, joinE_self]; simp
    · rw [if_neg c, List.length_replicate]; omega
theorem valTo_mono {n : Nat} {es : List Ed} (hg : GoodG n es) (v : Nat) {j k : Nat} (h : j ≤ k) : valTo es v j ≤ valTo es v k := by
  induction h with
  | refl => exact Int.le_refl _
  | step h ih =>
    rename_i k
    have := (joinE_bd hg v k).1
    have e1 := valTo_sum (es := es) v k
    have e2 := valTo_sum (es := es) v (k + 1)
    rw [sumN] at e2
    show valTo es v j ≤ valTo es v (k + 1)
    omega
def topE (n : Nat) (es : List Ed) (v V s : Nat) : Rl := ((s + 1) % V, if s + 1 = V then sentL n es v else [])
def fzF (V j : Nat) : Bool := decide (j = V)
theorem nil3 {m0 : Nat} {t : List (Nat × AV)} {A B C : AO} {a b : PV} : Wk m0 ⟨t, [A, B, C, .box (.p (.agg [a, b, .nil]))]⟩ ⟨t, [A, B, C, .box (.agg [.p a, .p b, .os 4 0 0]), .tab [] 87 false]⟩ :=
  nilE_t (s := ⟨t, [A, B, C, .box (.p (.agg [a, b, .nil]))]⟩) 3 2 87 (x := .p (.agg [a, b, .nil])) rfl rfl
theorem toppler_ok (n : Nat) (es : List Ed) (hgc : gcheck n es = 0) (hel : es.length ≤ 900) (v V : Nat) (hv : v < n) (hV : valTo es v n = V) (hV1 : 1 ≤ V) (hV16 : V ≤ 12) :
    PC Tryz.prog 23 [G n es, .i v] (.tup [.agg [.p (.i V), .p (.i 1), .p (.sl ((List.range V).map fun s => rrowQ (topE n es v V s)))], .i 0]) [] := by
  have hg := gcheck_ok hgc
  have hn := hg.n12
  refine PC_of_W cfn23 ?_
  simp -implicitDefEqProofs (disch := omega) [c23, List.getElem?_cons_zero, List.getElem?_cons_succ, wrap_id]
  refine loopW n (fun k s => s = ⟨[(16, .i k), (15, .i n), (6, .os 2 0 (sentTo es v k).length), (1, .i v), (2, .ptr 0 1 0 0), (4, .ptr 1 1 0 0)], [.box (.p (G n es)), .box (.p (.agg [.i 0, .i 0, .nil])), .row ((sentTo es v k).map outP) 2 83 false]⟩)
    ((Wk_nil 6 2 83 rfl).trans (wk_norm [0, 1, 2] [16, 15, 6, 1, 2, 4] rfl rfl)) rfl ?_
  rintro k s hk rfl
  have hlen := sentTo_len hg v k
  have hmono := valTo_mono hg v hk
  by_cases hlt : k < n
  · by_cases c : k = v
    · have hs : sentTo es v (k + 1) = sentTo es v k := by rw [sentTo_succ, if_pos c, List.append_nil]
      have c' : ((k : Int) = v) = True := eq_true (by omega)
      simp -implicitDefEqProofs (disch := omega) [List.getElem?_cons_zero, List.getElem?_cons_succ, wrap_id, hlt, c']
      exact round_end [0, 1, 2] [16, 15, 6, 1, 2, 4] hlt rfl (by rw [hs]; rfl)
    · have hs := sentTo_succ es v k
      rw [if_neg c] at hs
      have c' : ¬ (k : Int) = v := by omega
      have hj : betw es (min (v : Int) k) (max (v : Int) k) = joinE es v k := by
        unfold joinE; rw [if_neg c, Int.min_comm, Int.max_comm]
      simp -implicitDefEqProofs (disch := omega) [List.getElem?_cons_zero, List.getElem?_cons_succ, wrap_id, hlt, c']
      refine HC_of_PC rfl (between_ok n es hgc (by omega) v k ⟨by omega, by omega⟩ ⟨by omega, by omega⟩) ?_
      rw [hj]
      have hj0 := (joinE_bd hg v k).1
      have hmono2 := valTo_mono hg v (show k + 1 ≤ n by omega)
      have hlen2 := sentTo_len hg v (k + 1)
      obtain ⟨j, hjj⟩ : ∃ j : Nat, joinE es v k = j := ⟨(joinE es v k).toNat, by omega⟩
      rw [hjj] at hs ⊢
      rw [Int.toNat_natCast] at hs
      have hll : (sentTo es v (k + 1)).length = (sentTo es v k).length + j := by rw [hs]; simp
      simp -implicitDefEqProofs (disch := omega) [List.getElem?_cons_zero, List.getElem?_cons_succ, wrap_id]
      have hj12 : j ≤ 12 := by omega
      have hbig : (sentTo es v k).length + j ≤ 1048576 := by omega
      by_cases hj1 : j = 0
      · subst hj1
        rw [List.replicate_zero, List.append_nil] at hs
        refine HC_of_PC rfl (repeatO0_ok k) ?_
        have hb0 : (sentTo es v k).length ≤ 1048576 := by omega
        simp -implicitDefEqProofs (disch := omega) [List.getElem?_cons_zero, List.getElem?_cons_succ, wrap_id, hb0]
        exact round_end [0, 1, 2] [16, 15, 6, 1, 2, 4] hlt rfl (by rw [hs]; rfl)
      · refine HC_of_PC rfl (repeatO_ok j (by omega) hj12 k) ?_
        simp -implicitDefEqProofs (disch := omega) [List.getElem?_cons_zero, List.getElem?_cons_succ, wrap_id, hbig]
        refine round_end [0, 1, 2] [16, 15, 6, 1, 2, 4] hlt rfl ?_
        have hm : (sentTo es v (k + 1)).map outP = (sentTo es v k).map outP ++ List.replicate j (outP k) := by rw [hs]; simp
        rw [hm, hll]
        rfl
  obtain rfl : k = n := by omega
  have hS : sentTo es v k = sentL k es v := rfl
  rw [hS] at hlen ⊢
  have hlV : (sentL k es v).length = V := by omega
  have hb1 : ¬ (16 : Int) < V := by omega
  have hne : sentL k es v ≠ [] := fun e => by rw [e] at hlV; simp at hlV; omega
  simp -implicitDefEqProofs (disch := omega) [List.getElem?_cons_zero, List.getElem?_cons_succ, wrap_id, hb1, hlV]
  refine loopW V (fun j s => s = ⟨[(53, .i j), (52, .i V), (6, .os 2 0 V), (10, .i V), (4, .ptr 1 1 0 0), (11, .ptr 3 1 0 0)], [.box (.p (G k es)), .box (.p (.agg [.i 0, .i 0, .nil])), .row ((sentL k es v).map outP) 2 83 (fzF V j), .box (.agg [.i V, .i 1, .os 4 0 j]), .tab ((List.range j).map fun s => .p (rrowQ (topE k es v V s))) 87 false]⟩)
    (nil3.trans (wk_norm [0, 1, 2, 3, 4] [53, 52, 6, 10, 4, 11] rfl rfl)) ?_ ?_
  · have hf0 : fzF V 0 = false := decide_eq_false (by omega)
    simp [norm, renH, ren_tab, ren_box, renL, Abs.get, AV.ren, idx_at, idx_at0, ren_row, hf0]
  rintro j s hj rfl
  by_cases hlt : j < V
  · have hjV : j ≤ 1048575 := by omega
    have hf0 : fzF V j = false := decide_eq_false (by omega)
    have hV0 : ¬ V = 0 := by omega
    have hmod : ((j : Int) + 1).tmod (V : Int) = (((j + 1) % V : Nat) : Int) := rfl
    have ht1 : (topE k es v V j).1 = (j + 1) % V := rfl
    by_cases c : j + 1 = V
    · have c1 : ((j : Int) = (V : Int) - 1) = True := eq_true (by omega)
      have ht2 : (topE k es v V j).2 = sentL k es v := if_pos c
      have hf1 : fzF V (j + 1) = true := decide_eq_true c
      simp -implicitDefEqProofs (disch := omega) [List.getElem?_cons_zero, List.getElem?_cons_succ, wrap_id, hlt, hlV, hjV, hV0, hmod, c1, hf0]
      refine round_end [0, 1, 2, 3, 4] [53, 52, 6, 10, 4, 11] hlt rfl ?_
      simp [norm, renH, ren_tab, renL_app, renL_mp, ren_box, renL, Abs.get, AV.ren, idx_at, idx_at0, ren_row, List.range_succ, ht1, ht2, hne, hf1]
    · have c1 : ((j : Int) = (V : Int) - 1) = False := eq_false (by omega)
      have ht2 : (topE k es v V j).2 = [] := if_neg c
      have hf1 : fzF V (j + 1) = false := decide_eq_false c
      simp -implicitDefEqProofs (disch := omega) [List.getElem?_cons_zero, List.getElem?_cons_succ, wrap_id, hlt, hlV, hjV, hV0, hmod, c1, hf0]
      refine round_end [0, 1, 2, 3, 4] [53, 52, 6, 10, 4, 11] hlt rfl ?_
      simp [norm, renH, ren_tab, renL_app, renL_mp, ren_box, renL, Abs.get, AV.ren, idx_at, idx_at0, ren_row, List.range_succ, ht1, ht2, hne, hf1]
  · obtain rfl : j = V := by omega
    simp -implicitDefEqProofs (disch := omega) [List.getElem?_cons_zero, List.getElem?_cons_succ, wrap_id, hlV]
    refine fin0 (x := .tup [.agg [.i j, .i 1, .os 4 0 j], .i 0]) trivial rfl ?_
    have hren : ∀ (Hs : List AO) (ρ : Nat → Option Nat), List.map (ren0 Hs ρ) ((List.range j).map fun s => AV.p (rrowQ (topE k es v j s))) = (List.range j).map fun s => AV.p (rrowQ (topE k es v j s)) := fun Hs ρ => by
      rw [List.map_map]; rfl
    have hall := allOne_mp (fun s : Nat => rrowQ (topE k es v j s)) (fun _ => rfl) (List.range j)
    simp -implicitDefEqProofs [-allOne, idx, AV.ren, renL]
    have e1 : (List.range j).map (ren0 [AO.box (AV.p (G k es)), AO.box (AV.agg [AV.i j, AV.i 1, AV.os 4 0 j]), AO.row (List.map outP (sentL k es v)) 2 83 (fzF j j), AO.box (AV.agg [AV.i j, AV.i 1, AV.os 4 0 j]), AO.tab (List.map (fun s => AV.p (rrowQ (topE k es v j s))) (List.range j)) 87 false] (fun _ => none) ∘ fun s => AV.p (rrowQ (topE k es v j s))) = (List.range j).map fun s => AV.p (rrowQ (topE k es v j s)) := rfl
    rw [e1, hall]
end Go.Proofs.YtekniokkmgencaaGreat
end
section
set_option linter.unusedSimpArgs false
set_option linter.unusedVariables false
namespace Go.Proofs.YtekniokkmgencaaGreat
open Go.Abs Go.Sand
def nzB (k : Int) : Bool := !decide (k = 0)
theorem w1p_ok (k : Int) : PC Tryz.prog 51 [wtP k] (.b (nzB k)) [] := by
  refine PC_of_W cfn51 ?_
  simp -implicitDefEqProofs (disch := omega) [c51, List.getElem?_cons_zero, List.getElem?_cons_succ, wrap_id]
  refine hasfI_ok (fs := []) (cs := []) (p := nzB) [k] (by simp) call_w2 (fun x _ K hK => ?_) ?_
  · refine HC_of_PC rfl (nz_ok x) ?_
    exact hK
  · simp -implicitDefEqProofs (disch := omega) [List.getElem?_cons_zero, List.getElem?_cons_succ, wrap_id]
    (refine fin0 trivial rfl ?_; simp -implicitDefEqProofs (disch := omega) [List.getElem?_cons_zero, List.getElem?_cons_succ, idx, wrap_id])
theorem waitp_ok (l : List Int) (hl : l.length ≤ 1000) : PC Tryz.prog 30 [.sl (l.map wtP)] (.b (l.any nzB)) [] := by
  refine PC_of_W cfn30 ?_
  simp -implicitDefEqProofs (disch := omega) [c30, List.getElem?_cons_zero, List.getElem?_cons_succ, wrap_id]
  refine HC_of_W (af := _) ((by exact cfn50 : cfn _ _ _ = some _)) ?_
  simp -implicitDefEqProofs (disch := omega) [c50, List.getElem?_cons_zero, List.getElem?_cons_succ, wrap_id]
  refine HC_of_W (af := _) ((by exact cfn85 : cfn _ _ _ = some _)) ?_
  simp -implicitDefEqProofs (disch := omega) [c85, List.getElem?_cons_zero, List.getElem?_cons_succ, wrap_id]
  refine loopW l.length (fun k s => s = ⟨[(8, .i k), (7, .i l.length), (6, .p (.sl (l.map wtP))), (0, .p (.sl (l.map wtP))), (1, .fn (.func 51) [] [])], []⟩ ∧ l.any nzB = (l.drop k).any nzB) (Wk_keep [8, 7, 6, 0, 1]) ⟨rfl, rfl⟩ ?_
  rintro k s hk ⟨rfl, hI⟩
  by_cases hlt : k < l.length
  · have hd := drop_any nzB l k hlt
    simp -implicitDefEqProofs (disch := omega) [List.getElem?_cons_zero, List.getElem?_cons_succ, wrap_id, hlt, call_w1]
    refine HC_of_PC rfl (w1p_ok l[k]) ?_
    cases hv : nzB l[k]
    · rw [hv] at hd
      simp -implicitDefEqProofs (disch := omega) [List.getElem?_cons_zero, List.getElem?_cons_succ, wrap_id]
      exact round_keep [8, 7, 6, 0, 1] hlt ⟨rfl, by rw [hI, hd]; rfl⟩
    · rw [hv] at hd
      simp -implicitDefEqProofs (disch := omega) [List.getElem?_cons_zero, List.getElem?_cons_succ, wrap_id]
      refine finH trivial rfl ?_
      simp -implicitDefEqProofs (disch := omega) [List.getElem?_cons_zero, List.getElem?_cons_succ, wrap_id]
      refine finH trivial rfl ?_
      simp -implicitDefEqProofs (disch := omega) [List.getElem?_cons_zero, List.getElem?_cons_succ, wrap_id]
      (refine fin0 trivial rfl ?_; simp -implicitDefEqProofs (disch := omega) [List.getElem?_cons_zero, List.getElem?_cons_succ, idx, wrap_id, hI, hd])
  · simp -implicitDefEqProofs (disch := omega) [List.getElem?_cons_zero, List.getElem?_cons_succ, wrap_id, hlt]
    refine finH trivial rfl ?_
    simp -implicitDefEqProofs (disch := omega) [List.getElem?_cons_zero, List.getElem?_cons_succ, wrap_id]
    refine finH trivial rfl ?_
    simp -implicitDefEqProofs (disch := omega) [List.getElem?_cons_zero, List.getElem?_cons_succ, wrap_id]
    (refine fin0 trivial rfl ?_; simp -implicitDefEqProofs (disch := omega) [List.getElem?_cons_zero, List.getElem?_cons_succ, idx, wrap_id, hI, List.drop_of_length_le (Nat.le_of_not_lt hlt)])
abbrev snP (R : List (List Rl)) (st : List Nat) (wt cn : List Int) (t s f q : Int) : PV := .agg [.sl (R.map procP), stP st, .sl (wt.map wtP), .sl (cn.map wtP), .i t, .i s, .i f, .i q]
theorem quiet_ok (R : List (List Rl)) (st : List Nat) (wt cn : List Int) (t s f q : Int) (hl : wt.length ≤ 1000) : PC Tryz.prog 10 [snP R st wt cn t s f q] (.b (!wt.any nzB && decide (f = 0) && decide (q = 0))) [] := by
  refine PC_of_W cfn10 ?_
  simp -implicitDefEqProofs (disch := omega) [c10, List.getElem?_cons_zero, List.getElem?_cons_succ, wrap_id]
  refine HC_of_PC rfl (waitp_ok wt hl) ?_
  obtain ⟨b, hb⟩ : ∃ b, b = wt.any nzB := ⟨_, rfl⟩
  rw [← hb]
  cases b
  · by_cases c : f = 0
    · simp -implicitDefEqProofs (disch := omega) [List.getElem?_cons_zero, List.getElem?_cons_succ, wrap_id, c]
      (refine fin0 trivial rfl ?_; simp -implicitDefEqProofs (disch := omega) [List.getElem?_cons_zero, List.getElem?_cons_succ, idx, wrap_id, c])
    · simp -implicitDefEqProofs (disch := omega) [List.getElem?_cons_zero, List.getElem?_cons_succ, wrap_id, c]
      (refine fin0 trivial rfl ?_; simp -implicitDefEqProofs (disch := omega) [List.getElem?_cons_zero, List.getElem?_cons_succ, idx, wrap_id, c])
  · simp -implicitDefEqProofs (disch := omega) [List.getElem?_cons_zero, List.getElem?_cons_succ, wrap_id]
    (refine fin0 trivial rfl ?_; simp -implicitDefEqProofs (disch := omega) [List.getElem?_cons_zero, List.getElem?_cons_succ, idx, wrap_id])
end Go.Proofs.YtekniokkmgencaaGreat
end
section
set_option linter.unusedSimpArgs false
set_option linter.unusedVariables false
namespace Go.Proofs.YtekniokkmgencaaGreat
open Go.Abs Go.Sand
theorem sink_ok : PC Tryz.prog 22 [] (.agg [.i 1, .i 1, .p (.sl [.sl [.agg [.i 0, .nil]]])]) [] := by
  refine PC_of_W cfn22 ?_
  simp -implicitDefEqProofs (disch := omega) [c22, List.getElem?_cons_zero, List.getElem?_cons_succ, wrap_id]
  (refine fin0 trivial rfl ?_; simp -implicitDefEqProofs (disch := omega) [List.getElem?_cons_zero, List.getElem?_cons_succ, idx, wrap_id, ren0])
end Go.Proofs.YtekniokkmgencaaGreat
end
section
set_option linter.unusedSimpArgs false
set_option linter.unusedVariables false
namespace Go.Proofs.YtekniokkmgencaaGreat
open Go.Abs Go.Sand
abbrev _root_.Go.Abs.PV.iss (l : List (List Int)) : PV := .sl (l.map PV.is)
abbrev bw (W : List Bool) : List AV := W.map AV.b
theorem bw_set (W : List Bool) (v : Nat) (b : Bool) : (bw W).set v (.b b) = bw (W.set v b) := by simp [bw, List.map_set]
theorem bw_ren {H : List AO} {ρ : Nat → Option Nat} : ∀ W : List Bool, renL H ρ (bw W) = bw W
  | [] => rfl
  | x :: W => by
    show AV.ren H ρ (.b x) :: renL H ρ (bw W) = _
    rw [bw_ren W, AV.ren]; rfl
theorem bw_allP (W : List Bool) : allP (bw W) = some (W.map PV.b) := by
  have := allP_ps (W.map PV.b)
  rw [List.map_map] at this
  exact this
abbrev pileA (o n : Nat) (q : Int) (R : List (List Int)) (V : List Int) (tot : Int) (W : List Bool) : AV :=
  .agg (.os (o + 1) 0 n :: .i q :: .p (.iss R) :: .p (.is V) :: .os (o + 2) 0 n :: .i tot :: bw W)
abbrev rowI (c : List Int) : AO := .row (c.map PV.i) 1 3 false
def waitB (q : Int) (V c : List Int) (v : Nat) : Bool := decide ((v : Int) ≠ q) && decide (V.getD v 0 ≤ c.getD v 0)
section
variable {n : Nat} {q : Int} {R : List (List Int)} {V c s : List Int} {tot : Int} {W : List Bool} {b0 : AO} {T : List AO} {K : AV → List AO → Prop}
theorem bw_view (H : List AO) : ∀ W : List Bool, viewL H (bw W) = some (W.map PV.b)
  | [] => rfl
  | x :: W => by
    show viewL H (.b x :: bw W) = _
    rw [viewL, bw_view H W]; rfl
abbrev pileR (q : Int) (R : List (List Int)) (V c s : List Int) (tot : Int) (W : List Bool) : List PV := .is c :: .i q :: .iss R :: .is V :: .is s :: .i tot :: W.map PV.b
theorem pile_view (hc : c.length = n) (hs : s.length = n) : view (b0 :: .box (pileA 1 n q R V tot W) :: rowI c :: rowI s :: T) (.agg (pileA 1 n q R V tot W).flat) = some (.agg (pileR q R V c s tot W)) := by
  simp [view, viewL, viewC, ownEls, hc, hs, bw_view, AV.flat]
theorem unst_ok {e : Bool} (v : Nat) (hv : v < n) (hc : c.length = n) (hs : s.length = n) (hV : V.length = n) (hK : K (.b (waitB q V c v)) (b0 :: .box (pileA 1 n q R V tot W) :: rowI c :: rowI s :: T)) :
    HC Tryz.prog e 97 [.ptr 1 1 0 0, .i v] (b0 :: .box (pileA 1 n q R V tot W) :: rowI c :: rowI s :: T) K := by
  have hcv : v < c.length := by omega
  have hVv : v < V.length := by omega
  refine HC_ptr (rest := [.i v]) (ps := pileR q R V c s tot W) (x := .bool (waitB q V c v)) cfn97 rfl (pile_view hc hs) ?_ hK
  by_cases h1 : (v : Int) = q
  · simp -implicitDefEqProofs (disch := omega) [c97, List.getElem?_cons_zero, List.getElem?_cons_succ, wrap_id, h1]
    (refine fin0 trivial rfl ?_; simp -implicitDefEqProofs (disch := omega) [List.getElem?_cons_zero, List.getElem?_cons_succ, idx, wrap_id, waitB, h1])
  · simp -implicitDefEqProofs (disch := omega) [c97, List.getElem?_cons_zero, List.getElem?_cons_succ, wrap_id, h1, hcv, hVv]
    (refine fin0 trivial rfl ?_; simp -implicitDefEqProofs (disch := omega) [List.getElem?_cons_zero, List.getElem?_cons_succ, idx, wrap_id, waitB, h1, hcv, hVv])
theorem wait_ok (v : Nat) (hv : v < n) (hn : n ≤ 12) (hc : c.length = n) (hs : s.length = n) (hV : V.length = n) (hW : W.length = 12) (hK : K (.tup []) (b0 :: .box (pileA 1 n q R V tot (W.set v (waitB q V c v))) :: rowI c :: rowI s :: T)) :
    HC Tryz.prog false 69 [.ptr 1 1 0 0, .i v] (b0 :: .box (pileA 1 n q R V tot W) :: rowI c :: rowI s :: T) K := by
  have hv12 : v < 12 := by omega
  refine HC_of_W (af := _) ((by exact cfn69 : cfn _ _ _ = some _)) ?_
  simp -implicitDefEqProofs (disch := omega) [c69, List.getElem?_cons_zero, List.getElem?_cons_succ, wrap_id]
  refine unst_ok v hv hc hs hV ?_
  have h18 : v + 6 < 18 := by omega
  simp -implicitDefEqProofs (disch := omega) [List.getElem?_cons_zero, List.getElem?_cons_succ, wrap_id, hv12, h18, hW, Nat.add_comm 6 v]
  refine finH trivial rfl ?_
  show K _ (b0 :: .box (.agg (.os 2 0 n :: .i q :: .p (.iss R) :: .p (.is V) :: .os 3 0 n :: .i tot :: (bw W).set v (.b (waitB q V c v)))) :: rowI c :: rowI s :: T)
  rw [bw_set]
  exact hK
theorem indexB_ok (W : List Bool) (r : Int) (hx : W.length ≤ 1000) (h : (r = -1 ∧ ∀ u, u < W.length → W.getD u false = false) ∨ ∃ v : Nat, r = v ∧ v < W.length ∧ W.getD v false = true ∧ ∀ u, u < v → W.getD u false = false) :
    PC Tryz.prog 98 [.sl (W.map PV.b), .b true] (.i r) [] := by
  refine PC_of_W cfn98 ?_
  simp -implicitDefEqProofs (disch := omega) [c98, List.getElem?_cons_zero, List.getElem?_cons_succ, wrap_id]
  refine loopW W.length (fun k s => s = ⟨[(8, .i k), (7, .i W.length), (0, .p (.sl (W.map PV.b))), (1, .b true)], []⟩ ∧ ∀ v : Nat, r = v → k ≤ v) (Wk_keep [8, 7, 0, 1]) ⟨rfl, fun v _ => by omega⟩ ?_
  rintro k s hk ⟨rfl, hI⟩
  by_cases hlt : k < W.length
  · have hg : W.getD k false = W[k] := by simp [hlt]
    cases hw : W[k] with
    | true =>
      rw [hw] at hg
      have hr : r = k := by
        rcases h with ⟨-, h2⟩ | ⟨v, h1, h2, h3, h4⟩
        · rw [h2 k hlt] at hg; cases hg
        · have := hI v h1
          rcases Nat.lt_or_ge k v with h5 | h5
          · rw [h4 k h5] at hg; cases hg
          · omega
      simp -implicitDefEqProofs (disch := omega) [List.getElem?_cons_zero, List.getElem?_cons_succ, wrap_id, hlt, hw]
      (refine fin0 trivial rfl ?_; simp -implicitDefEqProofs (disch := omega) [List.getElem?_cons_zero, List.getElem?_cons_succ, idx, wrap_id, hr])
    | false =>
      rw [hw] at hg
      simp -implicitDefEqProofs (disch := omega) [List.getElem?_cons_zero, List.getElem?_cons_succ, wrap_id, hlt, hw]
      refine round_keep [8, 7, 0, 1] hlt ⟨rfl, fun v hv => ?_⟩
      have := hI v hv
      rcases h with ⟨h1, -⟩ | ⟨v', h1, h2, h3, h4⟩
      · omega
      · have e : v = v' := by omega
        subst e
        rcases Nat.lt_or_ge k v with h5 | h5
        · omega
        · have e : v = k := by omega
          subst e
          rw [hg] at h3; cases h3
  · have hr : r = -1 := by
      rcases h with ⟨h1, -⟩ | ⟨v', h1, h2, h3, h4⟩
      · exact h1
      · have := hI v' h1; omega
    simp -implicitDefEqProofs (disch := omega) [List.getElem?_cons_zero, List.getElem?_cons_succ, wrap_id, hlt]
    (refine fin0 trivial rfl ?_; simp -implicitDefEqProofs (disch := omega) [List.getElem?_cons_zero, List.getElem?_cons_succ, idx, wrap_id, hr])
theorem nextW_ok (r : Int) (hW : W.length = 12) (h : (r = -1 ∧ ∀ u, u < W.length → W.getD u false = false) ∨ ∃ v : Nat, r = v ∧ v < W.length ∧ W.getD v false = true ∧ ∀ u, u < v → W.getD u false = false)
    (hK : K (.i r) (b0 :: .box (pileA 1 n q R V tot W) :: rowI c :: rowI s :: T)) :
    HC Tryz.prog false 71 [.ptr 1 1 0 0] (b0 :: .box (pileA 1 n q R V tot W) :: rowI c :: rowI s :: T) K := by
  refine HC_of_W (af := _) ((by exact cfn71 : cfn _ _ _ = some _)) ?_
  simp -implicitDefEqProofs (disch := omega) [c71, List.getElem?_cons_zero, List.getElem?_cons_succ, wrap_id, hW]
  have ht : (bw W).take 12 = bw W := List.take_of_length_le (by simp [hW])
  refine HC_of_PC (by simp [views, view, viewC, hW, ht, bw_allP]) (indexB_ok W r (by omega) h) ?_
  simp -implicitDefEqProofs (disch := omega) [List.getElem?_cons_zero, List.getElem?_cons_succ, wrap_id]
  exact finH trivial rfl hK
end
end Go.Proofs.YtekniokkmgencaaGreat
end
