/-
  Contracts: Ramification and Hurwitz, on both sides.
-/
import Derived.Test.YtddgepjmfnodhaaPd
import Derived.Test.YtddgepjmfnodhaaPt
import Derived.Test.YtddgepjmfnodhaaGq
set_option linter.unusedSimpArgs false
set_option linter.unusedVariables false
namespace Go.Proofs.Ytddgepjmfnodhaa
open Go.Abs Go.Sand

def lsTo (n : Nat) (f : Nat → Int) (k : Nat) : List Int := lsF n fun v => if v < k then f v else 0
theorem lsTo_len (n : Nat) (f : Nat → Int) (k : Nat) : (lsTo n f k).length = n := by rw [lsTo, lsF_len]
theorem lsTo_zero (n : Nat) (f : Nat → Int) : lsTo n f 0 = List.replicate n 0 := by
  refine ext_getD (by simp [lsTo, lsF_len]) fun i hi => ?_
  have hi' : i < n := by simpa [lsTo, lsF_len] using hi
  rw [lsTo, lsF_get hi']
  simp [List.getD_eq_getElem?_getD, hi']
theorem lsTo_all (n : Nat) (f : Nat → Int) : lsTo n f n = lsF n f := lsF_congr fun v hv => if_pos hv
theorem lsTo_succ {n : Nat} {f : Nat → Int} {k : Nat} (hk : k < n) : (lsTo n f k).set k (f k) = lsTo n f (k + 1) := by
  have e : f k = (fun v => if v < k + 1 then f v else 0) k := (if_pos (by omega)).symm
  rw [e]
  refine lsF_set (g := fun v => if v < k + 1 then f v else 0) hk fun u hu => ?_
  by_cases h : u = k
  · rw [if_pos h, h]
  · rw [if_neg h]
    by_cases h2 : u < k
    · rw [if_pos h2, if_pos (by omega)]
    · rw [if_neg h2, if_neg (by omega)]
/-- The ramification at a vertex. -/
def raF (g h : Gr) (m : Mo) (v : Nat) : Int := 2 * mM g h m v - 2 + cntK (endsL g.2) m.e v (-1) m.e.length
theorem ramF_eq (g h : Gr) (m : Mo) (n : Nat) : ramF g h m n = lsF n (raF g h m) := rfl
theorem raF_bd {g h : Gr} {m : Mo} {n k : Nat} (hs : Sm g h m) (c : Cov g h m n k) (v : Nat) : -2 ≤ raF g h m v ∧ raF g h m v ≤ 300000 := by
  have b1 := mM_nonneg g h m v
  have b2 := cntK_bd (endsL g.2) m.e v (-1) m.e.length
  have b3 := endsL_len9 c.gg.right hs.g
  have b4 := c.el
  unfold raF
  omega
section
variable (g h : Gr) (m : Mo) (hs : Sm g h m)
include hs
set_option maxRecDepth 10000 in
theorem ramif_ok : PC Try.prog 16 [GrP g, GrP h, MoP m] (.tup [.p (if degE g h m = 0 then .is (ramF g h m g.1.toNat) else .nil), .i (degE g h m)]) [] := by
  refine PC_of_W cfn16 ?_
  simp -implicitDefEqProofs (disch := omega) [c16, List.getElem?_cons_zero, List.getElem?_cons_succ, wrap_id]
  refine HC_of_PC rfl (mults52_ok g h m hs) ?_
  by_cases h1 : degE g h m = 0
  rotate_left
  · simp -implicitDefEqProofs (disch := omega) [List.getElem?_cons_zero, List.getElem?_cons_succ, wrap_id, h1]
    (refine fin0 trivial rfl ?_; simp -implicitDefEqProofs (disch := omega) [List.getElem?_cons_zero, List.getElem?_cons_succ, idx, wrap_id, h1])
  obtain ⟨hc, hh⟩ := deg_ok h1
  obtain ⟨n, k, c⟩ := cov_of hc
  have hgn := c.gn
  have n12' := c.n12
  have hml : mulL g h m = mulK g h m n := by rw [mulL, hgn]; rfl
  have hL : ramF g h m g.1.toNat = lsF n (raF g h m) := by rw [hgn]; rfl
  have hn6 : n ≤ 1048576 := by omega
  have hkl := mulK_len g h m n
  rw [hL]
  simp -implicitDefEqProofs (disch := omega) [List.getElem?_cons_zero, List.getElem?_cons_succ, wrap_id, h1, hml, hgn, hn6, hkl]
  refine loopW n (fun j st => st = ⟨[(30, .i j), (29, .i n), (28, .p (.is (mulK g h m n))), (10, .os 3 0 n), (5, .ptr 2 1 0 0), (4, .ptr 1 1 0 0), (3, .ptr 0 1 0 0)], [.box (.p (GrP g)), .box (.p (GrP h)), .box (.p (MoP m)), rowJ (lsTo n (raF g h m) j)]⟩) (Wk_keep [30, 29, 28, 10, 5, 4, 3]) ?_ ?_
  · rw [rowJ, lsTo_zero, List.map_replicate]
    rfl
  rintro j st hj rfl
  by_cases hlt : j < n
  · have hjk : j < (mulK g h m n).length := by omega
    have hmk : (mulK g h m n)[j] = mM g h m j := mulK_get g h m n j hlt
    have hvt : vtx g.1 j = true := vtx_iff.2 (by omega)
    have hi : inE g h m true = 0 := by rw [inE, if_neg (by simp [hc]), if_neg (by simp)]
    have hve := vertical_ok g h m j hs
    rw [hvt, hi, if_pos rfl] at hve
    have hset := congrArg (List.map PV.i) (lsTo_succ (f := raF g h m) hlt)
    rw [List.map_set] at hset
    have hsl := lsTo_len n (raF g h m) j
    have b0 := raF_bd hs c j
    have b1 := mM_nonneg g h m j
    have b2 := cntK_bd (endsL g.2) m.e j (-1) m.e.length
    have b3 := endsL_len9 c.gg.right hs.g
    have b4 := c.el
    have hra : raF g h m j = 2 * mM g h m j - 2 + cntK (endsL g.2) m.e j (-1) m.e.length := rfl
    rw [hra] at hset b0
    simp -implicitDefEqProofs (disch := omega) [List.getElem?_cons_zero, List.getElem?_cons_succ, wrap_id, hjk, hmk, hlt]
    refine HC_of_PC rfl (hve) ?_
    simp -implicitDefEqProofs (disch := omega) [List.getElem?_cons_zero, List.getElem?_cons_succ, wrap_id, hsl, hlt, hset]
    exact round_keep [30, 29, 28, 10, 5, 4, 3] hlt rfl
  · have hjn : j = n := by omega
    subst hjn
    have hsl : (lsF j (raF g h m)).length = j := lsF_len _ _
    rw [lsTo_all]
    simp -implicitDefEqProofs (disch := omega) [List.getElem?_cons_zero, List.getElem?_cons_succ, wrap_id, hlt]
    (refine fin0 trivial rfl ?_; simp -implicitDefEqProofs (disch := omega) [List.getElem?_cons_zero, List.getElem?_cons_succ, idx, wrap_id, hsl, h1])
set_option maxRecDepth 10000 in
theorem ramified_ok (n k : Nat) (c : Cov g h m n k) : PC Try.prog 43 [GrP g, GrP h, MoP m] (.p (.is (ramF g h m n))) [] := by
  have hgn := c.gn
  have n12' := c.n12
  refine PC_of_W cfn43 ?_
  simp -implicitDefEqProofs (disch := omega) [c43, List.getElem?_cons_zero, List.getElem?_cons_succ, wrap_id]
  refine loopW n (fun j st => st = ⟨[(8, .i j), (7, .os 3 0 j), (5, .ptr 2 1 0 0), (4, .ptr 1 1 0 0), (3, .ptr 0 1 0 0)], [.box (.p (GrP g)), .box (.p (GrP h)), .box (.p (MoP m)), rowJ (lsF j (raF g h m))]⟩)
    ((Wk_nil 7 1 3 rfl).trans (Wk_keep [8, 7, 5, 4, 3])) rfl ?_
  rintro j st hj rfl
  have hsl : (lsF j (raF g h m)).length = j := lsF_len _ _
  by_cases hlt : j < n
  · have hjg : (j : Int) < g.1 := by omega
    have hj6 : j ≤ 1048575 := by omega
    have b1 : 0 ≤ multV (endsL g.2) (endsL h.2) m j ∧ multV (endsL g.2) (endsL h.2) m j ≤ 2 * m.e.length := mM_nonneg g h m j
    have b2 := cntK_bd (endsL g.2) m.e j (-1) m.e.length
    have b3 := endsL_len9 c.gg.right hs.g
    have b4 := c.el
    have hsn : lsF (j + 1) (raF g h m) = lsF j (raF g h m) ++ [2 * multV (endsL g.2) (endsL h.2) m j - 2 + cntK (endsL g.2) m.e j (-1) m.e.length] := lsF_succ _ _
    simp -implicitDefEqProofs (disch := omega) [List.getElem?_cons_zero, List.getElem?_cons_succ, wrap_id, hjg]
    refine HC_of_PC rfl (rmult1_ok g h m n k j hs c hlt) ?_
    simp -implicitDefEqProofs (disch := omega) [List.getElem?_cons_zero, List.getElem?_cons_succ, wrap_id]
    refine HC_of_PC rfl (rcounted_ok g.1 g.2 m j (-1) c.gg.right hs.g c.gl c.el) ?_
    simp -implicitDefEqProofs (disch := omega) [List.getElem?_cons_zero, List.getElem?_cons_succ, wrap_id, hsl, hj6]
    exact round_end [0, 1, 2, 3] [8, 7, 5, 4, 3] hlt rfl (by rw [hsn]; simp [Abs.norm, Abs.get, AV.ren, Abs.idx])
  · have hjn : j = n := by omega
    have hjg : ¬ (j : Int) < g.1 := by omega
    simp -implicitDefEqProofs (disch := omega) [List.getElem?_cons_zero, List.getElem?_cons_succ, wrap_id, hjg]
    rw [hjn] at hsl ⊢
    (refine fin0 trivial rfl ?_; simp -implicitDefEqProofs (disch := omega) [List.getElem?_cons_zero, List.getElem?_cons_succ, idx, wrap_id, hsl, ramF_eq])
theorem rramif_ok : PC Try.prog 17 [GrP g, GrP h, MoP m] (.tup [.p (if degE g h m = 0 then .is (ramF g h m g.1.toNat) else .nil), .i (degE g h m)]) [] := by
  refine PC_of_W cfn17 ?_
  simp -implicitDefEqProofs (disch := omega) [c17, List.getElem?_cons_zero, List.getElem?_cons_succ, wrap_id]
  refine HC_of_PC rfl (given52_ok g h m hs) ?_
  by_cases h1 : degE g h m = 0
  rotate_left
  · simp -implicitDefEqProofs (disch := omega) [List.getElem?_cons_zero, List.getElem?_cons_succ, wrap_id, h1]
    (refine fin0 trivial rfl ?_; simp -implicitDefEqProofs (disch := omega) [List.getElem?_cons_zero, List.getElem?_cons_succ, idx, wrap_id, h1])
  obtain ⟨hc, hh⟩ := deg_ok h1
  obtain ⟨n, k, c⟩ := cov_of hc
  have hgn := c.gn
  simp -implicitDefEqProofs (disch := omega) [List.getElem?_cons_zero, List.getElem?_cons_succ, wrap_id, h1]
  refine HC_of_PC rfl (ramified_ok g h m hs n k c) ?_
  simp -implicitDefEqProofs (disch := omega) [List.getElem?_cons_zero, List.getElem?_cons_succ, wrap_id]
  (refine fin0 trivial rfl ?_; simp -implicitDefEqProofs (disch := omega) [List.getElem?_cons_zero, List.getElem?_cons_succ, idx, wrap_id, h1, hgn])
end
theorem own1_ok (d : List Int) (h : dcheck d d.length = 0) (hl : d.length ≤ 4611686018427387904) : PC Try.prog 76 [.sl [.is d]] (.i 0) [] := by
  refine PC_of_W cfn76 ?_
  simp -implicitDefEqProofs (disch := omega) [c76, List.getElem?_cons_zero, List.getElem?_cons_succ, wrap_id]
  refine loopW 1 (fun k s => s = ⟨[(10, .i k), (9, .i 1), (8, .p (.sl [.is d])), (0, .p (.sl [.is d]))], []⟩) (wk_norm [] [10, 9, 8, 0] rfl rfl) rfl ?_
  rintro k s hk rfl
  match k, hk with
  | 0, _ =>
    simp -implicitDefEqProofs (disch := omega) [List.getElem?_cons_zero, List.getElem?_cons_succ, wrap_id]
    refine HC_of_PC rfl (chk_ok d d.length hl) ?_
    rw [h]
    simp -implicitDefEqProofs (disch := omega) [List.getElem?_cons_zero, List.getElem?_cons_succ, wrap_id]
    exact round_end [] [10, 9, 8, 0] (by decide) rfl rfl
  | 1, _ =>
    simp -implicitDefEqProofs (disch := omega) [List.getElem?_cons_zero, List.getElem?_cons_succ, wrap_id]
    refine loopW 1 (fun k s => s = ⟨[(24, .i k), (23, .i 1), (22, .p (.sl [.is d])), (0, .p (.sl [.is d]))], []⟩) (wk_norm [] [24, 23, 22, 0] rfl rfl) rfl ?_
    rintro k s hk rfl
    match k, hk with
    | 0, _ =>
      simp -implicitDefEqProofs (disch := omega) [List.getElem?_cons_zero, List.getElem?_cons_succ, wrap_id]
      exact round_end [] [24, 23, 22, 0] (by decide) rfl rfl
    | 1, _ =>
      simp -implicitDefEqProofs (disch := omega) [List.getElem?_cons_zero, List.getElem?_cons_succ, wrap_id]
      (refine fin0 trivial rfl ?_; simp -implicitDefEqProofs (disch := omega) [List.getElem?_cons_zero, List.getElem?_cons_succ, idx, wrap_id])
theorem cdeg_ok (xs : List Int) (h : dcheck xs xs.length = 0) (hx : xs.length ≤ 1000) (hb : Bd 4611686018427 xs) : PC Try.prog 45 [.is xs] (.tup [.i (sumI xs), .i 0]) [] := by
  refine PC_of_W cfn45 ?_
  simp -implicitDefEqProofs (disch := omega) [c45, List.getElem?_cons_zero, List.getElem?_cons_succ, wrap_id]
  refine HC_of_PC (ps := [.sl [.is xs]]) (by simp [views, view, viewC]) (own1_ok xs h (by omega)) ?_
  have hs : ∀ k, k ≤ xs.length → -(4611686018427 * (k : Int)) ≤ sumI (xs.take k) ∧ sumI (xs.take k) ≤ 4611686018427 * (k : Int) := by
    intro k
    induction k with
    | zero => intro _; simp [sumI]
    | succ k ih =>
      intro h
      have := ih (by omega)
      have h2 := hb k
      rw [List.getD_eq_getElem?_getD, List.getElem?_eq_getElem (by omega)] at h2
      simp only [Option.getD_some] at h2
      rw [sumI_snoc xs k (by omega)]
      push_cast
      omega
  simp -implicitDefEqProofs (disch := omega) [List.getElem?_cons_zero, List.getElem?_cons_succ, wrap_id]
  refine loopW xs.length (fun k s => s = ⟨[(16, .i k), (15, .i xs.length), (14, .p (.is xs)), (5, .i (sumI (xs.take k))), (0, .p (.is xs))], []⟩) (wk_norm [] [16, 15, 14, 5, 0] rfl rfl) rfl ?_
  rintro k s hk rfl
  by_cases hlt : k < xs.length
  · have h1 := hs (k + 1) hlt
    rw [sumI_snoc xs k hlt] at h1
    push_cast at h1
    simp -implicitDefEqProofs (disch := omega) [List.getElem?_cons_zero, List.getElem?_cons_succ, wrap_id, hlt]
    exact round_end [] [16, 15, 14, 5, 0] hlt rfl (by rw [sumI_snoc xs k hlt]; rfl)
  · simp -implicitDefEqProofs (disch := omega) [List.getElem?_cons_zero, List.getElem?_cons_succ, wrap_id, hlt]
    (refine fin0 trivial rfl ?_; simp -implicitDefEqProofs (disch := omega) [List.getElem?_cons_zero, List.getElem?_cons_succ, idx, wrap_id, List.take_of_length_le (Nat.le_of_not_lt hlt)])
theorem rgenus_ok (n : Nat) (es : List Ed) (hg : GoodG n es) (hel : es.length ≤ 900) : PC Try.prog 47 [G n es] (.i (genI n es)) [] := by
  have h12 := hg.n12
  have h45 := endsL_len9 hg.right hel
  have hp : partsN es n ≤ n := by unfold partsN rootsL; have := List.length_filter_le (fun v => decide (cls es v = v)) (List.range n); simpa using this
  refine PC_of_W cfn47 ?_
  simp -implicitDefEqProofs (disch := omega) [c47, List.getElem?_cons_zero, List.getElem?_cons_succ, wrap_id]
  refine HC_of_PC rfl (size_ok n es hg.right (by omega)) ?_
  simp -implicitDefEqProofs (disch := omega) [List.getElem?_cons_zero, List.getElem?_cons_succ, wrap_id]
  refine HC_of_PC rfl (rparts_ok n es (by omega) hg.right hel) ?_
  simp -implicitDefEqProofs (disch := omega) [List.getElem?_cons_zero, List.getElem?_cons_succ, wrap_id]
  (refine fin0 trivial rfl ?_; simp -implicitDefEqProofs (disch := omega) [List.getElem?_cons_zero, List.getElem?_cons_succ, idx, wrap_id, genI])
section
variable (g h : Gr) (m : Mo) (hs : Sm g h m)
/-- The two sides of the formula. -/
def huL (g h : Gr) (m : Mo) : Int := if degE g h m = 0 then 2 * genI g.1 g.2 - 2 else 0
def huR (g h : Gr) (m : Mo) : Int := if degE g h m = 0 then occ 0 m.e * (2 * genI h.1 h.2 - 2) + sumI (ramF g h m g.1.toNat) else 0
theorem gen_bd {g : Gr} (hg : GoodG g.1 g.2) (hel : g.2.length ≤ 900) : -12 ≤ genI g.1 g.2 ∧ genI g.1 g.2 ≤ 45012 := by
  have h1 := hg.n1
  have h12 := hg.n12
  have h45 := endsL_len9 hg.right hel
  have hp : partsN g.2 g.1.toNat ≤ g.1.toNat := by unfold partsN rootsL; have := List.length_filter_le (fun v => decide (cls g.2 v = v)) (List.range g.1.toNat); simpa using this
  unfold genI
  omega
theorem ram_sum {g h : Gr} {m : Mo} {n k : Nat} (hs : Sm g h m) (c : Cov g h m n k) : -3600000 ≤ sumI (ramF g h m n) ∧ sumI (ramF g h m n) ≤ 3600000 := by
  have n12' := c.n12
  have := sm_abd (f := raF g h m) (B := 300000) (by omega) (fun i => by have := raF_bd hs c i; omega) n
  rw [ramF_eq, sumI_lsF]
  omega
theorem ram_bnd {g h : Gr} {m : Mo} {n k : Nat} (hs : Sm g h m) (c : Cov g h m n k) : (ramF g h m n).all inB = true := by
  refine List.all_eq_true.2 fun x hx => ?_
  rw [ramF_eq, lsF] at hx
  obtain ⟨v, _, rfl⟩ := List.mem_map.1 hx
  have := raF_bd hs c v
  exact inB_iff.2 (by omega)
include hs
theorem hurwitz_ok : PC Try.prog 18 [GrP g, GrP h, MoP m] (.tup [.i (huL g h m), .i (huR g h m), .i (degE g h m)]) [] := by
  have hgl := hs.g
  have hhl := hs.h
  refine PC_of_W cfn18 ?_
  simp -implicitDefEqProofs (disch := omega) [c18, List.getElem?_cons_zero, List.getElem?_cons_succ, wrap_id]
  refine HC_of_PC rfl (ramif_ok g h m hs) ?_
  by_cases h1 : degE g h m = 0
  rotate_left
  · simp -implicitDefEqProofs (disch := omega) [List.getElem?_cons_zero, List.getElem?_cons_succ, wrap_id, h1]
    (refine fin0 trivial rfl ?_; simp -implicitDefEqProofs (disch := omega) [List.getElem?_cons_zero, List.getElem?_cons_succ, idx, wrap_id, h1, huL, huR])
  obtain ⟨hc, hh⟩ := deg_ok h1
  obtain ⟨n, k, c⟩ := cov_of hc
  have hgn := c.gn
  have n12' := c.n12
  have hgo : gcheck g.1 g.2 = 0 := (errs_gc hc).1
  have hho : gcheck h.1 h.2 = 0 := (errs_gc hc).2
  have hL : ramF g h m g.1.toNat = ramF g h m n := by rw [hgn]; rfl
  have b1 := gen_bd c.gg hgl
  have b2 := gen_bd c.hg hhl
  have b3 := ram_sum hs c
  have b4 := occ_bd 0 m.e
  have b5 := endsL_len9 c.gg.right hgl
  have b6 := c.el
  have b7 : -(200000 * 45000) ≤ (2 * genI h.1 h.2 - 2) * occ 0 m.e ∧ (2 * genI h.1 h.2 - 2) * occ 0 m.e ≤ 200000 * 45000 := mul_bd ⟨by omega, by omega⟩ ⟨by omega, by omega⟩ (by omega)
  rw [Int.mul_comm (2 * genI h.1 h.2 - 2)] at b7
  have hrl : (ramF g h m n).length = n := lsF_len _ _
  have hdc : dcheck (ramF g h m n) (ramF g h m n).length = 0 := by rw [hrl]; exact dchk_mk (by omega) (by omega) hrl (ram_bnd hs c)
  have hbd : Bd 4611686018427 (ramF g h m n) := Bd.more (dchk_good hdc).2.2 (by omega)
  rw [hL]
  simp -implicitDefEqProofs (disch := omega) [List.getElem?_cons_zero, List.getElem?_cons_succ, wrap_id, h1]
  refine HC_of_PC rfl (ggenus_ok g.1 g.2 hgl) ?_
  simp -implicitDefEqProofs (disch := omega) [List.getElem?_cons_zero, List.getElem?_cons_succ, wrap_id, hgo]
  refine HC_of_PC rfl (ggenus_ok h.1 h.2 hhl) ?_
  simp -implicitDefEqProofs (disch := omega) [List.getElem?_cons_zero, List.getElem?_cons_succ, wrap_id, hho]
  refine HC_of_PC rfl (degree_ok g h m hs) ?_
  simp -implicitDefEqProofs (disch := omega) [List.getElem?_cons_zero, List.getElem?_cons_succ, wrap_id, h1]
  refine HC_of_PC rfl (cdeg_ok (ramF g h m n) hdc (by omega) hbd) ?_
  simp -implicitDefEqProofs (disch := omega) [List.getElem?_cons_zero, List.getElem?_cons_succ, wrap_id]
  (refine fin0 trivial rfl ?_; simp -implicitDefEqProofs (disch := omega) [List.getElem?_cons_zero, List.getElem?_cons_succ, idx, wrap_id, h1, huL, huR, hL])
theorem rhurwitz_ok : PC Try.prog 19 [GrP g, GrP h, MoP m] (.tup [.i (huL g h m), .i (huR g h m), .i (degE g h m)]) [] := by
  have hgl := hs.g
  have hhl := hs.h
  refine PC_of_W cfn19 ?_
  simp -implicitDefEqProofs (disch := omega) [c19, List.getElem?_cons_zero, List.getElem?_cons_succ, wrap_id]
  refine HC_of_PC rfl (given52_ok g h m hs) ?_
  by_cases h1 : degE g h m = 0
  rotate_left
  · simp -implicitDefEqProofs (disch := omega) [List.getElem?_cons_zero, List.getElem?_cons_succ, wrap_id, h1]
    (refine fin0 trivial rfl ?_; simp -implicitDefEqProofs (disch := omega) [List.getElem?_cons_zero, List.getElem?_cons_succ, idx, wrap_id, h1, huL, huR])
  obtain ⟨hc, hh⟩ := deg_ok h1
  obtain ⟨n, k, c⟩ := cov_of hc
  have hgn := c.gn
  have hhk := c.hk
  have n12' := c.n12
  have hL : ramF g h m g.1.toNat = ramF g h m n := by rw [hgn]; rfl
  have b1 := gen_bd c.gg hgl
  have b2 := gen_bd c.hg hhl
  have b3 := ram_sum hs c
  have b4 := occ_bd 0 m.e
  have b5 := endsL_len9 c.gg.right hgl
  have b6 := c.el
  have b7 : -(200000 * 45000) ≤ (2 * genI h.1 h.2 - 2) * occ 0 m.e ∧ (2 * genI h.1 h.2 - 2) * occ 0 m.e ≤ 200000 * 45000 := mul_bd ⟨by omega, by omega⟩ ⟨by omega, by omega⟩ (by omega)
  rw [Int.mul_comm (2 * genI h.1 h.2 - 2)] at b7
  have hrl : (ramF g h m n).length = n := lsF_len _ _
  have hdc : dcheck (ramF g h m n) (ramF g h m n).length = 0 := by rw [hrl]; exact dchk_mk (by omega) (by omega) hrl (ram_bnd hs c)
  have hbd : Bd 4611686018427 (ramF g h m n) := Bd.more (dchk_good hdc).2.2 (by omega)
  have g1 := rgenus_ok n g.2 (hgn ▸ c.gg) hgl
  have g2 := rgenus_ok k h.2 (hhk ▸ c.hg) hhl
  rw [← hgn] at g1
  rw [← hhk] at g2
  simp -implicitDefEqProofs (disch := omega) [List.getElem?_cons_zero, List.getElem?_cons_succ, wrap_id, h1]
  refine HC_of_PC rfl (rdegree_ok g h m hs) ?_
  simp -implicitDefEqProofs (disch := omega) [List.getElem?_cons_zero, List.getElem?_cons_succ, wrap_id, h1]
  refine HC_of_PC rfl (g1) ?_
  simp -implicitDefEqProofs (disch := omega) [List.getElem?_cons_zero, List.getElem?_cons_succ, wrap_id]
  refine HC_of_PC rfl (g2) ?_
  simp -implicitDefEqProofs (disch := omega) [List.getElem?_cons_zero, List.getElem?_cons_succ, wrap_id]
  refine HC_of_PC rfl (ramified_ok g h m hs n k c) ?_
  simp -implicitDefEqProofs (disch := omega) [List.getElem?_cons_zero, List.getElem?_cons_succ, wrap_id]
  refine HC_of_PC rfl (total_ok (ramF g h m n) (by omega) hbd) ?_
  simp -implicitDefEqProofs (disch := omega) [List.getElem?_cons_zero, List.getElem?_cons_succ, wrap_id]
  (refine fin0 trivial rfl ?_; simp -implicitDefEqProofs (disch := omega) [List.getElem?_cons_zero, List.getElem?_cons_succ, idx, wrap_id, h1, huL, huR, hL])
end
end Go.Proofs.Ytddgepjmfnodhaa
