/-
  Contracts: a board: how its vertices fire, what is unstable, what is inside a set, what burns.
-/
import Derived.Test.YtgjaekbbdmhjlaaJb
import Derived.Test.YtgjaekbbdmhjlaaAcb
import Derived.Test.YtgjaekbbdmhjlaaZj
set_option linter.unusedSimpArgs false
set_option linter.unusedVariables false
namespace Go.Proofs.Ytgjaekbbdmhjlaa
open Go.Abs Go.Sand

/-- The cells of a board: how often vertices are joined, and their valences. -/
def cellsF (R : Nat → Nat → Int) (V : Nat → Int) : List Int := ((List.range 144).map fun i => R (i / 12) (i % 12)) ++ (List.range 12).map V
theorem cellsF_len (R : Nat → Nat → Int) (V : Nat → Int) : (cellsF R V).length = 156 := by simp [cellsF]
theorem cellsF_row {R : Nat → Nat → Int} {V : Nat → Int} {u v : Nat} (hu : u < 12) (hv : v < 12) : (cellsF R V)[u * 12 + v]? = some (R u v) := by
  unfold cellsF
  have h : u * 12 + v < 144 := by omega
  rw [List.getElem?_append_left (by simpa using h), List.getElem?_map, List.getElem?_range h]
  have e1 : (u * 12 + v) / 12 = u := by omega
  have e2 : (u * 12 + v) % 12 = v := by omega
  simp [e1, e2]
theorem cellsF_val {R : Nat → Nat → Int} {V : Nat → Int} {v : Nat} (hv : v < 12) : (cellsF R V)[144 + v]? = some (V v) := by
  unfold cellsF
  rw [List.getElem?_append_right (by simp)]
  simp [hv]
/-- A board's cells as they are read, and as its own. -/
def bdL (q : Int) (C c : List Int) : List PV := .i q :: (C.map PV.i ++ [.is c])
def bdO (q : Int) (C : List Int) (o n : Nat) : List AV := .i q :: (C.map AV.i ++ [.os o 0 n])
def bcE (es : List Ed) : List Int := cellsF (joinE es) fun v => valS es v
theorem bcE_len (es : List Ed) : (bcE es).length = 156 := cellsF_len _ _
section
variable {q : Int} {C c : List Int} {o n : Nat}
theorem bdL_0 : (bdL q C c)[0]? = some (.i q) := rfl
theorem bdO_0 : (bdO q C o n)[0]? = some (.i q) := rfl
theorem bdL_len (h : C.length = 156) : (bdL q C c).length = 158 := by simp [bdL, h]
theorem bdO_len (h : C.length = 156) : (bdO q C o n).length = 158 := by simp [bdO, h]
theorem bdL_at {i : Nat} {x : Int} (h : C[i]? = some x) : (bdL q C c)[i + 1]? = some (.i x) := by
  have hi := (List.getElem?_eq_some_iff.1 h).1
  rw [bdL, List.getElem?_cons_succ, List.getElem?_append_left (by simpa using hi), List.getElem?_map, h]; rfl
theorem bdO_at {i : Nat} {x : Int} (h : C[i]? = some x) : (bdO q C o n)[i + 1]? = some (.i x) := by
  have hi := (List.getElem?_eq_some_iff.1 h).1
  rw [bdO, List.getElem?_cons_succ, List.getElem?_append_left (by simpa using hi), List.getElem?_map, h]; rfl
theorem bdL_157 (h : C.length = 156) : (bdL q C c)[157]? = some (.is c) := by
  rw [bdL, List.getElem?_cons_succ, List.getElem?_append_right (by simp [h])]; simp [h]
theorem bdO_157 (h : C.length = 156) : (bdO q C o n)[157]? = some (.os o 0 n) := by
  rw [bdO, List.getElem?_cons_succ, List.getElem?_append_right (by simp [h])]; simp [h]
theorem bd_view {H : List AO} (ho : H[o]? = some (rowI c)) (hc : c.length = n) : view H (.agg (AV.agg (bdO q C o n)).flat) = some (.agg (bdL q C c)) := by
  have h1 : ∀ l : List Int, viewL H (l.map AV.i ++ [.os o 0 n]) = some (l.map PV.i ++ [.is c]) := by
    intro l
    induction l with
    | nil => simp [viewL, viewC, ownEls, ho, hc]
    | cons x l ih => simp only [List.map_cons, List.cons_append, viewL, ih]; rfl
  have h2 : viewL H (bdO q C o n) = some (bdL q C c) := by
    show viewL H (.i q :: (C.map AV.i ++ [.os o 0 n])) = _
    simp only [viewL, h1]; rfl
  show view H (.agg (bdO q C o n)) = _
  rw [view, h2]
  simp [bdL, PV.one]
theorem bdO_ren {H : List AO} {ρ : Nat → Option Nat} {o' : Nat} (h : ρ o = some o') : AV.ren H ρ (.agg (bdO q C o n)) = .agg (bdO q C o' n) := by
  have h1 : ∀ l : List Int, renL H ρ (l.map AV.i ++ [.os o 0 n]) = l.map AV.i ++ [.os o' 0 n] := by
    intro l
    induction l with
    | nil => simp [renL, AV.ren, h]
    | cons x l ih => rw [List.map_cons, List.cons_append, renL, ih, AV.ren]; rfl
  rw [AV.ren, bdO, renL, h1, AV.ren]; rfl
theorem bdO_renL {H : List AO} {ρ : Nat → Option Nat} {o' : Nat} (h : ρ o = some o') : renL H ρ (bdO q C o n) = bdO q C o' n := by
  have := bdO_ren (q := q) (C := C) (n := n) (H := H) h
  rw [AV.ren] at this
  exact AV.agg.inj this
end
section
variable {n : Nat} {es : List Ed} (hg : GoodG n es) {q : Int} {c : List Int} {o p : Nat}
include hg
theorem bdL_row {v u : Nat} (hv : v < n) (hu : u < n) : (bdL q (bcE es) c)[1 + v * 12 + u]? = some (.i (joinE es v u)) := by
  have hn := hg.n12
  rw [show 1 + v * 12 + u = v * 12 + u + 1 by omega]
  exact bdL_at (cellsF_row (by omega) (by omega))
theorem bdO_row {v u : Nat} (hv : v < n) (hu : u < n) : (bdO q (bcE es) p n)[1 + v * 12 + u]? = some (.i (joinE es v u)) := by
  have hn := hg.n12
  rw [show 1 + v * 12 + u = v * 12 + u + 1 by omega]
  exact bdO_at (cellsF_row (by omega) (by omega))
theorem bdL_val {v : Nat} (hv : v < n) : (bdL q (bcE es) c)[145 + v]? = some (.i (valTo es v n)) := by
  have hn := hg.n12
  rw [show 145 + v = 144 + v + 1 by omega, valTo_all hg.right hg.asc v ⟨by omega, by omega⟩]
  exact bdL_at (cellsF_val (by omega))
theorem bdO_val {v : Nat} (hv : v < n) : (bdO q (bcE es) p n)[145 + v]? = some (.i (valTo es v n)) := by
  have hn := hg.n12
  rw [show 145 + v = 144 + v + 1 by omega, valTo_all hg.right hg.asc v ⟨by omega, by omega⟩]
  exact bdO_at (cellsF_val (by omega))
variable {K : AV → List AO → Prop} {H : List AO}
set_option maxRecDepth 10000 in
theorem bfire_ok (ho : H[o]? = some (.box (.agg (bdO q (bcE es) p n)))) (hp : H[p]? = some (rowI c)) (hop : p ≠ o) (v : Nat) (k : Int) (hv : v < n) (hk : -2000000 ≤ k ∧ k ≤ 2000000) (hc : c.length = n) (hcb : Bd 100000000000 c)
    (hK : K (.tup []) (H.set p (rowI (firedL n es c v k)))) : HC Try.prog false 53 [.ptr o 1 0 0, .i v, .i k] H K := by
  have hn := hg.n12
  have hv12 : v < 12 := by omega
  have hvb := val_bd hg v
  have hcv : v < c.length := by omega
  have hb157 := bdO_157 (q := q) (C := bcE es) (o := p) (n := n) (bcE_len es)
  have hbv := bdO_val hg (q := q) (p := p) hv
  have hm1 : -2000000000 ≤ k * valTo es v n ∧ k * valTo es v n ≤ 2000000000 := by
    rcases Int.le_total 0 k with h0 | h0
    · have h1 := Int.mul_nonneg h0 hvb.1
      have h2 := Int.mul_le_mul hk.2 hvb.2 hvb.1 (by omega)
      omega
    · have h1 := Int.mul_nonneg (a := -k) (b := valTo es v n) (by omega) hvb.1
      have h2 := Int.mul_le_mul (a := -k) (c := 2000000) (b := valTo es v n) (d := 600) (by omega) hvb.2 hvb.1 (by omega)
      rw [Int.neg_mul] at h1 h2
      omega
  have hcv' := hcb v
  rw [getD_get hcv] at hcv'
  have hset : (c.map PV.i).set v (PV.i (c[v] - k * valTo es v n)) = (fireTo n es c v k 0).map PV.i := by
    rw [← fireTo_0 hc, getD_get hcv, List.map_set]
  refine HC_of_W (af := _) ((by exact cfn53 : cfn _ _ _ = some _)) ?_
  simp -implicitDefEqProofs (disch := omega) [c53, List.getElem?_cons_zero, List.getElem?_cons_succ, wrap_id, ho, hp, hc, hcv, hv, hv12, hb157, hbv, hset]
  obtain ⟨H0, hH0⟩ : ∃ H0, H0 = H.set p (rowI (fireTo n es c v k 0)) := ⟨_, rfl⟩
  have e0 : H.set p (AO.row (List.map PV.i (fireTo n es c v k 0)) 1 3 false) = H0 := hH0.symm
  have ho0 : H0[o]? = some (.box (.agg (bdO q (bcE es) p n))) := by rw [hH0, List.getElem?_set_ne hop]; exact ho
  have hp0 : H0[p]? = some (rowI (fireTo n es c v k 0)) := by rw [hH0]; simp [(List.getElem?_eq_some_iff.1 hp).1]
  have hl0 := fireTo_len n es c v k 0
  simp -implicitDefEqProofs (disch := omega) [List.getElem?_cons_zero, List.getElem?_cons_succ, wrap_id, e0, ho0, hp0, hl0, hb157]
  rw [hH0]
  refine loopW n (fun m st => st = ⟨[(29, .i m), (28, .i n), (0, .ptr o 1 0 0), (1, .i v), (2, .i k)], H.set p (rowI (fireTo n es c v k m))⟩) (Wk_keep [29, 28, 0, 1, 2]) rfl ?_
  rintro m st hm rfl
  have hFl := fireTo_len n es c v k m
  by_cases hlt : m < n
  · obtain ⟨H1, hH1⟩ : ∃ H1, H1 = H.set p (rowI (fireTo n es c v k m)) := ⟨_, rfl⟩
    have ho1 : H1[o]? = some (.box (.agg (bdO q (bcE es) p n))) := by rw [hH1, List.getElem?_set_ne hop]; exact ho
    have hp1 : H1[p]? = some (rowI (fireTo n es c v k m)) := by rw [hH1]; simp [(List.getElem?_eq_some_iff.1 hp).1]
    have hs1 : ∀ y, H1.set p y = H.set p y := fun y => by rw [hH1, List.set_set]
    have hj := joinE_bd hg v m
    have hkj : -100000000 ≤ k * joinE es v m ∧ k * joinE es v m ≤ 100000000 := by
      rcases Int.le_total 0 k with h0 | h0
      · have h1 := Int.mul_nonneg h0 hj.1
        have h2 := Int.mul_le_mul hk.2 hj.2 hj.1 (by omega)
        omega
      · have h1 := Int.mul_nonneg (a := -k) (b := joinE es v m) (by omega) hj.1
        have h2 := Int.mul_le_mul (a := -k) (c := 2000000) (b := joinE es v m) (d := 50) (by omega) hj.2 hj.1 (by omega)
        rw [Int.neg_mul] at h1 h2
        omega
    have hFb : -200000000000 ≤ (fireTo n es c v k m).getD m 0 ∧ (fireTo n es c v k m).getD m 0 ≤ 200000000000 := by
      rw [fireTo_get hlt]
      have := hcb m
      simp only [Nat.lt_irrefl, if_false]
      split <;> omega
    have hs2 := congrArg (List.map PV.i) (fireTo_succ (n := n) (es := es) (c := c) (v := v) k hlt)
    rw [List.map_set] at hs2
    have hFm : m < (fireTo n es c v k m).length := by omega
    rw [getD_get hFm] at hs2 hFb
    have hbr := bdO_row hg (q := q) (p := p) hv hlt
    have hm12 : m < 12 := by omega
    rw [← hH1]
    simp -implicitDefEqProofs (disch := omega) [List.getElem?_cons_zero, List.getElem?_cons_succ, wrap_id, hlt, ho1, hp1, hFl, hFm, hbr, hb157, hv12, hm12, hs2, hs1]
    exact round_keep [29, 28, 0, 1, 2] hlt rfl
  · have hmn : m = n := by omega
    subst hmn
    rw [fireTo_n]
    simp -implicitDefEqProofs (disch := omega) [List.getElem?_cons_zero, List.getElem?_cons_succ, wrap_id]
    exact finH trivial rfl hK
/-- Vertex v is unstable: behind a pointer to what is read, or to one's own. -/
theorem unst_W (v : Nat) (hv : v < n) (hc : c.length = n) : W Try.prog 0 c52.body (Fin 0 c52.res fun r' H' => r' = .p (.v (.bool (unstB n es q c v))) ∧ H' = []) ⟨initT 0 (.sp (.agg (bdL q (bcE es) c)) 0 :: [PV.i v].map .p), []⟩ := by
  have hn := hg.n12
  have hv12 : v < 12 := by omega
  have hb157 := bdL_157 (q := q) (C := bcE es) (c := c) (bcE_len es)
  have hb0 := bdL_0 (q := q) (C := bcE es) (c := c)
  have hbv := bdL_val hg (q := q) (c := c) hv
  have hcv : v < c.length := by omega
  by_cases h1 : (v : Int) = q
  · simp -implicitDefEqProofs (disch := omega) [c52, List.getElem?_cons_zero, List.getElem?_cons_succ, wrap_id, h1, hb0]
    (refine fin0 trivial rfl ?_; simp -implicitDefEqProofs (disch := omega) [List.getElem?_cons_zero, List.getElem?_cons_succ, idx, wrap_id, unstB, h1])
  · simp -implicitDefEqProofs (disch := omega) [c52, List.getElem?_cons_zero, List.getElem?_cons_succ, wrap_id, h1, hcv, hb0, hb157, hbv, hv12]
    (refine fin0 trivial rfl ?_; simp -implicitDefEqProofs (disch := omega) [List.getElem?_cons_zero, List.getElem?_cons_succ, idx, wrap_id, unstB, h1, hcv])
theorem unst_sp {e : Bool} (v : Nat) (hv : v < n) (hc : c.length = n) (hK : K (.b (unstB n es q c v)) H) : HC Try.prog e 52 [.sp (.agg (bdL q (bcE es) c)) 0, .i v] H K :=
  HC_spC (rest := [.i v]) cfn52 rfl rfl (unst_W hg v hv hc) hK
theorem unst_ptr {e : Bool} (ho : H[o]? = some (.box (.agg (bdO q (bcE es) p n)))) (hp : H[p]? = some (rowI c)) (v : Nat) (hv : v < n) (hc : c.length = n) (hK : K (.b (unstB n es q c v)) H) : HC Try.prog e 52 [.ptr o 1 0 0, .i v] H K :=
  HC_ptrC (rest := [.i v]) cfn52 ho (bd_view hp hc) rfl rfl (unst_W hg v hv hc) hK
omit hg in
/-- How many single edges lead into the first k vertices of a set. -/
def insK (es : List Ed) (B : List Bool) (v k : Nat) : Int := sumN (fun u => if B.getD u false = true then joinE es v u else 0) k
omit hg in
theorem insK_yes {B : List Bool} {v k : Nat} (h : B.getD k false = true) : insK es B v (k + 1) = insK es B v k + joinE es v k := by simp only [insK, sumN]; rw [if_pos h]
omit hg in
theorem insK_no {B : List Bool} {v k : Nat} (h : B.getD k false = false) : insK es B v (k + 1) = insK es B v k := by simp only [insK, sumN]; rw [if_neg (by rw [h]; simp)]; omega
theorem insK_bd (B : List Bool) (v : Nat) : ∀ k : Nat, 0 ≤ insK es B v k ∧ insK es B v k ≤ 50 * k := by
  intro k
  induction k with
  | zero => simp [insK, sumN]
  | succ k ih => simp only [insK, sumN] at ih ⊢; have := joinE_bd hg v k; push_cast; split <;> omega
omit hg in
theorem insK_all {B : List Bool} {v : Nat} (hBn : ∀ u, B.getD u false = true → u < n) : ∀ k, n ≤ k → insK es B v k = insI n es B v := by
  intro k hk
  induction k with
  | zero =>
    have : n = 0 := by omega
    subst this; rfl
  | succ k ih =>
    by_cases h : n = k + 1
    · subst h; rfl
    · cases hb : B.getD k false with
      | true => have := hBn k hb; omega
      | false => rw [insK_no hb, ih (by omega)]
theorem ins_W (B : List Bool) (v : Nat) (hv : v < n) (hB : B.length = 12) (hBn : ∀ u, B.getD u false = true → u < n) :
    W Try.prog 0 c75.body (Fin 0 c75.res fun r' H' => r' = .p (.v (.int .i64 (insI n es B v))) ∧ H' = []) ⟨initT 0 (.sp (.agg (bdL q (bcE es) c)) 0 :: [PV.agg (B.map PV.b), PV.i v].map .p), []⟩ := by
  have hn := hg.n12
  have hv12 : v < 12 := by omega
  simp -implicitDefEqProofs (disch := omega) [c75, List.getElem?_cons_zero, List.getElem?_cons_succ, wrap_id, hB]
  refine loopW 12 (fun k st => st = ⟨[(11, .i k), (10, .p (.agg (B.map PV.b))), (7, .i (insK es B v k)), (0, .sp (.agg (bdL q (bcE es) c)) 0), (2, .i v)], []⟩) (wk_norm [] [11, 10, 7, 0, 2] rfl rfl) rfl ?_
  rintro k st hk rfl
  by_cases hlt : k < 12
  · have hkB : k < B.length := by omega
    have hg1 : B.getD k false = B[k] := by simp [hkB]
    have hb := insK_bd hg B v k
    have hlt2 : (k : Int) < 12 := by omega
    cases hw : B[k] with
    | true =>
      rw [hw] at hg1
      have hkn := hBn k hg1
      have hbr := bdL_row hg (q := q) (c := c) hv hkn
      have hj := joinE_bd hg v k
      have hs := insK_yes (es := es) (v := v) hg1
      simp -implicitDefEqProofs (disch := omega) [List.getElem?_cons_zero, List.getElem?_cons_succ, wrap_id, hlt, hlt2, hkB, hw, hbr, hv12]
      exact round_end [] [11, 10, 7, 0, 2] hlt rfl (by rw [hs]; rfl)
    | false =>
      rw [hw] at hg1
      have hs := insK_no (es := es) (v := v) hg1
      simp -implicitDefEqProofs (disch := omega) [List.getElem?_cons_zero, List.getElem?_cons_succ, wrap_id, hlt, hlt2, hkB, hw]
      exact round_end [] [11, 10, 7, 0, 2] hlt rfl (by rw [hs]; rfl)
  · have hk12 : k = 12 := by omega
    subst hk12
    have hs := insK_all (es := es) (v := v) hBn 12 (by omega)
    rw [hs]
    simp -implicitDefEqProofs (disch := omega) [List.getElem?_cons_zero, List.getElem?_cons_succ, wrap_id]
    (refine fin0 trivial rfl ?_; simp -implicitDefEqProofs (disch := omega) [List.getElem?_cons_zero, List.getElem?_cons_succ, idx, wrap_id])
theorem ins_sp {e : Bool} (B : List Bool) (v : Nat) (hv : v < n) (hB : B.length = 12) (hBn : ∀ u, B.getD u false = true → u < n) (hK : K (.i (insI n es B v)) H) : HC Try.prog e 75 [.sp (.agg (bdL q (bcE es) c)) 0, .p (.agg (B.map PV.b)), .i v] H K :=
  HC_spC (rest := [.p (.agg (B.map PV.b)), .i v]) cfn75 rfl rfl (ins_W hg B v hv hB hBn) hK
end
end Go.Proofs.Ytgjaekbbdmhjlaa
