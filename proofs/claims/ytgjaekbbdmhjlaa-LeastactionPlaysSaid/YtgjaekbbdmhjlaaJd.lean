/-
  Contracts: a board: which scripts stabilize, and the greatest set that can be taken away.
-/
import Derived.Test.YtgjaekbbdmhjlaaJc
set_option linter.unusedSimpArgs false
set_option linter.unusedVariables false
namespace Go.Proofs.Ytgjaekbbdmhjlaa
open Go.Abs Go.Sand

theorem putA_b {H : List AO} {W : List Bool} {k : Nat} {b : Bool} (hk : k < W.length) (h1 : W.length ≠ 1) : putA H (.p (.agg (W.map PV.b))) k (.p (.v (.bool b))) = some (.p (.agg ((W.set k b).map PV.b))) := by
  unfold putA
  have h2 : (AV.p (.agg (W.map PV.b))).flat.length = W.length := by simp [AV.flat, PV.flat]
  rw [if_neg (by rw [h2]; rintro ⟨-, h, -⟩; exact h1 h), if_pos ⟨rfl, by rw [h2]; exact hk⟩]
  have e : (AV.p (.agg (W.map PV.b))).flat.set k (.p (.v (.bool b))) = ((W.set k b).map PV.b).map AV.p := by
    show ((W.map PV.b).map AV.p).set k (.p (PV.b b)) = _
    rw [List.map_set, List.map_set]
  rw [e, mkAgg, allP_ps]
  have ho : ((W.set k b).map PV.b).all (·.one) = true := by
    rw [List.all_eq_true]
    intro x hx
    obtain ⟨y, _, rfl⟩ := List.mem_map.1 hx
    rfl
  dsimp only
  rw [if_pos ho]
/-- A script that stabilizes, decided. -/
def stlB (n : Nat) (es : List Ed) (q : Int) (c s : List Int) : Bool := (List.range n).all fun v => decide (0 ≤ s.getD v 0) && (decide ((v : Int) ≠ q) || decide (s.getD v 0 = 0)) && !unstB n es q c v
theorem stlB_iff {n : Nat} {es : List Ed} {q : Int} {d s : List Int} (hs : s.length = n) : stlB n es q (movedE es s d) s = true ↔ Stl n es q d s := by
  unfold stlB
  rw [List.all_eq_true]
  constructor
  · intro h
    have h' : ∀ v, v < n → 0 ≤ s.getD v 0 ∧ ((v : Int) = q → s.getD v 0 = 0) ∧ ((v : Int) ≠ q → (movedE es s d).getD v 0 < valTo es v n) := fun v hv => by
      have := h v (List.mem_range.2 hv)
      simp only [Bool.and_eq_true, Bool.or_eq_true, decide_eq_true_eq, Bool.not_eq_true', unstB, decide_eq_false_iff_not] at this
      refine ⟨this.1.1, fun e => this.1.2.resolve_left fun h2 => h2 e, fun hq => ?_⟩
      have h3 := this.2
      exact Int.not_le.1 fun h4 => h3 ⟨hq, h4⟩
    refine ⟨⟨hs, fun i hi => (h' i hi).1, fun v hv hq => (h' v hv).2.2 hq⟩, fun i hi => ?_⟩
    by_cases hin : i < n
    · exact (h' i hin).2.1 hi
    · rw [List.getD_eq_getElem?_getD, List.getElem?_eq_none (by omega)]; rfl
  · intro h v hv
    have hv := List.mem_range.1 hv
    simp only [Bool.and_eq_true, Bool.or_eq_true, decide_eq_true_eq, Bool.not_eq_true', unstB, decide_eq_false_iff_not]
    refine ⟨⟨h.st.nn v hv, ?_⟩, fun ⟨h1, h2⟩ => ?_⟩
    · by_cases hq : (v : Int) = q
      · exact .inr (h.z v hq)
      · exact .inl hq
    · have := h.st.st v hv h1
      omega
/-- The first k vertices are as they have to be. -/
def StK (n : Nat) (es : List Ed) (q : Int) (c s : List Int) (k : Nat) : Prop := ∀ v, v < k → (decide (0 ≤ s.getD v 0) && (decide ((v : Int) ≠ q) || decide (s.getD v 0 = 0)) && !unstB n es q c v) = true
theorem StK.succ {n : Nat} {es : List Ed} {q : Int} {c s : List Int} {k : Nat} (h : StK n es q c s k) (h2 : (decide (0 ≤ s.getD k 0) && (decide ((k : Int) ≠ q) || decide (s.getD k 0 = 0)) && !unstB n es q c k) = true) : StK n es q c s (k + 1) := fun u hu => by
  rcases Nat.lt_or_ge u k with h3 | h3
  · exact h u h3
  · have e : u = k := by omega
    subst e; exact h2
theorem stlB_yes {n : Nat} {es : List Ed} {q : Int} {c s : List Int} (h : StK n es q c s n) : stlB n es q c s = true := List.all_eq_true.2 fun v hv => h v (List.mem_range.1 hv)
theorem stlB_no {n : Nat} {es : List Ed} {q : Int} {c s : List Int} {k : Nat} (hk : k < n) (h : (decide (0 ≤ s.getD k 0) && (decide ((k : Int) ≠ q) || decide (s.getD k 0 = 0)) && !unstB n es q c k) = false) : stlB n es q c s = false := by
  unfold stlB
  rw [List.all_eq_false]
  exact ⟨k, List.mem_range.2 hk, by rw [h]; simp⟩
section
variable {n : Nat} {es : List Ed} (hg : GoodG n es) {q : Int} {c s : List Int} {o p : Nat}
include hg
variable {K : AV → List AO → Prop} {H : List AO}
theorem stl_W (hc : c.length = n) (hs : s.length = n) : W Try.prog 0 c41.body (Fin 0 c41.res fun r' H' => r' = .p (.v (.bool (stlB n es q c s))) ∧ H' = []) ⟨initT 0 (.sp (.agg (bdL q (bcE es) c)) 0 :: [PV.is s].map .p), []⟩ := by
  have hn := hg.n12
  have hb0 := bdL_0 (q := q) (C := bcE es) (c := c)
  simp -implicitDefEqProofs (disch := omega) [c41, List.getElem?_cons_zero, List.getElem?_cons_succ, wrap_id, hs]
  refine loopW n (fun k st => st = ⟨[(9, .i k), (8, .i n), (7, .p (.is s)), (0, .sp (.agg (bdL q (bcE es) c)) 0)], []⟩ ∧ StK n es q c s k) (wk_norm [] [9, 8, 7, 0] rfl rfl) ⟨rfl, fun u hu => by omega⟩ ?_
  rintro k st hk ⟨rfl, hI⟩
  by_cases hlt : k < n
  · have hks : k < s.length := by omega
    have hgk := getD_get hks
    by_cases h1 : s[k] < 0
    · have hr := stlB_no (es := es) (q := q) (c := c) (s := s) hlt (by rw [hgk, decide_eq_false (by omega)]; rfl)
      simp -implicitDefEqProofs (disch := omega) [List.getElem?_cons_zero, List.getElem?_cons_succ, wrap_id, hlt, hks, h1]
      (refine fin0 trivial rfl ?_; simp -implicitDefEqProofs (disch := omega) [List.getElem?_cons_zero, List.getElem?_cons_succ, idx, wrap_id, hr])
    by_cases h2 : (k : Int) = q
    · by_cases h3 : s[k] = 0
      · have hu : unstB n es q c k = false := by simp [unstB, h2]
        have hI' := hI.succ (by rw [hgk, hu, h3]; simp)
        have h2' : ((k : Int) = q) = True := eq_true h2
        simp -implicitDefEqProofs (disch := omega) [List.getElem?_cons_zero, List.getElem?_cons_succ, wrap_id, hlt, hks, h1, h2', h3, hb0]
        refine unst_sp hg k hlt hc ?_
        simp -implicitDefEqProofs (disch := omega) [List.getElem?_cons_zero, List.getElem?_cons_succ, wrap_id, hu]
        exact round_end [] [9, 8, 7, 0] hlt rfl ⟨rfl, hI'⟩
      · have hr := stlB_no (es := es) (q := q) (c := c) (s := s) hlt (by rw [hgk, decide_eq_false (p := s[k] = 0) h3, decide_eq_false (p := (k : Int) ≠ q) (by simp [h2])]; simp)
        have h2' : ((k : Int) = q) = True := eq_true h2
        simp -implicitDefEqProofs (disch := omega) [List.getElem?_cons_zero, List.getElem?_cons_succ, wrap_id, hlt, hks, h1, h2', h3, hb0]
        (refine fin0 trivial rfl ?_; simp -implicitDefEqProofs (disch := omega) [List.getElem?_cons_zero, List.getElem?_cons_succ, idx, wrap_id, hr])
    · simp -implicitDefEqProofs (disch := omega) [List.getElem?_cons_zero, List.getElem?_cons_succ, wrap_id, hlt, hks, h1, h2, hb0]
      refine unst_sp hg k hlt hc ?_
      cases hu : unstB n es q c k with
      | true =>
        have hr := stlB_no (es := es) (q := q) (c := c) (s := s) hlt (by rw [hu]; simp)
        simp -implicitDefEqProofs (disch := omega) [List.getElem?_cons_zero, List.getElem?_cons_succ, wrap_id]
        (refine fin0 trivial rfl ?_; simp -implicitDefEqProofs (disch := omega) [List.getElem?_cons_zero, List.getElem?_cons_succ, idx, wrap_id, hr])
      | false =>
        have hI' := hI.succ (by rw [hgk, hu, decide_eq_true (p := (k : Int) ≠ q) h2, decide_eq_true (p := 0 ≤ s[k]) (by omega)]; rfl)
        simp -implicitDefEqProofs (disch := omega) [List.getElem?_cons_zero, List.getElem?_cons_succ, wrap_id]
        exact round_end [] [9, 8, 7, 0] hlt rfl ⟨rfl, hI'⟩
  · have hkn : k = n := by omega
    subst hkn
    have hr := stlB_yes hI
    simp -implicitDefEqProofs (disch := omega) [List.getElem?_cons_zero, List.getElem?_cons_succ, wrap_id, hlt]
    (refine fin0 trivial rfl ?_; simp -implicitDefEqProofs (disch := omega) [List.getElem?_cons_zero, List.getElem?_cons_succ, idx, wrap_id, hr])
theorem stl_ptr {e : Bool} (ho : H[o]? = some (.box (.agg (bdO q (bcE es) p n)))) (hp : H[p]? = some (rowI c)) (hc : c.length = n) (hs : s.length = n) (hK : K (.b (stlB n es q c s)) H) : HC Try.prog e 41 [.ptr o 1 0 0, .p (.is s)] H K :=
  HC_ptrC (rest := [.p (.is s)]) cfn41 ho (bd_view hp hc) rfl rfl (stl_W hg hc hs) hK
omit hg in
/-- The set as far as it has been laid out. -/
theorem posT_0 : (List.replicate 12 false) = (List.range 12).map fun v => decide (v < 0) && decide (0 < s.getD v 0) := by
  refine List.ext_getElem (by simp) fun i h1 h2 => by rw [List.getElem_replicate]; simp
omit hg in
theorem posT_succ {k : Nat} (hk : k < 12) : ((List.range 12).map fun v => decide (v < k) && decide (0 < s.getD v 0)).set k (decide (0 < s.getD k 0)) = (List.range 12).map fun v => decide (v < k + 1) && decide (0 < s.getD v 0) := by
  refine List.ext_getElem (by simp) fun u h1 h2 => ?_
  rw [List.getElem_set]
  simp only [List.getElem_map, List.getElem_range]
  by_cases h : k = u
  · subst h; simp
  · have h2 : (u < k + 1) = (u < k) := by simp only [eq_iff_iff]; omega
    simp only [h, if_false, h2]
omit hg in
theorem posT_n (hs : s.length = n) : ((List.range 12).map fun v => decide (v < n) && decide (0 < s.getD v 0)) = posB s := by
  unfold posB
  refine List.map_congr_left fun v _ => ?_
  by_cases h : v < n
  · simp [h]
  · have : s.getD v 0 = 0 := by rw [List.getD_eq_getElem?_getD, List.getElem?_eq_none (by omega)]; rfl
    rw [this, decide_eq_false h]; rfl
def flB (n : Nat) (es : List Ed) (L : List Int) (B : List Bool) : Nat → Bool
  | 0 => true
  | k + 1 => decide (iterB n es L (k + 1) B ≠ iterB n es L k B)
def flP (n : Nat) (es : List Ed) (L : List Int) (B : List Bool) (v : Nat) : Bool := decide (passB n es L B v ≠ B)
attribute [local simp ↓ 10000] putA_b
set_option maxRecDepth 10000 in
theorem gr_W (hc : c.length = n) (hs : s.length = n) : W Try.prog 0 c46.body (Fin 0 c46.res fun r' H' => r' = .p (.agg ((grF n es c s).map PV.b)) ∧ H' = []) ⟨initT 0 (.sp (.agg (bdL q (bcE es) c)) 0 :: [PV.is s].map .p), []⟩ := by
  have hn := hg.n12
  have hb157 := bdL_157 (q := q) (C := bcE es) (c := c) (bcE_len es)
  simp -implicitDefEqProofs (disch := omega) [c46, List.getElem?_cons_zero, List.getElem?_cons_succ, wrap_id, hs]
  refine loopW n (fun k st => st = ⟨[(12, .i k), (11, .i n), (10, .p (.is s)), (5, .ptr 1 1 0 0), (4, .ptr 0 1 0 0), (0, .sp (.agg (bdL q (bcE es) c)) 0), (1, .p (.is s))], [.box (.p (.agg ((List.replicate 12 false).map PV.b))), .box (.p (.agg (((List.range 12).map fun v => decide (v < k) && decide (0 < s.getD v 0)).map PV.b)))]⟩) (Wk_keep [12, 11, 10, 5, 4, 0, 1]) (by rw [← posT_0]; rfl) ?_
  rintro k st hk rfl
  by_cases hlt : k < n
  · have hks : k < s.length := by omega
    have hgk := getD_get hks
    have hk12 : k < 12 := by omega
    have hs2 := posT_succ (s := s) hk12
    rw [hgk] at hs2
    obtain ⟨B, hB⟩ : ∃ B, B = (List.range 12).map fun v => decide (v < k) && decide (0 < s.getD v 0) := ⟨_, rfl⟩
    have hBl : B.length = 12 := by simp [hB]
    have hkB : k < B.length := by omega
    have hB1 : B.length ≠ 1 := by omega
    rw [← hB] at hs2 ⊢
    simp -implicitDefEqProofs (disch := omega) [List.getElem?_cons_zero, List.getElem?_cons_succ, wrap_id, hlt, hks, hk12, hBl, hs2]
    exact round_keep [12, 11, 10, 5, 4, 0, 1] hlt rfl
  have hkn : k = n := by omega
  subst hkn
  rw [posT_n hs]
  simp -implicitDefEqProofs (disch := omega) [List.getElem?_cons_zero, List.getElem?_cons_succ, wrap_id]
  refine loopW 13 (fun m st => (∀ j, j + 1 < m → iterB k es c (j + 1) (posB s) ≠ iterB k es c j (posB s)) ∧ st = ⟨[(8, .b (flB k es c (posB s) m)), (5, .ptr 1 1 0 0), (4, .ptr 0 1 0 0), (0, .sp (.agg (bdL q (bcE es) c)) 0), (1, .p (.is s))], [.box (.p (.agg ((List.replicate 12 false).map PV.b))), .box (.p (.agg ((iterB k es c m (posB s)).map PV.b)))]⟩) (Wk_keep [8, 5, 4, 0, 1]) ⟨fun j hj => by omega, rfl⟩ ?_
  rintro m st hm ⟨hall, rfl⟩
  obtain ⟨B, hB⟩ : ∃ B, B = iterB k es c m (posB s) := ⟨_, rfl⟩
  have hBl : B.length = 12 := by rw [hB, iterB_len, posB_len]
  have hBn : ∀ u, B.getD u false = true → u < k := fun u hu => by
    rw [hB] at hu
    have h1 := ((posB_get s u).1 (iterB_sub _ _ u hu)).2
    refine Nat.not_le.1 fun h2 => ?_
    rw [List.getD_eq_getElem?_getD, List.getElem?_eq_none (by omega)] at h1
    simp at h1
  cases hfl : flB k es c (posB s) m with
  | false =>
    obtain ⟨j, rfl⟩ : ∃ j, m = j + 1 := by cases m with
      | zero => cases hfl
      | succ j => exact ⟨j, rfl⟩
    have hfix : iterB k es c (j + 1) (posB s) = iterB k es c j (posB s) := by
      simp only [flB, decide_eq_false_iff_not] at hfl
      exact Decidable.not_not.1 hfl
    have hr : grF k es c s = B := by rw [grF_at (m := j) hfix (by omega), ← hfix, hB]
    rw [← hB]
    simp -implicitDefEqProofs (disch := omega) [List.getElem?_cons_zero, List.getElem?_cons_succ, wrap_id, hBl]
    refine fin0 (x := .p (.agg (B.map PV.b))) trivial (by simp [resOf, Abs.resL, Abs.res1, Abs.get, hBl]) ?_
    simp [AV.ren, hr]
  | true =>
    have hm12 : m ≤ 12 := by
      have hcnt := iterB_cnt (n := k) (es := es) (L := c) (posB s) m fun j hj => by
        rcases Nat.lt_or_ge (j + 1) m with h1 | h1
        · exact hall j h1
        · have e : m = j + 1 := by omega
          subst e
          simp only [flB, decide_eq_true_eq] at hfl
          exact hfl
      have := cntB_le (posB s)
      rw [posB_len] at this
      omega
    rw [← hB]
    simp -implicitDefEqProofs (disch := omega) [List.getElem?_cons_zero, List.getElem?_cons_succ, wrap_id, hs]
    refine loopW k (fun v st => st = ⟨[(25, .i v), (24, .i k), (8, .b (flP k es c B v)), (5, .ptr 1 1 0 0), (4, .ptr 0 1 0 0), (0, .sp (.agg (bdL q (bcE es) c)) 0), (1, .p (.is s))], [.box (.p (.agg ((List.replicate 12 false).map PV.b))), .box (.p (.agg ((passB k es c B v).map PV.b)))]⟩) (Wk_keep [25, 24, 8, 5, 4, 0, 1]) (by rw [show flP k es c B 0 = false from decide_eq_false (fun h => h rfl)]; rfl) ?_
    rintro v st hv rfl
    by_cases hlv : v < k
    · have hfl2 := passB_flag (n := k) (es := es) (L := c) B v
      obtain ⟨B2, hB2⟩ : ∃ B2, B2 = passB k es c B v := ⟨_, rfl⟩
      have hB2l : B2.length = 12 := by rw [hB2, passB_len, hBl]
      have hB2n : ∀ u, B2.getD u false = true → u < k := fun u hu => hBn u (passB_sub B v u (by rw [← hB2]; exact hu))
      have hv12 : v < 12 := by omega
      have hvB : v < B2.length := by omega
      have hg1 : B2.getD v false = B2[v] := by simp [hvB]
      have hcv : v < c.length := by omega
      have hgc := getD_get hcv
      have hne1 : B2.length ≠ 1 := by omega
      have hp : passB k es c B (v + 1) = stepB k es c B2 v := by rw [passB, ← hB2]
      rw [← hB2] at hfl2 ⊢
      cases hw : B2[v] with
      | false =>
        rw [hw] at hg1
        have hp2 : passB k es c B (v + 1) = B2 := by rw [hp, stepB, if_neg (by rw [hg1]; simp)]
        have hf : flP k es c B (v + 1) = flP k es c B v := by rw [flP, flP, hp2, hB2]
        simp -implicitDefEqProofs (disch := omega) [List.getElem?_cons_zero, List.getElem?_cons_succ, wrap_id, hlv, hv12, hvB, hw]
        exact round_keep [25, 24, 8, 5, 4, 0, 1] hlv (by rw [hp2, hf]; rfl)
      | true =>
        rw [hw] at hg1
        simp -implicitDefEqProofs (disch := omega) [List.getElem?_cons_zero, List.getElem?_cons_succ, wrap_id, hlv, hv12, hvB, hw, hb157, hcv, hB2l]
        refine ins_sp hg B2 v hlv hB2l hB2n ?_
        by_cases hle : insI k es B2 v ≤ c[v]
        · have hp2 : passB k es c B (v + 1) = B2.set v false := by rw [hp, stepB, if_pos ⟨hg1, by rw [hgc]; exact hle⟩]
          have hf : flP k es c B (v + 1) = true := decide_eq_true (hfl2.2 (.inr ⟨hg1, by rw [hgc]; exact hle⟩))
          simp -implicitDefEqProofs (disch := omega) [List.getElem?_cons_zero, List.getElem?_cons_succ, wrap_id, hle, hv12, hvB, hne1, hB2l]
          refine round_keep [25, 24, 8, 5, 4, 0, 1] hlv ?_
          rw [hf, hp2, List.map_set]; rfl
        · have hp2 : passB k es c B (v + 1) = B2 := by rw [hp, stepB, if_neg (by rw [hgc]; exact fun h => hle h.2)]
          have hf : flP k es c B (v + 1) = flP k es c B v := by rw [flP, flP, hp2, hB2]
          simp -implicitDefEqProofs (disch := omega) [List.getElem?_cons_zero, List.getElem?_cons_succ, wrap_id, hle]
          exact round_keep [25, 24, 8, 5, 4, 0, 1] hlv (by rw [hp2, hf]; rfl)
    · have hvk : v = k := by omega
      subst hvk
      have e1 : passB v es c B v = iterB v es c (m + 1) (posB s) := by rw [iterB, hB]
      simp -implicitDefEqProofs (disch := omega) [List.getElem?_cons_zero, List.getElem?_cons_succ, wrap_id]
      refine round_keep [8, 5, 4, 0, 1] (by omega) ⟨fun j hj => ?_, ?_⟩
      · rcases Nat.lt_or_ge (j + 1) m with h1 | h1
        · exact hall j h1
        · have e : m = j + 1 := by omega
          subst e
          simp only [flB, decide_eq_true_eq] at hfl
          exact hfl
      · have hf : flP v es c B v = flB v es c (posB s) (m + 1) := by rw [flP, flB, e1, hB]
        rw [hf, e1]; rfl
omit hg in
theorem calm_b (l : List Bool) : calmP (.agg (l.map PV.b)) = true := List.all_eq_true.2 fun x hx => by obtain ⟨y, _, rfl⟩ := List.mem_map.1 hx; rfl
theorem gr_ptr {e : Bool} {sa : AV} (ho : H[o]? = some (.box (.agg (bdO q (bcE es) p n)))) (hp : H[p]? = some (rowI c)) (hsa : view H sa = some (.is s)) (hc : c.length = n) (hs : s.length = n) (hK : K (.p (.agg ((grF n es c s).map PV.b))) H) : HC Try.prog e 46 [.ptr o 1 0 0, sa] H K :=
  HC_ptrC (rest := [sa]) (rp := [.is s]) cfn46 ho (bd_view hp hc) (by rw [views, hsa]; rfl) (calm_b _) (gr_W hg hc hs) hK
end
end Go.Proofs.Ytgjaekbbdmhjlaa
