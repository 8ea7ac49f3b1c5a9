/-
  Contracts: equality of divisors and scripts; the law's few, right and awake.
-/
import Derived.Test.YtddgepjmfnodhaaPe
set_option linter.unusedSimpArgs false
set_option linter.unusedVariables false
namespace Go.Proofs.Ytddgepjmfnodhaa
open Go.Abs Go.Sand

section
variable {f : FuncId} {fs cs : List AV} {H : List AO} {p : Int → Bool} {R : AV → List AO → Prop}
theorem idxfI_ok (xs : List Int) (hx : xs.length ≤ 4611686018427387904) (hc : callable Try.prog f = true) (hf : ∀ k ∈ xs, ∀ K, K (.b (p k)) H → HC Try.prog false f (fs ++ .i k :: cs) H K) (hR : ∀ i : Int, (0 ≤ i ↔ xs.any p = true) → R (.i i) H) :
    HC Try.prog false 87 [.p (.is xs), .fn (.func f) fs cs] H R := by
  refine HC_of_W (af := _) ((by exact cfn87 : cfn _ _ _ = some _)) ?_
  simp -implicitDefEqProofs (disch := omega) [c87, List.getElem?_cons_zero, List.getElem?_cons_succ, wrap_id]
  refine loopW xs.length (fun k s => s = ⟨[(8, .i k), (7, .i xs.length), (6, .p (.is xs)), (0, .p (.is xs)), (1, .fn (.func f) fs cs)], H⟩ ∧ xs.any p = (xs.drop k).any p) (Wk_keep [8, 7, 6, 0, 1]) ⟨rfl, rfl⟩ ?_
  rintro k s hk ⟨rfl, hI⟩
  by_cases hlt : k < xs.length
  · have hd := drop_any p xs k hlt
    simp -implicitDefEqProofs (disch := omega) [List.getElem?_cons_zero, List.getElem?_cons_succ, wrap_id, hlt]
    refine ⟨hc, ?_⟩
    refine hf _ (List.getElem_mem hlt) _ ?_
    cases hv : p xs[k]
    · rw [hv] at hd
      simp -implicitDefEqProofs (disch := omega) [List.getElem?_cons_zero, List.getElem?_cons_succ, wrap_id]
      exact round_keep [8, 7, 6, 0, 1] hlt ⟨rfl, by rw [hI, hd]; rfl⟩
    · rw [hv] at hd
      simp -implicitDefEqProofs (disch := omega) [List.getElem?_cons_zero, List.getElem?_cons_succ, wrap_id]
      exact finH trivial rfl (hR _ (by rw [hI, hd]; simp))
  · simp -implicitDefEqProofs (disch := omega) [List.getElem?_cons_zero, List.getElem?_cons_succ, wrap_id, hlt]
    exact finH trivial rfl (hR _ (by rw [hI, List.drop_of_length_le (Nat.le_of_not_lt hlt)]; simp))
theorem hasfI_ok (xs : List Int) (hx : xs.length ≤ 4611686018427387904) (hc : callable Try.prog f = true) (hf : ∀ k ∈ xs, ∀ K, K (.b (p k)) H → HC Try.prog false f (fs ++ .i k :: cs) H K) (hR : R (.b (xs.any p)) H) :
    HC Try.prog false 52 [.p (.is xs), .fn (.func f) fs cs] H R := by
  refine HC_of_W (af := _) ((by exact cfn52 : cfn _ _ _ = some _)) ?_
  simp -implicitDefEqProofs (disch := omega) [c52, List.getElem?_cons_zero, List.getElem?_cons_succ, wrap_id]
  refine idxfI_ok xs hx hc hf fun i hi => ?_
  by_cases h : 0 ≤ i
  · have hv := hi.1 h
    rw [hv] at hR
    simp -implicitDefEqProofs (disch := omega) [List.getElem?_cons_zero, List.getElem?_cons_succ, wrap_id, h]
    exact finH trivial rfl hR
  · have hv : xs.any p = false := by cases hq : xs.any p; rfl; exact absurd (hi.2 hq) h
    rw [hv] at hR
    simp -implicitDefEqProofs (disch := omega) [List.getElem?_cons_zero, List.getElem?_cons_succ, wrap_id, h]
    exact finH trivial rfl hR
end
theorem eqD_ok (xs ys : List Int) (hx : xs.length ≤ 4611686018427387904) : PC Try.prog 15 [.is xs, .is ys] (.b (decide (xs = ys))) [] := by
  refine PC_of_W cfn15 ?_
  by_cases hl : xs.length = ys.length
  rotate_left
  · have hl' : ¬ (xs.length : Int) = ys.length := by omega
    have hne : ¬ xs = ys := fun h => hl (by rw [h])
    simp -implicitDefEqProofs (disch := omega) [c15, List.getElem?_cons_zero, List.getElem?_cons_succ, wrap_id, hl']
    (refine fin0 trivial rfl ?_; simp -implicitDefEqProofs (disch := omega) [List.getElem?_cons_zero, List.getElem?_cons_succ, idx, wrap_id, hne])
  have hl' : (xs.length : Int) = ys.length := by omega
  simp -implicitDefEqProofs (disch := omega) [c15, List.getElem?_cons_zero, List.getElem?_cons_succ, wrap_id, hl']
  refine loopW xs.length (fun k s => s = ⟨[(13, .i k), (12, .i ys.length), (0, .p (.is xs)), (1, .p (.is ys))], []⟩ ∧ (xs = ys ↔ xs.drop k = ys.drop k)) (wk_norm [] [13, 12, 0, 1] rfl rfl) ⟨rfl, Iff.rfl⟩ ?_
  rintro k s hk ⟨rfl, hI⟩
  by_cases hlt : k < xs.length
  · have hlt' : k < ys.length := by omega
    rw [List.drop_eq_getElem_cons hlt, List.drop_eq_getElem_cons hlt', List.cons.injEq] at hI
    by_cases he : xs[k] = ys[k]
    · have hd : xs = ys ↔ xs.drop (k + 1) = ys.drop (k + 1) := by rw [hI]; exact ⟨fun h => h.2, fun h => ⟨he, h⟩⟩
      simp -implicitDefEqProofs (disch := omega) [List.getElem?_cons_zero, List.getElem?_cons_succ, wrap_id, hlt, hlt']
      rw [decide_eq_true he]
      simp -implicitDefEqProofs (disch := omega) [List.getElem?_cons_zero, List.getElem?_cons_succ, wrap_id]
      exact round_end [] [13, 12, 0, 1] hlt rfl ⟨rfl, hd⟩
    · have hd : ¬ xs = ys := by rw [hI]; exact fun h => he h.1
      simp -implicitDefEqProofs (disch := omega) [List.getElem?_cons_zero, List.getElem?_cons_succ, wrap_id, hlt, hlt', he]
      (refine fin0 trivial rfl ?_; simp -implicitDefEqProofs (disch := omega) [List.getElem?_cons_zero, List.getElem?_cons_succ, idx, wrap_id, hd])
  · have hlt' : ¬ k < ys.length := by omega
    have hd : xs = ys := by rw [hI, List.drop_of_length_le (by omega), List.drop_of_length_le (by omega)]
    simp -implicitDefEqProofs (disch := omega) [List.getElem?_cons_zero, List.getElem?_cons_succ, wrap_id, hlt']
    refine fin0 trivial rfl ?_
    rw [decide_eq_true hd]
    rfl
/-- Equal to itself, nil or not. -/
theorem eqDn_ok (b : Prop) [Decidable b] (L : List Int) (hl : b → L.length ≤ 4611686018427387904) : PC Try.prog 15 [if b then .is L else .nil, if b then .is L else .nil] (.b true) [] := by
  by_cases hb : b
  · rw [if_pos hb]
    have := eqD_ok L L (hl hb)
    rwa [decide_eq_true rfl] at this
  · rw [if_neg hb]
    have := eqD_ok [] [] (by decide)
    rw [decide_eq_true rfl] at this
    exact PC_le this fun S w vs hv => ⟨hv.1, fun i hi hi' => by
      match i, hi, hi' with
      | 0, _, hi' => exact RP_nil (hv.2 0 (Nat.zero_lt_succ _) hi')
      | 1, _, hi' => exact RP_nil (hv.2 1 (Nat.succ_lt_succ (Nat.zero_lt_succ _)) hi')⟩
theorem eqS_ok (xs ys : List Int) (hx : xs.length ≤ 4611686018427387904) : PC Try.prog 27 [.is xs, .is ys] (.b (decide (xs = ys))) [] := by
  refine PC_of_W cfn27 ?_
  by_cases hl : xs.length = ys.length
  rotate_left
  · have hl' : ¬ (xs.length : Int) = ys.length := by omega
    have hne : ¬ xs = ys := fun h => hl (by rw [h])
    simp -implicitDefEqProofs (disch := omega) [c27, List.getElem?_cons_zero, List.getElem?_cons_succ, wrap_id, hl']
    (refine fin0 trivial rfl ?_; simp -implicitDefEqProofs (disch := omega) [List.getElem?_cons_zero, List.getElem?_cons_succ, idx, wrap_id, hne])
  have hl' : (xs.length : Int) = ys.length := by omega
  simp -implicitDefEqProofs (disch := omega) [c27, List.getElem?_cons_zero, List.getElem?_cons_succ, wrap_id, hl']
  refine loopW xs.length (fun k s => s = ⟨[(13, .i k), (12, .i ys.length), (0, .p (.is xs)), (1, .p (.is ys))], []⟩ ∧ (xs = ys ↔ xs.drop k = ys.drop k)) (wk_norm [] [13, 12, 0, 1] rfl rfl) ⟨rfl, Iff.rfl⟩ ?_
  rintro k s hk ⟨rfl, hI⟩
  by_cases hlt : k < xs.length
  · have hlt' : k < ys.length := by omega
    rw [List.drop_eq_getElem_cons hlt, List.drop_eq_getElem_cons hlt', List.cons.injEq] at hI
    by_cases he : xs[k] = ys[k]
    · have hd : xs = ys ↔ xs.drop (k + 1) = ys.drop (k + 1) := by rw [hI]; exact ⟨fun h => h.2, fun h => ⟨he, h⟩⟩
      simp -implicitDefEqProofs (disch := omega) [List.getElem?_cons_zero, List.getElem?_cons_succ, wrap_id, hlt, hlt']
      rw [decide_eq_true he]
      simp -implicitDefEqProofs (disch := omega) [List.getElem?_cons_zero, List.getElem?_cons_succ, wrap_id]
      exact round_end [] [13, 12, 0, 1] hlt rfl ⟨rfl, hd⟩
    · have hd : ¬ xs = ys := by rw [hI]; exact fun h => he h.1
      simp -implicitDefEqProofs (disch := omega) [List.getElem?_cons_zero, List.getElem?_cons_succ, wrap_id, hlt, hlt', he]
      (refine fin0 trivial rfl ?_; simp -implicitDefEqProofs (disch := omega) [List.getElem?_cons_zero, List.getElem?_cons_succ, idx, wrap_id, hd])
  · have hlt' : ¬ k < ys.length := by omega
    have hd : xs = ys := by rw [hI, List.drop_of_length_le (by omega), List.drop_of_length_le (by omega)]
    simp -implicitDefEqProofs (disch := omega) [List.getElem?_cons_zero, List.getElem?_cons_succ, wrap_id, hlt']
    refine fin0 trivial rfl ?_
    rw [decide_eq_true hd]
    rfl
/-- Equal to itself, nil or not. -/
theorem eqSn_ok (b : Prop) [Decidable b] (L : List Int) (hl : b → L.length ≤ 4611686018427387904) : PC Try.prog 27 [if b then .is L else .nil, if b then .is L else .nil] (.b true) [] := by
  by_cases hb : b
  · rw [if_pos hb]
    have := eqS_ok L L (hl hb)
    rwa [decide_eq_true rfl] at this
  · rw [if_neg hb]
    have := eqS_ok [] [] (by decide)
    rw [decide_eq_true rfl] at this
    exact PC_le this fun S w vs hv => ⟨hv.1, fun i hi hi' => by
      match i, hi, hi' with
      | 0, _, hi' => exact RP_nil (hv.2 0 (Nat.zero_lt_succ _) hi')
      | 1, _, hi' => exact RP_nil (hv.2 1 (Nat.succ_lt_succ (Nat.zero_lt_succ _)) hi')⟩
def fewP (g h : Gr) (m : Mo) (l : List Int) : Bool := fewM g h m && decide (l.length ≤ 40)
theorem lfew52_ok (g h : Gr) (m : Mo) (l : List Int) : PC Try.prog 10 [EnP g h, MoP m, .is l] (.b (fewP g h m l)) [] := by
  refine PC_of_W cfn10 ?_
  simp -implicitDefEqProofs (disch := omega) [c10, List.getElem?_cons_zero, List.getElem?_cons_succ, wrap_id]
  refine HC_of_PC rfl (few51_ok g h m) ?_
  cases hf : fewM g h m
  · simp -implicitDefEqProofs (disch := omega) [List.getElem?_cons_zero, List.getElem?_cons_succ, wrap_id]
    (refine fin0 trivial rfl ?_; simp -implicitDefEqProofs (disch := omega) [List.getElem?_cons_zero, List.getElem?_cons_succ, idx, wrap_id, fewP, hf])
  · by_cases hl : l.length ≤ 40
    · have hl' : (l.length : Int) ≤ 40 := by omega
      simp -implicitDefEqProofs (disch := omega) [List.getElem?_cons_zero, List.getElem?_cons_succ, wrap_id, hl']
      (refine fin0 trivial rfl ?_; simp -implicitDefEqProofs (disch := omega) [List.getElem?_cons_zero, List.getElem?_cons_succ, idx, wrap_id, fewP, hf, hl])
    · have hl' : ¬ (l.length : Int) ≤ 40 := by omega
      simp -implicitDefEqProofs (disch := omega) [List.getElem?_cons_zero, List.getElem?_cons_succ, wrap_id, hl']
      (refine fin0 trivial rfl ?_; simp -implicitDefEqProofs (disch := omega) [List.getElem?_cons_zero, List.getElem?_cons_succ, idx, wrap_id, fewP, hf, hl])
theorem fewP_nil (g h : Gr) (m : Mo) : fewP g h m [] = fewM g h m := by simp [fewP]
theorem lfew520_ok (g h : Gr) (m : Mo) : PC Try.prog 10 [EnP g h, MoP m, .nil] (.b (fewM g h m)) [] := by
  have := lfew52_ok g h m []
  rw [fewP_nil] at this
  exact PC_le this fun S w vs hv => ⟨hv.1, fun i hi hi' => by
    match i, hi, hi' with
    | 0, _, hi' => exact hv.2 0 (Nat.zero_lt_succ _) hi'
    | 1, _, hi' => exact hv.2 1 (Nat.succ_lt_succ (Nat.zero_lt_succ _)) hi'
    | 2, _, hi' => exact RP_nil (hv.2 2 (Nat.succ_lt_succ (Nat.succ_lt_succ (Nat.zero_lt_succ _))) hi')⟩
theorem fewP_sm {g h : Gr} {m : Mo} {l : List Int} (hf : fewP g h m l = true) : Sm g h m ∧ l.length ≤ 40 ∧ fewM g h m = true := by
  simp only [fewP, Bool.and_eq_true, decide_eq_true_eq] at hf
  exact ⟨few_sm hf.1, hf.2, hf.1⟩
def big52 (k : Int) : Bool := decide (k < -1000) || decide (1000 < k)
theorem right1_ok (k : Int) : PC Try.prog 53 [.i k] (.b (big52 k)) [] := by
  refine PC_of_W cfn53 ?_
  by_cases h1 : k < -1000
  · simp -implicitDefEqProofs (disch := omega) [c53, List.getElem?_cons_zero, List.getElem?_cons_succ, wrap_id, h1]
    (refine fin0 trivial rfl ?_; simp -implicitDefEqProofs (disch := omega) [List.getElem?_cons_zero, List.getElem?_cons_succ, idx, wrap_id, big52, h1])
  · simp -implicitDefEqProofs (disch := omega) [c53, List.getElem?_cons_zero, List.getElem?_cons_succ, wrap_id, h1]
    (refine fin0 trivial rfl ?_; simp -implicitDefEqProofs (disch := omega) [List.getElem?_cons_zero, List.getElem?_cons_succ, idx, wrap_id, big52, h1])
def rightP (g h : Gr) (m : Mo) (d : List Int) (n : Int) : Bool := fewP g h m d && decide (degE g h m = 0) && decide ((d.length : Int) = n) && !(d.any big52)
theorem right52_ok (g h : Gr) (m : Mo) (d : List Int) (n : Int) : PC Try.prog 22 [EnP g h, MoP m, .is d, .i n] (.b (rightP g h m d n)) [] := by
  refine PC_of_W cfn22 ?_
  simp -implicitDefEqProofs (disch := omega) [c22, List.getElem?_cons_zero, List.getElem?_cons_succ, wrap_id]
  refine HC_of_PC rfl (lfew52_ok g h m d) ?_
  cases hf : fewP g h m d
  · simp -implicitDefEqProofs (disch := omega) [List.getElem?_cons_zero, List.getElem?_cons_succ, wrap_id]
    (refine fin0 trivial rfl ?_; simp -implicitDefEqProofs (disch := omega) [List.getElem?_cons_zero, List.getElem?_cons_succ, idx, wrap_id, rightP, hf])
  obtain ⟨hs, hl, -⟩ := fewP_sm hf
  simp -implicitDefEqProofs (disch := omega) [List.getElem?_cons_zero, List.getElem?_cons_succ, wrap_id]
  refine HC_of_PC rfl (given52_ok g h m hs) ?_
  by_cases h1 : degE g h m = 0
  rotate_left
  · simp -implicitDefEqProofs (disch := omega) [List.getElem?_cons_zero, List.getElem?_cons_succ, wrap_id, h1]
    (refine fin0 trivial rfl ?_; simp -implicitDefEqProofs (disch := omega) [List.getElem?_cons_zero, List.getElem?_cons_succ, idx, wrap_id, rightP, hf, h1])
  by_cases h2 : (d.length : Int) = n
  rotate_left
  · simp -implicitDefEqProofs (disch := omega) [List.getElem?_cons_zero, List.getElem?_cons_succ, wrap_id, h1, h2]
    (refine fin0 trivial rfl ?_; simp -implicitDefEqProofs (disch := omega) [List.getElem?_cons_zero, List.getElem?_cons_succ, idx, wrap_id, rightP, hf, h1, h2])
  simp -implicitDefEqProofs (disch := omega) [List.getElem?_cons_zero, List.getElem?_cons_succ, wrap_id, h1, h2]
  refine hasfI_ok (p := big52) d (by omega) (by kernel_rfl) (fun k _ K hK => HC_of_PC rfl (right1_ok k) (by simpa [hpast, calmA, calmP, AV.ren] using hK)) ?_
  simp -implicitDefEqProofs (disch := omega) [List.getElem?_cons_zero, List.getElem?_cons_succ, wrap_id]
  (refine fin0 trivial rfl ?_; simp -implicitDefEqProofs (disch := omega) [List.getElem?_cons_zero, List.getElem?_cons_succ, idx, wrap_id, rightP, hf, h1, h2])
theorem pu_zero {e1 e2 : Int} {L : List Int} (h : puE e1 e2 L = 0) : e1 = 0 ∧ e2 = 0 ∧ bndE L = 0 := by
  by_cases h1 : e1 = 0
  · by_cases h2 : e2 = 0
    · rw [pu_3 h1 h2] at h; exact ⟨h1, h2, h⟩
    · rw [pu_2 h1 h2] at h; exact absurd h h2
  · rw [pu_1 h1] at h; exact absurd h h1
theorem deg_n {g h : Gr} {m : Mo} (h1 : degE g h m = 0) : ∃ n k : Nat, Cov g h m n k ∧ g.1 = n ∧ h.1 = k ∧ n ≤ 12 ∧ k ≤ 12 ∧ 1 ≤ n ∧ 1 ≤ k ∧ harmM g h m = true := by
  obtain ⟨hc, hh⟩ := deg_ok h1
  obtain ⟨n, k, c⟩ := cov_of hc
  have := c.n12
  exact ⟨n, k, c, c.gn, c.hk, by omega, by omega, by omega, by omega, hh⟩
theorem pushL_len {g h : Gr} {m : Mo} {b : Bool} {d : List Int} {e2 : Int} (hz : puE (degE g h m) e2 (pushL g h m b d) = 0) : (pushL g h m b d).length ≤ 4611686018427387904 := by
  obtain ⟨n, k, c, h1, h2, h3, h4, _⟩ := deg_n (pu_zero hz).1
  simp only [pushL, sumF, lsF_len]
  omega
theorem pullL_len {g h : Gr} {m : Mo} {b : Bool} {d : List Int} {e2 : Int} (hz : puE (degE g h m) e2 (pullL g h m b d) = 0) : (pullL g h m b d).length ≤ 4611686018427387904 := by
  obtain ⟨n, k, c, h1, h2, h3, h4, _⟩ := deg_n (pu_zero hz).1
  simp only [pullL, lifF, lsF_len]
  omega
theorem ramF_len {g h : Gr} {m : Mo} (hz : degE g h m = 0) : (ramF g h m g.1.toNat).length ≤ 4611686018427387904 := by
  obtain ⟨n, k, c, h1, h2, h3, h4, _⟩ := deg_n hz
  simp only [ramF, lsF_len]
  omega
theorem pu_at {e1 e2 : Int} {L L' : List Int} (h : puE e1 e2 L = 0 ∧ L = L') : puR e1 e2 L = .tup [.p (.is L'), .i 0] := by
  obtain ⟨h, rfl⟩ := h
  rw [puR, puP, h]; rfl
theorem aw1 : puE (degE sqG sqH sqM) (dcheck [1, 2, 3, 4] sqG.1) (pushL sqG sqH sqM false [1, 2, 3, 4]) = 0 ∧ pushL sqG sqH sqM false [1, 2, 3, 4] = [4, 6] := by decide +kernel
theorem aw2 : puE (degE sqG sqH sqM) (dcheck [5, -1] sqH.1) (pullL sqG sqH sqM true [5, -1]) = 0 ∧ pullL sqG sqH sqM true [5, -1] = [5, -1, 5, -1] := by decide +kernel
theorem aw3 : puE (degE sqG sqH sqM) (dcheck [-2, 1, 0, 1] sqG.1) (pushL sqG sqH sqM false [-2, 1, 0, 1]) = 0 ∧ pushL sqG sqH sqM false [-2, 1, 0, 1] = [-2, 2] := by decide +kernel
theorem aw4 : huL sqG sqH sqM = 0 ∧ huR sqG sqH sqM = 0 ∧ degE sqG sqH sqM = 0 := by decide +kernel
theorem aw5 : ramF stG stH stM stG.1.toNat = [4, 0, 0, 0] ∧ degE stG stH stM = 0 := by decide +kernel
theorem aw6 : huL stG stH stM = -2 ∧ huR stG stH stM = -2 := by decide +kernel
theorem aw7 : puE (degE stG stH stM) (dcheck [1, 2, 0, 0] stG.1) (pushL stG stH stM true [1, 2, 0, 0]) = 0 ∧ pushL stG stH stM true [1, 2, 0, 0] = [3, 2] := by decide +kernel
set_option maxRecDepth 10000 in
theorem awake52_ok : PC Try.prog 11 [] (.b true) [] := by
  have s1 : Sm sqG sqH sqM := by constructor <;> decide
  have s3 : Sm stG stH stM := by constructor <;> decide
  have c1 := push_ok sqG sqH sqM s1 [1, 2, 3, 4] (by decide)
  rw [pu_at aw1] at c1
  have c2 := pull_ok sqG sqH sqM s1 [5, -1] (by decide)
  rw [pu_at aw2] at c2
  have c3 := push_ok sqG sqH sqM s1 [-2, 1, 0, 1] (by decide)
  rw [pu_at aw3] at c3
  have c4 := hurwitz_ok sqG sqH sqM s1
  rw [aw4.1, aw4.2.1, aw4.2.2] at c4
  have c5 := ramif_ok stG stH stM s3
  rw [aw5.1, aw5.2] at c5
  have c6 := hurwitz_ok stG stH stM s3
  rw [aw6.1, aw6.2, aw5.2] at c6
  have c7 := pushS_ok stG stH stM s3 [1, 2, 0, 0] (by decide)
  rw [pu_at aw7] at c7
  refine PC_of_W cfn11 ?_
  simp -implicitDefEqProofs (disch := omega) [c11, List.getElem?_cons_zero, List.getElem?_cons_succ, wrap_id]
  refine HC_of_PC rfl (square_ok) ?_
  simp -implicitDefEqProofs (disch := omega) [List.getElem?_cons_zero, List.getElem?_cons_succ, wrap_id]
  refine HC_of_PC rfl (c1) ?_
  simp -implicitDefEqProofs (disch := omega) [List.getElem?_cons_zero, List.getElem?_cons_succ, wrap_id]
  refine HC_of_PC rfl (c2) ?_
  simp -implicitDefEqProofs (disch := omega) [List.getElem?_cons_zero, List.getElem?_cons_succ, wrap_id]
  refine HC_of_PC rfl (c3) ?_
  simp -implicitDefEqProofs (disch := omega) [List.getElem?_cons_zero, List.getElem?_cons_succ, wrap_id]
  refine HC_of_PC rfl (c4) ?_
  simp -implicitDefEqProofs (disch := omega) [List.getElem?_cons_zero, List.getElem?_cons_succ, wrap_id]
  refine HC_of_PC rfl (eqD_ok [4, 6] [4, 6] (by decide)) ?_
  simp -implicitDefEqProofs (disch := omega) [List.getElem?_cons_zero, List.getElem?_cons_succ, wrap_id]
  refine HC_of_PC rfl (eqD_ok [5, -1, 5, -1] [5, -1, 5, -1] (by decide)) ?_
  simp -implicitDefEqProofs (disch := omega) [List.getElem?_cons_zero, List.getElem?_cons_succ, wrap_id]
  refine HC_of_PC rfl (eqD_ok [-2, 2] [-2, 2] (by decide)) ?_
  simp -implicitDefEqProofs (disch := omega) [List.getElem?_cons_zero, List.getElem?_cons_succ, wrap_id]
  refine HC_of_PC rfl (c5) ?_
  simp -implicitDefEqProofs (disch := omega) [List.getElem?_cons_zero, List.getElem?_cons_succ, wrap_id]
  refine HC_of_PC rfl (c6) ?_
  simp -implicitDefEqProofs (disch := omega) [List.getElem?_cons_zero, List.getElem?_cons_succ, wrap_id]
  refine HC_of_PC rfl (c7) ?_
  simp -implicitDefEqProofs (disch := omega) [List.getElem?_cons_zero, List.getElem?_cons_succ, wrap_id]
  refine HC_of_PC rfl (eqD_ok [4, 0, 0, 0] [4, 0, 0, 0] (by decide)) ?_
  simp -implicitDefEqProofs (disch := omega) [List.getElem?_cons_zero, List.getElem?_cons_succ, wrap_id]
  refine HC_of_PC rfl (eqS_ok [3, 2] [3, 2] (by decide)) ?_
  simp -implicitDefEqProofs (disch := omega) [List.getElem?_cons_zero, List.getElem?_cons_succ, wrap_id]
  (refine fin0 trivial rfl ?_; simp -implicitDefEqProofs (disch := omega) [List.getElem?_cons_zero, List.getElem?_cons_succ, idx, wrap_id])
end Go.Proofs.Ytddgepjmfnodhaa
