/-
  Contracts: graphs that are connected, without loops.
-/
import Derived.Test.YtddgepjmfnodhaaMua
import Derived.Test.YtddgepjmfnodhaaGn
import Derived.Test.YtddgepjmfnodhaaMra
import Derived.Test.YtddgepjmfnodhaaMac
set_option linter.unusedSimpArgs false
set_option linter.unusedVariables false
namespace Go.Proofs.Ytddgepjmfnodhaa
open Go.Abs Go.Sand

def connE (N : Int) (es : List Ed) : Int := if gcheck N es ≠ 0 then gcheck N es else if partsN es N.toNat = 1 then 0 else 13
def loopsB (es : List Ed) : Bool := (endsL es).any fun p => decide (p.1 = p.2)
def graphE (N : Int) (es : List Ed) : Int := if connE N es ≠ 0 then connE N es else if loopsB es = true then 3 else 0
theorem conn_good {N : Int} {es : List Ed} (h : connE N es = 0) : gcheck N es = 0 ∧ partsN es N.toNat = 1 := by
  unfold connE at h
  split at h
  · rename_i h1; exact absurd h h1
  · rename_i h1
    split at h
    · rename_i h2; exact ⟨Decidable.not_not.1 h1, h2⟩
    · cases h
theorem rconn_ok (n : Nat) (es : List Ed) (hn : n ≤ 12) (hr : ∀ x ∈ es, Right n x) (hel : es.length ≤ 900) : PC Try.prog 116 [G n es] (.b (decide (partsN es n = 1))) [] := by
  have hq : (((partsN es n : Nat) : Int) = 1) = (partsN es n = 1) := by simp only [eq_iff_iff]; omega
  refine PC_of_W cfn116 ?_
  simp -implicitDefEqProofs (disch := omega) [c116, List.getElem?_cons_zero, List.getElem?_cons_succ, wrap_id]
  refine HC_of_PC rfl (rparts_ok n es hn hr hel) ?_
  simp -implicitDefEqProofs (disch := omega) [List.getElem?_cons_zero, List.getElem?_cons_succ, wrap_id]
  (refine fin0 trivial rfl ?_; simp -implicitDefEqProofs (disch := omega) [List.getElem?_cons_zero, List.getElem?_cons_succ, idx, wrap_id, hq])
theorem rjoined_ok (N : Int) (es : List Ed) (hel : es.length ≤ 900) : PC Try.prog 111 [G N es] (.i (connE N es)) [] := by
  refine PC_of_W cfn111 ?_
  simp -implicitDefEqProofs (disch := omega) [c111, List.getElem?_cons_zero, List.getElem?_cons_succ, wrap_id]
  refine HC_of_PC rfl (rcheck_ok N es (by omega)) ?_
  by_cases hg : gcheck N es = 0
  · have hgg := gcheck_ok hg
    have h1 := hgg.n1
    have h12 := hgg.n12
    obtain ⟨n, rfl⟩ : ∃ n : Nat, N = n := ⟨N.toNat, by omega⟩
    simp -implicitDefEqProofs (disch := omega) [List.getElem?_cons_zero, List.getElem?_cons_succ, wrap_id, hg]
    refine HC_of_PC rfl (rconn_ok n es (by omega) hgg.right hel) ?_
    by_cases hp : partsN es n = 1
    · simp -implicitDefEqProofs (disch := omega) [List.getElem?_cons_zero, List.getElem?_cons_succ, wrap_id, hp]
      (refine fin0 trivial rfl ?_; simp -implicitDefEqProofs (disch := omega) [List.getElem?_cons_zero, List.getElem?_cons_succ, idx, wrap_id, connE, hg, hp])
    · simp -implicitDefEqProofs (disch := omega) [List.getElem?_cons_zero, List.getElem?_cons_succ, wrap_id, hp]
      (refine fin0 trivial rfl ?_; simp -implicitDefEqProofs (disch := omega) [List.getElem?_cons_zero, List.getElem?_cons_succ, idx, wrap_id, connE, hg, hp])
  · simp -implicitDefEqProofs (disch := omega) [List.getElem?_cons_zero, List.getElem?_cons_succ, wrap_id, hg]
    (refine fin0 trivial rfl ?_; simp -implicitDefEqProofs (disch := omega) [List.getElem?_cons_zero, List.getElem?_cons_succ, idx, wrap_id, connE, hg])
theorem loops_betw {n : Nat} {es : List Ed} (hg : GoodG n es) : loopsB es = true ↔ ∃ v : Nat, v < n ∧ 0 < betw es v v := by
  have hm : ∀ x ∈ es, 1 ≤ x.m := fun x hx => (hg.right x hx).m1
  unfold loopsB endsL
  simp only [List.any_eq_true, List.mem_flatMap, List.mem_replicate, decide_eq_true_eq]
  constructor
  · rintro ⟨p, ⟨x, hx, _, rfl⟩, h⟩
    have r := hg.right x hx
    have h0 := r.a0
    have h1 := r.an
    simp only at h
    exact ⟨x.a.toNat, by omega, (betw_pos hm _ _).2 ⟨x, hx, by omega, by omega⟩⟩
  · rintro ⟨v, hv, h⟩
    obtain ⟨x, hx, h1, h2⟩ := (betw_pos hm _ _).1 h
    have := hm x hx
    exact ⟨(x.a, x.b), ⟨x, hx, by omega, rfl⟩, by simp only; omega⟩
theorem rgraph_ok (N : Int) (es : List Ed) (hel : es.length ≤ 900) : PC Try.prog 100 [G N es] (.i (graphE N es)) [] := by
  refine PC_of_W cfn100 ?_
  simp -implicitDefEqProofs (disch := omega) [c100, List.getElem?_cons_zero, List.getElem?_cons_succ, wrap_id]
  refine HC_of_PC rfl (rjoined_ok N es hel) ?_
  by_cases hc : connE N es = 0
  · obtain ⟨hg, _⟩ := conn_good hc
    have hgg := gcheck_ok hg
    have h1 := hgg.n1
    have h12 := hgg.n12
    obtain ⟨n, rfl⟩ : ∃ n : Nat, N = n := ⟨N.toNat, by omega⟩
    simp -implicitDefEqProofs (disch := omega) [List.getElem?_cons_zero, List.getElem?_cons_succ, wrap_id, hc]
    have hlb := loops_betw hgg
    refine loopW n (fun k s => s = ⟨[(4, .i k), (1, .ptr 0 1 0 0)], [.box (.p (G n es))]⟩ ∧ ∀ v : Nat, v < k → betw es v v ≤ 0) (wk_norm [0] [4, 1] rfl rfl) ⟨rfl, fun v h => by omega⟩ ?_
    rintro k s hk ⟨rfl, hI⟩
    by_cases hlt : k < n
    · simp -implicitDefEqProofs (disch := omega) [List.getElem?_cons_zero, List.getElem?_cons_succ, wrap_id, hlt]
      refine HC_of_PC rfl (rbetw_ok n k k es (by omega)) ?_
      by_cases hp : 0 < betw es k k
      · have hl : loopsB es = true := hlb.2 ⟨k, hlt, hp⟩
        simp -implicitDefEqProofs (disch := omega) [List.getElem?_cons_zero, List.getElem?_cons_succ, wrap_id, hp]
        (refine fin0 trivial rfl ?_; simp -implicitDefEqProofs (disch := omega) [List.getElem?_cons_zero, List.getElem?_cons_succ, idx, wrap_id, graphE, hc, hl])
      · simp -implicitDefEqProofs (disch := omega) [List.getElem?_cons_zero, List.getElem?_cons_succ, wrap_id, hp]
        exact round_end [0] [4, 1] hlt rfl ⟨rfl, fun v hv => by
          by_cases e : v = k
          · rw [e]; omega
          · exact hI v (by omega)⟩
    · have hl : loopsB es = false := by
        cases h : loopsB es
        · rfl
        · obtain ⟨v, hv, h2⟩ := hlb.1 h
          have := hI v (by omega)
          omega
      simp -implicitDefEqProofs (disch := omega) [List.getElem?_cons_zero, List.getElem?_cons_succ, wrap_id, hlt]
      (refine fin0 trivial rfl ?_; simp -implicitDefEqProofs (disch := omega) [List.getElem?_cons_zero, List.getElem?_cons_succ, idx, wrap_id, graphE, hc, hl])
  · simp -implicitDefEqProofs (disch := omega) [List.getElem?_cons_zero, List.getElem?_cons_succ, wrap_id, hc]
    (refine fin0 trivial rfl ?_; simp -implicitDefEqProofs (disch := omega) [List.getElem?_cons_zero, List.getElem?_cons_succ, idx, wrap_id, graphE, hc])
def graphsE (N : Int) (es : List Ed) (M : Int) (fs : List Ed) : Int := if graphE N es ≠ 0 then graphE N es else graphE M fs
theorem rgraphs_ok (N M : Int) (es fs : List Ed) (hel : es.length ≤ 900) (hfl : fs.length ≤ 900) : PC Try.prog 80 [G N es, G M fs] (.i (graphsE N es M fs)) [] := by
  refine PC_of_W cfn80 ?_
  simp -implicitDefEqProofs (disch := omega) [c80, List.getElem?_cons_zero, List.getElem?_cons_succ, wrap_id]
  refine HC_of_PC rfl (rgraph_ok N es hel) ?_
  by_cases h : graphE N es = 0
  · simp -implicitDefEqProofs (disch := omega) [List.getElem?_cons_zero, List.getElem?_cons_succ, wrap_id, h]
    refine HC_of_PC rfl (rgraph_ok M fs hfl) ?_
    simp -implicitDefEqProofs (disch := omega) [List.getElem?_cons_zero, List.getElem?_cons_succ, wrap_id]
    (refine fin0 trivial rfl ?_; simp -implicitDefEqProofs (disch := omega) [List.getElem?_cons_zero, List.getElem?_cons_succ, idx, wrap_id, graphsE, h])
  · simp -implicitDefEqProofs (disch := omega) [List.getElem?_cons_zero, List.getElem?_cons_succ, wrap_id, h]
    (refine fin0 trivial rfl ?_; simp -implicitDefEqProofs (disch := omega) [List.getElem?_cons_zero, List.getElem?_cons_succ, idx, wrap_id, graphsE, h])

theorem plain1_ok (p : Int × Int) : PC Try.prog 106 [pP p] (.b (decide (p.1 = p.2))) [] := by
  refine PC_of_W cfn106 ?_
  simp -implicitDefEqProofs (disch := omega) [c106, List.getElem?_cons_zero, List.getElem?_cons_succ, wrap_id]
  (refine fin0 trivial rfl ?_; simp -implicitDefEqProofs (disch := omega) [List.getElem?_cons_zero, List.getElem?_cons_succ, idx, wrap_id])
section
variable {f : FuncId} {H : List AO} {p : Int × Int → Bool} {R : AV → List AO → Prop}
theorem idxfP_ok (xs : List (Int × Int)) (hx : xs.length ≤ 4611686018427387904) (hc : callable Try.prog f = true) (hf : ∀ q K, K (.b (p q)) H → HC Try.prog false f [.p (pP q)] H K) (hR : ∀ i : Int, (0 ≤ i ↔ xs.any p = true) → R (.i i) H) :
    HC Try.prog false 114 [.p (.ps xs), .fn (.func f) [] []] H R := by
  refine HC_of_W (af := _) ((by exact cfn114 : cfn _ _ _ = some _)) ?_
  simp -implicitDefEqProofs (disch := omega) [c114, List.getElem?_cons_zero, List.getElem?_cons_succ, wrap_id]
  refine loopW xs.length (fun k s => s = ⟨[(8, .i k), (7, .i xs.length), (0, .p (.ps xs)), (1, .fn (.func f) [] [])], H⟩ ∧ xs.any p = (xs.drop k).any p) (Wk_keep [8, 7, 0, 1]) ⟨rfl, rfl⟩ ?_
  rintro k s hk ⟨rfl, hI⟩
  by_cases hlt : k < xs.length
  · have hd : (xs.drop k).any p = (p xs[k] || (xs.drop (k + 1)).any p) := by rw [List.drop_eq_getElem_cons hlt, List.any_cons]
    simp -implicitDefEqProofs (disch := omega) [List.getElem?_cons_zero, List.getElem?_cons_succ, wrap_id, hlt]
    refine ⟨hc, ?_⟩
    refine hf _ _ ?_
    cases hv : p xs[k]
    · rw [hv] at hd
      simp -implicitDefEqProofs (disch := omega) [List.getElem?_cons_zero, List.getElem?_cons_succ, wrap_id]
      exact round_keep [8, 7, 0, 1] hlt ⟨rfl, by rw [hI, hd]; rfl⟩
    · rw [hv] at hd
      simp -implicitDefEqProofs (disch := omega) [List.getElem?_cons_zero, List.getElem?_cons_succ, wrap_id]
      exact finH trivial rfl (hR _ (by rw [hI, hd]; simp))
  · simp -implicitDefEqProofs (disch := omega) [List.getElem?_cons_zero, List.getElem?_cons_succ, wrap_id, hlt]
    exact finH trivial rfl (hR _ (by rw [hI, List.drop_of_length_le (Nat.le_of_not_lt hlt)]; simp))
theorem hasfP_ok (xs : List (Int × Int)) (hx : xs.length ≤ 4611686018427387904) (hc : callable Try.prog f = true) (hf : ∀ q K, K (.b (p q)) H → HC Try.prog false f [.p (pP q)] H K) (hR : R (.b (xs.any p)) H) :
    HC Try.prog false 105 [.p (.ps xs), .fn (.func f) [] []] H R := by
  refine HC_of_W (af := _) ((by exact cfn105 : cfn _ _ _ = some _)) ?_
  simp -implicitDefEqProofs (disch := omega) [c105, List.getElem?_cons_zero, List.getElem?_cons_succ, wrap_id]
  refine idxfP_ok xs hx hc hf fun i hi => ?_
  by_cases h : 0 ≤ i
  · have hxs := hi.1 h
    rw [hxs] at hR
    simp -implicitDefEqProofs (disch := omega) [List.getElem?_cons_zero, List.getElem?_cons_succ, wrap_id, h]
    exact finH trivial rfl hR
  · have hxs : xs.any p = false := by
      cases hv : xs.any p
      · rfl
      · exact absurd (hi.2 hv) h
    rw [hxs] at hR
    simp -implicitDefEqProofs (disch := omega) [List.getElem?_cons_zero, List.getElem?_cons_succ, wrap_id, h]
    exact finH trivial rfl hR
end
theorem endsL_len9 {n : Int} {es : List Ed} (hr : ∀ x ∈ es, Right n x) (hel : es.length ≤ 900) : (endsL es).length ≤ 45000 := by
  have := endsL_len hr
  omega
theorem plain_ok (N : Int) (es : List Ed) (hel : es.length ≤ 900) : PC Try.prog 90 [G N es] (.tup [.p (if graphE N es = 0 then .ps (endsL es) else .nil), .i (graphE N es)]) [] := by
  refine PC_of_W cfn90 ?_
  simp -implicitDefEqProofs (disch := omega) [c90, List.getElem?_cons_zero, List.getElem?_cons_succ, wrap_id]
  by_cases hg : gcheck N es = 0
  · have hgg := gcheck_ok hg
    have h1 := hgg.n1
    have h12 := hgg.n12
    obtain ⟨n, rfl⟩ : ∃ n : Nat, N = n := ⟨N.toNat, by omega⟩
    refine HC_of_PC rfl (connected_ok n es hel hg) ?_
    by_cases hp : (rootsL es n).length = 1
    · have hc : connE n es = 0 := by rw [connE, if_neg (by simp [hg]), if_pos (by simpa [partsN] using hp)]
      simp -implicitDefEqProofs (disch := omega) [List.getElem?_cons_zero, List.getElem?_cons_succ, wrap_id, hp]
      refine HC_of_PC rfl (gends_ok n es (by omega) hg) ?_
      simp -implicitDefEqProofs (disch := omega) [List.getElem?_cons_zero, List.getElem?_cons_succ, wrap_id, hg]
      have hel9 := endsL_len9 hgg.right hel
      refine hasfP_ok (p := fun q => decide (q.1 = q.2)) (endsL es) (by omega) (by kernel_rfl) (fun q K hK => HC_of_PC rfl (plain1_ok q) hK) ?_
      cases hl : loopsB es
      · have hl' := hl
        unfold loopsB at hl'
        simp -implicitDefEqProofs (disch := omega) [List.getElem?_cons_zero, List.getElem?_cons_succ, wrap_id, hl']
        (refine fin0 trivial rfl ?_; simp -implicitDefEqProofs (disch := omega) [List.getElem?_cons_zero, List.getElem?_cons_succ, idx, wrap_id, graphE, hc, hl])
      · have hl' := hl
        unfold loopsB at hl'
        simp -implicitDefEqProofs (disch := omega) [List.getElem?_cons_zero, List.getElem?_cons_succ, wrap_id, hl']
        (refine fin0 trivial rfl ?_; simp -implicitDefEqProofs (disch := omega) [List.getElem?_cons_zero, List.getElem?_cons_succ, idx, wrap_id, graphE, hc, hl])
    · have hc : connE n es = 13 := by rw [connE, if_neg (by simp [hg]), if_neg (by simpa [partsN] using hp)]
      simp -implicitDefEqProofs (disch := omega) [List.getElem?_cons_zero, List.getElem?_cons_succ, wrap_id, hp]
      (refine fin0 trivial rfl ?_; simp -implicitDefEqProofs (disch := omega) [List.getElem?_cons_zero, List.getElem?_cons_succ, idx, wrap_id, graphE, hc])
  · have hc : connE N es = gcheck N es := by rw [connE, if_pos hg]
    refine HC_of_PC rfl (connected_err N es hel hg) ?_
    simp -implicitDefEqProofs (disch := omega) [List.getElem?_cons_zero, List.getElem?_cons_succ, wrap_id, hg]
    (refine fin0 trivial rfl ?_; simp -implicitDefEqProofs (disch := omega) [List.getElem?_cons_zero, List.getElem?_cons_succ, idx, wrap_id, graphE, hc, hg])
end Go.Proofs.Ytddgepjmfnodhaa
/-
  Contracts: package slices over ints: Index, Contains, Equal.
-/
set_option linter.unusedSimpArgs false
namespace Go.Proofs.Ytddgepjmfnodhaa
open Go.Abs Go.Sand

theorem first_at : ∀ (xs : List Int) (v : Int), v ∈ xs → ∃ i, ∃ h : i < xs.length, xs[i] = v ∧ ∀ j, ∀ hj : j < i, xs[j] ≠ v
  | x :: xs, v, h => by
    by_cases e : x = v
    · exact ⟨0, by simp, e, fun j hj => by omega⟩
    · obtain ⟨i, hi, h1, h2⟩ := first_at xs v ((List.mem_cons.1 h).resolve_left fun h => e h.symm)
      refine ⟨i + 1, by simpa using hi, h1, fun j hj => ?_⟩
      cases j with
      | zero => exact e
      | succ j => exact h2 j (by omega)
theorem index_ok (xs : List Int) (v : Int) (hx : xs.length ≤ 4611686018427387904) : ∃ i : Int, (0 ≤ i ↔ v ∈ xs) ∧ PC Try.prog 112 [.is xs, .i v] (.i i) [] := by
  by_cases hm : v ∈ xs
  · obtain ⟨i, hi, hv, hlo⟩ : ∃ i, ∃ h : i < xs.length, xs[i] = v ∧ ∀ j, ∀ hj : j < i, xs[j] ≠ v := first_at xs v hm
    refine ⟨i, by simp [hm], ?_⟩
    refine PC_of_W cfn112 ?_
    simp -implicitDefEqProofs (disch := omega) [c112, List.getElem?_cons_zero, List.getElem?_cons_succ, wrap_id]
    refine loopW xs.length (fun k s => s = ⟨[(8, .i k), (7, .i xs.length), (6, .p (.is xs)), (0, .p (.is xs)), (1, .i v)], []⟩ ∧ k ≤ i) (Wk_keep [8, 7, 6, 0, 1]) ⟨rfl, by omega⟩ ?_
    rintro k s hk ⟨rfl, hI⟩
    have hlt : k < xs.length := by omega
    by_cases hki : k = i
    · subst hki
      simp -implicitDefEqProofs (disch := omega) [List.getElem?_cons_zero, List.getElem?_cons_succ, wrap_id, hlt, hv]
      (refine fin0 trivial rfl ?_; simp -implicitDefEqProofs (disch := omega) [List.getElem?_cons_zero, List.getElem?_cons_succ, idx, wrap_id])
    · have hne := hlo k (by omega)
      have hne' : ¬ v = xs[k] := fun h => hne h.symm
      simp -implicitDefEqProofs (disch := omega) [List.getElem?_cons_zero, List.getElem?_cons_succ, wrap_id, hlt, hne']
      exact round_keep [8, 7, 6, 0, 1] hlt ⟨rfl, by omega⟩
  · refine ⟨-1, by simp [hm], ?_⟩
    refine PC_of_W cfn112 ?_
    simp -implicitDefEqProofs (disch := omega) [c112, List.getElem?_cons_zero, List.getElem?_cons_succ, wrap_id]
    refine loopW xs.length (fun k s => s = ⟨[(8, .i k), (7, .i xs.length), (6, .p (.is xs)), (0, .p (.is xs)), (1, .i v)], []⟩) (Wk_keep [8, 7, 6, 0, 1]) rfl ?_
    rintro k s hk rfl
    by_cases hlt : k < xs.length
    · have hne' : ¬ v = xs[k] := fun h => hm (h ▸ List.getElem_mem hlt)
      simp -implicitDefEqProofs (disch := omega) [List.getElem?_cons_zero, List.getElem?_cons_succ, wrap_id, hlt, hne']
      exact round_keep [8, 7, 6, 0, 1] hlt rfl
    · simp -implicitDefEqProofs (disch := omega) [List.getElem?_cons_zero, List.getElem?_cons_succ, wrap_id, hlt]
      (refine fin0 trivial rfl ?_; simp -implicitDefEqProofs (disch := omega) [List.getElem?_cons_zero, List.getElem?_cons_succ, idx, wrap_id])
theorem contains_ok (xs : List Int) (v : Int) (hx : xs.length ≤ 4611686018427387904) : PC Try.prog 102 [.is xs, .i v] (.b (decide (v ∈ xs))) [] := by
  obtain ⟨i, hi, hc⟩ := index_ok xs v hx
  refine PC_of_W cfn102 ?_
  simp -implicitDefEqProofs (disch := omega) [c102, List.getElem?_cons_zero, List.getElem?_cons_succ, wrap_id]
  refine HC_of_PC rfl (hc) ?_
  simp -implicitDefEqProofs (disch := omega) [List.getElem?_cons_zero, List.getElem?_cons_succ, wrap_id]
  (refine fin0 trivial rfl ?_; simp -implicitDefEqProofs (disch := omega) [List.getElem?_cons_zero, List.getElem?_cons_succ, idx, wrap_id, hi])
end Go.Proofs.Ytddgepjmfnodhaa
/-
  Contracts: several graphs at once; a right morphism.
-/
set_option linter.unusedSimpArgs false
set_option linter.unusedVariables false
namespace Go.Proofs.Ytddgepjmfnodhaa
open Go.Abs Go.Sand

abbrev Gr := Int × List Ed
/-- The first error. -/
def errsE : List Gr → Int
  | [] => 0
  | g :: gs => if graphE g.1 g.2 ≠ 0 then graphE g.1 g.2 else errsE gs
theorem allOne_p (l : List PV) (h : ∀ e ∈ l, e.one = true) : allOne (l.map AV.p) = some l := by
  unfold allOne
  rw [allP_map]
  dsimp only
  rw [if_pos (List.all_eq_true.2 h)]
theorem errs_drop (gs : List Gr) (k : Nat) (h : k < gs.length) : errsE (gs.drop k) = if graphE gs[k].1 gs[k].2 ≠ 0 then graphE gs[k].1 gs[k].2 else errsE (gs.drop (k + 1)) := by rw [List.drop_eq_getElem_cons h, errsE]
abbrev GrP (g : Gr) : PV := G g.1 g.2
abbrev endP (g : Gr) : PV := .ps (endsL g.2)
theorem renL_p {H : List AO} {ρ : Nat → Option Nat} : ∀ {l : List AV}, (∀ x ∈ l, ∃ q, x = .p q) → renL H ρ l = l
  | [], _ => rfl
  | x :: l, h => by
    obtain ⟨q, rfl⟩ := h x (by simp)
    rw [renL, renL_p (fun y hy => h y (by simp [hy])), AV.ren]
theorem norm_tab {els : List AV} {t : TypeId} {fz : Bool} {Hr : List AO} {keep : List Nat} {T : List (Nat × AV)} (h : ∀ x ∈ els, ∃ q, x = .p q) : norm [0] keep ⟨T, .tab els t fz :: Hr⟩ = ⟨keep.map fun i => (i, (Abs.get T i).ren (.tab els t fz :: Hr) (Abs.idx [0] 0)), [.tab els t fz]⟩ := by
  simp [norm, AO.ren, renL_p h]
theorem ren0_p {H : List AO} {ρ : Nat → Option Nat} {l : List AV} (h : ∀ x ∈ l, ∃ q, x = .p q) : l.map (ren0 H ρ) = l := by
  conv => rhs; rw [← List.map_id l]
  refine List.map_congr_left fun x hx => ?_
  obtain ⟨q, rfl⟩ := h x hx
  rfl
theorem graphs_ok (gs : List Gr) (h0 : gs ≠ []) (hgl : gs.length ≤ 1000) (hel : ∀ g ∈ gs, g.2.length ≤ 900) : PC Try.prog 59 [.sl (gs.map GrP)] (.tup [.p (if errsE gs = 0 then .sl (gs.map endP) else .nil), .i (errsE gs)]) [] := by
  have hpp : ∀ (k : Nat) (x : AV), x ∈ List.take k (List.map (fun g => AV.p (endP g)) gs) → ∃ q, x = .p q := fun k x hx => by
    obtain ⟨g, _, rfl⟩ := List.mem_map.1 (List.mem_of_mem_take hx)
    exact ⟨_, rfl⟩
  refine PC_of_W cfn59 ?_
  simp -implicitDefEqProofs (disch := omega) [c59, List.getElem?_cons_zero, List.getElem?_cons_succ, wrap_id]
  refine loopW gs.length (fun k s => s = ⟨[(11, .i k), (10, .i gs.length), (9, .p (.sl (gs.map GrP))), (4, .os 0 0 k)], [.tab (List.take k (gs.map fun g => AV.p (endP g))) 87 false]⟩ ∧ errsE gs = errsE (gs.drop k))
    ((Wk_nilT 4 87 rfl).trans (Wk_keep [11, 10, 9, 4])) ⟨rfl, rfl⟩ ?_
  rintro k s hk ⟨rfl, hI⟩
  by_cases hlt : k < gs.length
  · have hd := errs_drop gs k hlt
    have hg := hel _ (List.getElem_mem hlt)
    have hbd : k ≤ 1048575 := by omega
    have hlk : min k gs.length = k := by omega
    simp -implicitDefEqProofs (disch := omega) [List.getElem?_cons_zero, List.getElem?_cons_succ, wrap_id, hlt]
    refine HC_of_PC rfl (plain_ok gs[k].1 gs[k].2 hg) ?_
    by_cases he : graphE gs[k].1 gs[k].2 = 0
    · rw [if_neg (by simp [he])] at hd
      have htk : List.take k (List.map (fun g => AV.p (endP g)) gs) ++ [AV.p (endP gs[k])] = List.take (k + 1) (List.map (fun g => AV.p (endP g)) gs) := by
        rw [List.take_add_one, List.getElem?_map, List.getElem?_eq_getElem hlt]; simp
      simp -implicitDefEqProofs (disch := omega) [List.getElem?_cons_zero, List.getElem?_cons_succ, wrap_id, he, hbd, hlk]
      refine round_end [0] [11, 10, 9, 4] hlt rfl ⟨?_, hI.trans hd⟩
      rw [show AV.p (PV.ps (endsL gs[k].2)) = AV.p (endP gs[k]) from rfl, htk]
      refine (norm_tab (hpp _)).trans ?_
      rfl
    · rw [if_pos he] at hd
      rw [hd] at hI
      simp -implicitDefEqProofs (disch := omega) [List.getElem?_cons_zero, List.getElem?_cons_succ, wrap_id, he]
      (refine fin0 trivial rfl ?_; simp -implicitDefEqProofs (disch := omega) [List.getElem?_cons_zero, List.getElem?_cons_succ, idx, wrap_id, hI, he])
  · have hkn : k = gs.length := by omega
    subst hkn
    rw [List.drop_length] at hI
    have hz : errsE gs = 0 := hI
    have hall := allOne_p (gs.map endP) (fun e he => by obtain ⟨g, _, rfl⟩ := List.mem_map.1 he; rfl)
    have hr0 : ∀ H ρ, (List.map (fun g => AV.p (endP g)) gs).map (ren0 H ρ) = List.map (fun g => AV.p (endP g)) gs := fun H ρ => ren0_p fun x hx => by
      obtain ⟨g, _, rfl⟩ := List.mem_map.1 hx
      exact ⟨_, rfl⟩
    rw [List.map_map] at hall
    have hall' : allOne (List.map (fun g => AV.p (endP g)) gs) = some (gs.map endP) := hall
    have e : ∀ fz, AV.ren [AO.tab (List.map (fun g => AV.p (endP g)) gs) 87 fz] (Abs.idx [] 0) (.os 0 0 gs.length) = .p (.sl (gs.map endP)) := fun fz => by
      rw [AV.ren]
      simp only [show Abs.idx [] 0 0 = none from rfl, List.getElem?_cons_zero, hr0, hall', Nat.zero_add, List.length_map, if_true, List.drop_zero]
    simp -implicitDefEqProofs (disch := omega) [List.getElem?_cons_zero, List.getElem?_cons_succ, wrap_id]
    refine fin0 (x := .tup [.os 0 0 gs.length, .i 0]) trivial rfl ?_
    have hte : List.take gs.length (List.map (fun g => AV.p (endP g)) gs) = List.map (fun g => AV.p (endP g)) gs := List.take_of_length_le (by simp)
    dsimp only
    rw [hte, AV.ren, renL, renL, renL, e, AV.ren, hz, if_pos rfl]
end Go.Proofs.Ytddgepjmfnodhaa
/-
  Contracts: is a map a right morphism?
-/
set_option linter.unusedSimpArgs false
set_option linter.unusedVariables false
namespace Go.Proofs.Ytddgepjmfnodhaa
open Go.Abs Go.Sand

/-- A map: the images of vertices and of single edges. -/
structure Mo where
  v : List Int
  e : List Int
abbrev MoP (m : Mo) : PV := .agg [.is m.v, .is m.e]
def stepE (vs : List Int) (down : List (Int × Int)) (p : Int × Int) (e : Int) : Int :=
  if e < -1 ∨ (down.length : Int) ≤ e then 2
  else if (e = -1 ∧ vs.getD p.1.toNat 0 ≠ vs.getD p.2.toNat 0) ∨ (0 ≤ e ∧ down.getD e.toNat (0, 0) ≠ (min (vs.getD p.1.toNat 0) (vs.getD p.2.toNat 0), max (vs.getD p.1.toNat 0) (vs.getD p.2.toNat 0))) then 15 else 0
def edgesE (vs : List Int) (down : List (Int × Int)) : List (Int × Int) → List Int → Int
  | p :: ps, e :: el => if stepE vs down p e ≠ 0 then stepE vs down p e else edgesE vs down ps el
  | _, _ => 0
def rightE (N M : Int) (up down : List (Int × Int)) (m : Mo) : Int :=
  if (m.v.length : Int) ≠ N ∨ m.e.length ≠ up.length then 8 else if m.v.all (vtx M) = true then edgesE m.v down up m.e else 2
theorem wf_bd {v : Int} (h1 : -1000000 ≤ v) (h2 : v ≤ 1000000) : (Lit.int .i64 v).wf = true := by
  have e1 : IntKind.i64.min = -9223372036854775808 := rfl
  have e2 : IntKind.i64.max = 9223372036854775807 := rfl
  simp [Lit.wf, e1, e2]
  omega
theorem edgesE_drop (vs : List Int) (down up : List (Int × Int)) (el : List Int) (k : Nat) (h : k < el.length) (h' : k < up.length) :
    edgesE vs down (up.drop k) (el.drop k) = if stepE vs down up[k] el[k] ≠ 0 then stepE vs down up[k] el[k] else edgesE vs down (up.drop (k + 1)) (el.drop (k + 1)) := by
  rw [List.drop_eq_getElem_cons h, List.drop_eq_getElem_cons h', edgesE]
abbrev cov (N : Int) (es : List Ed) (M : Int) (fs : List Ed) (up down : List (Int × Int)) (m : Mo) : PV := .agg [.i N, .sl (es.map edP), .i M, .sl (fs.map edP), .ps up, .ps down, .is m.v, .is m.e]
theorem right_ok (n : Nat) (M : Int) (es fs : List Ed) (up down : List (Int × Int)) (m : Mo) (hM : 0 ≤ M ∧ M ≤ 12) (hup : ∀ p ∈ up, (0 ≤ p.1 ∧ p.1 < n) ∧ 0 ≤ p.2 ∧ p.2 < n) (hdn : ∀ p ∈ down, (0 ≤ p.1 ∧ p.1 < 12) ∧ 0 ≤ p.2 ∧ p.2 < 12)
    (hul : up.length ≤ 1000000) (hdl : down.length ≤ 1000000) (hvl : m.v.length ≤ 1000000) (hmel : m.e.length ≤ 1000000) :
    PC Try.prog 85 [cov n es M fs up down m] (.i (rightE n M up down m)) [] := by
  refine PC_of_W cfn85 ?_
  by_cases h1 : m.v.length = n
  rotate_left
  · have h1' : ¬ (m.v.length : Int) = n := by omega
    simp -implicitDefEqProofs (disch := omega) [c85, List.getElem?_cons_zero, List.getElem?_cons_succ, wrap_id, h1']
    (refine fin0 trivial rfl ?_; simp -implicitDefEqProofs (disch := omega) [List.getElem?_cons_zero, List.getElem?_cons_succ, idx, wrap_id, rightE, h1', h1])
  by_cases h2 : m.e.length = up.length
  rotate_left
  · have h2' : ¬ (m.e.length : Int) = up.length := by omega
    have h1' : (m.v.length : Int) = n := by omega
    simp -implicitDefEqProofs (disch := omega) [c85, List.getElem?_cons_zero, List.getElem?_cons_succ, wrap_id, h1', h2']
    (refine fin0 trivial rfl ?_; simp -implicitDefEqProofs (disch := omega) [List.getElem?_cons_zero, List.getElem?_cons_succ, idx, wrap_id, rightE, h2])
  have h1' : (m.v.length : Int) = n := by omega
  have h2' : (m.e.length : Int) = up.length := by omega
  have hE : rightE n M up down m = if m.v.all (vtx M) = true then edgesE m.v down up m.e else 2 := by rw [rightE, if_neg (by simp [h1', h2])]
  rw [hE]
  obtain ⟨r, hr⟩ : ∃ r, r = if m.v.all (vtx M) = true then edgesE m.v down up m.e else 2 := ⟨_, rfl⟩
  rw [← hr]
  clear hE
  simp -implicitDefEqProofs (disch := omega) [c85, List.getElem?_cons_zero, List.getElem?_cons_succ, wrap_id, h1', h2']
  refine loopW n (fun k s => s = ⟨[(31, .i k), (30, .i n), (29, .p (.is m.v)), (1, .ptr 0 1 0 0)], [.box (.p (cov n es M fs up down m))]⟩ ∧ m.v.all (vtx M) = (m.v.drop k).all (vtx M)) (wk_norm [0] [31, 30, 29, 1] rfl rfl) ⟨rfl, rfl⟩ ?_
  rintro k s hk ⟨rfl, hI⟩
  by_cases hlt : k < n
  · have hd := List.drop_eq_getElem_cons (l := m.v) (i := k) (by omega)
    rw [hd, List.all_cons] at hI
    have hkv : k < m.v.length := by omega
    by_cases c1 : m.v[k] < 0
    · have hf : m.v.all (vtx M) = false := by rw [hI, vtx_not.2 (by omega)]; rfl
      have hr2 : r = 2 := by rw [hr, hf]; rfl
      simp -implicitDefEqProofs (disch := omega) [List.getElem?_cons_zero, List.getElem?_cons_succ, wrap_id, hlt, hkv, c1]
      (refine fin0 trivial rfl ?_; simp -implicitDefEqProofs (disch := omega) [List.getElem?_cons_zero, List.getElem?_cons_succ, idx, wrap_id, hr2])
    by_cases c2 : M ≤ m.v[k]
    rotate_left
    · have ht : vtx M m.v[k] = true := vtx_iff.2 (by omega)
      rw [ht, Bool.true_and] at hI
      simp -implicitDefEqProofs (disch := omega) [List.getElem?_cons_zero, List.getElem?_cons_succ, wrap_id, hlt, hkv, c1, c2]
      exact round_end [0] [31, 30, 29, 1] hlt rfl ⟨rfl, hI⟩
    · have hf : m.v.all (vtx M) = false := by rw [hI, vtx_not.2 (by omega)]; rfl
      have hr2 : r = 2 := by rw [hr, hf]; rfl
      simp -implicitDefEqProofs (disch := omega) [List.getElem?_cons_zero, List.getElem?_cons_succ, wrap_id, hlt, hkv, c1, c2]
      (refine fin0 trivial rfl ?_; simp -implicitDefEqProofs (disch := omega) [List.getElem?_cons_zero, List.getElem?_cons_succ, idx, wrap_id, hr2])
  · have hkn : k = n := by omega
    subst hkn
    have hall : m.v.all (vtx M) = true := by rw [hI, List.drop_of_length_le (by omega)]; rfl
    rw [hall, if_pos rfl] at hr
    have hvb : ∀ x ∈ m.v, 0 ≤ x ∧ x < M := fun x hx => vtx_iff.1 (List.all_eq_true.1 hall x hx)
    simp -implicitDefEqProofs (disch := omega) [List.getElem?_cons_zero, List.getElem?_cons_succ, wrap_id, h2']
    refine loopW up.length (fun j s => s = ⟨[(49, .i j), (48, .i up.length), (47, .p (.is m.e)), (1, .ptr 0 1 0 0)], [.box (.p (cov k es M fs up down m))]⟩ ∧ r = edgesE m.v down (up.drop j) (m.e.drop j)) (wk_norm [0] [49, 48, 47, 1] rfl rfl) ⟨rfl, hr⟩ ?_
    rintro j s hj ⟨rfl, hJ⟩
    by_cases hjt : j < up.length
    · have hje : j < m.e.length := by omega
      rw [edgesE_drop m.v down up m.e j hje hjt] at hJ
      obtain ⟨⟨p1, p2⟩, p3, p4⟩ := hup _ (List.getElem_mem hjt)
      obtain ⟨a, ha⟩ : ∃ a : Nat, up[j].1 = a := ⟨up[j].1.toNat, by omega⟩
      obtain ⟨b, hb⟩ : ∃ b : Nat, up[j].2 = b := ⟨up[j].2.toNat, by omega⟩
      have hav : a < m.v.length := by omega
      have hbv : b < m.v.length := by omega
      have hst : stepE m.v down up[j] m.e[j] = if m.e[j] < -1 ∨ (down.length : Int) ≤ m.e[j] then 2 else if (m.e[j] = -1 ∧ m.v[a] ≠ m.v[b]) ∨ (0 ≤ m.e[j] ∧ down.getD m.e[j].toNat (0, 0) ≠ (min m.v[a] m.v[b], max m.v[a] m.v[b])) then 15 else 0 := by
        have g1 : m.v.getD a 0 = m.v[a] := by rw [List.getD_eq_getElem?_getD, List.getElem?_eq_getElem hav]; rfl
        have g2 : m.v.getD b 0 = m.v[b] := by rw [List.getD_eq_getElem?_getD, List.getElem?_eq_getElem hbv]; rfl
        simp only [stepE, ha, hb, Int.toNat_natCast, g1, g2]
      obtain ⟨q, hq⟩ : ∃ q, q = stepE m.v down up[j] m.e[j] := ⟨_, rfl⟩
      rw [← hq] at hst hJ
      obtain ⟨ma1, ma2⟩ := hvb _ (List.getElem_mem hav)
      obtain ⟨mb1, mb2⟩ := hvb _ (List.getElem_mem hbv)
      by_cases c1 : m.e[j] < -1
      · rw [if_pos (.inl c1)] at hst
        rw [hst, if_pos (by decide)] at hJ
        simp -implicitDefEqProofs (disch := omega) [List.getElem?_cons_zero, List.getElem?_cons_succ, wrap_id, hjt, hje, ha, hb, hav, hbv, c1]
        (refine fin0 trivial rfl ?_; simp -implicitDefEqProofs (disch := omega) [List.getElem?_cons_zero, List.getElem?_cons_succ, idx, wrap_id, hJ])
      by_cases c2 : (down.length : Int) ≤ m.e[j]
      · rw [if_pos (.inr c2)] at hst
        rw [hst, if_pos (by decide)] at hJ
        simp -implicitDefEqProofs (disch := omega) [List.getElem?_cons_zero, List.getElem?_cons_succ, wrap_id, hjt, hje, ha, hb, hav, hbv, c1, c2]
        (refine fin0 trivial rfl ?_; simp -implicitDefEqProofs (disch := omega) [List.getElem?_cons_zero, List.getElem?_cons_succ, idx, wrap_id, hJ])
      rw [if_neg (by omega)] at hst
      by_cases c3 : m.e[j] = -1
      · have c2' : ¬ (down.length : Int) ≤ -1 := by omega
        by_cases c4 : m.v[a] = m.v[b]
        · rw [if_neg (by rintro (h | h); exact h.2 c4; omega)] at hst
          rw [hst, if_neg (by decide)] at hJ
          simp -implicitDefEqProofs (disch := omega) [List.getElem?_cons_zero, List.getElem?_cons_succ, wrap_id, hjt, hje, ha, hb, hav, hbv, c2', c3]
          rw [decide_eq_true c4]
          simp -implicitDefEqProofs (disch := omega) [List.getElem?_cons_zero, List.getElem?_cons_succ, wrap_id]
          exact round_end [0] [49, 48, 47, 1] hjt rfl ⟨rfl, hJ⟩
        · rw [if_pos (.inl ⟨c3, c4⟩)] at hst
          rw [hst, if_pos (by decide)] at hJ
          simp -implicitDefEqProofs (disch := omega) [List.getElem?_cons_zero, List.getElem?_cons_succ, wrap_id, hjt, hje, ha, hb, hav, hbv, c2', c3, c4]
          (refine fin0 trivial rfl ?_; simp -implicitDefEqProofs (disch := omega) [List.getElem?_cons_zero, List.getElem?_cons_succ, idx, wrap_id, hJ])
      · obtain ⟨c, hc⟩ : ∃ c : Nat, m.e[j] = c := ⟨m.e[j].toNat, by omega⟩
        have hcd : c < down.length := by omega
        obtain ⟨⟨d1, d2⟩, d3, d4⟩ := hdn _ (List.getElem_mem hcd)
        have hgd : down.getD m.e[j].toNat (0, 0) = down[c] := by rw [hc, Int.toNat_natCast, List.getD_eq_getElem?_getD, List.getElem?_eq_getElem hcd]; rfl
        rw [hgd] at hst
        have w1 := wf_bd (v := down[c].1) (by omega) (by omega)
        have w2 := wf_bd (v := down[c].2) (by omega) (by omega)
        have w3 := wf_bd (v := min m.v[a] m.v[b]) (by omega) (by omega)
        have w4 := wf_bd (v := max m.v[a] m.v[b]) (by omega) (by omega)
        have c1' : ¬ (c : Int) < -1 := by omega
        have c2' : ¬ down.length ≤ c := by omega
        have c3' : ¬ (c : Int) = -1 := by omega
        by_cases c4 : down[c].1 = min m.v[a] m.v[b] ∧ down[c].2 = max m.v[a] m.v[b]
        · obtain ⟨c5, c6⟩ := c4
          rw [if_neg (by rintro (h | h); exact c3 h.1; exact h.2 (Prod.ext c5 c6))] at hst
          rw [hst, if_neg (by decide)] at hJ
          have hbool : (!decide (down[c].1 = min m.v[a] m.v[b]) || !decide (down[c].2 = max m.v[a] m.v[b])) = false := by rw [decide_eq_true c5, decide_eq_true c6]; rfl
          simp -implicitDefEqProofs (disch := omega) [List.getElem?_cons_zero, List.getElem?_cons_succ, wrap_id, hjt, hje, ha, hb, hav, hbv, hc, c1', c2', c3', hcd, w1, w2, w3, w4]
          rw [hbool]
          simp -implicitDefEqProofs (disch := omega) [List.getElem?_cons_zero, List.getElem?_cons_succ, wrap_id]
          exact round_end [0] [49, 48, 47, 1] hjt rfl ⟨rfl, hJ⟩
        · rw [if_pos (.inr ⟨by omega, fun h => c4 ⟨congrArg Prod.fst h, congrArg Prod.snd h⟩⟩)] at hst
          rw [hst, if_pos (by decide)] at hJ
          have hbool : (!decide (down[c].1 = min m.v[a] m.v[b]) || !decide (down[c].2 = max m.v[a] m.v[b])) = true := by
            by_cases c5 : down[c].1 = min m.v[a] m.v[b]
            · rw [decide_eq_true c5, decide_eq_false (fun h => c4 ⟨c5, h⟩)]; rfl
            · rw [decide_eq_false c5]; rfl
          simp -implicitDefEqProofs (disch := omega) [List.getElem?_cons_zero, List.getElem?_cons_succ, wrap_id, hjt, hje, ha, hb, hav, hbv, hc, c1', c2', c3', hcd, w1, w2, w3, w4]
          rw [hbool]
          simp -implicitDefEqProofs (disch := omega) [List.getElem?_cons_zero, List.getElem?_cons_succ, wrap_id]
          (refine fin0 trivial rfl ?_; simp -implicitDefEqProofs (disch := omega) [List.getElem?_cons_zero, List.getElem?_cons_succ, idx, wrap_id, hJ])
    · have hjn : j = up.length := by omega
      subst hjn
      have hr0 : r = 0 := by rw [hJ, List.drop_of_length_le (Nat.le_refl _)]; rfl
      simp -implicitDefEqProofs (disch := omega) [List.getElem?_cons_zero, List.getElem?_cons_succ, wrap_id]
      (refine fin0 trivial rfl ?_; simp -implicitDefEqProofs (disch := omega) [List.getElem?_cons_zero, List.getElem?_cons_succ, idx, wrap_id, hr0])
end Go.Proofs.Ytddgepjmfnodhaa
/-
  Contracts: covers, what is above a single edge.
-/
set_option linter.unusedSimpArgs false
set_option linter.unusedVariables false
namespace Go.Proofs.Ytddgepjmfnodhaa
open Go.Abs Go.Sand

def coverE (g h : Gr) (m : Mo) : Int := if errsE [g, h] ≠ 0 then errsE [g, h] else rightE g.1 h.1 (endsL g.2) (endsL h.2) m
abbrev covM (g h : Gr) (m : Mo) : PV := cov g.1 g.2 h.1 h.2 (endsL g.2) (endsL h.2) m
abbrev cov0 : PV := .agg [.i 0, .nil, .i 0, .nil, .nil, .nil, .nil, .nil]
theorem errs_two {g h : Gr} (he : errsE [g, h] = 0) : graphE g.1 g.2 = 0 ∧ graphE h.1 h.2 = 0 := by
  simp only [errsE] at he
  split at he
  · rename_i h1; exact absurd he h1
  · rename_i h1
    split at he
    · rename_i h2; exact absurd he h2
    · rename_i h2
      exact ⟨Decidable.not_not.1 h1, Decidable.not_not.1 h2⟩
theorem graph_good {N : Int} {es : List Ed} (h : graphE N es = 0) : GoodG N es ∧ loopsB es = false ∧ partsN es N.toNat = 1 := by
  unfold graphE at h
  split at h
  · rename_i h1; exact absurd h h1
  · rename_i h1
    obtain ⟨h2, h3⟩ := conn_good (Decidable.not_not.1 h1)
    refine ⟨gcheck_ok h2, ?_, h3⟩
    cases hl : loopsB es
    · rfl
    · rw [hl] at h; simp at h
theorem ends_in {n : Int} {es : List Ed} (hr : ∀ x ∈ es, Right n x) : ∀ p ∈ endsL es, (0 ≤ p.1 ∧ p.1 < n) ∧ 0 ≤ p.2 ∧ p.2 < n := fun p hp => by
  simp only [endsL, List.mem_flatMap, List.mem_replicate] at hp
  obtain ⟨x, hx, _, rfl⟩ := hp
  have r := hr x hx
  exact ⟨⟨r.a0, r.an⟩, r.b0, r.bn⟩
/-- What is small enough. -/
structure Sm (g h : Gr) (m : Mo) : Prop where
  g : g.2.length ≤ 900
  h : h.2.length ≤ 900
  v : m.v.length ≤ 1000000
  e : m.e.length ≤ 1000000
theorem coverOf_ok (g h : Gr) (m : Mo) (hs : Sm g h m) : PC Try.prog 50 [GrP g, GrP h, MoP m] (.tup [.p (if coverE g h m = 0 then covM g h m else cov0), .i (coverE g h m)]) [] := by
  refine PC_of_W cfn50 ?_
  simp -implicitDefEqProofs (disch := omega) [c50, List.getElem?_cons_zero, List.getElem?_cons_succ, wrap_id]
  refine HC_of_PC rfl (graphs_ok [g, h] (by simp) (by simp) (by intro x hx; simp at hx; rcases hx with rfl | rfl; exact hs.g; exact hs.h)) ?_
  by_cases he : errsE [g, h] = 0
  · obtain ⟨e1, e2⟩ := errs_two he
    obtain ⟨g1, _⟩ := graph_good e1
    obtain ⟨g2, _⟩ := graph_good e2
    have a1 := g1.n1
    have a2 := g1.n12
    have b1 := g2.n1
    have b2 := g2.n12
    have l1 := endsL_len9 g1.right hs.g
    have l2 := endsL_len9 g2.right hs.h
    obtain ⟨n, hn⟩ : ∃ n : Nat, g.1 = n := ⟨g.1.toNat, by omega⟩
    have hup := ends_in g1.right
    have hdn := ends_in g2.right
    have hR := right_ok n h.1 g.2 h.2 (endsL g.2) (endsL h.2) m ⟨by omega, by omega⟩ (fun p hp => by have := hup p hp; omega) (fun p hp => by have := hdn p hp; omega) (by omega) (by omega) hs.v hs.e
    rw [← hn] at hR
    simp -implicitDefEqProofs (disch := omega) [List.getElem?_cons_zero, List.getElem?_cons_succ, wrap_id, he]
    refine HC_of_PC rfl (hR) ?_
    by_cases hr : rightE g.1 h.1 (endsL g.2) (endsL h.2) m = 0
    · have hc : coverE g h m = 0 := by rw [coverE, if_neg (by simp [he]), hr]
      simp -implicitDefEqProofs (disch := omega) [List.getElem?_cons_zero, List.getElem?_cons_succ, wrap_id, hr]
      (refine fin0 trivial rfl ?_; simp -implicitDefEqProofs (disch := omega) [List.getElem?_cons_zero, List.getElem?_cons_succ, idx, wrap_id, hc])
    · have hc : coverE g h m = rightE g.1 h.1 (endsL g.2) (endsL h.2) m := by rw [coverE, if_neg (by simp [he])]
      simp -implicitDefEqProofs (disch := omega) [List.getElem?_cons_zero, List.getElem?_cons_succ, wrap_id, hr]
      (refine fin0 trivial rfl ?_; simp -implicitDefEqProofs (disch := omega) [List.getElem?_cons_zero, List.getElem?_cons_succ, idx, wrap_id, hc, hr])
  · have hc : coverE g h m = errsE [g, h] := by rw [coverE, if_pos he]
    simp -implicitDefEqProofs (disch := omega) [List.getElem?_cons_zero, List.getElem?_cons_succ, wrap_id, he]
    (refine fin0 trivial rfl ?_; simp -implicitDefEqProofs (disch := omega) [List.getElem?_cons_zero, List.getElem?_cons_succ, idx, wrap_id, hc, he])
end Go.Proofs.Ytddgepjmfnodhaa
/-
  Counting by keys (plain).
-/
set_option linter.unusedSimpArgs false
set_option linter.unusedVariables false
namespace Go.Sand
open Go.Abs

def fI (k : KV) : List (KV × Int) → Option Nat
  | [] => none
  | x :: l => if x.1 = k then some 0 else (fI k l).map (· + 1)
def incL (k : KV) (L : List (KV × Int)) : List (KV × Int) := match fI k L with
  | some i => L.set i (k, (L.getD i (k, 0)).2 + 1)
  | none => L ++ [(k, 1)]
def getC (k : KV) (L : List (KV × Int)) : Int := match fI k L with
  | some i => (L.getD i (k, 0)).2
  | none => 0
def toD (L : List (KV × Int)) : List (KV × AV) := L.map fun x => (x.1, AV.p (.v (.int .i64 x.2)))
theorem dIdx_toD (k : KV) : ∀ L, dIdx k (toD L) = fI k L
  | [] => rfl
  | x :: l => by
    have := dIdx_toD k l
    unfold toD at this ⊢
    simp only [List.map_cons, dIdx, fI, this]
theorem fI_some {k : KV} : ∀ {L : List (KV × Int)} {i : Nat}, fI k L = some i → ∃ n, L[i]? = some (k, n)
  | [], i, h => by cases h
  | x :: l, i, h => by
    unfold fI at h
    split at h
    · rename_i e
      injection h with h
      subst h
      exact ⟨x.2, by simp [← e]⟩
    · obtain ⟨j, hj, rfl⟩ := Option.map_eq_some_iff.1 h
      obtain ⟨n, hn⟩ := fI_some hj
      exact ⟨n, by simpa using hn⟩
theorem fI_set {k k' : KV} : ∀ {L : List (KV × Int)} {i : Nat} {n : Int}, fI k L = some i → fI k' (L.set i (k, n)) = fI k' L
  | [], i, n, h => by cases h
  | x :: l, i, n, h => by
    unfold fI at h
    split at h
    · rename_i e
      injection h with h
      subst h
      simp only [List.set_cons_zero, fI, e]
    · obtain ⟨j, hj, rfl⟩ := Option.map_eq_some_iff.1 h
      simp only [List.set_cons_succ, fI, fI_set hj]
theorem fI_push {k k' : KV} {n : Int} : ∀ {L : List (KV × Int)}, fI k L = none → fI k' (L ++ [(k, n)]) = if k' = k then some L.length else fI k' L
  | [], _ => by simp only [List.nil_append, fI]; by_cases e : k = k' <;> simp [e, eq_comm]
  | x :: l, h => by
    unfold fI at h
    split at h
    · cases h
    · rename_i hne
      simp only [Option.map_eq_none_iff] at h
      simp only [List.cons_append, fI, fI_push h]
      by_cases e : k' = k
      · subst e
        simp [hne]
      · simp [e]
theorem getC_inc (k k' : KV) (L : List (KV × Int)) : getC k' (incL k L) = getC k' L + if k = k' then 1 else 0 := by
  unfold getC incL
  cases h : fI k L with
  | some i =>
    obtain ⟨n, hn⟩ := fI_some h
    have hi := (List.getElem?_eq_some_iff.1 hn).1
    simp only [fI_set h]
    cases h' : fI k' L with
    | none =>
      have : k ≠ k' := fun e => by rw [e, h'] at h; cases h
      simp [this]
    | some j =>
      obtain ⟨n', hn'⟩ := fI_some h'
      have hj := (List.getElem?_eq_some_iff.1 hn').1
      dsimp only
      by_cases e : k = k'
      · subst e
        rw [h] at h'
        injection h' with h'
        subst h'
        simp [List.getD_eq_getElem?_getD, hi]
      · have hne : i ≠ j := fun e2 => by
          subst e2
          rw [hn] at hn'
          injection hn' with hn'
          injection hn' with hn' _
          exact e hn'
        simp only [List.getD_eq_getElem?_getD, List.getElem?_set_ne hne, if_neg e]
        omega
  | none =>
    simp only [fI_push h]
    by_cases e : k' = k
    · subst e
      simp [h, List.getD_eq_getElem?_getD]
    · have e' : ¬ k = k' := fun h => e h.symm
      simp only [if_neg e, if_neg e']
      cases h' : fI k' L with
      | none => rfl
      | some j =>
        obtain ⟨n', hn'⟩ := fI_some h'
        have hj := (List.getElem?_eq_some_iff.1 hn').1
        simp only [List.getD_eq_getElem?_getD, List.getElem?_append_left hj]
        omega
/-- The counts behind the first k single edges. -/
def cL (up : List (Int × Int)) (el : List Int) : Nat → List (KV × Int)
  | 0 => []
  | k + 1 => incL (.kl [(up.getD k (0, 0)).2, el.getD k 0]) (incL (.kl [(up.getD k (0, 0)).1, el.getD k 0]) (cL up el k))
def at1 (p : Int × Int) (x : Int) (v e : Int) : Int := if x = e then (if p.1 = v then 1 else 0) + (if p.2 = v then 1 else 0) else 0
/-- How many of the first k single edges at v have the image e (loops count twice). -/
def cntK (up : List (Int × Int)) (el : List Int) (v e : Int) : Nat → Int
  | 0 => 0
  | k + 1 => cntK up el v e k + at1 (up.getD k (0, 0)) (el.getD k 0) v e
theorem getC_cL (up : List (Int × Int)) (el : List Int) (v e : Int) : ∀ k, getC (.kl [v, e]) (cL up el k) = cntK up el v e k
  | 0 => rfl
  | k + 1 => by
    rw [cL, getC_inc, getC_inc, getC_cL up el v e k, cntK, at1]
    have key : ∀ x y : Int, (KV.kl [x, y] = KV.kl [v, e]) = (x = v ∧ y = e) := fun x y => by simp
    simp only [key]
    generalize (up.getD k (0, 0)).1 = p1
    generalize (up.getD k (0, 0)).2 = p2
    generalize el.getD k 0 = x
    by_cases h : x = e <;> by_cases h1 : p1 = v <;> by_cases h2 : p2 = v <;> simp only [h, h1, h2, and_self, and_true, and_false, true_and, if_true, if_false] <;> omega
theorem cntK_bd (up : List (Int × Int)) (el : List Int) (v e : Int) : ∀ k, 0 ≤ cntK up el v e k ∧ cntK up el v e k ≤ 2 * k
  | 0 => by simp [cntK]
  | k + 1 => by
    have := cntK_bd up el v e k
    rw [cntK, at1]
    (repeat' split) <;> omega
end Go.Sand
