/-
  Contracts: orientations out of orders of the vertices.
-/
import Derived.Test.YtjinjbcdbkgedaaNj
set_option linter.unusedSimpArgs false
set_option linter.unusedVariables false
namespace Go.Sand
def renE (N : Int) (order : List Int) : Int := if (order.length : Int) ≠ N then 8 else revErr N [] order
def ordE (N : Int) (es : List Ed) (order : List Int) : Int := if gcheck N es ≠ 0 then gcheck N es else renE N order
/-- The orientation of an order. -/
def alongL (es : List Ed) (order : List Int) : List Bool := (endsL es).map fun p => decide (order.idxOf p.1 ≤ order.idxOf p.2)
theorem nodup_len {α : Type} [DecidableEq α] : ∀ {l m : List α}, l.Nodup → (∀ x ∈ l, x ∈ m) → l.length ≤ m.length
  | [], m, _, _ => Nat.zero_le _
  | x :: l, m, hd, hs => by
    obtain ⟨h1, h2⟩ := List.nodup_cons.1 hd
    have hx := hs x (by simp)
    have := nodup_len h2 (m := m.erase x) fun y hy => (List.mem_erase_of_ne (by rintro rfl; exact h1 hy)).2 (hs y (by simp [hy]))
    rw [List.length_erase_of_mem hx] at this
    have hp := List.length_pos_of_mem hx
    rw [List.length_cons]
    omega
theorem perm_all {n : Nat} {order : List Int} (hl : order.length = n) (hs : ∀ x ∈ order, 0 ≤ x ∧ x < n) (hd : order.Nodup) {v : Int} (h0 : 0 ≤ v) (hv : v < n) : v ∈ order := by
  refine Classical.byContradiction fun hm => ?_
  have hvm : v ∈ (List.range n).map fun v : Nat => (v : Int) := List.mem_map.2 ⟨v.toNat, by simp; omega, by omega⟩
  have := nodup_len hd (m := ((List.range n).map fun v : Nat => (v : Int)).erase v) fun x hx => by
    have := hs x hx
    exact (List.mem_erase_of_ne (by rintro rfl; exact hm hx)).2 (List.mem_map.2 ⟨x.toNat, by simp; omega, by omega⟩)
  rw [List.length_erase_of_mem hvm, List.length_map, List.length_range] at this
  omega
theorem idxOf_at {l : List Int} {v : Int} {k : Nat} (hk : k < l.length) (hv : l[k] = v) (hlo : ∀ j, (hj : j < k) → l[j] ≠ v) : l.idxOf v = k := by
  induction l generalizing k with
  | nil => simp at hk
  | cons x l ih =>
    rw [List.idxOf_cons]
    cases k with
    | zero => simp at hv; simp [hv]
    | succ k =>
      have h0 := hlo 0 (by omega)
      simp only [List.getElem_cons_zero] at h0
      have : (x == v) = false := by simpa using h0
      rw [this, cond_false, ih (by simpa using hk) (by simpa using hv) (fun j hj => by have := hlo (j + 1) (by omega); simpa using this)]
end Go.Sand
namespace Go.Proofs.Ytjinjbcdbkgedaa
open Go.Abs Go.Sand

/-- Where each vertex of a list stands, as a map. -/
def posD (l : List Int) : List (KV × AV) := l.zipIdx.map fun p => (.ki .i64 p.1, .p (.v (.int .i64 (p.2 : Nat))))
theorem posD_len (l : List Int) : (posD l).length = l.length := by simp [posD]
theorem posD_at (l : List Int) (i : Nat) (h : i < l.length) : (posD l)[i]? = some (.ki .i64 l[i], .p (.v (.int .i64 (i : Nat)))) := by
  simp [posD, h]
theorem posD_snoc (l : List Int) (v : Int) : posD (l ++ [v]) = posD l ++ [(.ki .i64 v, .p (.v (.int .i64 (l.length : Nat))))] := by
  simp [posD, List.zipIdx_append]
theorem posD_dIdx (l : List Int) (v : Int) : dIdx (.ki .i64 v) (posD l) = if v ∈ l then some (l.idxOf v) else none := by
  have key : ∀ (l : List Int) (k : Nat), dIdx (.ki .i64 v) ((l.zipIdx k).map fun p => ((.ki .i64 p.1 : KV), (.p (.v (.int .i64 (p.2 : Nat))) : AV))) = if v ∈ l then some (l.idxOf v) else none := by
    intro l
    induction l with
    | nil => intro k; rfl
    | cons x l ih =>
      intro k
      rw [List.zipIdx_cons, List.map_cons, dIdx]
      by_cases e : x = v
      · subst e; simp
      · have e' : ¬ (KV.ki .i64 x = KV.ki .i64 v) := fun h => by injection h with _ h; exact e h
        have e'' : ¬ v = x := fun h => e h.symm
        rw [if_neg e', ih (k + 1)]
        by_cases hm : v ∈ l
        · have e3 : (x == v) = false := by simpa using e
          simp [hm, e'', List.idxOf_cons, e3]
        · simp [hm, e'']
  exact key l 0
theorem posD_ren (l : List Int) (H : List AO) (ρ : Nat → Option Nat) : (posD l).map (fun x => (x.1, x.2.ren H ρ)) = posD l := by
  simp only [posD, List.map_map]
  refine List.map_congr_left fun x _ => ?_
  simp [AV.ren]
theorem norm_pos {x : AV} {kd : KD} {L : List Int} {l : List PV} {sz : Nat} {t : TypeId} {fz : Bool} {Hr : List AO} {keep : List Nat} {T : List (Nat × AV)} : norm [0, 1, 2] keep ⟨T, .box x :: .dict kd (posD L) :: .row l sz t fz :: Hr⟩ =
    ⟨keep.map fun i => (i, (Abs.get T i).ren (.box x :: .dict kd (posD L) :: .row l sz t fz :: Hr) (Abs.idx [0, 1, 2] 0)), [.box (x.ren (.box x :: .dict kd (posD L) :: .row l sz t fz :: Hr) (Abs.idx [0, 1, 2] 0)), .dict kd (posD L), .row l sz t fz]⟩ := by
  simp [norm, AO.ren, posD_ren]
theorem wf_small {n : Int} (h1 : -9223372036854775808 ≤ n) (h2 : n ≤ 9223372036854775807) : (Lit.int .i64 n).wf = true := by
  simp [Lit.wf, IntKind.min, IntKind.max, IntKind.bits, IntKind.signed]
  omega
theorem place_ok (order : List Int) (v : Int) (hol : order.length ≤ 1000) (hv : v ∈ order) : PC Try.prog 101 [.is order, .i v] (.i (order.idxOf v : Nat)) [] := by
  obtain ⟨i, hi, hiv, hlo⟩ := first_at order v hv
  have hidx : order.idxOf v = i := idxOf_at hi hiv hlo
  rw [hidx]
  refine PC_of_W cfn101 ?_
  simp -implicitDefEqProofs (disch := omega) [c101, List.getElem?_cons_zero, List.getElem?_cons_succ, wrap_id]
  refine loopW order.length (fun k s => s = ⟨[(5, .i k), (0, .p (.is order)), (1, .i v)], []⟩ ∧ k ≤ i) (wk_norm [] [5, 0, 1] rfl rfl) ⟨rfl, by omega⟩ ?_
  rintro k s hk ⟨rfl, hI⟩
  have hlt : k < order.length := by omega
  by_cases hki : k = i
  · subst hki
    simp -implicitDefEqProofs (disch := omega) [List.getElem?_cons_zero, List.getElem?_cons_succ, wrap_id, hlt, hiv]
    (refine fin0 trivial rfl ?_; simp -implicitDefEqProofs (disch := omega) [List.getElem?_cons_zero, List.getElem?_cons_succ, idx, wrap_id])
  · have hne := hlo k (by omega)
    simp -implicitDefEqProofs (disch := omega) [List.getElem?_cons_zero, List.getElem?_cons_succ, wrap_id, hlt, hne]
    exact round_end [] [5, 0, 1] hlt rfl ⟨rfl, by omega⟩
theorem along_ok (n : Nat) (es : List Ed) (order : List Int) (hg : gcheck n es = 0) (hel : es.length ≤ 1000) (hol : order.length ≤ 1000) (hall : ∀ v : Int, 0 ≤ v → v < n → v ∈ order) :
    PC Try.prog 85 [G n es, .is order] (.os 0 0 (endsL es).length) [rowB (alongL es order)] := by
  have hgood := gcheck_ok hg
  have he := endsL_len hgood.right
  have hem : (endsL es).length ≤ 1048576 := by omega
  have hal : (alongL es order).length = (endsL es).length := by simp [alongL]
  refine PC_of_W cfn85 ?_
  simp -implicitDefEqProofs (disch := omega) [c85, List.getElem?_cons_zero, List.getElem?_cons_succ, wrap_id]
  refine HC_of_PC rfl (ends_ok n es hgood.right hel) ?_
  simp -implicitDefEqProofs (disch := omega) [List.getElem?_cons_zero, List.getElem?_cons_succ, wrap_id, hem]
  refine loopW (endsL es).length (fun k s => s = ⟨[(7, .i k), (6, .os 0 0 (endsL es).length), (5, .p (.ps (endsL es))), (1, .p (.is order))], [rowB ((alongL es order).take k ++ List.replicate ((endsL es).length - k) false)]⟩) (wk_norm [1] [7, 6, 5, 1] rfl rfl) (by simp only [rowB, List.map_replicate, List.take_zero, List.nil_append, Nat.sub_zero]; rfl) ?_
  rintro k s hk rfl
  by_cases hlt : k < (endsL es).length
  · obtain ⟨m1, m2, m3⟩ := endsL_mem hgood.right _ (List.getElem_mem hlt)
    have hka : k < (alongL es order).length := by omega
    have hat : (alongL es order)[k] = decide (order.idxOf (endsL es)[k].1 ≤ order.idxOf (endsL es)[k].2) := by simp [alongL]
    have htl : ((alongL es order).take k).length = k := by rw [List.length_take]; omega
    have hset : ((alongL es order).take k ++ List.replicate ((endsL es).length - k) false).set k (alongL es order)[k] = (alongL es order).take (k + 1) ++ List.replicate ((endsL es).length - (k + 1)) false := by
      rw [List.set_append_right _ _ (by omega), htl, Nat.sub_self, show (endsL es).length - k = ((endsL es).length - (k + 1)) + 1 by omega, List.replicate_succ, List.set_cons_zero, List.take_succ_eq_append_getElem hka, List.append_assoc]
      rfl
    have hln : ((alongL es order).take k ++ List.replicate ((endsL es).length - k) false).length = (endsL es).length := by rw [List.length_append, htl, List.length_replicate]; omega
    obtain ⟨D, hD⟩ : ∃ D, D = (alongL es order).take k ++ List.replicate ((endsL es).length - k) false := ⟨_, rfl⟩
    rw [← hD] at hset hln ⊢
    have hkD : k < D.length := by omega
    simp -implicitDefEqProofs (disch := omega) [List.getElem?_cons_zero, List.getElem?_cons_succ, wrap_id, hlt]
    refine HC_of_PC rfl (place_ok order (endsL es)[k].1 hol (hall _ m1 (by omega))) ?_
    simp -implicitDefEqProofs (disch := omega) [List.getElem?_cons_zero, List.getElem?_cons_succ, wrap_id, hlt]
    refine HC_of_PC rfl (place_ok order (endsL es)[k].2 hol (hall _ (by omega) m3)) ?_
    simp -implicitDefEqProofs (disch := omega) [List.getElem?_cons_zero, List.getElem?_cons_succ, wrap_id, hln, hlt, hkD]
    exact round_end [0] [7, 6, 5, 1] hlt rfl (by rw [← hset, hat, rowB, List.map_set]; rfl)
  · have hke : k = (endsL es).length := by omega
    have e1 : (alongL es order).take k ++ List.replicate ((endsL es).length - k) false = alongL es order := by rw [hke, ← hal, List.take_length, Nat.sub_self]; simp
    rw [e1]
    simp -implicitDefEqProofs (disch := omega) [List.getElem?_cons_zero, List.getElem?_cons_succ, wrap_id, hlt]
    exact fin1 [0] trivial rfl (by rfl) ⟨rfl, rfl⟩
theorem renaming_ok (N : Int) (order : List Int) (hol : order.length ≤ 1000) : PC Try.prog 51 [.i N, .is order] (.i (renE N order)) [] := by
  refine PC_of_W cfn51 ?_
  by_cases hl : (order.length : Int) = N
  rotate_left
  · simp -implicitDefEqProofs (disch := omega) [c51, List.getElem?_cons_zero, List.getElem?_cons_succ, wrap_id, hl]
    (refine fin0 trivial rfl ?_; simp -implicitDefEqProofs (disch := omega) [List.getElem?_cons_zero, List.getElem?_cons_succ, idx, wrap_id, renE, hl])
  subst hl
  simp -implicitDefEqProofs (disch := omega) [c51, List.getElem?_cons_zero, List.getElem?_cons_succ, wrap_id]
  refine loopW order.length (fun k s => s = ⟨[(5, .i k), (0, .i order.length), (1, .p (.is order))], []⟩ ∧ renE order.length order = revErr order.length (order.take k) (order.drop k)) (wk_norm [] [5, 0, 1] rfl rfl) ⟨rfl, by simp [renE]⟩ ?_
  rintro k s hk ⟨rfl, hI⟩
  by_cases hlt : k < order.length
  · have hd := revErr_drop order.length order k hlt
    by_cases h1 : order[k] < 0
    · rw [if_pos (.inl h1)] at hd
      simp -implicitDefEqProofs (disch := omega) [List.getElem?_cons_zero, List.getElem?_cons_succ, wrap_id, hlt, h1]
      (refine fin0 trivial rfl ?_; simp -implicitDefEqProofs (disch := omega) [List.getElem?_cons_zero, List.getElem?_cons_succ, idx, wrap_id, hI, hd])
    · by_cases h2 : (order.length : Int) ≤ order[k]
      · rw [if_pos (.inr h2)] at hd
        simp -implicitDefEqProofs (disch := omega) [List.getElem?_cons_zero, List.getElem?_cons_succ, wrap_id, hlt, h1, h2]
        (refine fin0 trivial rfl ?_; simp -implicitDefEqProofs (disch := omega) [List.getElem?_cons_zero, List.getElem?_cons_succ, idx, wrap_id, hI, hd])
      · rw [if_neg (by omega)] at hd
        have hkk : k ≤ order.length := hk
        simp -implicitDefEqProofs (disch := omega) [List.getElem?_cons_zero, List.getElem?_cons_succ, wrap_id, hlt, h1, h2, hkk]
        refine HC_of_PC (by simp [views, view, viewC]) (holds_ok (order.take k) order[k] (by rw [List.length_take]; omega)) ?_
        by_cases hm : order[k] ∈ order.take k
        · rw [if_pos hm] at hd
          simp -implicitDefEqProofs (disch := omega) [List.getElem?_cons_zero, List.getElem?_cons_succ, wrap_id, hm]
          (refine fin0 trivial rfl ?_; simp -implicitDefEqProofs (disch := omega) [List.getElem?_cons_zero, List.getElem?_cons_succ, idx, wrap_id, hI, hd])
        · rw [if_neg hm] at hd
          simp -implicitDefEqProofs (disch := omega) [List.getElem?_cons_zero, List.getElem?_cons_succ, wrap_id, hm]
          exact round_end [] [5, 0, 1] hlt rfl ⟨rfl, by rw [hI, hd]⟩
  · rw [revErr_end _ _ _ (by omega)] at hI
    simp -implicitDefEqProofs (disch := omega) [List.getElem?_cons_zero, List.getElem?_cons_succ, wrap_id, hlt]
    (refine fin0 trivial rfl ?_; simp -implicitDefEqProofs (disch := omega) [List.getElem?_cons_zero, List.getElem?_cons_succ, idx, wrap_id, hI])
theorem ordE_ok {N : Int} {es : List Ed} {order : List Int} (h : ordE N es order = 0) : gcheck N es = 0 ∧ (order.length : Int) = N ∧ revErr N [] order = 0 := by
  unfold ordE renE at h
  split at h
  · rename_i h1; exact absurd h h1
  · rename_i h1
    split at h
    · cases h
    · rename_i h2; exact ⟨by simpa using h1, by simpa using h2, h⟩
theorem rorder_ok (n : Nat) (es : List Ed) (order : List Int) (hel : es.length ≤ 1000) (hol : order.length ≤ 1000) (h : ordE n es order = 0) :
    PC Try.prog 44 [G n es, .is order] (.tup [.os 0 0 (endsL es).length, .i 0]) [rowB (alongL es order)] := by
  obtain ⟨hg, hl, hr⟩ := ordE_ok h
  obtain ⟨hs, hnd, _⟩ := revErr_ok hr
  have hall : ∀ v : Int, 0 ≤ v → v < n → v ∈ order := fun v h0 hv => perm_all (by omega) hs hnd h0 hv
  have hrn : renE n order = 0 := by unfold ordE at h; rw [if_neg (by simp [hg])] at h; exact h
  refine PC_of_W cfn44 ?_
  simp -implicitDefEqProofs (disch := omega) [c44, List.getElem?_cons_zero, List.getElem?_cons_succ, wrap_id]
  refine HC_of_PC rfl (rcheck_ok n es (by omega)) ?_
  simp -implicitDefEqProofs (disch := omega) [List.getElem?_cons_zero, List.getElem?_cons_succ, wrap_id, hg]
  refine HC_of_PC rfl (renaming_ok n order hol) ?_
  simp -implicitDefEqProofs (disch := omega) [List.getElem?_cons_zero, List.getElem?_cons_succ, wrap_id, hrn]
  refine HC_of_PC rfl (along_ok n es order hg hel hol hall) ?_
  simp -implicitDefEqProofs (disch := omega) [List.getElem?_cons_zero, List.getElem?_cons_succ, wrap_id]
  exact fin1 [1] trivial rfl (by rfl) ⟨rfl, rfl⟩
theorem rorder_err (N : Int) (es : List Ed) (order : List Int) (hel : es.length ≤ 1000) (hol : order.length ≤ 1000) (h : ordE N es order ≠ 0) :
    PC Try.prog 44 [G N es, .is order] (.tup [.p (.is []), .i (ordE N es order)]) [] := by
  refine PC_of_W cfn44 ?_
  simp -implicitDefEqProofs (disch := omega) [c44, List.getElem?_cons_zero, List.getElem?_cons_succ, wrap_id]
  refine HC_of_PC rfl (rcheck_ok N es (by omega)) ?_
  by_cases hg : gcheck N es = 0
  rotate_left
  · simp -implicitDefEqProofs (disch := omega) [List.getElem?_cons_zero, List.getElem?_cons_succ, wrap_id, hg]
    refine finW (Wk_nil0 4 rfl) ?_
    (refine fin0 trivial rfl ?_; simp -implicitDefEqProofs (disch := omega) [List.getElem?_cons_zero, List.getElem?_cons_succ, idx, wrap_id, ordE, hg])
  have hrn : ordE N es order = renE N order := by rw [ordE, if_neg (by simp [hg])]
  rw [hrn] at h ⊢
  simp -implicitDefEqProofs (disch := omega) [List.getElem?_cons_zero, List.getElem?_cons_succ, wrap_id, hg]
  refine HC_of_PC rfl (renaming_ok N order hol) ?_
  simp -implicitDefEqProofs (disch := omega) [List.getElem?_cons_zero, List.getElem?_cons_succ, wrap_id, h]
  refine finW (Wk_nil0 4 rfl) ?_
  (refine fin0 trivial rfl ?_; simp -implicitDefEqProofs (disch := omega) [List.getElem?_cons_zero, List.getElem?_cons_succ, idx, wrap_id])
end Go.Proofs.Ytjinjbcdbkgedaa
