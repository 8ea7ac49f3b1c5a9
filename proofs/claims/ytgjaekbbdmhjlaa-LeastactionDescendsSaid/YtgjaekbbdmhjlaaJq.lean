/-
  The law Descends: from any stabilizing script one descends to the odometer, step by step.
-/
import Derived.Test.YtgjaekbbdmhjlaaJp
set_option linter.unusedSimpArgs false
set_option linter.unusedVariables false
namespace Go.Proofs.Ytgjaekbbdmhjlaa
open Go.Abs Go.Sand

/-- A witness is a row of its own. -/
theorem witness_own (n : Nat) (es : List Ed) (q : Int) (d s : List Int) (hel : es.length ≤ 900) (hd : d.length ≤ 1000) (h0 : settledR n es q d s = 0) (B : List Bool) (hB : B = grF n es (movedE es s d) s) :
    PC Try.prog 17 [G n es, .i q, .is d, .is s] (.tup [.os 0 0 (memK B 12).length, .i 0]) [rowI (memK B 12)] := by
  obtain ⟨n', e, h, hst, hb⟩ := settledR_ok h0
  have e : n' = n := by omega
  subst e
  refine PC_of_W cfn17 ?_
  simp -implicitDefEqProofs (disch := omega) [c17, List.getElem?_cons_zero, List.getElem?_cons_succ, wrap_id]
  refine HC_of_PC rfl (settled22_ok es q d s hel hd n' h hb) ?_
  simp -implicitDefEqProofs (disch := omega) [List.getElem?_cons_zero, List.getElem?_cons_succ, wrap_id, bdO_up]
  have hcl : (movedE es s d).length = n' := by rw [movedE_length, h.st.c.len]
  refine gr_ptr h.st.g (p := 2) (c := movedE es s d) (s := s) rfl rfl rfl hcl h.len ?_
  have hgl : (grF n' es (movedE es s d) s).length = 12 := grF_len
  rw [← hB] at hgl ⊢
  simp -implicitDefEqProofs (disch := omega) [List.getElem?_cons_zero, List.getElem?_cons_succ, wrap_id]
  refine HC_of_PC rfl (members_ok B) ?_
  simp -implicitDefEqProofs (disch := omega) [List.getElem?_cons_zero, List.getElem?_cons_succ, wrap_id]
  refine collect_ok B hgl (lo_board (es := es) (by omega)) fun x => ?_
  simp -implicitDefEqProofs (disch := omega) [List.getElem?_cons_zero, List.getElem?_cons_succ, wrap_id]
  exact fin1 [6] trivial rfl rfl ⟨rfl, rfl⟩
/-- A script, of which some vertices are taken away one after the other. -/
def decL (s l : List Int) : List Int := l.foldl (fun s v => s.set v.toNat (s.getD v.toNat 0 - 1)) s
theorem decL_snoc (s l : List Int) (v : Int) : decL s (l ++ [v]) = (decL s l).set v.toNat ((decL s l).getD v.toNat 0 - 1) := by
  unfold decL
  rw [List.foldl_append]; rfl
theorem decL_len (s : List Int) : ∀ k (l : List Int), l.length = k → (decL s l).length = s.length
  | 0, l, h => by rw [List.length_eq_zero_iff.1 h]; rfl
  | k + 1, l, h => by
    have hne : l ≠ [] := fun e => by rw [e] at h; cases h
    have := decL_len s k l.dropLast (by rw [List.length_dropLast]; omega)
    rw [← List.dropLast_concat_getLast hne, decL_snoc, List.length_set, this]
theorem decL_bd (s : List Int) (i : Nat) : ∀ k (l : List Int), l.length = k → s.getD i 0 - k ≤ (decL s l).getD i 0 ∧ (decL s l).getD i 0 ≤ s.getD i 0
  | 0, l, h => by
    rw [List.length_eq_zero_iff.1 h]
    show s.getD i 0 - _ ≤ s.getD i 0 ∧ s.getD i 0 ≤ s.getD i 0
    omega
  | k + 1, l, h => by
    have hne : l ≠ [] := fun e => by rw [e] at h; cases h
    have ih := decL_bd s i k l.dropLast (by rw [List.length_dropLast]; omega)
    rw [← List.dropLast_concat_getLast hne, decL_snoc, getD_set]
    split
    · rename_i h2
      rw [h2.1]
      push_cast
      omega
    · push_cast
      omega
theorem decL_mem {n : Nat} {s : List Int} {B : List Bool} (hs : s.length = n) (hB : ∀ v, B.getD v false = true → v < n) : ∀ k, decL s (memK B k) = lessTo n s (toN B) k
  | 0 => lessTo_0 hs _
  | k + 1 => by
    have ih := decL_mem hs hB k
    rw [memK_succ]
    cases hb : B.getD k false with
    | true =>
      have hk := hB k hb
      have hbit : (toN B).testBit k = true := by rw [toN_bit]; exact hb
      rw [if_pos rfl, decL_snoc, ih, Int.toNat_natCast, lessTo_yes hk hbit]
    | false =>
      have hbit : (toN B).testBit k = false := by rw [toN_bit]; exact hb
      rw [if_neg (by simp), List.append_nil, ih]
      refine ext_getD (by rw [lessTo_len, lessTo_len]) fun i hi => ?_
      rw [lessTo_len] at hi
      rw [lessTo_get hi, lessTo_get hi]
      by_cases e : k = i
      · subst e; simp [hbit]
      · have h2 : (i < k + 1) = (i < k) := by simp only [eq_iff_iff]; omega
        simp only [h2]
theorem desF_go {n : Nat} {es : List Ed} {d S : List Int} {j : Nat} : ∀ (m : Nat) (s : List Int) (k : Nat), desF n es d m s k = (S, j, 0) → k ≤ j
  | 0, s, k, h => by
    simp only [desF, Prod.mk.injEq] at h
    omega
  | m + 1, s, k, h => by
    rw [desF_succ] at h
    split at h
    · simp only [Prod.mk.injEq] at h; omega
    · split at h
      · simp only [Prod.mk.injEq] at h; omega
      · have := desF_go m _ (k + 1) h; omega
set_option maxRecDepth 10000 in
theorem descends_law (N : Int) (es : List Ed) (q : Int) (d x : List Int) : PC Try.prog 9 [G N es, .is d, .agg [.i q, .is x]] (.b true) [] := by
  refine PC_of_W cfn9 ?_
  simp -implicitDefEqProofs (disch := omega) [c9, List.getElem?_cons_zero, List.getElem?_cons_succ, wrap_id]
  refine HC_of_PC rfl (small19_ok N es q d) ?_
  cases hf : small19 N es q d
  · simp -implicitDefEqProofs (disch := omega) [List.getElem?_cons_zero, List.getElem?_cons_succ, wrap_id]
    refine HC_of_PC rfl (awake22_ok) ?_
    simp -implicitDefEqProofs (disch := omega) [List.getElem?_cons_zero, List.getElem?_cons_succ, wrap_id]
    (refine fin0 trivial rfl ?_; simp -implicitDefEqProofs (disch := omega) [List.getElem?_cons_zero, List.getElem?_cons_succ, idx, wrap_id])
  obtain ⟨hf1, h0, h60⟩ := small19_at hf
  obtain ⟨he, hd⟩ := few22_len hf1
  obtain ⟨n, rfl, h⟩ := st_ok h0
  have hn := h.n12
  have hg := h.g
  have hdl := h.c.len
  simp -implicitDefEqProofs (disch := omega) [List.getElem?_cons_zero, List.getElem?_cons_succ, wrap_id]
  by_cases hxL : x.length ≤ 1000
  rotate_left
  · refine HC_of_PC rfl (rscheck_long n es x h.gc h.n1 hn he hxL) ?_
    simp -implicitDefEqProofs (disch := omega) [List.getElem?_cons_zero, List.getElem?_cons_succ, wrap_id]
    refine HC_of_PC rfl (awake22_ok) ?_
    simp -implicitDefEqProofs (disch := omega) [List.getElem?_cons_zero, List.getElem?_cons_succ, wrap_id]
    (refine fin0 trivial rfl ?_; simp -implicitDefEqProofs (disch := omega) [List.getElem?_cons_zero, List.getElem?_cons_succ, idx, wrap_id])
  refine HC_of_PC rfl (rscheck_ok n es x (by omega) (by omega)) ?_
  by_cases h1 : givenE n es x = 0
  rotate_left
  · simp -implicitDefEqProofs (disch := omega) [List.getElem?_cons_zero, List.getElem?_cons_succ, wrap_id, h1]
    refine HC_of_PC rfl (awake22_ok) ?_
    simp -implicitDefEqProofs (disch := omega) [List.getElem?_cons_zero, List.getElem?_cons_succ, wrap_id]
    (refine fin0 trivial rfl ?_; simp -implicitDefEqProofs (disch := omega) [List.getElem?_cons_zero, List.getElem?_cons_succ, idx, wrap_id])
  obtain ⟨hxl, hxb⟩ := given_in h1
  obtain ⟨-, -, -, -, hxB, -, -⟩ := given_ok h1
  simp -implicitDefEqProofs (disch := omega) [List.getElem?_cons_zero, List.getElem?_cons_succ, wrap_id, h1]
  refine HC_of_PC rfl (dsmall_ok x (by omega)) ?_
  cases hx60 : x.all in60
  · simp -implicitDefEqProofs (disch := omega) [List.getElem?_cons_zero, List.getElem?_cons_succ, wrap_id]
    refine HC_of_PC rfl (awake22_ok) ?_
    simp -implicitDefEqProofs (disch := omega) [List.getElem?_cons_zero, List.getElem?_cons_succ, wrap_id]
    (refine fin0 trivial rfl ?_; simp -implicitDefEqProofs (disch := omega) [List.getElem?_cons_zero, List.getElem?_cons_succ, idx, wrap_id])
  simp -implicitDefEqProofs (disch := omega) [List.getElem?_cons_zero, List.getElem?_cons_succ, wrap_id]
  refine HC_of_PC rfl (rsettles_ok n es q d x he h hxl hxB) ?_
  cases hst0 : stlB n es q (movedE es x d) x
  · simp -implicitDefEqProofs (disch := omega) [List.getElem?_cons_zero, List.getElem?_cons_succ, wrap_id]
    refine HC_of_PC rfl (awake22_ok) ?_
    simp -implicitDefEqProofs (disch := omega) [List.getElem?_cons_zero, List.getElem?_cons_succ, wrap_id]
    (refine fin0 trivial rfl ?_; simp -implicitDefEqProofs (disch := omega) [List.getElem?_cons_zero, List.getElem?_cons_succ, idx, wrap_id])
  have hst := (stlB_iff hxl).1 hst0
  obtain ⟨e0, e1, e2, o⟩ := small_odo h0 h (in60_get h60)
  obtain ⟨S, hS⟩ : ∃ S, S = (stabF n es q d).1 := ⟨_, rfl⟩
  rw [← hS] at e1 e2 o
  have hSl := o.stl.st.len
  have gx : gvE n es q d x = 0 := gv_mk h0 h hxl hxb
  have rx : settledR n es q d x = 0 := settledR_mk gx hst
  have hsx : sumI x ≤ 60 * 12 := by
    rw [sumI_sumN, hxl]
    have h2 : ∀ k : Nat, sumN (fun u => x.getD u 0) k ≤ 60 * k := by
      intro k
      induction k with
      | zero => simp [sumN]
      | succ k ih => simp only [sumN]; have := (in60_get hx60 k).2; push_cast; omega
    have := h2 n
    omega
  have hS0 := o.stl.sum
  obtain ⟨j, hj1, hj2⟩ := desF_end hg hdl o.stl o.least 4098 x 0 hst (by omega) (by omega)
  rw [Nat.zero_add] at hj1
  have hj4 : (j : Int) ≤ 4096 := by omega
  have dx : desR n es q d x = (S, j, 0) := by rw [desR, if_neg (by simp [rx]), Int.toNat_natCast, hj1]
  have hjn : ¬ (j : Int) < 0 := by omega
  have hjm : ¬ (4096 : Int) < j := by omega
  simp -implicitDefEqProofs (disch := omega) [List.getElem?_cons_zero, List.getElem?_cons_succ, wrap_id]
  refine HC_of_PC rfl (stabilize_ok n es q d he hd) ?_
  simp -implicitDefEqProofs (disch := omega) [List.getElem?_cons_zero, List.getElem?_cons_succ, wrap_id, e0, e1, e2]
  refine HC_of_PC rfl (descend_ok n es q d x he hd (by omega)) ?_
  simp -implicitDefEqProofs (disch := omega) [List.getElem?_cons_zero, List.getElem?_cons_succ, wrap_id, dx]
  refine HC_of_PC rfl (same22_ok S S (by omega)) ?_
  simp -implicitDefEqProofs (disch := omega) [List.getElem?_cons_zero, List.getElem?_cons_succ, wrap_id, hjn, hjm]
  refine HC_of_PC rfl (cloneS_ok x (by omega)) ?_
  simp -implicitDefEqProofs (disch := omega) [List.getElem?_cons_zero, List.getElem?_cons_succ, wrap_id, hxl]
  refine loopW j (fun i st => ∃ s : List Int, (desF n es d (4098 - i) s i = (S, j, 0) ∧ Stl n es q d s ∧ Bd 1048576 s) ∧ st = ⟨[(90, .i i), (89, .i j), (13, .os 2 0 n), (8, .p (.is S)), (3, .ptr 0 1 0 0), (5, .ptr 1 1 0 0), (1, .p (.is d))], [.box (.p (G n es)), .box (.p (.agg [.i q, .is x])), rowI s]⟩) (Wk_keep [90, 89, 13, 8, 3, 5, 1]) ⟨x, ⟨hj1, hst, hxB⟩, rfl⟩ ?_
  rintro i st hi ⟨s, ⟨hD, hs, hsB⟩, rfl⟩
  have hsl := hs.st.len
  obtain ⟨f, hfe⟩ : ∃ f, 4098 - i = f + 1 := ⟨4097 - i, by omega⟩
  rw [hfe, desF_succ f s i] at hD
  by_cases hij : i < j
  rotate_left
  · have hij : i = j := by omega
    have hne : toN (grF n es (movedE es s d) s) = 0 := by
      refine Decidable.byContradiction fun hne => ?_
      rw [if_neg hne] at hD
      split at hD
      · simp only [Prod.mk.injEq] at hD; omega
      · have := desF_go f _ (i + 1) hD
        omega
    rw [if_pos hne] at hD
    have hsS : s = S := by simp only [Prod.mk.injEq] at hD; exact hD.1
    rw [hsS]
    simp -implicitDefEqProofs (disch := omega) [List.getElem?_cons_zero, List.getElem?_cons_succ, wrap_id, hij]
    refine HC_of_PC (by simp [views, view, viewC, hSl]) (same22_ok S S (by omega)) ?_
    simp -implicitDefEqProofs (disch := omega) [List.getElem?_cons_zero, List.getElem?_cons_succ, wrap_id]
    refine HC_of_PC rfl (awake22_ok) ?_
    simp -implicitDefEqProofs (disch := omega) [List.getElem?_cons_zero, List.getElem?_cons_succ, wrap_id]
    (refine fin0 trivial rfl ?_; simp -implicitDefEqProofs (disch := omega) [List.getElem?_cons_zero, List.getElem?_cons_succ, idx, wrap_id])
  have hne : ¬ toN (grF n es (movedE es s d) s) = 0 := fun e => by
    rw [if_pos e] at hD
    simp only [Prod.mk.injEq] at hD
    omega
  rw [if_neg hne] at hD
  have hi4 : ¬ i = 4096 := by omega
  rw [if_neg hi4] at hD
  have hsb : s.all inB = true := inB_all fun k _ => hsB k
  have gs : gvE n es q d s = 0 := gv_mk h0 h hsl hsb
  have rs : settledR n es q d s = 0 := settledR_mk gs hs
  have hst2 := gr_stl hg hdl hs
  have hb2 := gr_less_bd hg hdl hs hsB
  have hfit := grF_fit (n := n) (es := es) (L := movedE es s d) hsl
  have hBl : (grF n es (movedE es s d) s).length = 12 := grF_len
  have hw : wtL n es q d s = memK (grF n es (movedE es s d) s) 12 := by rw [wtL, if_pos rs, grR, Int.toNat_natCast]
  obtain ⟨B, hB⟩ : ∃ B, B = grF n es (movedE es s d) s := ⟨_, rfl⟩
  rw [← hB] at hne hD hst2 hb2 hfit hBl hw
  have hdm := decL_mem hsl hfit.lt 12
  rw [lessTo_12 (by omega)] at hdm
  have hwn : 0 < (memK B 12).length := Nat.pos_of_ne_zero fun e => hne ((memK_nil (by omega)).1 e)
  have hwl := memK_len B 12
  have hwv : ∀ v ∈ memK B 12, 0 ≤ v ∧ v < n := fun v hv => by
    obtain ⟨u, hu, rfl⟩ := List.mem_map.1 hv
    have := hfit.lt u (List.mem_filter.1 hu).2
    omega
  obtain ⟨w, hwe⟩ : ∃ w, w = memK B 12 := ⟨_, rfl⟩
  rw [← hwe] at hw hdm hwn hwl hwv
  have hwne : ¬ w = [] := fun e => by rw [e] at hwn; simp at hwn
  have hwn0 : ¬ w.length = 0 := by omega
  simp -implicitDefEqProofs (disch := omega) [List.getElem?_cons_zero, List.getElem?_cons_succ, wrap_id, hij]
  refine HC_of_PC (by simp [views, view, viewC, hsl]) (witness_own n es q d s he hd rs B hB) ?_
  rw [← hwe]
  simp -implicitDefEqProofs (disch := omega) [List.getElem?_cons_zero, List.getElem?_cons_succ, wrap_id, hwne, hwn0]
  refine loopW w.length (fun m st => st = ⟨[(110, .i m), (109, .i w.length), (108, .os 3 0 w.length), (90, .i i), (89, .i j), (13, .os 2 0 n), (8, .p (.is S)), (3, .ptr 0 1 0 0), (5, .ptr 1 1 0 0), (1, .p (.is d))], [.box (.p (G n es)), .box (.p (.agg [.i q, .is x])), rowI (decL s (w.take m)), rowI w]⟩) (Wk_keep [110, 109, 108, 90, 89, 13, 8, 3, 5, 1]) rfl ?_
  rintro m st hm rfl
  by_cases hmw : m < w.length
  · have hwm := hwv w[m] (List.getElem_mem hmw)
    obtain ⟨v, hv⟩ : ∃ v : Nat, w[m] = v := ⟨w[m].toNat, by omega⟩
    have hvn : v < n := by omega
    have hv0 : ¬ (v : Int) < 0 := by omega
    have hvN : ¬ (n : Int) ≤ v := by omega
    have hdl2 := decL_len s m (w.take m) (by rw [List.length_take]; omega)
    rw [hsl] at hdl2
    have hvd : v < (decL s (w.take m)).length := by omega
    have hbd := decL_bd s v m (w.take m) (by rw [List.length_take]; omega)
    have hsv := hsB v
    have htk : decL s (w.take (m + 1)) = (decL s (w.take m)).set v ((decL s (w.take m)).getD v 0 - 1) := by
      rw [List.take_add_one, List.getElem?_eq_getElem hmw, hv, Option.toList_some, decL_snoc, Int.toNat_natCast]
    have hs2 := congrArg (List.map PV.i) htk
    rw [List.map_set, getD_get hvd] at hs2
    rw [getD_get hvd] at hbd
    simp -implicitDefEqProofs (disch := omega) [List.getElem?_cons_zero, List.getElem?_cons_succ, wrap_id, hmw, hv, hv0, hvN, hvn, hdl2, hvd, ← hs2]
    exact round_keep [110, 109, 108, 90, 89, 13, 8, 3, 5, 1] hmw rfl
  · have hme : m = w.length := by omega
    subst hme
    rw [List.take_length, hdm]
    simp -implicitDefEqProofs (disch := omega) [List.getElem?_cons_zero, List.getElem?_cons_succ, wrap_id]
    refine round_end' hij (Wk_pop 3 [90, 89, 13, 8, 3, 5, 1] (by simp) (by simp) (H' := [.box (.p (G n es)), .box (.p (.agg [.i q, .is x])), rowI (lessB n s B)]) rfl ?_ ?_) ⟨lessB n s B, ⟨by rw [show 4098 - (i + 1) = f by omega]; exact hD, hst2, hb2⟩, rfl⟩
    · intro i hi
      simp only [List.mem_cons, List.not_mem_nil, or_false] at hi
      rcases hi with rfl | rfl | rfl | rfl | rfl | rfl | rfl <;> simp [Abs.get, loA]
    · intro ob hob
      simp only [List.mem_cons, List.not_mem_nil, or_false] at hob
      rcases hob with rfl | rfl | rfl <;> rfl
end Go.Proofs.Ytgjaekbbdmhjlaa
