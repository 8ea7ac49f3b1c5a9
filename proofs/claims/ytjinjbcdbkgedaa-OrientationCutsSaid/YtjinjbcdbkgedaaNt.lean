/-
  Contracts: the map of all orientations by their indegrees is filled.
-/
import Derived.Test.YtjinjbcdbkgedaaNs
set_option linter.unusedSimpArgs false
set_option linter.unusedVariables false
namespace Go.Abs
theorem nodupB_snoc : ∀ {l : List Nat} {x : Nat}, nodupB l = true → x ∉ l → nodupB (l ++ [x]) = true
  | [], x, _, _ => by simp [nodupB]
  | y :: l, x, h, hx => by
    simp only [nodupB, Bool.and_eq_true] at h
    rw [List.cons_append, nodupB, nodupB_snoc h.2 (fun hm => hx (by simp [hm]))]
    have : x ≠ y := fun e => hx (by simp [e])
    simp at h
    simp [h.1, Ne.symm this]
theorem firstB_app : ∀ {m k : Nat} {l l' : List Nat}, firstB k m l = true → firstB k m (l ++ l') = true
  | 0, k, l, l', _ => by unfold firstB; rfl
  | m + 1, k, [], l', h => by simp [firstB] at h
  | m + 1, k, x :: l, l', h => by
    simp only [firstB, Bool.and_eq_true] at h
    rw [List.cons_append, firstB, firstB_app h.2, h.1]; rfl
theorem okσ_snoc {c x : Nat} {H : List AO} (h1 : c ≤ x) (h2 : x < H.length) : okσ (List.range c ++ [x]) c H = true := by
  simp only [okσ, Bool.and_eq_true]
  refine ⟨⟨List.all_eq_true.2 fun o ho => ?_, nodupB_snoc ?_ (by simp; omega)⟩, firstB_app ?_⟩
  · rcases List.mem_append.1 ho with ho | ho
    · have := List.mem_range.1 ho
      exact decide_eq_true (by omega)
    · simp only [List.mem_singleton] at ho
      exact decide_eq_true (by omega)
  · rw [List.range_eq_range']; exact nodupB_range' c 0
  · rw [List.range_eq_range']; exact firstB_range' c c 0 (Nat.le_refl _)
theorem idx_app : ∀ (l : List Nat) (k x o : Nat), idx (l ++ [x]) k o = match idx l k o with
    | some j => some j
    | none => if x = o then some (k + l.length) else none
  | [], k, x, o => by
    rw [List.nil_append, idx_at, idx_at0]
    simp only [idx_at0]
    rfl
  | y :: l, k, x, o => by
    rw [List.cons_append, idx_at, idx_at, idx_app l (k + 1) x o]
    by_cases e : y = o
    · rw [if_pos e, if_pos e]
    · rw [if_neg e, if_neg e]
      cases idx l (k + 1) o with
      | some j => rfl
      | none => dsimp only; rw [List.length_cons]; split <;> simp; omega
theorem idx_snoc_lt {c x o : Nat} (h : o < c) : idx (List.range c ++ [x]) 0 o = some o := by rw [idx_app, idx_range h]
theorem idx_snoc_at {c x : Nat} (h : c ≤ x) : idx (List.range c ++ [x]) 0 x = some c := by rw [idx_app, idx_range_none h]; simp
theorem renH_snoc {A B : List AO} {x : Nat} {ob : AO} (hx : (A ++ B)[x]? = some ob) : renH (List.range A.length ++ [x]) (A ++ B) = A.map (fun o => o.ren (A ++ B) (idx (List.range A.length ++ [x]) 0)) ++ [ob.ren (A ++ B) (idx (List.range A.length ++ [x]) 0)] := by
  unfold renH
  rw [List.map_append, List.map_singleton, List.getD_eq_getElem?_getD, hx, Option.getD_some]
  congr 1
  apply List.ext_getElem?
  intro i
  by_cases h : i < A.length
  · simp [h, List.getD_eq_getElem?_getD, List.getElem?_append_left h]
  · simp [h]
end Go.Abs
namespace Go.Proofs.Ytjinjbcdbkgedaa
open Go.Abs Go.Sand

attribute [local simp] app_0 app_i set_0 set_i
abbrev alB (N : Int) (es : List Ed) (m : Nat) (lp : AO) (b : List Bool) (L : Cls) : List AO :=
  [.box (.p (G N es)), .dict .str (alD 6 L), .box (.mp 1), .box (.p (.i m)), lp, rowB b]
abbrev alH (N : Int) (es : List Ed) (m : Nat) (lp : AO) (b : List Bool) (L : Cls) : List AO := alB N es m lp b L ++ alT L
theorem alB_lo {N : Int} {es : List Ed} {m : Nat} {b : List Bool} {L : Cls} {t : List (Nat × AV)} {st : LSt} {ca cc : Code} (ht : ∀ c, 6 ≤ c → loT c t = true) : ∀ ob ∈ alH N es m (.lp 156 t [50] ca cc st) b L, loO (6 + L.length) ob = true := by
  intro ob hob
  rcases List.mem_append.1 hob with h | h
  · simp only [List.mem_cons, List.not_mem_nil, or_false] at h
    rcases h with rfl | rfl | rfl | rfl | rfl | rfl
    · rfl
    · refine List.all_eq_true.2 fun x hx => ?_
      obtain ⟨y, hy, rfl⟩ := List.mem_map.1 hx
      have := List.mem_zipIdx hy
      simp only [loA, decide_eq_true_eq]
      omega
    · simp [loO, loA]; omega
    · rfl
    · exact ht _ (by omega)
    · rfl
  · obtain ⟨x, _, rfl⟩ := List.mem_map.1 h
    exact loL_bos _ _
theorem clone_al {e : Bool} {N : Int} {es : List Ed} {m : Nat} {b : List Bool} {L : Cls} {t : List (Nat × AV)} {st : LSt} {ca cc : Code} {Z : List AO} {K : AV → List AO → Prop} (ht : ∀ c, 6 ≤ c → loT c t = true) (hb : b.length = m) (hm : m ≤ 1000)
    (hK : ∀ Z', K (.p (.bo b)) (.box (.p (G N es)) :: .dict .str (alD 6 L) :: .box (.mp 1) :: .box (.p (.i m)) :: .lp 156 t [50] ca cc st :: rowB b :: (alT L ++ Z'))) :
    HC Try.prog e 60 [.os 5 0 m] (.box (.p (G N es)) :: .dict .str (alD 6 L) :: .box (.mp 1) :: .box (.p (.i m)) :: .lp 156 t [50] ca cc st :: rowB b :: (alT L ++ Z)) K :=
  cloneN_hc (A := alH N es m (.lp 156 t [50] ca cc st) b L) (Z := Z) (by simp [alH, alB]) (by
    have h := alB_lo (N := N) (es := es) (m := m) (b := b) (L := L) (st := st) (ca := ca) (cc := cc) ht
    have hl : (alH N es m (.lp 156 t [50] ca cc st) b L).length = 6 + L.length := by simp [alH, alB, alT_len]; omega
    rw [hl]; exact h) (by simp [alH, alB]) hb (by omega) fun Z' => by
    have := hK Z'
    simpa [alH, alB] using this
theorem al_new {N : Int} {es : List Ed} {m : Nat} {bb : List Bool} {L : Cls} {t : List (Nat × AV)} {st : LSt} {ca cc : Code} {Z : List AO} {dd : List Int} {K : AV → List AO → Prop} (ht : ∀ c, 6 ≤ c → loT c t = true)
    (hK : K (.b true) (alH N es m (.lp 156 t [50] ca cc st) bb (L ++ [(dd, [bb])]))) :
    ∃ σ, okσ σ ((alT L).length + 1 + 1 + 1 + 1 + 1 + 1) (.box (.p (G N es)) :: .dict .str (alD 6 L ++ [(.ks (strN dd).data.toList, .os ((alT L).length + (Z.length + 1) + 1 + 1 + 1 + 1 + 1 + 1) 0 1)]) :: .box (.mp 1) :: .box (.p (.i m)) :: .lp 156 t [50] ca cc st :: rowB bb :: (alT L ++ (Z ++ [.tab [.p (.bo bb)] 25 false, .tab [.p (.bo bb)] 25 false]))) = true ∧
      K (.p (.v (.bool true))) (renH σ (.box (.p (G N es)) :: .dict .str (alD 6 L ++ [(.ks (strN dd).data.toList, .os ((alT L).length + (Z.length + 1) + 1 + 1 + 1 + 1 + 1 + 1) 0 1)]) :: .box (.mp 1) :: .box (.p (.i m)) :: .lp 156 t [50] ca cc st :: rowB bb :: (alT L ++ (Z ++ [.tab [.p (.bo bb)] 25 false, .tab [.p (.bo bb)] 25 false])))) := by
  obtain ⟨X, hX⟩ : ∃ X, X = (alT L).length + (Z.length + 1) + 1 + 1 + 1 + 1 + 1 + 1 := ⟨_, rfl⟩
  obtain ⟨A, hA⟩ : ∃ A, A = [AO.box (.p (G N es)), .dict .str (alD 6 L ++ [(.ks (strN dd).data.toList, .os X 0 1)]), .box (.mp 1), .box (.p (.i m)), .lp 156 t [50] ca cc st, rowB bb] ++ alT L := ⟨_, rfl⟩
  obtain ⟨B, hB⟩ : ∃ B, B = Z ++ [AO.tab [.p (.bo bb)] 25 false, .tab [.p (.bo bb)] 25 false] := ⟨_, rfl⟩
  have hAl : A.length = 6 + L.length := by rw [hA]; simp [alT_len]; omega
  have hc : (alT L).length + 1 + 1 + 1 + 1 + 1 + 1 = A.length := by rw [hAl, alT_len]; omega
  have hXA : X = A.length + (Z.length + 1) := by rw [hX, hAl, alT_len]; omega
  have hH : AO.box (.p (G N es)) :: .dict .str (alD 6 L ++ [(.ks (strN dd).data.toList, .os X 0 1)]) :: .box (.mp 1) :: .box (.p (.i m)) :: .lp 156 t [50] ca cc st :: rowB bb :: (alT L ++ (Z ++ [.tab [.p (.bo bb)] 25 false, .tab [.p (.bo bb)] 25 false])) = A ++ B := by rw [hA, hB]; simp
  have hx : (A ++ B)[X]? = some (.tab [.p (.bo bb)] 25 false) := by rw [hXA, app_i, hB, app_i]; rfl
  rw [← hX, hH, hc]
  refine ⟨List.range A.length ++ [X], okσ_snoc (by omega) (List.getElem?_eq_some_iff.1 hx).1, ?_⟩
  rw [renH_snoc hx]
  have hlt : ∀ o, o < A.length → Abs.idx (List.range A.length ++ [X]) 0 o = some o := fun o ho => idx_snoc_lt ho
  have hat : Abs.idx (List.range A.length ++ [X]) 0 X = some A.length := idx_snoc_at (by omega)
  have e1 : A.map (fun o => o.ren (A ++ B) (Abs.idx (List.range A.length ++ [X]) 0)) = [AO.box (.p (G N es)), .dict .str (alD 6 (L ++ [(dd, [bb])])), .box (.mp 1), .box (.p (.i m)), .lp 156 t [50] ca cc st, rowB bb] ++ alT L := by
    generalize Abs.idx (List.range A.length ++ [X]) 0 = ρ at *
    generalize hAB : A ++ B = H at *
    rw [hA, List.map_append]
    have hT : (alT L).map (fun o => o.ren H ρ) = alT L := by
      conv => rhs; rw [← List.map_id (alT L)]
      refine List.map_congr_left fun o ho => ?_
      obtain ⟨x, _, rfl⟩ := List.mem_map.1 ho
      exact loO_ren (m := 0) (fun i h => by omega) _ (loL_bos 0 _)
    rw [hT]
    congr 1
    have hlp : (AO.lp 156 t [50] ca cc st).ren H ρ = .lp 156 t [50] ca cc st := lp_ren (ht _ (Nat.le_refl 6)) (fun i hi => hlt i (by omega))
    have hD : (alD 6 L).map (fun x => (x.1, x.2.ren H ρ)) = alD 6 L := by
      conv => rhs; rw [← List.map_id (alD 6 L)]
      refine List.map_congr_left fun x hx => ?_
      obtain ⟨y, hy, rfl⟩ := List.mem_map.1 hx
      have := List.mem_zipIdx hy
      simp [AV.ren, hlt (y.2 + 6) (by omega)]
    simp only [List.map_cons, List.map_nil, hlp]
    simp only [AO.ren, List.map_append, hD, alD_app, List.map_cons, List.map_nil, List.length_singleton]
    simp [AV.ren, hlt 1 (by omega), hat, hAl, dk, Nat.add_comm]
  have e2 : (AO.tab [.p (.bo bb)] 25 false).ren (A ++ B) (Abs.idx (List.range A.length ++ [X]) 0) = .tab [.p (.bo bb)] 25 false := rfl
  rw [e1, e2]
  have e3 : [AO.box (.p (G N es)), .dict .str (alD 6 (L ++ [(dd, [bb])])), .box (.mp 1), .box (.p (.i m)), .lp 156 t [50] ca cc st, rowB bb] ++ alT L ++ [.tab [.p (.bo bb)] 25 false] = alH N es m (.lp 156 t [50] ca cc st) bb (L ++ [(dd, [bb])]) := by
    simp [alH, alB, alT_app]
  rw [e3]
  exact hK
theorem al_old {N : Int} {es : List Ed} {m : Nat} {bb : List Bool} {L : Cls} {t : List (Nat × AV)} {st : LSt} {ca cc : Code} {Z : List AO} {dd : List Int} {os : List (List Bool)} {i : Nat} {T1 : AO} {K : AV → List AO → Prop} (ht : ∀ c, 6 ≤ c → loT c t = true) (hi : i < (alT L).length)
    (hK : K (.b true) (alH N es m (.lp 156 t [50] ca cc st) bb (L.set i (dd, os ++ [bb])))) :
    ∃ σ, okσ σ ((alT L).length + 1 + 1 + 1 + 1 + 1 + 1) (.box (.p (G N es)) :: .dict .str ((alD 6 L).set i (.ks (strN dd).data.toList, .os (i + 6) 0 (os.length + 1))) :: .box (.mp 1) :: .box (.p (.i m)) :: .lp 156 t [50] ca cc st :: rowB bb :: ((alT L).set i (.tab (os.map (fun o => .p (.bo o)) ++ [.p (.bo bb)]) 25 false) ++ (Z ++ [T1]))) = true ∧
      K (.p (.v (.bool true))) (renH σ (.box (.p (G N es)) :: .dict .str ((alD 6 L).set i (.ks (strN dd).data.toList, .os (i + 6) 0 (os.length + 1))) :: .box (.mp 1) :: .box (.p (.i m)) :: .lp 156 t [50] ca cc st :: rowB bb :: ((alT L).set i (.tab (os.map (fun o => .p (.bo o)) ++ [.p (.bo bb)]) 25 false) ++ (Z ++ [T1])))) := by
  have h1 := alD_set 6 L i dd (os ++ [bb])
  have h2 := alT_set L i dd (os ++ [bb])
  rw [List.length_append, List.length_singleton] at h1
  rw [List.map_append, List.map_singleton] at h2
  have h1' : (alD 6 L).set i (.ks (strN dd).data.toList, .os (i + 6) 0 (os.length + 1)) = alD 6 (L.set i (dd, os ++ [bb])) := h1.symm
  rw [h1', ← h2]
  obtain ⟨L', hL'⟩ : ∃ L', L' = L.set i (dd, os ++ [bb]) := ⟨_, rfl⟩
  have hll : (alT L).length = (alT L').length := by rw [hL', alT_len, alT_len, List.length_set]
  rw [← hL'] at hK ⊢
  rw [hll]
  have hA := alB_lo (N := N) (es := es) (m := m) (b := bb) (L := L') (st := st) (ca := ca) (cc := cc) ht
  have hH : AO.box (.p (G N es)) :: .dict .str (alD 6 L') :: .box (.mp 1) :: .box (.p (.i m)) :: .lp 156 t [50] ca cc st :: rowB bb :: (alT L' ++ (Z ++ [T1])) = alH N es m (.lp 156 t [50] ca cc st) bb L' ++ (Z ++ [T1]) := by simp [alH, alB]
  have hl : (alH N es m (.lp 156 t [50] ca cc st) bb L').length = 6 + L'.length := by simp [alH, alB, alT_len]; omega
  have hc : (alT L').length + 1 + 1 + 1 + 1 + 1 + 1 = (alH N es m (.lp 156 t [50] ca cc st) bb L').length := by rw [hl, alT_len]; omega
  rw [hH, hc]
  rw [← hl] at hA
  refine ⟨List.range (alH N es m (.lp 156 t [50] ca cc st) bb L').length, okσ_range (Nat.le_refl _) (Nat.le_trans (Nat.le_add_right _ _) (Nat.le_of_eq List.length_append.symm)), ?_⟩
  rw [renH_range, map_ren_lo hA (Nat.le_refl _)]
  exact hK
theorem al_round {n m : Nat} {es : List Ed} (hg : gcheck n es = 0) (hel : es.length ≤ 1000) (hme : (endsL es).length = m) (hm : m ≤ 12) {t : List (Nat × AV)} (ht : ∀ c, 6 ≤ c → loT c t = true) (ht3 : Abs.get t 3 = .ptr 0 1 0 0) (ht11 : Abs.get t 11 = .ptr 2 1 0 0)
    {L : Cls} (hL : OkC n m L) (hLl : L.length ≤ 5000) {b : List Bool} (hb : b.length = m) (hos : ∀ x ∈ L, x.2.length ≤ 5000) {K : AV → List AO → Prop}
    (hK : K (.b true) (alH n es m (.lp 156 t [50] rc14_0a rc14_0c .ready) b (alIns L (inL n es b) b))) :
    HY Try.prog 4 [.os 5 0 m] (alH n es m (.lp 156 t [50] rc14_0a rc14_0c .ready) b L) K := by
  have hgood := gcheck_ok hg
  have hn := hgood.n12
  have hol : b.length = (endsL es).length := by omega
  have hdl := inL_len n es b
  have hdb : ∀ x ∈ inL n es b, 0 ≤ x ∧ x < 256 := fun x hx => by have := inL_mem_bd hgood.right hol hx; omega
  have hcz := calm_rowZ (inL n es b)
  have hix0 := alD_idx (c := 6) hL hdb
  have hft : (strN (inL n es b)).data.toList.length ≤ maxLen := by
    have : (strN (inL n es b)).data.toList.length = n := (dk_len (inL n es b)).trans hdl
    rw [this]; unfold maxLen; omega
  have hft3 : (strN (inL n es b)).size ≤ maxLen := by simpa using hft
  have hft2 : (strN (inL n es b)).data.size ≤ maxLen := by simpa using hft
  refine HY_norm (HY_of_W rfl rcc14_0a rcc14_0c rfl rfl rfl rfl ?_)
  dsimp only [alH, alB]
  simp -implicitDefEqProofs (disch := omega) [List.getElem?_cons_zero, List.getElem?_cons_succ, wrap_id, ra14_0a, ra14_0c, ht3]
  refine HC_of_PC (by simp [views, view, viewC, ownEls, hb]) (indegrees_ok n es b hg hel hol) ?_
  simp -implicitDefEqProofs (disch := omega) [List.getElem?_cons_zero, List.getElem?_cons_succ, wrap_id, hcz, hb]
  refine HC_of_PC (by simp [views, view, viewC, ownEls, hdl]) (key_ok (inL n es b) (by omega) hdb) ?_
  simp -implicitDefEqProofs (disch := omega) [List.getElem?_cons_zero, List.getElem?_cons_succ, wrap_id]
  refine tree_all ?_
  cases hai : alIdx (inL n es b) L with
  | none =>
    have hix : dIdx (.ks (strN (inL n es b)).data.toList) (alD 6 L) = none := hix0.trans hai
    have hal : alIns L (inL n es b) b = L ++ [(inL n es b, [b])] := by unfold alIns; rw [hai]
    rw [hal] at hK
    simp -implicitDefEqProofs (disch := omega) [List.getElem?_cons_zero, List.getElem?_cons_succ, wrap_id, hft, hft2, hft3, hix, ht11]
    repeat' apply And.intro
    all_goals
      refine clone_al ht hb (by omega) fun Z => ?_
      simp -implicitDefEqProofs (disch := omega) [List.getElem?_cons_zero, List.getElem?_cons_succ, wrap_id, hft, hft2, hft3, hix, ht11]
    all_goals exact al_new ht hK
  | some i =>
    have hix : dIdx (.ks (strN (inL n es b)).data.toList) (alD 6 L) = some i := hix0.trans hai
    obtain ⟨os, hLi⟩ := alIdx_some hai
    have hDi := alD_get (c := 6) hLi
    have hTi := alT_get hLi
    have hil := (List.getElem?_eq_some_iff.1 hTi).1
    have hTi2 : ∀ W, (alT L ++ W)[i]? = some (.tab (os.map fun o => .p (.bo o)) 25 false) := fun W => by rw [List.getElem?_append_left hil]; exact hTi
    have hTs : ∀ W x, (alT L ++ W).set i x = (alT L).set i x ++ W := fun W x => List.set_append_left _ _ hil
    have hol5 : os.length + 1 ≤ 1048576 := by have := hos _ (List.mem_of_getElem? hLi); dsimp only at this; omega
    have hal : alIns L (inL n es b) b = L.set i (inL n es b, os ++ [b]) := by unfold alIns alGet; rw [hai]; dsimp only; rw [hLi]; rfl
    rw [hal] at hK
    simp -implicitDefEqProofs (disch := omega) [List.getElem?_cons_zero, List.getElem?_cons_succ, wrap_id, hft, hft2, hft3, hix, ht11, hDi]
    repeat' apply And.intro
    all_goals
      refine clone_al ht hb (by omega) fun Z => ?_
      simp -implicitDefEqProofs (disch := omega) [List.getElem?_cons_zero, List.getElem?_cons_succ, wrap_id, hft, hft2, hft3, hix, ht11, hDi, hTi2, hTs, hol5]
    all_goals exact al_old ht hil hK
theorem alK_cls (n : Nat) (es : List Ed) (m k : Nat) : ∀ x ∈ alK n es m k, x.2.length ≤ k := by
  induction k with
  | zero => intro x hx; simp [alK] at hx
  | succ k ih =>
    intro x hx
    rw [alK_succ] at hx
    unfold alIns at hx
    split at hx
    · rename_i i hi
      rcases List.mem_or_eq_of_mem_set hx with hx | rfl
      · have := ih x hx; omega
      · obtain ⟨os, hos⟩ := alIdx_some hi
        have := ih _ (List.mem_of_getElem? hos)
        unfold alGet
        rw [hi]
        dsimp only at this ⊢
        rw [hos, List.length_append]
        simp
        omega
    · rcases List.mem_append.1 hx with hx | hx
      · have := ih x hx; omega
      · simp only [List.mem_singleton] at hx
        subst hx
        simp
theorem alK_ok {n : Nat} {es : List Ed} (hg : gcheck n es = 0) {m : Nat} (hme : (endsL es).length = m) (hm : m ≤ 12) (k : Nat) : OkC n m (alK n es m k) := by
  induction k with
  | zero => intro x hx; simp [alK] at hx
  | succ k ih =>
    rw [alK_succ]
    have hgood := gcheck_ok hg
    exact ih.ins (fun x hx => by have := inL_mem_bd hgood.right (by rw [numB_len, hme]) hx; omega) (inL_len _ _ _) (numB_len _ _)
theorem al_range {n m : Nat} {es : List Ed} (hg : gcheck n es = 0) (hel : es.length ≤ 1000) (hme : (endsL es).length = m) (hm : m ≤ 12) {t : List (Nat × AV)} (ht : ∀ c, 6 ≤ c → loT c t = true) (ht3 : Abs.get t 3 = .ptr 0 1 0 0) (ht11 : Abs.get t 11 = .ptr 2 1 0 0) {K : AV → List AO → Prop}
    (hK : ∀ r b, K r (alH n es m (.lp 156 t [50] rc14_0a rc14_0c .ready) b (alK n es m (2 ^ m)))) :
    HC Try.prog false 90 [.yl 4, .ptr 3 1 0 0] [.box (.p (G n es)), .dict .str [], .box (.mp 1), .box (.p (.i m)), .lp 156 t [50] rc14_0a rc14_0c .ready] K := by
  have h12 : 2 ^ m ≤ 4096 := Nat.pow_le_pow_right (n := 2) (by omega) hm
  refine orients_range (L := 5) (Hk := fun k b => alH n es m (.lp 156 t [50] rc14_0a rc14_0c .ready) b (alK n es m k)) (by omega) rfl rfl (fun k b => rfl) (fun k b => rfl) (fun k b => rfl) rfl (fun k b b' => rfl) (fun T => Wk.refl _ _) (fun k hk K' hK' => ?_) hK
  have hl := alK_len n es m k
  rw [alK_succ] at hK'
  exact al_round hg hel hme hm ht ht3 ht11 (alK_ok hg hme hm k) (by omega) (numB_len m k) (fun x hx => by have := alK_cls n es m k x hx; omega) hK'
end Go.Proofs.Ytjinjbcdbkgedaa
