/-
  Texts joined: Gm Gq Wb Rg Rh Ri.
-/
import Derived.Test.YtolfhldbfeffaaaKf23

section
set_option linter.unusedVariables false
namespace Go.Sand
/-- Joining over single edges: the classes, and how many single edges join nothing. -/
def gStep (s : (Nat → Nat) × Nat) (p : Int × Int) : (Nat → Nat) × Nat := (joinC s.1 p.1.toNat p.2.toNat, s.2 + if s.1 p.1.toNat = s.1 p.2.toNat then 1 else 0)
def gSt (l : List (Int × Int)) : (Nat → Nat) × Nat := l.foldl gStep (id, 0)
def gFo (l : List (Int × Int)) : List Int := (l.foldl (fun (s : List Int × (Nat → Nat)) p => (s.1.set (max (s.2 p.1.toNat) (s.2 p.2.toNat)) ((min (s.2 p.1.toNat) (s.2 p.2.toNat) : Nat) : Int), joinC s.2 p.1.toNat p.2.toNat)) ((List.range 12).map fun i : Nat => (i : Int), id)).1
theorem gSt_snoc (l : List (Int × Int)) (p : Int × Int) : gSt (l ++ [p]) = gStep (gSt l) p := by simp [gSt, List.foldl_append]
theorem gFo_cls (l : List (Int × Int)) : (l.foldl (fun (s : List Int × (Nat → Nat)) p => (s.1.set (max (s.2 p.1.toNat) (s.2 p.2.toNat)) ((min (s.2 p.1.toNat) (s.2 p.2.toNat) : Nat) : Int), joinC s.2 p.1.toNat p.2.toNat)) ((List.range 12).map fun i : Nat => (i : Int), id)).2 = (gSt l).1 := by
  have key : ∀ (l : List (Int × Int)) (F : List Int) (c : Nat → Nat) (k : Nat), (l.foldl (fun (s : List Int × (Nat → Nat)) p => (s.1.set (max (s.2 p.1.toNat) (s.2 p.2.toNat)) ((min (s.2 p.1.toNat) (s.2 p.2.toNat) : Nat) : Int), joinC s.2 p.1.toNat p.2.toNat)) (F, c)).2 = (l.foldl gStep (c, k)).1 := by
    intro l
    induction l with
    | nil => intro F c k; rfl
    | cons p l ih => intro F c k; rw [List.foldl_cons, List.foldl_cons]; exact ih _ _ _
  exact key l _ _ _
theorem gFo_snoc (l : List (Int × Int)) (p : Int × Int) : gFo (l ++ [p]) = (gFo l).set (max ((gSt l).1 p.1.toNat) ((gSt l).1 p.2.toNat)) ((min ((gSt l).1 p.1.toNat) ((gSt l).1 p.2.toNat) : Nat) : Int) := by
  unfold gFo
  rw [List.foldl_append, List.foldl_cons, List.foldl_nil, gFo_cls]
theorem gSt_forest {n : Nat} (hn : n ≤ 12) : ∀ (l : List (Int × Int)), (∀ p ∈ l, (0 ≤ p.1 ∧ p.1 < n) ∧ 0 ≤ p.2 ∧ p.2 < n) → Forest (gFo l) (gSt l).1 := by
  intro l
  have : ∀ (k : Nat) (l : List (Int × Int)), l.length = k → (∀ p ∈ l, (0 ≤ p.1 ∧ p.1 < n) ∧ 0 ≤ p.2 ∧ p.2 < n) → Forest (gFo l) (gSt l).1 := by
    intro k
    induction k with
    | zero => intro l hl _; rw [List.eq_nil_of_length_eq_zero hl]; exact grown_forest
    | succ k ih =>
      intro l hl h
      have hne : l ≠ [] := by intro e; rw [e] at hl; cases hl
      have e := List.dropLast_concat_getLast hne
      rw [← e] at h ⊢
      have hp := h (l.getLast hne) (by simp)
      have hF := ih l.dropLast (by simp [hl]) fun p hp => h p (by simp [hp])
      rw [gFo_snoc, gSt_snoc]
      exact hF.join (by omega) (by omega)
  exact this l.length l rfl
/-- How many of the first n vertices stand for their class. -/
def rootN (c : Nat → Nat) (n : Nat) : Nat := ((List.range n).filter fun v => decide (c v = v)).length
theorem filter_less {p r : Nat → Bool} {M : Nat} : ∀ {n : Nat}, M < n → p M = true → r M = false → (∀ v, v < n → v ≠ M → r v = p v) → ((List.range n).filter r).length + 1 = ((List.range n).filter p).length
  | 0, h, _, _, _ => by omega
  | n + 1, h, h1, h2, h3 => by
    rw [List.range_succ, List.filter_append, List.filter_append, List.length_append, List.length_append]
    by_cases e : M = n
    · subst e
      have : (List.range M).filter r = (List.range M).filter p := List.filter_congr fun v hv => h3 v (by have := List.mem_range.1 hv; omega) (by have := List.mem_range.1 hv; omega)
      rw [this]
      simp [h1, h2]
    · have ih := filter_less (n := n) (by omega) h1 h2 fun v hv hne => h3 v (by omega) hne
      have : r n = p n := h3 n (by omega) (by omega)
      simp only [List.filter_cons, List.filter_nil, this]
      omega
theorem root_join {F : List Int} {c : Nat → Nat} (h : Forest F c) {n a b : Nat} (hn : n ≤ 12) (ha : a < n) (hb : b < n) : rootN (joinC c a b) n + (if c a = c b then 0 else 1) = rootN c n := by
  obtain ⟨a1, a2⟩ := h.le a (by omega)
  obtain ⟨b1, b2⟩ := h.le b (by omega)
  by_cases e : c a = c b
  · rw [if_pos e]
    have : joinC c a b = c := funext fun v => by unfold joinC; split <;> omega
    rw [this]; rfl
  · rw [if_neg e]
    unfold rootN
    obtain ⟨M, hM⟩ : ∃ M, M = max (c a) (c b) := ⟨_, rfl⟩
    obtain ⟨m, hm⟩ : ∃ m, m = min (c a) (c b) := ⟨_, rfl⟩
    have cM : c M = M := by
      rcases Nat.le_total (c a) (c b) with e | e
      · rw [show M = c b by omega, b2]
      · rw [show M = c a by omega, a2]
    have cm : c m = m := by
      rcases Nat.le_total (c a) (c b) with e | e
      · rw [show m = c a by omega, a2]
      · rw [show m = c b by omega, b2]
    refine filter_less (M := M) (by omega) (by simpa using cM) ?_ fun v hv hne => ?_
    · have : joinC c a b M = m := by rw [joinC, ← hM, ← hm, if_pos cM]
      rw [this]; simp; omega
    · rw [joinC, ← hM, ← hm]
      by_cases hc : c v = M
      · rw [if_pos hc]
        have h1 : ¬ c v = v := by omega
        have h2 : ¬ m = v := fun e2 => by rw [← e2, cm] at hc; omega
        simp [h1, h2]
      · rw [if_neg hc]
theorem gSt_count {n : Nat} (hn : n ≤ 12) : ∀ (k : Nat) (l : List (Int × Int)), l.length = k → (∀ p ∈ l, (0 ≤ p.1 ∧ p.1 < n) ∧ 0 ≤ p.2 ∧ p.2 < n) → (gSt l).2 + n = l.length + rootN (gSt l).1 n := by
  intro k
  induction k with
  | zero =>
    intro l hl _
    rw [List.eq_nil_of_length_eq_zero hl]
    have : ((List.range n).filter fun v => decide (id v = v)) = List.range n := List.filter_eq_self.2 fun v _ => by simp
    have h2 : rootN (gSt []).1 n = n := by show ((List.range n).filter fun v => decide (id v = v)).length = n; rw [this, List.length_range]
    rw [h2]
    rfl
  | succ k ih =>
    intro l hl h
    have hne : l ≠ [] := by intro e; rw [e] at hl; cases hl
    have e := List.dropLast_concat_getLast hne
    rw [← e] at h ⊢
    have hp := h (l.getLast hne) (by simp)
    have hs : ∀ p ∈ l.dropLast, (0 ≤ p.1 ∧ p.1 < n) ∧ 0 ≤ p.2 ∧ p.2 < n := fun p hp => h p (by simp [hp])
    have ih := ih l.dropLast (by simp [hl]) hs
    have hr := root_join (gSt_forest hn l.dropLast hs) hn (a := (l.getLast hne).1.toNat) (b := (l.getLast hne).2.toNat) (by omega) (by omega)
    rw [gSt_snoc, List.length_append]
    simp only [gStep, List.length_singleton]
    split at hr <;> rename_i hh <;> simp only [hh, if_true, if_false] <;> omega
theorem join_twice {F : List Int} {c : Nat → Nat} (h : Forest F c) {a b : Nat} (ha : a < 12) (hb : b < 12) : joinC (joinC c a b) a b = joinC c a b := by
  have e : joinC c a b a = joinC c a b b := by unfold joinC; (repeat' split) <;> omega
  obtain ⟨c', hc'⟩ : ∃ c', c' = joinC c a b := ⟨_, rfl⟩
  rw [← hc'] at e ⊢
  funext v
  unfold joinC
  split <;> omega
theorem gSt_rep {n : Nat} (hn : n ≤ 12) (l : List (Int × Int)) (hl : ∀ p ∈ l, (0 ≤ p.1 ∧ p.1 < n) ∧ 0 ≤ p.2 ∧ p.2 < n) (p : Int × Int) (hp : (0 ≤ p.1 ∧ p.1 < n) ∧ 0 ≤ p.2 ∧ p.2 < n) : ∀ m : Nat, (gSt (l ++ List.replicate (m + 1) p)).1 = joinC (gSt l).1 p.1.toNat p.2.toNat := by
  intro m
  induction m with
  | zero => rw [show List.replicate (0 + 1) p = [p] from rfl, gSt_snoc]; rfl
  | succ m ih =>
    rw [List.replicate_succ' , ← List.append_assoc, gSt_snoc]
    show joinC _ _ _ = _
    rw [ih]
    exact join_twice (gSt_forest hn l hl) (by omega) (by omega)
theorem gSt_ends {n : Nat} (hn : n ≤ 12) {es : List Ed} (hr : ∀ x ∈ es, Right n x) : ∀ k, k ≤ es.length → (gSt (endsL (es.take k))).1 = (ufJ (es.take k)).2
  | 0, _ => rfl
  | k + 1, hk => by
    have ih := gSt_ends hn hr k (by omega)
    have r := hr _ (List.getElem_mem (by omega : k < es.length))
    have h1 := r.a0
    have h2 := r.an
    have h3 := r.b0
    have h4 := r.bn
    have h5 := r.m1
    have hin : ∀ p ∈ endsL (es.take k), (0 ≤ p.1 ∧ p.1 < (n : Int)) ∧ 0 ≤ p.2 ∧ p.2 < (n : Int) := fun p hp => by
      simp only [endsL, List.mem_flatMap, List.mem_replicate] at hp
      obtain ⟨x, hx, _, rfl⟩ := hp
      have r := hr x (List.mem_of_mem_take hx)
      exact ⟨⟨r.a0, r.an⟩, r.b0, r.bn⟩
    obtain ⟨m, hm⟩ : ∃ m, es[k].m.toNat = m + 1 := ⟨es[k].m.toNat - 1, by omega⟩
    rw [endsL_snoc es k (by omega), ufJ_snoc es k (by omega), hm, gSt_rep hn _ hin (es[k].a, es[k].b) ⟨⟨h1, h2⟩, h3, h4⟩, ih]
def genI (N : Int) (es : List Ed) : Int := ((endsL es).length : Int) - N + partsN es N.toNat
theorem gSt_gen {n : Nat} (hn : n ≤ 12) {es : List Ed} (hr : ∀ x ∈ es, Right n x) : ((gSt (endsL es)).2 : Int) = genI n es := by
  have hin : ∀ p ∈ endsL es, (0 ≤ p.1 ∧ p.1 < (n : Int)) ∧ 0 ≤ p.2 ∧ p.2 < (n : Int) := fun p hp => by
    simp only [endsL, List.mem_flatMap, List.mem_replicate] at hp
    obtain ⟨x, hx, _, rfl⟩ := hp
    have r := hr x hx
    exact ⟨⟨r.a0, r.an⟩, r.b0, r.bn⟩
  have h1 := gSt_count hn _ (endsL es) rfl hin
  have h2 := gSt_ends hn hr es.length (Nat.le_refl _)
  rw [List.take_length] at h2
  have h3 : rootN (gSt (endsL es)).1 n = partsN es n := by rw [h2]; rfl
  rw [genI, Int.toNat_natCast]
  omega
end Go.Sand
end
section
set_option linter.unusedSimpArgs false
set_option linter.unusedVariables false
namespace Go.Proofs.Ytolfhldbfeffaaa
open Go.Abs Go.Sand
attribute [local simp ↓ 10000] putA_ints
theorem F_view (H : List AO) : ∀ F : List Int, viewL H ((F.map PV.i).map AV.p) = some (F.map PV.i)
  | [] => rfl
  | x :: F => by
    show viewL H (.p (.i x) :: (F.map PV.i).map AV.p) = _
    rw [viewL, F_view H F]; rfl
theorem groot_ok {e : Bool} {F : List Int} {c : Nat → Nat} {H : List AO} {o : Nat} {R : AV → List AO → Prop} (hF : Forest F c) (ho : H[o]? = some (boxF F)) (v : Nat) (hv : v < 12) (hR : R (.i (c v)) H) : HC Try.prog e 56 [.ptr o 1 0 0, .i v] H R := by
  have hview : view H (.agg (AV.p (.agg (F.map PV.i))).flat) = some (.agg (F.map PV.i)) := by
    show (match viewL H ((F.map PV.i).map AV.p) with
      | some m => if m.all (·.one) then some (PV.agg m) else none
      | none => none) = _
    rw [F_view]
    dsimp only
    rw [if_pos]
    refine List.all_eq_true.2 fun e he => ?_
    obtain ⟨x, _, rfl⟩ := List.mem_map.1 he
    rfl
  refine HC_ptr (rest := [.i v]) (ps := F.map PV.i) (x := .int .i64 (c v)) cfn56 ho hview ?_ hR
  simp -implicitDefEqProofs (disch := omega) [c56, List.getElem?_cons_zero, List.getElem?_cons_succ, wrap_id]
  refine loopW v (fun k s => ∃ u : Nat, s = ⟨[(1, .i u), (0, .sp (.agg (F.map PV.i)) 0), (4, .i 0)], []⟩ ∧ u + k ≤ v ∧ c u = c v) (Wk_keep [1, 0, 4]) ⟨v, rfl, by omega, rfl⟩ ?_
  rintro k s hk ⟨u, rfl, huk, hc⟩
  obtain ⟨p, h1, h2, h3, h4⟩ := hF.par u (by omega)
  have hg := get_F h1
  have hu : u < 12 := by omega
  by_cases e : p = u
  · have hcu := h4 e
    subst e
    have hcv : c v = p := by rw [← hc, hcu]
    simp -implicitDefEqProofs (disch := omega) [List.getElem?_cons_zero, List.getElem?_cons_succ, wrap_id, hg, hu]
    (refine fin0 trivial rfl ?_; simp -implicitDefEqProofs (disch := omega) [List.getElem?_cons_zero, List.getElem?_cons_succ, idx, wrap_id, hcv])
  · have e' : ¬ ((p : Int) = (u : Int)) := by omega
    simp -implicitDefEqProofs (disch := omega) [List.getElem?_cons_zero, List.getElem?_cons_succ, wrap_id, hg, hu, e']
    exact round_keep [1, 0, 4] (by omega) ⟨p, rfl, by omega, by rw [h3]; exact hc⟩
/-- The objects while the genus is counted. -/
abbrev genH (N : Int) (es : List Ed) (lp : AO) (L : List (Int × Int)) (T : List AO) : List AO := .box (.p (G N es)) :: boxF (gFo L) :: .box (.p (.i (gSt L).2)) :: .box (.p (G N es)) :: lp :: T
theorem gen_range (n : Nat) (es : List Ed) (hn : n ≤ 12) (hg : ∀ x ∈ es, Right n x) (he : es.length ≤ 1000) (t : List (Nat × AV)) (ht5 : Abs.get t 5 = .ptr 1 1 0 0) (ht7 : Abs.get t 7 = .ptr 2 1 0 0) (hf : loT 5 t = true) {K : AV → List AO → Prop}
    (hK : ∀ r, K r (genH n es (.lp 47 t [26, 27] rc40_0a rc40_0c .ready) (endsL es) [])) :
    HC Try.prog false 68 [.yl 4, .ptr 3 1 0 0] (genH n es (.lp 47 t [26, 27] rc40_0a rc40_0c .ready) [] []) K := by
  have hlp : ∀ H, AO.ren H (Abs.idx [0, 1, 2, 3, 4] 0) (.lp 47 t [26, 27] rc40_0a rc40_0c .ready) = .lp 47 t [26, 27] rc40_0a rc40_0c .ready := fun H => lp_ren hf (by decide)
  have hlp5 : ∀ H, AO.ren H (Abs.idx [0, 1, 2, 3, 4, 5] 0) (.lp 47 t [26, 27] rc40_0a rc40_0c .ready) = .lp 47 t [26, 27] rc40_0a rc40_0c .ready := fun H => lp_ren hf (by decide)
  refine HC_of_W (af := _) ((by exact cfn68 : cfn _ _ _ = some _)) ?_
  simp -implicitDefEqProofs (disch := omega) [c68, List.getElem?_cons_zero, List.getElem?_cons_succ, wrap_id]
  refine loopS es.length (fun k s => s = ⟨[(9, .i k), (8, .i es.length), (7, .p (.sl (es.map edP))), (3, .i (endsL (es.take k)).length), (0, .yl 4), (1, .ptr 3 1 0 0)], genH n es (.lp 47 t [26, 27] rc40_0a rc40_0c .ready) (endsL (es.take k)) []⟩)
    [0, 1, 2, 3, 4] [9, 8, 7, 3, 0, 1] rfl (by simp -implicitDefEqProofs [-AO.ren, norm, renH, ren_box, ren_fbx, ren_row, ren_tab, ren_dict, Abs.get, AV.ren, idx_at, idx_at0, hlp, show endsL [] = [] from rfl]) ?_
  rintro k s hk rfl
  have hL := endsL_take_len hg he k
  by_cases hlt : k < es.length
  · have hr := hg es[k] (List.getElem_mem hlt)
    obtain ⟨m, hm⟩ : ∃ m : Nat, es[k].m = m := ⟨es[k].m.toNat, by have := hr.m1; omega⟩
    have hm50 : m ≤ 50 := by have := hr.m50; omega
    simp -implicitDefEqProofs (disch := omega) [List.getElem?_cons_zero, List.getElem?_cons_succ, wrap_id, hlt, hm]
    refine loopS m (fun j s => s = ⟨[(15, .i j), (14, .i m), (5, .ptr 5 1 0 0), (9, .i k), (8, .i es.length), (7, .p (.sl (es.map edP))), (3, .i ((endsL (es.take k)).length + j : Nat)), (0, .yl 4), (1, .ptr 3 1 0 0)], genH n es (.lp 47 t [26, 27] rc40_0a rc40_0c .ready) (endsL (es.take k) ++ List.replicate j (es[k].a, es[k].b)) [.box (.p (edP es[k]))]⟩)
      [0, 1, 2, 3, 4, 5] [15, 14, 5, 9, 8, 7, 3, 0, 1] rfl (by simp -implicitDefEqProofs [-AO.ren, norm, renH, ren_box, ren_fbx, ren_row, ren_tab, ren_dict, Abs.get, AV.ren, idx_at, idx_at0, hlp5, hm, genH]) ?_
    rintro j s hj rfl
    by_cases hlj : j < m
    · have hL2 : (endsL (es.take k)).length + (j + 1) ≤ 1048576 := by omega
      have h1 := hr.a0
      have h2 := hr.an
      have h3 := hr.b0
      have h4 := hr.bn
      obtain ⟨a, ha⟩ : ∃ a : Nat, es[k].a = a := ⟨es[k].a.toNat, by omega⟩
      obtain ⟨b, hb⟩ : ∃ b : Nat, es[k].b = b := ⟨es[k].b.toNat, by omega⟩
      have hsn : endsL (es.take k) ++ List.replicate (j + 1) ((a : Int), (b : Int)) = endsL (es.take k) ++ List.replicate j ((a : Int), (b : Int)) ++ [((a : Int), (b : Int))] := by rw [List.replicate_succ', List.append_assoc]
      rw [ha, hb]
      obtain ⟨L, hLd⟩ : ∃ L, L = endsL (es.take k) ++ List.replicate j ((a : Int), (b : Int)) := ⟨_, rfl⟩
      rw [← hLd] at hsn ⊢
      have hLin : ∀ p ∈ L, (0 ≤ p.1 ∧ p.1 < (n : Int)) ∧ 0 ≤ p.2 ∧ p.2 < (n : Int) := fun p hp => by
        rw [hLd] at hp
        rcases List.mem_append.1 hp with hp | hp
        · simp only [endsL, List.mem_flatMap, List.mem_replicate] at hp
          obtain ⟨x, hx, _, rfl⟩ := hp
          have r := hg x (List.mem_of_mem_take hx)
          exact ⟨⟨r.a0, r.an⟩, r.b0, r.bn⟩
        · rw [List.eq_of_mem_replicate hp]
          exact ⟨⟨by omega, by omega⟩, by omega, by omega⟩
      have hF := gSt_forest hn L hLin
      have hFl := hF.len
      have hcnt := gSt_count hn _ L rfl hLin
      have hroot : rootN (gSt L).1 n ≤ n := by unfold rootN; have := List.length_filter_le (fun v => decide ((gSt L).1 v = v)) (List.range n); simpa using this
      have hLl : L.length ≤ 60000 := by rw [hLd, List.length_append, List.length_replicate]; omega
      have hg6 : (gSt L).2 ≤ 60000 := by omega
      have e1 := gFo_snoc L ((a : Int), (b : Int))
      have e2 : (gSt (L ++ [((a : Int), (b : Int))])).2 = (gSt L).2 + if (gSt L).1 a = (gSt L).1 b then 1 else 0 := by rw [gSt_snoc]; rfl
      simp only [Int.toNat_natCast] at e1
      obtain ⟨c, hc⟩ : ∃ c, c = (gSt L).1 := ⟨_, rfl⟩
      obtain ⟨F, hFd⟩ : ∃ F, F = gFo L := ⟨_, rfl⟩
      obtain ⟨g, hgd⟩ : ∃ g, g = (gSt L).2 := ⟨_, rfl⟩
      rw [← hc, ← hFd] at hF e1
      rw [← hc, ← hgd] at e2
      rw [← hFd] at hFl
      rw [← hgd] at hg6
      rw [genH, ← hFd, ← hgd]
      obtain ⟨a1, _⟩ := hF.le a (by omega)
      obtain ⟨b1, _⟩ := hF.le b (by omega)
      have m1 : max (c a : Int) (c b) = ((max (c a) (c b) : Nat) : Int) := by omega
      have m2 : min (c a : Int) (c b) = ((min (c a) (c b) : Nat) : Int) := by omega
      obtain ⟨M, hM⟩ : ∃ M, M = max (c a) (c b) := ⟨_, rfl⟩
      rw [← hM] at m1 e1
      have hM12 : M < 12 := by omega
      have hset : (F.set M ((min (c a) (c b) : Nat) : Int)) = gFo (L ++ [((a : Int), (b : Int))]) := e1.symm
      simp -implicitDefEqProofs (disch := omega) [List.getElem?_cons_zero, List.getElem?_cons_succ, wrap_id, hlj, ha, hb]
      refine HY_of_W rfl rcc40_0a rcc40_0c rfl rfl rfl rfl ?_
      simp -implicitDefEqProofs (disch := omega) [List.getElem?_cons_zero, List.getElem?_cons_succ, wrap_id, ra40_0a, ra40_0c, ht5, ht7, hL2]
      refine groot_ok hF (o := 1) rfl a (by omega) ?_
      simp -implicitDefEqProofs (disch := omega) [List.getElem?_cons_zero, List.getElem?_cons_succ, wrap_id, ht5, ht7]
      refine groot_ok hF (o := 1) rfl b (by omega) ?_
      by_cases hab : c a = c b
      · have hab' : ((c a : Nat) : Int) = c b := by omega
        rw [if_pos hab] at e2
        have hMb : M = c b := by omega
        have hmb : min (c a) (c b) = c b := by omega
        have hcb : c b < 12 := by omega
        rw [hMb, hmb] at e1
        simp -implicitDefEqProofs (disch := omega) [List.getElem?_cons_zero, List.getElem?_cons_succ, wrap_id, ht5, ht7, hab', hcb, hFl]
        exact round_end [0, 1, 2, 3, 4, 5] [15, 14, 5, 9, 8, 7, 3, 0, 1] hlj rfl (by simp -implicitDefEqProofs [-AO.ren, norm, renH, ren_box, ren_fbx, ren_row, ren_tab, ren_dict, Abs.get, AV.ren, idx_at, idx_at0, hlp5, genH, hsn, e1, e2, List.map_set, Int.add_assoc])
      · have hab' : ¬ ((c a : Nat) : Int) = c b := by omega
        rw [if_neg hab, Nat.add_zero] at e2
        simp -implicitDefEqProofs (disch := omega) [List.getElem?_cons_zero, List.getElem?_cons_succ, wrap_id, ht5, ht7, hab', m1, m2, hM12, hFl]
        exact round_end [0, 1, 2, 3, 4, 5] [15, 14, 5, 9, 8, 7, 3, 0, 1] hlj rfl (by simp -implicitDefEqProofs [-AO.ren, norm, renH, ren_box, ren_fbx, ren_row, ren_tab, ren_dict, Abs.get, AV.ren, idx_at, idx_at0, hlp5, genH, hsn, e1, e2, List.map_set, Int.add_assoc])
    · have hjm : j = m := by omega
      subst hjm
      have hs := endsL_snoc es k hlt
      rw [hm, Int.toNat_natCast] at hs
      simp -implicitDefEqProofs (disch := omega) [List.getElem?_cons_zero, List.getElem?_cons_succ, wrap_id]
      exact round_end [0, 1, 2, 3, 4] [9, 8, 7, 3, 0, 1] hlt rfl (by simp -implicitDefEqProofs [-AO.ren, norm, renH, ren_box, ren_fbx, ren_row, ren_tab, ren_dict, Abs.get, AV.ren, idx_at, idx_at0, hlp, hs, genH])
  · have hk : k = es.length := by omega
    subst hk
    rw [List.take_length]
    simp -implicitDefEqProofs (disch := omega) [List.getElem?_cons_zero, List.getElem?_cons_succ, wrap_id]
    exact finH trivial rfl (hK _)
theorem ggenus_ok (N : Int) (es : List Ed) (hel : es.length ≤ 900) : PC Try.prog 40 [G N es] (.tup [.i (if gcheck N es = 0 then genI N es else 0), .i (gcheck N es)]) [] := by
  refine PC_of_W cfn40 ?_
  simp -implicitDefEqProofs (disch := omega) [c40, List.getElem?_cons_zero, List.getElem?_cons_succ, wrap_id]
  refine HC_of_PC rfl (gcheck_ok' N es (by omega)) ?_
  by_cases hgc : gcheck N es = 0
  rotate_left
  · simp -implicitDefEqProofs (disch := omega) [List.getElem?_cons_zero, List.getElem?_cons_succ, wrap_id, hgc]
    (refine fin0 trivial rfl ?_; simp -implicitDefEqProofs (disch := omega) [List.getElem?_cons_zero, List.getElem?_cons_succ, idx, wrap_id, hgc])
  have hg := gcheck_ok hgc
  have hn1 := hg.n1
  have hn12 := hg.n12
  obtain ⟨n, rfl⟩ : ∃ n : Nat, N = n := ⟨N.toNat, by omega⟩
  have hn : n ≤ 12 := by omega
  simp -implicitDefEqProofs (disch := omega) [List.getElem?_cons_zero, List.getElem?_cons_succ, wrap_id, hgc]
  refine loopW 12 (fun k s => s = ⟨[(17, .i k), (5, .ptr 1 1 0 0), (1, .ptr 0 1 0 0)], [.box (.p (G n es)), boxF (gF k)]⟩) (wk_norm [0, 1] [17, 5, 1] rfl rfl) rfl ?_
  rintro k s hk rfl
  by_cases hlt : k < 12
  · have hl : (gF k).length = 12 := by simp [gF]
    have hs := congrArg (List.map PV.i) (gF_set k hlt)
    rw [List.map_set] at hs
    have hlt' : (k : Int) < 12 := by omega
    simp -implicitDefEqProofs (disch := omega) [List.getElem?_cons_zero, List.getElem?_cons_succ, wrap_id, hlt', hlt, hl, hs]
    exact round_end [0, 1] [17, 5, 1] hlt rfl rfl
  · have hk12 : k = 12 := by omega
    subst hk12
    simp -implicitDefEqProofs (disch := omega) [List.getElem?_cons_zero, List.getElem?_cons_succ, wrap_id]
    refine HC_of_PC rfl (singles_ok n es) ?_
    simp -implicitDefEqProofs (disch := omega) [List.getElem?_cons_zero, List.getElem?_cons_succ, wrap_id]
    have hgen := gSt_gen hn hg.right
    refine ⟨by kernel_rfl, gen_range n es hn hg.right (by omega) _ rfl rfl rfl fun r => AfterR_ready rfl ?_⟩
    simp -implicitDefEqProofs (disch := omega) [List.getElem?_cons_zero, List.getElem?_cons_succ, wrap_id]
    (refine fin0 trivial rfl ?_; simp -implicitDefEqProofs (disch := omega) [List.getElem?_cons_zero, List.getElem?_cons_succ, idx, wrap_id, hgc, hgen])
end Go.Proofs.Ytolfhldbfeffaaa
end
section
set_option linter.unusedSimpArgs false
set_option linter.unusedVariables false
namespace Go.Proofs.Ytolfhldbfeffaaa
open Go.Abs Go.Sand
theorem gloop_zero {n : Int} : ∀ {es : List Ed} {la lb : Int}, (∀ x ∈ es, Right n x) → es.Pairwise ltE → (∀ x ∈ es, la < x.a ∨ la = x.a ∧ lb < x.b) → gloop n es la lb = 0
  | [], la, lb, _, _, _ => rfl
  | x :: es, la, lb, hr, hp, hb => by
    have r := hr x (by simp)
    have h1 := hb x (by simp)
    have e : edgeErr n la lb x = 0 := by
      unfold edgeErr
      have v1 : vtx n x.a = true := vtx_iff.2 ⟨r.a0, r.an⟩
      have v2 : vtx n x.b = true := vtx_iff.2 ⟨r.b0, r.bn⟩
      have b1 : behind la lb x.a x.b = true := by simp [behind]; omega
      rw [v1, v2, b1, if_neg (by have := r.m1; have := r.m50; simp; omega), if_neg (by have := r.ab; simp; omega)]
    rw [gloop, if_neg (by simp [e])]
    exact gloop_zero (fun y hy => hr y (by simp [hy])) (List.pairwise_cons.1 hp).2 fun y hy => by
      have := (List.pairwise_cons.1 hp).1 y hy
      unfold ltE at this
      omega
theorem gcheck_mk {n : Int} {es : List Ed} (h : GoodG n es) : gcheck n es = 0 := by
  rw [gcheck, if_neg (by have := h.n1; have := h.n12; omega)]
  exact gloop_zero h.right h.asc fun x hx => by have := (h.right x hx).a0; omega
/-- The edges that are no loops. -/
def llE (es : List Ed) : List Ed := es.filter fun x => decide (x.a ≠ x.b)
theorem llE_good {n : Int} {es : List Ed} (h : GoodG n es) : GoodG n (llE es) :=
  ⟨h.n1, h.n12, fun x hx => h.right x (List.mem_filter.1 hx).1, h.asc.filter _⟩
theorem llE_len (es : List Ed) : (llE es).length ≤ es.length := List.length_filter_le _ _
theorem llE_snoc (es : List Ed) (x : Ed) : llE (es ++ [x]) = llE es ++ if x.a ≠ x.b then [x] else [] := by
  unfold llE
  rw [List.filter_append]
  congr 1
  by_cases h : x.a = x.b <;> simp [h]
theorem endsL_cons (x : Ed) (es : List Ed) : endsL (x :: es) = List.replicate x.m.toNat (x.a, x.b) ++ endsL es := by simp [endsL]
/-- Twice the single edges that are no loops, counted at their ends. -/
theorem val_twice {n : Nat} : ∀ {es : List Ed}, (∀ x ∈ es, Right n x) → sumN (fun v : Nat => valS es v) n = 2 * ((endsL (llE es)).length : Int)
  | [], _ => by
    have : sumN (fun v : Nat => valS [] v) n = 0 := by
      rw [show (fun v : Nat => valS [] v) = fun _ => (0 : Int) from funext fun v => by simp [valS, sumI]]
      exact sumN_zero n
    rw [this]; simp [llE, endsL]
  | x :: es, hr => by
    have ih := val_twice (es := es) fun y hy => hr y (by simp [hy])
    have r := hr x (by simp)
    have e1 : (fun v : Nat => valS (x :: es) v) = fun v : Nat => val1 v x + valS es v := funext fun v => by simp [valS, sumI]
    rw [e1, sumN_add, ih]
    obtain ⟨a, ha⟩ : ∃ a : Nat, x.a = a := ⟨x.a.toNat, by have := r.a0; omega⟩
    obtain ⟨b, hb⟩ : ∃ b : Nat, x.b = b := ⟨x.b.toNat, by have := r.b0; omega⟩
    have han : a < n := by have := r.an; omega
    have hbn : b < n := by have := r.bn; omega
    have hm := r.m1
    by_cases hab : x.a = x.b
    · have e2 : sumN (fun v : Nat => val1 v x) n = 0 := by
        rw [show (fun v : Nat => val1 v x) = fun _ => (0 : Int) from funext fun v => by simp [val1, hab]]
        exact sumN_zero n
      have e3 : llE (x :: es) = llE es := by simp [llE, hab]
      rw [e2, e3]; omega
    · have e2 : sumN (fun v : Nat => val1 v x) n = 2 * x.m := by
        have : (fun v : Nat => val1 v x) = fun v : Nat => (if v = a then x.m else 0) + if v = b then x.m else 0 := funext fun v => by
          unfold val1
          by_cases h1 : v = a
          · have h2 : ¬ v = b := by omega
            rw [if_pos h1, if_neg h2, if_pos ⟨hab, by omega⟩]; omega
          · by_cases h2 : v = b
            · rw [if_neg h1, if_pos h2, if_pos ⟨hab, by omega⟩]; omega
            · rw [if_neg h1, if_neg h2, if_neg (by omega)]; rfl
        rw [this, sumN_add, sumN_one, sumN_one, if_pos han, if_pos hbn]; omega
      have e3 : llE (x :: es) = x :: llE es := by simp [llE, hab]
      rw [e2, e3, endsL_cons, List.length_append, List.length_replicate]
      push_cast
      omega
theorem val_twice' {n : Nat} {es : List Ed} (hg : GoodG n es) : sumN (fun v : Nat => valTo es v n) n = 2 * ((endsL (llE es)).length : Int) := by
  rw [← val_twice hg.right]
  exact sumN_congr fun v hv => valTo_all hg.right hg.asc v ⟨by omega, by omega⟩
end Go.Proofs.Ytolfhldbfeffaaa
end
section
set_option linter.unusedSimpArgs false
set_option linter.unusedVariables false
namespace Go.Proofs.Ytolfhldbfeffaaa
open Go.Abs Go.Sand
theorem pown1_ok (d : List Int) (h : dcheck d d.length = 0) (hl : d.length ≤ 4611686018427387904) : PC Try.prog 60 [.sl [.is d]] (.i 0) [] := by
  refine PC_of_W cfn60 ?_
  simp -implicitDefEqProofs (disch := omega) [c60, List.getElem?_cons_zero, List.getElem?_cons_succ, wrap_id]
  refine loopW 1 (fun k s => s = ⟨[(10, .i k), (9, .i 1), (8, .p (.sl [.is d])), (0, .p (.sl [.is d]))], []⟩) (wk_norm [] [10, 9, 8, 0] rfl rfl) rfl ?_
  rintro k s hk rfl
  match k, hk with
  | 0, _ =>
    simp -implicitDefEqProofs (disch := omega) [List.getElem?_cons_zero, List.getElem?_cons_succ, wrap_id]
    refine HC_of_PC rfl (chk_ok d d.length hl) ?_
    rw [h]
    simp -implicitDefEqProofs (disch := omega) [List.getElem?_cons_zero, List.getElem?_cons_succ, wrap_id]
    exact round_end [] [10, 9, 8, 0] (by decide) rfl rfl
  | 1, _ =>
    simp -implicitDefEqProofs (disch := omega) [List.getElem?_cons_zero, List.getElem?_cons_succ, wrap_id]
    refine loopW 1 (fun k s => s = ⟨[(24, .i k), (23, .i 1), (22, .p (.sl [.is d])), (0, .p (.sl [.is d]))], []⟩) (wk_norm [] [24, 23, 22, 0] rfl rfl) rfl ?_
    rintro k s hk rfl
    match k, hk with
    | 0, _ =>
      simp -implicitDefEqProofs (disch := omega) [List.getElem?_cons_zero, List.getElem?_cons_succ, wrap_id]
      exact round_end [] [24, 23, 22, 0] (by decide) rfl rfl
    | 1, _ =>
      simp -implicitDefEqProofs (disch := omega) [List.getElem?_cons_zero, List.getElem?_cons_succ, wrap_id]
      (refine fin0 trivial rfl ?_; simp -implicitDefEqProofs (disch := omega) [List.getElem?_cons_zero, List.getElem?_cons_succ, idx, wrap_id])
theorem pdeg_ok (xs : List Int) (h : dcheck xs xs.length = 0) (hx : xs.length ≤ 1000) (hb : Bd 4611686018427 xs) : PC Try.prog 43 [.is xs] (.tup [.i (sumI xs), .i 0]) [] := by
  refine PC_of_W cfn43 ?_
  simp -implicitDefEqProofs (disch := omega) [c43, List.getElem?_cons_zero, List.getElem?_cons_succ, wrap_id]
  refine HC_of_PC (ps := [.sl [.is xs]]) (by simp [views, view, viewC]) (pown1_ok xs h (by omega)) ?_
  have hs : ∀ k, k ≤ xs.length → -(4611686018427 * (k : Int)) ≤ sumI (xs.take k) ∧ sumI (xs.take k) ≤ 4611686018427 * (k : Int) := by
    intro k
    induction k with
    | zero => intro _; simp [sumI]
    | succ k ih =>
      intro h
      have := ih (by omega)
      have h2 := hb k
      rw [List.getD_eq_getElem?_getD, List.getElem?_eq_getElem (by omega)] at h2
      simp only [Option.getD_some] at h2
      rw [sumI_snoc xs k (by omega)]
      push_cast
      omega
  simp -implicitDefEqProofs (disch := omega) [List.getElem?_cons_zero, List.getElem?_cons_succ, wrap_id]
  refine loopW xs.length (fun k s => s = ⟨[(16, .i k), (15, .i xs.length), (14, .p (.is xs)), (5, .i (sumI (xs.take k))), (0, .p (.is xs))], []⟩) (wk_norm [] [16, 15, 14, 5, 0] rfl rfl) rfl ?_
  rintro k s hk rfl
  by_cases hlt : k < xs.length
  · have h1 := hs (k + 1) hlt
    rw [sumI_snoc xs k hlt] at h1
    push_cast at h1
    simp -implicitDefEqProofs (disch := omega) [List.getElem?_cons_zero, List.getElem?_cons_succ, wrap_id, hlt]
    exact round_end [] [16, 15, 14, 5, 0] hlt rfl (by rw [sumI_snoc xs k hlt]; rfl)
  · simp -implicitDefEqProofs (disch := omega) [List.getElem?_cons_zero, List.getElem?_cons_succ, wrap_id, hlt]
    (refine fin0 trivial rfl ?_; simp -implicitDefEqProofs (disch := omega) [List.getElem?_cons_zero, List.getElem?_cons_succ, idx, wrap_id, List.take_of_length_le (Nat.le_of_not_lt hlt)])
theorem limited_ok (N : Int) (es : List Ed) (hel : es.length ≤ 1000) (h : gcheck N es = 0) : PC Try.prog 55 [G N es, .i 50] (.tup [.agg [.p (.i N), .p (.sl ((llE es).map edP))], .i 0]) [] := by
  have hg := gcheck_ok h
  refine PC_of_W cfn55 ?_
  simp -implicitDefEqProofs (disch := omega) [c55, List.getElem?_cons_zero, List.getElem?_cons_succ, wrap_id]
  refine HC_of_PC rfl (gcheck_ok' N es (by omega)) ?_
  simp -implicitDefEqProofs (disch := omega) [List.getElem?_cons_zero, List.getElem?_cons_succ, wrap_id, h]
  refine loopW es.length (fun k st => st = ⟨[(22, .i k), (21, .i es.length), (20, .p (.sl (es.map edP))), (7, .ptr 1 1 0 0), (4, .ptr 0 1 0 0), (1, .i 50)], [.box (.p (.agg [.i 0, .nil])), .box (.agg [.i N, .os 2 0 (llE (es.take k)).length]), .row ((llE (es.take k)).map edP) 3 41 false]⟩)
    ((Wk_nilB 2 1 3 41 rfl rfl).trans (Wk_norm [1, 2, 3] [22, 21, 20, 7, 4, 1] rfl)) rfl ?_
  rintro k st hk rfl
  by_cases hlt : k < es.length
  · obtain ⟨l, hl⟩ : ∃ l, l = llE (es.take k) := ⟨_, rfl⟩
    have hll : l.length ≤ 1000 := by
      have := llE_len (es.take k)
      rw [hl]
      rw [List.length_take] at this; omega
    have hr := hg.right es[k] (List.getElem_mem hlt)
    have hm := hr.m50
    have htk : es.take (k + 1) = es.take k ++ [es[k]] := by rw [List.take_add_one, List.getElem?_eq_getElem hlt]; rfl
    have hll2 : l.length ≤ 1048575 := by omega
    rw [← hl]
    obtain ⟨x, hx⟩ : ∃ x, x = es[k] := ⟨_, rfl⟩
    rw [← hx] at hm htk
    have hx2 : edP es[k] = .agg [PV.i x.a, PV.i x.b, PV.i x.m] := by rw [hx, edP]
    by_cases hab : x.a = x.b
    · have e : llE (es.take (k + 1)) = l := by rw [htk, llE_snoc, if_neg (by simp [hab]), List.append_nil, hl]
      simp -implicitDefEqProofs (disch := omega) [List.getElem?_cons_zero, List.getElem?_cons_succ, wrap_id, hlt, hx2, hab]
      exact round_end [0, 1, 2] [22, 21, 20, 7, 4, 1] hlt rfl (by rw [e]; rfl)
    · have e : llE (es.take (k + 1)) = l ++ [x] := by rw [htk, llE_snoc, if_pos hab, hl]
      have hm' : min x.m 50 = x.m := by omega
      simp -implicitDefEqProofs (disch := omega) [List.getElem?_cons_zero, List.getElem?_cons_succ, wrap_id, hlt, hx2, hab, hm', hll2]
      exact round_end [0, 1, 2] [22, 21, 20, 7, 4, 1] hlt rfl (by rw [e]; simp [Abs.norm, Abs.get, AV.ren, Abs.idx])
  have hke : k = es.length := by omega
  subst hke
  rw [List.take_length]
  simp -implicitDefEqProofs (disch := omega) [List.getElem?_cons_zero, List.getElem?_cons_succ, wrap_id]
  (refine fin0 trivial rfl ?_; simp -implicitDefEqProofs (disch := omega) [List.getElem?_cons_zero, List.getElem?_cons_succ, idx, wrap_id])
theorem loopless_ok (N : Int) (es : List Ed) (hel : es.length ≤ 1000) (h : gcheck N es = 0) : PC Try.prog 39 [G N es] (.tup [.agg [.p (.i N), .p (.sl ((llE es).map edP))], .i 0]) [] := by
  refine PC_of_W cfn39 ?_
  simp -implicitDefEqProofs (disch := omega) [c39, List.getElem?_cons_zero, List.getElem?_cons_succ, wrap_id]
  refine HC_of_PC rfl (limited_ok N es hel h) ?_
  simp -implicitDefEqProofs (disch := omega) [List.getElem?_cons_zero, List.getElem?_cons_succ, wrap_id]
  (refine fin0 trivial rfl ?_; simp -implicitDefEqProofs (disch := omega) [List.getElem?_cons_zero, List.getElem?_cons_succ, idx, wrap_id])
theorem joinC_same (c : Nat → Nat) (a : Nat) : joinC c a a = c := by
  funext v
  unfold joinC
  split <;> omega
theorem ufJ_snd : ∀ (es : List Ed) (s : List Int × (Nat → Nat)), (es.foldl (fun s x => (s.1.set (max (s.2 x.a.toNat) (s.2 x.b.toNat)) ((min (s.2 x.a.toNat) (s.2 x.b.toNat) : Nat) : Int), joinC s.2 x.a.toNat x.b.toNat)) s).2 = es.foldl (fun c x => joinC c x.a.toNat x.b.toNat) s.2
  | [], s => rfl
  | x :: es, s => by rw [List.foldl_cons, List.foldl_cons, ufJ_snd es]
theorem join_ll : ∀ (es : List Ed) (c : Nat → Nat), (llE es).foldl (fun c x => joinC c x.a.toNat x.b.toNat) c = es.foldl (fun c x => joinC c x.a.toNat x.b.toNat) c
  | [], c => rfl
  | x :: es, c => by
    by_cases h : x.a = x.b
    · rw [show llE (x :: es) = llE es by simp [llE, h], List.foldl_cons, h, joinC_same]
      exact join_ll es c
    · rw [show llE (x :: es) = x :: llE es by simp [llE, h], List.foldl_cons, List.foldl_cons]
      exact join_ll es _
theorem parts_ll (es : List Ed) (n : Nat) : partsN (llE es) n = partsN es n := by
  have e : cls (llE es) = cls es := by
    unfold cls ufJ
    rw [ufJ_snd, ufJ_snd, join_ll]
  unfold partsN rootsL
  rw [e]
/-- The genus, without loops. -/
def genE (n : Nat) (es : List Ed) : Int := ((endsL (llE es)).length : Int) - n + 1
theorem gen_ll {n : Nat} {es : List Ed} (hs : Sm n es) : genI n (llE es) = genE n es := by
  unfold genI genE
  rw [Int.toNat_natCast, parts_ll, hs.p]; rfl
theorem gen_kan {n : Nat} {es : List Ed} (hs : Sm n es) : sumN (kanF n (joinE es)) n = 2 * genE n es - 2 := by
  have h := val_twice' hs.g
  have e : sumN (kanF n (joinE es)) n = sumN (fun v => valTo es v n) n - sumN (fun _ => 2) n := by
    rw [← sumN_sub']
    refine sumN_congr fun v _ => ?_
    unfold kanF
    rw [valTo_sum]
  have e2 : ∀ k, sumN (fun _ => 2) k = 2 * (k : Int) := fun k => by
    induction k with
    | zero => rfl
    | succ k ih => simp only [sumN, ih]; omega
  rw [e, h, e2]
  unfold genE
  omega
theorem llE_ends (es : List Ed) : (endsL (llE es)).length ≤ (endsL es).length := by
  induction es with
  | nil => simp [llE, endsL]
  | cons x es ih =>
    rw [endsL_cons]
    by_cases h : x.a = x.b
    · rw [show llE (x :: es) = llE es by simp [llE, h], List.length_append]; omega
    · rw [show llE (x :: es) = x :: llE es by simp [llE, h], endsL_cons, List.length_append, List.length_append]; omega
end Go.Proofs.Ytolfhldbfeffaaa
end
section
set_option linter.unusedSimpArgs false
set_option linter.unusedVariables false
namespace Go.Proofs.Ytolfhldbfeffaaa
open Go.Abs Go.Sand
/-- What Winnable leaves. -/
def WinR (n : Nat) (es : List Ed) (d : List Int) (r : AV) (HR : List AO) : Prop := ∃ x s, RedOk n es 0 d x s ∧ r = .tup [.b (decide (0 ≤ x.getD 0 0)), .os 0 0 n, .os 1 0 n, .i 0] ∧ HR = [rowZ x, rowZ s]
theorem win_ok {n : Nat} {es : List Ed} (hs : Sm n es) {d : List Int} (hdl : d.length = n) {B : Int} (hB : 0 ≤ B ∧ B ≤ 110) (hdb : AbsLe B d) : PCR Try.prog 44 [G n es, .is d] (WinR n es d) := by
  have hn1 := hs.n1
  refine PCR_of_W cfn44 ?_
  simp -implicitDefEqProofs (disch := omega) [c44, List.getElem?_cons_zero, List.getElem?_cons_succ, wrap_id]
  refine HC_of_PCR rfl (reduce_ok hs (q := 0) (by omega) hdl hB hdb) ?_
  rintro r HR ⟨x, s, hx, rfl, rfl⟩
  have hxl := hx.dl
  have h0 : 0 < n := by omega
  have h0x : 0 < x.length := by omega
  have e0 : x.getD 0 0 = x[0] := getD_get h0x
  simp -implicitDefEqProofs (disch := omega) [List.getElem?_cons_zero, List.getElem?_cons_succ, wrap_id, hxl, h0, h0x]
  refine finQ [1, 2] trivial rfl rfl ?_ rfl ⟨x, s, hx, rfl, rfl⟩
  rw [e0]
  rfl
theorem win_iff {n : Nat} {es : List Ed} (hs : Sm n es) {d x s : List Int} (hx : RedOk n es 0 d x s) : WinF n (joinE es) (fun v => d.getD v 0) ↔ 0 ≤ x.getD 0 0 := win_red hs.mg (by have := hs.n1; omega) hx.red hx.eq
end Go.Proofs.Ytolfhldbfeffaaa
end
section
set_option linter.unusedSimpArgs false
set_option linter.unusedVariables false
namespace Go.Proofs.Ytolfhldbfeffaaa
open Go.Abs Go.Sand
/-- A divisor, as an array of twelve numbers. -/
def padZ (d : List Int) : List Int := d ++ List.replicate (12 - d.length) 0
theorem padZ_len {d : List Int} (h : d.length ≤ 12) : (padZ d).length = 12 := by simp [padZ]; omega
theorem padZ_inj {a b : List Int} {n : Nat} (ha : a.length = n) (hb : b.length = n) (h : padZ a = padZ b) : a = b := by
  have := congrArg (List.take n) h
  unfold padZ at this
  rwa [List.take_left' ha, List.take_left' hb] at this
theorem len_below : ∀ (N : Nat) (l : List Nat), l.Nodup → (∀ x ∈ l, x < N) → l.length ≤ N
  | 0, l, _, h => by
    cases l with
    | nil => simp
    | cons x l => have := h x (by simp); omega
  | N + 1, l, hn, h => by
    by_cases hN : N ∈ l
    · have h1 := len_below N (l.erase N) (hn.erase N) fun x hx => by
        have h2 := h x (List.mem_of_mem_erase hx)
        have h3 : x ≠ N := fun e => by subst e; exact (List.Nodup.mem_erase_iff hn).1 hx |>.1 rfl
        omega
      have h2 := List.length_erase_of_mem hN
      have h3 : 0 < l.length := List.length_pos_of_mem hN
      omega
    · have := len_below N l hn fun x hx => by
        have h2 := h x hx
        have h3 : x ≠ N := fun e => hN (e ▸ hx)
        omega
      omega
/-- A list of small numbers, as a number. -/
def cdL (b : Nat) : List Int → Nat
  | [] => 0
  | x :: l => x.toNat + b * cdL b l
theorem cdL_lt {b : Nat} : ∀ {l : List Int}, (∀ x ∈ l, 0 ≤ x ∧ x < b) → cdL b l < b ^ l.length
  | [], _ => by simp [cdL]
  | x :: l, h => by
    have ih := cdL_lt (l := l) fun y hy => h y (by simp [hy])
    have hx := h x (by simp)
    simp only [cdL, List.length_cons, Nat.pow_succ]
    have h1 : b * (cdL b l + 1) ≤ b * b ^ l.length := Nat.mul_le_mul_left b ih
    rw [Nat.mul_add, Nat.mul_comm b (b ^ l.length)] at h1
    omega
theorem cdL_inj {b : Nat} : ∀ {l m : List Int}, l.length = m.length → (∀ x ∈ l, 0 ≤ x ∧ x < b) → (∀ x ∈ m, 0 ≤ x ∧ x < b) → cdL b l = cdL b m → l = m
  | [], [], _, _, _, _ => rfl
  | [], _ :: _, h, _, _, _ => by simp at h
  | _ :: _, [], h, _, _, _ => by simp at h
  | x :: l, y :: m, h, hl, hm, he => by
    have hx := hl x (by simp)
    have hy := hm y (by simp)
    simp only [cdL] at he
    have h1 : (x.toNat + b * cdL b l) % b = (y.toNat + b * cdL b m) % b := by rw [he]
    rw [Nat.add_mul_mod_self_left, Nat.add_mul_mod_self_left, Nat.mod_eq_of_lt (by omega), Nat.mod_eq_of_lt (by omega)] at h1
    have h2 : b * cdL b l = b * cdL b m := by omega
    have h3 := Nat.eq_of_mul_eq_mul_left (show 0 < b by omega) h2
    rw [cdL_inj (by simpa using h) (fun z hz => hl z (by simp [hz])) (fun z hz => hm z (by simp [hz])) h3, show x = y by omega]
/-- What is kept: reduced divisors with their ranks. -/
structure MIn (n : Nat) (es : List Ed) (b : Nat) (l : List (KV × AV)) : Prop where
  nd : (l.map (·.1)).Nodup
  en : ∀ e ∈ l, ∃ x : List Int, x.length = n ∧ (∀ y ∈ x, 0 ≤ y ∧ y < b) ∧ ∃ k : Int, (-1 ≤ k ∧ k ≤ 1000) ∧ e = (.kl (padZ x), .p (.i k)) ∧ RankIs n (joinE es) (fun v => x.getD v 0) k
theorem MIn.nil (n : Nat) (es : List Ed) (b : Nat) : MIn n es b [] := ⟨by simp, fun e he => by cases he⟩
theorem dIdx_none {kv : KV} : ∀ {l : List (KV × AV)}, dIdx kv l = none → kv ∉ l.map (·.1)
  | [], _ => by simp
  | x :: l, h => by
    simp only [dIdx] at h
    split at h
    · cases h
    · rename_i hne
      have h2 := dIdx_none (l := l) (by simpa using h)
      simp only [List.map_cons, List.mem_cons, not_or]
      exact ⟨fun e => hne e.symm, h2⟩
theorem dIdx_some {kv : KV} : ∀ {l : List (KV × AV)} {i : Nat}, dIdx kv l = some i → ∃ h : i < l.length, l[i].1 = kv
  | [], i, h => by cases h
  | x :: l, i, h => by
    simp only [dIdx] at h
    split at h
    · rename_i he
      injection h with h
      subst h
      exact ⟨by simp, he⟩
    · obtain ⟨j, hj, rfl⟩ := Option.map_eq_some_iff.1 h
      obtain ⟨h1, h2⟩ := dIdx_some hj
      exact ⟨by simpa using h1, by simpa using h2⟩
theorem MIn.len {n : Nat} {es : List Ed} {b : Nat} {l : List (KV × AV)} (h : MIn n es b l) : l.length ≤ b ^ n := by
  have hx := h.en
  have hnd := h.nd
  clear h
  have key : ∃ ms : List Nat, ms.length = l.length ∧ ms.Nodup ∧ ∀ m ∈ ms, m < b ^ n := by
    have : ∀ l : List (KV × AV), (l.map (·.1)).Nodup → (∀ e ∈ l, ∃ x : List Int, x.length = n ∧ (∀ y ∈ x, 0 ≤ y ∧ y < b) ∧ e.1 = .kl (padZ x)) → ∃ ms : List Nat, ms.length = l.length ∧ ms.Nodup ∧ ∀ m ∈ ms, m < b ^ n ∧ ∃ x : List Int, x.length = n ∧ (∀ y ∈ x, 0 ≤ y ∧ y < b) ∧ m = cdL b x ∧ KV.kl (padZ x) ∈ l.map (·.1) := by
      intro l
      induction l with
      | nil => intro _ _; exact ⟨[], rfl, by simp, fun m hm => by cases hm⟩
      | cons e l ih =>
        intro hn ha
        obtain ⟨ms, h1, h2, h3⟩ := ih (List.nodup_cons.1 hn).2 fun e he => ha e (by simp [he])
        obtain ⟨x, hx1, hx2, hx3⟩ := ha e (by simp)
        refine ⟨cdL b x :: ms, by simp [h1], List.nodup_cons.2 ⟨fun hm => ?_, h2⟩, fun m hm => ?_⟩
        · obtain ⟨_, y, hy1, hy2, hy3, hy4⟩ := h3 _ hm
          have := cdL_inj (by omega) hx2 hy2 hy3
          subst this
          rw [← hx3] at hy4
          exact (List.nodup_cons.1 hn).1 hy4
        · rcases List.mem_cons.1 hm with rfl | hm
          · have := cdL_lt hx2
            rw [hx1] at this
            exact ⟨this, x, hx1, hx2, rfl, by rw [← hx3]; simp⟩
          · obtain ⟨h4, y, hy1, hy2, hy3, hy4⟩ := h3 m hm
            exact ⟨h4, y, hy1, hy2, hy3, by rw [List.map_cons]; exact List.mem_cons_of_mem _ hy4⟩
    obtain ⟨ms, h1, h2, h3⟩ := this l hnd fun e he => by
      obtain ⟨x, h1, h2, k, _, rfl, _⟩ := hx e he
      exact ⟨x, h1, h2, rfl⟩
    exact ⟨ms, h1, h2, fun m hm => (h3 m hm).1⟩
  obtain ⟨ms, h1, h2, h3⟩ := key
  have := len_below _ ms h2 h3
  omega
theorem MIn.add {n : Nat} {es : List Ed} {b : Nat} {l : List (KV × AV)} (h : MIn n es b l) {x : List Int} (hx : x.length = n) (hb : ∀ y ∈ x, 0 ≤ y ∧ y < b) {k : Int} (hk : -1 ≤ k ∧ k ≤ 1000) (hr : RankIs n (joinE es) (fun v => x.getD v 0) k) (hno : dIdx (.kl (padZ x)) l = none) : MIn n es b (l ++ [(.kl (padZ x), .p (.i k))]) := by
  refine ⟨?_, fun e he => ?_⟩
  · rw [List.map_append]
    refine List.nodup_append.2 ⟨h.nd, by simp, fun a ha c hc => ?_⟩
    simp only [List.map_cons, List.map_nil, List.mem_singleton] at hc
    subst hc
    intro e
    subst e
    exact dIdx_none hno ha
  · rcases List.mem_append.1 he with he | he
    · exact h.en e he
    · simp only [List.mem_singleton] at he
      exact ⟨x, hx, hb, k, hk, he, hr⟩
end Go.Proofs.Ytolfhldbfeffaaa
end
