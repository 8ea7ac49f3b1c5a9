/-
  Texts joined: Dd Gn De Mrb Nb Ya.
-/
import Derived.Test.YtojamfbdlfgedaaKg15

section
set_option linter.unusedSimpArgs false
set_option linter.unusedVariables false
namespace Go.Sand
/-- F has for each of 12 vertices another one of its class, or itself; c is the vertex that stands for each class. -/
def TFr (F : List Int) (c : Nat → Nat) (rk : Nat → Nat) : Prop := ∀ v, v < 12 → ∃ p : Nat, p < 12 ∧ F[v]? = some (p : Int) ∧ c p = c v ∧ (p = v ↔ c v = v) ∧ (p ≠ v → rk p < rk v)
structure TF (F : List Int) (c : Nat → Nat) : Prop where
  len : F.length = 12
  lo : ∀ v, v < 12 → c v < 12
  idem : ∀ v, c (c v) = c v
  par : ∃ rk, TFr F c rk
theorem TF.start : TF ((List.range 12).map fun i : Nat => (i : Int)) id :=
  ⟨rfl, fun v hv => hv, fun _ => rfl, fun _ => 0, fun v hv => ⟨v, hv, by simp [hv], rfl, by simp, fun h => absurd rfl h⟩⟩
theorem mrg_id {c : Nat → Nat} (h : ∀ v, c (c v) = c v) (a b v : Nat) : mrg c a b (mrg c a b v) = mrg c a b v := by
  unfold mrg
  have ha := h a
  have hb := h b
  have hv := h v
  by_cases e : c v = c a
  · rw [if_pos e, hb]; split <;> rfl
  · rw [if_neg e, hv, if_neg e]
theorem mrg_same {c : Nat → Nat} {a b : Nat} (h : c a = c b) : mrg c a b = c := by
  funext v
  unfold mrg
  split
  · rename_i e; rw [e, h]
  · rfl
theorem TF.join {F : List Int} {c : Nat → Nat} (h : TF F c) {a b : Nat} (ha : a < 12) (hb : b < 12) : TF (F.set (c a) ((c b : Nat) : Int)) (mrg c a b) := by
  obtain ⟨rk, hr⟩ := h.par
  have A12 := h.lo a ha
  have B12 := h.lo b hb
  have cA := h.idem a
  have cB := h.idem b
  refine ⟨by rw [List.length_set]; exact h.len, fun v hv => ?_, fun v => mrg_id h.idem a b v, ?_⟩
  · unfold mrg
    split
    · exact B12
    · exact h.lo v hv
  by_cases hab : c a = c b
  · rw [mrg_same hab]
    obtain ⟨p, h1, h2, h3, h4, h5⟩ := hr (c a) A12
    have hp : p = c a := h4.2 cA
    subst hp
    have : F.set (c a) ((c b : Nat) : Int) = F := by
      rw [← hab]
      refine List.ext_getElem? fun i => ?_
      by_cases e : c a = i
      · rw [← e, List.getElem?_set_self (by rw [h.len]; exact A12), h2]
      · rw [List.getElem?_set_ne e]
    rw [this]
    exact ⟨rk, hr⟩
  · refine ⟨fun v => if c v = c a then rk v + rk (c b) + 1 else rk v, fun v hv => ?_⟩
    have hm : ∀ u, mrg c a b u = if c u = c a then c b else c u := fun u => rfl
    by_cases e : v = c a
    · subst e
      refine ⟨c b, B12, by rw [List.getElem?_set_self (by rw [h.len]; exact A12)], ?_, ?_, fun _ => ?_⟩
      · rw [hm, hm, cB, cA, if_pos rfl, if_neg (fun e => hab e.symm)]
      · rw [hm, cA, if_pos rfl]
      · (try dsimp only)
        rw [cB, cA, if_pos rfl, if_neg (fun e => hab e.symm)]; omega
    · obtain ⟨p, h1, h2, h3, h4, h5⟩ := hr v hv
      refine ⟨p, h1, by rw [List.getElem?_set_ne (fun x => e x.symm)]; exact h2, by rw [hm, hm, h3], ?_, fun hne => ?_⟩
      · rw [hm]
        split
        · rename_i e2
          constructor
          · intro hp
            exact absurd (h4.1 hp ▸ e2) e
          · intro hp
            rw [← hp, cB] at e2
            exact absurd e2.symm hab
        · exact h4
      · have h6 := h5 hne
        (try dsimp only)
        rw [h3]
        split <;> omega
/-- The number of vertices that stand for a class. -/
def rcnt (c : Nat → Nat) (n : Nat) : Nat := ((List.range n).filter fun v => decide (c v = v)).length
theorem rcnt_succ (c : Nat → Nat) (n : Nat) : rcnt c (n + 1) = rcnt c n + if c n = n then 1 else 0 := by
  unfold rcnt
  rw [List.range_succ, List.filter_append, List.length_append]
  by_cases h : c n = n <;> simp [h]
theorem rcnt_le (c : Nat → Nat) : ∀ n, rcnt c n ≤ n
  | 0 => Nat.le_refl _
  | n + 1 => by have := rcnt_le c n; rw [rcnt_succ]; split <;> omega
theorem rcnt_id : ∀ n, rcnt id n = n
  | 0 => rfl
  | n + 1 => by rw [rcnt_succ, rcnt_id n]; simp
theorem rcnt_join {c : Nat → Nat} (h : ∀ v, c (c v) = c v) {a b : Nat} (hab : c a ≠ c b) : ∀ n, rcnt (mrg c a b) n + (if c a < n then 1 else 0) = rcnt c n
  | 0 => rfl
  | n + 1 => by
    have ih := rcnt_join h hab n
    rw [rcnt_succ, rcnt_succ]
    have ha := h a
    have hb := h b
    have key : mrg c a b n = n ↔ c n = n ∧ n ≠ c a := by
      unfold mrg
      split
      · rename_i e
        constructor
        · intro e2
          rw [← e2, hb] at e
          exact absurd e.symm hab
        · rintro ⟨e1, e2⟩
          omega
      · rename_i e
        constructor
        · intro e2
          refine ⟨e2, fun e3 => e ?_⟩
          rw [e3, ha]
        · exact fun e2 => e2.1
    by_cases h1 : n = c a
    · have h2 : ¬ mrg c a b n = n := fun x => (key.1 x).2 h1
      have h3 : c n = n := by rw [h1, ha]
      rw [if_neg h2, if_pos h3, if_pos (by omega)]
      rw [if_neg (by omega)] at ih
      omega
    · by_cases h2 : c n = n
      · rw [if_pos (key.2 ⟨h2, h1⟩), if_pos h2]
        by_cases h3 : c a < n
        · rw [if_pos h3] at ih; rw [if_pos (by omega)]; omega
        · rw [if_neg h3] at ih; rw [if_neg (by omega)]; omega
      · rw [if_neg (fun x => h2 (key.1 x).1), if_neg h2]
        by_cases h3 : c a < n
        · rw [if_pos h3] at ih; rw [if_pos (by omega)]; omega
        · rw [if_neg h3] at ih; rw [if_neg (by omega)]; omega
/-- All classes lie among the first vertices. -/
def Inn (n : Nat) (c : Nat → Nat) : Prop := (∀ v, v < n → c v < n) ∧ ∀ v, c (c v) = c v
theorem Inn.mrg {n : Nat} {c : Nat → Nat} (h : Inn n c) {a b : Nat} (hb : b < n) : Inn n (mrg c a b) :=
  ⟨fun v hv => by unfold Sand.mrg; split; exact h.1 b hb; exact h.1 v hv, fun v => mrg_id h.2 a b v⟩
theorem Inn.id (n : Nat) : Inn n id := ⟨fun _ h => h, fun _ => rfl⟩
theorem filter_one {l : List Nat} (hd : l.Nodup) (h : l.length = 1) {a b : Nat} (ha : a ∈ l) (hb : b ∈ l) : a = b := by
  match l, h with
  | [x], _ =>
    rw [List.mem_singleton] at ha hb
    rw [ha, hb]
theorem rcnt_one {n : Nat} {c : Nat → Nat} (h : Inn n c) (hn : 0 < n) : rcnt c n = 1 ↔ oneCl n c = true := by
  rw [oneCl_iff]
  have hmem : ∀ v, v < n → c v ∈ (List.range n).filter fun v => decide (c v = v) := fun v hv => by
    rw [List.mem_filter]
    exact ⟨by simpa using h.1 v hv, by simpa using h.2 v⟩
  constructor
  · intro h1 v hv
    exact filter_one (List.Pairwise.filter _ List.nodup_range) h1 (hmem v hv) (hmem 0 hn)
  · intro h1
    have h2 : ∀ m, m ≤ n → rcnt c m = if c 0 < m then 1 else 0 := by
      intro m
      induction m with
      | zero => intro _; rfl
      | succ m ih =>
        intro hm
        rw [rcnt_succ, ih (by omega)]
        have h3 := h1 m (by omega)
        by_cases e : c m = m
        · rw [if_pos e, if_neg (by omega), if_pos (by omega)]
        · rw [if_neg e]
          by_cases e2 : c 0 < m
          · rw [if_pos e2, if_pos (by omega)]
          · have e3 := h.2 0
            have : c 0 ≠ m := fun e4 => e (by rw [← e4]; exact e3)
            rw [if_neg e2, if_neg (by omega)]
    rw [h2 n (Nat.le_refl n), if_pos (h.1 0 hn)]
/-- Joined by all edges. -/
def mrgA (c : Nat → Nat) (es : List (Nat × Nat)) : Nat → Nat := es.foldl (fun c x => mrg c x.1 x.2) c
theorem mrgA_coarse {u v : Nat} : ∀ (es : List (Nat × Nat)) {c : Nat → Nat}, c u = c v → mrgA c es u = mrgA c es v
  | [], _, h => h
  | x :: es, c, h => mrgA_coarse es ((mrg_iff c x.1 x.2 u v).2 (.inl h))
theorem mrgA_mem : ∀ (es : List (Nat × Nat)) {c : Nat → Nat} {x : Nat × Nat}, x ∈ es → mrgA c es x.1 = mrgA c es x.2
  | y :: es, c, x, h => by
    rcases List.mem_cons.1 h with rfl | h
    · exact mrgA_coarse es ((mrg_iff c x.1 x.2 x.1 x.2).2 (.inr (.inl ⟨rfl, rfl⟩)))
    · exact mrgA_mem es h
theorem trN_out {n : Nat} {c : Nat → Nat} {es : List (Nat × Nat)} (hn : 0 < n) (h : oneCl n (mrgA c es) = false) : trN n c es = 0 := by
  obtain ⟨v, hv, hne⟩ : ∃ v, v < n ∧ mrgA c es v ≠ mrgA c es 0 := by
    refine Classical.byContradiction fun hc => ?_
    have : oneCl n (mrgA c es) = true := oneCl_iff.2 fun v hv => Classical.byContradiction fun e => hc ⟨v, hv, e⟩
    rw [h] at this; cases this
  refine trN_zero (fun u => mrgA c es u = mrgA c es 0) (fun u v h => ?_) (fun x hx => ?_) ⟨0, hn, rfl⟩ ⟨v, hv, hne⟩
  · (try dsimp only); rw [mrgA_coarse es h]
  · (try dsimp only); rw [mrgA_mem es hx]
/-- The single edges, as pairs of numbers. -/
def natE (l : List (Int × Int)) : List (Nat × Nat) := l.map fun x => (x.1.toNat, x.2.toNat)
theorem joinC_iff (c : Nat → Nat) (a b u v : Nat) : joinC c a b u = joinC c a b v ↔ c u = c v ∨ (c u = c a ∧ c v = c b) ∨ (c u = c b ∧ c v = c a) := by
  unfold joinC
  split <;> split <;> omega
theorem ufJ_snd' : ∀ (es : List Ed) (s : List Int × (Nat → Nat)), (es.foldl (fun s x => (s.1.set (max (s.2 x.a.toNat) (s.2 x.b.toNat)) ((min (s.2 x.a.toNat) (s.2 x.b.toNat) : Nat) : Int), joinC s.2 x.a.toNat x.b.toNat)) s).2 = es.foldl (fun c x => joinC c x.a.toNat x.b.toNat) s.2
  | [], s => rfl
  | x :: es, s => by rw [List.foldl_cons, List.foldl_cons, ufJ_snd' es]
theorem cls_fine {R : Nat → Nat} {u v : Nat} : ∀ (es : List Ed) (c : Nat → Nat), (∀ u v, c u = c v → R u = R v) → (∀ x ∈ es, R x.a.toNat = R x.b.toNat) → es.foldl (fun c x => joinC c x.a.toNat x.b.toNat) c u = es.foldl (fun c x => joinC c x.a.toNat x.b.toNat) c v → R u = R v
  | [], c, h, _, e => h u v e
  | x :: es, c, h, hx, e => by
    refine cls_fine es _ (fun u v h2 => ?_) (fun y hy => hx y (by simp [hy])) e
    have hx0 := hx x (by simp)
    rcases (joinC_iff c x.a.toNat x.b.toNat u v).1 h2 with h2 | ⟨h2, h3⟩ | ⟨h2, h3⟩
    · exact h u v h2
    · rw [h _ _ h2, hx0, h _ _ h3]
    · rw [h _ _ h2, ← hx0, h _ _ h3]
theorem conn_all {n : Nat} (hn : n ≤ 12) {es : List Ed} (hr : ∀ x ∈ es, Right n x) (hp : partsN es n = 1) : oneCl n (mrgA id (natE (endsL es))) = true := by
  rw [oneCl_iff]
  have hF := ufJ_forest (n := (n : Int)) (by omega) hr es.length (Nat.le_refl _)
  rw [List.take_length] at hF
  have hone : ∀ v, v < n → ∀ w, w < n → cls es v = v → cls es w = w → v = w := fun v hv w hw a b => by
    refine filter_one (l := rootsL es n) (List.Pairwise.filter _ List.nodup_range) hp ?_ ?_
    · rw [rootsL, List.mem_filter]; exact ⟨by simpa using hv, by simpa using a⟩
    · rw [rootsL, List.mem_filter]; exact ⟨by simpa using hw, by simpa using b⟩
  have hR : ∀ x ∈ es, mrgA id (natE (endsL es)) x.a.toNat = mrgA id (natE (endsL es)) x.b.toNat := fun x hx => by
    have hm := (hr x hx).m1
    refine mrgA_mem (x := (x.a.toNat, x.b.toNat)) _ ?_
    rw [natE, List.mem_map]
    refine ⟨(x.a, x.b), ?_, rfl⟩
    rw [endsL, List.mem_flatMap]
    refine ⟨x, hx, ?_⟩
    rw [List.mem_replicate]
    exact ⟨by omega, rfl⟩
  intro v hv
  have hn0 : 0 < n := by omega
  obtain ⟨v1, v2⟩ := hF.le v (by omega)
  obtain ⟨o1, o2⟩ := hF.le 0 (by omega)
  have e : cls es v = cls es 0 := hone _ (by unfold cls; omega) _ (by unfold cls; omega) v2 o2
  refine cls_fine (R := mrgA id (natE (endsL es))) es id (fun u v h => by rw [show u = v from h]) hR ?_
  have e1 : ∀ w, es.foldl (fun c x => joinC c x.a.toNat x.b.toNat) id w = cls es w := fun w => by unfold cls ufJ; rw [ufJ_snd']
  rw [e1, e1, e]
theorem natE_lt {n : Nat} {es : List Ed} (hr : ∀ x ∈ es, Right n x) : ∀ x ∈ natE (endsL es), x.1 < n ∧ x.2 < n := fun x hx => by
  rw [natE, List.mem_map] at hx
  obtain ⟨y, hy, rfl⟩ := hx
  rw [endsL, List.mem_flatMap] at hy
  obtain ⟨z, hz, hy⟩ := hy
  have hq := hr z hz
  rw [List.mem_replicate] at hy
  obtain ⟨_, rfl⟩ := hy
  have h1 := hq.a0
  have h2 := hq.an
  have h3 := hq.b0
  have h4 := hq.bn
  (try dsimp only)
  omega
end Go.Sand
end
section
set_option linter.unusedSimpArgs false
set_option linter.unusedVariables false
namespace Go.Proofs.Ytojamfbdlfgedaa
open Go.Abs Go.Sand
theorem singles_ok (N : Int) (es : List Ed) : PC Try.prog 43 [G N es] (.fn (.func 53) [] [.ptr 0 1 0 0]) [.box (.p (G N es))] := by
  refine PC_of_W cfn43 ?_
  simp -implicitDefEqProofs (disch := omega) [c43, List.getElem?_cons_zero, List.getElem?_cons_succ, wrap_id]
  exact fin1 [0] trivial rfl (by rfl) ⟨rfl, rfl⟩
/-- The objects while the edges are ranged over. -/
abbrev endsH (N : Int) (es : List Ed) (lp : AO) (L : List (Int × Int)) (T : List AO) : List AO := .box (.p (G N es)) :: .box (.os 4 0 L.length) :: .box (.p (G N es)) :: lp :: .row (L.map pP) 2 70 false :: T
theorem ends_range (N : Int) (es : List Ed) (hg : ∀ x ∈ es, Right N x) (he : es.length ≤ 1000) (t : List (Nat × AV)) (ht : Abs.get t 5 = .ptr 1 1 0 0) (hf : loT 4 t = true) {K : AV → List AO → Prop}
    (hK : ∀ r, K r (endsH N es (.lp 26 t [15, 16] rc29_0a rc29_0c .ready) (endsL es) [])) :
    HC Try.prog false 53 [.yl 3, .ptr 2 1 0 0] [.box (.p (G N es)), .box (.p .nil), .box (.p (G N es)), .lp 26 t [15, 16] rc29_0a rc29_0c .ready] K := by
  have hlp : ∀ H, AO.ren H (Abs.idx [0, 1, 2, 3, 4] 0) (.lp 26 t [15, 16] rc29_0a rc29_0c .ready) = .lp 26 t [15, 16] rc29_0a rc29_0c .ready := fun H => lp_ren hf (by decide)
  have hlp5 : ∀ H, AO.ren H (Abs.idx [0, 1, 2, 3, 4, 5] 0) (.lp 26 t [15, 16] rc29_0a rc29_0c .ready) = .lp 26 t [15, 16] rc29_0a rc29_0c .ready := fun H => lp_ren hf (by decide)
  refine HC_of_W (af := _) ((by exact cfn53 : cfn _ _ _ = some _)) ?_
  simp -implicitDefEqProofs (disch := omega) [c53, List.getElem?_cons_zero, List.getElem?_cons_succ, wrap_id]
  refine loopW es.length (fun k s => s = ⟨[(9, .i k), (8, .i es.length), (7, .p (.sl (es.map edP))), (3, .i (endsL (es.take k)).length), (0, .yl 3), (1, .ptr 2 1 0 0)], endsH N es (.lp 26 t [15, 16] rc29_0a rc29_0c .ready) (endsL (es.take k)) []⟩)
    (((Wk_nilB 1 0 2 70 rfl rfl).trans (Wk_flat 1 (x := .agg [.os 4 0 0]) (y := .os 4 0 0) rfl rfl)).trans (wk_norm [0, 1, 2, 3, 4] [9, 8, 7, 3, 0, 1] rfl (by simp -implicitDefEqProofs [-AO.ren, norm, renH, ren_box, ren_fbx, ren_row, ren_tab, ren_dict, Abs.get, AV.ren, idx_at, idx_at0, hlp, show endsL [] = [] from rfl]))) rfl ?_
  rintro k s hk rfl
  have hL := endsL_take_len hg he k
  by_cases hlt : k < es.length
  · have hr := hg es[k] (List.getElem_mem hlt)
    obtain ⟨m, hm⟩ : ∃ m : Nat, es[k].m = m := ⟨es[k].m.toNat, by have := hr.m1; omega⟩
    have hm50 : m ≤ 50 := by have := hr.m50; omega
    simp -implicitDefEqProofs (disch := omega) [List.getElem?_cons_zero, List.getElem?_cons_succ, wrap_id, hlt, hm]
    refine loopS m (fun j s => s = ⟨[(15, .i j), (14, .i m), (5, .ptr 5 1 0 0), (9, .i k), (8, .i es.length), (7, .p (.sl (es.map edP))), (3, .i ((endsL (es.take k)).length + j : Nat)), (0, .yl 3), (1, .ptr 2 1 0 0)], endsH N es (.lp 26 t [15, 16] rc29_0a rc29_0c .ready) (endsL (es.take k) ++ List.replicate j (es[k].a, es[k].b)) [.box (.p (edP es[k]))]⟩)
      [0, 1, 2, 3, 4, 5] [15, 14, 5, 9, 8, 7, 3, 0, 1] rfl (by simp -implicitDefEqProofs [-AO.ren, norm, renH, ren_box, ren_fbx, ren_row, ren_tab, ren_dict, Abs.get, AV.ren, idx_at, idx_at0, hlp5, hm, endsH]) ?_
    rintro j s hj rfl
    by_cases hlj : j < m
    · have hL2 : (endsL (es.take k)).length + (j + 1) ≤ 1048576 := by omega
      simp -implicitDefEqProofs (disch := omega) [List.getElem?_cons_zero, List.getElem?_cons_succ, wrap_id, hlj]
      refine HY_of_W rfl rcc29_0a rcc29_0c rfl rfl rfl rfl ?_
      simp -implicitDefEqProofs (disch := omega) [List.getElem?_cons_zero, List.getElem?_cons_succ, wrap_id, ra29_0a, ra29_0c, ht, hL2, Nat.add_assoc]
      exact round_end [0, 1, 2, 3, 4, 5] [15, 14, 5, 9, 8, 7, 3, 0, 1] hlj rfl (by simp -implicitDefEqProofs [-AO.ren, norm, renH, ren_box, ren_fbx, ren_row, ren_tab, ren_dict, Abs.get, AV.ren, idx_at, idx_at0, hlp5, List.replicate_succ', endsH, Int.add_assoc])
    · have hjm : j = m := by omega
      subst hjm
      have hs := endsL_snoc es k hlt
      rw [hm, Int.toNat_natCast] at hs
      simp -implicitDefEqProofs (disch := omega) [List.getElem?_cons_zero, List.getElem?_cons_succ, wrap_id]
      exact round_end [0, 1, 2, 3, 4] [9, 8, 7, 3, 0, 1] hlt rfl (by simp -implicitDefEqProofs [-AO.ren, norm, renH, ren_box, ren_fbx, ren_row, ren_tab, ren_dict, Abs.get, AV.ren, idx_at, idx_at0, hlp, hs, endsH])
  · have hk : k = es.length := by omega
    subst hk
    rw [List.take_length]
    simp -implicitDefEqProofs (disch := omega) [List.getElem?_cons_zero, List.getElem?_cons_succ, wrap_id]
    exact finH trivial rfl (hK _)
theorem gends_ok (N : Int) (es : List Ed) (hel : es.length ≤ 1000) (hgc : gcheck N es = 0) : PC Try.prog 29 [G N es] (.tup [.p (.ps (endsL es)), .i 0]) [] := by
  have hg := gcheck_ok hgc
  refine PC_of_W cfn29 ?_
  simp -implicitDefEqProofs (disch := omega) [c29, List.getElem?_cons_zero, List.getElem?_cons_succ, wrap_id]
  refine HC_of_PC rfl (gcheck_ok' N es (by omega)) ?_
  simp -implicitDefEqProofs (disch := omega) [List.getElem?_cons_zero, List.getElem?_cons_succ, wrap_id, hgc]
  refine HC_of_PC rfl (singles_ok N es) ?_
  simp -implicitDefEqProofs (disch := omega) [List.getElem?_cons_zero, List.getElem?_cons_succ, wrap_id]
  refine ⟨by kernel_rfl, ends_range N es hg.right hel _ rfl rfl fun r => AfterR_ready rfl ?_⟩
  simp -implicitDefEqProofs (disch := omega) [List.getElem?_cons_zero, List.getElem?_cons_succ, wrap_id]
  (refine fin0 trivial rfl ?_; simp -implicitDefEqProofs (disch := omega) [List.getElem?_cons_zero, List.getElem?_cons_succ, idx, wrap_id])
end Go.Proofs.Ytojamfbdlfgedaa
end
section
set_option linter.unusedSimpArgs false
set_option linter.unusedVariables false
namespace Go.Proofs.Ytojamfbdlfgedaa
open Go.Abs Go.Sand
attribute [local simp ↓ 10000] putA_ints
theorem ap_0 {α : Type} (A L : List α) : (A ++ L)[A.length]? = L[0]? := by rw [List.getElem?_append_right (Nat.le_refl _), Nat.sub_self]
theorem ap_i {α : Type} (A L : List α) (i : Nat) : (A ++ L)[A.length + i]? = L[i]? := by rw [List.getElem?_append_right (by omega), Nat.add_sub_cancel_left]
attribute [local simp] ap_0 ap_i
theorem F_view12 (H : List AO) : ∀ F : List Int, viewL H ((F.map PV.i).map AV.p) = some (F.map PV.i)
  | [] => rfl
  | x :: F => by
    show viewL H (.p (.i x) :: (F.map PV.i).map AV.p) = _
    rw [viewL, F_view12 H F]; rfl
theorem troot_ok {e : Bool} {F : List Int} {c : Nat → Nat} {H : List AO} {o : Nat} {R : AV → List AO → Prop} (hF : TF F c) (ho : H[o]? = some (boxF F)) (v : Nat) (hv : v < 12) (hR : R (.i (c v)) H) : HC Try.prog e 47 [.ptr o 1 0 0, .i v] H R := by
  have hview : view H (.agg (AV.p (.agg (F.map PV.i))).flat) = some (.agg (F.map PV.i)) := by
    show (match viewL H ((F.map PV.i).map AV.p) with
      | some m => if m.all (·.one) then some (PV.agg m) else none
      | none => none) = _
    rw [F_view12]
    dsimp only
    rw [if_pos]
    refine List.all_eq_true.2 fun e he => ?_
    obtain ⟨x, _, rfl⟩ := List.mem_map.1 he
    rfl
  obtain ⟨rk, hrk⟩ := hF.par
  refine HC_ptr (rest := [.i v]) (ps := F.map PV.i) (x := .int .i64 (c v)) cfn47 ho hview ?_ hR
  simp -implicitDefEqProofs (disch := omega) [c47, List.getElem?_cons_zero, List.getElem?_cons_succ, wrap_id]
  refine loopW (rk v) (fun k s => ∃ u : Nat, s = ⟨[(1, .i u), (0, .sp (.agg (F.map PV.i)) 0), (4, .i 0)], []⟩ ∧ (u < 12 ∧ rk u + k ≤ rk v) ∧ c u = c v) (Wk_keep [1, 0, 4]) ⟨v, rfl, ⟨hv, by omega⟩, rfl⟩ ?_
  rintro k s hk ⟨u, rfl, ⟨hu, huk⟩, hc⟩
  obtain ⟨p, h0, h1, h3, h4, h5⟩ := hrk u hu
  have hg := get_F h1
  by_cases e : p = u
  · have hcu := h4.1 e
    subst e
    have hcv : c v = p := by rw [← hc, hcu]
    simp -implicitDefEqProofs (disch := omega) [List.getElem?_cons_zero, List.getElem?_cons_succ, wrap_id, hg, hu]
    (refine fin0 trivial rfl ?_; simp -implicitDefEqProofs (disch := omega) [List.getElem?_cons_zero, List.getElem?_cons_succ, idx, wrap_id, hcv])
  · have e' : ¬ ((p : Int) = (u : Int)) := by omega
    have h6 := h5 e
    simp -implicitDefEqProofs (disch := omega) [List.getElem?_cons_zero, List.getElem?_cons_succ, wrap_id, hg, hu, e']
    exact round_keep [1, 0, 4] (by omega) ⟨p, rfl, ⟨h0, by omega⟩, by rw [h3]; exact hc⟩
theorem tjoin_ok {F : List Int} {c : Nat → Nat} {H : List AO} {o : Nat} {R : AV → List AO → Prop} (hF : TF F c) (ho : H[o]? = some (boxF F)) (a b : Nat) (ha : a < 12) (hb : b < 12) (hR : ∀ Z, R (.b (decide (c a ≠ c b))) (H.set o (boxF (F.set (c a) ((c b : Nat) : Int))) ++ Z)) :
    HC Try.prog false 34 [.ptr o 1 0 0, .p (.agg [.i a, .i b])] H R := by
  have hoL : o < H.length := (List.getElem?_eq_some_iff.1 ho).1
  have ho2 : ∀ L : List AO, (H ++ L)[o]? = some (boxF F) := fun L => by rw [List.getElem?_append_left hoL]; exact ho
  have hs2 : ∀ (L : List AO) x, (H ++ L).set o x = H.set o x ++ L := fun L x => List.set_append_left _ _ hoL
  have A12 := hF.lo a ha
  have hl := hF.len
  clear hoL
  refine HC_of_W (af := _) ((by exact cfn34 : cfn _ _ _ = some _)) ?_
  simp -implicitDefEqProofs (disch := omega) [c34, List.getElem?_cons_zero, List.getElem?_cons_succ, wrap_id]
  refine troot_ok hF (ho2 _) a ha ?_
  simp -implicitDefEqProofs (disch := omega) [List.getElem?_cons_zero, List.getElem?_cons_succ, wrap_id]
  refine troot_ok hF (ho2 _) b hb ?_
  simp -implicitDefEqProofs (disch := omega) [List.getElem?_cons_zero, List.getElem?_cons_succ, wrap_id, ho2, hs2, A12, hl]
  have hbe : (!decide ((c a : Int) = (c b : Int))) = decide (c a ≠ c b) := by
    by_cases e : c a = c b
    · simp [e]
    · have : ¬ (c a : Int) = (c b : Int) := by omega
      simp [e, this]
  rw [hbe]
  exact finH trivial rfl (by have h := hR [.box (.p (.agg [.i a, .i b]))]; simp only [boxF, List.map_set] at h; exact h)
theorem loose_ok : PC Try.prog 33 [] (.p (.agg (((List.range 12).map fun i : Nat => (i : Int)).map PV.i))) [] := by
  refine PC_of_W cfn33 ?_
  simp -implicitDefEqProofs (disch := omega) [c33, List.getElem?_cons_zero, List.getElem?_cons_succ, wrap_id]
  refine loopW 12 (fun k s => s = ⟨[(3, .i k), (1, .ptr 1 1 0 0), (0, .ptr 0 1 0 0)], [boxF (gF 0), boxF (gF k)]⟩) (wk_norm [0, 1] [3, 1, 0] rfl rfl) rfl ?_
  rintro k s hk rfl
  by_cases hlt : k < 12
  · have hl : (gF k).length = 12 := by simp [gF]
    have hs := congrArg (List.map PV.i) (gF_set k hlt)
    rw [List.map_set] at hs
    have hlt' : (k : Int) < 12 := by omega
    simp -implicitDefEqProofs (disch := omega) [List.getElem?_cons_zero, List.getElem?_cons_succ, wrap_id, hlt', hlt, hl, hs]
    exact round_end [0, 1] [3, 1, 0] hlt rfl rfl
  · have hk12 : k = 12 := by omega
    subst hk12
    have hl : (gF 12).length = 12 := rfl
    have hl0 : (gF 0).length = 12 := rfl
    simp -implicitDefEqProofs (disch := omega) [List.getElem?_cons_zero, List.getElem?_cons_succ, wrap_id, hl, hl0]
    exact fin1 [] trivial rfl rfl ⟨rfl, rfl⟩
/-- The edges lie among the first vertices. -/
def EIn (n : Nat) (L : List (Int × Int)) : Prop := ∀ x ∈ L, (0 ≤ x.1 ∧ x.1 < n) ∧ 0 ≤ x.2 ∧ x.2 < n
theorem EIn.nat {n : Nat} {L : List (Int × Int)} (h : EIn n L) : ∀ x ∈ natE L, x.1 < n ∧ x.2 < n := fun x hx => by
  rw [natE, List.mem_map] at hx
  obtain ⟨y, hy, rfl⟩ := hx
  have := h y hy
  (try dsimp only)
  omega
/-- What a forest is behind some edges. -/
def TreI (n : Nat) (c : Nat → Nat) (L : List (Int × Int)) (F : List Int) : Prop := TF F (mrgA c (natE L)) ∧ Inn n (mrgA c (natE L))
theorem natE_snoc (L : List (Int × Int)) {j : Nat} (h : j < L.length) {a b : Nat} (hx : L[j] = ((a : Int), (b : Int))) : natE (L.take (j + 1)) = natE (L.take j) ++ [(a, b)] := by
  rw [List.take_succ_eq_append_getElem h, natE, List.map_append, hx]; rfl
theorem mrgA_snoc (c : Nat → Nat) (l : List (Nat × Nat)) (x : Nat × Nat) : mrgA c (l ++ [x]) = mrg (mrgA c l) x.1 x.2 := by
  unfold mrgA
  rw [List.foldl_append]; rfl
theorem TreI.snoc {n : Nat} (hn : n ≤ 12) {c : Nat → Nat} {L : List (Int × Int)} {j : Nat} {F : List Int} (h : TreI n c (L.take j) F) (hj : j < L.length) {a b : Nat} (hx : L[j] = ((a : Int), (b : Int))) (ha : a < n) (hb : b < n) :
    TreI n c (L.take (j + 1)) (F.set (mrgA c (natE (L.take j)) a) ((mrgA c (natE (L.take j)) b : Nat) : Int)) := by
  unfold TreI
  rw [natE_snoc L hj hx, mrgA_snoc]
  exact ⟨h.1.join (by omega) (by omega), h.2.mrg hb⟩
theorem TreI.cnt {n : Nat} {c : Nat → Nat} {L : List (Int × Int)} {j : Nat} {F : List Int} (h : TreI n c (L.take j) F) (hj : j < L.length) {a b : Nat} (hx : L[j] = ((a : Int), (b : Int))) (ha : a < n) :
    rcnt (mrgA c (natE (L.take (j + 1)))) n + (if mrgA c (natE (L.take j)) a ≠ mrgA c (natE (L.take j)) b then 1 else 0) = rcnt (mrgA c (natE (L.take j))) n := by
  rw [natE_snoc L hj hx, mrgA_snoc]
  by_cases e : mrgA c (natE (L.take j)) a = mrgA c (natE (L.take j)) b
  · rw [if_neg (by simp [e]), mrg_same e]; rfl
  · rw [if_pos e]
    have := rcnt_join h.2.2 e n
    rw [if_pos (h.2.1 a ha)] at this
    exact this
theorem EIn.at {n : Nat} {L : List (Int × Int)} (h : EIn n L) {j : Nat} (hj : j < L.length) : ∃ a b : Nat, L[j] = ((a : Int), (b : Int)) ∧ a < n ∧ b < n := by
  obtain ⟨⟨h1, h2⟩, h3, h4⟩ := h L[j] (List.getElem_mem hj)
  refine ⟨L[j].1.toNat, L[j].2.toNat, ?_, by omega, by omega⟩
  rw [Int.toNat_of_nonneg h1, Int.toNat_of_nonneg h3]
theorem connects_ok {n : Nat} (hn1 : 1 ≤ n) (hn : n ≤ 12) {F : List Int} {c : Nat → Nat} (hF : TF F c) (hi : Inn n c) (L : List (Int × Int)) (hL : EIn n L) (hll : L.length ≤ 100000) :
    PC Try.prog 37 [.i n, .agg (F.map PV.i), .ps L] (.b (oneCl n (mrgA c (natE L)))) [] := by
  have hl := hF.len
  refine PC_of_W cfn37 ?_
  simp -implicitDefEqProofs (disch := omega) [c37, List.getElem?_cons_zero, List.getElem?_cons_succ, wrap_id, hl]
  refine loopW n (fun k s => s = ⟨[(12, .i k), (11, .i n), (7, .i (rcnt c k)), (4, .ptr 0 1 0 0), (2, .p (.ps L))], [boxF F]⟩) (wk_norm [0] [12, 11, 7, 4, 2] rfl rfl) rfl ?_
  rintro k s hk rfl
  have hrc := rcnt_le c k
  have hrs := rcnt_succ c k
  by_cases hlt : k < n
  · simp -implicitDefEqProofs (disch := omega) [List.getElem?_cons_zero, List.getElem?_cons_succ, wrap_id, hlt]
    refine troot_ok hF rfl k (by omega) ?_
    by_cases e : c k = k
    · have e' : ((c k : Int) = (k : Int)) = True := eq_true (by omega)
      rw [if_pos e] at hrs
      simp -implicitDefEqProofs (disch := omega) [List.getElem?_cons_zero, List.getElem?_cons_succ, wrap_id, e']
      exact round_end [0] [12, 11, 7, 4, 2] hlt rfl (by rw [hrs]; rfl)
    · have e' : ((c k : Int) = (k : Int)) = False := eq_false (by omega)
      rw [if_neg e] at hrs
      simp -implicitDefEqProofs (disch := omega) [List.getElem?_cons_zero, List.getElem?_cons_succ, wrap_id, e']
      exact round_end [0] [12, 11, 7, 4, 2] hlt rfl (by rw [hrs]; rfl)
  have hkn : k = n := by omega
  subst hkn
  have hn0 : 0 < k := by omega
  simp -implicitDefEqProofs (disch := omega) [List.getElem?_cons_zero, List.getElem?_cons_succ, wrap_id, hlt]
  refine loopW L.length (fun j s => ∃ F', TreI k c (L.take j) F' ∧ s = ⟨[(24, .i j), (23, .i L.length), (22, .p (.ps L)), (7, .i (rcnt (mrgA c (natE (L.take j))) k)), (4, .ptr 0 1 0 0)], [boxF F']⟩) (wk_norm [0] [24, 23, 22, 7, 4] rfl rfl) ⟨F, ⟨hF, hi⟩, rfl⟩ ?_
  rintro j s hj ⟨F', hT, rfl⟩
  have hl' := hT.1.len
  have hrc := rcnt_le (mrgA c (natE (L.take j))) k
  by_cases hlj : j < L.length
  · obtain ⟨a, b, hab, ha, hb⟩ := hL.at hlj
    have hsn := hT.snoc hn hlj hab ha hb
    have hct := hT.cnt hlj hab ha
    have hpp : pP L[j] = .agg [.i a, .i b] := by rw [hab]
    obtain ⟨c', hc'⟩ : ∃ c', c' = mrgA c (natE (L.take j)) := ⟨_, rfl⟩
    rw [← hc'] at hsn hct hrc ⊢
    obtain ⟨c2, hc2⟩ : ∃ c2, c2 = mrgA c (natE (L.take (j + 1))) := ⟨_, rfl⟩
    rw [← hc2] at hct
    simp -implicitDefEqProofs (disch := omega) [List.getElem?_cons_zero, List.getElem?_cons_succ, wrap_id, hlj, hpp]
    refine tjoin_ok (c := c') (hc' ▸ hT.1) rfl a b (by omega) (by omega) fun Z => ?_
    by_cases e : c' a = c' b
    · rw [if_neg (by simp [e]), Nat.add_zero] at hct
      have hd : decide (c' a ≠ c' b) = false := by simp [e]
      rw [hd]
      simp -implicitDefEqProofs (disch := omega) [List.getElem?_cons_zero, List.getElem?_cons_succ, wrap_id]
      exact round_end [0] [24, 23, 22, 7, 4] hlj rfl ⟨_, hsn, by rw [← hc2, hct]; rfl⟩
    · rw [if_pos e] at hct
      have hd : decide (c' a ≠ c' b) = true := by simp [e]
      rw [hd]
      simp -implicitDefEqProofs (disch := omega) [List.getElem?_cons_zero, List.getElem?_cons_succ, wrap_id]
      exact round_end [0] [24, 23, 22, 7, 4] hlj rfl ⟨_, hsn, by
        have e2 : (rcnt c' k : Int) - 1 = (rcnt c2 k : Int) := by omega
        rw [← hc2, ← e2]; rfl⟩
  · have hje : j = L.length := by omega
    subst hje
    rw [List.take_length] at hT hrc ⊢
    have h1 := rcnt_one hT.2 hn0
    obtain ⟨m, hm⟩ : ∃ m, m = rcnt (mrgA c (natE L)) k := ⟨_, rfl⟩
    rw [← hm] at h1 hrc ⊢
    have hb : decide ((m : Int) = 1) = oneCl k (mrgA c (natE L)) := by
      cases ho : oneCl k (mrgA c (natE L))
      · have : ¬ m = 1 := fun e => by rw [h1.1 e] at ho; cases ho
        exact decide_eq_false (by omega)
      · have := h1.2 ho
        exact decide_eq_true (by omega)
    simp -implicitDefEqProofs (disch := omega) [List.getElem?_cons_zero, List.getElem?_cons_succ, wrap_id, hlj, hb]
    (refine fin0 trivial rfl ?_; simp -implicitDefEqProofs (disch := omega) [List.getElem?_cons_zero, List.getElem?_cons_succ, idx, wrap_id, hb])
end Go.Proofs.Ytojamfbdlfgedaa
end
section
set_option linter.unusedSimpArgs false
namespace Go.Proofs.Ytojamfbdlfgedaa
open Go.Abs Go.Sand
def atErr (N : Int) (es : List Ed) (vs : List Int) : Int := if gcheck N es ≠ 0 then gcheck N es else atE N vs
theorem at_ok (N : Int) (es : List Ed) (xs : List Int) (hel : es.length ≤ 4611686018427387904) (hx : xs.length ≤ 4611686018427387904) : PC Try.prog 61 [G N es, .is xs] (.i (atErr N es xs)) [] := by
  refine PC_of_W cfn61 ?_
  simp -implicitDefEqProofs (disch := omega) [c61, List.getElem?_cons_zero, List.getElem?_cons_succ, wrap_id]
  refine HC_of_PC rfl (gcheck_ok' N es hel) ?_
  by_cases h0 : gcheck N es = 0
  rotate_left
  · simp -implicitDefEqProofs (disch := omega) [List.getElem?_cons_zero, List.getElem?_cons_succ, wrap_id, h0]
    (refine fin0 trivial rfl ?_; simp -implicitDefEqProofs (disch := omega) [List.getElem?_cons_zero, List.getElem?_cons_succ, idx, wrap_id, atErr, h0])
  simp -implicitDefEqProofs (disch := omega) [List.getElem?_cons_zero, List.getElem?_cons_succ, wrap_id, h0]
  refine loopW xs.length (fun k s => s = ⟨[(15, .i k), (14, .i xs.length), (13, .p (.is xs)), (2, .ptr 0 1 0 0)], [.box (.p (G N es))]⟩ ∧ xs.all (vtx N) = (xs.drop k).all (vtx N)) (wk_norm [0] [15, 14, 13, 2] rfl rfl) ⟨rfl, rfl⟩ ?_
  rintro k s hk ⟨rfl, hI⟩
  by_cases hlt : k < xs.length
  · have hd := drop_all (vtx N) xs k hlt
    simp -implicitDefEqProofs (disch := omega) [List.getElem?_cons_zero, List.getElem?_cons_succ, wrap_id, hlt]
    refine HC_of_PC rfl (gvertex_ok N xs[k]) ?_
    cases hv : vtx N xs[k]
    · rw [hv] at hd
      simp -implicitDefEqProofs (disch := omega) [List.getElem?_cons_zero, List.getElem?_cons_succ, wrap_id]
      (refine fin0 trivial rfl ?_; simp -implicitDefEqProofs (disch := omega) [List.getElem?_cons_zero, List.getElem?_cons_succ, idx, wrap_id, atErr, atE, h0, hI, hd])
    · rw [hv] at hd
      simp -implicitDefEqProofs (disch := omega) [List.getElem?_cons_zero, List.getElem?_cons_succ, wrap_id]
      exact round_end [0] [15, 14, 13, 2] hlt rfl ⟨rfl, by rw [hI, hd]; rfl⟩
  · simp -implicitDefEqProofs (disch := omega) [List.getElem?_cons_zero, List.getElem?_cons_succ, wrap_id, hlt]
    (refine fin0 trivial rfl ?_; simp -implicitDefEqProofs (disch := omega) [List.getElem?_cons_zero, List.getElem?_cons_succ, idx, wrap_id, atErr, atE, h0, hI, List.drop_of_length_le (Nat.le_of_not_lt hlt)])
theorem val_ok (N : Int) (es : List Ed) (v : Int) (hgc : gcheck N es = 0) (hv : vtx N v = true) (hel : es.length ≤ 1000) : PC Try.prog 54 [G N es, .i v] (.tup [.i (valS es v), .i 0]) [] := by
  refine PC_of_W cfn54 ?_
  simp -implicitDefEqProofs (disch := omega) [c54, List.getElem?_cons_zero, List.getElem?_cons_succ, wrap_id]
  have hg := gcheck_ok hgc
  have hat : atErr N es [v] = 0 := by simp [atErr, hgc, atE, hv]
  refine HC_of_PC rfl (at_ok N es [v] (by omega) (by simp)) ?_
  simp -implicitDefEqProofs (disch := omega) [List.getElem?_cons_zero, List.getElem?_cons_succ, wrap_id, hat]
  refine loopW es.length (fun k s => s = ⟨[(20, .i k), (19, .i es.length), (18, .p (.sl (es.map edP))), (7, .i (valS (es.take k) v)), (1, .i v)], []⟩) (wk_norm [] [20, 19, 18, 7, 1] rfl rfl) rfl ?_
  rintro k s hk rfl
  by_cases hlt : k < es.length
  rotate_left
  · have : k = es.length := by omega
    subst this
    rw [List.take_length]
    simp -implicitDefEqProofs (disch := omega) [List.getElem?_cons_zero, List.getElem?_cons_succ, wrap_id]
    (refine fin0 trivial rfl ?_; simp -implicitDefEqProofs (disch := omega) [List.getElem?_cons_zero, List.getElem?_cons_succ, idx, wrap_id])
  have hs := valS_snoc es v k hlt
  have hb := valS_bd (n := N) (es := es.take k) (fun x hx => hg.right x (List.mem_of_mem_take hx)) v
  have hb2 := valS_bd (n := N) (es := es.take (k + 1)) (fun x hx => hg.right x (List.mem_of_mem_take hx)) v
  have hl2 : (es.take k).length ≤ 1000 := by rw [List.length_take]; omega
  have hl3 : (es.take (k + 1)).length ≤ 1000 := by rw [List.length_take]; omega
  by_cases h1 : es[k].a = es[k].b
  · have hv1 : val1 v es[k] = 0 := by simp [val1, h1]
    rw [hv1, Int.add_zero] at hs
    simp -implicitDefEqProofs (disch := omega) [List.getElem?_cons_zero, List.getElem?_cons_succ, wrap_id, hlt, h1]
    exact round_end [] [20, 19, 18, 7, 1] hlt rfl (by rw [hs]; rfl)
  by_cases h2 : es[k].a = v
  · have hv1 : val1 v es[k] = es[k].m := by simp [val1, h1, h2]; intro h; exact absurd (h2.trans h) h1
    rw [hv1] at hs
    rw [hs] at hb2
    have h1v : ¬ v = es[k].b := fun h => h1 (h2.trans h)
    simp -implicitDefEqProofs (disch := omega) [List.getElem?_cons_zero, List.getElem?_cons_succ, wrap_id, hlt, h1v, h2]
    exact round_end [] [20, 19, 18, 7, 1] hlt rfl (by rw [hs]; rfl)
  by_cases h3 : es[k].b = v
  · have hv1 : val1 v es[k] = es[k].m := by simp [val1, h1, h2, h3]
    rw [hv1] at hs
    rw [hs] at hb2
    simp -implicitDefEqProofs (disch := omega) [List.getElem?_cons_zero, List.getElem?_cons_succ, wrap_id, hlt, h1, h2, h3]
    exact round_end [] [20, 19, 18, 7, 1] hlt rfl (by rw [hs]; rfl)
  · have hv1 : val1 v es[k] = 0 := by simp [val1, h1, h2, h3]
    rw [hv1, Int.add_zero] at hs
    simp -implicitDefEqProofs (disch := omega) [List.getElem?_cons_zero, List.getElem?_cons_succ, wrap_id, hlt, h1, h2, h3]
    exact round_end [] [20, 19, 18, 7, 1] hlt rfl (by rw [hs]; rfl)
end Go.Proofs.Ytojamfbdlfgedaa
/-
  Contracts: package slices; what a script changes.
-/
set_option linter.unusedSimpArgs false
namespace Go.Proofs.Ytojamfbdlfgedaa
open Go.Abs Go.Sand
theorem clone_ok (xs : List Int) (hx : xs.length ≤ 1000000) : PC Try.prog 12 [.is xs] (.os 0 0 xs.length) [.row (xs.map .i) 1 3 false] := by
  refine PC_of_W cfn12 ?_
  simp -implicitDefEqProofs (disch := omega) [c12, List.getElem?_cons_zero, List.getElem?_cons_succ, wrap_id, stepK_eqn, eqnP]
  have hx' : xs.length ≤ 1048576 := by omega
  refine ⟨?_, ?_⟩
  · rintro rfl
    simp -implicitDefEqProofs (disch := omega) [List.getElem?_cons_zero, List.getElem?_cons_succ, wrap_id]
    refine finW (Wk_nil 2 1 3 rfl) ?_
    exact fin1 [0] trivial rfl rfl ⟨rfl, rfl⟩
  · simp -implicitDefEqProofs (disch := omega) [List.getElem?_cons_zero, List.getElem?_cons_succ, wrap_id, hx']
    exact fin1 [0] trivial rfl rfl ⟨rfl, rfl⟩
theorem cloneI_ok (xs : List Int) (hx : xs.length ≤ 1000000) : PC Try.prog 28 [.is xs] (.os 0 0 xs.length) [.row (xs.map .i) 1 3 false] := by
  refine PC_of_W cfn28 ?_
  simp -implicitDefEqProofs (disch := omega) [c28, List.getElem?_cons_zero, List.getElem?_cons_succ, wrap_id, stepK_eqn, eqnP]
  have hx' : xs.length ≤ 1048576 := by omega
  refine ⟨?_, ?_⟩
  · rintro rfl
    simp -implicitDefEqProofs (disch := omega) [List.getElem?_cons_zero, List.getElem?_cons_succ, wrap_id]
    refine finW (Wk_nil 2 1 3 rfl) ?_
    exact fin1 [0] trivial rfl rfl ⟨rfl, rfl⟩
  · simp -implicitDefEqProofs (disch := omega) [List.getElem?_cons_zero, List.getElem?_cons_succ, wrap_id, hx']
    exact fin1 [0] trivial rfl rfl ⟨rfl, rfl⟩
section
variable {e : Bool} {f : FuncId} {fs cs : List AV} {H : List AO} {p : Int → Bool} {R : AV → List AO → Prop}
end
end Go.Proofs.Ytojamfbdlfgedaa
/-
  Contracts: what a script changes, in package firing.
-/
set_option linter.unusedSimpArgs false
namespace Go.Proofs.Ytojamfbdlfgedaa
open Go.Abs Go.Sand
theorem Bd.get {B : Int} {d : List Int} (h : Bd B d) {k : Nat} (hk : k < d.length) : -B ≤ d[k] ∧ d[k] ≤ B := by
  have := h k
  rwa [getD_get hk] at this
end Go.Proofs.Ytojamfbdlfgedaa
/-
  Contracts: what a script changes, in the reference.
-/
set_option linter.unusedSimpArgs false
namespace Go.Proofs.Ytojamfbdlfgedaa
open Go.Abs Go.Sand
end Go.Proofs.Ytojamfbdlfgedaa
/-
  Contracts: what a script changes, and bounds it.
-/
set_option linter.unusedSimpArgs false
set_option linter.unusedVariables false
namespace Go.Proofs.Ytojamfbdlfgedaa
open Go.Abs Go.Sand
end Go.Proofs.Ytojamfbdlfgedaa
end
section
set_option linter.unusedSimpArgs false
set_option linter.unusedVariables false
namespace Go.Proofs.Ytojamfbdlfgedaa
open Go.Abs Go.Sand
abbrev _root_.Go.Abs.PV.bo (o : List Bool) : PV := .sl (o.map PV.b)
section
variable {N : Int} {es : List Ed} {o : List Bool} (hg : gcheck N es = 0) (hel : es.length ≤ 1000) (hol : o.length = (endsL es).length)
include hg hel hol
end
end Go.Proofs.Ytojamfbdlfgedaa
end
section
set_option linter.unusedSimpArgs false
set_option linter.unusedVariables false
namespace Go.Proofs.Ytojamfbdlfgedaa
open Go.Abs Go.Sand
def connE (N : Int) (es : List Ed) : Int := if gcheck N es ≠ 0 then gcheck N es else if partsN es N.toNat = 1 then 0 else 13
theorem conn_good {N : Int} {es : List Ed} (h : connE N es = 0) : gcheck N es = 0 ∧ partsN es N.toNat = 1 := by
  unfold connE at h
  split at h
  · rename_i h1; exact absurd h h1
  · rename_i h1
    split at h
    · rename_i h2; exact ⟨Decidable.not_not.1 h1, h2⟩
    · cases h
theorem rconn_ok (n : Nat) (es : List Ed) (hn : n ≤ 12) (hr : ∀ x ∈ es, Right n x) (hel : es.length ≤ 900) : PC Try.prog 17 [G n es] (.b (decide (partsN es n = 1))) [] := by
  have hq : (((partsN es n : Nat) : Int) = 1) = (partsN es n = 1) := by simp only [eq_iff_iff]; omega
  refine PC_of_W cfn17 ?_
  simp -implicitDefEqProofs (disch := omega) [c17, List.getElem?_cons_zero, List.getElem?_cons_succ, wrap_id]
  refine HC_of_PC rfl (rparts_ok n es hn hr hel) ?_
  simp -implicitDefEqProofs (disch := omega) [List.getElem?_cons_zero, List.getElem?_cons_succ, wrap_id]
  (refine fin0 trivial rfl ?_; simp -implicitDefEqProofs (disch := omega) [List.getElem?_cons_zero, List.getElem?_cons_succ, idx, wrap_id, hq])
theorem rjoined_ok (N : Int) (es : List Ed) (hel : es.length ≤ 900) : PC Try.prog 9 [G N es] (.i (connE N es)) [] := by
  refine PC_of_W cfn9 ?_
  simp -implicitDefEqProofs (disch := omega) [c9, List.getElem?_cons_zero, List.getElem?_cons_succ, wrap_id]
  refine HC_of_PC rfl (rcheck_ok N es (by omega)) ?_
  by_cases hg : gcheck N es = 0
  · have hgg := gcheck_ok hg
    have h1 := hgg.n1
    have h12 := hgg.n12
    obtain ⟨n, rfl⟩ : ∃ n : Nat, N = n := ⟨N.toNat, by omega⟩
    simp -implicitDefEqProofs (disch := omega) [List.getElem?_cons_zero, List.getElem?_cons_succ, wrap_id, hg]
    refine HC_of_PC rfl (rconn_ok n es (by omega) hgg.right hel) ?_
    by_cases hp : partsN es n = 1
    · simp -implicitDefEqProofs (disch := omega) [List.getElem?_cons_zero, List.getElem?_cons_succ, wrap_id, hp]
      (refine fin0 trivial rfl ?_; simp -implicitDefEqProofs (disch := omega) [List.getElem?_cons_zero, List.getElem?_cons_succ, idx, wrap_id, connE, hg, hp])
    · simp -implicitDefEqProofs (disch := omega) [List.getElem?_cons_zero, List.getElem?_cons_succ, wrap_id, hp]
      (refine fin0 trivial rfl ?_; simp -implicitDefEqProofs (disch := omega) [List.getElem?_cons_zero, List.getElem?_cons_succ, idx, wrap_id, connE, hg, hp])
  · simp -implicitDefEqProofs (disch := omega) [List.getElem?_cons_zero, List.getElem?_cons_succ, wrap_id, hg]
    (refine fin0 trivial rfl ?_; simp -implicitDefEqProofs (disch := omega) [List.getElem?_cons_zero, List.getElem?_cons_succ, idx, wrap_id, connE, hg])
theorem smallG_len {N : Int} {es : List Ed} {a b : Int} (h : smallG N es a b = true) : es.length ≤ 40 := by
  unfold smallG at h
  simp only [Bool.and_eq_true, decide_eq_true_eq] at h
  exact h.1
end Go.Proofs.Ytojamfbdlfgedaa
end
