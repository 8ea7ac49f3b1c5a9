/-
  The law of the returns.
-/
import Derived.Test.YtjkmhjjfipnbbaaTx
set_option linter.unusedSimpArgs false
namespace Go.Proofs.Ytjkmhjjfipnbbaa
open Go.Abs Go.Sand

theorem smallB_ok {N : Int} {es : List Ed} {d : List Int} (h : smallB N es d = true) : few18 N es d = true ∧ givenE N es d = 0 ∧ d.all in60 = true := by
  simpa [smallB, Bool.and_eq_true, decide_eq_true_eq, and_assoc] using h
theorem given_mk {N : Int} {es : List Ed} {d m : List Int} (h : givenE N es d = 0) (hl : m.length = d.length) (hb : m.all inB = true) : givenE N es m = 0 := by
  have hg := given_gcheck h
  obtain ⟨n, rfl, -, h1, -⟩ := given_ok h
  rw [givenE, if_neg (by simp [hg]), dcheck] at h ⊢
  split at h
  · cases h
  · split at h
    · rename_i h2; exact absurd (by rw [h1]) h2
    · rename_i h2 h3
      rw [if_neg h2, if_neg (by omega), if_pos hb]
theorem ofL_at {n : Nat} {l : List Int} (t : Int) (h : ∀ x ∈ l, 0 ≤ x ∧ x < (n : Int)) (i : Nat) (hi : i < n) : (ofL n l t).getD i 0 = if (i : Int) ∈ l then t else 0 := by
  rw [ofL, ofL_getD n t l _ h (by simp) i hi, zero_getD]
/-- What is not in a set. -/
def restL (set : List Int) (k : Nat) : List Int := ((List.range k).filter fun i : Nat => !decide ((i : Int) ∈ set)).map fun i : Nat => (i : Int)
theorem restL_snoc (set : List Int) (k : Nat) : restL set (k + 1) = restL set k ++ if (k : Int) ∈ set then [] else [(k : Int)] := by
  unfold restL
  rw [List.range_succ, List.filter_append, List.map_append]
  by_cases h : (k : Int) ∈ set <;> simp [h]
theorem restL_len (set : List Int) (k : Nat) : (restL set k).length ≤ k := by
  unfold restL
  rw [List.length_map]
  exact Nat.le_trans (List.length_filter_le _ _) (by simp)
theorem mem_restL (set : List Int) (k : Nat) (v : Int) : v ∈ restL set k ↔ ∃ i : Nat, i < k ∧ ¬ (i : Int) ∈ set ∧ v = i := by
  simp only [restL, List.mem_map, List.mem_filter, List.mem_range, Bool.not_eq_true', decide_eq_false_iff_not]
  constructor
  · rintro ⟨i, ⟨h1, h2⟩, rfl⟩; exact ⟨i, h1, h2, rfl⟩
  · rintro ⟨i, h1, h2, rfl⟩; exact ⟨i, ⟨h1, h2⟩, rfl⟩
theorem restL_pair (set : List Int) (k : Nat) : (restL set k).Pairwise (· < ·) := by
  unfold restL
  rw [List.pairwise_map]
  refine List.Pairwise.filter _ ?_
  exact List.pairwise_lt_range.imp fun h => by omega
theorem gives_set {n : Nat} {set : List Int} (hs : ∀ x ∈ set, 0 ≤ x ∧ x < (n : Int)) {v : Nat} (hv : (v : Int) ∈ set) {x : Ed} (hx : Right n x) : gives (ofL n set 1) v x = -(lost1 set v x) := by
  have h1 := hx.a0
  have h2 := hx.an
  have h3 := hx.b0
  have h4 := hx.bn
  have ea : ((x.a.toNat : Nat) : Int) = x.a := by omega
  have eb : ((x.b.toNat : Nat) : Int) = x.b := by omega
  unfold gives flow lost1
  rw [ofL_at 1 hs _ (by omega), ofL_at 1 hs _ (by omega), ea, eb]
  by_cases ha : x.a ∈ set <;> by_cases hb : x.b ∈ set
  · simp [ha, hb]
  · have : ¬ x.b = (v : Int) := fun h => hb (h ▸ hv)
    simp [ha, hb, this]
  · have : ¬ x.a = (v : Int) := fun h => ha (h ▸ hv)
    simp [ha, hb, this]
    split <;> simp
  · simp [ha, hb]
theorem dif_set {n : Nat} {es : List Ed} (hg : ∀ x ∈ es, Right n x) {set : List Int} (hs : ∀ x ∈ set, 0 ≤ x ∧ x < (n : Int)) {v : Nat} (hv : (v : Int) ∈ set) : dif es (ofL n set 1) v = -(lostV es set v) := by
  unfold dif lostV
  induction es with
  | nil => rfl
  | cons x es ih =>
    simp only [List.map_cons, sumI]
    rw [ih fun y hy => hg y (by simp [hy]), gives_set hs hv (hg x (by simp))]
    omega
theorem sub_vtx {N : Int} {set : List Int} (h : subErr N (-1) set = 0) : ∀ x ∈ set, 0 ≤ x ∧ x < N := (subErr_ok h).1
theorem returns_at (N : Int) (es : List Ed) (d set : List Int) : PC Try.prog 6 [G N es, .is d, .is set] (.b true) [] := by
  refine PC_of_W cfn6 ?_
  simp -implicitDefEqProofs (disch := omega) [c6, List.getElem?_cons_zero, List.getElem?_cons_succ, wrap_id]
  refine HC_of_PC rfl (small18_ok N es d) ?_
  cases hsm : smallB N es d
  · simp -implicitDefEqProofs (disch := omega) [List.getElem?_cons_zero, List.getElem?_cons_succ, wrap_id]
    refine HC_of_PC rfl (awake_ok) ?_
    simp -implicitDefEqProofs (disch := omega) [List.getElem?_cons_zero, List.getElem?_cons_succ, wrap_id]
    (refine fin0 trivial rfl ?_; simp -implicitDefEqProofs (disch := omega) [List.getElem?_cons_zero, List.getElem?_cons_succ, idx, wrap_id])
  by_cases hlen : (20 : Int) < set.length
  · simp -implicitDefEqProofs (disch := omega) [List.getElem?_cons_zero, List.getElem?_cons_succ, wrap_id, hlen]
    refine HC_of_PC rfl (awake_ok) ?_
    simp -implicitDefEqProofs (disch := omega) [List.getElem?_cons_zero, List.getElem?_cons_succ, wrap_id]
    (refine fin0 trivial rfl ?_; simp -implicitDefEqProofs (disch := omega) [List.getElem?_cons_zero, List.getElem?_cons_succ, idx, wrap_id])
  simp -implicitDefEqProofs (disch := omega) [List.getElem?_cons_zero, List.getElem?_cons_succ, wrap_id, hlen]
  refine HC_of_PC rfl (rsubset_ok N es set (by omega)) ?_
  by_cases hsub : subErr N (-1) set = 0
  rotate_left
  · simp -implicitDefEqProofs (disch := omega) [List.getElem?_cons_zero, List.getElem?_cons_succ, wrap_id, hsub]
    refine HC_of_PC rfl (awake_ok) ?_
    simp -implicitDefEqProofs (disch := omega) [List.getElem?_cons_zero, List.getElem?_cons_succ, wrap_id]
    (refine fin0 trivial rfl ?_; simp -implicitDefEqProofs (disch := omega) [List.getElem?_cons_zero, List.getElem?_cons_succ, idx, wrap_id])
  obtain ⟨hf, h0, h60⟩ := smallB_ok hsm
  have hl := few_len hf
  have he : es.length ≤ 1000 := by omega
  have hgc := given_gcheck h0
  have hw := few_ends hf hgc
  have hsv := sub_vtx hsub
  obtain ⟨n, rfl, hg, hn0, hb, hn1, hn⟩ := given_ok h0
  have hs60 : ∀ i, -100000 ≤ d.getD i 0 ∧ d.getD i 0 ≤ 100000 := fun i => by have := small_get h60 i; omega
  have hsp : ∀ (l : List Int) (t : Int), (-1 ≤ t ∧ t ≤ 1) → (∀ x ∈ l, 0 ≤ x ∧ x < (n : Int)) → ∀ i j, i < n → j < n → (ofL n l t).getD i 0 - (ofL n l t).getD j 0 ≤ 120 := fun l t ht hx i j hi hj => by
    rw [ofL_at t hx i hi, ofL_at t hx j hj]
    split <;> split <;> omega
  have hin : ∀ (l : List Int) (t : Int), (-1 ≤ t ∧ t ≤ 1) → (∀ x ∈ l, 0 ≤ x ∧ x < (n : Int)) → (movedE es (ofL n l t) d).all inB = true := fun l t ht hx => moved_small hg.right hw hn0 (hsp l t ht hx) hs60
  have hdin : d.all inB = true := by
    have := moved_small hg.right hw hn0 (s := []) (d := d) (fun i j _ _ => by simp) hs60
    rwa [moved_same_all (u := []) (d := d) hg.right 0 hn0 (fun i _ => by simp)] at this
  have hback : ∀ (l l' : List Int) (t t' c : Int), (∀ i, i < n → (ofL n l t).getD i 0 + (ofL n l' t').getD i 0 = c) → movedE es (ofL n l' t') (movedE es (ofL n l t) d) = d := fun l l' t t' c hc => by
    rw [moved_two (u := []) hg.right (-c) hn0 (fun i hi => by have := hc i hi; have e : ([] : List Int).getD i 0 = 0 := rfl; rw [e]; omega), moved_same_all hg.right 0 hn0 (fun i _ => by simp)]
  simp -implicitDefEqProofs (disch := omega) [List.getElem?_cons_zero, List.getElem?_cons_succ, wrap_id, hsub]
  refine loopW (s' := ⟨[(41, .i 0), (40, .i set.length), (39, .p (.is set)), (3, .ptr 0 1 0 0), (2, .p (.is set)), (1, .p (.is d))], [.box (.p (G n es))]⟩) set.length (fun k st => st = ⟨[(41, .i k), (40, .i set.length), (39, .p (.is set)), (3, .ptr 0 1 0 0), (2, .p (.is set)), (1, .p (.is d))], [.box (.p (G n es))]⟩) (wk_norm [0] [41, 40, 39, 3, 2, 1] rfl rfl) rfl ?_
  rintro k st hk rfl
  by_cases hlt : k < set.length
  · have hv := hsv set[k] (List.getElem_mem hlt)
    have hvs : ∀ x ∈ [set[k]], 0 ≤ x ∧ x < (n : Int) := fun x hx => by simp at hx; subst hx; exact hv
    have hvt : vtx n set[k] = true := by simp [vtx]; omega
    have f1 : vtxE n es d set[k] = 0 := by rw [vtxE, if_neg (by simp [h0]), if_pos hvt]
    have f2 := res_in (hin [set[k]] 1 (by omega) hvs)
    have hl1 : (movedE es (ofL n [set[k]] 1) d).length = n := by rw [movedE_length, hn0]
    have f3 : vtxE n es (movedE es (ofL n [set[k]] 1) d) set[k] = 0 := by rw [vtxE, if_neg (by simp [given_mk h0 (by rw [movedE_length]) (hin [set[k]] 1 (by omega) hvs)]), if_pos hvt]
    have f4 := res_in hdin
    simp -implicitDefEqProofs (disch := omega) [List.getElem?_cons_zero, List.getElem?_cons_succ, wrap_id, hlt]
    refine HC_of_PC rfl (PC_is (fire_ok n es d he (by omega) set[k]) (r' := .tup [.p (.is (movedE es (ofL n [set[k]] 1) d)), .i 0]) (by rw [resT2, f1, fireM, Int.toNat_natCast, f2.1, f2.2])) ?_
    simp -implicitDefEqProofs (disch := omega) [List.getElem?_cons_zero, List.getElem?_cons_succ, wrap_id]
    refine HC_of_PC rfl (PC_is (borrow_ok n es (movedE es (ofL n [set[k]] 1) d) he (by omega) set[k]) (r' := .tup [.p (.is d), .i 0]) (by rw [resT2, f3, fireM, Int.toNat_natCast, hback [set[k]] [set[k]] 1 (-1) 0 (fun i hi => by rw [ofL_at _ hvs i hi, ofL_at _ hvs i hi]; split <;> omega), f4.1, f4.2])) ?_
    simp -implicitDefEqProofs (disch := omega) [List.getElem?_cons_zero, List.getElem?_cons_succ, wrap_id]
    refine HC_of_PC rfl (aws d (by omega)) ?_
    simp -implicitDefEqProofs (disch := omega) [List.getElem?_cons_zero, List.getElem?_cons_succ, wrap_id]
    exact round_end [0] [41, 40, 39, 3, 2, 1] hlt rfl rfl
  have hn' : n ≤ 1048575 := by omega
  simp -implicitDefEqProofs (disch := omega) [List.getElem?_cons_zero, List.getElem?_cons_succ, wrap_id, hlt]
  refine loopW n (fun k st => st = ⟨[(72, .i k), (71, .i n), (13, .os 1 0 (restL set k).length), (3, .ptr 0 1 0 0), (2, .p (.is set)), (1, .p (.is d))], [.box (.p (G n es)), .row ((restL set k).map .i) 1 3 false]⟩) ((Wk_nil 13 1 3 rfl).trans (wk_norm [0, 1] [72, 71, 13, 3, 2, 1] rfl rfl)) rfl ?_
  rintro j st hj rfl
  have hrl := restL_len set j
  have hsn := restL_snoc set j
  by_cases hlj : j < n
  · by_cases hin1 : (j : Int) ∈ set
    · rw [if_pos hin1, List.append_nil] at hsn
      simp -implicitDefEqProofs (disch := omega) [List.getElem?_cons_zero, List.getElem?_cons_succ, wrap_id, hlj]
      refine HC_of_PC rfl (contains_ok set j (by omega)) ?_
      simp -implicitDefEqProofs (disch := omega) [List.getElem?_cons_zero, List.getElem?_cons_succ, wrap_id, hin1]
      exact round_end [0, 1] [72, 71, 13, 3, 2, 1] hlj rfl (by rw [hsn]; rfl)
    · rw [if_neg hin1] at hsn
      have hbd : (restL set j).length ≤ 1048575 := by omega
      simp -implicitDefEqProofs (disch := omega) [List.getElem?_cons_zero, List.getElem?_cons_succ, wrap_id, hlj]
      refine HC_of_PC rfl (contains_ok set j (by omega)) ?_
      simp -implicitDefEqProofs (disch := omega) [List.getElem?_cons_zero, List.getElem?_cons_succ, wrap_id, hin1, hbd]
      exact round_end [0, 1] [72, 71, 13, 3, 2, 1] hlj rfl (by rw [hsn, List.length_append, List.map_append]; rfl)
  have hjn : j = n := by omega
  subst hjn
  have hrv : ∀ x ∈ restL set j, 0 ≤ x ∧ x < (j : Int) := fun x hx => by
    obtain ⟨i, h1, -, rfl⟩ := (mem_restL _ _ _).1 hx
    omega
  have g1 : subE j es d set = 0 := by rw [subE, if_neg (by simp [h0]), hsub]
  have r1 := res_in (hin set 1 (by omega) hsv)
  have h1 : givenE j es (movedE es (ofL j set 1) d) = 0 := given_mk h0 (by rw [movedE_length]) (hin set 1 (by omega) hsv)
  have hal : (movedE es (ofL j set 1) d).length = j := by rw [movedE_length, hn0]
  have g2 : subE j es (movedE es (ofL j set 1) d) (restL set j) = 0 := by
    rw [subE, if_neg (by simp [h1])]
    exact subErr_asc hrv (fun x hx => by have := hrv x hx; omega) (restL_pair _ _)
  have r2 := res_in hdin
  have hbk : movedE es (ofL j (restL set j) 1) (movedE es (ofL j set 1) d) = d := hback set (restL set j) 1 1 1 fun i hi => by
    rw [ofL_at 1 hsv i hi, ofL_at 1 hrv i hi]
    by_cases hc : (i : Int) ∈ set
    · rw [if_pos hc, if_neg (fun h => by obtain ⟨i', _, h3, h4⟩ := (mem_restL _ _ _).1 h; exact h3 (h4 ▸ hc))]; rfl
    · rw [if_neg hc, if_pos ((mem_restL _ _ _).2 ⟨i, hi, hc, rfl⟩)]; rfl
  simp -implicitDefEqProofs (disch := omega) [List.getElem?_cons_zero, List.getElem?_cons_succ, wrap_id, hlj]
  refine HC_of_PC rfl (PC_is (fireset_ok j es d set he (by omega) (by omega)) (r' := .tup [.p (.is (movedE es (ofL j set 1) d)), .i 0]) (by rw [resT2, g1, fireM, Int.toNat_natCast, r1.1, r1.2])) ?_
  simp -implicitDefEqProofs (disch := omega) [List.getElem?_cons_zero, List.getElem?_cons_succ, wrap_id]
  refine HC_of_PC (by simp [views, view, viewC]) (PC_is (fireset_ok j es (movedE es (ofL j set 1) d) (restL set j) he (by omega) (by omega)) (r' := .tup [.p (.is d), .i 0]) (by rw [resT2, g2, fireM, Int.toNat_natCast, hbk, r2.1, r2.2])) ?_
  simp -implicitDefEqProofs (disch := omega) [List.getElem?_cons_zero, List.getElem?_cons_succ, wrap_id]
  refine HC_of_PC rfl (PC_is (legalset_ok j es d set he (by omega) (by omega)) (r' := .tup [.b (legalSet j es d set), .i 0]) (by rw [g1, resB_ok, Int.toNat_natCast])) ?_
  simp -implicitDefEqProofs (disch := omega) [List.getElem?_cons_zero, List.getElem?_cons_succ, wrap_id]
  refine HC_of_PC rfl (aws d (by omega)) ?_
  simp -implicitDefEqProofs (disch := omega) [List.getElem?_cons_zero, List.getElem?_cons_succ, wrap_id, hal]
  refine loopW (s' := ⟨[(126, .i 0), (125, .i set.length), (124, .p (.is set)), (19, .b (legalSet j es d set)), (15, .p (.is (movedE es (ofL j set 1) d)))], []⟩) set.length (fun k st => st = ⟨[(126, .i k), (125, .i set.length), (124, .p (.is set)), (19, .b (legalSet j es d set)), (15, .p (.is (movedE es (ofL j set 1) d)))], []⟩) (wk_norm [] [126, 125, 124, 19, 15] rfl rfl) rfl ?_
  rintro p st hp rfl
  by_cases hlp : p < set.length
  · have hv := hsv set[p] (List.getElem_mem hlp)
    cases hls : legalSet j es d set
    · simp -implicitDefEqProofs (disch := omega) [List.getElem?_cons_zero, List.getElem?_cons_succ, wrap_id, hlp]
      exact round_end [] [126, 125, 124, 19, 15] hlp rfl rfl
    · obtain ⟨q, hq⟩ : ∃ q : Nat, set[p] = q := ⟨set[p].toNat, by omega⟩
      have hqm : (q : Int) ∈ set := hq ▸ List.getElem_mem hlp
      have hqn : q < j := by omega
      have hqa : q < (movedE es (ofL j set 1) d).length := by omega
      have ha : 0 ≤ (movedE es (ofL j set 1) d)[q] := by
        have e1 := moved_dif hg.right (ofL j set 1) d hn0 q
        rw [getD_get hqa, dif_set hg.right hsv hqm] at e1
        simp only [legalSet, Bool.and_eq_true, Bool.not_eq_true', List.any_eq_false, Bool.not_eq_true, Bool.not_eq_false', decide_eq_true_eq] at hls
        have e2 := hls.2 q hqm
        rw [Int.toNat_natCast, lostL_getD _ _ _ _ hqn] at e2
        simp only [decide_eq_true_eq, Bool.not_eq_true', decide_eq_false_iff_not, Bool.not_eq_false', Decidable.not_not] at e2
        omega
      have ha' : ¬ (movedE es (ofL j set 1) d)[q] < 0 := by omega
      simp -implicitDefEqProofs (disch := omega) [List.getElem?_cons_zero, List.getElem?_cons_succ, wrap_id, hlp, hq, hqa, ha']
      exact round_end [] [126, 125, 124, 19, 15] hlp rfl rfl
  · simp -implicitDefEqProofs (disch := omega) [List.getElem?_cons_zero, List.getElem?_cons_succ, wrap_id, hlp]
    refine HC_of_PC rfl (awake_ok) ?_
    simp -implicitDefEqProofs (disch := omega) [List.getElem?_cons_zero, List.getElem?_cons_succ, wrap_id]
    (refine fin0 trivial rfl ?_; simp -implicitDefEqProofs (disch := omega) [List.getElem?_cons_zero, List.getElem?_cons_succ, idx, wrap_id])
end Go.Proofs.Ytjkmhjjfipnbbaa
