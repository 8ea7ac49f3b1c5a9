/-
  Texts joined: Wp Wt.
-/
import Derived.Test.YtamiekhoaggpkaaKa31

section
set_option linter.unusedSimpArgs false
set_option linter.unusedVariables false
namespace Go.Proofs.Ytamiekhoaggpkaa
open Go.Abs Go.Sand
theorem play_dag' {n : Nat} {es : List Ed} {c2 : List Int} {ents : List (KV × AV)} {k f : Int} {lo : AO} {tab : List ADN} (ht : tab = playD) {Q : AExit → St → Prop} (hc : c2.length ≤ 12) (hkey : keyA (.p (.agg ((padI c2).map PV.i))) = some (.kl (padI c2))) (hpl : (padI c2).length = 12) (hwf : (∀ x, x ∈ padI c2 → (Lit.int .i64 x).wf = true) = True) (hdi : dIdx (.kl (padI c2)) ents = none)
    (hQ : Q .normal (pgS8 n es c2 ents k f lo)) : W Try.prog 12 (.dag tab) Q (pgS0 n es c2 ents k f lo) := ht ▸ pgdag n es c2 ents k f lo hc hkey hpl hwf hdi hQ
noncomputable abbrev pyL (t : List (Nat × AV)) (st : LSt) : AO := .lp 76 t [32, 33] rc23_0a rc23_0c st
theorem keyA_l {l : List Int} (h : l.length = 12) : keyA (.p (.agg (l.map PV.i))) = some (.kl l) := by
  have hb : ∀ l : List Int, ints (l.map PV.i) = some l := by
    intro l
    induction l with
    | nil => rfl
    | cons x l ih =>
      show (ints (l.map PV.i)).map _ = _
      rw [ih]; rfl
  have h2 : isB (l.map PV.i) = false := by
    cases l with
    | nil => simp at h
    | cons x l => rfl
  show (if isB (l.map PV.i) then _ else (ints (l.map PV.i)).map KV.kl) = _
  rw [if_neg (by rw [h2]; simp), hb]; rfl
mutual
theorem loA_mono {m m' : Nat} (h : m ≤ m') : ∀ x : AV, loA m x = true → loA m' x = true
  | .p _, _ => rfl
  | .sp _ _, _ => rfl
  | .dead, _ => rfl
  | .os o _ _, hx => by simp only [loA, decide_eq_true_eq] at hx ⊢; omega
  | .ptr o _ _ _, hx => by simp only [loA, decide_eq_true_eq] at hx ⊢; omega
  | .mp o, hx => by simp only [loA, decide_eq_true_eq] at hx ⊢; omega
  | .bs o _ _, hx => by simp only [loA, decide_eq_true_eq] at hx ⊢; omega
  | .yl o, hx => by simp only [loA, decide_eq_true_eq] at hx ⊢; omega
  | .agg l, hx => by simp only [loA] at hx ⊢; exact loL_mono h l hx
  | .tup l, hx => by simp only [loA] at hx ⊢; exact loL_mono h l hx
  | .fn _ a b, hx => by simp only [loA, Bool.and_eq_true] at hx ⊢; exact ⟨loL_mono h a hx.1, loL_mono h b hx.2⟩
theorem loL_mono {m m' : Nat} (h : m ≤ m') : ∀ l : List AV, loL m l = true → loL m' l = true
  | [], _ => rfl
  | x :: l, hx => by simp only [loL, Bool.and_eq_true] at hx ⊢; exact ⟨loA_mono h x hx.1, loL_mono h l hx.2⟩
end
theorem loT_mono {m m' : Nat} (h : m ≤ m') {t : List (Nat × AV)} (ht : loT m t = true) : loT m' t = true :=
  List.all_eq_true.2 fun x hx => loA_mono h x.2 (List.all_eq_true.1 ht x hx)
section
variable {n : Nat} {es : List Ed} (hg : GoodG n es) {d : List Int}
include hg
omit hg in
/-- What stands in the memory of Play, with a result. -/
def pyX (n : Nat) (es : List Ed) (c2 : List Int) (ents : List (KV × AV)) (k f : Int) (res : AV) (er : Int) (lo : AO) : List AO :=
  [.box (.p (.agg [PV.i n, PV.sl (es.map edP)])), .box res, .box (.p (.i er)), .box (.fn (.func 58) [] []), .dict (.arr 12) ents, .box (.mp 4), .box (.i k), .box (.i f),
   .box (.agg [.p (.is (valsL n es)), .p (.iss (rowsL n es)), .i (-1)]), .box (.ptr 8 1 0 0), .box (.p (.is c2)), lo]
set_option maxRecDepth 10000 in
set_option maxHeartbeats 1000000 in
theorem play_body {l c2 : List Int} {ents : List (KV × AV)} {k f : Nat} (hk : k ≤ 2000000) (hf : f ≤ 1048576) (hl : l.length ≤ 12) (hc2 : c2.length = n) (hcb : Bd 100000000000 c2) {K' : AV → List AO → Prop} {t : List (Nat × AV)}
    (hents : ∀ x ∈ ents, loA 12 x.2 = true) (hlo : loT 11 t = true) (t4 : Abs.get t 4 = .ptr 1 1 0 0) (t5 : Abs.get t 5 = .ptr 2 1 0 0) (t7 : Abs.get t 7 = .ptr 3 1 0 0) (t8 : Abs.get t 8 = .ptr 5 1 0 0) (t9 : Abs.get t 9 = .ptr 6 1 0 0) (t10 : Abs.get t 10 = .ptr 7 1 0 0)
    (hLim : 4096 < k + 1 → K' (.b false) (pyX n es c2 ents (k + 1) (f + l.length) (.p (.agg [.i 0, .i 0, .i 0, .b false])) 12 (pyL t (.done .ret))))
    (hAt : ∀ i, k + 1 ≤ 4096 → dIdx (.kl (padI c2)) ents = some i → ∃ a b : Nat, ents[i]? = some (.kl (padI c2), .p (.agg [.i a, .i b])) ∧ a ≤ 10000 ∧ b ≤ 10000000 ∧ ∀ G, K' (.b false) (pyX n es c2 ents (k + 1) (f + l.length) (.p (.agg [.i a, .i (k + 1 - a), .i (f + l.length - b), .b false])) 0 (pyL t (.done .ret)) ++ G))
    (hGo : k + 1 ≤ 4096 → dIdx (.kl (padI c2)) ents = none → K' (.b true) (pgQ n es c2 (ents ++ [(.kl (padI c2), .p (.agg [.i (k + 1), .i (f + l.length)]))]) (k + 1) (f + l.length) (pyL t .ready))) :
    HY Try.prog 11 [.p (.is l), .p (.is c2)] (pgQ n es c2 ents k f (pyL t .ready)) K' := by
  have hn := hg.n12
  have hpl := padI_len (d := c2) (by omega)
  have hkey := keyA_l hpl
  have hwf : (∀ x, x ∈ padI c2 → (Lit.int .i64 x).wf = true) = True := eq_true fun x hx => by
    have b1 : IntKind.i64.min = -9223372036854775808 := by decide
    have b2 : IntKind.i64.max = 9223372036854775807 := by decide
    simp only [Lit.wf, b1, b2, Bool.and_eq_true, decide_eq_true_eq]
    rcases List.mem_append.1 hx with h | h
    · obtain ⟨i, hi, rfl⟩ := List.mem_iff_getElem.1 h
      have := hcb i
      rw [getD_get hi] at this
      omega
    · have := List.eq_of_mem_replicate h
      omega
  have hcal : callable Try.prog 58 = true := by kernel_rfl
  refine HY_of_W rfl rcc23_0a rcc23_0c rfl rfl rfl rfl ?_
  unfold pgQ
  by_cases e1 : 4096 < k + 1
  · have e1' : (4096 : Int) < (k : Int) + 1 := by omega
    simp -implicitDefEqProofs (disch := omega) [List.getElem?_cons_zero, List.getElem?_cons_succ, wrap_id, ra23_0a, ra23_0c, t4, t5, t7, t8, t9, t10, e1']
    exact hLim e1
  have e1' : ¬ (4096 : Int) < (k : Int) + 1 := by omega
  simp -implicitDefEqProofs (disch := omega) [List.getElem?_cons_zero, List.getElem?_cons_succ, wrap_id, ra23_0a, ra23_0c, t4, t5, t7, t8, t9, t10, e1']
  cases hdi : dIdx (.kl (padI c2)) ents with
  | some i =>
    obtain ⟨a, b, hat, ha, hb, hK⟩ := hAt i (by omega) hdi
    refine tree_join (s0 := ⟨[(4, .ptr 1 1 0 0), (5, .ptr 2 1 0 0), (7, .ptr 3 1 0 0), (8, .ptr 5 1 0 0), (9, .ptr 6 1 0 0), (10, .ptr 7 1 0 0), (12, .p (.is c2)), (13, .ptr 12 1 0 0), (14, .b true)],
      pgQ n es c2 ents (k + 1) (f + l.length) (pyL t .busy) ++ [.box (.p (.agg [.i a, .i b]))]⟩) ?_ ?_
    rotate_left
    · simp -implicitDefEqProofs (disch := omega) [List.getElem?_cons_zero, List.getElem?_cons_succ, wrap_id, t4, t5, t7, t8, t9, t10]
      repeat' (first
        | refine ⟨?_, ?_⟩
        | exact hcal
        | (refine HC_of_PC rfl (key_ok c2 (by omega)) ?_; simp -implicitDefEqProofs (disch := omega) [List.getElem?_cons_zero, List.getElem?_cons_succ, wrap_id, -keyA, ↓hkey, hpl, hwf, hdi, hat, t4, t5, t7, t8, t9, t10])
        | (refine wk_eq (Wk_keep [4, 5, 7, 8, 9, 10, 12, 13, 14]) ?_; simp -implicitDefEqProofs [Abs.get, t4, t5, t7, t8, t9, t10, pgQ]))
    · unfold pgQ
      simp -implicitDefEqProofs (disch := omega) [List.getElem?_cons_zero, List.getElem?_cons_succ, wrap_id]
      exact hK _
  | none =>
    refine tree_join (s0 := ⟨[(4, .ptr 1 1 0 0), (5, .ptr 2 1 0 0), (7, .ptr 3 1 0 0), (8, .ptr 5 1 0 0), (9, .ptr 6 1 0 0), (10, .ptr 7 1 0 0), (12, .p (.is c2)), (13, .ptr 12 1 0 0), (14, .b false)],
      pgQ n es c2 ents (k + 1) (f + l.length) (pyL t .busy) ++ [.box (.p (.agg [.i 0, .i 0]))]⟩) ?_ ?_
    rotate_left
    · simp -implicitDefEqProofs (disch := omega) [List.getElem?_cons_zero, List.getElem?_cons_succ, wrap_id, t4, t5, t7, t8, t9, t10]
      repeat' (first
        | refine ⟨?_, ?_⟩
        | exact hcal
        | (refine HC_of_PC rfl (key_ok c2 (by omega)) ?_; simp -implicitDefEqProofs (disch := omega) [List.getElem?_cons_zero, List.getElem?_cons_succ, wrap_id, -keyA, ↓hkey, hpl, hwf, hdi, t4, t5, t7, t8, t9, t10])
        | (refine wk_eq (Wk_keep [4, 5, 7, 8, 9, 10, 12, 13, 14]) ?_; simp -implicitDefEqProofs [Abs.get, t4, t5, t7, t8, t9, t10, pgQ]))
    · simp -implicitDefEqProofs (disch := omega) [List.getElem?_cons_zero, List.getElem?_cons_succ, wrap_id]
      refine wk_dag (Wk_pop 12 [7, 8, 9, 10, 12] (by omega) (by simp [pgQ]) (H' := pgQ n es c2 ents (k + 1) (f + l.length) (pyL t .busy)) (by simp [pgQ]) ?_ ?_) ?_
      · intro i hi
        simp only [List.mem_cons, List.not_mem_nil, or_false] at hi
        rcases hi with rfl | rfl | rfl | rfl | rfl <;> simp [Abs.get, loA]
      · have hlo2 : loT 12 t = true := loT_mono (by omega) hlo
        intro ob hob
        simp only [pgQ, List.mem_cons, List.not_mem_nil, or_false] at hob
        rcases hob with rfl | rfl | rfl | rfl | rfl | rfl | rfl | rfl | rfl | rfl | rfl | rfl
        · rfl
        · rfl
        · rfl
        · rfl
        · exact List.all_eq_true.2 hents
        · rfl
        · rfl
        · rfl
        · rfl
        · rfl
        · rfl
        · exact hlo2
      refine play_dag' (by kernel_rfl) (by omega) hkey hpl hwf hdi ?_
      unfold pgS8 pgQ
      simp -implicitDefEqProofs (disch := omega) [List.getElem?_cons_zero, List.getElem?_cons_succ, wrap_id]
      exact hGo (by omega) hdi
end
theorem dIdx_find {kv : KV} : ∀ es : List (KV × AV), dIdx kv es = es.findIdx? fun x => decide (x.1 = kv)
  | [] => rfl
  | x :: l => by
    rw [dIdx, dIdx_find l, List.findIdx?_cons]
    by_cases h : x.1 = kv <;> simp [h]
section
variable (n : Nat) (es : List Ed) (d : List Int)
/-- How a closed game goes on. -/
def pgF : Nat → Nat → (Int × Int × Int × Bool) × Int
  | 0, _ => ((0, 0, 0, false), 12)
  | f + 1, k => if rdyL n es (-1) (rdC n es (-1) d k) = [] then (if 4096 < k + 1 then ((0, 0, 0, false), 12) else (((k : Int), 1, 0, true), 0)) else if 4096 < k + 1 then ((0, 0, 0, false), 12) else
      match fstC n es d k with
      | some i => (((i : Int), (k : Int) + 1 - i, sumI (rdS n es (-1) d (k + 1)) - sumI (rdS n es (-1) d i), false), 0)
      | none => pgF f (k + 1)
theorem pgF_succ (f k : Nat) : pgF n es d (f + 1) k = if rdyL n es (-1) (rdC n es (-1) d k) = [] then (if 4096 < k + 1 then ((0, 0, 0, false), 12) else (((k : Int), 1, 0, true), 0)) else if 4096 < k + 1 then ((0, 0, 0, false), 12) else
      match fstC n es d k with
      | some i => (((i : Int), (k : Int) + 1 - i, sumI (rdS n es (-1) d (k + 1)) - sumI (rdS n es (-1) d i), false), 0)
      | none => pgF n es d f (k + 1) := rfl
def entK (k : Nat) : List (KV × AV) := (List.range (k + 1)).map fun i : Nat => (KV.kl (padI (rdC n es (-1) d i)), AV.p (.agg [.i i, .i (sumI (rdS n es (-1) d i))]))
def PgI (k : Nat) : Prop := k ≤ 4096 ∧ pgF n es d (4097 - k) k = pgF n es d 4097 0
end
def gameR (N : Int) (es : List Ed) (d : List Int) : (Int × Int × Int × Bool) × Int := if pcE N es d ≠ 0 then ((0, 0, 0, false), pcE N es d) else pgF N.toNat es d 4097 0
theorem ent_idx {n : Nat} {es : List Ed} {d : List Int} (hd : d.length = n) (k : Nat) : dIdx (.kl (padI (rdC n es (-1) d (k + 1)))) (entK n es d k) = fstC n es d k := by
  rw [dIdx_find, entK, List.findIdx?_map, fstC]
  congr 1
  funext i
  simp only [Function.comp]
  rw [decide_eq_decide]
  constructor
  · intro h
    injection h with h
    exact padI_inj (rdC_len hd i) (rdC_len hd (k + 1)) h
  · intro h; rw [h]
theorem rdS_sum12 {n : Nat} {es : List Ed} {q : Int} {d : List Int} (hn : n ≤ 12) : ∀ k : Nat, 0 ≤ sumI (rdS n es q d k) ∧ sumI (rdS n es q d k) ≤ 12 * k
  | 0 => by rw [rdS, sumI_zeros]; omega
  | k + 1 => by
    have ih := rdS_sum12 hn (es := es) (q := q) (d := d) k
    have h1 := rdS_sum (n := n) (es := es) (q := q) (d := d) k
    have h2 := rdyK_len (n := n) (es := es) (q := q) (rdC n es q d k) n
    have e : rdyL n es q (rdC n es q d k) = rdyK n es q (rdC n es q d k) n := rfl
    rw [e] at h1
    push_cast
    omega
def PgO (n : Nat) (es : List Ed) (d : List Int) (t : List (Nat × AV)) (H' : List AO) : Prop :=
  ∃ (c2 : List Int) (ents : List (KV × AV)) (k f : Int) (G : List AO), H' = pyX n es c2 ents k f (.p (.agg [.i (pgF n es d 4097 0).1.1, .i (pgF n es d 4097 0).1.2.1, .i (pgF n es d 4097 0).1.2.2.1, .b (pgF n es d 4097 0).1.2.2.2])) (pgF n es d 4097 0).2 (pyL t (.done .ret)) ++ G
section
variable {n : Nat} {es : List Ed} (hg : GoodG n es) {d : List Int} (hd : d.length = n) (hdb : Bd 1000000000 d)
include hg hd hdb
set_option maxRecDepth 10000 in
theorem play_range {K : AV → List AO → Prop} {t : List (Nat × AV)}
    (hlo : loT 11 t = true) (t4 : Abs.get t 4 = .ptr 1 1 0 0) (t5 : Abs.get t 5 = .ptr 2 1 0 0) (t7 : Abs.get t 7 = .ptr 3 1 0 0) (t8 : Abs.get t 8 = .ptr 5 1 0 0) (t9 : Abs.get t 9 = .ptr 6 1 0 0) (t10 : Abs.get t 10 = .ptr 7 1 0 0)
    (hK0 : ∀ r (k : Nat) c2 ents f, k ≤ 4096 → pgF n es d 4097 0 = (if 4096 < k + 1 then ((0, 0, 0, false), 12) else (((k : Int), 1, 0, true), 0)) → K r (pgQ n es c2 ents k f (pyL t .ready)))
    (hK1 : ∀ r H', PgO n es d t H' → K r H') :
    HC Try.prog false 88 [.yl 11, .ptr 9 1 0 0, .ptr 10 1 0 0] (pgQ n es d [(.kl (padI d), .p (.agg [.i 0, .i 0]))] 0 0 (pyL t .ready)) K := by
  have hn := hg.n12
  have hbd : ∀ k : Nat, k ≤ 5000 → Bd 100000000000 (rdC n es (-1) d k) := fun k hk => (rdC_bd hg hd hdb (by omega) k).more (by omega)
  have hlo2 : loT 12 t = true := loT_mono (by omega) hlo
  have h0 : pgQ n es d [(.kl (padI d), .p (.agg [.i 0, .i 0]))] 0 0 (pyL t .ready) = pgQ n es (rdC n es (-1) d 0) (entK n es d 0) (0 : Nat) (sumI (rdS n es (-1) d 0)) (pyL t .ready) := by
    have e : entK n es d 0 = [(.kl (padI d), .p (.agg [.i 0, .i 0]))] := by
      simp only [entK, List.range_succ, List.range_zero, List.nil_append, List.map_cons, List.map_nil]
      rw [rdC_zero hg hd, rdS, sumI_zeros]; rfl
    rw [rdC_zero hg hd, e, rdS, sumI_zeros]; rfl
  rw [h0]
  have hents : ∀ k, ∀ x ∈ entK n es d k, loA 12 x.2 = true := fun k x hx => by
    obtain ⟨i, -, rfl⟩ := List.mem_map.1 hx
    rfl
  refine rounds_range hg hd (N := 4096) (ob := 9) (od := 10) (o := 8) (lp := 11) (I := PgI n es d) (Hk := fun k => pgQ n es (rdC n es (-1) d k) (entK n es d k) k (sumI (rdS n es (-1) d k)) (pyL t .ready)) (Out := PgO n es d t)
    (fun k hI => hbd k (by have := hI.1; omega)) (fun k hI => hI.1) (by omega) (fun k => rfl) (fun k => rfl) (fun k => rfl) (fun k => ⟨_, rfl, rfl⟩) (fun k ob hob => ?_) (fun k => rfl)
    ⟨Nat.zero_le _, rfl⟩ ?_ ?_ hK1
  · show loO 12 ob = true
    simp only [pgQ, List.mem_cons, List.not_mem_nil, or_false] at hob
    rcases hob with rfl | rfl | rfl | rfl | rfl | rfl | rfl | rfl | rfl | rfl | rfl | rfl
    · rfl
    · rfl
    · rfl
    · rfl
    · exact List.all_eq_true.2 (hents k)
    · rfl
    · rfl
    · rfl
    · rfl
    · rfl
    · rfl
    · exact hlo2
  · rintro k ⟨hI1, hI2⟩ hne K' hT hF'
    obtain ⟨hs0, hs1⟩ := rdS_sum12 (es := es) (q := -1) (d := d) (show n ≤ 12 by omega) k
    obtain ⟨f, hf⟩ : ∃ f : Nat, sumI (rdS n es (-1) d k) = f := ⟨(sumI (rdS n es (-1) d k)).toNat, by omega⟩
    have hsum := rdS_sum (n := n) (es := es) (q := -1) (d := d) k
    have h12 := rdyL_12 hg (q := -1) (rdC n es (-1) d k)
    obtain ⟨g, hg'⟩ : ∃ g, 4097 - k = g + 1 := ⟨4096 - k, by omega⟩
    rw [hg', pgF_succ, if_neg hne] at hI2
    show HY _ 11 _ (pgQ n es (rdC n es (-1) d (k + 1)) (entK n es d k) k (sumI (rdS n es (-1) d k)) (pyL t .ready)) K'
    rw [hf] at hsum ⊢
    refine play_body hg (by omega) (by omega) h12 (rdC_len hd _) (hbd (k + 1) (by omega)) (hents k) hlo t4 t5 t7 t8 t9 t10 (fun e => ?_) (fun i e hi => ?_) (fun e hi => ?_)
    · rw [if_pos e] at hI2
      refine hF' _ ⟨rdC n es (-1) d (k + 1), entK n es d k, (k : Int) + 1, (f : Int) + (rdyL n es (-1) (rdC n es (-1) d k)).length, [], ?_⟩
      rw [← hI2, List.append_nil]
    · rw [ent_idx hd] at hi
      obtain ⟨h1, h2, -⟩ := fstC_some hi
      obtain ⟨hs2, hs3⟩ := rdS_sum12 (es := es) (q := -1) (d := d) (show n ≤ 12 by omega) i
      obtain ⟨b, hb⟩ : ∃ b : Nat, sumI (rdS n es (-1) d i) = b := ⟨(sumI (rdS n es (-1) d i)).toNat, by omega⟩
      rw [if_neg (by omega), hi] at hI2
      refine ⟨i, b, ?_, by omega, by omega, fun G => hF' _ ⟨rdC n es (-1) d (k + 1), entK n es d k, (k : Int) + 1, (f : Int) + (rdyL n es (-1) (rdC n es (-1) d k)).length, G, ?_⟩⟩
      · rw [entK, List.getElem?_map, List.getElem?_range (by omega), Option.map_some, h2, hb]
      · rw [← hI2, hsum]
        dsimp only
        rw [hb]
    · rw [ent_idx hd] at hi
      rw [if_neg (by omega), hi] at hI2
      have hT2 := hT (by omega) ⟨by omega, by rw [← hI2]; congr 1; omega⟩
      have e1 : sumI (rdS n es (-1) d (k + 1)) = (f : Int) + (rdyL n es (-1) (rdC n es (-1) d k)).length := hsum
      have e2 : ((k + 1 : Nat) : Int) = (k : Int) + 1 := by push_cast; rfl
      have e3 : entK n es d (k + 1) = entK n es d k ++ [(.kl (padI (rdC n es (-1) d (k + 1))), .p (.agg [.i (k + 1), .i ((f : Int) + (rdyL n es (-1) (rdC n es (-1) d k)).length)]))] := by
        unfold entK
        rw [List.range_succ (n := k + 1), List.map_append, List.map_cons, List.map_nil, e1, e2]
      rw [e3, e1, e2] at hT2
      exact hT2
  · rintro k r ⟨hI1, hI2⟩ he
    obtain ⟨g, hg'⟩ : ∃ g, 4097 - k = g + 1 := ⟨4096 - k, by omega⟩
    rw [hg', pgF_succ, if_pos he] at hI2
    exact hK0 r k _ _ _ hI1 hI2.symm
end
section
variable (N : Int) (es : List Ed) (d : List Int) (hel : es.length ≤ 900) (hd : d.length ≤ 1000)
include hel hd
set_option maxRecDepth 10000 in
theorem play_ok20 : PC Try.prog 23 [G N es, .is d] (.tup [.p (.agg [.i (gameR N es d).1.1, .i (gameR N es d).1.2.1, .i (gameR N es d).1.2.2.1, .b (gameR N es d).1.2.2.2]), .i (gameR N es d).2]) [] := by
  refine PC_of_W cfn23 ?_
  simp -implicitDefEqProofs (disch := omega) [c23, List.getElem?_cons_zero, List.getElem?_cons_succ, wrap_id]
  refine HC_of_PC rfl (pcheck_ok N es d hel hd) ?_
  by_cases h0 : pcE N es d = 0
  rotate_left
  · simp -implicitDefEqProofs (disch := omega) [List.getElem?_cons_zero, List.getElem?_cons_succ, wrap_id, h0]
    (refine fin0 trivial rfl ?_; simp -implicitDefEqProofs (disch := omega) [List.getElem?_cons_zero, List.getElem?_cons_succ, idx, wrap_id, gameR, h0])
  obtain ⟨n, rfl, h⟩ := pc_ok h0
  have hn12 := h.g.n12
  have hdl := h.len
  have e2 : gameR n es d = pgF n es d 4097 0 := by rw [gameR, if_neg (by simp [h0]), Int.toNat_natCast]
  rw [e2]
  have hpl := padI_len (d := d) (by omega)
  have hkey := keyA_l hpl
  have hwf : (∀ x, x ∈ padI d → (Lit.int .i64 x).wf = true) = True := eq_true fun x hx => by
    have b1 : IntKind.i64.min = -9223372036854775808 := by decide
    have b2 : IntKind.i64.max = 9223372036854775807 := by decide
    simp only [Lit.wf, b1, b2, Bool.and_eq_true, decide_eq_true_eq]
    rcases List.mem_append.1 hx with h' | h'
    · obtain ⟨i, hi, rfl⟩ := List.mem_iff_getElem.1 h'
      have := h.bd i
      rw [getD_get hi] at this
      omega
    · have := List.eq_of_mem_replicate h'
      omega
  simp -implicitDefEqProofs (disch := omega) [List.getElem?_cons_zero, List.getElem?_cons_succ, wrap_id, h0]
  refine ⟨by kernel_rfl, ?_⟩
  refine HC_of_PC rfl (key_ok d (by omega)) ?_
  simp -implicitDefEqProofs (disch := omega) [List.getElem?_cons_zero, List.getElem?_cons_succ, wrap_id, -keyA, ↓hkey, hpl, hwf]
  refine HC_of_PC rfl (qof_ok n es (-1) h.g (by omega)) ?_
  simp -implicitDefEqProofs (disch := omega) [List.getElem?_cons_zero, List.getElem?_cons_succ, wrap_id]
  refine rounds_hc (by simp) (fun L => by simp) ?_
  simp -implicitDefEqProofs (disch := omega) [List.getElem?_cons_zero, List.getElem?_cons_succ, wrap_id]
  refine ⟨by kernel_rfl, ?_⟩
  refine play_range h.g hdl (h.bd.more (by omega)) rfl rfl rfl rfl rfl rfl rfl (fun r k c2 ents f hk hF => AfterR_ready rfl ?_) (fun r H' hO => ?_)
  · rw [hF]
    unfold pgQ
    by_cases h3 : 4096 < k + 1
    · have h3' : (4096 : Int) < (k : Int) + 1 := by omega
      rw [if_pos h3]
      simp -implicitDefEqProofs (disch := omega) [List.getElem?_cons_zero, List.getElem?_cons_succ, wrap_id, h3']
      (refine fin0 trivial rfl ?_; simp -implicitDefEqProofs (disch := omega) [List.getElem?_cons_zero, List.getElem?_cons_succ, idx, wrap_id])
    · have h3' : ¬ (4096 : Int) < (k : Int) + 1 := by omega
      rw [if_neg h3]
      simp -implicitDefEqProofs (disch := omega) [List.getElem?_cons_zero, List.getElem?_cons_succ, wrap_id, h3']
      (refine fin0 trivial rfl ?_; simp -implicitDefEqProofs (disch := omega) [List.getElem?_cons_zero, List.getElem?_cons_succ, idx, wrap_id])
  · obtain ⟨c2, ents, k, f, G, rfl⟩ := hO
    refine AfterR_ret rfl ?_
    unfold pyX
    simp -implicitDefEqProofs (disch := omega) [List.getElem?_cons_zero, List.getElem?_cons_succ, wrap_id]
    (refine fin0 trivial rfl ?_; simp -implicitDefEqProofs (disch := omega) [List.getElem?_cons_zero, List.getElem?_cons_succ, idx, wrap_id])
end
end Go.Proofs.Ytamiekhoaggpkaa
end
section
set_option linter.unusedSimpArgs false
set_option linter.unusedVariables false
namespace Go.Proofs.Ytamiekhoaggpkaa
open Go.Abs Go.Sand
theorem rdS_mono {n : Nat} {es : List Ed} {q : Int} {d : List Int} (i j : Nat) (h : i ≤ j) : sumI (rdS n es q d i) ≤ sumI (rdS n es q d j) := by
  induction j with
  | zero => have e : i = 0 := by omega
            subst e; exact Int.le_refl _
  | succ j ih =>
    rcases Nat.lt_or_ge i (j + 1) with h1 | h1
    · have := ih (by omega)
      have h2 := rdS_sum (n := n) (es := es) (q := q) (d := d) j
      omega
    · have e : i = j + 1 := by omega
      subst e; exact Int.le_refl _
theorem pg_sn {n : Nat} {es : List Ed} (hg : GoodG n es) {d : List Int} (hd : d.length = n) : ∀ f k : Nat, k + f = 4096 → (∀ i j, i < j → j ≤ k → rdC n es (-1) d i ≠ rdC n es (-1) d j) →
    pgF n es d (f + 1) k = match snF n es d f k with
      | none => ((0, 0, 0, false), 12)
      | some (m, i) => (((i : Int), (m : Int) + 1 - i, sumI (rdS n es (-1) d (m + 1)) - sumI (rdS n es (-1) d i), decide (sumI (rdS n es (-1) d (m + 1)) - sumI (rdS n es (-1) d i) = 0)), 0)
  | 0, k, hk, hne => by
    rw [pgF_succ]
    by_cases he : rdyL n es (-1) (rdC n es (-1) d k) = []
    · rw [if_pos he, if_pos (by omega)]; rfl
    · rw [if_neg he, if_pos (by omega)]; rfl
  | f + 1, k, hk, hne => by
    rw [pgF_succ, snF_succ]
    by_cases he : rdyL n es (-1) (rdC n es (-1) d k) = []
    · have hC : rdC n es (-1) d (k + 1) = rdC n es (-1) d k := by rw [rdC_succ hg hd, he]; rfl
      have hS : sumI (rdS n es (-1) d (k + 1)) = sumI (rdS n es (-1) d k) := by rw [rdS_sum, he]; simp
      have hF := fstC_at (n := n) (es := es) (d := d) (Nat.le_refl k) hC.symm fun j hj => by rw [hC]; exact hne j k hj (Nat.le_refl _)
      rw [if_pos he, if_neg (by omega), hF]
      dsimp only
      rw [hS]
      simp
      omega
    · rw [if_neg he, if_neg (by omega)]
      cases hF : fstC n es d k with
      | some i =>
        obtain ⟨h1, -, -⟩ := fstC_some hF
        have h2 := rdS_mono (n := n) (es := es) (q := -1) (d := d) _ _ h1
        have h3 := rdS_sum (n := n) (es := es) (q := -1) (d := d) k
        have h4 : 0 < (rdyL n es (-1) (rdC n es (-1) d k)).length := List.length_pos_iff.2 he
        have h5 : decide (sumI (rdS n es (-1) d (k + 1)) - sumI (rdS n es (-1) d i) = 0) = false := by simp; omega
        dsimp only
        rw [h5]
      | none =>
        dsimp only
        refine pg_sn hg hd f (k + 1) (by omega) fun i j hij hj => ?_
        rcases Nat.lt_or_ge j (k + 1) with h | h
        · exact hne i j hij (by omega)
        · have e : j = k + 1 := by omega
          subst e
          exact fstC_none hF i (by omega)
theorem frC_sum {n : Nat} {es : List Ed} {d : List Int} {k : Nat} (i : Nat) (hi : i < (frC n es d k).length) : sumI (rdS n es (-1) d (i + 1)) = sumI (rdS n es (-1) d i) + (frC n es d k)[i] := by
  rw [rdS_sum]; simp [frC]
section
variable (N : Int) (es : List Ed) (d : List Int) (hel : es.length ≤ 900) (hd : d.length ≤ 1000)
include hel hd
set_option maxRecDepth 10000 in
set_option maxHeartbeats 1000000 in
theorem rplay20_ok : PC Try.prog 24 [G N es, .is d] (.tup [.p (.agg [.i (gameR N es d).1.1, .i (gameR N es d).1.2.1, .i (gameR N es d).1.2.2.1, .b (gameR N es d).1.2.2.2]), .i (gameR N es d).2]) [] := by
  refine PC_of_W cfn24 ?_
  simp -implicitDefEqProofs (disch := omega) [c24, List.getElem?_cons_zero, List.getElem?_cons_succ, wrap_id]
  refine HC_of_PC rfl (r20check_ok N es d hel hd) ?_
  by_cases h0 : pcE N es d = 0
  rotate_left
  · simp -implicitDefEqProofs (disch := omega) [List.getElem?_cons_zero, List.getElem?_cons_succ, wrap_id, h0]
    (refine fin0 trivial rfl ?_; simp -implicitDefEqProofs (disch := omega) [List.getElem?_cons_zero, List.getElem?_cons_succ, idx, wrap_id, gameR, h0])
  obtain ⟨n, rfl, h⟩ := pc_ok h0
  have hn12 := h.g.n12
  have hdl := h.len
  have e2 : gameR n es d = pgF n es d 4097 0 := by rw [gameR, if_neg (by simp [h0]), Int.toNat_natCast]
  rw [e2, pg_sn h.g hdl 4096 0 rfl fun i j h1 h2 => by omega]
  cases hs : snF n es d 4096 0 with
  | none =>
    simp -implicitDefEqProofs (disch := omega) [List.getElem?_cons_zero, List.getElem?_cons_succ, wrap_id, h0]
    refine HC_of_PC rfl (seen_ok h.g hdl (h.bd.more (by omega)) hel _ (fun k i e => by rw [hs] at e; cases e) (fun _ => rfl)) ?_
    simp -implicitDefEqProofs (disch := omega) [List.getElem?_cons_zero, List.getElem?_cons_succ, wrap_id]
    (refine fin0 trivial rfl ?_; simp -implicitDefEqProofs (disch := omega) [List.getElem?_cons_zero, List.getElem?_cons_succ, idx, wrap_id])
  | some p =>
    obtain ⟨k, i⟩ := p
    have hik : i ≤ k ∧ k < 4096 := by
      have key : ∀ f m, snF n es d f m = some (k, i) → i ≤ k ∧ k < m + f := by
        intro f
        induction f with
        | zero => intro m e; cases e
        | succ f ih =>
          intro m e
          rw [snF_succ] at e
          cases hF : fstC n es d m with
          | some j =>
            rw [hF] at e
            simp only [Option.some.injEq, Prod.mk.injEq] at e
            obtain ⟨rfl, rfl⟩ := e
            have := (fstC_some hF).1
            omega
          | none =>
            rw [hF] at e
            have := ih (m + 1) e
            omega
      have := key 4096 0 hs
      omega
    have hcl : (cL n es d (k + 1)).length = k + 1 := by simp [cL]
    have hfl := frC_len n es d (k + 1)
    have hs12 := rdS_sum12 (es := es) (q := -1) (d := d) (show n ≤ 12 by omega)
    have hmono := rdS_mono (n := n) (es := es) (q := -1) (d := d)
    have hfs := frC_sum (n := n) (es := es) (d := d) (k := k + 1)
    simp -implicitDefEqProofs (disch := omega) [List.getElem?_cons_zero, List.getElem?_cons_succ, wrap_id, h0]
    refine HC_of_PC rfl (seen_ok h.g hdl (h.bd.more (by omega)) hel _ (fun k' i' e => by rw [hs] at e; cases e; rfl) (fun e => by rw [hs] at e; cases e)) ?_
    simp -implicitDefEqProofs (disch := omega) [List.getElem?_cons_zero, List.getElem?_cons_succ, wrap_id, hcl]
    refine loopW (k + 1 - i) (fun j st => st = ⟨[(12, .i ((i : Int) + j)), (11, .ptr 2 1 0 0), (8, .p (.is (frC n es d (k + 1)))), (4, .ptr 1 1 0 0)],
        [.box (.p (G n es)), .box (.p (.agg [.i 0, .i 0, .i 0, .b false])), .box (.p (.agg [.i i, .i ((k : Int) + 1 - i), .i (sumI (rdS n es (-1) d (i + j)) - sumI (rdS n es (-1) d i)), .b false]))]⟩)
      (wk_norm [0, 1, 2] [12, 11, 8, 4] rfl rfl) (by simp [Abs.norm, renH, Abs.get, AV.ren, AO.ren, idx_at, idx_at0]) ?_
    rintro j st hj rfl
    have a1 := hs12 (i + j)
    have a2 := hs12 (i + (j + 1))
    have a3 := hmono i (i + j) (by omega)
    have a4 := hs12 i
    by_cases hjk : i + j < k + 1
    · have hjf : i + j < (frC n es d (k + 1)).length := by omega
      have a5 := hfs (i + j) hjf
      have hpos : ¬ (i : Int) + j < 0 := by omega
      have hnn : 0 ≤ (i : Int) + j := by omega
      have hlt' : (i : Int) + j < (k : Int) + 1 := by omega
      have htn : ((i : Int) + j).toNat = i + j := by omega
      obtain ⟨v, hv⟩ : ∃ v, v = (frC n es d (k + 1))[i + j] := ⟨_, rfl⟩
      rw [← hv] at a5
      rw [← Nat.add_assoc] at a2
      push_cast at a1 a2 a4
      have hw := wrap_id (n := sumI (rdS n es (-1) d (i + j)) - sumI (rdS n es (-1) d i) + v) (by omega) (by omega)
      simp -implicitDefEqProofs (disch := omega) [List.getElem?_cons_zero, List.getElem?_cons_succ, wrap_id, hfl, hlt', hpos, hnn, htn, hjf, ← hv, hw]
      refine round_end [0, 1, 2] [12, 11, 8, 4] (by omega) rfl ?_
      have e1 : (i : Int) + ((j + 1 : Nat) : Int) = (i : Int) + j + 1 := by push_cast; omega
      have e3 : sumI (rdS n es (-1) d (i + (j + 1))) - sumI (rdS n es (-1) d i) = sumI (rdS n es (-1) d (i + j)) - sumI (rdS n es (-1) d i) + v := by
        rw [← Nat.add_assoc, a5]; omega
      rw [e1, e3]
      simp [Abs.norm, renH, Abs.get, AV.ren, AO.ren, idx_at, idx_at0]
    · have hjk2 : i + j = k + 1 := by omega
      have hjk3 : (i : Int) + j = (k : Int) + 1 := by omega
      rw [hjk2, hjk3]
      simp -implicitDefEqProofs (disch := omega) [List.getElem?_cons_zero, List.getElem?_cons_succ, wrap_id, hfl]
      (refine fin0 trivial rfl ?_; simp -implicitDefEqProofs (disch := omega) [List.getElem?_cons_zero, List.getElem?_cons_succ, idx, wrap_id])
end
end Go.Proofs.Ytamiekhoaggpkaa
end
