/-
  Plain laws: indegrees and outdegrees, reversing. No program.
-/
import Derived.Test.YtjinjbcdbkgedaaNma
set_option linter.unusedVariables false
set_option linter.unusedSimpArgs false
namespace Go.Sand
/-- All numbers below k. -/
def upK (k : Nat) : List Int := (List.range k).map fun v : Nat => (v : Int)
theorem upK_succ (k : Nat) : upK (k + 1) = upK k ++ [(k : Int)] := by simp [upK, List.range_succ]
theorem upK_len (k : Nat) : (upK k).length = k := by simp [upK]
theorem upK_mem {k : Nat} {x : Int} : x ∈ upK k ↔ 0 ≤ x ∧ x < k := by
  simp only [upK, List.mem_map, List.mem_range]
  constructor
  · rintro ⟨v, h, rfl⟩; omega
  · rintro ⟨h1, h2⟩; exact ⟨x.toNat, by omega, by omega⟩
theorem upK_nodup (k : Nat) : (upK k).Nodup := by
  induction k with
  | zero => simp [upK]
  | succ k ih =>
    rw [upK_succ]
    refine List.nodup_append.2 ⟨ih, by simp, fun a ha b hb => ?_⟩
    have := upK_mem.1 ha
    simp only [List.mem_singleton] at hb
    omega
theorem flip_up (o : List Bool) : ∀ k, k ≤ o.length → flipL o (upK k) = mapK (fun b => !b) o k := by
  intro k
  induction k with
  | zero => intro _; simp [upK, flipL, mapK_zero]
  | succ k ih =>
    intro hk
    have hlt : k < o.length := by omega
    have hml : k < (mapK (fun b => !b) o k).length := by rw [mapK_len]; exact hlt
    have e : flipL o (upK (k + 1)) = flip1 (flipL o (upK k)) k := by rw [upK_succ, flipL, List.foldl_append]; rfl
    rw [e, ih (by omega), flip1, Int.toNat_natCast, getDB_get hml, mapK_at _ _ _ hlt, ← mapK_set _ _ _ hlt]
theorem flip_all (o : List Bool) : flipL o (upK o.length) = o.map fun b => !b := by rw [flip_up o _ (Nat.le_refl _), mapK_all]
theorem flip_back (o : List Bool) : flipL (o.map fun b => !b) (upK o.length) = o := by
  have := flip_all (o.map fun b => !b)
  rw [List.length_map] at this
  rw [this, List.map_map]
  conv => rhs; rw [← List.map_id o]
  exact List.map_congr_left fun b _ => by simp
theorem rv_up {n : Nat} {es : List Ed} {o : List Bool} (h : oE n es o = 0) : rvE n es o (upK o.length) = 0 := by
  unfold rvE
  rw [if_neg (by simp [h])]
  exact revErr_of (fun x hx => upK_mem.1 hx) (upK_nodup _) (fun x _ hx => by simp at hx)
/-- Heads at a vertex. -/
def hcnt (v : Int) (ps : List (Int × Int)) (o : List Bool) : Nat := (((ps.zip o).map fun x => arw x.1 x.2).map (·.2)).count v
theorem hcnt_cons (v : Int) (p : Int × Int) (ps : List (Int × Int)) (d : Bool) (o : List Bool) : hcnt v (p :: ps) (d :: o) = hcnt v ps o + if (arw p d).2 = v then 1 else 0 := by
  simp only [hcnt, List.zip_cons_cons, List.map_cons, List.count_cons, beq_iff_eq]
theorem heads_both (v : Int) : ∀ (ps : List (Int × Int)) (o : List Bool), o.length = ps.length →
    hcnt v ps o + hcnt v ps (o.map fun b => !b) = ps.countP (fun p => decide (p.1 = v)) + ps.countP (fun p => decide (p.2 = v))
  | [], o, h => by simp [hcnt]
  | p :: ps, [], h => by simp at h
  | p :: ps, d :: o, h => by
    have ih := heads_both v ps o (by simpa using h)
    rw [List.map_cons, hcnt_cons, hcnt_cons, List.countP_cons, List.countP_cons]
    cases d
    · simp only [arw, Bool.not_false, Bool.false_eq_true, if_false, if_true, decide_eq_true_eq]
      omega
    · simp only [arw, Bool.not_true, Bool.false_eq_true, if_false, if_true, decide_eq_true_eq]
      omega
theorem ends_count (f : Int × Int → Bool) : ∀ {es : List Ed}, (∀ x ∈ es, 1 ≤ x.m) → (((endsL es).countP f : Nat) : Int) = sumI (es.map fun x => if f (x.a, x.b) then x.m else 0)
  | [], _ => by simp [endsL, sumI]
  | x :: es, h => by
    have ih := ends_count f (es := es) fun y hy => h y (by simp [hy])
    have h1 := h x (by simp)
    have e : endsL (x :: es) = List.replicate x.m.toNat (x.a, x.b) ++ endsL es := by simp [endsL]
    rw [e, List.countP_append, List.countP_replicate, List.map_cons, sumI]
    push_cast
    rw [ih]
    split <;> simp <;> omega
theorem val_sum {es : List Ed} (hp : es.Pairwise ltE) (v : Int) : sumI (es.map fun x => if decide (x.a = v) then x.m else 0) + sumI (es.map fun x => if decide (x.b = v) then x.m else 0) = valS es v + 2 * betw es v v := by
  induction es with
  | nil => simp [sumI, valS, betw]
  | cons x es ih =>
    have h2 := ih (List.pairwise_cons.1 hp).2
    rw [betw_cons hp]
    simp only [List.map_cons, sumI, valS, val1] at h2 ⊢
    by_cases e1 : x.a = v
    · by_cases e2 : x.b = v
      · have : x.a = x.b := by omega
        simp [e1, e2] at h2 ⊢; omega
      · have : ¬ x.a = x.b := by omega
        have e3 : ¬ v = x.b := by omega
        simp [e1, e2, e3] at h2 ⊢; omega
    · by_cases e2 : x.b = v
      · simp [e1, e2] at h2 ⊢; omega
      · simp [e1, e2] at h2 ⊢; omega
theorem in_out {n : Nat} {es : List Ed} (hg : GoodG n es) {o : List Bool} (hol : o.length = (endsL es).length) {v : Nat} (hv : v < n) : (inL n es o).getD v 0 + (inL n es (o.map fun b => !b)).getD v 0 = valS es v + 2 * betw es v v := by
  unfold inL
  rw [degL_get (fun u hu => (hdsL_mem hg.right u hu).1) v hv, degL_get (fun u hu => (hdsL_mem hg.right u hu).1) v hv]
  have h := heads_both (v : Int) (endsL es) o hol
  have hm : ∀ x ∈ es, 1 ≤ x.m := fun x hx => (hg.right x hx).m1
  have e1 := ends_count (fun p => decide (p.1 = (v : Int))) hm
  have e2 := ends_count (fun p => decide (p.2 = (v : Int))) hm
  rw [← val_sum hg.asc, ← e1, ← e2]
  unfold hdsL arwsL
  unfold hcnt at h
  omega
theorem sum_rep0 : ∀ n : Nat, sumI (List.replicate n 0) = 0
  | 0 => rfl
  | n + 1 => by rw [List.replicate_succ, sumI, sum_rep0 n]; rfl
theorem sum_deg {n : Nat} {vs : List Int} (h : ∀ u ∈ vs, 0 ≤ u ∧ u < n) : sumI (degL n vs) = vs.length := by
  have key : ∀ (vs : List Int) (l : List Int), l.length = n → (∀ u ∈ vs, 0 ≤ u ∧ u < n) → sumI (vs.foldl (bumpL 1) l) = sumI l + vs.length := by
    intro vs
    induction vs with
    | nil => intro l _ _; simp
    | cons u vs ih =>
      intro l hl hu
      have h0 := hu u (by simp)
      rw [List.foldl_cons, ih _ (by rw [bumpL_len]; exact hl) (fun x hx => hu x (by simp [hx])), bumpL, sumI_set _ _ _ (by omega), List.length_cons]
      push_cast
      omega
  unfold degL
  rw [key vs _ (by simp) h]
  have := sum_rep0 n
  rw [this]; omega
theorem sum_in {n : Nat} {es : List Ed} (hg : ∀ x ∈ es, Right (n : Int) x) {o : List Bool} (hol : o.length = (endsL es).length) : sumI (inL n es o) = o.length := by
  unfold inL
  rw [sum_deg (hdsL_mem hg), hdsL_len, arwsL_len hol, hol]
end Go.Sand
