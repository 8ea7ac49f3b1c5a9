/-
  Plain laws: an orientation, turned, and the canonical divisor.
-/
import Derived.Test.YtgbmdikkdjogpaaYa
import Derived.Test.YtgbmdikkdjogpaaNe
set_option linter.unusedSimpArgs false
set_option linter.unusedVariables false
namespace Go.Proofs.Ytgbmdikkdjogpaa
open Go.Abs Go.Sand

/-- The numbers below m. -/
def allI (m : Nat) : List Int := (List.range m).map fun v : Nat => (v : Int)
theorem allI_len (m : Nat) : (allI m).length = m := by simp [allI]
theorem allI_succ (m : Nat) : allI (m + 1) = allI m ++ [(m : Int)] := by simp [allI, List.range_succ]
theorem allI_mem {m : Nat} {x : Int} (h : x ∈ allI m) : 0 ≤ x ∧ x < m := by
  obtain ⟨v, hv, rfl⟩ := List.mem_map.1 h
  have := List.mem_range.1 hv
  omega
theorem allI_nodup (m : Nat) : (allI m).Nodup := by
  refine List.Pairwise.map _ (fun a b h e => h (by omega)) (List.nodup_range (n := m))
theorem flip_all (o : List Bool) : ∀ k, k ≤ o.length → flipL o (allI k) = (o.take k).map (!·) ++ o.drop k
  | 0, _ => by simp [flipL, allI]
  | k + 1, h => by
    rw [allI_succ, flipL, List.foldl_append]
    have ih := flip_all o k (by omega)
    rw [flipL] at ih
    rw [ih]
    simp only [List.foldl_cons, List.foldl_nil, flip1, Int.toNat_natCast]
    have hl : ((o.take k).map (!·)).length = k := by simp; omega
    have hd : o.drop k = o[k] :: o.drop (k + 1) := List.drop_eq_getElem_cons (by omega)
    rw [hd, List.set_append_right _ _ (by omega), List.take_succ_eq_append_getElem (by omega), List.map_append, List.append_assoc]
    have e : ((o.take k).map (!·) ++ o[k] :: o.drop (k + 1)).getD k false = o[k] := by
      rw [List.getD_eq_getElem?_getD, List.getElem?_append_right (by omega), hl, Nat.sub_self]
      rfl
    rw [e, hl, Nat.sub_self, List.set_cons_zero]
    rfl
theorem flip_full (o : List Bool) : flipL o (allI o.length) = o.map (!·) := by
  rw [flip_all o o.length (Nat.le_refl _)]; simp
/-- How often a vertex is an end. -/
def cnt2 (v : Int) (E : List (Int × Int)) : Int := sumI (E.map fun p => (if p.1 = v then 1 else 0) + (if p.2 = v then 1 else 0))
theorem heads_both (v : Int) : ∀ (E : List (Int × Int)) (o : List Bool), o.length = E.length →
    ((((E.zip o).map fun x => arw x.1 x.2).map (·.2)).count v : Int) + ((((E.zip (o.map (!·))).map fun x => arw x.1 x.2).map (·.2)).count v : Int) = cnt2 v E
  | [], o, _ => by simp [cnt2, sumI]
  | p :: E, [], h => by simp at h
  | p :: E, b :: o, h => by
    have ih := heads_both v E o (by simpa using h)
    simp only [List.map_cons, List.zip_cons_cons, List.count_cons]
    have e : cnt2 v (p :: E) = ((if p.1 = v then 1 else 0) + (if p.2 = v then 1 else 0)) + cnt2 v E := rfl
    rw [e, ← ih]
    obtain ⟨x, y⟩ := p
    cases b
    · simp only [arw, Bool.not_false, Bool.false_eq_true, if_false, if_true, beq_iff_eq]
      push_cast
      split <;> split <;> omega
    · simp only [arw, Bool.not_true, Bool.false_eq_true, if_false, if_true, beq_iff_eq]
      push_cast
      split <;> split <;> omega
theorem cnt2_append (v : Int) (a b : List (Int × Int)) : cnt2 v (a ++ b) = cnt2 v a + cnt2 v b := by
  unfold cnt2; rw [List.map_append, sumI_append]
theorem cnt2_rep (v : Int) (p : Int × Int) : ∀ m : Nat, cnt2 v (List.replicate m p) = m * ((if p.1 = v then 1 else 0) + (if p.2 = v then 1 else 0))
  | 0 => by simp [cnt2, sumI]
  | m + 1 => by
    have ih := cnt2_rep v p m
    have e : cnt2 v (List.replicate (m + 1) p) = ((if p.1 = v then 1 else 0) + (if p.2 = v then 1 else 0)) + cnt2 v (List.replicate m p) := rfl
    rw [e, ih]
    push_cast
    rw [Int.add_mul]; omega
theorem cnt2_val (v : Int) : ∀ es : List Ed, (∀ x ∈ es, 1 ≤ x.m) → es.any lpB = false → cnt2 v (endsL es) = valS es v
  | [], _, _ => rfl
  | x :: es, h, hl => by
    simp only [List.any_cons, Bool.or_eq_false_iff, lpB, decide_eq_false_iff_not] at hl
    have ih := cnt2_val v es (fun y hy => h y (by simp [hy])) hl.2
    have h1 := h x (by simp)
    have e1 : endsL (x :: es) = List.replicate x.m.toNat (x.a, x.b) ++ endsL es := rfl
    have e2 : valS (x :: es) v = val1 v x + valS es v := by simp [valS, sumI]
    rw [e1, cnt2_append, cnt2_rep, ih, e2, val1]
    have hm : ((x.m.toNat : Nat) : Int) = x.m := by omega
    rw [hm]
    dsimp only
    by_cases ha : x.a = v
    · have hb : ¬ x.b = v := fun e => hl.1 (by rw [ha, e])
      rw [if_pos ha, if_neg hb, if_pos ⟨hl.1, .inl ha⟩]; omega
    · by_cases hb : x.b = v
      · rw [if_neg ha, if_pos hb, if_pos ⟨hl.1, .inr hb⟩]; omega
      · rw [if_neg ha, if_neg hb, if_neg (fun h => h.2.elim ha hb)]; omega
/-- The canonical divisor. -/
def canL (n : Nat) (es : List Ed) : List Int := (List.range n).map fun v : Nat => valS es v - 2
theorem canL_len (n : Nat) (es : List Ed) : (canL n es).length = n := by simp [canL]
theorem turn_sum {n : Nat} {es : List Ed} {o : List Bool} (hg : GoodG n es) (hl : es.any lpB = false) (ho : o.length = (endsL es).length) (v : Nat) (hv : v < n) :
    (divL n es o).getD v 0 + (divL n es (o.map (!·))).getD v 0 = (canL n es).getD v 0 := by
  have hget : ∀ o : List Bool, (divL n es o).getD v 0 = ((hdsL es o).count (v : Int) : Nat) - 1 := fun o => by
    have h1 : v < (inL n es o).length := by rw [inL_len]; exact hv
    rw [divL, List.getD_eq_getElem?_getD, List.getElem?_map, List.getElem?_eq_getElem h1]
    have h2 := degL_get (n := n) (vs := hdsL es o) (fun u hu => (hdsL_mem hg.right u hu).1) v hv
    rw [List.getD_eq_getElem?_getD] at h2
    have h3 : (inL n es o)[v]? = some (inL n es o)[v] := List.getElem?_eq_getElem h1
    rw [show degL n (hdsL es o) = inL n es o from rfl, h3] at h2
    simp only [Option.getD_some] at h2
    simp [h2]
  have hk : (canL n es).getD v 0 = valS es v - 2 := by simp [canL, List.getD_eq_getElem?_getD, hv]
  rw [hget, hget, hk]
  have h1 := heads_both (v : Int) (endsL es) o ho
  rw [cnt2_val (v : Int) es (fun x hx => (hg.right x hx).m1) hl] at h1
  unfold hdsL arwsL
  omega
end Go.Proofs.Ytgbmdikkdjogpaa
