/-
  Texts joined: Wy Wz Moa.
-/
import Derived.Test.YtamiekhoaggpkaaKg30
import Derived.Deep.Strs
import Derived.ChangeArms
import Derived.WalkKit
import Derived.ProofKit
import Derived.OpenShut
import Derived.ChangeOld
import Derived.Below
import Derived.WideShapes
section
set_option linter.unusedSimpArgs false
set_option linter.unusedVariables false
namespace Go.Proofs.Ytamiekhoaggpkaa
open Go.Abs Go.Sand
section
variable {n : Nat} {es : List Ed} {d : List Int}
/-- How a closed game goes on, from where it stands. -/
inductive PgE (n : Nat) (es : List Ed) (d : List Int) : (Int × Int × Int × Bool) × Int → Prop
  | lim : PgE n es d ((0, 0, 0, false), 12)
  | ends (k : Nat) (h1 : k ≤ 4095) (h2 : rdyL n es (-1) (rdC n es (-1) d k) = []) (h3 : ∀ i j, i < j → j ≤ k → rdC n es (-1) d i ≠ rdC n es (-1) d j) : PgE n es d (((k : Int), 1, 0, true), 0)
  | loops (k i : Nat) (h1 : k ≤ 4095) (h2 : ∀ j, j ≤ k → rdyL n es (-1) (rdC n es (-1) d j) ≠ []) (h3 : ∀ i j, i < j → j ≤ k → rdC n es (-1) d i ≠ rdC n es (-1) d j) (h4 : i ≤ k) (h5 : rdC n es (-1) d i = rdC n es (-1) d (k + 1)) :
      PgE n es d (((i : Int), (k : Int) + 1 - i, sumI (rdS n es (-1) d (k + 1)) - sumI (rdS n es (-1) d i), false), 0)
theorem pgF_cases : ∀ f k : Nat, (∀ j, j < k → rdyL n es (-1) (rdC n es (-1) d j) ≠ []) → (∀ i j, i < j → j ≤ k → rdC n es (-1) d i ≠ rdC n es (-1) d j) → PgE n es d (pgF n es d f k)
  | 0, k, _, _ => .lim
  | f + 1, k, hl, hne => by
    rw [pgF_succ]
    by_cases he : rdyL n es (-1) (rdC n es (-1) d k) = []
    · rw [if_pos he]
      by_cases h4 : 4096 < k + 1
      · rw [if_pos h4]; exact .lim
      · rw [if_neg h4]; exact .ends k (by omega) he hne
    · rw [if_neg he]
      by_cases h4 : 4096 < k + 1
      · rw [if_pos h4]; exact .lim
      · rw [if_neg h4]
        have hl' : ∀ j, j ≤ k → rdyL n es (-1) (rdC n es (-1) d j) ≠ [] := fun j hj => by
          rcases Nat.lt_or_ge j k with h | h
          · exact hl j h
          · have e : j = k := by omega
            subst e; exact he
        cases hF : fstC n es d k with
        | some i =>
          obtain ⟨h1, h2, -⟩ := fstC_some hF
          exact .loops k i (by omega) hl' hne h1 h2
        | none =>
          refine pgF_cases f (k + 1) (fun j hj => hl' j (by omega)) fun i j hij hj => ?_
          rcases Nat.lt_or_ge j (k + 1) with h | h
          · exact hne i j hij (by omega)
          · have e : j = k + 1 := by omega
            subst e
            exact fstC_none hF i (by omega)
theorem game_cases (h : PcOk n es d) (h0 : pcE n es d = 0) : PgE n es d (gameR n es d) := by
  rw [gameR, if_neg (by simp [h0]), Int.toNat_natCast]
  exact pgF_cases 4097 0 (fun j hj => by omega) fun i j h1 h2 => by omega
theorem cl_pos (h : PcOk n es d) (k i : Nat) : 0 ≤ (rdC n es (-1) d k).getD i 0 := by
  by_cases hi : i < n
  · exact (rdS_leg h.g h.len (q := -1) k).pos h.g h.len (fun v _ _ => h.pos v) i hi (by omega)
  · rw [List.getD_eq_getElem?_getD, List.getElem?_eq_none (by rw [rdC_len h.len]; omega)]; simp
theorem cl_sum (h : PcOk n es d) (k : Nat) : sumI (rdC n es (-1) d k) = sumI d := movedE_sum _ h.g.right d h.len
theorem cl_le (h : PcOk n es d) (k i : Nat) : (rdC n es (-1) d k).getD i 0 ≤ 1048576 := by
  have h1 := cl_sum h k
  have h2 := h.sum
  by_cases hi : i < (rdC n es (-1) d k).length
  · have := sumI_ge (rdC n es (-1) d k) i (fun j _ _ => cl_pos h k j) hi
    omega
  · rw [List.getD_eq_getElem?_getD, List.getElem?_eq_none (by omega)]; simp
theorem cl_ok (h : PcOk n es d) (k : Nat) : PcOk n es (rdC n es (-1) d k) :=
  ⟨h.gc, h.g, h.parts, rdC_len h.len k, fun i => by have := cl_pos h k i; have := cl_le h k i; omega, cl_pos h k, by rw [cl_sum h]; exact h.sum⟩
theorem pc_mk (h : PcOk n es d) : pcE n es d = 0 := by
  have hn := h.g.n12
  have hn1 := h.g.n1
  have h1 : pjE n es = 0 := by rw [pjE, if_neg (by simp [h.gc]), Int.toNat_natCast, if_pos h.parts]
  have h2 : dcheck d n = 0 := dcheck_mk (by omega) (by omega) h.len (inB_all fun i _ => by have := h.bd i; omega)
  have h3 : ¬ negA d = true := fun e => by
    obtain ⟨i, -, hi⟩ := negA_iff.1 e
    have := h.pos i
    omega
  rw [pcE, if_neg (by simp [h1]), if_neg (by simp [h2]), if_neg h3, if_neg (by have := h.sum; omega)]
theorem cl_closed (h : PcOk n es d) (k : Nat) : closedR n es (rdC n es (-1) d k) = (rdC n es (-1) d (k + 1), rdyL n es (-1) (rdC n es (-1) d k), 0) := by
  rw [closedR, if_neg (by simp [pc_mk (cl_ok h k)]), Int.toNat_natCast, rdC_add h.g h.len]
/-- What has changed between two rounds. -/
theorem rd_dif (hg : GoodG n es) (hd : d.length = n) (q : Int) (a b v : Nat) : (rdC n es q d b).getD v 0 = (rdC n es q d a).getD v 0 + sumN (fun u => joinE es v u * ((rdS n es q d b).getD u 0 - (rdS n es q d a).getD u 0)) n - ((rdS n es q d b).getD v 0 - (rdS n es q d a).getD v 0) * valTo es v n := by
  show (movedE es (rdS n es q d b) d).getD v 0 = (movedE es (rdS n es q d a) d).getD v 0 + _ - _
  rw [aft_eq hg hd, aft_eq hg hd, dif_sum hg, dif_sum hg]
  have e : sumN (fun u => joinE es v u * (rdS n es q d b).getD u 0) n = sumN (fun u => joinE es v u * (rdS n es q d a).getD u 0) n + sumN (fun u => joinE es v u * ((rdS n es q d b).getD u 0 - (rdS n es q d a).getD u 0)) n := by
    rw [← sumN_add]
    refine sumN_congr fun u _ => ?_
    rw [Int.mul_sub]; omega
  rw [e, Int.sub_mul]
  omega
theorem sumN_pos {f : Nat → Int} {n : Nat} (h : ∀ u, u < n → 0 ≤ f u) {w : Nat} (hw : w < n) : f w ≤ sumN f n := by
  have e : f = fun u => (if u = w then f w else 0) + (if u = w then 0 else f u) := funext fun u => by
    by_cases hu : u = w
    · subst hu; simp
    · simp [hu]
  rw [e, sumN_add, sumN_one, if_pos hw]
  have := sumN_nonneg (f := fun u => if u = w then 0 else f u) (k := n) fun u hu => by
    by_cases h2 : u = w
    · simp [h2]
    · simp only [h2, if_false]; exact h u hu
  simp only [if_true]
  omega
/-- What leads back to the same divisor fires all vertices equally often. -/
theorem lap_const (hg : GoodG n es) (hp : partsN es n = 1) (hd : d.length = n) (q : Int) {a b : Nat} (he : rdC n es q d a = rdC n es q d b) : ∀ v, v < n → (rdS n es q d b).getD v 0 - (rdS n es q d a).getD v 0 = (rdS n es q d b).getD 0 0 - (rdS n es q d a).getD 0 0 := by
  obtain ⟨f, hf⟩ : ∃ f : Nat → Int, f = fun v => (rdS n es q d b).getD v 0 - (rdS n es q d a).getD v 0 := ⟨_, rfl⟩
  have hf' : ∀ v, f v = (rdS n es q d b).getD v 0 - (rdS n es q d a).getD v 0 := fun v => by rw [hf]
  have hlap : ∀ v, sumN (fun u => joinE es v u * (f v - f u)) n = 0 := fun v => by
    have h1 := rd_dif hg hd q a b v
    rw [he] at h1
    have e : sumN (fun u => joinE es v u * (f v - f u)) n + sumN (fun u => joinE es v u * f u) n = f v * valTo es v n := by
      rw [← sumN_add, valTo_sum, ← sumN_mul]
      refine sumN_congr fun u _ => ?_
      rw [Int.mul_sub, Int.mul_comm (f v)]; omega
    simp only [← hf'] at h1
    omega
  -- the greatest value
  have hmax : ∀ k : Nat, ∃ m, (k = 0 ∨ m < k) ∧ ∀ v, v < k → f v ≤ f m := by
    intro k
    induction k with
    | zero => exact ⟨0, .inl rfl, fun v hv => by omega⟩
    | succ k ih =>
      obtain ⟨m, h1, h2⟩ := ih
      by_cases hk : f m ≤ f k
      · exact ⟨k, .inr (by omega), fun v hv => by
          rcases Nat.lt_or_ge v k with h | h
          · have := h2 v h; omega
          · have e : v = k := by omega
            subst e; exact Int.le_refl _⟩
      · rcases h1 with rfl | h1
        · exact ⟨0, .inr (by omega), fun v hv => by
            have e : v = 0 := by omega
            subst e; exact Int.le_refl _⟩
        · exact ⟨m, .inr (by omega), fun v hv => by
            rcases Nat.lt_or_ge v k with h | h
            · exact h2 v h
            · have e : v = k := by omega
              subst e; omega⟩
  obtain ⟨m, hm1, hm2⟩ := hmax n
  have hall : ∀ v, v < n → f v = f m := by
    intro v hv
    refine Classical.byContradiction fun hne => ?_
    have hmn : m < n := by omega
    obtain ⟨u, w, hu, hw, hAu, hAw, hj⟩ := edge_out hg hp (fun x => decide (f x = f m)) hmn hv (by simp) (by simpa using hne)
    simp only [decide_eq_true_eq, decide_eq_false_iff_not] at hAu hAw
    have h1 := hlap u
    have h2 := sumN_pos (f := fun x => joinE es u x * (f u - f x)) (n := n) (fun x hx => Int.mul_nonneg (joinE_bd hg u x).1 (by rw [hAu]; have := hm2 x hx; omega)) hw
    rw [h1] at h2
    have h3 := hm2 w hw
    have h4 : 0 < joinE es u w * (f u - f w) := Int.mul_pos (by omega) (by omega)
    have h5 : (fun x => joinE es u x * (f u - f x)) w = joinE es u w * (f u - f w) := rfl
    omega
  intro v hv
  have h1 := hall v hv
  have h2 := hall 0 (by omega)
  rw [hf', hf'] at h1
  rw [hf', hf'] at h2
  omega
theorem rdS_mono1 (q : Int) (v : Nat) (hv : v < n) : ∀ {a b : Nat}, a ≤ b → (rdS n es q d a).getD v 0 ≤ (rdS n es q d b).getD v 0 := by
  intro a b h
  induction b with
  | zero => have e : a = 0 := by omega
            subst e; exact Int.le_refl _
  | succ b ih =>
    rcases Nat.lt_or_ge a (b + 1) with h1 | h1
    · have := ih (by omega)
      rw [rdS_get b v hv]
      split <;> omega
    · have e : a = b + 1 := by omega
      subst e; exact Int.le_refl _
theorem rdS_still (q : Int) (v : Nat) (hv : v < n) {a : Nat} : ∀ {b : Nat}, a ≤ b → (∀ j, a ≤ j → j < b → rdyB n es q (rdC n es q d j) v = false) → (rdS n es q d b).getD v 0 = (rdS n es q d a).getD v 0 := by
  intro b h hs
  induction b with
  | zero => have e : a = 0 := by omega
            subst e; rfl
  | succ b ih =>
    rcases Nat.lt_or_ge a (b + 1) with h1 | h1
    · rw [rdS_get b v hv, ih (by omega) fun j h2 h3 => hs j h2 (by omega), hs b (by omega) (by omega)]
      simp
    · have e : a = b + 1 := by omega
      subst e; rfl
/-- The last time a vertex fires. -/
theorem last_fire (q : Int) (v : Nat) (hv : v < n) (a : Nat) : ∀ b : Nat, a ≤ b → (rdS n es q d a).getD v 0 < (rdS n es q d b).getD v 0 → ∃ t, a ≤ t ∧ t < b ∧ rdyB n es q (rdC n es q d t) v = true ∧ ∀ j, t < j → j < b → rdyB n es q (rdC n es q d j) v = false
  | 0, h, hlt => by have e : a = 0 := by omega
                    subst e; omega
  | b + 1, h, hlt => by
    have hab : a ≤ b := by
      refine Classical.byContradiction fun h2 => ?_
      have e : a = b + 1 := by omega
      subst e; omega
    cases hr : rdyB n es q (rdC n es q d b) v with
    | true => exact ⟨b, hab, by omega, hr, fun j h1 h2 => by omega⟩
    | false =>
      rw [rdS_get b v hv, hr] at hlt
      simp only [Bool.false_eq_true, if_false, Int.add_zero] at hlt
      obtain ⟨t, h1, h2, h3, h4⟩ := last_fire q v hv a b hab hlt
      refine ⟨t, h1, by omega, h3, fun j h5 h6 => ?_⟩
      rcases Nat.lt_or_ge j b with h7 | h7
      · exact h4 j h5 h7
      · have e : j = b := by omega
        subst e; exact hr
/-- A closed game that goes on has at least as many chips as single edges. -/
theorem chips_edges (h : PcOk n es d) {i k : Nat} (hik : i ≤ k) (he : rdC n es (-1) d i = rdC n es (-1) d (k + 1)) (hne : rdyL n es (-1) (rdC n es (-1) d k) ≠ []) : ((endsL (llE es)).length : Int) ≤ sumI d := by
  have hg := h.g
  have hd := h.len
  have hconst := lap_const hg h.parts hd (-1) he
  -- all have fired
  have hfire : ∀ v, v < n → (rdS n es (-1) d i).getD v 0 < (rdS n es (-1) d (k + 1)).getD v 0 := by
    obtain ⟨x, hx⟩ := List.exists_mem_of_ne_nil _ hne
    obtain ⟨u, -, hu, hru⟩ := rdyK_mem hx
    have h1 := rdS_get (n := n) (es := es) (q := -1) (d := d) k u hu
    rw [if_pos hru] at h1
    have h2 := rdS_mono1 (n := n) (es := es) (d := d) (-1) u hu hik
    have h3 := hconst u hu
    intro v hv
    have := hconst v hv
    omega
  have hlast := fun v (hv : v < n) => last_fire (es := es) (d := d) (-1) v hv i (k + 1) (by omega) (hfire v hv)
  obtain ⟨t, ht⟩ : ∃ t : Nat → Nat, ∀ v, v < n → i ≤ t v ∧ t v < k + 1 ∧ rdyB n es (-1) (rdC n es (-1) d (t v)) v = true ∧ ∀ j, t v < j → j < k + 1 → rdyB n es (-1) (rdC n es (-1) d j) v = false := by
    have : ∀ v, ∃ t, v < n → i ≤ t ∧ t < k + 1 ∧ rdyB n es (-1) (rdC n es (-1) d t) v = true ∧ ∀ j, t < j → j < k + 1 → rdyB n es (-1) (rdC n es (-1) d j) v = false := fun v => by
      by_cases hv : v < n
      · obtain ⟨t, ht⟩ := hlast v hv
        exact ⟨t, fun _ => ht⟩
      · exact ⟨0, fun h => absurd h hv⟩
    exact ⟨fun v => Classical.choose (this v), fun v => Classical.choose_spec (this v)⟩
  have hc : ∀ v, v < n → sumN (fun u => if t v ≤ t u then joinE es v u else 0) n ≤ (rdC n es (-1) d (k + 1)).getD v 0 := by
    intro v hv
    obtain ⟨h1, h2, h3, h4⟩ := ht v hv
    have h5 := rd_dif hg hd (-1) (t v) (k + 1) v
    have h6 : (rdS n es (-1) d (k + 1)).getD v 0 - (rdS n es (-1) d (t v)).getD v 0 = 1 := by
      have e1 := rdS_still (n := n) (es := es) (d := d) (-1) v hv (a := t v + 1) (b := k + 1) (by omega) fun j h7 h8 => h4 j (by omega) h8
      have e2 := rdS_get (n := n) (es := es) (q := -1) (d := d) (t v) v hv
      rw [if_pos h3] at e2
      omega
    have h7 : valTo es v n ≤ (rdC n es (-1) d (t v)).getD v 0 := by
      have := h3
      simp only [rdyB, decide_eq_true_eq] at this
      exact this.2.2
    have h8 : sumN (fun u => if t v ≤ t u then joinE es v u else 0) n ≤ sumN (fun u => joinE es v u * ((rdS n es (-1) d (k + 1)).getD u 0 - (rdS n es (-1) d (t v)).getD u 0)) n := sumN_le fun u hu => by
      have hj := (joinE_bd hg v u).1
      have hm1 := rdS_mono1 (n := n) (es := es) (d := d) (-1) u hu (a := t v) (b := k + 1) (by omega)
      by_cases htu : t v ≤ t u
      · rw [if_pos htu]
        obtain ⟨g1, g2, g3, -⟩ := ht u hu
        have g4 := rdS_get (n := n) (es := es) (q := -1) (d := d) (t u) u hu
        rw [if_pos g3] at g4
        have g5 := rdS_mono1 (n := n) (es := es) (d := d) (-1) u hu htu
        have g6 := rdS_mono1 (n := n) (es := es) (d := d) (-1) u hu (a := t u + 1) (b := k + 1) (by omega)
        have g7 : 1 ≤ (rdS n es (-1) d (k + 1)).getD u 0 - (rdS n es (-1) d (t v)).getD u 0 := by omega
        have := Int.mul_le_mul_of_nonneg_left g7 hj
        omega
      · rw [if_neg htu]
        exact Int.mul_nonneg hj (by omega)
    rw [h6, Int.one_mul] at h5
    omega
  have hX : sumN (fun v => sumN (fun u => if t v ≤ t u then joinE es v u else 0) n) n ≤ sumI d := by
    rw [← cl_sum h (k + 1), sumI_sumN, rdC_len hd]
    exact sumN_le hc
  have hsym : sumN (fun v => sumN (fun u => if t v ≤ t u then joinE es v u else 0) n) n = sumN (fun v => sumN (fun u => if t u ≤ t v then joinE es v u else 0) n) n := by
    rw [sumN_swap (fun v u => if t v ≤ t u then joinE es v u else 0)]
    refine sumN_congr fun v _ => sumN_congr fun u _ => ?_
    by_cases htu : t u ≤ t v
    · rw [if_pos htu, if_pos htu, joinE_sym]
    · rw [if_neg htu, if_neg htu]
  have hboth : sumN (fun v => valTo es v n) n ≤ sumN (fun v => sumN (fun u => if t v ≤ t u then joinE es v u else 0) n) n + sumN (fun v => sumN (fun u => if t u ≤ t v then joinE es v u else 0) n) n := by
    rw [← sumN_add]
    refine sumN_le fun v _ => ?_
    rw [valTo_sum, ← sumN_add]
    refine sumN_le fun u _ => ?_
    have hj := (joinE_bd hg v u).1
    split <;> split <;> omega
  have h2m := val_twice' hg
  omega
/-- In the last divisor of a game that ends there are few chips. -/
theorem chips_ends (h : PcOk n es d) (hn2 : n ≠ 1) {k : Nat} (he : rdyL n es (-1) (rdC n es (-1) d k) = []) : sumI d ≤ 2 * ((endsL (llE es)).length : Int) - n := by
  have hg := h.g
  have hd := h.len
  have hn1 := hg.n1
  have hc : ∀ v, v < n → (rdC n es (-1) d k).getD v 0 ≤ valTo es v n - 1 := by
    intro v hv
    have h1 := rdyK_nil.1 he v hv
    simp only [rdyB, decide_eq_false_iff_not] at h1
    have h2 : 1 ≤ valTo es v n := by
      by_cases h0 : v = 0
      · exact val_pos hg h.parts hv (w := 1) (by omega) (by omega)
      · exact val_pos hg h.parts hv (w := 0) (by omega) (by omega)
    have h3 : ¬ valTo es v n ≤ (rdC n es (-1) d k).getD v 0 := fun hh => h1 ⟨by omega, by omega, hh⟩
    omega
  have h1 : sumI d ≤ sumN (fun v => valTo es v n - 1) n := by
    rw [← cl_sum h k, sumI_sumN, rdC_len hd]
    exact sumN_le hc
  have h2 : ∀ m : Nat, sumN (fun v => valTo es v n - 1) m = sumN (fun v => valTo es v n) m - m := by
    intro m
    induction m with
    | zero => rfl
    | succ m ih => simp only [sumN, ih]; push_cast; omega
  have h3 := val_twice' hg
  rw [h2] at h1
  omega
/-- A graph of one vertex: nothing is ready. -/
theorem ready_one (hg : GoodG 1 es) (c : List Int) : rdyL 1 es (-1) c = [] := by
  rw [rdyK_nil]
  intro v hv
  have e : v = 0 := by omega
  subst e
  have : valTo es 0 1 = 0 := by simp [valTo]
  simp [rdyB, this]
end
end Go.Proofs.Ytamiekhoaggpkaa
end
section
set_option linter.unusedSimpArgs false
set_option linter.unusedVariables false
namespace Go.Proofs.Ytamiekhoaggpkaa
open Go.Abs Go.Sand
abbrev HG2 (O : AO) (n : Nat) (es : List Ed) (d : List Int) : List AO := [O, .box (.p (.agg [.i n, .sl (es.map edP), .is d]))]
theorem may2_ok (n v : Nat) (es : List Ed) (d : List Int) (O : AO) (hg : gcheck n es = 0) (hv : v < n) (hd : d.length = n) (he : es.length ≤ 1000) {R : AV → List AO → Prop} (hR : R (.b (mayB es d v)) (HG2 O n es d)) :
    HC Try.prog false 73 [.ptr 1 1 0 0, .i v] (HG2 O n es d) R := by
  refine HC_of_W (af := _) ((by exact cfn73 : cfn _ _ _ = some _)) ?_
  have hvd : v < d.length := by omega
  simp -implicitDefEqProofs (disch := omega) [c73, List.getElem?_cons_zero, List.getElem?_cons_succ, wrap_id]
  refine HC_of_PC rfl (val_ok n es v hg (vtx_iff.2 (by omega)) he) ?_
  by_cases h1 : 0 < valS es v
  · by_cases h2 : valS es v ≤ d[v]
    · have hm : mayB es d v = true := by simp [mayB, h1, h2, hvd]
      rw [hm] at hR
      simp -implicitDefEqProofs (disch := omega) [List.getElem?_cons_zero, List.getElem?_cons_succ, wrap_id, h1, h2, hvd]
      exact finH trivial rfl hR
    · have hm : mayB es d v = false := by simp [mayB, h1, h2, hvd]
      rw [hm] at hR
      simp -implicitDefEqProofs (disch := omega) [List.getElem?_cons_zero, List.getElem?_cons_succ, wrap_id, h1, h2, hvd]
      exact finH trivial rfl hR
  · have hm : mayB es d v = false := by simp [mayB, h1]
    rw [hm] at hR
    simp -implicitDefEqProofs (disch := omega) [List.getElem?_cons_zero, List.getElem?_cons_succ, wrap_id, h1]
    exact finH trivial rfl hR
theorem legal_ok (N : Int) (es : List Ed) (d : List Int) (v : Int) (he : es.length ≤ 1000) (hd : d.length ≤ 4611686018427387904) :
    PC Try.prog 33 [G N es, .is d, .i v] (.tup [.b (resB (vtxE N es d v) (mayB es d v)), .i (vtxE N es d v)]) [] := by
  refine PC_of_W cfn33 ?_
  simp -implicitDefEqProofs (disch := omega) [c33, List.getElem?_cons_zero, List.getElem?_cons_succ, wrap_id]
  refine HC_of_PC rfl (fvertex_ok N es d v (by omega) hd) ?_
  by_cases h0 : vtxE N es d v = 0
  · obtain ⟨hg0, hv1, hv2⟩ := vtxE_ok h0
    obtain ⟨n, rfl, hg, hl, hb, hn1, hn⟩ := given_ok hg0
    obtain ⟨u, rfl⟩ : ∃ u : Nat, v = u := ⟨v.toNat, by omega⟩
    simp -implicitDefEqProofs (disch := omega) [List.getElem?_cons_zero, List.getElem?_cons_succ, wrap_id, h0]
    refine may2_ok n u es d _ (given_gcheck hg0) (by omega) hl he ?_
    simp -implicitDefEqProofs (disch := omega) [List.getElem?_cons_zero, List.getElem?_cons_succ, wrap_id]
    (refine fin0 trivial rfl ?_; simp -implicitDefEqProofs (disch := omega) [List.getElem?_cons_zero, List.getElem?_cons_succ, idx, wrap_id, h0, resB_ok])
  · have hr := resB_err (b := mayB es d v) h0
    simp -implicitDefEqProofs (disch := omega) [List.getElem?_cons_zero, List.getElem?_cons_succ, wrap_id, h0]
    (refine fin0 trivial rfl ?_; simp -implicitDefEqProofs (disch := omega) [List.getElem?_cons_zero, List.getElem?_cons_succ, idx, wrap_id, hr])
/-- What can be played as a small closed game. -/
def cl20 (N : Int) (es : List Ed) (d : List Int) : Bool := few18 N es d && decide (d.length ≤ 24) && decide (pcE N es d = 0) && d.all in60
theorem cl20_ok (N : Int) (es : List Ed) (d : List Int) : PC Try.prog 29 [G N es, .is d] (.b (cl20 N es d)) [] := by
  refine PC_of_W cfn29 ?_
  simp -implicitDefEqProofs (disch := omega) [c29, List.getElem?_cons_zero, List.getElem?_cons_succ, wrap_id]
  refine HC_of_PC rfl (rfew_ok N es d) ?_
  cases hf : few18 N es d
  · simp -implicitDefEqProofs (disch := omega) [List.getElem?_cons_zero, List.getElem?_cons_succ, wrap_id]
    (refine fin0 trivial rfl ?_; simp -implicitDefEqProofs (disch := omega) [List.getElem?_cons_zero, List.getElem?_cons_succ, idx, wrap_id, cl20, hf])
  obtain ⟨he, hd⟩ := few20_len hf
  simp -implicitDefEqProofs (disch := omega) [List.getElem?_cons_zero, List.getElem?_cons_succ, wrap_id]
  refine HC_of_PC rfl (dfew_ok d) ?_
  by_cases h24 : d.length ≤ 24
  rotate_left
  · simp -implicitDefEqProofs (disch := omega) [List.getElem?_cons_zero, List.getElem?_cons_succ, wrap_id, h24]
    (refine fin0 trivial rfl ?_; simp -implicitDefEqProofs (disch := omega) [List.getElem?_cons_zero, List.getElem?_cons_succ, idx, wrap_id, cl20, hf, h24])
  simp -implicitDefEqProofs (disch := omega) [List.getElem?_cons_zero, List.getElem?_cons_succ, wrap_id, h24]
  refine HC_of_PC rfl (r20check_ok N es d he hd) ?_
  by_cases h0 : pcE N es d = 0
  · simp -implicitDefEqProofs (disch := omega) [List.getElem?_cons_zero, List.getElem?_cons_succ, wrap_id, h0]
    refine HC_of_PC rfl (dsmall_ok d (by omega)) ?_
    simp -implicitDefEqProofs (disch := omega) [List.getElem?_cons_zero, List.getElem?_cons_succ, wrap_id]
    (refine fin0 trivial rfl ?_; simp -implicitDefEqProofs (disch := omega) [List.getElem?_cons_zero, List.getElem?_cons_succ, idx, wrap_id, cl20, hf, h0, h24])
  · simp -implicitDefEqProofs (disch := omega) [List.getElem?_cons_zero, List.getElem?_cons_succ, wrap_id, h0]
    (refine fin0 trivial rfl ?_; simp -implicitDefEqProofs (disch := omega) [List.getElem?_cons_zero, List.getElem?_cons_succ, idx, wrap_id, cl20, hf, h0])
theorem cl20_at {N : Int} {es : List Ed} {d : List Int} (h : cl20 N es d = true) : few18 N es d = true ∧ pcE N es d = 0 ∧ d.all in60 = true := by
  unfold cl20 at h
  simp only [Bool.and_eq_true, decide_eq_true_eq] at h
  exact ⟨h.1.1.1, h.1.2, h.2⟩
/-- What is known of a game that was played. -/
structure Pld (n : Nat) (es : List Ed) (d : List Int) (B P : Nat) (F : Int) (E : Bool) : Prop where
  game : gameR n es d = (((B : Int), (P : Int), F, E), 0)
  b : B ≤ 4095
  p : 1 ≤ P
  bp : B + P ≤ 4096
  rep : rdC n es (-1) d B = rdC n es (-1) d (B + P)
  ne : ∀ i j, i < j → j < B + P → rdC n es (-1) d i ≠ rdC n es (-1) d j
  fired : F = sumI (rdS n es (-1) d (B + P)) - sumI (rdS n es (-1) d B)
  ends : E = true → P = 1 ∧ F = 0 ∧ rdyL n es (-1) (rdC n es (-1) d B) = []
  c1 : certV n es (sumI d) = 1 → E = true
  c2 : certV n es (sumI d) = -1 → E = false
theorem pld_or {n : Nat} {es : List Ed} {d : List Int} (h : PcOk n es d) (h0 : pcE n es d = 0) : gameR n es d = ((0, 0, 0, false), 12) ∨ ∃ B P F E, Pld n es d B P F E := by
  obtain ⟨R, hR⟩ : ∃ R, R = gameR n es d := ⟨_, rfl⟩
  have hc := game_cases h h0
  rw [← hR] at hc ⊢
  cases hc with
  | lim => exact .inl rfl
  | ends k h1 h2 h3 =>
    have hC : rdC n es (-1) d (k + 1) = rdC n es (-1) d k := by rw [rdC_succ h.g h.len, h2]; rfl
    have hS : sumI (rdS n es (-1) d (k + 1)) = sumI (rdS n es (-1) d k) := by rw [rdS_sum, h2]; simp
    refine .inr ⟨k, 1, 0, true, ⟨hR.symm, by omega, by omega, by omega, hC.symm, fun i j h4 h5 => h3 i j h4 (by omega), by rw [hS]; omega, fun _ => ⟨rfl, rfl, h2⟩, fun _ => rfl, fun e => ?_⟩⟩
    exfalso
    have hn2 : n ≠ 1 := fun hn => by
      rw [certV, if_pos (.inl hn)] at e
      cases e
    have := chips_ends h hn2 h2
    unfold certV at e
    split at e
    · cases e
    · split at e
      · omega
      · cases e
  | loops k i h1 h2 h3 h4 h5 =>
    refine .inr ⟨i, k + 1 - i, sumI (rdS n es (-1) d (k + 1)) - sumI (rdS n es (-1) d i), false, ⟨?_, by omega, by omega, by omega, ?_, fun a b h6 h7 => h3 a b h6 (by omega), ?_, (fun e => by cases e), fun e => ?_, fun _ => rfl⟩⟩
    · rw [← hR]
      have : ((k + 1 - i : Nat) : Int) = (k : Int) + 1 - i := by omega
      rw [this]
    · rw [show i + (k + 1 - i) = k + 1 by omega]; exact h5
    · rw [show i + (k + 1 - i) = k + 1 by omega]
    · exfalso
      have hm := chips_edges h h4 h5 (h2 k (Nat.le_refl _))
      unfold certV at e
      split at e
      · rename_i hor
        rcases hor with hn | hlt
        · subst hn
          exact h2 0 (Nat.zero_le _) (ready_one h.g _)
        · omega
      · split at e <;> cases e
theorem certR_at {n : Nat} {es : List Ed} {d : List Int} (h : PcOk n es d) : certR n es (sumI d) = (certV n es (sumI d), 0) := by
  have h1 : pjE n es = 0 := by rw [pjE, if_neg (by simp [h.gc]), Int.toNat_natCast, if_pos h.parts]
  have h2 : 0 ≤ sumI d := by
    rw [sumI_sumN]; exact sumN_nonneg fun u _ => h.pos u
  rw [certR, if_neg (by simp [h1]), if_neg (by have := h.sum; omega), Int.toNat_natCast]
set_option maxRecDepth 10000 in
theorem bounds_law (N : Int) (es : List Ed) (d : List Int) : PC Try.prog 8 [G N es, .is d] (.b true) [] := by
  refine PC_of_W cfn8 ?_
  simp -implicitDefEqProofs (disch := omega) [c8, List.getElem?_cons_zero, List.getElem?_cons_succ, wrap_id]
  refine HC_of_PC rfl (cl20_ok N es d) ?_
  cases hf : cl20 N es d
  · simp -implicitDefEqProofs (disch := omega) [List.getElem?_cons_zero, List.getElem?_cons_succ, wrap_id]
    refine HC_of_PC rfl (awake20_ok) ?_
    simp -implicitDefEqProofs (disch := omega) [List.getElem?_cons_zero, List.getElem?_cons_succ, wrap_id]
    (refine fin0 trivial rfl ?_; simp -implicitDefEqProofs (disch := omega) [List.getElem?_cons_zero, List.getElem?_cons_succ, idx, wrap_id])
  obtain ⟨hf1, h0, h60⟩ := cl20_at hf
  obtain ⟨he, hd⟩ := few20_len hf1
  obtain ⟨n, rfl, h⟩ := pc_ok h0
  have hn := h.g.n12
  have hdl := h.len
  have hcr := certR_at h
  simp -implicitDefEqProofs (disch := omega) [List.getElem?_cons_zero, List.getElem?_cons_succ, wrap_id]
  refine HC_of_PC rfl (play_ok20 n es d he hd) ?_
  rcases pld_or h h0 with hlim | ⟨B, P, F, E, hp⟩
  · rw [hlim]
    simp -implicitDefEqProofs (disch := omega) [List.getElem?_cons_zero, List.getElem?_cons_succ, wrap_id]
    refine HC_of_PC rfl (total_ok d hd (h.bd.more (by omega))) ?_
    simp -implicitDefEqProofs (disch := omega) [List.getElem?_cons_zero, List.getElem?_cons_succ, wrap_id]
    refine HC_of_PC rfl (certain_ok n es (sumI d) he) ?_
    simp -implicitDefEqProofs (disch := omega) [List.getElem?_cons_zero, List.getElem?_cons_succ, wrap_id, hcr]
    refine HC_of_PC rfl (awake20_ok) ?_
    simp -implicitDefEqProofs (disch := omega) [List.getElem?_cons_zero, List.getElem?_cons_succ, wrap_id]
    (refine fin0 trivial rfl ?_; simp -implicitDefEqProofs (disch := omega) [List.getElem?_cons_zero, List.getElem?_cons_succ, idx, wrap_id])
  rw [hp.game]
  have hB := hp.b
  simp -implicitDefEqProofs (disch := omega) [List.getElem?_cons_zero, List.getElem?_cons_succ, wrap_id]
  refine HC_of_PC rfl (total_ok d hd (h.bd.more (by omega))) ?_
  simp -implicitDefEqProofs (disch := omega) [List.getElem?_cons_zero, List.getElem?_cons_succ, wrap_id]
  refine HC_of_PC rfl (certain_ok n es (sumI d) he) ?_
  have hcE : (certV n es (sumI d) = 1 ∧ E = true) ∨ (¬ certV n es (sumI d) = 1 ∧ ¬ certV n es (sumI d) = -1 ∧ E = true) ∨ (certV n es (sumI d) = -1 ∧ E = false) ∨ (¬ certV n es (sumI d) = 1 ∧ ¬ certV n es (sumI d) = -1 ∧ E = false) := by
    by_cases e1 : certV n es (sumI d) = 1
    · exact .inl ⟨e1, hp.c1 e1⟩
    · by_cases e2 : certV n es (sumI d) = -1
      · exact .inr (.inr (.inl ⟨e2, hp.c2 e2⟩))
      · cases E
        · exact .inr (.inr (.inr ⟨e1, e2, rfl⟩))
        · exact .inr (.inl ⟨e1, e2, rfl⟩)
  have hB1 : ¬ (B : Int) < 0 := by omega
  have hB2 : ¬ (4096 : Int) < B := by omega
  have hmayT : E = true → ∀ v : Nat, v < n → mayB es (rdC n es (-1) d B) v = false := fun e v hv => by
    have h1 := rdyK_nil.1 (hp.ends e).2.2 v hv
    simp only [rdyB, decide_eq_false_iff_not] at h1
    rw [valTo_all h.g.right h.g.asc (v : Int) (by omega)] at h1
    simp only [mayB, decide_eq_false_iff_not, Int.toNat_natCast]
    exact fun h2 => h1 ⟨by omega, h2.1, h2.2⟩
  have hvtx : ∀ v : Nat, v < n → vtxE n es (rdC n es (-1) d B) v = 0 := fun v hv => by
    have h1 := rdC_len (q := -1) (es := es) hdl B
    have h2 : givenE n es (rdC n es (-1) d B) = 0 := by
      rw [givenE, if_neg (by simp [h.gc])]
      exact dcheck_mk (by omega) (by omega) h1 (inB_all fun i _ => by have := (cl_ok h B).bd i; omega)
    rw [vtxE, if_neg (by simp [h2]), if_pos (vtx_iff.2 (by omega))]
  rcases hcE with ⟨e1, rfl⟩ | ⟨e1, e2, rfl⟩ | ⟨e1, rfl⟩ | ⟨e1, e2, rfl⟩
  focus
    have hmay := hmayT rfl
    obtain ⟨rfl, rfl, -⟩ := hp.ends rfl
    obtain ⟨X, hX⟩ : ∃ X : PV, X = .agg [.i B, .i 1, .i 0, .b true] := ⟨_, rfl⟩
    simp -implicitDefEqProofs (disch := omega) [List.getElem?_cons_zero, List.getElem?_cons_succ, wrap_id, hcr, e1, hB1, hB2]
  rotate_left
  focus
    have hmay := hmayT rfl
    obtain ⟨rfl, rfl, -⟩ := hp.ends rfl
    obtain ⟨X, hX⟩ : ∃ X : PV, X = .agg [.i B, .i 1, .i 0, .b true] := ⟨_, rfl⟩
    simp -implicitDefEqProofs (disch := omega) [List.getElem?_cons_zero, List.getElem?_cons_succ, wrap_id, hcr, e1, e2, hB1, hB2]
  rotate_left
  focus
    have hmay : ∀ v : Nat, v < n → mayB es (rdC n es (-1) d B) v = mayB es (rdC n es (-1) d B) v := fun _ _ => rfl
    obtain ⟨X, hX⟩ : ∃ X : PV, X = .agg [.i B, .i P, .i F, .b false] := ⟨_, rfl⟩
    simp -implicitDefEqProofs (disch := omega) [List.getElem?_cons_zero, List.getElem?_cons_succ, wrap_id, hcr, e1, hB1, hB2]
  rotate_left
  focus
    have hmay : ∀ v : Nat, v < n → mayB es (rdC n es (-1) d B) v = mayB es (rdC n es (-1) d B) v := fun _ _ => rfl
    obtain ⟨X, hX⟩ : ∃ X : PV, X = .agg [.i B, .i P, .i F, .b false] := ⟨_, rfl⟩
    simp -implicitDefEqProofs (disch := omega) [List.getElem?_cons_zero, List.getElem?_cons_succ, wrap_id, hcr, e1, e2, hB1, hB2]
  rotate_left
  all_goals
    refine loopW B (fun j st => st = ⟨[(89, .i j), (88, .i B), (1, .p (.is (rdC n es (-1) d j))), (2, .ptr 0 1 0 0), (5, .ptr 1 1 0 0)], [.box (.p (G n es)), .box (.p X)]⟩)
      (wk_norm [0, 1] [89, 88, 1, 2, 5] rfl rfl) (by show _ = _; rw [rdC_zero h.g hdl, hX]; rfl) ?_
    rintro j st hj rfl
    have l0 := rdC_len (q := -1) (es := es) hdl j
    have l1 := rdC_len (q := -1) (es := es) hdl (j + 1)
    by_cases hlt : j < B
    · have hc := cl_closed h j
      have hpc := pc_mk (cl_ok h (j + 1))
      simp -implicitDefEqProofs (disch := omega) [List.getElem?_cons_zero, List.getElem?_cons_succ, wrap_id, hlt]
      refine HC_of_PC rfl (closed_ok n es (rdC n es (-1) d j) he (by omega)) ?_
      simp -implicitDefEqProofs (disch := omega) [List.getElem?_cons_zero, List.getElem?_cons_succ, wrap_id, hc]
      refine HC_of_PC rfl (r20check_ok n es (rdC n es (-1) d (j + 1)) he (by omega)) ?_
      simp -implicitDefEqProofs (disch := omega) [List.getElem?_cons_zero, List.getElem?_cons_succ, wrap_id, hpc]
      exact round_end [0, 1] [89, 88, 1, 2, 5] hlt rfl rfl
    have hjB : j = B := by omega
    subst hjB
    simp -implicitDefEqProofs (disch := omega) [List.getElem?_cons_zero, List.getElem?_cons_succ, wrap_id]
    refine loopW n (fun v st => st = ⟨[(110, .i v), (109, .i n), (1, .p (.is (rdC n es (-1) d j))), (2, .ptr 0 1 0 0), (5, .ptr 1 1 0 0)], [.box (.p (G n es)), .box (.p X)]⟩)
      (wk_norm [0, 1] [110, 109, 1, 2, 5] rfl rfl) rfl ?_
    rintro v st hv rfl
    by_cases hvt : v < n
    · have hm := hmay v hvt
      have hx := hvtx v hvt
      subst hX
      simp -implicitDefEqProofs (disch := omega) [List.getElem?_cons_zero, List.getElem?_cons_succ, wrap_id, hvt]
      refine HC_of_PC rfl (legal_ok n es (rdC n es (-1) d j) v (by omega) (by omega)) ?_
      simp -implicitDefEqProofs (disch := omega) [List.getElem?_cons_zero, List.getElem?_cons_succ, wrap_id, hx, resB_ok, hm]
      exact round_end [0, 1] [110, 109, 1, 2, 5] hvt rfl rfl
    simp -implicitDefEqProofs (disch := omega) [List.getElem?_cons_zero, List.getElem?_cons_succ, wrap_id, hvt]
    refine HC_of_PC rfl (awake20_ok) ?_
    simp -implicitDefEqProofs (disch := omega) [List.getElem?_cons_zero, List.getElem?_cons_succ, wrap_id]
    (refine fin0 trivial rfl ?_; simp -implicitDefEqProofs (disch := omega) [List.getElem?_cons_zero, List.getElem?_cons_succ, idx, wrap_id])
end Go.Proofs.Ytamiekhoaggpkaa
end
section
namespace Go
namespace Abs
open Go.RowKit
section
variable {H : Type} {enc : TypeId × Value → H} {P : Program} {w : World} {base : Nat} {spare : Nat → Bool} {held : Bool} {fuel : Nat} {cs : List Value} {x : DataW H × List MemPlace} {t : TypeId}
/-- What stands in memory now. -/
abbrev Here (w : World) : Nat → Prop := fun b => b < w.heap.size
theorem open_int (ht : P.underlying t = some (.int .i64)) (h : DataW.trod enc P w base spare held fuel t cs = some x) : ∃ n : Int, cs = [.int .i64 n] ∧ RP (Here w) w (.i n) (.int .i64 n) := by
  obtain ⟨n, h1, -, -⟩ := DataW.trod_int ht h
  exact ⟨n, h1, .v _ rfl⟩
theorem addr_plus {a : Addr} (h : a.spot = none) (n : Nat) : a.add n = ⟨a.block, a.off + n, none⟩ := by
  unfold Addr.add
  split
  · rename_i e; subst e; cases a; cases h; rfl
  · rfl
theorem cell_spot {a : Addr} {v : Value} (h : w.cell? a = some v) : a.spot = none ∧ a.block < w.heap.size := by
  unfold World.cell? at h
  split at h
  · rename_i c t' z hb
    split at h
    · cases h
    · rename_i hs
      exact ⟨by cases ha : a.spot; rfl; rw [ha] at hs; exact absurd rfl hs, (Array.getElem?_eq_some_iff.1 hb).1⟩
  · cases h
theorem open_sl {e : TypeId} {β : Type} (g : β → PV) (sz : Nat) (hpos : 0 < sz) (ht : P.underlying t = some (.slice e)) (hc : P.cellsOf e = sz) (hg : ∀ b, (g b).flat.length = sz ∧ ∀ q ∈ (g b).flat, q.one = true)
    (hel : ∀ {fuel : Nat} {cs : List Value} {x : DataW H × List MemPlace}, DataW.trod enc P w base spare held fuel e cs = some x → ∃ b, ∀ i (h : i < (g b).flat.length) (h' : i < cs.length), RP (Here w) w (g b).flat[i] cs[i])
    (h : DataW.trod enc P w base spare held fuel t cs = some x) : ∃ (bs : List β) (v : Value), cs = [v] ∧ RP (Here w) w (.sl (bs.map g)) v := by
  rcases DataW.trod_slice ht h with ⟨h0, -⟩ | ⟨a, len, cap, elems, rest, n, -, rfl, -, -, hl, hm, hlen, hels, -, -⟩
  · refine ⟨[], _, h0, ?_⟩
    exact .sl [] none 0 0 (fun _ _ => undef) (by simp) (by simp) (fun i h => by simp at h) (.inl rfl) (fun i h => by simp at h)
  have each : ∀ i : _root_.Fin len, ∃ p : List Value × β, w.cells? base (a.add (i.1 * P.cellsOf e)) (P.cellsOf e) = some p.1 ∧ ∀ j (h : j < (g p.2).flat.length) (h' : j < p.1.length), RP (Here w) w (g p.2).flat[j] p.1[j] := by
    intro i
    have hb := hels i.1 i.2
    rw [List.getElem?_eq_getElem (by omega), Option.bind_eq_some_iff] at hb
    obtain ⟨cs', h1, h2⟩ := hb
    obtain ⟨b, hb⟩ := hel h2
    exact ⟨⟨cs', b⟩, h1, hb⟩
  obtain ⟨F, hF⟩ : ∃ F : _root_.Fin len → List Value × β, ∀ i, w.cells? base (a.add (i.1 * P.cellsOf e)) (P.cellsOf e) = some (F i).1 ∧ ∀ j (h : j < (g (F i).2).flat.length) (h' : j < (F i).1.length), RP (Here w) w (g (F i).2).flat[j] (F i).1[j] :=
    ⟨fun i => (each i).choose, fun i => (each i).choose_spec⟩
  refine ⟨List.ofFn fun i => (F i).2, _, rfl, ?_⟩
  have hlen' : ((List.ofFn fun i => (F i).2).map g).length = len := by simp
  have hsz : ∀ i, (F i).1.length = sz := fun i => by rw [(World.cells?_some (hF i).1).2.1, hc]
  have hcell : ∀ i : _root_.Fin len, ∀ j (hj : j < sz), w.cell? ((a.add (i.1 * sz)).add j) = some ((F i).1[j]'(by rw [hsz]; exact hj)) := by
    intro i j hj
    have := (World.cells?_some (hF i).1).2.2 j (by rw [hc]; exact hj)
    rw [hc] at this
    rw [this, List.getElem?_eq_getElem]
  have main := RP.sl (S := Here w) (w := w) ((List.ofFn fun i => (F i).2).map g) (some a) cap sz (fun i j => if h : i < len then (F ⟨i, h⟩).1.getD j undef else undef) (by rw [hlen']; exact hl) hm (fun i hi => by
      rw [List.getElem_map]; exact hg _) ?_ ?_
  · rw [hlen'] at main
    exact main
  · rcases Nat.eq_zero_or_pos len with h0 | h0
    · left
      exact List.eq_nil_of_length_eq_zero (by rw [hlen', h0])
    · right
      have h1 := hcell ⟨0, h0⟩ 0 hpos
      simp only [Nat.zero_mul] at h1
      have h2 : a.add 0 = a := rfl
      rw [h2, h2] at h1
      obtain ⟨s1, s2⟩ := cell_spot h1
      refine ⟨a.block, a.off, by cases a; cases s1; rfl, s2, fun i j hi hj => ?_⟩
      rw [hlen'] at hi
      have h3 := hcell ⟨i, hi⟩ j hj
      rw [addr_plus s1, addr_plus rfl] at h3
      rw [dif_pos hi]
      refine h3.trans ?_
      rw [List.getD_eq_getElem?_getD, List.getElem?_eq_getElem]
      rfl
  · intro i hi j hj
    rw [hlen'] at hi
    simp only [List.getElem_map, List.getElem_ofFn] at hj ⊢
    rw [dif_pos hi, List.getD_eq_getElem?_getD, List.getElem?_eq_getElem (by rw [hsz, ← (hg (F ⟨i, hi⟩).2).1]; exact hj)]
    exact (hF ⟨i, hi⟩).2 j hj _
end
end Abs
end Go
/-
  Handed arguments of any shape, as values of the abstract machine.
-/
namespace Go
namespace Abs
open Go.RowKit Go.ChangeShapes Go.WideShapes Go.ChangeAt
/-- Whatever is read at a type is one of these values. -/
structure Opens (P : Program) (t : TypeId) {β : Type} (g : β → PV) : Prop where
  one : ∀ b, ∀ q ∈ (g b).flat, q.one = true
  len : ∀ b, (g b).flat.length = P.cellsOf t
  red : ∀ {H : Type} {enc : TypeId × Value → H} {w : World} {base : Nat} {spare : Nat → Bool} {held : Bool} {fuel : Nat} {cs : List Value} {x : DataW H × List MemPlace},
    DataW.trod enc P w base spare held fuel t cs = some x → ∃ b, RPs (Here w) w (g b).flat cs
theorem flat_agg (l : List PV) : (PV.agg l).flat = l := rfl
section
variable {P : Program} {t : TypeId}
theorem Opens.to {β γ : Type} {g : β → PV} {g' : γ → PV} (h : Opens P t g) (f : β → γ) (k : γ → β) (e : ∀ b, g b = g' (f b)) (e' : ∀ c, g' c = g (k c)) : Opens P t g' := by
  refine ⟨fun b => ?_, fun b => ?_, fun hr => ?_⟩
  · rw [e' b]; exact h.one _
  · rw [e' b]; exact h.len _
  · obtain ⟨b, hb⟩ := h.red hr
    exact ⟨f b, e b ▸ hb⟩
theorem RPs_one {S : Nat → Prop} {w : World} {x : PV} {v : Value} (h : RP S w x v) : RPs S w [x] [v] := ⟨rfl, fun i hi hi' => by
  have : i = 0 := by simp at hi; omega
  subst this; exact h⟩
theorem RPs_app {S : Nat → Prop} {w : World} {a b : List PV} {cs : List Value} (h1 : RPs S w a (cs.take a.length)) (h2 : RPs S w b (cs.drop a.length)) : RPs S w (a ++ b) cs := by
  have l1 := h1.1
  have l2 := h2.1
  simp only [List.length_take, List.length_drop] at l1 l2
  refine ⟨by rw [List.length_append]; omega, fun i hi hi' => ?_⟩
  by_cases hc : i < a.length
  · have := h1.2 i hc (by simp; omega)
    rw [List.getElem_take] at this
    rw [List.getElem_append_left hc]
    exact this
  · have := h2.2 (i - a.length) (by rw [List.length_append] at hi; omega) (by simp; omega)
    rw [List.getElem_append_right (by omega)]
    simp only [List.getElem_drop] at this
    have e : a.length + (i - a.length) = i := by omega
    simp only [e] at this
    exact this
theorem opens_int (ht : P.underlying t = some (.int .i64)) (hc : P.cellsOf t = 1) : Opens P t PV.i := by
  refine ⟨fun b q hq => by simp [PV.flat] at hq; subst hq; rfl, fun b => by rw [hc]; rfl, fun h => ?_⟩
  obtain ⟨n, rfl, hr⟩ := open_int ht h
  exact ⟨n, RPs_one hr⟩
theorem opens_slice {e : TypeId} {β : Type} {g : β → PV} (he : Opens P e g) (ht : P.underlying t = some (.slice e)) (hp : 0 < P.cellsOf e) (hc : P.cellsOf t = 1) : Opens P t (fun l : List β => PV.sl (l.map g)) := by
  refine ⟨fun b q hq => by simp [PV.flat] at hq; subst hq; rfl, fun b => by rw [hc]; rfl, fun h => ?_⟩
  obtain ⟨bs, v, rfl, hr⟩ := open_sl g (P.cellsOf e) hp ht rfl (fun b => ⟨he.len b, he.one b⟩) (fun h => by
    obtain ⟨b, hb⟩ := he.red h
    exact ⟨b, fun i hi hi' => hb.2 i hi hi'⟩) h
  exact ⟨bs, RPs_one hr⟩
theorem opens_struct2 {f0 f1 : Field} {β γ : Type} {g0 : β → PV} {g1 : γ → PV} (h0 : Opens P f0.type g0) (h1 : Opens P f1.type g1) (ht : P.underlying t = some (.struct #[f0, f1]))
    (ho0 : f0.offset = 0) (ho1 : f1.offset = P.cellsOf f0.type) (hc : P.cellsOf t = P.cellsOf f0.type + P.cellsOf f1.type) : Opens P t (fun p : β × γ => PV.agg ((g0 p.1).flat ++ (g1 p.2).flat)) := by
  refine ⟨fun b q hq => ?_, fun b => ?_, fun h => ?_⟩
  · simp only [flat_agg, List.mem_append] at hq
    exact hq.elim (h0.one _ _) (h1.one _ _)
  · simp only [flat_agg, List.length_append, h0.len, h1.len, hc]
  · obtain ⟨y0, y1, n, -, hl, k0, k1⟩ := trod_struct2 ht h
    obtain ⟨b0, r0⟩ := h0.red k0
    obtain ⟨b1, r1⟩ := h1.red k1
    refine ⟨(b0, b1), RPs_app ?_ ?_⟩
    · rw [h0.len]; rw [ho0, List.drop_zero] at r0; exact r0
    · rw [h0.len]; rw [ho1, List.take_of_length_le (by rw [List.length_drop]; omega)] at r1; exact r1
theorem opens_struct3 {f0 f1 f2 : Field} {β γ δ : Type} {g0 : β → PV} {g1 : γ → PV} {g2 : δ → PV} (h0 : Opens P f0.type g0) (h1 : Opens P f1.type g1) (h2 : Opens P f2.type g2) (ht : P.underlying t = some (.struct #[f0, f1, f2]))
    (ho0 : f0.offset = 0) (ho1 : f1.offset = P.cellsOf f0.type) (ho2 : f2.offset = P.cellsOf f0.type + P.cellsOf f1.type) (hc : P.cellsOf t = P.cellsOf f0.type + P.cellsOf f1.type + P.cellsOf f2.type) :
    Opens P t (fun p : β × γ × δ => PV.agg ((g0 p.1).flat ++ ((g1 p.2.1).flat ++ (g2 p.2.2).flat))) := by
  refine ⟨fun b q hq => ?_, fun b => ?_, fun h => ?_⟩
  · simp only [flat_agg, List.mem_append] at hq
    rcases hq with hq | hq | hq
    · exact h0.one _ _ hq
    · exact h1.one _ _ hq
    · exact h2.one _ _ hq
  · simp only [flat_agg, List.length_append, h0.len, h1.len, h2.len, hc]
    omega
  · obtain ⟨y0, y1, y2, n, -, hl, k0, k1, k2⟩ := Go.Deep.trod_struct3 ht h
    obtain ⟨b0, r0⟩ := h0.red k0
    obtain ⟨b1, r1⟩ := h1.red k1
    obtain ⟨b2, r2⟩ := h2.red k2
    refine ⟨(b0, b1, b2), RPs_app ?_ (RPs_app ?_ ?_)⟩
    · rw [h0.len]; rw [ho0, List.drop_zero] at r0; exact r0
    · rw [h0.len, h1.len]; rw [ho1] at r1; exact r1
    · rw [h0.len, h1.len, List.drop_drop]; rw [ho2, List.take_of_length_le (by rw [List.length_drop]; omega)] at r2; exact r2
section
variable {H : Type} {enc : TypeId × Value → H} {w : World} {base : Nat} {spare : Nat → Bool} {held : Bool} {v : Value} {d : DataW H} {p : List MemPlace} {r : Reach} {base' : Nat} {β : Type} {g : β → PV}
theorem arg_one (h : Opens P t g) (hg : ∀ b, (g b).flat = [g b]) (hv : v.cells.toList = [v]) (hd : DataW.Trod enc P w base spare held t v d p) : ∃ b, RP (Here w) w (g b) v := by
  obtain ⟨m, hm⟩ := hd
  obtain ⟨b, hb⟩ := h.red hm
  refine ⟨b, ?_⟩
  rw [hg b, hv] at hb
  exact hb.2 0 (by simp) (by simp)
theorem arg_slice {e : TypeId} {g : β → PV} (h : Opens P t g) (ht : P.underlying t = some (.slice e)) (hg : ∀ b, (g b).flat = [g b]) (hw : Value.okWide P w r base' t v) (hd : DataW.Trod enc P w base spare held t v d p) : ∃ b, RP (Here w) w (g b) v := by
  obtain ⟨a, len, cap, rfl⟩ := okWide_slice ht hw
  exact arg_one h hg rfl hd
theorem arg_agg {cs : Array Value} (h : Opens P t g) (hg : ∀ b, g b = .agg (g b).flat) (hd : DataW.Trod enc P w base spare held t (.agg cs) d p) : ∃ b, RP (Here w) w (g b) (.agg cs) := by
  obtain ⟨m, hm⟩ := hd
  obtain ⟨b, hb⟩ := h.red hm
  refine ⟨b, ?_⟩
  rw [hg b]
  exact .agg _ _ hb.1 (h.one b) fun i hi hi' => hb.2 i hi hi'
theorem arg_struct {fs : Array Field} (h : Opens P t g) (ht : P.underlying t = some (.struct fs)) (hg : ∀ b, g b = .agg (g b).flat) (hw : Value.okWide P w r base' t v) (hd : DataW.Trod enc P w base spare held t v d p) : ∃ b, RP (Here w) w (g b) v := by
  obtain ⟨cs, rfl, -⟩ := okWide_struct ht hw
  exact arg_agg h hg hd
end
end
end Abs
end Go
end
