/-
  Texts joined: Ace Iag Mza Iah Iu.
-/
import Derived.Test.YtekniokkmgencaaGreatKh17

section
set_option linter.unusedSimpArgs false
set_option linter.unusedVariables false
namespace Go
namespace Abs
open Go.RowKit
inductive Ro (H : List AO) (L : List AV) : AV → AV → Prop
  | p (a : AV) (x : PV) (hv : view H a = some x) (hL : a ∈ L) : Ro H L a (.p x)
  | ptr (o j : Nat) (y : AV) (ps : List PV) (ho : H[o]? = some (.box y)) (hv : view H (.agg y.flat) = some (.agg ps)) (h1 : .agg y.flat ∈ L) (h2 : .bs o 0 0 ∈ L) : Ro H L (.ptr o 1 0 j) (.sp (.agg ps) j)
  | fn (f : Fn) (cap cap' : List AV) (hl : cap.length = cap'.length) (h : ∀ i (hi : i < cap.length) (hi' : i < cap'.length), Ro H L cap[i] cap'[i]) : Ro H L (.fn f [] cap) (.fn f [] cap')
theorem ro_ok {M : Mem} {L : List AV} {H2 : List AO} (hM : MemOk M) (hf1 : MemOk ⟨M.w, H2, M.φ, M.base, M.S⟩) (hf2 : Le M ⟨M.w, H2, M.φ, M.base, M.S⟩) (hself : ∀ x ∈ L, FzV M.H H2 x) {S2 : Nat → Prop} (hS2 : S2 = Mem.shared ⟨M.w, H2, M.φ, M.base, M.S⟩) :
    ∀ {a a' : AV}, Ro M.H L a a' → ∀ v, RA M a v → RA ⟨M.w, [], fun _ => none, M.w.heap.size, S2⟩ a' v := by
  have hup : ∀ b, S2 b → Mem.shared ⟨M.w, [], fun _ => none, M.w.heap.size, S2⟩ b ∧ M.w.heap[b]? = M.w.heap[b]? := fun b hb => ⟨⟨by rw [hS2] at hb; exact hb.1, fun _ => hb, fun o ob h => by simp at h⟩, rfl⟩
  intro a a' hro
  induction hro with
  | p a x hv hL =>
    intro v hr
    have := view_ok (M' := ⟨M.w, H2, M.φ, M.base, M.S⟩) hf2 hf1 hr hv (hself a hL)
    rw [← hS2] at this
    exact .p _ _ (this.mono hup)
  | fn f cap cap' hl h ih =>
    intro v hr
    cases hr with
    | fn f first cap fs cs k1 k2 k3 k4 =>
      exact .fn f [] cap' fs cs k1 (by rw [k2, hl]) (fun i hi => by simp at hi) (fun i hi hi' => ih i (by omega) hi _ (k4 i (by omega) hi'))
  | ptr o j y ps ho hv h1 h2 =>
    intro v hr
    have hfz' : H2[o]? = some (.fbx y) := by
      have : Fz H2 o (.box y) := hself _ h2 _ ho
      exact this
    obtain ⟨b, cur, t, hb, hc, hcells⟩ := hM.ok o _ ho
    have hagg : RA M (.agg y.flat) (.agg cur) := .agg _ _ hcells.1 (fun c hc => by
      obtain ⟨i, hi, rfl⟩ := Array.mem_iff_getElem.1 hc
      obtain ⟨c', h1, _, h3⟩ := hcells.2 i (by rw [← hcells.1]; exact hi)
      rw [Array.getElem?_eq_getElem hi] at h1
      injection h1 with h1
      rw [h1]; exact h3) (fun i hi hi' => by
      obtain ⟨c', h1, h2, _⟩ := hcells.2 i hi
      rw [Array.getElem?_eq_getElem hi'] at h1
      injection h1 with h1
      rw [h1]; exact h2)
    have hRP := view_ok (M' := ⟨M.w, H2, M.φ, M.base, M.S⟩) hf2 hf1 hagg hv (hself _ h1)
    have hsb : Mem.shared ⟨M.w, H2, M.φ, M.base, M.S⟩ b := shared_of hf1 hfz' rfl hb
    rw [← hS2] at hRP hsb
    cases hr with
    | ptr o n i j v hp =>
      obtain ⟨ob, k1, k2, k3⟩ := hp
      rw [ho] at k1
      injection k1 with k1
      subst k1
      obtain ⟨b', k4, rfl⟩ := k3 rfl
      rw [hb] at k4
      injection k4 with k4
      subst k4
      have e1 : 0 * (AO.box y).sz + j = 0 + j := by simp
      rw [e1]
      cases hRP with
      | agg l cs h1 h2 h3 =>
        refine .sp (.agg ps) j b 0 (fun k => cur.getD k undef) (hup b hsb).1 h2 (fun k hk => ?_) (fun k hk => ?_)
        · have hk' : k < cur.size := by rw [h1]; exact hk
          rw [Nat.zero_add]
          simp [World.cell?, hc, hk']
        · have hk' : k < cur.size := by rw [h1]; exact hk
          have e2 : cur.getD k undef = cur[k] := by simp [Array.getD, hk']
          show RP _ _ _ (cur.getD k undef)
          rw [e2]
          exact (h3 k hk hk').mono hup
end Abs
end Go
end
section
set_option linter.unusedSimpArgs false
set_option linter.unusedVariables false
namespace Go
namespace Abs
theorem HC_roT {P : Program} {e : Bool} {f : FuncId} {af : AFn} {H : List AO} {args args' : List AV} (L : List AV) {Q : PV → PV → Prop} {R : AV → List AO → Prop} (hf : cfn P f args'.length = some af) (hl : args.length = args'.length)
    (hro : ∀ i (hi : i < args.length) (hi' : i < args'.length), Ro H L args[i] args'[i])
    (h : W P 0 af.body (Fin 0 af.res fun r' H' => (∃ z1 z2, r' = .tup [.p z1, .p z2] ∧ calmP z1 = true ∧ calmP z2 = true ∧ Q z1 z2) ∧ H' = []) ⟨initT 0 args', []⟩) (hR : ∀ z1 z2, Q z1 z2 → R (.tup [.p z1, .p z2]) H) : HC P e f args H R := by
  intro M vs hM hH ha
  subst hH
  obtain ⟨hf1, hf2⟩ := frzL_ok (M := M) L (H := M.H) hM
  obtain ⟨H2, hH2⟩ : ∃ H2, H2 = frzL M.H L := ⟨_, rfl⟩
  have hself : ∀ x ∈ L, FzV M.H H2 x := fun x hx => by rw [hH2]; exact frzL_self L M.H x hx
  rw [← hH2] at hf1 hf2
  obtain ⟨S2, hS2⟩ : ∃ S2, S2 = Mem.shared ⟨M.w, H2, M.φ, M.base, M.S⟩ := ⟨_, rfl⟩
  have hM3 : MemOk ⟨M.w, [], fun _ => none, M.w.heap.size, S2⟩ := ⟨fun o ob h => by simp at h, fun o o' b h => by simp at h, fun o b h => by simp at h, Nat.le_refl _⟩
  have hal := ha.1
  have ha3 : RAs ⟨M.w, [], fun _ => none, M.w.heap.size, S2⟩ args' vs := ⟨by omega, fun i hi hi' => ro_ok hM hf1 hf2 hself hS2 (hro i (by omega) hi) _ (ha.2 i (by omega) hi')⟩
  refine (fin_calls hf hM3 ha3 h).mono ?_
  rintro en w' ⟨v, r', H', φ', rfl, ⟨⟨z1, z2, rfl, hz1, hz2, hQ⟩, rfl⟩, h3, _, h5, h6⟩
  have hold : ∀ b, b < M.w.heap.size → w'.heap[b]? = M.w.heap[b]? := fun b hb2 => h6.block b hb2
  have hle : Le M ⟨w', M.H, M.φ, M.base, M.S⟩ := by
    refine ⟨fun b hb2 => ⟨⟨Nat.lt_of_lt_of_le hb2.1 h6.size, hb2.2.1, hb2.2.2⟩, hold b hb2.1⟩, fun o ob ho => ⟨ob, ho, rfl, Nat.le_refl _, fun _ => ⟨rfl, rfl, fun b hb2 => ?_⟩⟩⟩
    have := hold b (hM.lt (List.getElem?_eq_some_iff.1 ho).1 hb2)
    simp [World.shape?, this]
  refine ⟨v, .tup [.p z1, .p z2], M.H, M.φ, rfl, hR z1 z2 hQ, ?_, hle, ?_, ?_, fun _ => Early.Ext.of_below h6⟩
  · exact ⟨fun o ob ho => (hM.ok o ob ho).mono hle rfl (fun b hb2 => hold b (hM.lt (List.getElem?_eq_some_iff.1 ho).1 hb2)), hM.inj, hM.lo, Nat.le_trans hM.bs h6.size⟩
  · cases h5 with
    | tup l cs h1 h2 =>
      refine .tup _ cs h1 fun i hi hi' => ?_
      have := h2 i hi hi'
      match i, hi with
      | 0, _ => exact .p _ _ (RP.calm (RA.toP this) hz1)
      | 1, _ => exact .p _ _ (RP.calm (RA.toP this) hz2)
  · exact ⟨h6.os, h6.tape, h6.output, h6.size, fun k hk => h6.block k (by have := hM.bs; show k < M.w.heap.size; omega)⟩
end Abs
end Go
end
section
namespace Go
namespace Sand
def joinE (es : List Ed) (v u : Nat) : Int := if u = v then 0 else betw es (min (u : Int) v) (max (u : Int) v)
def sumN (f : Nat → Int) : Nat → Int
  | 0 => 0
  | k + 1 => sumN f k + f k
theorem sumN_add (f g : Nat → Int) (k : Nat) : sumN (fun u => f u + g u) k = sumN f k + sumN g k := by
  induction k with
  | zero => rfl
  | succ k ih => simp only [sumN, ih]; omega
theorem sumN_congr {f g : Nat → Int} {k : Nat} (h : ∀ u, u < k → f u = g u) : sumN f k = sumN g k := by
  induction k with
  | zero => rfl
  | succ k ih => simp only [sumN]; rw [ih fun u hu => h u (by omega), h k (by omega)]
theorem sumN_nonneg {f : Nat → Int} {k : Nat} (h : ∀ u, u < k → 0 ≤ f u) : 0 ≤ sumN f k := by
  induction k with
  | zero => exact Int.le_refl 0
  | succ k ih => simp only [sumN]; have := ih fun u hu => h u (by omega); have := h k (by omega); omega
theorem sumN_le {f g : Nat → Int} {k : Nat} (h : ∀ u, u < k → f u ≤ g u) : sumN f k ≤ sumN g k := by
  induction k with
  | zero => exact Int.le_refl 0
  | succ k ih => simp only [sumN]; have := ih fun u hu => h u (by omega); have := h k (by omega); omega
theorem sumN_zero (k : Nat) : sumN (fun _ => 0) k = 0 := by
  induction k with
  | zero => rfl
  | succ k ih => simp only [sumN, ih]; rfl
theorem sumN_one (v k : Nat) (c : Int) : sumN (fun u => if u = v then c else 0) k = if v < k then c else 0 := by
  induction k with
  | zero => rfl
  | succ k ih =>
    simp only [sumN, ih]
    by_cases h : k = v
    · subst h; simp
    · by_cases h2 : v < k
      · rw [if_pos h2, if_neg h, if_pos (by omega)]; omega
      · rw [if_neg h2, if_neg h, if_neg (by omega)]; omega
theorem sumN_sumI (l : List Int) : ∀ k, k ≤ l.length → sumN (fun u => l.getD u 0) k = sumI (l.take k)
  | 0, _ => rfl
  | k + 1, h => by
    simp only [sumN]
    rw [sumN_sumI l k (by omega), sumI_snoc l k (by omega), getD_get (by omega)]
theorem sumI_sumN (l : List Int) : sumI l = sumN (fun u => l.getD u 0) l.length := by rw [sumN_sumI l _ (Nat.le_refl _), List.take_length]
section
variable {n : Nat} {es : List Ed} (hg : GoodG n es)
include hg
theorem joinE_bd (v u : Nat) : 0 ≤ joinE es v u ∧ joinE es v u ≤ 50 := by
  unfold joinE
  split
  · omega
  · exact betw_bd hg.right _ _
omit hg in
theorem joinE_sym (v u : Nat) : joinE es v u = joinE es u v := by
  unfold joinE
  by_cases h : u = v
  · subst h; rfl
  · rw [if_neg h, if_neg (fun e => h e.symm), Int.min_comm, Int.max_comm]
omit hg in
theorem joinE_self (v : Nat) : joinE es v v = 0 := by simp [joinE]
omit hg in
theorem valTo_sum (v k : Nat) : valTo es v k = sumN (fun u => joinE es v u) k := by
  induction k with
  | zero => rfl
  | succ k ih =>
    simp only [valTo, sumN, ih, joinE]
    by_cases h : k = v
    · subst h; simp
    · rw [if_neg (by omega), if_neg h]
theorem dif_sum (s : List Int) (v : Nat) : dif es s v = sumN (fun u => joinE es v u * s.getD u 0) n - s.getD v 0 * valTo es v n := by
  have key : ∀ k, rowTo es s v k = sumN (fun u => joinE es v u * s.getD u 0) k - s.getD v 0 * valTo es v k := by
    intro k
    induction k with
    | zero => simp [rowTo, sumN, valTo]
    | succ k ih =>
      simp only [rowTo, sumN, valTo, ih, joinE]
      by_cases h : k = v
      · subst h; simp
      · rw [if_neg h, if_neg h, if_neg (by omega), Int.min_comm (v : Int), Int.max_comm (v : Int), Int.mul_sub, Int.mul_add, Int.mul_comm (s.getD v 0) (betw _ _ _)]
        omega
  rw [dif, ← rowTo_all hg.right hg.asc s v, key n]
theorem aft_eq {d s : List Int} (hd : d.length = n) (v : Nat) : (movedE es s d).getD v 0 = d.getD v 0 + dif es s v := moved_dif hg.right s d hd v
def moreS (s : List Int) (v : Nat) (k : Int) : List Int := s.set v (s.getD v 0 + k)
omit hg in
theorem moreS_len (s : List Int) (v : Nat) (k : Int) : (moreS s v k).length = s.length := by simp [moreS]
omit hg in
theorem moreS_get (s : List Int) (v : Nat) (k : Int) (hv : v < s.length) (i : Nat) : (moreS s v k).getD i 0 = s.getD i 0 + if i = v then k else 0 := by
  rw [moreS, getD_set]
  by_cases h : i = v
  · subst h; simp [hv]
  · rw [if_neg (by omega), if_neg h]; omega
theorem dif_more (s : List Int) (v : Nat) (k : Int) (hv : v < s.length) (hvn : v < n) (u : Nat) : dif es (moreS s v k) u = dif es s u + joinE es v u * k - if u = v then k * valTo es v n else 0 := by
  rw [dif_sum hg, dif_sum hg]
  have e : sumN (fun w => joinE es u w * (moreS s v k).getD w 0) n = sumN (fun w => joinE es u w * s.getD w 0) n + joinE es v u * k := by
    have h1 : sumN (fun w => joinE es u w * (moreS s v k).getD w 0) n = sumN (fun w => joinE es u w * s.getD w 0 + if w = v then joinE es v u * k else 0) n := by
      refine sumN_congr fun w _ => ?_
      rw [moreS_get s v k hv, Int.mul_add]
      by_cases h : w = v
      · subst h; simp [joinE_sym u w]
      · simp [h]
    rw [h1, sumN_add, sumN_one, if_pos hvn]
  rw [e, moreS_get s v k hv]
  by_cases h : u = v
  · subst h
    rw [if_pos rfl, if_pos rfl, Int.add_mul]
    omega
  · rw [if_neg h, if_neg h]
    simp only [Int.add_zero]
    omega
theorem aft_more {d : List Int} (hd : d.length = n) (s : List Int) (v : Nat) (k : Int) (hv : v < s.length) (hvn : v < n) (u : Nat) :
    (movedE es (moreS s v k) d).getD u 0 = (movedE es s d).getD u 0 + joinE es v u * k - if u = v then k * valTo es v n else 0 := by
  rw [aft_eq hg hd, aft_eq hg hd, dif_more hg s v k hv hvn]
  omega
omit hg in
theorem zeros_get (i : Nat) : (List.replicate n (0 : Int)).getD i 0 = 0 := by
  by_cases h : i < n <;> simp [List.getD_eq_getElem?_getD, h]
theorem aft_zero {d : List Int} (hd : d.length = n) : movedE es (List.replicate n 0) d = d := moved_same_all hg.right 0 hd fun i _ => zeros_get i
structure May (n : Nat) (es : List Ed) (q : Int) (d : List Int) (v : Nat) (k : Int) : Prop where
  lt : v < n
  ne : (v : Int) ≠ q
  k1 : 1 ≤ k
  le : k * valTo es v n ≤ d.getD v 0
inductive Leg (n : Nat) (es : List Ed) (q : Int) (d : List Int) : List Int → Prop
  | nil : Leg n es q d (List.replicate n 0)
  | more {s : List Int} {v : Nat} {k : Int} (h : Leg n es q d s) (m : May n es q (movedE es s d) v k) : Leg n es q d (moreS s v k)
structure Stab (n : Nat) (es : List Ed) (q : Int) (d t : List Int) : Prop where
  len : t.length = n
  nn : ∀ i, i < n → 0 ≤ t.getD i 0
  st : ∀ v, v < n → (v : Int) ≠ q → (movedE es t d).getD v 0 < valTo es v n
omit hg in
theorem Leg.len {q : Int} {d s : List Int} (h : Leg n es q d s) : s.length = n := by
  induction h with
  | nil => simp
  | more _ _ ih => rw [moreS_len, ih]
omit hg in
theorem Leg.nn {q : Int} {d s : List Int} (h : Leg n es q d s) (i : Nat) : 0 ≤ s.getD i 0 := by
  induction h with
  | nil => rw [zeros_get]; exact Int.le_refl 0
  | more h m ih =>
    rw [moreS_get _ _ _ (by rw [h.len]; exact m.lt)]
    have := m.k1
    split <;> omega
omit hg in
theorem Leg.sink {q : Int} {d s : List Int} (h : Leg n es q d s) (i : Nat) (hi : (i : Int) = q) : s.getD i 0 = 0 := by
  induction h with
  | nil => exact zeros_get i
  | more h m ih =>
    have := m.ne
    rw [moreS_get _ _ _ (by rw [h.len]; exact m.lt), ih, if_neg (fun e => this (by rw [← e, hi]))]
    rfl
theorem valTo_nn (v k : Nat) : 0 ≤ valTo es v k := by
  rw [valTo_sum]; exact sumN_nonneg fun u _ => (joinE_bd hg v u).1
theorem least_one {q : Int} {d s t : List Int} (hd : d.length = n) (ht : Stab n es q d t) (hle : ∀ i, i < n → s.getD i 0 ≤ t.getD i 0) {v : Nat} {k : Int} (m : May n es q (movedE es s d) v k) :
    s.getD v 0 + k ≤ t.getD v 0 := by
  refine Int.not_lt.1 fun hlt => ?_
  have h1 := ht.st v m.lt m.ne
  have h2 := m.le
  have h3 := hle v m.lt
  rw [aft_eq hg hd, dif_sum hg] at h1 h2
  have h4 : sumN (fun u => joinE es v u * s.getD u 0) n ≤ sumN (fun u => joinE es v u * t.getD u 0) n := sumN_le fun u hu => Int.mul_le_mul_of_nonneg_left (hle u hu) (joinE_bd hg v u).1
  have hV := valTo_nn hg v n
  generalize valTo es v n = V at *
  obtain ⟨j, hj⟩ : ∃ j, t.getD v 0 = s.getD v 0 + j := ⟨t.getD v 0 - s.getD v 0, by omega⟩
  rw [hj, Int.add_mul] at h1
  have h5 : (k - j) * V ≥ 1 * V := Int.mul_le_mul_of_nonneg_right (by omega) hV
  rw [Int.sub_mul, Int.one_mul] at h5
  omega
theorem Leg.least {q : Int} {d s t : List Int} (h : Leg n es q d s) (hd : d.length = n) (ht : Stab n es q d t) : ∀ i, i < n → s.getD i 0 ≤ t.getD i 0 := by
  induction h with
  | nil => intro i hi; rw [zeros_get]; exact ht.nn i hi
  | @more s v k h m ih =>
    intro i hi
    have := least_one hg hd ht ih m
    rw [moreS_get _ _ _ (by rw [h.len]; exact m.lt)]
    by_cases e : i = v
    · rw [if_pos e, e]; exact this
    · rw [if_neg e]; have := ih i hi; omega
omit hg in
theorem Leg.stab {q : Int} {d s : List Int} (h : Leg n es q d s) (st : ∀ v, v < n → (v : Int) ≠ q → (movedE es s d).getD v 0 < valTo es v n) : Stab n es q d s := ⟨h.len, fun i _ => h.nn i, st⟩
theorem leg_same {q : Int} {d s t : List Int} (hd : d.length = n) (hs : Leg n es q d s) (ht : Leg n es q d t) (hs' : Stab n es q d s) (ht' : Stab n es q d t) : s = t :=
  ext_getD (by rw [hs.len, ht.len]) fun i hi => by
    rw [hs.len] at hi
    have := hs.least hg hd ht' i hi
    have := ht.least hg hd hs' i hi
    omega

/-! ### What is kept -/
theorem Leg.pos {q : Int} {d s : List Int} (h : Leg n es q d s) (hd : d.length = n) (h0 : ∀ v, v < n → (v : Int) ≠ q → 0 ≤ d.getD v 0) : ∀ v, v < n → (v : Int) ≠ q → 0 ≤ (movedE es s d).getD v 0 := by
  induction h with
  | nil => rw [aft_zero hg hd]; exact h0
  | @more s v k h m ih =>
    intro u hu hq
    rw [aft_more hg hd _ _ _ (by rw [h.len]; exact m.lt) m.lt]
    have h1 := ih u hu hq
    have h2 := m.le
    have h3 : 0 ≤ joinE es v u * k := Int.mul_nonneg (joinE_bd hg v u).1 (by have := m.k1; omega)
    split
    · rename_i e; subst e; omega
    · omega
theorem Leg.sinkUp {q : Int} {d s : List Int} (h : Leg n es q d s) (hd : d.length = n) (u : Nat) (hq : (u : Int) = q) : d.getD u 0 ≤ (movedE es s d).getD u 0 := by
  induction h with
  | nil => rw [aft_zero hg hd]; exact Int.le_refl _
  | @more s v k h m ih =>
    rw [aft_more hg hd _ _ _ (by rw [h.len]; exact m.lt) m.lt]
    have h3 : 0 ≤ joinE es v u * k := Int.mul_nonneg (joinE_bd hg v u).1 (by have := m.k1; omega)
    rw [if_neg (fun e => m.ne (by rw [← e, hq]))]
    omega
omit hg in
theorem sumI_ge : ∀ (l : List Int) (v : Nat), (∀ i, i < l.length → i ≠ v → 0 ≤ l.getD i 0) → v < l.length → l.getD v 0 ≤ sumI l
  | [], v, _, h => by simp at h
  | x :: l, 0, h, _ => by
    have : 0 ≤ sumI l := by
      rw [sumI_sumN]
      refine sumN_nonneg fun u hu => ?_
      have := h (u + 1) (by simpa using hu) (by omega)
      simpa using this
    simp only [sumI, List.getD_cons_zero]; omega
  | x :: l, v + 1, h, hv => by
    have h1 := h 0 (by simp) (by omega)
    have := sumI_ge l v (fun i hi hne => by have := h (i + 1) (by simpa using hi) (by omega); simpa using this) (by simpa using hv)
    simp only [sumI, List.getD_cons_succ, List.getD_cons_zero] at *; omega
omit hg in
theorem sumI_ge2 (l : List Int) (v w : Nat) (hvw : v ≠ w) (h : ∀ i, i < l.length → i ≠ v → i ≠ w → 0 ≤ l.getD i 0) (hv : v < l.length) (hw : w < l.length) : l.getD v 0 + l.getD w 0 ≤ sumI l := by
  have h1 := sumI_ge (l.set w 0) v (fun i hi hne => by
    rw [getD_set]
    split
    · omega
    · exact h i (by simpa using hi) hne (by simp only [List.length_set] at hi; omega)) (by simpa using hv)
  rw [sumI_set l w 0 hw, getD_set, if_neg (by omega)] at h1
  omega
structure Conf (n : Nat) (q : Int) (d : List Int) : Prop where
  len : d.length = n
  bd : Bd 1048600 d
  pos : ∀ v, v < n → (v : Int) ≠ q → 0 ≤ d.getD v 0
theorem aft_bd {q : Int} {d s : List Int} (h : Leg n es q d s) (c : Conf n q d) : ∀ i, -1048600 ≤ (movedE es s d).getD i 0 ∧ (movedE es s d).getD i 0 ≤ 13631800 := by
  have hl : (movedE es s d).length = n := by rw [movedE_length, c.len]
  have hsum := movedE_sum s hg.right d c.len
  have hup : sumI d ≤ 12 * 1048600 := by
    have : ∀ k, k ≤ d.length → sumI (d.take k) ≤ k * 1048600 := by
      intro k
      induction k with
      | zero => intro _; simp [sumI]
      | succ k ih =>
        intro hk
        have h1 := ih (by omega)
        have h2 := (c.bd k).2
        rw [getD_get (by omega)] at h2
        rw [sumI_snoc d k (by omega)]
        push_cast
        omega
    have h1 := this d.length (Nat.le_refl _)
    rw [List.take_length] at h1
    have := c.len
    have := hg.n12
    omega
  intro i
  by_cases hi : i < n
  · by_cases hq : (i : Int) = q
    · have h1 := h.sinkUp hg c.len i hq
      have h2 := (c.bd i).1
      have h3 := sumI_ge (movedE es s d) i (fun j hj hne => h.pos hg c.len c.pos j (by omega) (by omega)) (by omega)
      omega
    · have h1 := h.pos hg c.len c.pos i hi hq
      refine ⟨by omega, ?_⟩
      by_cases hqn : 0 ≤ q ∧ q < n
      · obtain ⟨w, rfl⟩ : ∃ w : Nat, q = w := ⟨q.toNat, by omega⟩
        have h2 := sumI_ge2 (movedE es s d) i w (by omega) (fun j hj _ hne => h.pos hg c.len c.pos j (by omega) (by omega)) (by omega) (by omega)
        have h3 := h.sinkUp hg c.len w rfl
        have h4 := (c.bd w).1
        omega
      · have h2 := sumI_ge (movedE es s d) i (fun j hj hne => h.pos hg c.len c.pos j (by omega) (by omega)) (by omega)
        omega
  · rw [List.getD_eq_getElem?_getD, List.getElem?_eq_none (by omega)]
    simp
end
end Sand
end Go
/-
  Plain laws: what stabilizing computes, some firings at once, and one after the other. No program.
-/
namespace Go
namespace Sand
section
variable (n : Nat) (es : List Ed) (q : Int) (d : List Int)
def unstB (c : List Int) (v : Nat) : Bool := decide ((v : Int) ≠ q ∧ valTo es v n ≤ c.getD v 0)
def nxtF (c : List Int) : Option Nat := (List.range n).find? (unstB n es q c)
def settleF : Nat → List Int → List Int × Int
  | 0, s => (s, 0)
  | m + 1, s => match nxtF n es q (movedE es s d) with
    | none => (s, 0)
    | some v => if 1048576 < sumI (moreS s v ((movedE es s d).getD v 0 / valTo es v n)) then (moreS s v ((movedE es s d).getD v 0 / valTo es v n), 12) else settleF m (moreS s v ((movedE es s d).getD v 0 / valTo es v n))
end
section
variable {n : Nat} {es : List Ed} {q : Int} {d : List Int}
theorem nxtF_some {c : List Int} {v : Nat} (h : nxtF n es q c = some v) : v < n ∧ (v : Int) ≠ q ∧ valTo es v n ≤ c.getD v 0 := by
  have h1 := List.find?_some h
  have h2 := List.mem_range.1 (List.mem_of_find?_eq_some h)
  simp only [unstB, decide_eq_true_eq] at h1
  exact ⟨h2, h1⟩
theorem nxtF_none {c : List Int} (h : nxtF n es q c = none) : ∀ v, v < n → (v : Int) ≠ q → c.getD v 0 < valTo es v n := by
  intro v hv hq
  have := (List.find?_eq_none.1 h) v (List.mem_range.2 hv)
  simp only [unstB, decide_eq_true_eq, not_and] at this
  have := this hq
  omega
theorem sumI_more {s : List Int} {v : Nat} {k : Int} (hv : v < s.length) : sumI (moreS s v k) = sumI s + k := by
  rw [moreS, sumI_set s v _ hv]; omega
theorem sumI_zeros (n : Nat) : sumI (List.replicate n 0) = 0 := by
  induction n with
  | zero => rfl
  | succ n ih => simp [List.replicate_succ, sumI, ih]
theorem Leg.sum {s : List Int} (h : Leg n es q d s) : 0 ≤ sumI s := by
  rw [sumI_sumN]; exact sumN_nonneg fun u _ => h.nn u
theorem may_many (hV : ∀ v, v < n → (v : Int) ≠ q → 1 ≤ valTo es v n) {c : List Int} {v : Nat} (h : nxtF n es q c = some v) : May n es q c v (c.getD v 0 / valTo es v n) := by
  obtain ⟨h1, h2, h3⟩ := nxtF_some h
  have hp := hV v h1 h2
  refine ⟨h1, h2, ?_, Int.ediv_mul_le _ (by omega)⟩
  exact (Int.le_ediv_iff_mul_le (by omega)).2 (by omega)
theorem settleF_spec (hV : ∀ v, v < n → (v : Int) ≠ q → 1 ≤ valTo es v n) : ∀ (m : Nat) (s : List Int), Leg n es q d s → sumI s ≤ 1048576 → 1048577 - sumI s ≤ m →
    Leg n es q d (settleF n es q d m s).1 ∧ (((settleF n es q d m s).2 = 0 ∧ nxtF n es q (movedE es (settleF n es q d m s).1 d) = none ∧ sumI (settleF n es q d m s).1 ≤ 1048576) ∨ ((settleF n es q d m s).2 = 12 ∧ 1048576 < sumI (settleF n es q d m s).1))
  | 0, s, h, h1, h2 => by omega
  | m + 1, s, h, h1, h2 => by
    unfold settleF
    split
    · rename_i hn
      exact ⟨h, .inl ⟨rfl, hn, h1⟩⟩
    · rename_i v hv
      have hm := may_many hV hv
      have hs : sumI (moreS s v ((movedE es s d).getD v 0 / valTo es v n)) = sumI s + (movedE es s d).getD v 0 / valTo es v n := sumI_more (by rw [h.len]; exact hm.lt)
      have hk := hm.k1
      split
      · rename_i hb
        exact ⟨h.more hm, .inr ⟨rfl, hb⟩⟩
      · rename_i hb
        exact settleF_spec hV m _ (h.more hm) (by omega) (by omega)
def stabF (n : Nat) (es : List Ed) (q : Int) (d : List Int) : List Int × Int := settleF n es q d 1048577 (List.replicate n 0)
theorem stabF_spec (hV : ∀ v, v < n → (v : Int) ≠ q → 1 ≤ valTo es v n) :
    Leg n es q d (stabF n es q d).1 ∧ (((stabF n es q d).2 = 0 ∧ nxtF n es q (movedE es (stabF n es q d).1 d) = none ∧ sumI (stabF n es q d).1 ≤ 1048576) ∨ ((stabF n es q d).2 = 12 ∧ 1048576 < sumI (stabF n es q d).1)) :=
  settleF_spec hV 1048577 _ .nil (by rw [sumI_zeros]; omega) (by rw [sumI_zeros]; omega)
end
end Sand
end Go
end
section
set_option linter.unusedSimpArgs false
set_option linter.unusedVariables false
namespace Go.Proofs.YtekniokkmgencaaGreat
open Go.Abs Go.Sand
theorem wrap_mid {n : Int} (h : 0 ≤ n) (h2 : n ≤ 100000) : IntKind.u64.wrap n = n := by rw [IntKind.wrap_u64]; omega
def BsR (es : List Ed) (a b : Int) (i : Nat) (f : Bool) : Prop :=
  i ≤ es.length ∧ (∀ j (h : j < es.length), j < i → cmpP es[j].a es[j].b a b < 0) ∧ (∀ j (h : j < es.length), i ≤ j → 0 ≤ cmpP es[j].a es[j].b a b) ∧ f = decide (∃ h : i < es.length, cmpP es[i].a es[i].b a b = 0)
def BsQ (es : List Ed) (a b : Int) (z1 z2 : PV) : Prop := ∃ (i : Nat) (f : Bool), z1 = .i i ∧ z2 = .b f ∧ BsR es a b i f
theorem cmp_lt (a b c d : Int) : cmpP a b c d < 0 ↔ a < c ∨ a = c ∧ b < d := by
  have := cmpP_ge a b c d
  constructor
  · intro h; exact Decidable.not_not.1 fun k => by have := this.2 k; omega
  · intro h; exact Int.not_le.1 fun k => this.1 k h
theorem cmp_form (a b c d : Int) : cmpP a b c d = if a < c then -1 else if c < a then 1 else if b < d then -1 else if d < b then 1 else 0 := by
  simp only [cmpP, orI, cmpI]
  by_cases h1 : a < c
  · simp [h1]
  · by_cases h2 : c < a
    · simp [h1, h2]
    · by_cases h3 : b < d
      · simp [h1, h2, h3]
      · by_cases h4 : d < b <;> simp [h1, h2, h3, h4]
theorem cmp_eq (a b c d : Int) : cmpP a b c d = 0 ↔ a = c ∧ b = d := by
  rw [cmp_form]
  split
  · omega
  · split
    · omega
    · split
      · omega
      · split <;> omega
theorem cmp_val (a b c d : Int) : cmpP a b c d = -1 ∨ cmpP a b c d = 0 ∨ cmpP a b c d = 1 := by
  rw [cmp_form]
  split
  · omega
  · split
    · omega
    · split
      · omega
      · split <;> omega
theorem cmp_mono {x y : Ed} (h : ltE x y) (a b : Int) : cmpP x.a x.b a b ≤ cmpP y.a y.b a b := by
  have h1 := cmp_lt x.a x.b a b
  have h2 := cmp_lt y.a y.b a b
  have h3 := cmp_eq x.a x.b a b
  have h4 := cmp_eq y.a y.b a b
  have h5 := cmp_val x.a x.b a b
  have h6 := cmp_val y.a y.b a b
  unfold ltE at h
  rcases h5 with e5 | e5 | e5 <;> rcases h6 with e6 | e6 | e6 <;> first | omega | (exfalso; rw [e5] at h1 h3; rw [e6] at h2 h4; simp at h1 h2 h3 h4; omega)
theorem bs_betw {es : List Ed} (hp : es.Pairwise ltE) {a b : Int} {i : Nat} {f : Bool} (h : BsR es a b i f) : (f = true → ∃ hi : i < es.length, betw es a b = es[i].m) ∧ (f = false → betw es a b = 0) := by
  obtain ⟨h1, h2, h3, h4⟩ := h
  constructor
  · intro hf
    rw [hf] at h4
    obtain ⟨hi, hc⟩ := of_decide_eq_true h4.symm
    refine ⟨hi, ?_⟩
    have key : ∀ (es : List Ed) (i : Nat) (hi : i < es.length), (∀ j (h : j < es.length), j < i → cmpP es[j].a es[j].b a b < 0) → cmpP es[i].a es[i].b a b = 0 → betw es a b = es[i].m := by
      intro es
      induction es with
      | nil => intro i hi; simp at hi
      | cons x es ih =>
        intro i hi hlt hc
        unfold betw
        cases i with
        | zero => exact if_pos ((cmp_eq _ _ _ _).1 hc)
        | succ i =>
          have h0 := hlt 0 (by simp) (by omega)
          rw [if_neg (fun e => by have := (cmp_eq _ _ _ _).2 e; simp only [List.getElem_cons_zero] at h0; omega)]
          exact ih i (by simpa using hi) (fun j hj hji => hlt (j + 1) (by simpa using hj) (by omega)) hc
    exact key es i hi h2 hc
  · intro hf
    rw [hf] at h4
    have h5 := of_decide_eq_false h4.symm
    refine betw_none fun x hx e => ?_
    obtain ⟨j, hj, rfl⟩ := List.getElem_of_mem hx
    have hz := (cmp_eq _ _ _ _).2 e
    have hij : i ≤ j := Nat.not_lt.1 fun hji => by have := h2 j hj hji; omega
    have hi : i < es.length := by omega
    refine h5 ⟨hi, ?_⟩
    by_cases c : i = j
    · subst c; exact hz
    · have hlt : ltE es[i] es[j] := List.pairwise_iff_getElem.1 hp i j hi hj (by omega)
      have := cmp_mono hlt a b
      have := h3 i hi (Nat.le_refl _)
      omega
theorem bsearch_W (es : List Ed) (a b : Int) (hl : es.length ≤ 1000) (hmono : ∀ i j (hi : i < es.length) (hj : j < es.length), i ≤ j → cmpP es[i].a es[i].b a b ≤ cmpP es[j].a es[j].b a b) :
    W Tryz.prog 0 (AFn.body c63) (Fin 0 (AFn.res c63) fun r' H' => (∃ z1 z2, r' = .tup [.p z1, .p z2] ∧ calmP z1 = true ∧ calmP z2 = true ∧ BsQ es a b z1 z2) ∧ H' = [])
      ⟨initT 0 [.p (.sl (es.map edP)), .p (pP (a, b)), .fn (.func 65) [] []], []⟩ := by
  simp -implicitDefEqProofs (disch := omega) [c63, List.getElem?_cons_zero, List.getElem?_cons_succ, wrap_id]
  refine loopW es.length (fun k s => ∃ lo hi : Nat, s = ⟨[(9, .i lo), (10, .i hi), (8, .i es.length), (0, .p (.sl (es.map edP))), (2, .fn (.func 65) [] []), (4, .ptr 0 1 0 0)], [.box (.p (pP (a, b)))]⟩ ∧ lo ≤ hi ∧ hi ≤ es.length ∧ hi - lo ≤ es.length - k ∧
    (∀ j (h : j < es.length), j < lo → cmpP es[j].a es[j].b a b < 0) ∧ (∀ j (h : j < es.length), hi ≤ j → 0 ≤ cmpP es[j].a es[j].b a b)) (Wk_keep [9, 10, 8, 0, 2, 4]) ⟨0, es.length, rfl, by omega, by omega, by omega, fun j h h2 => by omega, fun j h h2 => by omega⟩ ?_
  rintro k s hk ⟨lo, hi, rfl, h1, h2, h3, h4, h5⟩
  by_cases hlt : lo < hi
  · have c1 := wrap_mid (n := (lo : Int) + hi) (by omega) (by omega)
    obtain ⟨md, hmd⟩ : ∃ md, md = (lo + hi) / 2 := ⟨_, rfl⟩
    have c2 : IntKind.i64.wrap (((lo : Int) + hi).fdiv (2 ^ min 1 IntKind.u64.bits)) = (md : Int) := by
      have e1 : ((lo : Int) + hi).fdiv (2 ^ min 1 IntKind.u64.bits) = (md : Int) := by
        have e2 : (2 : Int) ^ min 1 IntKind.u64.bits = 2 := rfl
        rw [e2, Int.fdiv_eq_ediv_of_nonneg _ (by omega)]; omega
      rw [e1]; exact wrap_id (by omega) (by omega)
    have hml : md < es.length := by omega
    simp -implicitDefEqProofs (disch := omega) [List.getElem?_cons_zero, List.getElem?_cons_succ, wrap_id, hlt, c1, c2, hml, call_bc]
    refine HC_of_PC rfl (bcmp_ok es[md] a b) ?_
    by_cases c : cmpP es[md].a es[md].b a b < 0
    · simp -implicitDefEqProofs (disch := omega) [List.getElem?_cons_zero, List.getElem?_cons_succ, wrap_id, c]
      refine round_keep [9, 10, 8, 0, 2, 4] (by omega) ?_
      refine ⟨md + 1, hi, rfl, by omega, h2, by omega, fun j h hj => ?_, h5⟩
      have := hmono j md h hml (by omega)
      omega
    · simp -implicitDefEqProofs (disch := omega) [List.getElem?_cons_zero, List.getElem?_cons_succ, wrap_id, c]
      refine round_keep [9, 10, 8, 0, 2, 4] (by omega) ?_
      refine ⟨lo, md, rfl, by omega, by omega, by omega, h4, fun j h hj => ?_⟩
      have := hmono md j hml h hj
      omega
  · obtain rfl : lo = hi := by omega
    by_cases hle : lo < es.length
    · simp -implicitDefEqProofs (disch := omega) [List.getElem?_cons_zero, List.getElem?_cons_succ, wrap_id, hlt, hle, call_bc]
      refine HC_of_PC rfl (bcmp_ok es[lo] a b) ?_
      simp -implicitDefEqProofs (disch := omega) [List.getElem?_cons_zero, List.getElem?_cons_succ, wrap_id, hlt, hle]
      exact fin0R trivial rfl ⟨⟨_, _, rfl, rfl, rfl, lo, _, rfl, rfl, by omega, h4, h5, by simp [hle]⟩, rfl⟩
    · simp -implicitDefEqProofs (disch := omega) [List.getElem?_cons_zero, List.getElem?_cons_succ, wrap_id, hlt, hle]
      exact fin0R trivial rfl ⟨⟨_, _, rfl, rfl, rfl, lo, _, rfl, rfl, by omega, h4, h5, by simp [hle]⟩, rfl⟩
theorem between_ok (n : Nat) (es : List Ed) (hgc : gcheck n es = 0) (hel : es.length ≤ 1000) (a b : Int) (ha : 0 ≤ a ∧ a < n) (hb : 0 ≤ b ∧ b < n) :
    PC Tryz.prog 37 [G n es, .i a, .i b] (.tup [.i (betw es (min a b) (max a b)), .i 0]) [] := by
  have hg := gcheck_ok hgc
  have hat : atErr n es [a, b] = 0 := by simp [atErr, hgc, atE, vtx, ha, hb]
  have hmono : ∀ i j (hi : i < es.length) (hj : j < es.length), i ≤ j → cmpP es[i].a es[i].b (min a b) (max a b) ≤ cmpP es[j].a es[j].b (min a b) (max a b) := fun i j hi hj hij => by
    by_cases c : i = j
    · subst c; exact Int.le_refl _
    · exact cmp_mono (List.pairwise_iff_getElem.1 hg.asc i j hi hj (by omega)) _ _
  refine PC_of_W cfn37 ?_
  simp -implicitDefEqProofs (disch := omega) [c37, List.getElem?_cons_zero, List.getElem?_cons_succ, wrap_id]
  refine HC_of_PC rfl (at_ok n es [a, b] (by omega) (by simp)) ?_
  simp -implicitDefEqProofs (disch := omega) [List.getElem?_cons_zero, List.getElem?_cons_succ, wrap_id, hat]
  refine HC_of_PC rfl (bjoined_ok a b) ?_
  simp -implicitDefEqProofs (disch := omega) [List.getElem?_cons_zero, List.getElem?_cons_succ, wrap_id]
  refine HC_roT (args' := [.p (.sl (es.map edP)), .p (pP (min a b, max a b)), .fn (.func 65) [] []]) [.p (.sl (es.map edP)), .p (pP (min a b, max a b))]
    cfn63 rfl (fun i hi hi' => ?_) (bsearch_W es (min a b) (max a b) hel hmono) ?_
  · match i, hi with
    | 0, _ => exact .p _ _ rfl (by simp)
    | 1, _ => exact .p _ _ rfl (by simp)
    | 2, _ => exact .fn _ _ _ rfl fun j hj hj' => by simp at hj
  rintro z1 z2 ⟨i, f, rfl, rfl, hbs⟩
  obtain ⟨k1, k2⟩ := bs_betw hg.asc hbs
  cases f
  · have k3 := k2 rfl
    simp -implicitDefEqProofs (disch := omega) [List.getElem?_cons_zero, List.getElem?_cons_succ, wrap_id]
    (refine fin0 trivial rfl ?_; simp -implicitDefEqProofs (disch := omega) [List.getElem?_cons_zero, List.getElem?_cons_succ, idx, wrap_id, k3])
  · obtain ⟨hi, k3⟩ := k1 rfl
    simp -implicitDefEqProofs (disch := omega) [List.getElem?_cons_zero, List.getElem?_cons_succ, wrap_id, hi]
    (refine fin0 trivial rfl ?_; simp -implicitDefEqProofs (disch := omega) [List.getElem?_cons_zero, List.getElem?_cons_succ, idx, wrap_id, k3])
end Go.Proofs.YtekniokkmgencaaGreat
end
section
set_option linter.unusedSimpArgs false
set_option linter.unusedVariables false
namespace Go.Proofs.YtekniokkmgencaaGreat
open Go.Abs Go.Sand
theorem mul64n_ok (n : Nat) (hn : n ≤ 12) : PC Tryz.prog 95 [.v (.int .u64 1), .v (.int .u64 n)] (.tup [.p (.v (.int .u64 0)), .p (.v (.int .u64 n))]) [] := by
  have h : n = 0 ∨ n = 1 ∨ n = 2 ∨ n = 3 ∨ n = 4 ∨ n = 5 ∨ n = 6 ∨ n = 7 ∨ n = 8 ∨ n = 9 ∨ n = 10 ∨ n = 11 ∨ n = 12 := by omega
  rcases h with rfl | rfl | rfl | rfl | rfl | rfl | rfl | rfl | rfl | rfl | rfl | rfl | rfl
  all_goals
    refine PC_of_W cfn95 ?_
    simp -implicitDefEqProofs (disch := omega) [c95, List.getElem?_cons_zero, List.getElem?_cons_succ, wrap_id]
    (refine fin0 trivial rfl ?_; simp -implicitDefEqProofs (disch := omega) [List.getElem?_cons_zero, List.getElem?_cons_succ, idx, wrap_id])
    exact ⟨by kernel_rfl, by kernel_rfl⟩
theorem muln_ok (n : Nat) (hn : n ≤ 12) : PC Tryz.prog 67 [.v (.int .u64 1), .v (.int .u64 n)] (.tup [.p (.v (.int .u64 0)), .p (.v (.int .u64 n))]) [] := by
  refine PC_of_W cfn67 ?_
  simp -implicitDefEqProofs (disch := omega) [c67, List.getElem?_cons_zero, List.getElem?_cons_succ, wrap_id]
  refine HC_of_PC rfl (mul64n_ok n hn) ?_
  simp -implicitDefEqProofs (disch := omega) [List.getElem?_cons_zero, List.getElem?_cons_succ, wrap_id]
  (refine fin0 trivial rfl ?_; simp -implicitDefEqProofs (disch := omega) [List.getElem?_cons_zero, List.getElem?_cons_succ, idx, wrap_id])
abbrev zoP : PV := .agg [.i 0, .i 0]
def roK (n w m : Nat) : List PV := List.replicate m (outP w) ++ List.replicate (n - m) (zoP)
theorem roK_len {n w m : Nat} (h : m ≤ n) : (roK n w m).length = n := by simp [roK]; omega
theorem roK_full (n w : Nat) : roK n w n = List.replicate n (outP w) := by simp [roK]
theorem roK_step {n w m : Nat} (h : m < n) : (roK n w m).take m ++ ((roK n w m).take m).take (n - m) ++ (roK n w m).drop (m + min m (n - m)) = roK n w (min (m + m) n) := by
  have h1 : (roK n w m).take m = List.replicate m (outP w) := by
    rw [roK, List.take_append_of_le_length (by simp)]; simp
  have h2 : (roK n w m).drop (m + min m (n - m)) = List.replicate (n - m - min m (n - m)) (zoP) := by
    rw [roK, List.drop_append]; simp
  rw [h1, h2, List.take_replicate, List.replicate_append_replicate, roK]
  congr 2 <;> omega
theorem wrap_un {n : Nat} (hn : n ≤ 12) : IntKind.u64.wrap (n : Int) = n := by
  have h : n = 0 ∨ n = 1 ∨ n = 2 ∨ n = 3 ∨ n = 4 ∨ n = 5 ∨ n = 6 ∨ n = 7 ∨ n = 8 ∨ n = 9 ∨ n = 10 ∨ n = 11 ∨ n = 12 := by omega
  rcases h with rfl | rfl | rfl | rfl | rfl | rfl | rfl | rfl | rfl | rfl | rfl | rfl | rfl <;> rfl
theorem repeatO_ok (n : Nat) (hn0 : 1 ≤ n) (hn : n ≤ 12) (w : Nat) : PC Tryz.prog 38 [.sl [outP w], .i n] (.os 0 0 n) [.row (List.replicate n (outP w)) 2 83 false] := by
  have hw := wrap_un hn
  have hw1 : IntKind.u64.wrap 1 = 1 := by kernel_rfl
  have hneg : ¬ (n : Int) < 0 := by omega
  have hbig : ¬ (9223372036854775807 : Int) < n := by omega
  have hn2 : n ≤ 1048576 := by omega
  have hnp : 0 < n := by omega
  refine PC_of_W cfn38 ?_
  simp -implicitDefEqProofs (disch := omega) [c38, List.getElem?_cons_zero, List.getElem?_cons_succ, wrap_id, hw, hneg, hw1]
  refine HC_of_PC rfl (muln_ok n hn) ?_
  simp -implicitDefEqProofs (disch := omega) [List.getElem?_cons_zero, List.getElem?_cons_succ, wrap_id, hbig, hn2, hnp]
  refine loopW 12 (fun k s => s = ⟨[(8, .i (min (2 ^ k) n : Nat)), (7, .os 0 0 n)], [.row (roK n w (min (2 ^ k) n)) 2 83 false]⟩)
    (wk_norm [0] [8, 7] rfl rfl) ?_ ?_
  · obtain ⟨m, rfl⟩ : ∃ m, n = m + 1 := ⟨n - 1, by omega⟩
    show _ = _
    rw [show min (2 ^ 0) (m + 1) = 1 by omega, roK, List.take_succ_cons, List.take_nil]
    rfl
  rintro k s hk rfl
  obtain ⟨m, hm⟩ : ∃ m, m = min (2 ^ k) n := ⟨_, rfl⟩
  have hm2 : min (m + m) n = min (2 ^ (k + 1)) n := by rw [Nat.pow_succ]; omega
  have hpos : 0 < 2 ^ k := Nat.two_pow_pos k
  have hm0 : 0 < m := by omega
  have hmn : m ≤ n := by omega
  rw [← hm]
  have hl := roK_len (w := w) hmn
  by_cases hlt : m < n
  rotate_left
  · obtain rfl : m = n := by omega
    rw [roK_full] at *
    simp -implicitDefEqProofs (disch := omega) [List.getElem?_cons_zero, List.getElem?_cons_succ, wrap_id]
    exact fin1 [0] trivial rfl (by rfl) ⟨rfl, rfl⟩
  have hk12 : k < 12 := by
    refine Classical.byContradiction fun h => ?_
    have : k = 12 := by omega
    subst this
    omega
  have hst := roK_step (w := w) hlt
  obtain ⟨L, hL⟩ : ∃ L, L = roK n w m := ⟨_, rfl⟩
  have hone : ∀ q ∈ L, q = outP w ∨ q = zoP := fun q hq => by
    rw [hL, roK] at hq
    rcases List.mem_append.1 hq with h | h
    · exact .inl (List.mem_replicate.1 h).2
    · exact .inr (List.mem_replicate.1 h).2
  rw [← hL] at hst hl ⊢
  have hnm : 0 < n - m := by omega
  have hel : elOk 2 L m = true := by
    unfold elOk
    split
    · rename_i e he
      rcases hone e (List.mem_of_getElem? he) with h | h <;> rw [h] <;> rfl
    · rfl
  have hrow : List.take m L ++ (List.take (n - m) (List.take m L) ++ List.drop (m + min m (n - m)) L) = roK n w (min (m + m) n) := by
    rw [← hst, List.append_assoc]
  have hadd : ((m : Int) + ((min m (n - m) : Nat) : Int)) = ((min (2 ^ (k + 1)) n : Nat) : Int) := by omega
  have hall : ((L.take m).all fun q => decide (q.flat.length = 2) && q.flat.all (·.one)) = true := List.all_eq_true.2 fun q hq => by
    rcases hone q (List.mem_of_mem_take hq) with h | h <;> rw [h] <;> rfl
  simp -implicitDefEqProofs (disch := omega) [List.getElem?_cons_zero, List.getElem?_cons_succ, wrap_id, hlt, hl, hm0, hmn, hnm, hrow, hadd, hall, hel]
  rw [if_pos]
  rotate_left
  · intro x hx
    rcases hone x (List.mem_of_mem_take hx) with h | h <;> rw [h] <;> simp
  simp -implicitDefEqProofs (disch := omega) [List.getElem?_cons_zero, List.getElem?_cons_succ, wrap_id, hadd]
  exact round_end [0] [8, 7] (by omega) rfl (by show _ = _; rw [← hm2]; rfl)
theorem repeatO0_ok (w : Nat) : PC Tryz.prog 38 [.sl [outP w], .i 0] (.os 0 0 0) [.row [] 2 83 false] := by
  have hw : IntKind.u64.wrap 0 = 0 := by kernel_rfl
  have hw1 : IntKind.u64.wrap 1 = 1 := by kernel_rfl
  refine PC_of_W cfn38 ?_
  simp -implicitDefEqProofs (disch := omega) [c38, List.getElem?_cons_zero, List.getElem?_cons_succ, wrap_id, hw, hw1]
  refine HC_of_PC rfl (muln_ok 0 (by omega)) ?_
  simp -implicitDefEqProofs (disch := omega) [List.getElem?_cons_zero, List.getElem?_cons_succ, wrap_id]
  refine loopW 0 (fun k s => s = ⟨[(8, .i 0), (7, .os 0 0 0)], [.row [] 2 83 false]⟩) (wk_norm [0] [8, 7] rfl rfl) rfl ?_
  rintro k s hk rfl
  simp -implicitDefEqProofs (disch := omega) [List.getElem?_cons_zero, List.getElem?_cons_succ, wrap_id]
  exact fin1 [0] trivial rfl (by rfl) ⟨rfl, rfl⟩
end Go.Proofs.YtekniokkmgencaaGreat
end
