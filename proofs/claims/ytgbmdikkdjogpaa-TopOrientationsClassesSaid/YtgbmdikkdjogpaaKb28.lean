/-
  Texts joined: Yac Yad Yt Yag Moa Go.
-/
import Derived.Test.YtgbmdikkdjogpaaKb27
import Derived.Deep.Strs
import Derived.ChangeArms
import Derived.WalkKit
import Derived.ProofKit
import Derived.OpenShut
import Derived.ChangeOld
import Derived.Below
import Derived.WideShapes
import Derived.Test.YtgbmdikkdjogpaaRows
section
set_option linter.unusedSimpArgs false
set_option linter.unusedVariables false
namespace Go.Proofs.Ytgbmdikkdjogpaa
open Go.Abs Go.Sand
/-- The end of a function that leaves objects, its result told by a property. -/
theorem finQ {m0 : Nat} {rs : List ARes} {R : AV → List AO → Prop} {e : AExit} {s : St} {x r : AV} {H' : List AO} (σ : List Nat) (he : match e with | .exit _ => False | _ => True) (hx : resOf s rs = some x) (hσ : okσ σ m0 s.H = true) (e1 : x.ren s.H (idx σ 0) = r) (e2 : renH σ s.H = H') (hR : R r H') : Abs.Fin m0 rs R e s :=
  ⟨he, .inl ⟨s, x, σ, Wk.refl _ _, hx, hσ, by rw [e1, e2]; exact hR⟩⟩
/-- A small connected graph. -/
structure Sm (n : Nat) (es : List Ed) : Prop where
  c : connE n es = 0
  n5 : n ≤ 5
  m7 : (endsL es).length ≤ 7
  el : es.length ≤ 900
theorem Sm.g {n : Nat} {es : List Ed} (h : Sm n es) : GoodG n es := gcheck_ok (conn_good h.c).1
theorem Sm.p {n : Nat} {es : List Ed} (h : Sm n es) : partsN es n = 1 := by have := (conn_good h.c).2; rwa [Int.toNat_natCast] at this
theorem Sm.n1 {n : Nat} {es : List Ed} (h : Sm n es) : 1 ≤ n := by have := h.g.n1; omega
theorem Sm.mg {n : Nat} {es : List Ed} (h : Sm n es) : MG n (joinE es) := mg_of h.g h.p
theorem joinsF_ends {n : Int} (p : Int → Bool) (v : Int) : ∀ {es : List Ed}, (∀ x ∈ es, Right n x) → joinsF v p es ≤ (endsL es).length
  | [], _ => by simp [joinsF, sumI, endsL]
  | x :: es, h => by
    have ih := joinsF_ends p v (es := es) fun y hy => h y (by simp [hy])
    have r := (h x (by simp)).m1
    have e : joinsF v p (x :: es) = (if incB v x && p (x.a + x.b - v) then x.m else 0) + joinsF v p es := rfl
    have e2 : (endsL (x :: es)).length = x.m.toNat + (endsL es).length := by simp [endsL]
    rw [e, e2]
    split <;> omega
theorem Sm.val {n : Nat} {es : List Ed} (h : Sm n es) (v : Nat) (hv : v < n) : sumN (fun u => joinE es v u) n ≤ 7 := by
  have h1 := joinsF_ends (fun _ => true) v h.g.right
  rw [joins_eq h.g hv] at h1
  have h2 := h.m7
  have h3 : sumN (fun u => if (fun (_ : Int) => true) (u : Int) = true then joinE es v u else 0) n = sumN (fun u => joinE es v u) n := sumN_congr fun u _ => if_pos rfl
  rw [h3] at h1
  omega
/-- What reducing leaves. -/
structure RedOk (n : Nat) (es : List Ed) (q : Nat) (d d' s' : List Int) : Prop where
  dl : d'.length = n
  sl : s'.length = n
  eq : Equi n (joinE es) (fun v => d.getD v 0) (fun v => d'.getD v 0)
  red : RedF n (joinE es) q (fun v => d'.getD v 0)
  db : AbsLe 1048576 d'
  sb : AbsLe 1048576 s'
def RedR (n : Nat) (es : List Ed) (q : Nat) (d : List Int) (r : AV) (HR : List AO) : Prop := ∃ d' s', RedOk n es q d d' s' ∧ r = .tup [.os 0 0 n, .os 1 0 n, .i 0] ∧ HR = [rowZ d', rowZ s']
theorem dcheck_zero {d : List Int} {n : Nat} (h1 : 1 ≤ n ∧ n ≤ 12) (hl : d.length = n) (h : AbsLe 1048576 d) : dcheck d n = 0 := by
  unfold dcheck
  rw [if_neg (by omega), if_neg (by omega), if_pos]
  rw [List.all_eq_true]
  intro x hx
  obtain ⟨i, hi, rfl⟩ := List.mem_iff_getElem.1 hx
  have := h.get hi
  simp only [inB, decide_eq_true_eq, Bool.and_eq_true]
  omega
theorem sum_bd {B : Int} (hB : 0 ≤ B) {d : Nat → Int} : ∀ {k : Nat}, (∀ v, v < k → d v ≤ B) → sumN d k ≤ k * B
  | 0, _ => by simp [sumN]
  | k + 1, h => by
    have h1 := sum_bd hB (d := d) (k := k) fun v hv => h v (by omega)
    have h2 := h k (by omega)
    simp only [sumN]
    rw [show ((k + 1 : Nat) : Int) = (k : Int) + 1 by omega, Int.add_mul]
    omega
theorem red_small {n : Nat} {es : List Ed} (hg : GoodG n es) {V : Int} (hval : ∀ v, v < n → sumN (fun u => joinE es v u) n ≤ V) {q : Nat} {D : Nat → Int} (hD : RedF n (joinE es) q D) {v : Nat} (hv : v < n) (hvq : v ≠ q) : 0 ≤ D v ∧ D v < V := by
  refine ⟨hD.1 v hv hvq, ?_⟩
  obtain ⟨w, hw, hAw, hlt⟩ := hD.2 (fun u => decide (u = v)) (by simpa using fun e => hvq e.symm) ⟨v, hv, by simp⟩
  simp only [decide_eq_true_eq] at hAw
  subst hAw
  have h2 := hval w hw
  have h3 : outF n (joinE es) (fun u => decide (u = w)) w ≤ sumN (fun u => joinE es w u) n := sumN_le fun u _ => by
    have := (joinE_bd hg w u).1
    split <;> omega
  omega
/-- The script that leads to the reduced divisor is small. -/
theorem way_small {n : Nat} {es : List Ed} (hs : Sm n es) {q : Nat} (hq : q < n) {D E t : Nat → Int} {B : Int} (hB : 0 ≤ B) (hD : ∀ v, v < n → -B ≤ D v ∧ D v ≤ B) (hE : RedF n (joinE es) q E) (ht : ∀ v, v < n → E v = D v + lapF n (joinE es) t v) : ∀ v, v < n → t v - t q ≤ 4 * (5 * B) ∧ t q - t v ≤ 4 * (5 * (B + 7)) := by
  have hM := hs.mg
  have hn := hs.n5
  have hA : ∀ (A : Nat → Bool) (f : Nat → Int) (C : Int), 0 ≤ C → (∀ v, v < n → A v = true → f v ≤ C) → sumN (fun v => if A v = true then f v else 0) n ≤ 5 * C := fun A f C hC h => by
    have h1 := sum_bd hC (d := fun v => if A v = true then f v else 0) (k := n) fun v hv => by
      split
      · rename_i hh; exact h v hv hh
      · exact hC
    have h2 : (n : Int) * C ≤ 5 * C := Int.mul_le_mul_of_nonneg_right (by omega) hC
    omega
  have h1 := flow_bound hM hq (s := t) (D := 5 * B) (by omega) fun A hAq => by
    rw [← sumN_neg']
    have e : sumN (fun v => -(if A v = true then lapF n (joinE es) t v else 0)) n = sumN (fun v => if A v = true then D v - E v else 0) n := sumN_congr fun v hv => by
      have := ht v hv
      split <;> omega
    rw [e]
    refine hA A _ B hB fun v hv hAv => ?_
    have h2 := hD v hv
    have h3 := hE.1 v hv fun e => by rw [e, hAq] at hAv; cases hAv
    omega
  have h2 := flow_bound hM hq (s := fun u => - t u) (D := 5 * (B + 7)) (by omega) fun A hAq => by
    rw [← sumN_neg']
    have e : sumN (fun v => -(if A v = true then lapF n (joinE es) (fun u => - t u) v else 0)) n = sumN (fun v => if A v = true then E v - D v else 0) n := sumN_congr fun v hv => by
      have := ht v hv
      rw [lapF_neg]
      split <;> omega
    rw [e]
    refine hA A _ (B + 7) (by omega) fun v hv hAv => ?_
    have h2 := hD v hv
    have h3 := red_small hs.g hs.val hE hv fun e => by rw [e, hAq] at hAv; cases hAv
    omega
  intro v hv
  have h3 := h1 v hv
  have h4 := h2 v hv
  have h5 : ((n : Int) - 1) * (5 * B) ≤ 4 * (5 * B) := Int.mul_le_mul_of_nonneg_right (by omega) (by omega)
  have h6 : ((n : Int) - 1) * (5 * (B + 7)) ≤ 4 * (5 * (B + 7)) := Int.mul_le_mul_of_nonneg_right (by omega) (by omega)
  omega
theorem zeros_abs (n : Nat) : AbsLe 0 (List.replicate n (0 : Int)) := fun v => by
  rw [List.getD_eq_getElem?_getD, List.getElem?_replicate]
  split <;> simp
set_option maxHeartbeats 1000000 in
theorem reduce_ok {n : Nat} {es : List Ed} (hs : Sm n es) {q : Nat} (hq : q < n) {d : List Int} (hdl : d.length = n) {B : Int} (hB : 0 ≤ B ∧ B ≤ 110) (hdb : AbsLe B d) : PCR Try.prog 33 [G n es, .i q, .is d] (RedR n es q d) := by
  have hn := hs.n5
  have hn1 := hs.n1
  have hg := hs.g
  have hM := hs.mg
  have hd0 := dcheck_zero (by omega) hdl (hdb.mono (by omega))
  have hz := zeros_abs n
  have hzl : (List.replicate n (0 : Int)).length = n := by simp
  refine PCR_of_W cfn33 ?_
  simp -implicitDefEqProofs (disch := omega) [c33, List.getElem?_cons_zero, List.getElem?_cons_succ, wrap_id]
  refine HC_of_PC rfl (given20_ok n es hs.el hs.c q hq d (by omega)) ?_
  simp -implicitDefEqProofs (disch := omega) [List.getElem?_cons_zero, List.getElem?_cons_succ, wrap_id, hd0]
  refine HC_of_PC rfl (begin_ok n es q d hdl (by omega) hn1) ?_
  simp -implicitDefEqProofs (disch := omega) [List.getElem?_cons_zero, List.getElem?_cons_succ, wrap_id]
  have e0 : List.replicate n (PV.v (.int .i64 0)) = (List.replicate n (0 : Int)).map PV.i := by rw [List.map_replicate]
  rw [e0]
  refine lend_hc hg hs.p hn (by have := hs.el; omega) hs.val hq hdl hzl (by omega) hdb hz fun r1 d1 s1 hd1 hs1 ⟨f1, hf1, hg1⟩ hp1 hb1 hb2 => ?_
  have hG : sumN (fun v => d1.getD v 0) n ≤ 5 * B := by
    have h1 : sumN (fun v => d1.getD v 0) n = sumN (fun v => d.getD v 0) n := Equi.deg hM ⟨f1, hf1⟩
    have h2 := sum_bd hB.1 (d := fun v => d.getD v 0) (k := n) fun v _ => (hdb v).2
    have h3 : (n : Int) * B ≤ 5 * B := Int.mul_le_mul_of_nonneg_right (by omega) hB.1
    omega
  simp -implicitDefEqProofs (disch := omega) [List.getElem?_cons_zero, List.getElem?_cons_succ, wrap_id]
  refine settle_hc hg hs.p hn (by have := hs.el; omega) hq hd1 hs1 hp1 hG (L := 4096 * B) (by have := hb1 q; omega) (by omega) hb2 (by omega) (by omega) (by omega) fun r2 d2 s2 f2 hS hred => ?_
  obtain ⟨hfb, hdb2, hsb2⟩ := hS.bounds hM hq hp1 hG (L := 4096 * B) (by have := hb1 q; omega) (by omega) hb2 (by omega)
  have hnB : ((n : Int) - 1) * (5 * B + 4096 * B) ≤ 4 * (5 * B + 4096 * B) := Int.mul_le_mul_of_nonneg_right (by omega) (by omega)
  have ht : ∀ v, v < n → d2.getD v 0 = d.getD v 0 + lapF n (joinE es) (fun u => f1 u + f2 u) v := fun v hv => by
    rw [lapF_add, hS.df v hv, hf1 v hv]; omega
  have hsv : ∀ v, v < n → s2.getD v 0 = f1 v + f2 v := fun v hv => by
    rw [hS.sf v hv, hg1 v hv]
    have : (List.replicate n (0 : Int)).getD v 0 = 0 := by have := hz v; omega
    omega
  have hws := way_small hs hq hB.1 (D := fun v => d.getD v 0) (t := fun u => f1 u + f2 u) (fun v _ => hdb v) hred ht
  obtain ⟨w, hw⟩ : ∃ w, w = s2.getD q 0 := ⟨_, rfl⟩
  have hsm : AbsLe 1048576 (s2.map (· - w)) := fun v => by
    by_cases hv : v < n
    · have h1 : (s2.map (· - w)).getD v 0 = s2.getD v 0 - w := by
        rw [List.getD_eq_getElem?_getD, List.getElem?_map, List.getD_eq_getElem?_getD, List.getElem?_eq_getElem (by rw [hS.sl]; exact hv)]
        rfl
      have h2 := hws v hv
      have h3 := hsv v hv
      have h4 := hsv q hq
      rw [h1]
      omega
    · rw [List.getD_eq_getElem?_getD, List.getElem?_eq_none (by rw [List.length_map, hS.sl]; omega)]
      simp
  simp -implicitDefEqProofs (disch := omega) [List.getElem?_cons_zero, List.getElem?_cons_succ, wrap_id]
  refine result_hc (by omega) hq hS.dl hS.sl (hsb2.mono (by omega)) hw (dcheck_zero (by omega) hS.dl (hdb2.mono (by omega))) (dcheck_zero (by omega) (by rw [List.length_map, hS.sl]) hsm) ?_
  simp -implicitDefEqProofs (disch := omega) [List.getElem?_cons_zero, List.getElem?_cons_succ, wrap_id]
  exact finQ [2, 3] trivial rfl rfl rfl rfl ⟨d2, s2.map (· - w), ⟨hS.dl, by rw [List.length_map, hS.sl], ⟨_, ht⟩, hred, hdb2.mono (by omega), hsm⟩, rfl, rfl⟩
end Go.Proofs.Ytgbmdikkdjogpaa
end
section
set_option linter.unusedSimpArgs false
set_option linter.unusedVariables false
namespace Go.Proofs.Ytgbmdikkdjogpaa
open Go.Abs Go.Sand
/-- The least of the first k+1. -/
def minK (xs : List Int) : Nat → Int
  | 0 => xs.getD 0 0
  | k + 1 => min (minK xs k) (xs.getD (k + 1) 0)
theorem minK_ge (xs : List Int) {B : Int} : ∀ k, (∀ i, i ≤ k → B ≤ xs.getD i 0) → B ≤ minK xs k
  | 0, h => h 0 (Nat.le_refl _)
  | k + 1, h => by
    rw [minK]
    have h1 := minK_ge xs k fun i hi => h i (by omega)
    have h2 := h (k + 1) (Nat.le_refl _)
    omega
theorem minK_le (xs : List Int) : ∀ k i, i ≤ k → minK xs k ≤ xs.getD i 0
  | 0, i, h => by have e : i = 0 := by omega
                  subst e; exact Int.le_refl _
  | k + 1, i, h => by
    rw [minK]
    rcases Nat.lt_or_ge i (k + 1) with h1 | h1
    · have := minK_le xs k i (by omega); omega
    · have e : i = k + 1 := by omega
      subst e; omega
theorem smin_ok (xs : List Int) (h0 : 0 < xs.length) (hx : xs.length ≤ 1000) : PC Try.prog 55 [.is xs] (.i (minK xs (xs.length - 1))) [] := by
  have h1 : ¬ xs.length < 1 := by omega
  have h1' : ¬ (xs.length : Int) < 1 := by omega
  have e0 : minK xs 0 = xs[0] := getD_get h0
  refine PC_of_W cfn55 ?_
  simp -implicitDefEqProofs (disch := omega) [c55, List.getElem?_cons_zero, List.getElem?_cons_succ, wrap_id, h0, h1, h1']
  refine loopW (xs.length - 1) (fun k st => st = ⟨[(4, .i (k + 1 : Nat)), (3, .i (minK xs k)), (0, .p (.is xs))], []⟩) (wk_norm [] [4, 3, 0] rfl rfl) (by show _ = _; rw [e0]; rfl) ?_
  rintro k st hk rfl
  by_cases hkt : k + 1 < xs.length
  · have hkt' : (k : Int) + 1 < xs.length := by omega
    have e1 : minK xs (k + 1) = min (minK xs k) xs[k + 1] := by rw [minK, getD_get hkt]
    simp -implicitDefEqProofs (disch := omega) [List.getElem?_cons_zero, List.getElem?_cons_succ, wrap_id, hkt, hkt']
    exact round_end [] [4, 3, 0] (by omega) rfl (by show _ = _; rw [e1]; rfl)
  · have hkt' : ¬ (k : Int) + 1 < xs.length := by omega
    have hke : k = xs.length - 1 := by omega
    simp -implicitDefEqProofs (disch := omega) [List.getElem?_cons_zero, List.getElem?_cons_succ, wrap_id, hkt, hkt']
    (refine fin0 trivial rfl ?_; simp -implicitDefEqProofs (disch := omega) [List.getElem?_cons_zero, List.getElem?_cons_succ, idx, wrap_id, hke])
theorem given2_ok (n : Nat) (es : List Ed) (hel : es.length ≤ 900) (hc : connE n es = 0) (a b : List Int) (ha : dcheck a n = 0) (hb : dcheck b n = 0) (hal : a.length ≤ 1000) (hbl : b.length ≤ 1000) : PC Try.prog 32 [G n es, .sl [.is a, .is b]] (.i 0) [] := by
  obtain ⟨hg, hp⟩ := conn_good hc
  rw [Int.toNat_natCast] at hp
  have hr : (rootsL es n).length = 1 := hp
  refine PC_of_W cfn32 ?_
  simp -implicitDefEqProofs (disch := omega) [c32, List.getElem?_cons_zero, List.getElem?_cons_succ, wrap_id]
  refine HC_of_PC rfl (connected_ok n es hel hg) ?_
  simp -implicitDefEqProofs (disch := omega) [List.getElem?_cons_zero, List.getElem?_cons_succ, wrap_id, hr]
  refine loopW 2 (fun k st => st = ⟨[(22, .i k), (21, .i 2), (20, .p (.sl [.is a, .is b])), (2, .ptr 0 1 0 0)], [.box (.p (G n es))]⟩) (wk_norm [0] [22, 21, 20, 2] rfl rfl) rfl ?_
  rintro k st hk rfl
  match k, hk with
  | 0, _ =>
    simp -implicitDefEqProofs (disch := omega) [List.getElem?_cons_zero, List.getElem?_cons_succ, wrap_id]
    refine HC_of_PC rfl (chk_ok a n (by omega)) ?_
    simp -implicitDefEqProofs (disch := omega) [List.getElem?_cons_zero, List.getElem?_cons_succ, wrap_id, ha]
    exact round_end [0] [22, 21, 20, 2] (by omega) rfl rfl
  | 1, _ =>
    simp -implicitDefEqProofs (disch := omega) [List.getElem?_cons_zero, List.getElem?_cons_succ, wrap_id]
    refine HC_of_PC rfl (chk_ok b n (by omega)) ?_
    simp -implicitDefEqProofs (disch := omega) [List.getElem?_cons_zero, List.getElem?_cons_succ, wrap_id, hb]
    exact round_end [0] [22, 21, 20, 2] (by omega) rfl rfl
  | 2, _ =>
    simp -implicitDefEqProofs (disch := omega) [List.getElem?_cons_zero, List.getElem?_cons_succ, wrap_id]
    (refine fin0 trivial rfl ?_; simp -implicitDefEqProofs (disch := omega) [List.getElem?_cons_zero, List.getElem?_cons_succ, idx, wrap_id])
theorem eqc_hc (x y : Int) (hxy : -9000000000 ≤ x ∧ x ≤ 9000000000 ∧ -9000000000 ≤ y ∧ y ≤ 9000000000) (H : List AO) (K : AV → List AO → Prop) (hK : K (.i (x - y)) H) : HC Try.prog false 36 [.i x, .i y] H K := by
  refine HC_of_W (af := _) ((by exact cfn36 : cfn _ _ _ = some _)) ?_
  simp -implicitDefEqProofs (disch := omega) [c36, List.getElem?_cons_zero, List.getElem?_cons_succ, wrap_id]
  exact finH trivial rfl hK
theorem lec_hc {p : Nat} {m : Int} (x y : Int) (hxy : -9000000000 ≤ x ∧ x ≤ 9000000000 ∧ -9000000000 ≤ m ∧ m ≤ 9000000000) (H : List AO) (hp : H[p]? = some (.box (.i m))) (K : AV → List AO → Prop) (hK : K (.i (x - m)) H) : HC Try.prog false 56 [.i x, .i y, .ptr p 1 0 0] H K := by
  refine HC_of_W (af := _) ((by exact cfn56 : cfn _ _ _ = some _)) ?_
  simp -implicitDefEqProofs (disch := omega) [c56, List.getElem?_cons_zero, List.getElem?_cons_succ, wrap_id, hp]
  exact finH trivial rfl hK
/-- What a function makes of pairs, as far as it is written. -/
def zpK (F : Int → Int → Int) (a b : List Int) (k : Nat) : List Int := (List.range a.length).map fun i => if i < k then F (a.getD i 0) (b.getD i 0) else 0
theorem zpK_len (F : Int → Int → Int) (a b : List Int) (k : Nat) : (zpK F a b k).length = a.length := by simp [zpK]
theorem zpK_zero (F : Int → Int → Int) (a b : List Int) : zpK F a b 0 = List.replicate a.length 0 := by
  apply List.ext_getElem (by simp [zpK])
  intro i h1 h2
  simp [zpK]
theorem zpK_set (F : Int → Int → Int) (a b : List Int) {k : Nat} (h : k < a.length) : (zpK F a b k).set k (F (a.getD k 0) (b.getD k 0)) = zpK F a b (k + 1) := by
  apply List.ext_getElem (by simp [zpK])
  intro i h1 h2
  rw [List.getElem_set]
  simp only [zpK, List.getElem_map, List.getElem_range]
  by_cases e : k = i
  · subst e; rw [if_pos rfl, if_pos (by omega)]
  · rw [if_neg e]
    by_cases h3 : i < k
    · rw [if_pos h3, if_pos (by omega)]
    · rw [if_neg h3, if_neg (by omega)]
theorem zpK_get (F : Int → Int → Int) (a b : List Int) {i : Nat} (h : i < a.length) : (zpK F a b a.length).getD i 0 = F (a.getD i 0) (b.getD i 0) := by
  rw [List.getD_eq_getElem?_getD, List.getElem?_eq_getElem (by rw [zpK_len]; exact h)]
  simp [zpK, h]
theorem each_hc {n : Nat} (hn : n ≤ 12) {a b : List Int} (ha : a.length = n) (hb : b.length = n) {H : List AO} {oa ob : Nat} (hoa : H[oa]? = some (rowZ a)) (hob : H[ob]? = some (rowZ b)) {f : FuncId} {cap : List AV} {F : Int → Int → Int} (hc : callable Try.prog f = true)
    (hf : ∀ i, i < n → ∀ Z (K : AV → List AO → Prop), K (.i (F (a.getD i 0) (b.getD i 0))) (H ++ Z) → HC Try.prog false f (.i (a.getD i 0) :: .i (b.getD i 0) :: cap) (H ++ Z) K) {K : AV → List AO → Prop} (hK : K (.os H.length 0 n) (H ++ [rowZ (zpK F a b n)])) :
    HC Try.prog false 35 [.os oa 0 n, .os ob 0 n, .fn (.func f) [] cap] H K := by
  have hn2 : n ≤ 1048576 := by omega
  have e0 : rowZ (zpK F a b 0) = .row (List.replicate n (PV.v (.int .i64 0))) 1 3 false := by rw [zpK_zero, rowZ, ha, List.map_replicate]
  have f1 : ∀ y, (H ++ [y])[H.length]? = some y := fun y => by simp
  have f3 : ∀ y z, (H ++ [y]).set H.length z = H ++ [z] := fun y z => by simp
  have ga : ∀ Z, (H ++ Z)[oa]? = _ := fun Z => app_some hoa Z
  have gb : ∀ Z, (H ++ Z)[ob]? = _ := fun Z => app_some hob Z
  refine HC_of_W (af := _) ((by exact cfn35 : cfn _ _ _ = some _)) ?_
  simp -implicitDefEqProofs (disch := omega) [c35, List.getElem?_cons_zero, List.getElem?_cons_succ, wrap_id, hoa, ha, hn2, f1, -getElem?_pos]
  refine loopW n (fun k st => st = ⟨[(14, .i k), (13, .i n), (12, .os H.length 0 n), (7, .os H.length 0 n), (0, .os oa 0 n), (1, .os ob 0 n), (2, .fn (.func f) [] cap)], H ++ [rowZ (zpK F a b k)]⟩) (Wk_keep [14, 13, 12, 7, 0, 1, 2]) (by show _ = _; rw [e0]; rfl) ?_
  rintro k st hk rfl
  by_cases hkn : k < n
  rotate_left
  · obtain rfl : k = n := by omega
    simp -implicitDefEqProofs (disch := omega) [List.getElem?_cons_zero, List.getElem?_cons_succ, wrap_id, hkn]
    exact finH trivial rfl hK
  have hzl := zpK_len F a b k
  have hzs := zpK_set F a b (k := k) (by omega)
  obtain ⟨Z, hZ⟩ : ∃ Z, Z = zpK F a b k := ⟨_, rfl⟩
  rw [← hZ] at hzl hzs ⊢
  have hka : k < a.length := by omega
  have hkb : k < b.length := by omega
  have hfk := hf k hkn
  rw [getD_get hka, getD_get hkb] at hfk hzs
  have ea : a[k]? = some a[k] := List.getElem?_eq_getElem hka
  have eb : b[k]? = some b[k] := List.getElem?_eq_getElem hkb
  have hzn : Z.length = n := by omega
  have ez : Z[k]? = some (Z[k]'(by omega)) := List.getElem?_eq_getElem (by omega)
  have hrow : AO.row ((Z.map PV.i).set k (PV.i (F a[k] b[k]))) 1 3 false = rowZ (zpK F a b (k + 1)) := by rw [← hzs, rowZ, List.map_set]
  simp -implicitDefEqProofs (disch := omega) [List.getElem?_cons_zero, List.getElem?_cons_succ, wrap_id, hkn, ga, gb, ha, hb, ea, eb, -getElem?_pos]
  refine ⟨hc, hfk _ _ ?_⟩
  simp -implicitDefEqProofs (disch := omega) [List.getElem?_cons_zero, List.getElem?_cons_succ, wrap_id, hkn, f1, f3, hzn, hrow, ez, -getElem?_pos]
  exact round_keep [14, 13, 12, 7, 0, 1, 2] hkn rfl
/-- What Equivalent leaves. -/
def EqR (n : Nat) (es : List Ed) (a b : List Int) (r : AV) (HR : List AO) : Prop :=
  (Equi n (joinE es) (fun v => a.getD v 0) (fun v => b.getD v 0) ∧ ∃ l, r = .tup [.b true, .os 0 0 n, .i 0] ∧ HR = [rowZ l]) ∨ (¬ Equi n (joinE es) (fun v => a.getD v 0) (fun v => b.getD v 0) ∧ r = .tup [.b false, .p .nil, .i 0] ∧ HR = [])
set_option maxHeartbeats 1000000 in
theorem least_hc {n : Nat} (hn : 1 ≤ n ∧ n ≤ 12) {s : List Int} (hs : s.length = n) (hb : AbsLe 2097152 s) {H : List AO} {o : Nat} (ho : H[o]? = some (rowZ s)) {K : AV → List AO → Prop} (hK : ∀ l Z, K (.os (H.length + 1) 0 n) (H ++ [Z, rowZ l])) : HC Try.prog false 34 [.os o 0 n] H K := by
  have hm1 := minK_ge s (B := -2097152) (s.length - 1) fun i _ => (hb i).1
  have hm2 := minK_le s (s.length - 1) 0 (by omega)
  have hm3 := hb 0
  obtain ⟨m, hm⟩ : ∃ m, m = minK s (s.length - 1) := ⟨_, rfl⟩
  have f1 : ∀ y, (H ++ [y])[H.length]? = some y := fun y => by simp
  have f3 : ∀ y z, (H ++ [y]).set H.length z = H ++ [z] := fun y z => by simp
  have hn0 : ¬ (n : Int) = 0 := by omega
  have hn0' : ¬ n = 0 := by omega
  refine HC_of_W (af := _) ((by exact cfn34 : cfn _ _ _ = some _)) ?_
  simp -implicitDefEqProofs (disch := omega) [c34, List.getElem?_cons_zero, List.getElem?_cons_succ, wrap_id, ho, hs, hn0, hn0', -getElem?_pos]
  refine HC_of_PC (by simp [views, view, viewC, ownEls, ho, hs]) (smin_ok s (by omega) (by omega)) ?_
  rw [← hm]
  simp -implicitDefEqProofs (disch := omega) [List.getElem?_cons_zero, List.getElem?_cons_succ, wrap_id, f1, f3, -getElem?_pos]
  refine each_hc (n := n) (a := s) (b := s) (f := 56) (F := fun x _ => x - m) (by omega) hs hs (app_some ho _) (app_some ho _) (by kernel_rfl) (fun i hi Z K hK => lec_hc _ _ (by have := hb i; omega) _ (app_some (f1 _) Z) _ hK) ?_
  simp -implicitDefEqProofs (disch := omega) [List.getElem?_cons_zero, List.getElem?_cons_succ, wrap_id]
  refine finH trivial rfl ?_
  have := hK (zpK (fun x _ => x - m) s s n) (.box (.i m))
  simpa using this
set_option maxHeartbeats 2000000 in
theorem equiv_ok {n : Nat} {es : List Ed} (hs : Sm n es) {a b : List Int} (hal : a.length = n) (hbl : b.length = n) {B : Int} (hB : 0 ≤ B ∧ B ≤ 110) (ha : AbsLe B a) (hb : AbsLe B b) : PCR Try.prog 12 [G n es, .is a, .is b] (EqR n es a b) := by
  have hn := hs.n5
  have hn1 := hs.n1
  have hM := hs.mg
  have ca := dcheck_zero (by omega) hal (ha.mono (by omega))
  have cb := dcheck_zero (by omega) hbl (hb.mono (by omega))
  refine PCR_of_W cfn12 ?_
  simp -implicitDefEqProofs (disch := omega) [c12, List.getElem?_cons_zero, List.getElem?_cons_succ, wrap_id]
  refine HC_of_PC rfl (given2_ok n es hs.el hs.c a b ca cb (by omega) (by omega)) ?_
  simp -implicitDefEqProofs (disch := omega) [List.getElem?_cons_zero, List.getElem?_cons_succ, wrap_id]
  refine HC_of_PCR rfl (reduce_ok hs (q := 0) (by omega) hal hB ha) ?_
  rintro r HR ⟨x, s, hx, rfl, rfl⟩
  simp -implicitDefEqProofs (disch := omega) [List.getElem?_cons_zero, List.getElem?_cons_succ, wrap_id]
  refine HC_of_PCR rfl (reduce_ok hs (q := 0) (by omega) hbl hB hb) ?_
  rintro r HR ⟨y, t, hy, rfl, rfl⟩
  have hxl := hx.dl
  have hyl := hy.dl
  have hsl := hx.sl
  have htl := hy.sl
  have hsb := hx.sb
  have htb := hy.sb
  simp -implicitDefEqProofs (disch := omega) [List.getElem?_cons_zero, List.getElem?_cons_succ, wrap_id]
  refine HC_of_PC (by simp [views, view, viewC, ownEls, hxl, hyl]) (eq20_ok x y (by omega)) ?_
  by_cases hxy : x = y
  rotate_left
  · simp -implicitDefEqProofs (disch := omega) [List.getElem?_cons_zero, List.getElem?_cons_succ, wrap_id, hxy]
    refine finQ [] trivial rfl rfl rfl rfl (.inr ⟨fun he => hxy ?_, rfl, rfl⟩)
    have h1 := red_unique hM (q := 0) (by omega) hx.red hy.red ((hx.eq.symm.trans he).trans hy.eq)
    refine List.ext_getElem (by omega) fun i h1' h2' => ?_
    have := h1 i (by omega)
    rw [getD_get h1', getD_get h2'] at this
    exact this.symm
  · simp -implicitDefEqProofs (disch := omega) [List.getElem?_cons_zero, List.getElem?_cons_succ, wrap_id, hxy]
    have hzl := zpK_len (fun m k => m - k) s t n
    have hzb : AbsLe 2097152 (zpK (fun m k => m - k) s t n) := fun v => by
      by_cases hv : v < s.length
      · have := zpK_get (fun m k => m - k) s t hv
        rw [hsl] at this
        rw [this]
        have := hsb v
        have := htb v
        omega
      · rw [List.getD_eq_getElem?_getD, List.getElem?_eq_none (by omega)]
        simp
    refine each_hc (n := n) (a := s) (b := t) (f := 36) (F := fun m k => m - k) (by omega) hsl htl rfl rfl (by kernel_rfl) (fun i hi Z K hK => eqc_hc _ _ (by have := hsb i; have := htb i; omega) _ _ hK) ?_
    obtain ⟨z, hz⟩ : ∃ z, z = zpK (fun m k => m - k) s t n := ⟨_, rfl⟩
    rw [← hz] at hzl hzb ⊢
    simp -implicitDefEqProofs (disch := omega) [List.getElem?_cons_zero, List.getElem?_cons_succ, wrap_id]
    refine least_hc (n := n) (s := z) (by omega) (by omega) hzb rfl fun l Z => ?_
    simp -implicitDefEqProofs (disch := omega) [List.getElem?_cons_zero, List.getElem?_cons_succ, wrap_id]
    refine finQ [8] trivial rfl rfl rfl rfl (.inl ⟨?_, l, rfl, rfl⟩)
    subst hxy
    exact hx.eq.trans hy.eq.symm
end Go.Proofs.Ytgbmdikkdjogpaa
end
section
set_option linter.unusedSimpArgs false
set_option linter.unusedVariables false
namespace Go.Proofs.Ytgbmdikkdjogpaa
open Go.Abs Go.Sand
theorem played20_ok : PC Try.prog 7 [] (.b true) [] := by
  have hg := gcheck_ok (conn_good tri20_conn).1
  refine turned20_ok (win20_ok (red20_ok fun K hK => dist_hc (n := 3) (q := 0) (er := 0) hg.right (by omega) (by decide) (by omega) rfl rfl fun far hf => hK far hf.len hf.q0 fun v => ?_))
  by_cases h : v < 3
  · have := hf.rng v h
    omega
  · rw [List.getD_eq_getElem?_getD, List.getElem?_eq_none (by rw [hf.len]; omega)]
    decide
end Go.Proofs.Ytgbmdikkdjogpaa
end
section
set_option linter.unusedSimpArgs false
set_option linter.unusedVariables false
namespace Go.Proofs.Ytgbmdikkdjogpaa
open Go.Abs Go.Sand
theorem divL_abs {n : Nat} {es : List Ed} (hr : ∀ x ∈ es, Right (n : Int) x) {o : List Bool} (hol : o.length = (endsL es).length) (hm : (endsL es).length ≤ 7) : AbsLe 7 (divL n es o) := fun v => by
  by_cases hv : v < n
  · have hl : v < (inL n es o).length := by rw [inL_len]; exact hv
    have h1 := inL_mem_bd hr hol (List.getElem_mem hl)
    have h2 : (divL n es o).getD v 0 = (inL n es o)[v] - 1 := by
      unfold divL
      rw [List.getD_eq_getElem?_getD, List.getElem?_map, List.getElem?_eq_getElem hl]
      rfl
    omega
  · rw [List.getD_eq_getElem?_getD, List.getElem?_eq_none (by rw [divL_len]; omega)]
    simp
set_option maxHeartbeats 1000000 in
theorem classes_law (N : Int) (es : List Ed) (a b : List Bool) : PC Try.prog 4 [G N es, .bo a, .bo b] (.b true) [] := by
  refine PC_of_W cfn4 ?_
  simp -implicitDefEqProofs (disch := omega) [c4, List.getElem?_cons_zero, List.getElem?_cons_succ, wrap_id]
  refine HC_of_PC rfl (plain_ok N es) ?_
  cases hp : plainB N es
  · simp -implicitDefEqProofs (disch := omega) [List.getElem?_cons_zero, List.getElem?_cons_succ, wrap_id]
    refine HC_of_PC rfl (played20_ok) ?_
    simp -implicitDefEqProofs (disch := omega) [List.getElem?_cons_zero, List.getElem?_cons_succ, wrap_id]
    (refine fin0 trivial rfl ?_; simp -implicitDefEqProofs (disch := omega) [List.getElem?_cons_zero, List.getElem?_cons_succ, idx, wrap_id])
  obtain ⟨n, rfl, hc, hgg, hlp, hel, hm7, hn1, hn5⟩ := plain_at hp
  have hg := (conn_good hc).1
  simp -implicitDefEqProofs (disch := omega) [List.getElem?_cons_zero, List.getElem?_cons_succ, wrap_id]
  refine HC_of_PC rfl (rocheck_any n es a (by omega)) ?_
  by_cases ha : oE n es a = 0
  rotate_left
  · simp -implicitDefEqProofs (disch := omega) [List.getElem?_cons_zero, List.getElem?_cons_succ, wrap_id, ha]
    refine HC_of_PC rfl (played20_ok) ?_
    simp -implicitDefEqProofs (disch := omega) [List.getElem?_cons_zero, List.getElem?_cons_succ, wrap_id]
    (refine fin0 trivial rfl ?_; simp -implicitDefEqProofs (disch := omega) [List.getElem?_cons_zero, List.getElem?_cons_succ, idx, wrap_id])
  simp -implicitDefEqProofs (disch := omega) [List.getElem?_cons_zero, List.getElem?_cons_succ, wrap_id, ha]
  refine HC_of_PC rfl (rocheck_any n es b (by omega)) ?_
  by_cases hb : oE n es b = 0
  rotate_left
  · simp -implicitDefEqProofs (disch := omega) [List.getElem?_cons_zero, List.getElem?_cons_succ, wrap_id, hb]
    refine HC_of_PC rfl (played20_ok) ?_
    simp -implicitDefEqProofs (disch := omega) [List.getElem?_cons_zero, List.getElem?_cons_succ, wrap_id]
    (refine fin0 trivial rfl ?_; simp -implicitDefEqProofs (disch := omega) [List.getElem?_cons_zero, List.getElem?_cons_succ, idx, wrap_id])
  obtain ⟨-, hla⟩ := oE_ok ha
  obtain ⟨-, hlb⟩ := oE_ok hb
  have hs : Sm n es := ⟨hc, hn5, hm7, by omega⟩
  obtain ⟨r, hr⟩ : ∃ r : Bool, r = true ↔ ReachD n a.length es (inL n es a) (inL n es b) := by
    by_cases h : ReachD n a.length es (inL n es a) (inL n es b)
    · exact ⟨true, by simp [h]⟩
    · exact ⟨false, by simp [h]⟩
  have hri := reach_iff hgg hlp hs.p hla hlb
  rw [← hla, ← hr] at hri
  simp -implicitDefEqProofs (disch := omega) [List.getElem?_cons_zero, List.getElem?_cons_succ, wrap_id, hb]
  refine HC_of_PC rfl (aequiv_ok n es a b (by omega) ha hb (by omega) r hr) ?_
  simp -implicitDefEqProofs (disch := omega) [List.getElem?_cons_zero, List.getElem?_cons_succ, wrap_id]
  refine HC_of_PC rfl (adivisor_ok n es a (by omega) (by omega) ha) ?_
  simp -implicitDefEqProofs (disch := omega) [List.getElem?_cons_zero, List.getElem?_cons_succ, wrap_id]
  refine HC_of_PC rfl (adivisor_ok n es b (by omega) (by omega) hb) ?_
  simp -implicitDefEqProofs (disch := omega) [List.getElem?_cons_zero, List.getElem?_cons_succ, wrap_id]
  have dla := divL_len n es a
  have dlb := divL_len n es b
  have dba := divL_abs hgg.right hla hm7
  have dbb := divL_abs hgg.right hlb hm7
  refine HC_of_PCR (by simp [views, view, viewC, ownEls, dla, dlb]) (equiv_ok hs dla dlb (B := 7) (by omega) dba dbb) ?_
  rintro r2 HR (⟨he, l, rfl, rfl⟩ | ⟨he, rfl, rfl⟩)
  · have hrt := hri.2 he
    subst hrt
    simp -implicitDefEqProofs (disch := omega) [List.getElem?_cons_zero, List.getElem?_cons_succ, wrap_id]
    refine HC_of_PC rfl (played20_ok) ?_
    simp -implicitDefEqProofs (disch := omega) [List.getElem?_cons_zero, List.getElem?_cons_succ, wrap_id]
    (refine fin0 trivial rfl ?_; simp -implicitDefEqProofs (disch := omega) [List.getElem?_cons_zero, List.getElem?_cons_succ, idx, wrap_id])
  · have hrf : r = false := by
      cases r
      · rfl
      · exact absurd (hri.1 rfl) he
    subst hrf
    simp -implicitDefEqProofs (disch := omega) [List.getElem?_cons_zero, List.getElem?_cons_succ, wrap_id]
    refine HC_of_PC rfl (played20_ok) ?_
    simp -implicitDefEqProofs (disch := omega) [List.getElem?_cons_zero, List.getElem?_cons_succ, wrap_id]
    (refine fin0 trivial rfl ?_; simp -implicitDefEqProofs (disch := omega) [List.getElem?_cons_zero, List.getElem?_cons_succ, idx, wrap_id])
end Go.Proofs.Ytgbmdikkdjogpaa
end
section
namespace Go
namespace Abs
open Go.RowKit
section
variable {H : Type} {enc : TypeId × Value → H} {P : Program} {w : World} {base : Nat} {spare : Nat → Bool} {held : Bool} {fuel : Nat} {cs : List Value} {x : DataW H × List MemPlace} {t : TypeId}
/-- What stands in memory now. -/
abbrev Here (w : World) : Nat → Prop := fun b => b < w.heap.size
theorem open_int (ht : P.underlying t = some (.int .i64)) (h : DataW.trod enc P w base spare held fuel t cs = some x) : ∃ n : Int, cs = [.int .i64 n] ∧ RP (Here w) w (.i n) (.int .i64 n) := by
  obtain ⟨n, h1, -, -⟩ := DataW.trod_int ht h
  exact ⟨n, h1, .v _ rfl⟩
theorem addr_plus {a : Addr} (h : a.spot = none) (n : Nat) : a.add n = ⟨a.block, a.off + n, none⟩ := by
  unfold Addr.add
  split
  · rename_i e; subst e; cases a; cases h; rfl
  · rfl
theorem cell_spot {a : Addr} {v : Value} (h : w.cell? a = some v) : a.spot = none ∧ a.block < w.heap.size := by
  unfold World.cell? at h
  split at h
  · rename_i c t' z hb
    split at h
    · cases h
    · rename_i hs
      exact ⟨by cases ha : a.spot; rfl; rw [ha] at hs; exact absurd rfl hs, (Array.getElem?_eq_some_iff.1 hb).1⟩
  · cases h
theorem open_sl {e : TypeId} {β : Type} (g : β → PV) (sz : Nat) (hpos : 0 < sz) (ht : P.underlying t = some (.slice e)) (hc : P.cellsOf e = sz) (hg : ∀ b, (g b).flat.length = sz ∧ ∀ q ∈ (g b).flat, q.one = true)
    (hel : ∀ {fuel : Nat} {cs : List Value} {x : DataW H × List MemPlace}, DataW.trod enc P w base spare held fuel e cs = some x → ∃ b, ∀ i (h : i < (g b).flat.length) (h' : i < cs.length), RP (Here w) w (g b).flat[i] cs[i])
    (h : DataW.trod enc P w base spare held fuel t cs = some x) : ∃ (bs : List β) (v : Value), cs = [v] ∧ RP (Here w) w (.sl (bs.map g)) v := by
  rcases DataW.trod_slice ht h with ⟨h0, -⟩ | ⟨a, len, cap, elems, rest, n, -, rfl, -, -, hl, hm, hlen, hels, -, -⟩
  · refine ⟨[], _, h0, ?_⟩
    exact .sl [] none 0 0 (fun _ _ => undef) (by simp) (by simp) (fun i h => by simp at h) (.inl rfl) (fun i h => by simp at h)
  have each : ∀ i : _root_.Fin len, ∃ p : List Value × β, w.cells? base (a.add (i.1 * P.cellsOf e)) (P.cellsOf e) = some p.1 ∧ ∀ j (h : j < (g p.2).flat.length) (h' : j < p.1.length), RP (Here w) w (g p.2).flat[j] p.1[j] := by
    intro i
    have hb := hels i.1 i.2
    rw [List.getElem?_eq_getElem (by omega), Option.bind_eq_some_iff] at hb
    obtain ⟨cs', h1, h2⟩ := hb
    obtain ⟨b, hb⟩ := hel h2
    exact ⟨⟨cs', b⟩, h1, hb⟩
  obtain ⟨F, hF⟩ : ∃ F : _root_.Fin len → List Value × β, ∀ i, w.cells? base (a.add (i.1 * P.cellsOf e)) (P.cellsOf e) = some (F i).1 ∧ ∀ j (h : j < (g (F i).2).flat.length) (h' : j < (F i).1.length), RP (Here w) w (g (F i).2).flat[j] (F i).1[j] :=
    ⟨fun i => (each i).choose, fun i => (each i).choose_spec⟩
  refine ⟨List.ofFn fun i => (F i).2, _, rfl, ?_⟩
  have hlen' : ((List.ofFn fun i => (F i).2).map g).length = len := by simp
  have hsz : ∀ i, (F i).1.length = sz := fun i => by rw [(World.cells?_some (hF i).1).2.1, hc]
  have hcell : ∀ i : _root_.Fin len, ∀ j (hj : j < sz), w.cell? ((a.add (i.1 * sz)).add j) = some ((F i).1[j]'(by rw [hsz]; exact hj)) := by
    intro i j hj
    have := (World.cells?_some (hF i).1).2.2 j (by rw [hc]; exact hj)
    rw [hc] at this
    rw [this, List.getElem?_eq_getElem]
  have main := RP.sl (S := Here w) (w := w) ((List.ofFn fun i => (F i).2).map g) (some a) cap sz (fun i j => if h : i < len then (F ⟨i, h⟩).1.getD j undef else undef) (by rw [hlen']; exact hl) hm (fun i hi => by
      rw [List.getElem_map]; exact hg _) ?_ ?_
  · rw [hlen'] at main
    exact main
  · rcases Nat.eq_zero_or_pos len with h0 | h0
    · left
      exact List.eq_nil_of_length_eq_zero (by rw [hlen', h0])
    · right
      have h1 := hcell ⟨0, h0⟩ 0 hpos
      simp only [Nat.zero_mul] at h1
      have h2 : a.add 0 = a := rfl
      rw [h2, h2] at h1
      obtain ⟨s1, s2⟩ := cell_spot h1
      refine ⟨a.block, a.off, by cases a; cases s1; rfl, s2, fun i j hi hj => ?_⟩
      rw [hlen'] at hi
      have h3 := hcell ⟨i, hi⟩ j hj
      rw [addr_plus s1, addr_plus rfl] at h3
      rw [dif_pos hi]
      refine h3.trans ?_
      rw [List.getD_eq_getElem?_getD, List.getElem?_eq_getElem]
      rfl
  · intro i hi j hj
    rw [hlen'] at hi
    simp only [List.getElem_map, List.getElem_ofFn] at hj ⊢
    rw [dif_pos hi, List.getD_eq_getElem?_getD, List.getElem?_eq_getElem (by rw [hsz, ← (hg (F ⟨i, hi⟩).2).1]; exact hj)]
    exact (hF ⟨i, hi⟩).2 j hj _
end
end Abs
end Go
/-
  Handed arguments of any shape, as values of the abstract machine.
-/
namespace Go
namespace Abs
open Go.RowKit Go.ChangeShapes Go.WideShapes Go.ChangeAt
/-- Whatever is read at a type is one of these values. -/
structure Opens (P : Program) (t : TypeId) {β : Type} (g : β → PV) : Prop where
  one : ∀ b, ∀ q ∈ (g b).flat, q.one = true
  len : ∀ b, (g b).flat.length = P.cellsOf t
  red : ∀ {H : Type} {enc : TypeId × Value → H} {w : World} {base : Nat} {spare : Nat → Bool} {held : Bool} {fuel : Nat} {cs : List Value} {x : DataW H × List MemPlace},
    DataW.trod enc P w base spare held fuel t cs = some x → ∃ b, RPs (Here w) w (g b).flat cs
theorem flat_agg (l : List PV) : (PV.agg l).flat = l := rfl
section
variable {P : Program} {t : TypeId}
theorem Opens.to {β γ : Type} {g : β → PV} {g' : γ → PV} (h : Opens P t g) (f : β → γ) (k : γ → β) (e : ∀ b, g b = g' (f b)) (e' : ∀ c, g' c = g (k c)) : Opens P t g' := by
  refine ⟨fun b => ?_, fun b => ?_, fun hr => ?_⟩
  · rw [e' b]; exact h.one _
  · rw [e' b]; exact h.len _
  · obtain ⟨b, hb⟩ := h.red hr
    exact ⟨f b, e b ▸ hb⟩
theorem RPs_one {S : Nat → Prop} {w : World} {x : PV} {v : Value} (h : RP S w x v) : RPs S w [x] [v] := ⟨rfl, fun i hi hi' => by
  have : i = 0 := by simp at hi; omega
  subst this; exact h⟩
theorem RPs_app {S : Nat → Prop} {w : World} {a b : List PV} {cs : List Value} (h1 : RPs S w a (cs.take a.length)) (h2 : RPs S w b (cs.drop a.length)) : RPs S w (a ++ b) cs := by
  have l1 := h1.1
  have l2 := h2.1
  simp only [List.length_take, List.length_drop] at l1 l2
  refine ⟨by rw [List.length_append]; omega, fun i hi hi' => ?_⟩
  by_cases hc : i < a.length
  · have := h1.2 i hc (by simp; omega)
    rw [List.getElem_take] at this
    rw [List.getElem_append_left hc]
    exact this
  · have := h2.2 (i - a.length) (by rw [List.length_append] at hi; omega) (by simp; omega)
    rw [List.getElem_append_right (by omega)]
    simp only [List.getElem_drop] at this
    have e : a.length + (i - a.length) = i := by omega
    simp only [e] at this
    exact this
theorem opens_int (ht : P.underlying t = some (.int .i64)) (hc : P.cellsOf t = 1) : Opens P t PV.i := by
  refine ⟨fun b q hq => by simp [PV.flat] at hq; subst hq; rfl, fun b => by rw [hc]; rfl, fun h => ?_⟩
  obtain ⟨n, rfl, hr⟩ := open_int ht h
  exact ⟨n, RPs_one hr⟩
theorem opens_bool (ht : P.underlying t = some .bool) (hc : P.cellsOf t = 1) : Opens P t PV.b := by
  refine ⟨fun b q hq => by simp [PV.flat] at hq; subst hq; rfl, fun b => by rw [hc]; rfl, fun h => ?_⟩
  obtain ⟨n, rfl, -⟩ := DataW.trod_bool ht h
  exact ⟨n, RPs_one (.v _ rfl)⟩
theorem opens_slice {e : TypeId} {β : Type} {g : β → PV} (he : Opens P e g) (ht : P.underlying t = some (.slice e)) (hp : 0 < P.cellsOf e) (hc : P.cellsOf t = 1) : Opens P t (fun l : List β => PV.sl (l.map g)) := by
  refine ⟨fun b q hq => by simp [PV.flat] at hq; subst hq; rfl, fun b => by rw [hc]; rfl, fun h => ?_⟩
  obtain ⟨bs, v, rfl, hr⟩ := open_sl g (P.cellsOf e) hp ht rfl (fun b => ⟨he.len b, he.one b⟩) (fun h => by
    obtain ⟨b, hb⟩ := he.red h
    exact ⟨b, fun i hi hi' => hb.2 i hi hi'⟩) h
  exact ⟨bs, RPs_one hr⟩
theorem opens_struct2 {f0 f1 : Field} {β γ : Type} {g0 : β → PV} {g1 : γ → PV} (h0 : Opens P f0.type g0) (h1 : Opens P f1.type g1) (ht : P.underlying t = some (.struct #[f0, f1]))
    (ho0 : f0.offset = 0) (ho1 : f1.offset = P.cellsOf f0.type) (hc : P.cellsOf t = P.cellsOf f0.type + P.cellsOf f1.type) : Opens P t (fun p : β × γ => PV.agg ((g0 p.1).flat ++ (g1 p.2).flat)) := by
  refine ⟨fun b q hq => ?_, fun b => ?_, fun h => ?_⟩
  · simp only [flat_agg, List.mem_append] at hq
    exact hq.elim (h0.one _ _) (h1.one _ _)
  · simp only [flat_agg, List.length_append, h0.len, h1.len, hc]
  · obtain ⟨y0, y1, n, -, hl, k0, k1⟩ := trod_struct2 ht h
    obtain ⟨b0, r0⟩ := h0.red k0
    obtain ⟨b1, r1⟩ := h1.red k1
    refine ⟨(b0, b1), RPs_app ?_ ?_⟩
    · rw [h0.len]; rw [ho0, List.drop_zero] at r0; exact r0
    · rw [h0.len]; rw [ho1, List.take_of_length_le (by rw [List.length_drop]; omega)] at r1; exact r1
theorem opens_struct3 {f0 f1 f2 : Field} {β γ δ : Type} {g0 : β → PV} {g1 : γ → PV} {g2 : δ → PV} (h0 : Opens P f0.type g0) (h1 : Opens P f1.type g1) (h2 : Opens P f2.type g2) (ht : P.underlying t = some (.struct #[f0, f1, f2]))
    (ho0 : f0.offset = 0) (ho1 : f1.offset = P.cellsOf f0.type) (ho2 : f2.offset = P.cellsOf f0.type + P.cellsOf f1.type) (hc : P.cellsOf t = P.cellsOf f0.type + P.cellsOf f1.type + P.cellsOf f2.type) :
    Opens P t (fun p : β × γ × δ => PV.agg ((g0 p.1).flat ++ ((g1 p.2.1).flat ++ (g2 p.2.2).flat))) := by
  refine ⟨fun b q hq => ?_, fun b => ?_, fun h => ?_⟩
  · simp only [flat_agg, List.mem_append] at hq
    rcases hq with hq | hq | hq
    · exact h0.one _ _ hq
    · exact h1.one _ _ hq
    · exact h2.one _ _ hq
  · simp only [flat_agg, List.length_append, h0.len, h1.len, h2.len, hc]
    omega
  · obtain ⟨y0, y1, y2, n, -, hl, k0, k1, k2⟩ := Go.Deep.trod_struct3 ht h
    obtain ⟨b0, r0⟩ := h0.red k0
    obtain ⟨b1, r1⟩ := h1.red k1
    obtain ⟨b2, r2⟩ := h2.red k2
    refine ⟨(b0, b1, b2), RPs_app ?_ (RPs_app ?_ ?_)⟩
    · rw [h0.len]; rw [ho0, List.drop_zero] at r0; exact r0
    · rw [h0.len, h1.len]; rw [ho1] at r1; exact r1
    · rw [h0.len, h1.len, List.drop_drop]; rw [ho2, List.take_of_length_le (by rw [List.length_drop]; omega)] at r2; exact r2
section
variable {H : Type} {enc : TypeId × Value → H} {w : World} {base : Nat} {spare : Nat → Bool} {held : Bool} {v : Value} {d : DataW H} {p : List MemPlace} {r : Reach} {base' : Nat} {β : Type} {g : β → PV}
theorem arg_one (h : Opens P t g) (hg : ∀ b, (g b).flat = [g b]) (hv : v.cells.toList = [v]) (hd : DataW.Trod enc P w base spare held t v d p) : ∃ b, RP (Here w) w (g b) v := by
  obtain ⟨m, hm⟩ := hd
  obtain ⟨b, hb⟩ := h.red hm
  refine ⟨b, ?_⟩
  rw [hg b, hv] at hb
  exact hb.2 0 (by simp) (by simp)
theorem arg_slice {e : TypeId} {g : β → PV} (h : Opens P t g) (ht : P.underlying t = some (.slice e)) (hg : ∀ b, (g b).flat = [g b]) (hw : Value.okWide P w r base' t v) (hd : DataW.Trod enc P w base spare held t v d p) : ∃ b, RP (Here w) w (g b) v := by
  obtain ⟨a, len, cap, rfl⟩ := okWide_slice ht hw
  exact arg_one h hg rfl hd
theorem arg_agg {cs : Array Value} (h : Opens P t g) (hg : ∀ b, g b = .agg (g b).flat) (hd : DataW.Trod enc P w base spare held t (.agg cs) d p) : ∃ b, RP (Here w) w (g b) (.agg cs) := by
  obtain ⟨m, hm⟩ := hd
  obtain ⟨b, hb⟩ := h.red hm
  refine ⟨b, ?_⟩
  rw [hg b]
  exact .agg _ _ hb.1 (h.one b) fun i hi hi' => hb.2 i hi hi'
theorem arg_struct {fs : Array Field} (h : Opens P t g) (ht : P.underlying t = some (.struct fs)) (hg : ∀ b, g b = .agg (g b).flat) (hw : Value.okWide P w r base' t v) (hd : DataW.Trod enc P w base spare held t v d p) : ∃ b, RP (Here w) w (g b) v := by
  obtain ⟨cs, rfl, -⟩ := okWide_struct ht hw
  exact arg_agg h hg hd
end
end
end Abs
end Go
end
section
namespace Go.Proofs.Ytgbmdikkdjogpaa
open Go.Abs Go.Sand Go.ChangeShapes Go.WideShapes Go.ChangeAt Go.RowKit
theorem own : ownKnob Try.prog.godebug = none := by kernel_rfl
theorem laidOut : laidOutB Try.prog = true := by kernel_rfl
theorem cells_int : Try.prog.cellsOf 3 = 1 := by kernel_rfl
theorem cells_bool : Try.prog.cellsOf 4 = 1 := by kernel_rfl
theorem cells_bools : Try.prog.cellsOf 25 = 1 := by kernel_rfl
theorem cells_edges : Try.prog.cellsOf 22 = 1 := by kernel_rfl
theorem cells_edge : Try.prog.cellsOf 47 = 3 := by kernel_rfl
theorem cells_graph : Try.prog.cellsOf 24 = 2 := by kernel_rfl
theorem o_int : Opens Try.prog 3 PV.i := opens_int Try.underlying3 cells_int
theorem o_bool : Opens Try.prog 4 PV.b := opens_bool Try.underlying4 cells_bool
theorem o_bools : Opens Try.prog 25 PV.bo := opens_slice o_bool Try.underlying25 (by rw [cells_bool]; decide) cells_bools
theorem o_edge : Opens Try.prog 47 edP :=
  (opens_struct3 o_int o_int o_int Try.underlying47 rfl cells_int.symm (by rw [cells_int]) (by rw [cells_int, cells_edge])).to (fun p => ⟨p.1, p.2.1, p.2.2⟩) (fun e => (e.a, e.b, e.m)) (fun _ => rfl) (fun _ => rfl)
theorem o_edges : Opens Try.prog 22 (fun l : List Ed => PV.sl (l.map edP)) := opens_slice o_edge Try.underlying22 (by rw [cells_edge]; decide) cells_edges
theorem o_graph : Opens Try.prog 24 (fun p : Int × List Ed => G p.1 p.2) :=
  opens_struct2 o_int o_edges Try.underlying24 rfl cells_int.symm (by rw [cells_int, cells_edges, cells_graph])
/-- A contract that leaves true serves as the walk. -/
theorem walk_of {f : FuncId} {ps : List PV} {vs : List Value} {w : World} (h : PC Try.prog f ps (.b true) []) (hr : RPs (Here w) w ps vs) : Calls Try.prog f vs.toArray w fun e w' => e = .returned (.bool true) ∧ Below w.heap.size w w' := by
  refine (h w (fun _ => True) vs ⟨hr.1, fun i hi hi' => (hr.2 i hi hi').mono fun b hb => ⟨⟨hb, trivial⟩, rfl⟩⟩).mono ?_
  rintro e w' ⟨v, φ, rfl, -, hv, hb⟩
  refine ⟨?_, hb⟩
  have := hv.lit
  rw [this.1]
end Go.Proofs.Ytgbmdikkdjogpaa
end
