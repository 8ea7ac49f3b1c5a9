/-
  Texts joined: Yz Yaa Yab Yac.
-/
import Derived.Test.YtolfhldbfeffaaaKf22

section
set_option linter.unusedSimpArgs false
set_option linter.unusedVariables false
namespace Go.Proofs.Ytolfhldbfeffaaa
open Go.Abs Go.Sand
def pw8 : Nat → Int
  | 0 => 1
  | k + 1 => 8 * pw8 k
theorem pw8_pos : ∀ k, 1 ≤ pw8 k
  | 0 => by simp [pw8]
  | k + 1 => by have := pw8_pos k; simp only [pw8]; omega
theorem pw8_le {k : Nat} (h : k ≤ 4) : pw8 k ≤ 4096 := by
  match k, h with
  | 0, _ => decide
  | 1, _ => decide
  | 2, _ => decide
  | 3, _ => decide
  | 4, _ => decide
/-- The sum of the first ones. -/
def sg8 : Nat → Int
  | 0 => 0
  | k + 1 => sg8 k + pw8 k
theorem sg8_le {k : Nat} (h : k ≤ 4) : 0 ≤ sg8 k ∧ sg8 k ≤ 585 := by
  match k, h with
  | 0, _ => decide
  | 1, _ => decide
  | 2, _ => decide
  | 3, _ => decide
  | 4, _ => decide
/-- What holds ahead of each level. -/
def LdI (n : Nat) (es : List Ed) (q : Nat) (d s far : List Int) (B : Int) (m j : Nat) (st : St) : Prop :=
  ∃ d' s', LdS n es far d s ((m : Int) - j) (pw8 j * B) (sg8 j * B) d' s' ∧ st = ⟨[(4, .i ((m : Int) - j)), (2, .os 4 0 n), (3, .fn (.func 81) [.ptr 1 1 0 0] []), (0, .ptr 1 1 0 0)], stH n es q d' s' 0 ++ [rowZ far]⟩
/-- How often the nearer ones have to fire, as far as it is known. -/
def TmI (n : Nat) (es : List Ed) (q : Nat) (d' s' far : List Int) (b : List Bool) (C k : Int) (u : Nat) (st : St) : Prop :=
  ∃ T : Int, (0 ≤ T ∧ T ≤ C) ∧ (∀ v, v < u → far.getD v 0 = k → d'.getD v 0 < 0 → 0 ≤ d'.getD v 0 + T * joinsF v (fun w => b.getD w.toNat false) es) ∧ st = ⟨[(51, .i u), (50, .i n), (49, .os 4 0 n), (7, .i T), (5, .ptr 6 1 0 0), (4, .i k), (2, .os 4 0 n), (3, .fn (.func 81) [.ptr 1 1 0 0] []), (0, .ptr 1 1 0 0)], stH n es q d' s' 0 ++ [rowZ far, rowB b, .box (.os 5 0 n)]⟩
/-- Which ones are nearer, as far as it is known. -/
def NrI (n : Nat) (es : List Ed) (q : Nat) (d' s' far : List Int) (k : Int) (v : Nat) (st : St) : Prop :=
  ∃ b : List Bool, b.length = n ∧ (∀ w, w < v → b.getD w false = decide (far.getD w 0 < k)) ∧ st = ⟨[(36, .i v), (35, .i n), (5, .ptr 6 1 0 0), (4, .i k), (2, .os 4 0 n), (3, .fn (.func 81) [.ptr 1 1 0 0] []), (0, .ptr 1 1 0 0)], stH n es q d' s' 0 ++ [rowZ far, rowB b, .box (.os 5 0 n)]⟩
theorem getD_setB {b : List Bool} {v w : Nat} {y : Bool} (hv : v < b.length) : (b.set v y).getD w false = if w = v then y else b.getD w false := by
  rw [List.getD_eq_getElem?_getD, List.getElem?_set]
  by_cases e : v = w
  · subst e
    rw [if_pos rfl, if_pos hv, if_pos rfl]; rfl
  · rw [if_neg e, if_neg fun h => e h.symm, ← List.getD_eq_getElem?_getD]
section
variable {n : Nat} {es : List Ed} (hg : GoodG n es) (hp : partsN es n = 1) (hn : n ≤ 5) (hel : es.length ≤ 1000) (hval : ∀ v, v < n → sumN (fun u => joinE es v u) n ≤ 7) {q : Nat} (hq : q < n) {d s : List Int} (hd : d.length = n) (hs : s.length = n) {B : Int} (hB : 0 ≤ B ∧ B ≤ 400) (hdb : AbsLe B d) (hsb : AbsLe 0 s)
include hg hp hn hel hval hq hd hs hB hdb hsb
set_option maxHeartbeats 4000000 in
theorem lend_hc {K : AV → List AO → Prop} (hK : ∀ r d' s', d'.length = n → s'.length = n → (∃ f : Nat → Int, (∀ v, v < n → d'.getD v 0 = d.getD v 0 + lapF n (joinE es) f v) ∧ ∀ v, v < n → s'.getD v 0 = s.getD v 0 + f v) → (∀ v, v < n → v ≠ q → 0 ≤ d'.getD v 0) → AbsLe (4096 * B) d' → AbsLe (585 * B) s' → K r (stH n es q d' s' 0)) :
    HC Try.prog false 72 [.ptr 1 1 0 0] (stH n es q d s 0) K := by
  have hr := hg.right
  have hn2 : n ≤ 1048576 := by omega
  refine HC_norm ?_
  refine HC_of_W (af := _) ((by exact cfn72 : cfn _ _ _ = some _)) ?_
  simp -implicitDefEqProofs (disch := omega) [c72, List.getElem?_cons_zero, List.getElem?_cons_succ, wrap_id]
  refine dist_hc hr (by omega) hel hq hd hs fun far hfar => ?_
  have hfl := hfar.len
  have hfa := far_all hg hp hq hfar
  simp -implicitDefEqProofs (disch := omega) [List.getElem?_cons_zero, List.getElem?_cons_succ, wrap_id]
  refine HC_of_PC (by simp [views, view, viewC, hfl]) (max_ok far (by omega) (by omega)) ?_
  obtain ⟨m, hm⟩ : ∃ m : Nat, maxK far (far.length - 1) = m ∧ m ≤ 4 ∧ ∀ v, v < n → far.getD v 0 ≤ m := by
    have h1 := maxK_ge far (far.length - 1) q (by omega)
    have h2 := maxK_le far (B := (n : Int) - 1) (far.length - 1) fun i hi => by have := (hfar.rng i (by omega)).2; omega
    have h3 := hfar.q0
    refine ⟨(maxK far (far.length - 1)).toNat, by omega, by omega, fun v hv => ?_⟩
    have := maxK_ge far (far.length - 1) v (by omega)
    omega
  obtain ⟨hm1, hm4, hmf⟩ := hm
  rw [hm1]
  simp -implicitDefEqProofs (disch := omega) [List.getElem?_cons_zero, List.getElem?_cons_succ, wrap_id]
  refine loopW m (LdI n es q d s far B m) (wk_norm [0, 1, 2, 3, 4] [4, 2, 3, 0] rfl rfl)
    ⟨d, s, ⟨hd, hs, ⟨fun _ => 0, fun v _ => by rw [lapF_zero]; omega, fun v _ => by dsimp only; omega⟩, fun v hv h => by have := hmf v hv; omega, hdb.mono (by simp [pw8]), hsb.mono (by simp [sg8])⟩, by show _ = _; rw [show (m : Int) - ((0 : Nat) : Int) = m by omega]; rfl⟩ ?_
  rintro j st hj ⟨d', s', hL, rfl⟩
  obtain ⟨k, hk⟩ : ∃ k : Int, k = (m : Int) - j := ⟨_, rfl⟩
  have hk1 : k - 1 = (m : Int) - ((j + 1 : Nat) : Int) := by omega
  have hkb : k ≤ 4 := by omega
  obtain ⟨C, hC⟩ : ∃ C, C = pw8 j * B := ⟨_, rfl⟩
  have hC8 : 8 * C = pw8 (j + 1) * B := by rw [hC, pw8, Int.mul_assoc]
  obtain ⟨S, hS⟩ : ∃ S, S = sg8 j * B := ⟨_, rfl⟩
  have hS1 : S + C = sg8 (j + 1) * B := by rw [hS, hC, sg8, Int.add_mul]
  have hsj := sg8_le (k := j) (by omega)
  have hS0 : 0 ≤ S := by rw [hS]; exact Int.mul_nonneg hsj.1 hB.1
  have hSb : S ≤ 585 * B := by rw [hS]; exact Int.mul_le_mul_of_nonneg_right hsj.2 hB.1
  have hpj := pw8_pos j
  have hpj4 := pw8_le (k := j) (by omega)
  have hC0 : 0 ≤ C := by rw [hC]; exact Int.mul_nonneg (by omega) hB.1
  have hCb : C ≤ 4096 * B := by rw [hC]; exact Int.mul_le_mul_of_nonneg_right hpj4 hB.1
  rw [← hk, ← hC, ← hS] at hL
  rw [← hk]
  have hdl := hL.dl
  have hsl := hL.sl
  by_cases hjm' : 0 < k
  rotate_left
  · simp -implicitDefEqProofs (disch := omega) [List.getElem?_cons_zero, List.getElem?_cons_succ, wrap_id, hjm']
    refine finH trivial rfl ⟨[0, 1, 2, 3], rfl, hK _ d' s' hdl hsl hL.ex (fun v hv hvq => hL.pd v hv ?_) (hL.db.mono hCb) (hL.sb.mono hSb)⟩
    have := (hfar.par v hv (hfa v hv) hvq).1
    omega
  have hjm : j < m := by omega
  have hC8b : 8 * C ≤ 4096 * B := by
    have := pw8_le (k := j + 1) (by omega)
    rw [hC8]; exact Int.mul_le_mul_of_nonneg_right this hB.1
  simp -implicitDefEqProofs (disch := omega) [List.getElem?_cons_zero, List.getElem?_cons_succ, wrap_id, hjm', hn2]
  refine loopW n (NrI n es q d' s' far k) (wk_norm [0, 1, 2, 3, 4, 5, 6] [36, 35, 5, 4, 2, 3, 0] rfl rfl) ⟨List.replicate n false, by simp, fun w hw => by omega, by rw [rowB, List.map_replicate]; rfl⟩ ?_
  rintro v st hv ⟨b, hbl, hbv, rfl⟩
  by_cases hvt : v < n
  · have hvf : v < far.length := by omega
    have hset : AO.row ((b.map PV.b).set v (PV.v (Value.bool (decide (far[v] < k))))) 1 4 false = rowB (b.set v (decide (far[v] < k))) := by rw [rowB, List.map_set]
    simp -implicitDefEqProofs (disch := omega) [List.getElem?_cons_zero, List.getElem?_cons_succ, wrap_id, hvt, hvf, hfl, hbl, hset]
    refine round_end [0, 1, 2, 3, 4, 5, 6] [36, 35, 5, 4, 2, 3, 0] hvt rfl ⟨b.set v (decide (far[v] < k)), by simpa using hbl, fun w hw => ?_, rfl⟩
    rw [getD_setB (by omega)]
    by_cases e : w = v
    · subst e
      rw [if_pos rfl, getD_get hvf]
    · rw [if_neg e]
      exact hbv w (by omega)
  have hvn : v = n := by omega
  subst hvn
  simp -implicitDefEqProofs (disch := omega) [List.getElem?_cons_zero, List.getElem?_cons_succ, wrap_id, hvt, hfl]
  refine loopW v (TmI v es q d' s' far b C k) (wk_norm [0, 1, 2, 3, 4, 5, 6] [51, 50, 49, 7, 5, 4, 2, 3, 0] rfl rfl) ⟨0, ⟨by omega, hC0⟩, fun w hw => by omega, rfl⟩ ?_
  rintro u st hu ⟨T, hT, hTp, rfl⟩
  by_cases hut : u < v
  rotate_left
  · have huv : u = v := by omega
    subst huv
    by_cases hT0 : 0 < T
    · simp -implicitDefEqProofs (disch := omega) [List.getElem?_cons_zero, List.getElem?_cons_succ, wrap_id, hut, hfl, hT0]
      refine ⟨by kernel_rfl, fire_hc hr (by omega) hel hdl hsl (o := 5) (by omega) hbl (by omega) (hL.db.mono (by omega)) (hL.sb.mono (by omega)) ((fA_in hg b hval (by omega) hT.1 hdl hL.db).mono (by omega)) ((sA_in b hT.1 hsl hL.sb).mono (by omega)) (FH.of u es q 0 d' s' [rowZ far, rowB b, .box (.os 5 0 u)]) rfl fun r H' hF' hR' => ?_⟩
      have h4 := hR'.at (i := 4) (x := rowZ far) (by omega) rfl
      simp -implicitDefEqProofs (disch := omega) [List.getElem?_cons_zero, List.getElem?_cons_succ, wrap_id, hjm]
      have hL2 := hL.next hg hval hbv hT hTp
      rw [hk1, hC8, hS1] at hL2
      refine round_end [0, 1, 2, 3, 4] [4, 2, 3, 0] hjm (hF'.ok5 (lt_some h4)) ⟨_, _, hL2, ?_⟩
      show St.mk _ (renH [0, 1, 2, 3, 4] H') = _
      rw [hF'.ren5 h4, ← hk1]
      rfl
    · simp -implicitDefEqProofs (disch := omega) [List.getElem?_cons_zero, List.getElem?_cons_succ, wrap_id, hut, hfl, hT0]
      have hL2 := hL.skip hC0 fun w hw he => by
        refine Classical.byContradiction fun hneg => ?_
        have := hTp w hw he (by omega)
        rw [show T = 0 by omega, Int.zero_mul] at this
        omega
      rw [hk1, hC8, hS1] at hL2
      exact round_end [0, 1, 2, 3, 4] [4, 2, 3, 0] hjm rfl ⟨d', s', hL2, by rw [← hk1]; rfl⟩
  have huf : u < far.length := by omega
  have hud : u < d'.length := by omega
  have hgf : far.getD u 0 = far[u] := getD_get huf
  have hgd : d'.getD u 0 = d'[u] := getD_get hud
  by_cases hat : far[u] = k
  rotate_left
  · simp -implicitDefEqProofs (disch := omega) [List.getElem?_cons_zero, List.getElem?_cons_succ, wrap_id, hut, huf, hfl, hat]
    refine round_end [0, 1, 2, 3, 4, 5, 6] [51, 50, 49, 7, 5, 4, 2, 3, 0] hut rfl ⟨T, hT, fun w hw he hneg => ?_, rfl⟩
    by_cases e : w = u
    · subst e; rw [hgf] at he; exact absurd he hat
    · exact hTp w (by omega) he hneg
  have hat' : decide (far[u] = k) = true := decide_eq_true hat
  by_cases hdu : d'[u] < 0
  rotate_left
  · simp -implicitDefEqProofs (disch := omega) [List.getElem?_cons_zero, List.getElem?_cons_succ, wrap_id, hut, huf, hfl, hat', hud, hdl, hdu]
    refine round_end [0, 1, 2, 3, 4, 5, 6] [51, 50, 49, 7, 5, 4, 2, 3, 0] hut rfl ⟨T, hT, fun w hw he hneg => ?_, rfl⟩
    by_cases e : w = u
    · subst e; rw [hgd] at hneg; exact absurd hneg hdu
    · exact hTp w (by omega) he hneg
  simp -implicitDefEqProofs (disch := omega) [List.getElem?_cons_zero, List.getElem?_cons_succ, wrap_id, hut, huf, hfl, hat', hud, hdl, hdu]
  obtain ⟨jn, hjn⟩ : ∃ jn, jn = joinsF u (fun w => b.getD w.toNat false) es := ⟨_, rfl⟩
  refine ro_joins hr (by omega) hel hdl hsl (by kernel_rfl) (g := fun w => b.getD w.toNat false) hbl (fun w H K h0 hw hK => le1_ok hbl w H K h0 hw hK) (by omega) (FH.of v es q 0 d' s' [rowZ far, rowB b, .box (.os 5 0 v)]) (r := 5) rfl rfl ?_
  rw [← hjn]
  have huq : u ≠ q := fun e => by
    have := hfar.q0
    rw [← e, hgf] at this
    omega
  have hj1 : 1 ≤ jn := by
    obtain ⟨_, x, hx, hi, ho⟩ := hfar.par u hut (hfa u hut) huq
    obtain ⟨r1, r2, r3, r4, r5, r6, r7⟩ := hr x hx
    have hi2 := hi
    simp only [incB, decide_eq_true_eq] at hi2
    rw [hjn]
    refine joinsF_pos hg _ hx hi ?_
    rw [hbv _ (by omega), ho, hgf]
    exact decide_eq_true (by omega)
  have hj2 : jn ≤ 50 * es.length := by rw [hjn]; exact (joinsF_bd hr u _).2
  have hdb2 := hL.db.get hud
  obtain ⟨t1, t2, t3⟩ := times_ok hdu hj1
  obtain ⟨Q, hQ⟩ : ∃ Q, Q = (-d'[u] + jn - 1).tdiv jn := ⟨_, rfl⟩
  rw [← hQ] at t1 t2 t3
  have hj0 : ¬ jn = 0 := by omega
  simp -implicitDefEqProofs (disch := omega) [List.getElem?_cons_zero, List.getElem?_cons_succ, wrap_id, hud, hdl, hut, Int.zero_sub, hj0, ← hQ]
  refine round_end [0, 1, 2, 3, 4, 5, 6] [51, 50, 49, 7, 5, 4, 2, 3, 0] hut rfl ⟨max T Q, by omega, fun w hw he hneg => ?_, rfl⟩
  have hj0' : 0 ≤ joinsF w (fun w => b.getD w.toNat false) es := (joinsF_bd hr w _).1
  by_cases e : w = u
  · subst e
    rw [hgd, ← hjn]
    have := Int.mul_le_mul_of_nonneg_right (show Q ≤ max T Q by omega) (show 0 ≤ jn by omega)
    omega
  · have h1 := hTp w (by omega) he hneg
    have := Int.mul_le_mul_of_nonneg_right (show T ≤ max T Q by omega) hj0'
    omega
end
end Go.Proofs.Ytolfhldbfeffaaa
end
section
set_option linter.unusedSimpArgs false
set_option linter.unusedVariables false
namespace Go.Proofs.Ytolfhldbfeffaaa
open Go.Abs Go.Sand
theorem burn1_keep {es : List Ed} {d : List Int} {b : List Bool} {v w : Nat} (h : b.getD w false = true) : (burn1 es d b v).getD w false = true := by
  unfold burn1
  split
  · by_cases hv : v < b.length
    · rw [getD_setB hv]; split
      · rfl
      · exact h
    · rw [List.set_eq_of_length_le (by omega)]; exact h
  · exact h
theorem passB_keep {es : List Ed} {d : List Int} {b : List Bool} {w : Nat} (h : b.getD w false = true) : ∀ k, (passB es d b k).getD w false = true
  | 0 => h
  | k + 1 => burn1_keep (passB_keep h k)
theorem bS_q {n : Nat} {es : List Ed} {q : Nat} {d : List Int} (hq : q < n) : ∀ k, (bS n es q d k).getD q false = true
  | 0 => by rw [bS, getD_setB (by simpa using hq), if_pos rfl]
  | k + 1 => passB_keep (bS_q hq k) n
/-- A round in which nothing burns. -/
theorem pass_none {es : List Ed} {d : List Int} {b : List Bool} : ∀ {k : Nat}, chgB es d b k = false → passB es d b k = b ∧ ∀ v, v < k → burnC es d b v = false
  | 0, _ => ⟨rfl, fun v hv => by omega⟩
  | k + 1, h => by
    simp only [chgB, Bool.or_eq_false_iff] at h
    obtain ⟨h1, h2⟩ := pass_none h.1
    rw [h1] at h
    refine ⟨by rw [passB, h1, burn1, h.2]; simp, fun v hv => ?_⟩
    by_cases e : v = k
    · subst e; exact h.2
    · exact h2 v (by omega)
/-- What a fire leaves can fire. -/
theorem bS_end {n : Nat} {es : List Ed} {q : Nat} {d : List Int} {k : Nat} (h : agB n es q d k = false) {v : Nat} (hv : v < n) (hb : (bS n es q d k).getD v false = false) : joinsF v (fun u => (bS n es q d k).getD u.toNat false) es ≤ d.getD v 0 := by
  cases k with
  | zero => cases h
  | succ k =>
    obtain ⟨h1, h2⟩ := pass_none (show chgB es d (bS n es q d k) n = false from h)
    have h3 := h2 v hv
    have e : bS n es q d (k + 1) = bS n es q d k := h1
    rw [e] at hb ⊢
    unfold burnC at h3
    rw [hb] at h3
    simp only [Bool.not_false, Bool.true_and, decide_eq_false_iff_not] at h3
    omega
section
variable {n : Nat} {es : List Ed} (hg : GoodG n es)
include hg
/-- Who can fire never burns. -/
theorem bS_safe {q : Nat} (hq : q < n) {d : List Int} {A : Nat → Bool} (hA : A q = false) (hf : ∀ v, v < n → A v = true → outF n (joinE es) A v ≤ d.getD v 0) (k : Nat) : ∀ v, v < n → A v = true → (bS n es q d k).getD v false = false := by
  have step : ∀ (b : List Bool), b.length = n → (∀ v, v < n → A v = true → b.getD v false = false) → ∀ j, j ≤ n → ∀ v, v < n → A v = true → (passB es d b j).getD v false = false := by
    intro b hbl hb j
    induction j with
    | zero => intro _; exact hb
    | succ j ih =>
      intro hj v hv hAv
      have ih := ih (by omega)
      rw [passB, burn1]
      split
      · rename_i hc
        by_cases e : v = j
        · subst e
          exfalso
          simp only [burnC, Bool.and_eq_true, decide_eq_true_eq] at hc
          have h1 := hf v hv hAv
          have h2 : joinsF v (fun u => (passB es d b v).getD u.toNat false) es ≤ outF n (joinE es) A v := by
            rw [joins_set hg hv]
            unfold outF
            refine sumN_le fun u hu => ?_
            have := (joinE_bd hg v u).1
            cases hAu : A u
            · simp; split <;> omega
            · rw [if_neg (by rw [ih u hu hAu]; simp)]; simp
          omega
        · rw [getD_setB (by rw [passB_len, hbl]; omega), if_neg e]
          exact ih v hv hAv
      · exact ih v hv hAv
  induction k with
  | zero =>
    intro v hv hAv
    have hvq : v ≠ q := fun e => by subst e; rw [hA] at hAv; cases hAv
    rw [bS, getD_setB (by simpa using hq), if_neg hvq]
    simp [List.getD_eq_getElem?_getD, hv]
  | succ k ih => exact step _ (bS_len n es q d k) ih n (Nat.le_refl n)
theorem bS_red {q : Nat} (hq : q < n) {d : List Int} (hd : ∀ v, v < n → v ≠ q → 0 ≤ d.getD v 0) {k : Nat} (h : (bS n es q d k).any (!·) = false) : RedF n (joinE es) q (fun v => d.getD v 0) := by
  refine ⟨hd, fun A hA ⟨a, ha, hAa⟩ => Classical.byContradiction fun hno => ?_⟩
  have := bS_safe (d := d) hg hq hA (fun v hv hAv => Classical.byContradiction fun h => hno ⟨v, hv, hAv, by dsimp only; omega⟩) k a ha hAa
  have hl := bS_len n es q d k
  rw [List.any_eq_false] at h
  have h1 := h ((bS n es q d k)[a]'(by omega)) (List.getElem_mem _)
  rw [List.getD_eq_getElem?_getD, List.getElem?_eq_getElem (by omega), Option.getD_some] at this
  rw [this] at h1
  simp at h1
end
theorem notB_get {n : Nat} {b : List Bool} (hb : b.length = n) {v : Nat} (hv : v < n) : (b.map (!·)).getD v false = !b.getD v false := by
  rw [List.getD_eq_getElem?_getD, List.getElem?_map, List.getD_eq_getElem?_getD, List.getElem?_eq_getElem (by omega)]
  simp
/-- What has been settled so far. -/
structure StS (n : Nat) (es : List Ed) (q : Nat) (d s d' s' : List Int) (f : Nat → Int) : Prop where
  dl : d'.length = n
  sl : s'.length = n
  df : ∀ v, v < n → d'.getD v 0 = d.getD v 0 + lapF n (joinE es) f v
  sf : ∀ v, v < n → s'.getD v 0 = s.getD v 0 + f v
  f0 : ∀ v, v < n → 0 ≤ f v
  fq : f q = 0
  pd : ∀ v, v < n → v ≠ q → 0 ≤ d'.getD v 0
section
variable {n : Nat} {es : List Ed} (hg : GoodG n es) (hM : MG n (joinE es)) {q : Nat} (hq : q < n) {d s d' s' : List Int} {f : Nat → Int}
/-- The bounds of all that happens. -/
theorem StS.bounds (hM : MG n (joinE es)) (hq : q < n) (h : StS n es q d s d' s' f) (hd : ∀ v, v < n → v ≠ q → 0 ≤ d.getD v 0) {G L S : Int} (hG : sumN (fun v => d.getD v 0) n ≤ G) (hL : -L ≤ d.getD q 0) (hGL : 0 ≤ G ∧ 0 ≤ L) (hs : AbsLe S s) (hS0 : 0 ≤ S) :
    (∀ v, v < n → f v ≤ ((n : Int) - 1) * (G + L)) ∧ AbsLe (G + L) d' ∧ AbsLe (S + ((n : Int) - 1) * (G + L)) s' := by
  have hsplit : ∀ D : Nat → Int, sumN D n = D q + sumN (fun v => if v = q then 0 else D v) n := fun D => by
    have e : sumN D n = sumN (fun v => (if v = q then D q else 0) + (if v = q then 0 else D v)) n := sumN_congr fun v _ => by
      by_cases h : v = q
      · subst h; simp
      · simp [h]
    rw [e, sumN_add, sumN_one, if_pos hq]
  have h1 := hsplit fun v => d.getD v 0
  have h2 := hsplit fun v => d'.getD v 0
  have hdeg : sumN (fun v => d'.getD v 0) n = sumN (fun v => d.getD v 0) n := Equi.deg hM ⟨f, h.df⟩
  have hfb := legal_small hM hq (D := fun v => d.getD v 0) hd h.fq (fun v hv hvq => by have := h.pd v hv hvq; rw [h.df v hv] at this; exact this) (C := G + L) (by omega)
  have hlq : 0 ≤ lapF n (joinE es) f q := sumN_nonneg fun u hu => Int.mul_nonneg (hM.nn q u) (by rw [h.fq]; have := h.f0 u hu; omega)
  have hdq := h.df q hq
  have hnn : 0 ≤ sumN (fun v => if v = q then 0 else d'.getD v 0) n := sumN_nonneg fun v hv => by
    split
    · omega
    · rename_i hne; exact h.pd v hv hne
  refine ⟨hfb, fun v => ?_, fun v => ?_⟩
  · by_cases hv : v < n
    · by_cases e : v = q
      · subst e; omega
      · have h3 := h.pd v hv e
        have h4 := sumN_term (f := fun v => if v = q then 0 else d'.getD v 0) (k := n) (v := v) (fun u hu => by
          split
          · omega
          · rename_i hne; exact h.pd u hu hne) hv
        rw [if_neg e] at h4
        omega
    · rw [List.getD_eq_getElem?_getD, List.getElem?_eq_none (by rw [h.dl]; omega), Option.getD_none]; omega
  · have hnG : 0 ≤ ((n : Int) - 1) * (G + L) := Int.mul_nonneg (by omega) (by omega)
    by_cases hv : v < n
    · have h3 := hs v
      have h4 := hfb v hv
      have h5 := h.f0 v hv
      rw [h.sf v hv]
      omega
    · rw [List.getD_eq_getElem?_getD, List.getElem?_eq_none (by rw [h.sl]; omega), Option.getD_none]; omega
/-- What is left fires. -/
theorem StS.next (hg : GoodG n es) (h : StS n es q d s d' s' f) {l : List Bool} (hlq : l.getD q false = false) {T : Int} (hT : 0 ≤ T) (hp : ∀ v, v < n → l.getD v false = true → T * outF n (joinE es) (fun u => l.getD u false) v ≤ d'.getD v 0) :
    StS n es q d s (fA es l T d' n) (sA l T s' n) (fun v => f v + T * indB l v) := by
  refine ⟨by rw [fA_len, h.dl], by rw [sA_len, h.sl], fun v hv => ?_, fun v hv => ?_, fun v hv => ?_, ?_, fun v hv hvq => ?_⟩
  · rw [fA_lap hg h.dl hv, h.df v hv, lapF_add, lapF_mul]; omega
  · rw [sA_get h.sl v (Nat.le_refl n), if_pos hv, h.sf v hv]; omega
  · have := h.f0 v hv
    have : 0 ≤ T * indB l v := Int.mul_nonneg hT (by unfold indB; split <;> omega)
    (try dsimp only); omega
  · dsimp only [indB]; rw [h.fq, if_neg (by rw [hlq]; simp)]; simp
  · rw [fA_lap hg h.dl hv, lap_ind hg l hv]
    split
    · rename_i hl
      have := hp v hv hl
      rw [Int.mul_neg]; omega
    · have := h.pd v hv hvq
      have := Int.mul_nonneg hT (joinsF_bd hg.right v (fun u => l.getD u.toNat false)).1
      omega
end
end Go.Proofs.Ytolfhldbfeffaaa
end
section
set_option linter.unusedSimpArgs false
set_option linter.unusedVariables false
namespace Go.Proofs.Ytolfhldbfeffaaa
open Go.Abs Go.Sand
/-- What holds ahead of each round. -/
def SeI (n : Nat) (es : List Ed) (q : Nat) (d s : List Int) (j : Nat) (st : St) : Prop :=
  ∃ d' s' f, StS n es q d s d' s' f ∧ (j : Int) ≤ sumN f n ∧ st = ⟨[(0, .ptr 1 1 0 0)], stH n es q d' s' 0⟩
/-- How often the rest can fire, as far as it is known. -/
def TsI (n : Nat) (es : List Ed) (q : Nat) (d' s' : List Int) (l : List Bool) (C : Int) (u : Nat) (st : St) : Prop :=
  ∃ T : Int, ((T = 0 ∧ ∀ w, w < u → l.getD w false = true → joinsF w (fun x => !l.getD x.toNat false) es = 0) ∨ ((1 ≤ T ∧ T ≤ C) ∧ ∀ w, w < u → l.getD w false = true → T * joinsF w (fun x => !l.getD x.toNat false) es ≤ d'.getD w 0)) ∧
    st = ⟨[(23, .i u), (22, .i n), (21, .os 4 0 n), (4, .i T), (2, .ptr 5 1 0 0), (0, .ptr 1 1 0 0)], stH n es q d' s' 0 ++ [rowB l, .box (.os 4 0 n)]⟩
section
variable {n : Nat} {es : List Ed} (hg : GoodG n es) (hp : partsN es n = 1) (hn : n ≤ 5) (hel : es.length ≤ 1000) {q : Nat} (hq : q < n) {d s : List Int} (hdl : d.length = n) (hsl : s.length = n)
  (hd0 : ∀ v, v < n → v ≠ q → 0 ≤ d.getD v 0) {G L S : Int} (hG : sumN (fun v => d.getD v 0) n ≤ G) (hL : -L ≤ d.getD q 0) (hGL : 0 ≤ G ∧ 0 ≤ L) (hs : AbsLe S s) (hS0 : 0 ≤ S) (hb1 : G + L ≤ 2097152) (hb2 : S + 4 * (G + L) ≤ 2097152)
include hg hp hn hel hq hdl hsl hd0 hG hL hGL hs hS0 hb1 hb2
set_option maxHeartbeats 4000000 in
theorem settle_hc {K : AV → List AO → Prop} (hK : ∀ r d' s' f, StS n es q d s d' s' f → RedF n (joinE es) q (fun v => d'.getD v 0) → K r (stH n es q d' s' 0)) :
    HC Try.prog false 73 [.ptr 1 1 0 0] (stH n es q d s 0) K := by
  have hr := hg.right
  have hM := mg_of hg hp
  have hnG : ((n : Int) - 1) * (G + L) ≤ 4 * (G + L) := Int.mul_le_mul_of_nonneg_right (by omega) (by omega)
  obtain ⟨N, hN⟩ : ∃ N : Nat, (N : Int) = 20 * (G + L) + 1 := ⟨(20 * (G + L) + 1).toNat, by omega⟩
  refine HC_norm ?_
  refine HC_of_W (af := _) ((by exact cfn73 : cfn _ _ _ = some _)) ?_
  simp -implicitDefEqProofs (disch := omega) [c73, List.getElem?_cons_zero, List.getElem?_cons_succ, wrap_id]
  refine loopW N (SeI n es q d s) (wk_norm [0, 1, 2, 3] [0] rfl rfl) ⟨d, s, fun _ => 0, ⟨hdl, hsl, fun v _ => by rw [lapF_zero]; omega, fun v _ => by (try dsimp only); omega, fun v _ => by (try dsimp only); omega, rfl, hd0⟩, by rw [sumN_zero]; simp, rfl⟩ ?_
  rintro j st hj ⟨d', s', f, hS, hjf, rfl⟩
  obtain ⟨hfb, hdb, hsb⟩ := hS.bounds hM hq hd0 hG hL hGL hs hS0
  have hdl' := hS.dl
  have hsl' := hS.sl
  have hjN : j < N := by
    have h1 := sumN_le (f := f) (g := fun _ => 4 * (G + L)) (k := n) fun v hv => by have := hfb v hv; omega
    have h2 : ∀ k, sumN (fun _ => 4 * (G + L)) k = k * (4 * (G + L)) := fun k => by
      induction k with
      | zero => simp [sumN]
      | succ k ih => simp only [sumN, ih]; rw [show ((k + 1 : Nat) : Int) = (k : Int) + 1 by omega, Int.add_mul]; omega
    rw [h2] at h1
    have h3 : (n : Int) * (4 * (G + L)) ≤ 5 * (4 * (G + L)) := Int.mul_le_mul_of_nonneg_right (by omega) (by omega)
    omega
  simp -implicitDefEqProofs (disch := omega) [List.getElem?_cons_zero, List.getElem?_cons_succ, wrap_id]
  refine unburnt_hc hr (by omega) hel hq hdl' hsl' fun k hag hall => ?_
  obtain ⟨B, hBd⟩ : ∃ B, B = bS n es q d' k := ⟨_, rfl⟩
  have hBl : B.length = n := by rw [hBd, bS_len]
  have hBq : B.getD q false = true := by rw [hBd]; exact bS_q hq k
  have hend := fun v (hv : v < n) => bS_end hag hv
  have hred := bS_red (k := k) hg hq hS.pd
  rw [← hBd] at hend hred ⊢
  cases hany : B.any (!·) with
  | false =>
    simp -implicitDefEqProofs (disch := omega) [List.getElem?_cons_zero, List.getElem?_cons_succ, wrap_id, hBl]
    exact finH trivial rfl ⟨[0, 1, 2, 3], rfl, hK _ d' s' f hS (hred hany)⟩
  | true =>
    obtain ⟨l, hl⟩ : ∃ l, l = B.map (!·) := ⟨_, rfl⟩
    have hll : l.length = n := by rw [hl, List.length_map, hBl]
    have hlg : ∀ v, v < n → l.getD v false = !B.getD v false := fun v hv => by rw [hl]; exact notB_get hBl hv
    have hlq : l.getD q false = false := by rw [hlg q hq, hBq]; rfl
    have hjl : ∀ v, v < n → joinsF v (fun x => !l.getD x.toNat false) es = joinsF v (fun x => B.getD x.toNat false) es := fun v hv => by
      rw [joins_eq hg hv, joins_eq hg hv]
      refine sumN_congr fun u hu => ?_
      have : (!l.getD ((u : Int)).toNat false) = B.getD ((u : Int)).toNat false := by rw [Int.toNat_natCast, hlg u hu, Bool.not_not]
      simp only [this]
    rw [← hl]
    simp -implicitDefEqProofs (disch := omega) [List.getElem?_cons_zero, List.getElem?_cons_succ, wrap_id, hll]
    refine loopW n (TsI n es q d' s' l (G + L)) (wk_norm [0, 1, 2, 3, 4, 5] [23, 22, 21, 4, 2, 0] rfl rfl) ⟨0, .inl ⟨rfl, fun w hw => by omega⟩, rfl⟩ ?_
    rintro u st hu ⟨T, hT, rfl⟩
    by_cases hut : u < n
    rotate_left
    · have hun : u = n := by omega
      rw [hun] at hT ⊢
      have hex : ∃ a, a < n ∧ l.getD a false = true := by
        rw [List.any_eq_true] at hany
        obtain ⟨y, hy, hny⟩ := hany
        obtain ⟨a, ha, rfl⟩ := List.mem_iff_getElem.1 hy
        refine ⟨a, by omega, ?_⟩
        rw [hlg a (by omega), List.getD_eq_getElem?_getD, List.getElem?_eq_getElem ha, Option.getD_some]
        exact hny
      obtain ⟨a, ha, hla⟩ := hex
      obtain ⟨hT1, hTp⟩ : (1 ≤ T ∧ T ≤ G + L) ∧ ∀ w, w < n → l.getD w false = true → T * joinsF w (fun x => !l.getD x.toNat false) es ≤ d'.getD w 0 := by
        rcases hT with ⟨h1, h2⟩ | h
        · exfalso
          obtain ⟨u', w, hu', hw, hAu, hAw, hj1⟩ := edge_out hg hp (fun v => l.getD v false) ha hq hla hlq
          have h3 : outF n (joinE es) (fun u => l.getD u false) u' = 0 := by rw [← joins_not hg hu']; exact h2 u' hu' hAu
          have h5 : sumN (fun x => if l.getD x false = true then 0 else joinE es u' x) n = 0 := h3
          have h4 := sumN_term (f := fun x => if l.getD x false = true then 0 else joinE es u' x) (k := n) (v := w) (fun x _ => by have := hM.nn u' x; split <;> omega) hw
          rw [if_neg (by rw [hAw]; simp)] at h4
          omega
        · exact h
      have hS2 := hS.next hg hlq (T := T) (by omega) fun w hw hlw => by rw [← joins_not hg hw]; exact hTp w hw hlw
      obtain ⟨-, hdb3, hsb3⟩ := hS2.bounds hM hq hd0 hG hL hGL hs hS0
      have hsum : 1 ≤ sumN (indB l) n := by
        have := sumN_term (f := indB l) (k := n) (v := a) (fun x _ => by unfold indB; split <;> omega) ha
        unfold indB at this
        rw [if_pos hla] at this
        exact this
      have hnn : ¬ n < n := by omega
      simp -implicitDefEqProofs (disch := omega) [List.getElem?_cons_zero, List.getElem?_cons_succ, wrap_id, hll, hnn]
      refine fire_hc hr (by omega) hel hdl' hsl' (o := 4) (by omega) hll (by omega) (hdb.mono (by omega)) (hsb.mono (by omega)) (hdb3.mono (by omega)) (hsb3.mono (by omega)) (FH.of n es q 0 d' s' [rowB l, .box (.os 4 0 n)]) rfl fun r H' hF' hR' => ?_
      simp -implicitDefEqProofs (disch := omega) [List.getElem?_cons_zero, List.getElem?_cons_succ, wrap_id]
      refine round_end [0, 1, 2, 3] [0] hjN hF'.ok4 ⟨_, _, _, hS2, ?_, ?_⟩
      · rw [sumN_add, sumN_mul]
        have := Int.mul_le_mul_of_nonneg_right hT1.1 (show 0 ≤ sumN (indB l) n by omega)
        omega
      · show St.mk _ (renH [0, 1, 2, 3] H') = _
        rw [hF'.ren4]
        rfl
    have hul : u < l.length := by omega
    have hud : u < d'.length := by omega
    have hgl : l.getD u false = l[u] := by simp [List.getD, hul]
    have hgd : d'.getD u 0 = d'[u] := getD_get hud
    cases hlu : l[u] with
    | false =>
      simp -implicitDefEqProofs (disch := omega) [List.getElem?_cons_zero, List.getElem?_cons_succ, wrap_id, hut, hul, hll, hlu]
      refine round_end [0, 1, 2, 3, 4, 5] [23, 22, 21, 4, 2, 0] hut rfl ⟨T, ?_, rfl⟩
      have hnu : ¬ l.getD u false = true := by rw [hgl, hlu]; simp
      rcases hT with ⟨h1, h2⟩ | ⟨h1, h2⟩
      · exact .inl ⟨h1, fun w hw hlw => by
          by_cases e : w = u
          · subst e; exact absurd hlw hnu
          · exact h2 w (by omega) hlw⟩
      · exact .inr ⟨h1, fun w hw hlw => by
          by_cases e : w = u
          · subst e; exact absurd hlw hnu
          · exact h2 w (by omega) hlw⟩
    | true =>
      obtain ⟨jn, hjn⟩ : ∃ jn, jn = joinsF u (fun x => !l.getD x.toNat false) es := ⟨_, rfl⟩
      have hj1 := joinsF_bd hr u (fun x => !l.getD x.toNat false)
      rw [← hjn] at hj1
      have hlu' : l.getD u false = true := by rw [hgl, hlu]
      have hdj : jn ≤ d'[u] := by
        rw [hjn, hjl u hut, ← hgd]
        refine hend u hut ?_
        rw [hlg u hut] at hlu'
        simpa using hlu'
      have hdb2 := hdb.get hud
      simp -implicitDefEqProofs (disch := omega) [List.getElem?_cons_zero, List.getElem?_cons_succ, wrap_id, hut, hul, hll, hlu]
      refine ro_joins hr (by omega) hel hdl' hsl' (by kernel_rfl) (g := fun x => !l.getD x.toNat false) hll (fun w H K h0 hw hK => se1_ok hll w H K h0 hw hK) (by omega) (FH.of n es q 0 d' s' [rowB l, .box (.os 4 0 n)]) (r := 4) rfl rfl ?_
      rw [← hjn]
      by_cases hj0 : 0 < jn
      rotate_left
      · simp -implicitDefEqProofs (disch := omega) [List.getElem?_cons_zero, List.getElem?_cons_succ, wrap_id, hj0, hut]
        refine round_end [0, 1, 2, 3, 4, 5] [23, 22, 21, 4, 2, 0] hut rfl ⟨T, ?_, rfl⟩
        have hjz : jn = 0 := by omega
        rcases hT with ⟨h1, h2⟩ | ⟨h1, h2⟩
        · exact .inl ⟨h1, fun w hw hlw => by
            by_cases e : w = u
            · subst e; rw [← hjn]; exact hjz
            · exact h2 w (by omega) hlw⟩
        · exact .inr ⟨h1, fun w hw hlw => by
            by_cases e : w = u
            · subst e; rw [← hjn, hjz]; omega
            · exact h2 w (by omega) hlw⟩
      obtain ⟨Q, hQ⟩ : ∃ Q, Q = d'[u].tdiv jn := ⟨_, rfl⟩
      have hQ1 : 1 ≤ Q ∧ Q * jn ≤ d'[u] ∧ Q ≤ d'[u] := by
        rw [hQ, Int.tdiv_eq_ediv_of_nonneg (by omega)]
        have h1 : 1 ≤ d'[u] / jn := (Int.le_ediv_iff_mul_le hj0).2 (by omega)
        have h2 : d'[u] / jn * jn ≤ d'[u] := Int.ediv_mul_le _ (by omega)
        have h3 : d'[u] / jn * 1 ≤ d'[u] / jn * jn := Int.mul_le_mul_of_nonneg_left (by omega) (by omega)
        omega
      have hjz : ¬ jn = 0 := by omega
      have hless : ∀ T', 0 ≤ T' → T' ≤ Q → T' * jn ≤ d'[u] := fun T' h0 hT' => by
        have := Int.mul_le_mul_of_nonneg_right hT' (show 0 ≤ jn by omega)
        omega
      rcases hT with ⟨h1, h2⟩ | ⟨h1, h2⟩
      · subst h1
        simp -implicitDefEqProofs (disch := omega) [List.getElem?_cons_zero, List.getElem?_cons_succ, wrap_id, hj0, hjz, hut, hud, hdl', ← hQ]
        refine round_end [0, 1, 2, 3, 4, 5] [23, 22, 21, 4, 2, 0] hut rfl ⟨Q, .inr ⟨by omega, fun w hw hlw => ?_⟩, rfl⟩
        by_cases e : w = u
        · subst e; rw [← hjn, hgd]; exact hQ1.2.1
        · rw [h2 w (by omega) hlw, Int.mul_zero]
          refine hS.pd w (by omega) fun e2 => ?_
          rw [e2, hlq] at hlw; cases hlw
      · have hTz : ¬ T = 0 := by omega
        by_cases hQT : Q < T
        · simp -implicitDefEqProofs (disch := omega) [List.getElem?_cons_zero, List.getElem?_cons_succ, wrap_id, hj0, hjz, hut, hud, hdl', ← hQ, hTz, hQT]
          refine round_end [0, 1, 2, 3, 4, 5] [23, 22, 21, 4, 2, 0] hut rfl ⟨Q, .inr ⟨by omega, fun w hw hlw => ?_⟩, rfl⟩
          by_cases e : w = u
          · subst e; rw [← hjn, hgd]; exact hQ1.2.1
          · have h3 := h2 w (by omega) hlw
            have := Int.mul_le_mul_of_nonneg_right (show Q ≤ T by omega) (joinsF_bd hr w (fun x => !l.getD x.toNat false)).1
            omega
        · simp -implicitDefEqProofs (disch := omega) [List.getElem?_cons_zero, List.getElem?_cons_succ, wrap_id, hj0, hjz, hut, hud, hdl', ← hQ, hTz, hQT]
          refine round_end [0, 1, 2, 3, 4, 5] [23, 22, 21, 4, 2, 0] hut rfl ⟨T, .inr ⟨h1, fun w hw hlw => ?_⟩, rfl⟩
          by_cases e : w = u
          · subst e; rw [← hjn, hgd]; exact hless T (by omega) (by omega)
          · exact h2 w (by omega) hlw
end
end Go.Proofs.Ytolfhldbfeffaaa
end
section
set_option linter.unusedSimpArgs false
set_option linter.unusedVariables false
namespace Go.Proofs.Ytolfhldbfeffaaa
open Go.Abs Go.Sand
/-- The end of a function that leaves objects, its result told by a property. -/
theorem finQ {m0 : Nat} {rs : List ARes} {R : AV → List AO → Prop} {e : AExit} {s : St} {x r : AV} {H' : List AO} (σ : List Nat) (he : match e with | .exit _ => False | _ => True) (hx : resOf s rs = some x) (hσ : okσ σ m0 s.H = true) (e1 : x.ren s.H (idx σ 0) = r) (e2 : renH σ s.H = H') (hR : R r H') : Abs.Fin m0 rs R e s :=
  ⟨he, .inl ⟨s, x, σ, Wk.refl _ _, hx, hσ, by rw [e1, e2]; exact hR⟩⟩
/-- A small connected graph. -/
structure Sm (n : Nat) (es : List Ed) : Prop where
  c : connE n es = 0
  n5 : n ≤ 5
  m7 : (endsL es).length ≤ 7
  el : es.length ≤ 900
theorem Sm.g {n : Nat} {es : List Ed} (h : Sm n es) : GoodG n es := gcheck_ok (conn_good h.c).1
theorem Sm.p {n : Nat} {es : List Ed} (h : Sm n es) : partsN es n = 1 := by have := (conn_good h.c).2; rwa [Int.toNat_natCast] at this
theorem Sm.n1 {n : Nat} {es : List Ed} (h : Sm n es) : 1 ≤ n := by have := h.g.n1; omega
theorem Sm.mg {n : Nat} {es : List Ed} (h : Sm n es) : MG n (joinE es) := mg_of h.g h.p
theorem joinsF_ends {n : Int} (p : Int → Bool) (v : Int) : ∀ {es : List Ed}, (∀ x ∈ es, Right n x) → joinsF v p es ≤ (endsL es).length
  | [], _ => by simp [joinsF, sumI, endsL]
  | x :: es, h => by
    have ih := joinsF_ends p v (es := es) fun y hy => h y (by simp [hy])
    have r := (h x (by simp)).m1
    have e : joinsF v p (x :: es) = (if incB v x && p (x.a + x.b - v) then x.m else 0) + joinsF v p es := rfl
    have e2 : (endsL (x :: es)).length = x.m.toNat + (endsL es).length := by simp [endsL]
    rw [e, e2]
    split <;> omega
theorem Sm.val {n : Nat} {es : List Ed} (h : Sm n es) (v : Nat) (hv : v < n) : sumN (fun u => joinE es v u) n ≤ 7 := by
  have h1 := joinsF_ends (fun _ => true) v h.g.right
  rw [joins_eq h.g hv] at h1
  have h2 := h.m7
  have h3 : sumN (fun u => if (fun (_ : Int) => true) (u : Int) = true then joinE es v u else 0) n = sumN (fun u => joinE es v u) n := sumN_congr fun u _ => if_pos rfl
  rw [h3] at h1
  omega
/-- What reducing leaves. -/
structure RedOk (n : Nat) (es : List Ed) (q : Nat) (d d' s' : List Int) : Prop where
  dl : d'.length = n
  sl : s'.length = n
  eq : Equi n (joinE es) (fun v => d.getD v 0) (fun v => d'.getD v 0)
  red : RedF n (joinE es) q (fun v => d'.getD v 0)
  db : AbsLe 1048576 d'
  sb : AbsLe 1048576 s'
def RedR (n : Nat) (es : List Ed) (q : Nat) (d : List Int) (r : AV) (HR : List AO) : Prop := ∃ d' s', RedOk n es q d d' s' ∧ r = .tup [.os 0 0 n, .os 1 0 n, .i 0] ∧ HR = [rowZ d', rowZ s']
theorem dcheck_zero {d : List Int} {n : Nat} (h1 : 1 ≤ n ∧ n ≤ 12) (hl : d.length = n) (h : AbsLe 1048576 d) : dcheck d n = 0 := by
  unfold dcheck
  rw [if_neg (by omega), if_neg (by omega), if_pos]
  rw [List.all_eq_true]
  intro x hx
  obtain ⟨i, hi, rfl⟩ := List.mem_iff_getElem.1 hx
  have := h.get hi
  simp only [inB, decide_eq_true_eq, Bool.and_eq_true]
  omega
theorem sum_bd {B : Int} (hB : 0 ≤ B) {d : Nat → Int} : ∀ {k : Nat}, (∀ v, v < k → d v ≤ B) → sumN d k ≤ k * B
  | 0, _ => by simp [sumN]
  | k + 1, h => by
    have h1 := sum_bd hB (d := d) (k := k) fun v hv => h v (by omega)
    have h2 := h k (by omega)
    simp only [sumN]
    rw [show ((k + 1 : Nat) : Int) = (k : Int) + 1 by omega, Int.add_mul]
    omega
theorem red_small {n : Nat} {es : List Ed} (hg : GoodG n es) {V : Int} (hval : ∀ v, v < n → sumN (fun u => joinE es v u) n ≤ V) {q : Nat} {D : Nat → Int} (hD : RedF n (joinE es) q D) {v : Nat} (hv : v < n) (hvq : v ≠ q) : 0 ≤ D v ∧ D v < V := by
  refine ⟨hD.1 v hv hvq, ?_⟩
  obtain ⟨w, hw, hAw, hlt⟩ := hD.2 (fun u => decide (u = v)) (by simpa using fun e => hvq e.symm) ⟨v, hv, by simp⟩
  simp only [decide_eq_true_eq] at hAw
  subst hAw
  have h2 := hval w hw
  have h3 : outF n (joinE es) (fun u => decide (u = w)) w ≤ sumN (fun u => joinE es w u) n := sumN_le fun u _ => by
    have := (joinE_bd hg w u).1
    split <;> omega
  omega
/-- The script that leads to the reduced divisor is small. -/
theorem way_small {n : Nat} {es : List Ed} (hs : Sm n es) {q : Nat} (hq : q < n) {D E t : Nat → Int} {B : Int} (hB : 0 ≤ B) (hD : ∀ v, v < n → -B ≤ D v ∧ D v ≤ B) (hE : RedF n (joinE es) q E) (ht : ∀ v, v < n → E v = D v + lapF n (joinE es) t v) : ∀ v, v < n → t v - t q ≤ 4 * (5 * B) ∧ t q - t v ≤ 4 * (5 * (B + 7)) := by
  have hM := hs.mg
  have hn := hs.n5
  have hA : ∀ (A : Nat → Bool) (f : Nat → Int) (C : Int), 0 ≤ C → (∀ v, v < n → A v = true → f v ≤ C) → sumN (fun v => if A v = true then f v else 0) n ≤ 5 * C := fun A f C hC h => by
    have h1 := sum_bd hC (d := fun v => if A v = true then f v else 0) (k := n) fun v hv => by
      split
      · rename_i hh; exact h v hv hh
      · exact hC
    have h2 : (n : Int) * C ≤ 5 * C := Int.mul_le_mul_of_nonneg_right (by omega) hC
    omega
  have h1 := flow_bound hM hq (s := t) (D := 5 * B) (by omega) fun A hAq => by
    rw [← sumN_neg']
    have e : sumN (fun v => -(if A v = true then lapF n (joinE es) t v else 0)) n = sumN (fun v => if A v = true then D v - E v else 0) n := sumN_congr fun v hv => by
      have := ht v hv
      split <;> omega
    rw [e]
    refine hA A _ B hB fun v hv hAv => ?_
    have h2 := hD v hv
    have h3 := hE.1 v hv fun e => by rw [e, hAq] at hAv; cases hAv
    omega
  have h2 := flow_bound hM hq (s := fun u => - t u) (D := 5 * (B + 7)) (by omega) fun A hAq => by
    rw [← sumN_neg']
    have e : sumN (fun v => -(if A v = true then lapF n (joinE es) (fun u => - t u) v else 0)) n = sumN (fun v => if A v = true then E v - D v else 0) n := sumN_congr fun v hv => by
      have := ht v hv
      rw [lapF_neg]
      split <;> omega
    rw [e]
    refine hA A _ (B + 7) (by omega) fun v hv hAv => ?_
    have h2 := hD v hv
    have h3 := red_small hs.g hs.val hE hv fun e => by rw [e, hAq] at hAv; cases hAv
    omega
  intro v hv
  have h3 := h1 v hv
  have h4 := h2 v hv
  have h5 : ((n : Int) - 1) * (5 * B) ≤ 4 * (5 * B) := Int.mul_le_mul_of_nonneg_right (by omega) (by omega)
  have h6 : ((n : Int) - 1) * (5 * (B + 7)) ≤ 4 * (5 * (B + 7)) := Int.mul_le_mul_of_nonneg_right (by omega) (by omega)
  omega
theorem zeros_abs (n : Nat) : AbsLe 0 (List.replicate n (0 : Int)) := fun v => by
  rw [List.getD_eq_getElem?_getD, List.getElem?_replicate]
  split <;> simp
set_option maxHeartbeats 1000000 in
theorem reduce_ok {n : Nat} {es : List Ed} (hs : Sm n es) {q : Nat} (hq : q < n) {d : List Int} (hdl : d.length = n) {B : Int} (hB : 0 ≤ B ∧ B ≤ 110) (hdb : AbsLe B d) : PCR Try.prog 61 [G n es, .i q, .is d] (RedR n es q d) := by
  have hn := hs.n5
  have hn1 := hs.n1
  have hg := hs.g
  have hM := hs.mg
  have hd0 := dcheck_zero (by omega) hdl (hdb.mono (by omega))
  have hz := zeros_abs n
  have hzl : (List.replicate n (0 : Int)).length = n := by simp
  refine PCR_of_W cfn61 ?_
  simp -implicitDefEqProofs (disch := omega) [c61, List.getElem?_cons_zero, List.getElem?_cons_succ, wrap_id]
  refine HC_of_PC rfl (given20_ok n es hs.el hs.c q hq d (by omega)) ?_
  simp -implicitDefEqProofs (disch := omega) [List.getElem?_cons_zero, List.getElem?_cons_succ, wrap_id, hd0]
  refine HC_of_PC rfl (begin_ok n es q d hdl (by omega) hn1) ?_
  simp -implicitDefEqProofs (disch := omega) [List.getElem?_cons_zero, List.getElem?_cons_succ, wrap_id]
  have e0 : List.replicate n (PV.v (.int .i64 0)) = (List.replicate n (0 : Int)).map PV.i := by rw [List.map_replicate]
  rw [e0]
  refine lend_hc hg hs.p hn (by have := hs.el; omega) hs.val hq hdl hzl (by omega) hdb hz fun r1 d1 s1 hd1 hs1 ⟨f1, hf1, hg1⟩ hp1 hb1 hb2 => ?_
  have hG : sumN (fun v => d1.getD v 0) n ≤ 5 * B := by
    have h1 : sumN (fun v => d1.getD v 0) n = sumN (fun v => d.getD v 0) n := Equi.deg hM ⟨f1, hf1⟩
    have h2 := sum_bd hB.1 (d := fun v => d.getD v 0) (k := n) fun v _ => (hdb v).2
    have h3 : (n : Int) * B ≤ 5 * B := Int.mul_le_mul_of_nonneg_right (by omega) hB.1
    omega
  simp -implicitDefEqProofs (disch := omega) [List.getElem?_cons_zero, List.getElem?_cons_succ, wrap_id]
  refine settle_hc hg hs.p hn (by have := hs.el; omega) hq hd1 hs1 hp1 hG (L := 4096 * B) (by have := hb1 q; omega) (by omega) hb2 (by omega) (by omega) (by omega) fun r2 d2 s2 f2 hS hred => ?_
  obtain ⟨hfb, hdb2, hsb2⟩ := hS.bounds hM hq hp1 hG (L := 4096 * B) (by have := hb1 q; omega) (by omega) hb2 (by omega)
  have hnB : ((n : Int) - 1) * (5 * B + 4096 * B) ≤ 4 * (5 * B + 4096 * B) := Int.mul_le_mul_of_nonneg_right (by omega) (by omega)
  have ht : ∀ v, v < n → d2.getD v 0 = d.getD v 0 + lapF n (joinE es) (fun u => f1 u + f2 u) v := fun v hv => by
    rw [lapF_add, hS.df v hv, hf1 v hv]; omega
  have hsv : ∀ v, v < n → s2.getD v 0 = f1 v + f2 v := fun v hv => by
    rw [hS.sf v hv, hg1 v hv]
    have : (List.replicate n (0 : Int)).getD v 0 = 0 := by have := hz v; omega
    omega
  have hws := way_small hs hq hB.1 (D := fun v => d.getD v 0) (t := fun u => f1 u + f2 u) (fun v _ => hdb v) hred ht
  obtain ⟨w, hw⟩ : ∃ w, w = s2.getD q 0 := ⟨_, rfl⟩
  have hsm : AbsLe 1048576 (s2.map (· - w)) := fun v => by
    by_cases hv : v < n
    · have h1 : (s2.map (· - w)).getD v 0 = s2.getD v 0 - w := by
        rw [List.getD_eq_getElem?_getD, List.getElem?_map, List.getD_eq_getElem?_getD, List.getElem?_eq_getElem (by rw [hS.sl]; exact hv)]
        rfl
      have h2 := hws v hv
      have h3 := hsv v hv
      have h4 := hsv q hq
      rw [h1]
      omega
    · rw [List.getD_eq_getElem?_getD, List.getElem?_eq_none (by rw [List.length_map, hS.sl]; omega)]
      simp
  simp -implicitDefEqProofs (disch := omega) [List.getElem?_cons_zero, List.getElem?_cons_succ, wrap_id]
  refine result_hc (by omega) hq hS.dl hS.sl (hsb2.mono (by omega)) hw (dcheck_zero (by omega) hS.dl (hdb2.mono (by omega))) (dcheck_zero (by omega) (by rw [List.length_map, hS.sl]) hsm) ?_
  simp -implicitDefEqProofs (disch := omega) [List.getElem?_cons_zero, List.getElem?_cons_succ, wrap_id]
  exact finQ [2, 3] trivial rfl rfl rfl rfl ⟨d2, s2.map (· - w), ⟨hS.dl, by rw [List.length_map, hS.sl], ⟨_, ht⟩, hred, hdb2.mono (by omega), hsm⟩, rfl, rfl⟩
end Go.Proofs.Ytolfhldbfeffaaa
end
