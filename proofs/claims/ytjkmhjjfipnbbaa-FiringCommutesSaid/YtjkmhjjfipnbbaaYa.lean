/-
  Plain laws of chapter 18: what is played in whatever order.
-/
import Derived.Test.YtjkmhjjfipnbbaaTxa
set_option linter.unusedSimpArgs false
set_option linter.unusedVariables false
namespace Go.Proofs.Ytjkmhjjfipnbbaa
open Go.Abs Go.Sand

def cV (ms : List Int) (i : Nat) : Int := sumI (ms.map fun v => if v = (i : Int) then 1 else 0)
theorem cV_rev (i : Nat) : ∀ ms : List Int, cV ms.reverse i = cV ms i
  | [] => rfl
  | v :: ms => by
    have ih := cV_rev i ms
    unfold cV at ih ⊢
    rw [List.reverse_cons, List.map_append, sumI_append, ih]
    simp only [List.map_cons, List.map_nil, sumI]
    omega
theorem cnt_fold {n : Nat} : ∀ (ms s : List Int), (∀ x ∈ ms, 0 ≤ x ∧ x < (n : Int)) → s.length = n → (ms.foldl (fun s v => s.set v.toNat (s.getD v.toNat 0 + 1)) s).length = n ∧ ∀ i, i < n → (ms.foldl (fun s v => s.set v.toNat (s.getD v.toNat 0 + 1)) s).getD i 0 = s.getD i 0 + cV ms i
  | [], s, _, hs => ⟨hs, fun i hi => by simp [cV, sumI]⟩
  | v :: ms, s, hm, hs => by
    have hv := hm v (by simp)
    obtain ⟨h1, h2⟩ := cnt_fold ms (s.set v.toNat (s.getD v.toNat 0 + 1)) (fun x hx => hm x (by simp [hx])) (by simpa using hs)
    refine ⟨h1, fun i hi => ?_⟩
    rw [List.foldl_cons, h2 i hi, getD_set]
    have e : cV (v :: ms) i = (if v = (i : Int) then 1 else 0) + cV ms i := rfl
    rw [e]
    by_cases hvi : v = (i : Int)
    · rw [if_pos hvi]
      have : v.toNat = i := by omega
      rw [this, if_pos (by omega)]
      omega
    · rw [if_neg hvi, if_neg (by omega)]
      omega
theorem cntL_get {n : Nat} {ms : List Int} (hm : ∀ x ∈ ms, 0 ≤ x ∧ x < (n : Int)) : (cntL n ms).length = n ∧ ∀ i, i < n → (cntL n ms).getD i 0 = cV ms i := by
  obtain ⟨h1, h2⟩ := cnt_fold ms (List.replicate n 0) hm (by simp)
  refine ⟨h1, fun i hi => ?_⟩
  have := h2 i hi
  rw [zero_getD, Int.zero_add] at this
  exact this
theorem cntL_rev {n : Nat} {ms : List Int} (hm : ∀ x ∈ ms, 0 ≤ x ∧ x < (n : Int)) : cntL n ms.reverse = cntL n ms := by
  obtain ⟨a1, a2⟩ := cntL_get hm
  obtain ⟨b1, b2⟩ := cntL_get (n := n) (ms := ms.reverse) fun x hx => hm x (by simpa using hx)
  refine ext_getD (by rw [a1, b1]) fun i hi => ?_
  rw [b1] at hi
  rw [b2 i hi, a2 i hi, cV_rev]
set_option maxRecDepth 20000 in
theorem play_end {n : Nat} {es : List Ed} (hg : ∀ x ∈ es, Right n x) (hw : sumI (es.map (·.m)) ≤ 9) : ∀ (ms d : List Int) (i : Nat), (∀ x ∈ ms, 0 ≤ x ∧ x < (n : Int)) → d.length = n → (∀ j, -(1000 - 9 * ms.length) ≤ d.getD j 0 ∧ d.getD j 0 ≤ 1000 - 9 * ms.length) →
    (playL n es d ms i).2.2 = 18 ∨ playL n es d ms i = (movedE es (cntL n ms) d, i + ms.length, 0)
  | [], d, i, _, hd, _ => by
    have e : movedE es (cntL n []) d = d := moved_same_all hg 0 hd (fun i hi => zero_getD n i)
    refine .inr ?_
    rw [e]
    exact (Prod.mk.injEq _ _ _ _).mpr ⟨rfl, rfl⟩
  | v :: ms, d, i, hm, hd, hb => by
    have hv := hm v (by simp)
    cases hmay : mayB es d v
    · rw [playL_no hmay]; exact .inl rfl
    have h1 : ∀ x ∈ [v], 0 ≤ x ∧ x < (n : Int) := by simpa using hv
    have hof := fun i hi => ofL_at (n := n) (l := [v]) 1 h1 i hi
    have hsp : ∀ a b, a < n → b < n → (ofL n [v] 1).getD a 0 - (ofL n [v] 1).getD b 0 ≤ 1 := fun a b ha hb => by
      rw [hof a ha, hof b hb]; split <;> split <;> omega
    have hdb := dif_bd hg (B := 1) (by omega) hsp
    have hmd := moved_dif hg (ofL n [v] 1) d hd
    have hdl : (movedE es (ofL n [v] 1) d).length = n := by rw [movedE_length, hd]
    have hlen : ((v :: ms).length : Int) = ms.length + 1 := by simp
    have hin : bndE (movedE es (ofL n [v] 1) d) = 0 := by
      rw [bndE, if_pos]
      refine all_inB fun j hj => ?_
      have := hb j
      have := hdb j
      rw [hmd j]
      omega
    rw [playL_go hmay hin]
    rcases play_end hg hw ms (movedE es (ofL n [v] 1) d) (i + 1) (fun x hx => hm x (by simp [hx])) hdl (fun j => by
      have := hb j
      have := hdb j
      rw [hmd j]
      omega) with h | h
    · exact .inl h
    · refine .inr ?_
      rw [h, moved_two hg (u := cntL n (v :: ms)) 0 hd fun j hj => ?_]
      · simp only [List.length_cons, Prod.mk.injEq, true_and, and_true]; omega
      · rw [(cntL_get hm).2 j hj, (cntL_get (ms := ms) fun x hx => hm x (by simp [hx])).2 j hj, hof j hj]
        have e : cV (v :: ms) j = (if v = (j : Int) then 1 else 0) + cV ms j := rfl
        rw [e]
        simp only [List.mem_singleton, @eq_comm _ (j : Int) v]
        omega
end Go.Proofs.Ytjkmhjjfipnbbaa
