/-
  Texts joined: Rak Moa Go.
-/
import Derived.Test.YtolfhldbfeffaaaKf26
import Derived.Deep.Strs
import Derived.ChangeArms
import Derived.WalkKit
import Derived.ProofKit
import Derived.OpenShut
import Derived.ChangeOld
import Derived.Below
import Derived.WideShapes
import Derived.Test.YtolfhldbfeffaaaRows
section
set_option linter.unusedSimpArgs false
set_option linter.unusedVariables false
namespace Go.Proofs.Ytolfhldbfeffaaa
open Go.Abs Go.Sand
/-- The least number from 1 that a list of ascending numbers leaves out, as it is counted. -/
def lowF (p : Nat) (x : Int) : Nat := if x = p then p + 1 else p
theorem low_gap (l : Nat → Int) : ∀ K, (1 ≤ (gapL l K).foldl lowF 1 ∧ (gapL l K).foldl lowF 1 ≤ K + 1) ∧ (∀ k, 1 ≤ k → k < (gapL l K).foldl lowF 1 → k ≤ K ∧ l k = l (k - 1)) ∧ ((gapL l K).foldl lowF 1 ≤ K → l ((gapL l K).foldl lowF 1) ≠ l ((gapL l K).foldl lowF 1 - 1))
  | 0 => ⟨⟨Nat.le_refl _, Nat.le_refl _⟩, fun k h1 h2 => by simp [gapL] at h2; omega, fun h => by simp [gapL] at h⟩
  | K + 1 => by
    obtain ⟨⟨h1, h2⟩, h3, h4⟩ := low_gap l K
    rw [gapL, List.foldl_append]
    obtain ⟨p, hp⟩ : ∃ p, p = (gapL l K).foldl lowF 1 := ⟨_, rfl⟩
    rw [← hp] at h1 h2 h3 h4 ⊢
    by_cases he : l (K + 1) = l K
    · rw [if_pos he]
      simp only [List.foldl_cons, List.foldl_nil, lowF]
      by_cases hpk : p = K + 1
      · subst hpk
        rw [if_pos rfl]
        refine ⟨⟨by omega, by omega⟩, fun k a b => ?_, fun h => by omega⟩
        by_cases e : k = K + 1
        · subst e; exact ⟨Nat.le_refl _, he⟩
        · have := h3 k a (by omega); exact ⟨by omega, this.2⟩
      · rw [if_neg (by omega)]
        exact ⟨⟨h1, by omega⟩, fun k a b => ⟨by have := (h3 k a b).1; omega, (h3 k a b).2⟩, fun h => h4 (by omega)⟩
    · rw [if_neg he]
      simp only [List.foldl_nil]
      refine ⟨⟨h1, by omega⟩, fun k a b => ⟨by have := (h3 k a b).1; omega, (h3 k a b).2⟩, fun h => ?_⟩
      by_cases hpk : p = K + 1
      · subst hpk; exact he
      · exact h4 (by omega)
theorem low_le (L : List Int) : ∀ p, L.foldl lowF p ≤ p + L.length := by
  induction L with
  | nil => intro p; simp
  | cons x L ih =>
    intro p
    rw [List.foldl_cons, List.length_cons]
    have h1 := ih (lowF p x)
    have h2 : lowF p x ≤ p + 1 := by unfold lowF; split <;> omega
    omega
theorem tri40_sm : Sm 3 tri20 := ⟨by decide, by decide, by decide, by decide⟩
theorem tri40_kan : sumN (kanF 3 (joinE tri20)) 3 = 2 * 1 - 2 := by decide
theorem tri40_rank {p : Nat} (hp : 1 ≤ p) (hp5 : p ≤ 5) {d : List Int} (hd : d ∈ allL 3 p) : Rk1 3 tri20 d ↔ 2 ≤ p := by
  obtain ⟨h1, h2, h3, h4⟩ := allL_mem (by decide) (by decide) hp5 hd
  have hds := deg_sum h1
  have h5 := rank_high tri40_sm.mg (by decide) (D := fun v => d.getD v 0) tri40_kan (by omega) (by omega)
  have h6 := h5.ge (by decide) 1
  rw [Rk1, h6]
  omega
theorem tri40_first : [(0 : Int), 0, 2] ∈ allL 3 2 := by decide
theorem pgon_ok : PC Try.prog 6 [] (.b true) [] := by
  refine PC_of_W cfn6 ?_
  simp -implicitDefEqProofs (disch := omega) [c6, List.getElem?_cons_zero, List.getElem?_cons_succ, wrap_id]
  refine HC_of_PC rfl (tri20_ok) ?_
  simp -implicitDefEqProofs (disch := omega) [List.getElem?_cons_zero, List.getElem?_cons_succ, wrap_id]
  refine HC_of_PCR (ps := [G 3 tri20]) rfl (gon_ok tri40_sm) ?_
  rintro r HR ⟨k, d, ⟨h1, h2⟩, h3, ⟨h4, h5⟩, rfl, rfl⟩
  have h2' : k ≤ 3 := h2
  have hk2 : 2 ≤ k := (tri40_rank h1 (by omega) h4).1 h5
  have hk : k = 2 := by
    refine Classical.byContradiction fun h => h3 2 (by decide) (by omega) _ tri40_first ?_
    exact (tri40_rank (by decide) (by decide) tri40_first).2 (by decide)
  subst hk
  simp -implicitDefEqProofs (disch := omega) [List.getElem?_cons_zero, List.getElem?_cons_succ, wrap_id]
  (refine fin0 trivial rfl ?_; simp -implicitDefEqProofs (disch := omega) [List.getElem?_cons_zero, List.getElem?_cons_succ, idx, wrap_id])
theorem rgenus40_ok (n : Nat) (es : List Ed) (hg : GoodG n es) (hel : es.length ≤ 900) : PC Try.prog 10 [G n es] (.i (genI n es)) [] := by
  have h1 := hg.n12
  have h2 := endsL_take_len hg.right (by omega) es.length
  rw [List.take_length] at h2
  have h3 : partsN es n ≤ n := by
    unfold partsN
    exact Nat.le_trans (List.length_filter_le _ _) (by simp)
  have e : ((endsL es).length : Int) - n + (partsN es n : Nat) = genI n es := by unfold genI; simp
  refine PC_of_W cfn10 ?_
  simp -implicitDefEqProofs (disch := omega) [c10, List.getElem?_cons_zero, List.getElem?_cons_succ, wrap_id]
  refine HC_of_PC rfl (size_ok n es hg.right (by omega)) ?_
  simp -implicitDefEqProofs (disch := omega) [List.getElem?_cons_zero, List.getElem?_cons_succ, wrap_id]
  refine HC_of_PC rfl (rparts_ok n es (by omega) hg.right (by omega)) ?_
  simp -implicitDefEqProofs (disch := omega) [List.getElem?_cons_zero, List.getElem?_cons_succ, wrap_id, e]
  (refine fin0 trivial rfl ?_; simp -implicitDefEqProofs (disch := omega) [List.getElem?_cons_zero, List.getElem?_cons_succ, idx, wrap_id])
set_option maxHeartbeats 1000000 in
theorem gaps_law (N : Int) (es : List Ed) (v : Int) : PC Try.prog 3 [G N es, .i v] (.b true) [] := by
  refine PC_of_W cfn3 ?_
  simp -implicitDefEqProofs (disch := omega) [c3, List.getElem?_cons_zero, List.getElem?_cons_succ, wrap_id]
  refine HC_of_PC rfl (plain_ok N es) ?_
  cases hp : plainB N es
  · simp -implicitDefEqProofs (disch := omega) [List.getElem?_cons_zero, List.getElem?_cons_succ, wrap_id]
    refine HC_of_PC rfl (pgon_ok) ?_
    simp -implicitDefEqProofs (disch := omega) [List.getElem?_cons_zero, List.getElem?_cons_succ, wrap_id]
    (refine fin0 trivial rfl ?_; simp -implicitDefEqProofs (disch := omega) [List.getElem?_cons_zero, List.getElem?_cons_succ, idx, wrap_id])
  by_cases hv0 : v < 0
  · simp -implicitDefEqProofs (disch := omega) [List.getElem?_cons_zero, List.getElem?_cons_succ, wrap_id, hv0]
    refine HC_of_PC rfl (pgon_ok) ?_
    simp -implicitDefEqProofs (disch := omega) [List.getElem?_cons_zero, List.getElem?_cons_succ, wrap_id]
    (refine fin0 trivial rfl ?_; simp -implicitDefEqProofs (disch := omega) [List.getElem?_cons_zero, List.getElem?_cons_succ, idx, wrap_id])
  by_cases hvn : N ≤ v
  · simp -implicitDefEqProofs (disch := omega) [List.getElem?_cons_zero, List.getElem?_cons_succ, wrap_id, hv0, hvn]
    refine HC_of_PC rfl (pgon_ok) ?_
    simp -implicitDefEqProofs (disch := omega) [List.getElem?_cons_zero, List.getElem?_cons_succ, wrap_id]
    (refine fin0 trivial rfl ?_; simp -implicitDefEqProofs (disch := omega) [List.getElem?_cons_zero, List.getElem?_cons_succ, idx, wrap_id])
  obtain ⟨n, rfl, hc, hgg, hlp, hel, hm7, hn1, hn5⟩ := plain_at hp
  have hs : Sm n es := ⟨hc, hn5, hm7, by omega⟩
  obtain ⟨v, rfl⟩ : ∃ u : Nat, v = u := ⟨v.toNat, by omega⟩
  have hvn' : v < n := by omega
  simp -implicitDefEqProofs (disch := omega) [List.getElem?_cons_zero, List.getElem?_cons_succ, wrap_id, hv0, hvn]
  refine HC_of_PCR rfl (gon_ok hs) ?_
  rintro r HR ⟨k, d, ⟨h1, h2⟩, h3, ⟨h4, h5⟩, rfl, rfl⟩
  simp -implicitDefEqProofs (disch := omega) [List.getElem?_cons_zero, List.getElem?_cons_succ, wrap_id]
  obtain ⟨K, hK⟩ : ∃ K : Nat, (K : Int) = max 0 (2 * genE n es - 1) := ⟨(max 0 (2 * genE n es - 1)).toNat, by omega⟩
  refine HC_of_PCR rfl (gaps_ok hs hvn' hK) ?_
  rintro r HR ⟨hI, rfl, rfl⟩
  have hlow := low_gap (rkA n es v) K
  obtain ⟨L, hL⟩ : ∃ L, L = gapL (rkA n es v) K := ⟨_, rfl⟩
  have hK12 : K ≤ 11 := by have := gen_le hs; omega
  have hLl : L.length ≤ 11 := by have := gapL_len_le (rkA n es v) K; rw [hL]; omega
  rw [← hL] at hlow ⊢
  simp -implicitDefEqProofs (disch := omega) [List.getElem?_cons_zero, List.getElem?_cons_succ, wrap_id]
  refine loopW L.length (fun j st => st = ⟨[(50, .i j), (49, .i L.length), (48, .p (.is L)), (10, .i ((L.take j).foldl lowF 1 : Nat)), (5, .i k), (2, .ptr 0 1 0 0), (1, .i v)], [.box (.p (G n es))]⟩) (wk_norm [0] [50, 49, 48, 10, 5, 2, 1] rfl rfl) (by show _ = _; simp [Abs.norm, Abs.get, AV.ren, AO.ren, Abs.idx]) ?_
  rintro j st hj rfl
  have hlb := low_le (L.take j) 1
  rw [List.length_take] at hlb
  by_cases hlt : j < L.length
  · have hs1 : (L.take (j + 1)).foldl lowF 1 = lowF ((L.take j).foldl lowF 1) L[j] := by rw [List.take_succ_eq_append_getElem hlt, List.foldl_append]; rfl
    obtain ⟨p, hp⟩ : ∃ p, p = (L.take j).foldl lowF 1 := ⟨_, rfl⟩
    rw [← hp] at hs1 hlb ⊢
    obtain ⟨x, hx⟩ : ∃ x, x = L[j] := ⟨_, rfl⟩
    rw [← hx] at hs1
    by_cases he : x = p
    · rw [lowF, if_pos he] at hs1
      have he2 : (x = (p : Int)) = True := eq_true he
      simp -implicitDefEqProofs (disch := omega) [List.getElem?_cons_zero, List.getElem?_cons_succ, wrap_id, hlt, ← hx, he2]
      exact round_end [0] [50, 49, 48, 10, 5, 2, 1] hlt rfl (by rw [hs1]; rfl)
    · rw [lowF, if_neg he] at hs1
      have he2 : (x = (p : Int)) = False := eq_false he
      simp -implicitDefEqProofs (disch := omega) [List.getElem?_cons_zero, List.getElem?_cons_succ, wrap_id, hlt, ← hx, he2]
      exact round_end [0] [50, 49, 48, 10, 5, 2, 1] hlt rfl (by rw [hs1]; rfl)
  have hje : j = L.length := by omega
  subst hje
  rw [List.take_length] at hlb ⊢
  obtain ⟨p, hp⟩ : ∃ p, p = L.foldl lowF 1 := ⟨_, rfl⟩
  rw [← hp] at hlow hlb ⊢
  obtain ⟨⟨hp1, hp2⟩, hlow2, hlow3⟩ := hlow
  have hrk : RkGe n (joinE es) (mulF v p) 1 := by
    refine gap_rank hs.mg (by omega) hvn' (gen_kan hs) (l := rkA n es v) (fun j hj => hI j (by omega)) hp1 (fun j a b => ?_) (fun h => hlow3 (by omega))
    have := hlow2 j a b
    exact ⟨by omega, this.2⟩
  have hrk1 : Rk1 n es (atL n v p) := RkGe.equi (Equi.of_eq fun u hu => atL_get hvn' p hu) hrk
  have hkp : k ≤ p := by
    refine Classical.byContradiction fun h => h3 p hp1 (by omega) (atL n v p) ?_ hrk1
    exact allL_at n (by omega) p (by omega) v hvn'
  have hal := atL_len n v p
  have hn6 : n ≤ 1048576 := by omega
  have hrow : AO.row ((List.replicate n (PV.v (Value.int IntKind.i64 0))).set v (PV.v (Value.int IntKind.i64 (p : Int)))) 1 3 false = rowZ (atL n v p) := by simp [atL, rowZ, List.map_set]
  have hv4 : ¬ (v : Int) < 0 := by omega
  have hkp' : (k : Int) ≤ p := by omega
  simp -implicitDefEqProofs (disch := omega) [List.getElem?_cons_zero, List.getElem?_cons_succ, wrap_id, hn6, hvn', hv4]
  rw [hrow]
  refine HC_of_PCR (by simp [views, view, viewC, ownEls, hal]) (rank_ok hs hal (atL_abs (B := 110) (by omega) (by omega))) ?_
  rintro r HR ⟨q, hq, hqr, rfl, rfl⟩
  have hq1 := (hqr.ge (by omega) 1).1 hrk1
  have hq2 : (1 : Int) ≤ q := by omega
  simp -implicitDefEqProofs (disch := omega) [List.getElem?_cons_zero, List.getElem?_cons_succ, wrap_id, hq2, hkp, hkp']
  refine HC_of_PC rfl (pgon_ok) ?_
  simp -implicitDefEqProofs (disch := omega) [List.getElem?_cons_zero, List.getElem?_cons_succ, wrap_id]
  (refine fin0 trivial rfl ?_; simp -implicitDefEqProofs (disch := omega) [List.getElem?_cons_zero, List.getElem?_cons_succ, idx, wrap_id])
set_option maxHeartbeats 1000000 in
theorem ramified_law (N : Int) (es : List Ed) (v : Int) : PC Try.prog 4 [G N es, .i v] (.b true) [] := by
  refine PC_of_W cfn4 ?_
  simp -implicitDefEqProofs (disch := omega) [c4, List.getElem?_cons_zero, List.getElem?_cons_succ, wrap_id]
  refine HC_of_PC rfl (plain_ok N es) ?_
  cases hp : plainB N es
  · simp -implicitDefEqProofs (disch := omega) [List.getElem?_cons_zero, List.getElem?_cons_succ, wrap_id]
    refine HC_of_PC rfl (pgon_ok) ?_
    simp -implicitDefEqProofs (disch := omega) [List.getElem?_cons_zero, List.getElem?_cons_succ, wrap_id]
    (refine fin0 trivial rfl ?_; simp -implicitDefEqProofs (disch := omega) [List.getElem?_cons_zero, List.getElem?_cons_succ, idx, wrap_id])
  by_cases hv0 : v < 0
  · simp -implicitDefEqProofs (disch := omega) [List.getElem?_cons_zero, List.getElem?_cons_succ, wrap_id, hv0]
    refine HC_of_PC rfl (pgon_ok) ?_
    simp -implicitDefEqProofs (disch := omega) [List.getElem?_cons_zero, List.getElem?_cons_succ, wrap_id]
    (refine fin0 trivial rfl ?_; simp -implicitDefEqProofs (disch := omega) [List.getElem?_cons_zero, List.getElem?_cons_succ, idx, wrap_id])
  by_cases hvn : N ≤ v
  · simp -implicitDefEqProofs (disch := omega) [List.getElem?_cons_zero, List.getElem?_cons_succ, wrap_id, hv0, hvn]
    refine HC_of_PC rfl (pgon_ok) ?_
    simp -implicitDefEqProofs (disch := omega) [List.getElem?_cons_zero, List.getElem?_cons_succ, wrap_id]
    (refine fin0 trivial rfl ?_; simp -implicitDefEqProofs (disch := omega) [List.getElem?_cons_zero, List.getElem?_cons_succ, idx, wrap_id])
  obtain ⟨n, rfl, hc, hgg, hlp, hel, hm7, hn1, hn5⟩ := plain_at hp
  have hs : Sm n es := ⟨hc, hn5, hm7, by omega⟩
  obtain ⟨v, rfl⟩ : ∃ u : Nat, v = u := ⟨v.toNat, by omega⟩
  have hvn' : v < n := by omega
  have hge : genI n es = genE n es := by
    have e : llE es = es := List.filter_eq_self.2 fun x hx => by
      have := List.any_eq_false.1 hlp x hx
      simpa [lpB] using this
    rw [← gen_ll hs, e]
  simp -implicitDefEqProofs (disch := omega) [List.getElem?_cons_zero, List.getElem?_cons_succ, wrap_id, hv0, hvn]
  refine HC_of_PC rfl (rgenus40_ok n es hgg (by omega)) ?_
  by_cases hg2 : genI n es < 2
  · simp -implicitDefEqProofs (disch := omega) [List.getElem?_cons_zero, List.getElem?_cons_succ, wrap_id, hg2]
    refine HC_of_PC rfl (pgon_ok) ?_
    simp -implicitDefEqProofs (disch := omega) [List.getElem?_cons_zero, List.getElem?_cons_succ, wrap_id]
    (refine fin0 trivial rfl ?_; simp -implicitDefEqProofs (disch := omega) [List.getElem?_cons_zero, List.getElem?_cons_succ, idx, wrap_id])
  have hal := atL_len n v 2
  have hn6 : n ≤ 1048576 := by omega
  have hv4 : ¬ (v : Int) < 0 := by omega
  have hrow : AO.row ((List.replicate n (PV.v (Value.int IntKind.i64 0))).set v (PV.v (Value.int IntKind.i64 2))) 1 3 false = rowZ (atL n v 2) := by simp [atL, rowZ, List.map_set]
  have hn0 : 0 < n := by omega
  simp -implicitDefEqProofs (disch := omega) [List.getElem?_cons_zero, List.getElem?_cons_succ, wrap_id, hg2, hn6, hvn', hv4]
  rw [hrow]
  refine HC_of_PCR (by simp [views, view, viewC, ownEls, hal]) (rank_ok hs hal (atL_abs (B := 110) (by omega) (by omega))) ?_
  rintro r HR ⟨q, hq, hqr, rfl, rfl⟩
  simp -implicitDefEqProofs (disch := omega) [List.getElem?_cons_zero, List.getElem?_cons_succ, wrap_id]
  have hg6 := gen_le hs
  obtain ⟨g, hg⟩ : ∃ g : Nat, (g : Int) = genE n es := ⟨(genE n es).toNat, by omega⟩
  refine HC_of_PCR rfl (weight_ok hs hvn' (K := 2 * g - 1) (by omega) (by omega)) ?_
  rintro r HR ⟨w, hI, hw, rfl, rfl⟩
  have hwp := weight_pos hs.mg hn0 hvn' (g := g) (by omega) (by rw [gen_kan hs, hg]) hI
  rw [← hg] at hw
  obtain ⟨M, hM⟩ : ∃ M, M = (g : Int) * (g + 1) := ⟨_, rfl⟩
  rw [← hM] at hw hwp
  have hq2 : rkA n es v 2 = q := by
    refine RankIs.unique hn0 (hI 2 (by omega)) ?_
    exact RankIs.equi (Equi.of_eq fun u hu => (atL_get hvn' 2 hu).symm) hqr
  rw [hq2] at hwp
  have hw0 : ¬ w < 0 := by omega
  simp -implicitDefEqProofs (disch := omega) [List.getElem?_cons_zero, List.getElem?_cons_succ, wrap_id]
  refine HC_of_PCR rfl (gon_ok hs) ?_
  rintro r HR ⟨k, d, ⟨h1, h2⟩, h3, ⟨h4, h5⟩, rfl, rfl⟩
  simp -implicitDefEqProofs (disch := omega) [List.getElem?_cons_zero, List.getElem?_cons_succ, wrap_id, hw0]
  by_cases hq1 : q < 1
  · simp -implicitDefEqProofs (disch := omega) [List.getElem?_cons_zero, List.getElem?_cons_succ, wrap_id, hq1]
    refine HC_of_PC rfl (pgon_ok) ?_
    simp -implicitDefEqProofs (disch := omega) [List.getElem?_cons_zero, List.getElem?_cons_succ, wrap_id]
    (refine fin0 trivial rfl ?_; simp -implicitDefEqProofs (disch := omega) [List.getElem?_cons_zero, List.getElem?_cons_succ, idx, wrap_id])
  · have hw1 : 0 < w := by omega
    have hk2 : k ≤ 2 := by
      refine Classical.byContradiction fun h => h3 2 (by decide) (by omega) (atL n v 2) (allL_at n (by omega) 2 (by decide) v hvn') ?_
      exact (hqr.ge hn0 1).2 (by omega)
    have hk2' : (k : Int) ≤ 2 := by omega
    simp -implicitDefEqProofs (disch := omega) [List.getElem?_cons_zero, List.getElem?_cons_succ, wrap_id, hq1, hw1, hk2, hk2']
    refine HC_of_PC rfl (pgon_ok) ?_
    simp -implicitDefEqProofs (disch := omega) [List.getElem?_cons_zero, List.getElem?_cons_succ, wrap_id]
    (refine fin0 trivial rfl ?_; simp -implicitDefEqProofs (disch := omega) [List.getElem?_cons_zero, List.getElem?_cons_succ, idx, wrap_id])
end Go.Proofs.Ytolfhldbfeffaaa
end
section
namespace Go
namespace Abs
open Go.RowKit
section
variable {H : Type} {enc : TypeId × Value → H} {P : Program} {w : World} {base : Nat} {spare : Nat → Bool} {held : Bool} {fuel : Nat} {cs : List Value} {x : DataW H × List MemPlace} {t : TypeId}
/-- What stands in memory now. -/
abbrev Here (w : World) : Nat → Prop := fun b => b < w.heap.size
theorem open_int (ht : P.underlying t = some (.int .i64)) (h : DataW.trod enc P w base spare held fuel t cs = some x) : ∃ n : Int, cs = [.int .i64 n] ∧ RP (Here w) w (.i n) (.int .i64 n) := by
  obtain ⟨n, h1, -, -⟩ := DataW.trod_int ht h
  exact ⟨n, h1, .v _ rfl⟩
theorem addr_plus {a : Addr} (h : a.spot = none) (n : Nat) : a.add n = ⟨a.block, a.off + n, none⟩ := by
  unfold Addr.add
  split
  · rename_i e; subst e; cases a; cases h; rfl
  · rfl
theorem cell_spot {a : Addr} {v : Value} (h : w.cell? a = some v) : a.spot = none ∧ a.block < w.heap.size := by
  unfold World.cell? at h
  split at h
  · rename_i c t' z hb
    split at h
    · cases h
    · rename_i hs
      exact ⟨by cases ha : a.spot; rfl; rw [ha] at hs; exact absurd rfl hs, (Array.getElem?_eq_some_iff.1 hb).1⟩
  · cases h
theorem open_sl {e : TypeId} {β : Type} (g : β → PV) (sz : Nat) (hpos : 0 < sz) (ht : P.underlying t = some (.slice e)) (hc : P.cellsOf e = sz) (hg : ∀ b, (g b).flat.length = sz ∧ ∀ q ∈ (g b).flat, q.one = true)
    (hel : ∀ {fuel : Nat} {cs : List Value} {x : DataW H × List MemPlace}, DataW.trod enc P w base spare held fuel e cs = some x → ∃ b, ∀ i (h : i < (g b).flat.length) (h' : i < cs.length), RP (Here w) w (g b).flat[i] cs[i])
    (h : DataW.trod enc P w base spare held fuel t cs = some x) : ∃ (bs : List β) (v : Value), cs = [v] ∧ RP (Here w) w (.sl (bs.map g)) v := by
  rcases DataW.trod_slice ht h with ⟨h0, -⟩ | ⟨a, len, cap, elems, rest, n, -, rfl, -, -, hl, hm, hlen, hels, -, -⟩
  · refine ⟨[], _, h0, ?_⟩
    exact .sl [] none 0 0 (fun _ _ => undef) (by simp) (by simp) (fun i h => by simp at h) (.inl rfl) (fun i h => by simp at h)
  have each : ∀ i : _root_.Fin len, ∃ p : List Value × β, w.cells? base (a.add (i.1 * P.cellsOf e)) (P.cellsOf e) = some p.1 ∧ ∀ j (h : j < (g p.2).flat.length) (h' : j < p.1.length), RP (Here w) w (g p.2).flat[j] p.1[j] := by
    intro i
    have hb := hels i.1 i.2
    rw [List.getElem?_eq_getElem (by omega), Option.bind_eq_some_iff] at hb
    obtain ⟨cs', h1, h2⟩ := hb
    obtain ⟨b, hb⟩ := hel h2
    exact ⟨⟨cs', b⟩, h1, hb⟩
  obtain ⟨F, hF⟩ : ∃ F : _root_.Fin len → List Value × β, ∀ i, w.cells? base (a.add (i.1 * P.cellsOf e)) (P.cellsOf e) = some (F i).1 ∧ ∀ j (h : j < (g (F i).2).flat.length) (h' : j < (F i).1.length), RP (Here w) w (g (F i).2).flat[j] (F i).1[j] :=
    ⟨fun i => (each i).choose, fun i => (each i).choose_spec⟩
  refine ⟨List.ofFn fun i => (F i).2, _, rfl, ?_⟩
  have hlen' : ((List.ofFn fun i => (F i).2).map g).length = len := by simp
  have hsz : ∀ i, (F i).1.length = sz := fun i => by rw [(World.cells?_some (hF i).1).2.1, hc]
  have hcell : ∀ i : _root_.Fin len, ∀ j (hj : j < sz), w.cell? ((a.add (i.1 * sz)).add j) = some ((F i).1[j]'(by rw [hsz]; exact hj)) := by
    intro i j hj
    have := (World.cells?_some (hF i).1).2.2 j (by rw [hc]; exact hj)
    rw [hc] at this
    rw [this, List.getElem?_eq_getElem]
  have main := RP.sl (S := Here w) (w := w) ((List.ofFn fun i => (F i).2).map g) (some a) cap sz (fun i j => if h : i < len then (F ⟨i, h⟩).1.getD j undef else undef) (by rw [hlen']; exact hl) hm (fun i hi => by
      rw [List.getElem_map]; exact hg _) ?_ ?_
  · rw [hlen'] at main
    exact main
  · rcases Nat.eq_zero_or_pos len with h0 | h0
    · left
      exact List.eq_nil_of_length_eq_zero (by rw [hlen', h0])
    · right
      have h1 := hcell ⟨0, h0⟩ 0 hpos
      simp only [Nat.zero_mul] at h1
      have h2 : a.add 0 = a := rfl
      rw [h2, h2] at h1
      obtain ⟨s1, s2⟩ := cell_spot h1
      refine ⟨a.block, a.off, by cases a; cases s1; rfl, s2, fun i j hi hj => ?_⟩
      rw [hlen'] at hi
      have h3 := hcell ⟨i, hi⟩ j hj
      rw [addr_plus s1, addr_plus rfl] at h3
      rw [dif_pos hi]
      refine h3.trans ?_
      rw [List.getD_eq_getElem?_getD, List.getElem?_eq_getElem]
      rfl
  · intro i hi j hj
    rw [hlen'] at hi
    simp only [List.getElem_map, List.getElem_ofFn] at hj ⊢
    rw [dif_pos hi, List.getD_eq_getElem?_getD, List.getElem?_eq_getElem (by rw [hsz, ← (hg (F ⟨i, hi⟩).2).1]; exact hj)]
    exact (hF ⟨i, hi⟩).2 j hj _
end
end Abs
end Go
/-
  Handed arguments of any shape, as values of the abstract machine.
-/
namespace Go
namespace Abs
open Go.RowKit Go.ChangeShapes Go.WideShapes Go.ChangeAt
/-- Whatever is read at a type is one of these values. -/
structure Opens (P : Program) (t : TypeId) {β : Type} (g : β → PV) : Prop where
  one : ∀ b, ∀ q ∈ (g b).flat, q.one = true
  len : ∀ b, (g b).flat.length = P.cellsOf t
  red : ∀ {H : Type} {enc : TypeId × Value → H} {w : World} {base : Nat} {spare : Nat → Bool} {held : Bool} {fuel : Nat} {cs : List Value} {x : DataW H × List MemPlace},
    DataW.trod enc P w base spare held fuel t cs = some x → ∃ b, RPs (Here w) w (g b).flat cs
theorem flat_agg (l : List PV) : (PV.agg l).flat = l := rfl
section
variable {P : Program} {t : TypeId}
theorem Opens.to {β γ : Type} {g : β → PV} {g' : γ → PV} (h : Opens P t g) (f : β → γ) (k : γ → β) (e : ∀ b, g b = g' (f b)) (e' : ∀ c, g' c = g (k c)) : Opens P t g' := by
  refine ⟨fun b => ?_, fun b => ?_, fun hr => ?_⟩
  · rw [e' b]; exact h.one _
  · rw [e' b]; exact h.len _
  · obtain ⟨b, hb⟩ := h.red hr
    exact ⟨f b, e b ▸ hb⟩
theorem RPs_one {S : Nat → Prop} {w : World} {x : PV} {v : Value} (h : RP S w x v) : RPs S w [x] [v] := ⟨rfl, fun i hi hi' => by
  have : i = 0 := by simp at hi; omega
  subst this; exact h⟩
theorem RPs_app {S : Nat → Prop} {w : World} {a b : List PV} {cs : List Value} (h1 : RPs S w a (cs.take a.length)) (h2 : RPs S w b (cs.drop a.length)) : RPs S w (a ++ b) cs := by
  have l1 := h1.1
  have l2 := h2.1
  simp only [List.length_take, List.length_drop] at l1 l2
  refine ⟨by rw [List.length_append]; omega, fun i hi hi' => ?_⟩
  by_cases hc : i < a.length
  · have := h1.2 i hc (by simp; omega)
    rw [List.getElem_take] at this
    rw [List.getElem_append_left hc]
    exact this
  · have := h2.2 (i - a.length) (by rw [List.length_append] at hi; omega) (by simp; omega)
    rw [List.getElem_append_right (by omega)]
    simp only [List.getElem_drop] at this
    have e : a.length + (i - a.length) = i := by omega
    simp only [e] at this
    exact this
theorem opens_int (ht : P.underlying t = some (.int .i64)) (hc : P.cellsOf t = 1) : Opens P t PV.i := by
  refine ⟨fun b q hq => by simp [PV.flat] at hq; subst hq; rfl, fun b => by rw [hc]; rfl, fun h => ?_⟩
  obtain ⟨n, rfl, hr⟩ := open_int ht h
  exact ⟨n, RPs_one hr⟩
theorem opens_slice {e : TypeId} {β : Type} {g : β → PV} (he : Opens P e g) (ht : P.underlying t = some (.slice e)) (hp : 0 < P.cellsOf e) (hc : P.cellsOf t = 1) : Opens P t (fun l : List β => PV.sl (l.map g)) := by
  refine ⟨fun b q hq => by simp [PV.flat] at hq; subst hq; rfl, fun b => by rw [hc]; rfl, fun h => ?_⟩
  obtain ⟨bs, v, rfl, hr⟩ := open_sl g (P.cellsOf e) hp ht rfl (fun b => ⟨he.len b, he.one b⟩) (fun h => by
    obtain ⟨b, hb⟩ := he.red h
    exact ⟨b, fun i hi hi' => hb.2 i hi hi'⟩) h
  exact ⟨bs, RPs_one hr⟩
theorem opens_struct2 {f0 f1 : Field} {β γ : Type} {g0 : β → PV} {g1 : γ → PV} (h0 : Opens P f0.type g0) (h1 : Opens P f1.type g1) (ht : P.underlying t = some (.struct #[f0, f1]))
    (ho0 : f0.offset = 0) (ho1 : f1.offset = P.cellsOf f0.type) (hc : P.cellsOf t = P.cellsOf f0.type + P.cellsOf f1.type) : Opens P t (fun p : β × γ => PV.agg ((g0 p.1).flat ++ (g1 p.2).flat)) := by
  refine ⟨fun b q hq => ?_, fun b => ?_, fun h => ?_⟩
  · simp only [flat_agg, List.mem_append] at hq
    exact hq.elim (h0.one _ _) (h1.one _ _)
  · simp only [flat_agg, List.length_append, h0.len, h1.len, hc]
  · obtain ⟨y0, y1, n, -, hl, k0, k1⟩ := trod_struct2 ht h
    obtain ⟨b0, r0⟩ := h0.red k0
    obtain ⟨b1, r1⟩ := h1.red k1
    refine ⟨(b0, b1), RPs_app ?_ ?_⟩
    · rw [h0.len]; rw [ho0, List.drop_zero] at r0; exact r0
    · rw [h0.len]; rw [ho1, List.take_of_length_le (by rw [List.length_drop]; omega)] at r1; exact r1
theorem opens_struct3 {f0 f1 f2 : Field} {β γ δ : Type} {g0 : β → PV} {g1 : γ → PV} {g2 : δ → PV} (h0 : Opens P f0.type g0) (h1 : Opens P f1.type g1) (h2 : Opens P f2.type g2) (ht : P.underlying t = some (.struct #[f0, f1, f2]))
    (ho0 : f0.offset = 0) (ho1 : f1.offset = P.cellsOf f0.type) (ho2 : f2.offset = P.cellsOf f0.type + P.cellsOf f1.type) (hc : P.cellsOf t = P.cellsOf f0.type + P.cellsOf f1.type + P.cellsOf f2.type) :
    Opens P t (fun p : β × γ × δ => PV.agg ((g0 p.1).flat ++ ((g1 p.2.1).flat ++ (g2 p.2.2).flat))) := by
  refine ⟨fun b q hq => ?_, fun b => ?_, fun h => ?_⟩
  · simp only [flat_agg, List.mem_append] at hq
    rcases hq with hq | hq | hq
    · exact h0.one _ _ hq
    · exact h1.one _ _ hq
    · exact h2.one _ _ hq
  · simp only [flat_agg, List.length_append, h0.len, h1.len, h2.len, hc]
    omega
  · obtain ⟨y0, y1, y2, n, -, hl, k0, k1, k2⟩ := Go.Deep.trod_struct3 ht h
    obtain ⟨b0, r0⟩ := h0.red k0
    obtain ⟨b1, r1⟩ := h1.red k1
    obtain ⟨b2, r2⟩ := h2.red k2
    refine ⟨(b0, b1, b2), RPs_app ?_ (RPs_app ?_ ?_)⟩
    · rw [h0.len]; rw [ho0, List.drop_zero] at r0; exact r0
    · rw [h0.len, h1.len]; rw [ho1] at r1; exact r1
    · rw [h0.len, h1.len, List.drop_drop]; rw [ho2, List.take_of_length_le (by rw [List.length_drop]; omega)] at r2; exact r2
section
variable {H : Type} {enc : TypeId × Value → H} {w : World} {base : Nat} {spare : Nat → Bool} {held : Bool} {v : Value} {d : DataW H} {p : List MemPlace} {r : Reach} {base' : Nat} {β : Type} {g : β → PV}
theorem arg_one (h : Opens P t g) (hg : ∀ b, (g b).flat = [g b]) (hv : v.cells.toList = [v]) (hd : DataW.Trod enc P w base spare held t v d p) : ∃ b, RP (Here w) w (g b) v := by
  obtain ⟨m, hm⟩ := hd
  obtain ⟨b, hb⟩ := h.red hm
  refine ⟨b, ?_⟩
  rw [hg b, hv] at hb
  exact hb.2 0 (by simp) (by simp)
theorem arg_int {g : β → PV} (h : Opens P t g) (ht : P.underlying t = some (.int .i64)) (hg : ∀ b, (g b).flat = [g b]) (hw : Value.okWide P w r base' t v) (hd : DataW.Trod enc P w base spare held t v d p) : ∃ b, RP (Here w) w (g b) v := by
  obtain ⟨n, rfl⟩ := okWide_int ht hw
  exact arg_one h hg rfl hd
theorem arg_agg {cs : Array Value} (h : Opens P t g) (hg : ∀ b, g b = .agg (g b).flat) (hd : DataW.Trod enc P w base spare held t (.agg cs) d p) : ∃ b, RP (Here w) w (g b) (.agg cs) := by
  obtain ⟨m, hm⟩ := hd
  obtain ⟨b, hb⟩ := h.red hm
  refine ⟨b, ?_⟩
  rw [hg b]
  exact .agg _ _ hb.1 (h.one b) fun i hi hi' => hb.2 i hi hi'
theorem arg_struct {fs : Array Field} (h : Opens P t g) (ht : P.underlying t = some (.struct fs)) (hg : ∀ b, g b = .agg (g b).flat) (hw : Value.okWide P w r base' t v) (hd : DataW.Trod enc P w base spare held t v d p) : ∃ b, RP (Here w) w (g b) v := by
  obtain ⟨cs, rfl, -⟩ := okWide_struct ht hw
  exact arg_agg h hg hd
end
end
end Abs
end Go
end
section
namespace Go.Proofs.Ytolfhldbfeffaaa
open Go.Abs Go.Sand Go.ChangeShapes Go.WideShapes Go.ChangeAt Go.RowKit
theorem own : ownKnob Try.prog.godebug = none := by kernel_rfl
theorem laidOut : laidOutB Try.prog = true := by kernel_rfl
theorem cells_int : Try.prog.cellsOf 3 = 1 := by kernel_rfl
theorem cells_edges : Try.prog.cellsOf 22 = 1 := by kernel_rfl
theorem cells_edge : Try.prog.cellsOf 41 = 3 := by kernel_rfl
theorem cells_graph : Try.prog.cellsOf 24 = 2 := by kernel_rfl
theorem o_int : Opens Try.prog 3 PV.i := opens_int Try.underlying3 cells_int
theorem o_edge : Opens Try.prog 41 edP :=
  (opens_struct3 o_int o_int o_int Try.underlying41 rfl cells_int.symm (by rw [cells_int]) (by rw [cells_int, cells_edge])).to (fun p => ⟨p.1, p.2.1, p.2.2⟩) (fun e => (e.a, e.b, e.m)) (fun _ => rfl) (fun _ => rfl)
theorem o_edges : Opens Try.prog 22 (fun l : List Ed => PV.sl (l.map edP)) := opens_slice o_edge Try.underlying22 (by rw [cells_edge]; decide) cells_edges
theorem o_graph : Opens Try.prog 24 (fun p : Int × List Ed => G p.1 p.2) :=
  opens_struct2 o_int o_edges Try.underlying24 rfl cells_int.symm (by rw [cells_int, cells_edges, cells_graph])
/-- A contract that leaves true serves as the walk. -/
theorem walk_of {f : FuncId} {ps : List PV} {vs : List Value} {w : World} (h : PC Try.prog f ps (.b true) []) (hr : RPs (Here w) w ps vs) : Calls Try.prog f vs.toArray w fun e w' => e = .returned (.bool true) ∧ Below w.heap.size w w' := by
  refine (h w (fun _ => True) vs ⟨hr.1, fun i hi hi' => (hr.2 i hi hi').mono fun b hb => ⟨⟨hb, trivial⟩, rfl⟩⟩).mono ?_
  rintro e w' ⟨v, φ, rfl, -, hv, hb⟩
  refine ⟨?_, hb⟩
  have := hv.lit
  rw [this.1]
end Go.Proofs.Ytolfhldbfeffaaa
end
