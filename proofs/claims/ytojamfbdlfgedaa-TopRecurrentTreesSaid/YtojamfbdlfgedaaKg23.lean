/-
  Texts joined: Du Dv Moa Go.
-/
import Derived.Test.YtojamfbdlfgedaaKg22
import Derived.Deep.Strs
import Derived.ChangeArms
import Derived.WalkKit
import Derived.ProofKit
import Derived.OpenShut
import Derived.ChangeOld
import Derived.Below
import Derived.WideShapes
import Derived.Test.YtojamfbdlfgedaaRows
section
set_option linter.unusedSimpArgs false
set_option linter.unusedVariables false
namespace Go.Proofs.Ytojamfbdlfgedaa
open Go.Abs Go.Sand
attribute [local simp] ap_0 ap_i
theorem conn_cls {n : Nat} (hn : n ≤ 12) {es : List Ed} (hr : ∀ x ∈ es, Right n x) (hp : partsN es n = 1) {u w : Nat} (hu : u < n) (hw : w < n) : cls es u = cls es w := by
  have hF := ufJ_forest (n := (n : Int)) (by omega) hr es.length (Nat.le_refl _)
  rw [List.take_length] at hF
  obtain ⟨u1, u2⟩ := hF.le u (by omega)
  obtain ⟨w1, w2⟩ := hF.le w (by omega)
  have u3 : cls es (cls es u) = cls es u := u2
  have w3 : cls es (cls es w) = cls es w := w2
  have u4 : cls es u < n := by have : cls es u ≤ u := u1; omega
  have w4 : cls es w < n := by have : cls es w ≤ w := w1; omega
  refine filter_one (l := rootsL es n) (List.Pairwise.filter _ List.nodup_range) hp ?_ ?_
  · rw [rootsL, List.mem_filter]; exact ⟨by simpa using u4, by simpa using u3⟩
  · rw [rootsL, List.mem_filter]; exact ⟨by simpa using w4, by simpa using w3⟩
theorem valS_nn {n : Nat} {v : Nat} : ∀ {es : List Ed}, (∀ x ∈ es, Right n x) → 0 ≤ valS es v ∧ ∀ x ∈ es, val1 v x ≤ valS es v
  | [], _ => ⟨Int.le_refl 0, fun x h => by cases h⟩
  | x :: es, h => by
    obtain ⟨h1, h2⟩ := valS_nn (v := v) (es := es) fun y hy => h y (by simp [hy])
    have hx : 0 ≤ val1 v x := by
      have := (h x (by simp)).m1
      unfold val1; split <;> omega
    have e : valS (x :: es) v = val1 v x + valS es v := rfl
    refine ⟨by omega, fun y hy => ?_⟩
    rcases List.mem_cons.1 hy with rfl | hy
    · omega
    · have := h2 y hy; omega
theorem val_one {n : Nat} (hn : n ≤ 12) {es : List Ed} (hr : ∀ x ∈ es, Right n x) (hp : partsN es n = 1) {v q : Nat} (hv : v < n) (hq : q < n) (hvq : v ≠ q) : 1 ≤ valS es v := by
  obtain ⟨h0, h1⟩ := valS_nn (v := v) hr
  refine Classical.byContradiction fun hc => ?_
  have hno : ∀ x ∈ es, x.a = x.b ∨ (x.a ≠ v ∧ x.b ≠ v) := fun x hx => by
    have h2 := h1 x hx
    have h3 := (hr x hx).m1
    unfold val1 at h2
    split at h2
    · omega
    · rename_i h4; omega
  have hR := cls_fine (R := fun u => if u = v then 1 else 0) (u := v) (v := q) es id (fun u w h => by rw [show u = w from h]) (fun x hx => by
    have r := hr x hx
    have r1 := r.a0
    have r2 := r.b0
    (try dsimp only)
    rcases hno x hx with h | ⟨h, h'⟩
    · rw [h]
    · rw [if_neg (by omega), if_neg (by omega)]) (by
    have e1 : ∀ w, es.foldl (fun c x => Sand.joinC c x.a.toNat x.b.toNat) id w = cls es w := fun w => by unfold cls ufJ; rw [ufJ_snd']
    rw [e1, e1]
    exact conn_cls hn hr hp hv hq)
  rw [if_pos rfl, if_neg (fun e => hvq e.symm)] at hR
  cases hR
/-- The greatest stable configuration, as it is computed. -/
noncomputable def topL (n : Nat) (es : List Ed) (q : Nat) : List Int := lisL n fun v => if (v : Int) = q then 0 else valTo es v n - 1
theorem top_ok40 {n : Nat} {es : List Ed} (hg : GoodG n es) (hn : n ≤ 12) (hp : partsN es n = 1) {q : Nat} (hq : q < n) : TopOk n es q (topL n es q) := by
  have hget : ∀ v, v < n → (topL n es q).getD v 0 = if v = q then 0 else valS es v - 1 := fun v hv => by
    unfold topL lisL
    rw [getD_get (by simpa using hv)]
    simp only [List.getElem_map, List.getElem_range]
    by_cases e : v = q
    · subst e; simp
    · rw [if_neg (by omega), if_neg e, valTo_all hg.right hg.asc v ⟨by omega, by omega⟩]
  refine ⟨⟨by simp [topL, lisL], fun v hv hvq => ?_, ?_⟩, fun v hv hvq => ?_⟩
  · have := val_one hn hg.right hp hv hq hvq
    rw [hget v hv, if_neg hvq]; omega
  · rw [hget q hq, if_pos rfl]
  · rw [hget v hv, if_neg hvq]
theorem rtop_hc {n : Nat} {es : List Ed} {q : Nat} {top : List Int} {rw : AO} {t : List (Nat × AV)} (ht8 : Abs.get t 8 = .ptr 4 1 0 0) (hgc : gcheck n es = 0) (hel : es.length ≤ 900) (hn : n ≤ 12) (hq : q < n) (htop : CfgOk n es q top) (hcnt : recN n es q top n 0 top ≤ 16384) {K : AV → List AO → Prop}
    (hK : ∀ r T' Y, T'.length = recN n es q top n 0 top → K r (rcA n es q top rw (.lp 39 t [30] rc6_0a rc6_0c .ready) T' ++ Y)) :
    HC Try.prog false 20 [.yl 8, .ptr 5 1 0 0, .ptr 6 1 0 0, .ptr 7 1 0 0] [.box (.p (G n es)), .box (.p .nil), .box (.p (.i 0)), rw, .box (.p .nil), .box (.p (pileP n es q top)), .box (.p (.i 0)), .box (.p (.is top)), .lp 39 t [30] rc6_0a rc6_0c .ready] K := by
  have hw := ((Wk_nilBT (m0 := 9) (s := ⟨initT 0 [.yl 8, .ptr 5 1 0 0, .ptr 6 1 0 0, .ptr 7 1 0 0], [.box (.p (G n es)), .box (.p .nil), .box (.p (.i 0)), rw, .box (.p .nil), .box (.p (pileP n es q top)), .box (.p (.i 0)), .box (.p (.is top)), .lp 39 t [30] rc6_0a rc6_0c .ready]⟩) 4 0 37 rfl rfl).trans (Wk_flat 4 (x := .agg [.os 9 0 0]) (y := .os 9 0 0) rfl rfl))
  refine HC_wk (args' := [.yl 8, .ptr 5 1 0 0, .ptr 6 1 0 0, .ptr 7 1 0 0]) (H' := rcA n es q top rw (.lp 39 t [30] rc6_0a rc6_0c .ready) [] ++ []) hw rfl ?_
  exact rec_hc hgc hel hn hq htop n 0 top 8 [] [] [] 5 6 7 K (by omega) htop (yg_top ht8) (fun p hp => by cases hp) (fun T Y _ => rfl) (fun T Y _ => rfl) (fun T Y _ => rfl) (by simpa using hcnt) fun r T' Y h _ => hK r T' Y (by simpa using h)
/-- What All leaves. -/
def RallR (k : Nat) (r : AV) (HR : List AO) : Prop := ∃ T : List AV, T.length = k ∧ r = .tup [.os 0 0 T.length, .i 0] ∧ HR = [.tab T 37 false]
theorem rall_ok (n : Nat) (es : List Ed) (q : Nat) (hel : es.length ≤ 900) (hc : connE n es = 0) (hq : q < n) (hcnt : trN n id (natE (endsL es)) ≤ 16384) : PCR Try.prog 6 [G n es, .i q] (RallR (trN n id (natE (endsL es)))) := by
  obtain ⟨hgc, hp⟩ := conn_good hc
  rw [Int.toNat_natCast] at hp
  have hg := gcheck_ok hgc
  have h1 := hg.n1
  have h12 := hg.n12
  have hre : rootE n es q = 0 := by
    unfold rootE
    rw [if_neg (by simp [hgc]), Int.toNat_natCast, if_pos hp, if_pos (by simp [vtx]; omega)]
  have htk := top_ok40 hg (by omega) hp hq
  have hrt := rec_trees hg.right hq htk
  have hmx := maximal_ok n es q (by omega)
  rw [hre, if_pos rfl, Int.toNat_natCast] at hmx
  obtain ⟨top, htop⟩ : ∃ top, top = topL n es q := ⟨_, rfl⟩
  have htop' : (lisL n fun v => if (v : Int) = q then 0 else valTo es v n - 1) = top := by rw [htop]; rfl
  rw [htop'] at hmx
  rw [← htop] at htk hrt
  have htl := htk.cfg.len
  have hqt : q < top.length := by omega
  have hq0 : ¬ (q : Int) < 0 := by omega
  have hts : (top.map PV.i).set q (PV.v (Value.int IntKind.i64 0)) = top.map PV.i := by
    have := htk.cfg.sink
    rw [getD_get hqt] at this
    have e : top.set q 0 = top := by rw [← this]; exact List.set_getElem_self hqt
    have e2 := congrArg (List.map PV.i) e
    rw [List.map_set] at e2
    exact e2
  refine PCR_of_W cfn6 ?_
  simp -implicitDefEqProofs (disch := omega) [c6, List.getElem?_cons_zero, List.getElem?_cons_succ, wrap_id]
  refine HC_of_PC rfl (hmx) ?_
  simp -implicitDefEqProofs (disch := omega) [List.getElem?_cons_zero, List.getElem?_cons_succ, wrap_id]
  refine HC_of_PC rfl (clone_ok top (by omega)) ?_
  simp -implicitDefEqProofs (disch := omega) [List.getElem?_cons_zero, List.getElem?_cons_succ, wrap_id, htl, hq, hq0, hts, hqt]
  refine HC_of_PC (ps := [pileP n es q top, .i 0, .is top]) (by simp [views, view, viewL, viewC, ownEls, htl]) (recurrents_ok n es q top 0 top) ?_
  simp -implicitDefEqProofs (disch := omega) [List.getElem?_cons_zero, List.getElem?_cons_succ, wrap_id]
  refine ⟨by kernel_rfl, ?_⟩
  refine rtop_hc rfl hgc hel (by omega) hq htk.cfg (by rw [hrt]; exact hcnt) fun r T' Y hT => AfterR_ready rfl ?_
  rw [hrt] at hT
  simp -implicitDefEqProofs (disch := omega) [List.getElem?_cons_zero, List.getElem?_cons_succ, wrap_id]
  have hrl : ∀ (H : List AO) ρ, (renL H ρ T').length = T'.length := fun H ρ => by rw [renL_eq]; simp
  refine finQ40 [9] trivial rfl rfl rfl rfl ⟨_, (hrl _ _).trans hT, ?_, rfl⟩
  rw [hrl]; rfl
end Go.Proofs.Ytojamfbdlfgedaa
end
section
set_option linter.unusedSimpArgs false
set_option linter.unusedVariables false
namespace Go.Proofs.Ytojamfbdlfgedaa
open Go.Abs Go.Sand
def tri40 : List Ed := [⟨0, 1, 1⟩, ⟨0, 2, 1⟩, ⟨1, 2, 1⟩]
theorem tri40_ok : PC Try.prog 10 [] (.agg [.p (.i 3), .p (.sl (tri40.map edP))]) [] := by
  refine PC_of_W cfn10 ?_
  simp -implicitDefEqProofs (disch := omega) [c10, List.getElem?_cons_zero, List.getElem?_cons_succ, wrap_id]
  refine fin0 trivial rfl rfl
theorem trN_pow (n : Nat) : ∀ (es : List (Nat × Nat)) (c : Nat → Nat), trN n c es ≤ 2 ^ es.length
  | [], c => by rw [trN]; split <;> simp
  | x :: es, c => by
    have h1 := trN_pow n es c
    have h2 := trN_pow n es (mrg c x.1 x.2)
    rw [trN, List.length_cons, Nat.pow_succ]
    split <;> omega
theorem tri40_count : trN 3 id (natE (endsL tri40)) = 3 := by decide
/-- A connected graph with few trees. -/
def fewTB (N : Int) (es : List Ed) : Bool := smallG N es 5 8 && decide (connE N es = 0)
theorem fewT40_ok (N : Int) (es : List Ed) : PC Try.prog 8 [G N es] (.b (smallG N es 5 8)) [] := by
  refine PC_of_W cfn8 ?_
  simp -implicitDefEqProofs (disch := omega) [c8, List.getElem?_cons_zero, List.getElem?_cons_succ, wrap_id]
  refine HC_of_PC rfl (small_ok N es 5 8) ?_
  simp -implicitDefEqProofs (disch := omega) [List.getElem?_cons_zero, List.getElem?_cons_succ, wrap_id]
  (refine fin0 trivial rfl ?_; simp -implicitDefEqProofs (disch := omega) [List.getElem?_cons_zero, List.getElem?_cons_succ, idx, wrap_id])
theorem few40_ok (N : Int) (es : List Ed) : PC Try.prog 4 [G N es] (.b (fewTB N es)) [] := by
  refine PC_of_W cfn4 ?_
  simp -implicitDefEqProofs (disch := omega) [c4, List.getElem?_cons_zero, List.getElem?_cons_succ, wrap_id]
  refine HC_of_PC rfl (fewT40_ok N es) ?_
  cases hs : smallG N es 5 8
  · simp -implicitDefEqProofs (disch := omega) [List.getElem?_cons_zero, List.getElem?_cons_succ, wrap_id]
    (refine fin0 trivial rfl ?_; simp -implicitDefEqProofs (disch := omega) [List.getElem?_cons_zero, List.getElem?_cons_succ, idx, wrap_id, fewTB, hs])
  have hel := smallG_len hs
  simp -implicitDefEqProofs (disch := omega) [List.getElem?_cons_zero, List.getElem?_cons_succ, wrap_id]
  refine HC_of_PC rfl (rjoined_ok N es (by omega)) ?_
  by_cases hc : connE N es = 0
  · simp -implicitDefEqProofs (disch := omega) [List.getElem?_cons_zero, List.getElem?_cons_succ, wrap_id, hc]
    (refine fin0 trivial rfl ?_; simp -implicitDefEqProofs (disch := omega) [List.getElem?_cons_zero, List.getElem?_cons_succ, idx, wrap_id, fewTB, hs, hc])
  · simp -implicitDefEqProofs (disch := omega) [List.getElem?_cons_zero, List.getElem?_cons_succ, wrap_id, hc]
    (refine fin0 trivial rfl ?_; simp -implicitDefEqProofs (disch := omega) [List.getElem?_cons_zero, List.getElem?_cons_succ, idx, wrap_id, fewTB, hs, hc])
theorem few40_at {N : Int} {es : List Ed} (h : fewTB N es = true) : ∃ n : Nat, N = n ∧ connE n es = 0 ∧ es.length ≤ 40 ∧ (endsL es).length ≤ 8 := by
  simp only [fewTB, Bool.and_eq_true, decide_eq_true_eq] at h
  obtain ⟨hs, hc⟩ := h
  have hg := (conn_good hc).1
  have h1 := (gcheck_ok hg).n1
  obtain ⟨n, rfl⟩ : ∃ n : Nat, N = n := ⟨N.toNat, by omega⟩
  have hel := smallG_len hs
  simp only [smallG, Bool.and_eq_true, Bool.or_eq_true, decide_eq_true_eq] at hs
  rcases hs.2 with h2 | h2
  · exact absurd hg h2
  · exact ⟨n, rfl, hc, hel, by omega⟩
theorem counted_ok : PC Try.prog 5 [] (.b true) [] := by
  refine PC_of_W cfn5 ?_
  simp -implicitDefEqProofs (disch := omega) [c5, List.getElem?_cons_zero, List.getElem?_cons_succ, wrap_id]
  refine HC_of_PC rfl (tri40_ok) ?_
  simp -implicitDefEqProofs (disch := omega) [List.getElem?_cons_zero, List.getElem?_cons_succ, wrap_id]
  refine HC_of_PCR (ps := [G 3 tri40, .i 0]) rfl (rall_ok 3 tri40 0 (by decide) (by decide) (by decide) (by rw [tri40_count]; decide)) ?_
  rintro r HR ⟨T, hT, rfl, rfl⟩
  rw [tri40_count] at hT
  have hrl : ∀ (H : List AO) ρ, (renL H ρ T).length = T.length := fun H ρ => by rw [renL_eq]; simp
  simp -implicitDefEqProofs (disch := omega) [List.getElem?_cons_zero, List.getElem?_cons_succ, wrap_id, hrl, hT]
  (refine fin0 trivial rfl ?_; simp -implicitDefEqProofs (disch := omega) [List.getElem?_cons_zero, List.getElem?_cons_succ, idx, wrap_id])
theorem rtrees_law (N : Int) (es : List Ed) (q : Int) : PC Try.prog 3 [G N es, .i q] (.b true) [] := by
  refine PC_of_W cfn3 ?_
  simp -implicitDefEqProofs (disch := omega) [c3, List.getElem?_cons_zero, List.getElem?_cons_succ, wrap_id]
  refine HC_of_PC rfl (few40_ok N es) ?_
  cases hp : fewTB N es
  · simp -implicitDefEqProofs (disch := omega) [List.getElem?_cons_zero, List.getElem?_cons_succ, wrap_id]
    refine HC_of_PC rfl (counted_ok) ?_
    simp -implicitDefEqProofs (disch := omega) [List.getElem?_cons_zero, List.getElem?_cons_succ, wrap_id]
    (refine fin0 trivial rfl ?_; simp -implicitDefEqProofs (disch := omega) [List.getElem?_cons_zero, List.getElem?_cons_succ, idx, wrap_id])
  by_cases hv0 : q < 0
  · simp -implicitDefEqProofs (disch := omega) [List.getElem?_cons_zero, List.getElem?_cons_succ, wrap_id, hv0]
    refine HC_of_PC rfl (counted_ok) ?_
    simp -implicitDefEqProofs (disch := omega) [List.getElem?_cons_zero, List.getElem?_cons_succ, wrap_id]
    (refine fin0 trivial rfl ?_; simp -implicitDefEqProofs (disch := omega) [List.getElem?_cons_zero, List.getElem?_cons_succ, idx, wrap_id])
  by_cases hvn : N ≤ q
  · simp -implicitDefEqProofs (disch := omega) [List.getElem?_cons_zero, List.getElem?_cons_succ, wrap_id, hv0, hvn]
    refine HC_of_PC rfl (counted_ok) ?_
    simp -implicitDefEqProofs (disch := omega) [List.getElem?_cons_zero, List.getElem?_cons_succ, wrap_id]
    (refine fin0 trivial rfl ?_; simp -implicitDefEqProofs (disch := omega) [List.getElem?_cons_zero, List.getElem?_cons_succ, idx, wrap_id])
  obtain ⟨n, rfl, hc, hel, hm8⟩ := few40_at hp
  obtain ⟨v, rfl⟩ : ∃ u : Nat, q = u := ⟨q.toNat, by omega⟩
  have hb : trN n id (natE (endsL es)) ≤ 256 := by
    refine Nat.le_trans (trN_pow n _ _) ?_
    have : (natE (endsL es)).length ≤ 8 := by simpa [natE] using hm8
    exact Nat.le_trans (Nat.pow_le_pow_right (by decide) this) (by decide)
  simp -implicitDefEqProofs (disch := omega) [List.getElem?_cons_zero, List.getElem?_cons_succ, wrap_id, hv0, hvn]
  refine HC_of_PCR rfl (rall_ok n es v (by omega) hc (by omega) (by omega)) ?_
  rintro r HR ⟨T, hT, rfl, rfl⟩
  have hrl : ∀ (H : List AO) ρ, (renL H ρ T).length = T.length := fun H ρ => by rw [renL_eq]; simp
  simp -implicitDefEqProofs (disch := omega) [List.getElem?_cons_zero, List.getElem?_cons_succ, wrap_id, hrl]
  refine HC_of_PC rfl (count_ok n es (by omega) hc (by omega) (by omega)) ?_
  obtain ⟨k, hk⟩ : ∃ k, k = trN n id (natE (endsL es)) := ⟨_, rfl⟩
  rw [← hk] at hT ⊢
  simp -implicitDefEqProofs (disch := omega) [List.getElem?_cons_zero, List.getElem?_cons_succ, wrap_id, hrl, hT]
  refine HC_of_PC rfl (counted_ok) ?_
  simp -implicitDefEqProofs (disch := omega) [List.getElem?_cons_zero, List.getElem?_cons_succ, wrap_id]
  (refine fin0 trivial rfl ?_; simp -implicitDefEqProofs (disch := omega) [List.getElem?_cons_zero, List.getElem?_cons_succ, idx, wrap_id])
end Go.Proofs.Ytojamfbdlfgedaa
end
section
namespace Go
namespace Abs
open Go.RowKit
section
variable {H : Type} {enc : TypeId × Value → H} {P : Program} {w : World} {base : Nat} {spare : Nat → Bool} {held : Bool} {fuel : Nat} {cs : List Value} {x : DataW H × List MemPlace} {t : TypeId}
/-- What stands in memory now. -/
abbrev Here (w : World) : Nat → Prop := fun b => b < w.heap.size
theorem open_int (ht : P.underlying t = some (.int .i64)) (h : DataW.trod enc P w base spare held fuel t cs = some x) : ∃ n : Int, cs = [.int .i64 n] ∧ RP (Here w) w (.i n) (.int .i64 n) := by
  obtain ⟨n, h1, -, -⟩ := DataW.trod_int ht h
  exact ⟨n, h1, .v _ rfl⟩
theorem addr_plus {a : Addr} (h : a.spot = none) (n : Nat) : a.add n = ⟨a.block, a.off + n, none⟩ := by
  unfold Addr.add
  split
  · rename_i e; subst e; cases a; cases h; rfl
  · rfl
theorem cell_spot {a : Addr} {v : Value} (h : w.cell? a = some v) : a.spot = none ∧ a.block < w.heap.size := by
  unfold World.cell? at h
  split at h
  · rename_i c t' z hb
    split at h
    · cases h
    · rename_i hs
      exact ⟨by cases ha : a.spot; rfl; rw [ha] at hs; exact absurd rfl hs, (Array.getElem?_eq_some_iff.1 hb).1⟩
  · cases h
theorem open_sl {e : TypeId} {β : Type} (g : β → PV) (sz : Nat) (hpos : 0 < sz) (ht : P.underlying t = some (.slice e)) (hc : P.cellsOf e = sz) (hg : ∀ b, (g b).flat.length = sz ∧ ∀ q ∈ (g b).flat, q.one = true)
    (hel : ∀ {fuel : Nat} {cs : List Value} {x : DataW H × List MemPlace}, DataW.trod enc P w base spare held fuel e cs = some x → ∃ b, ∀ i (h : i < (g b).flat.length) (h' : i < cs.length), RP (Here w) w (g b).flat[i] cs[i])
    (h : DataW.trod enc P w base spare held fuel t cs = some x) : ∃ (bs : List β) (v : Value), cs = [v] ∧ RP (Here w) w (.sl (bs.map g)) v := by
  rcases DataW.trod_slice ht h with ⟨h0, -⟩ | ⟨a, len, cap, elems, rest, n, -, rfl, -, -, hl, hm, hlen, hels, -, -⟩
  · refine ⟨[], _, h0, ?_⟩
    exact .sl [] none 0 0 (fun _ _ => undef) (by simp) (by simp) (fun i h => by simp at h) (.inl rfl) (fun i h => by simp at h)
  have each : ∀ i : _root_.Fin len, ∃ p : List Value × β, w.cells? base (a.add (i.1 * P.cellsOf e)) (P.cellsOf e) = some p.1 ∧ ∀ j (h : j < (g p.2).flat.length) (h' : j < p.1.length), RP (Here w) w (g p.2).flat[j] p.1[j] := by
    intro i
    have hb := hels i.1 i.2
    rw [List.getElem?_eq_getElem (by omega), Option.bind_eq_some_iff] at hb
    obtain ⟨cs', h1, h2⟩ := hb
    obtain ⟨b, hb⟩ := hel h2
    exact ⟨⟨cs', b⟩, h1, hb⟩
  obtain ⟨F, hF⟩ : ∃ F : _root_.Fin len → List Value × β, ∀ i, w.cells? base (a.add (i.1 * P.cellsOf e)) (P.cellsOf e) = some (F i).1 ∧ ∀ j (h : j < (g (F i).2).flat.length) (h' : j < (F i).1.length), RP (Here w) w (g (F i).2).flat[j] (F i).1[j] :=
    ⟨fun i => (each i).choose, fun i => (each i).choose_spec⟩
  refine ⟨List.ofFn fun i => (F i).2, _, rfl, ?_⟩
  have hlen' : ((List.ofFn fun i => (F i).2).map g).length = len := by simp
  have hsz : ∀ i, (F i).1.length = sz := fun i => by rw [(World.cells?_some (hF i).1).2.1, hc]
  have hcell : ∀ i : _root_.Fin len, ∀ j (hj : j < sz), w.cell? ((a.add (i.1 * sz)).add j) = some ((F i).1[j]'(by rw [hsz]; exact hj)) := by
    intro i j hj
    have := (World.cells?_some (hF i).1).2.2 j (by rw [hc]; exact hj)
    rw [hc] at this
    rw [this, List.getElem?_eq_getElem]
  have main := RP.sl (S := Here w) (w := w) ((List.ofFn fun i => (F i).2).map g) (some a) cap sz (fun i j => if h : i < len then (F ⟨i, h⟩).1.getD j undef else undef) (by rw [hlen']; exact hl) hm (fun i hi => by
      rw [List.getElem_map]; exact hg _) ?_ ?_
  · rw [hlen'] at main
    exact main
  · rcases Nat.eq_zero_or_pos len with h0 | h0
    · left
      exact List.eq_nil_of_length_eq_zero (by rw [hlen', h0])
    · right
      have h1 := hcell ⟨0, h0⟩ 0 hpos
      simp only [Nat.zero_mul] at h1
      have h2 : a.add 0 = a := rfl
      rw [h2, h2] at h1
      obtain ⟨s1, s2⟩ := cell_spot h1
      refine ⟨a.block, a.off, by cases a; cases s1; rfl, s2, fun i j hi hj => ?_⟩
      rw [hlen'] at hi
      have h3 := hcell ⟨i, hi⟩ j hj
      rw [addr_plus s1, addr_plus rfl] at h3
      rw [dif_pos hi]
      refine h3.trans ?_
      rw [List.getD_eq_getElem?_getD, List.getElem?_eq_getElem]
      rfl
  · intro i hi j hj
    rw [hlen'] at hi
    simp only [List.getElem_map, List.getElem_ofFn] at hj ⊢
    rw [dif_pos hi, List.getD_eq_getElem?_getD, List.getElem?_eq_getElem (by rw [hsz, ← (hg (F ⟨i, hi⟩).2).1]; exact hj)]
    exact (hF ⟨i, hi⟩).2 j hj _
end
end Abs
end Go
/-
  Handed arguments of any shape, as values of the abstract machine.
-/
namespace Go
namespace Abs
open Go.RowKit Go.ChangeShapes Go.WideShapes Go.ChangeAt
/-- Whatever is read at a type is one of these values. -/
structure Opens (P : Program) (t : TypeId) {β : Type} (g : β → PV) : Prop where
  one : ∀ b, ∀ q ∈ (g b).flat, q.one = true
  len : ∀ b, (g b).flat.length = P.cellsOf t
  red : ∀ {H : Type} {enc : TypeId × Value → H} {w : World} {base : Nat} {spare : Nat → Bool} {held : Bool} {fuel : Nat} {cs : List Value} {x : DataW H × List MemPlace},
    DataW.trod enc P w base spare held fuel t cs = some x → ∃ b, RPs (Here w) w (g b).flat cs
theorem flat_agg (l : List PV) : (PV.agg l).flat = l := rfl
section
variable {P : Program} {t : TypeId}
theorem Opens.to {β γ : Type} {g : β → PV} {g' : γ → PV} (h : Opens P t g) (f : β → γ) (k : γ → β) (e : ∀ b, g b = g' (f b)) (e' : ∀ c, g' c = g (k c)) : Opens P t g' := by
  refine ⟨fun b => ?_, fun b => ?_, fun hr => ?_⟩
  · rw [e' b]; exact h.one _
  · rw [e' b]; exact h.len _
  · obtain ⟨b, hb⟩ := h.red hr
    exact ⟨f b, e b ▸ hb⟩
theorem RPs_one {S : Nat → Prop} {w : World} {x : PV} {v : Value} (h : RP S w x v) : RPs S w [x] [v] := ⟨rfl, fun i hi hi' => by
  have : i = 0 := by simp at hi; omega
  subst this; exact h⟩
theorem RPs_app {S : Nat → Prop} {w : World} {a b : List PV} {cs : List Value} (h1 : RPs S w a (cs.take a.length)) (h2 : RPs S w b (cs.drop a.length)) : RPs S w (a ++ b) cs := by
  have l1 := h1.1
  have l2 := h2.1
  simp only [List.length_take, List.length_drop] at l1 l2
  refine ⟨by rw [List.length_append]; omega, fun i hi hi' => ?_⟩
  by_cases hc : i < a.length
  · have := h1.2 i hc (by simp; omega)
    rw [List.getElem_take] at this
    rw [List.getElem_append_left hc]
    exact this
  · have := h2.2 (i - a.length) (by rw [List.length_append] at hi; omega) (by simp; omega)
    rw [List.getElem_append_right (by omega)]
    simp only [List.getElem_drop] at this
    have e : a.length + (i - a.length) = i := by omega
    simp only [e] at this
    exact this
theorem opens_int (ht : P.underlying t = some (.int .i64)) (hc : P.cellsOf t = 1) : Opens P t PV.i := by
  refine ⟨fun b q hq => by simp [PV.flat] at hq; subst hq; rfl, fun b => by rw [hc]; rfl, fun h => ?_⟩
  obtain ⟨n, rfl, hr⟩ := open_int ht h
  exact ⟨n, RPs_one hr⟩
theorem opens_slice {e : TypeId} {β : Type} {g : β → PV} (he : Opens P e g) (ht : P.underlying t = some (.slice e)) (hp : 0 < P.cellsOf e) (hc : P.cellsOf t = 1) : Opens P t (fun l : List β => PV.sl (l.map g)) := by
  refine ⟨fun b q hq => by simp [PV.flat] at hq; subst hq; rfl, fun b => by rw [hc]; rfl, fun h => ?_⟩
  obtain ⟨bs, v, rfl, hr⟩ := open_sl g (P.cellsOf e) hp ht rfl (fun b => ⟨he.len b, he.one b⟩) (fun h => by
    obtain ⟨b, hb⟩ := he.red h
    exact ⟨b, fun i hi hi' => hb.2 i hi hi'⟩) h
  exact ⟨bs, RPs_one hr⟩
theorem opens_struct2 {f0 f1 : Field} {β γ : Type} {g0 : β → PV} {g1 : γ → PV} (h0 : Opens P f0.type g0) (h1 : Opens P f1.type g1) (ht : P.underlying t = some (.struct #[f0, f1]))
    (ho0 : f0.offset = 0) (ho1 : f1.offset = P.cellsOf f0.type) (hc : P.cellsOf t = P.cellsOf f0.type + P.cellsOf f1.type) : Opens P t (fun p : β × γ => PV.agg ((g0 p.1).flat ++ (g1 p.2).flat)) := by
  refine ⟨fun b q hq => ?_, fun b => ?_, fun h => ?_⟩
  · simp only [flat_agg, List.mem_append] at hq
    exact hq.elim (h0.one _ _) (h1.one _ _)
  · simp only [flat_agg, List.length_append, h0.len, h1.len, hc]
  · obtain ⟨y0, y1, n, -, hl, k0, k1⟩ := trod_struct2 ht h
    obtain ⟨b0, r0⟩ := h0.red k0
    obtain ⟨b1, r1⟩ := h1.red k1
    refine ⟨(b0, b1), RPs_app ?_ ?_⟩
    · rw [h0.len]; rw [ho0, List.drop_zero] at r0; exact r0
    · rw [h0.len]; rw [ho1, List.take_of_length_le (by rw [List.length_drop]; omega)] at r1; exact r1
theorem opens_struct3 {f0 f1 f2 : Field} {β γ δ : Type} {g0 : β → PV} {g1 : γ → PV} {g2 : δ → PV} (h0 : Opens P f0.type g0) (h1 : Opens P f1.type g1) (h2 : Opens P f2.type g2) (ht : P.underlying t = some (.struct #[f0, f1, f2]))
    (ho0 : f0.offset = 0) (ho1 : f1.offset = P.cellsOf f0.type) (ho2 : f2.offset = P.cellsOf f0.type + P.cellsOf f1.type) (hc : P.cellsOf t = P.cellsOf f0.type + P.cellsOf f1.type + P.cellsOf f2.type) :
    Opens P t (fun p : β × γ × δ => PV.agg ((g0 p.1).flat ++ ((g1 p.2.1).flat ++ (g2 p.2.2).flat))) := by
  refine ⟨fun b q hq => ?_, fun b => ?_, fun h => ?_⟩
  · simp only [flat_agg, List.mem_append] at hq
    rcases hq with hq | hq | hq
    · exact h0.one _ _ hq
    · exact h1.one _ _ hq
    · exact h2.one _ _ hq
  · simp only [flat_agg, List.length_append, h0.len, h1.len, h2.len, hc]
    omega
  · obtain ⟨y0, y1, y2, n, -, hl, k0, k1, k2⟩ := Go.Deep.trod_struct3 ht h
    obtain ⟨b0, r0⟩ := h0.red k0
    obtain ⟨b1, r1⟩ := h1.red k1
    obtain ⟨b2, r2⟩ := h2.red k2
    refine ⟨(b0, b1, b2), RPs_app ?_ (RPs_app ?_ ?_)⟩
    · rw [h0.len]; rw [ho0, List.drop_zero] at r0; exact r0
    · rw [h0.len, h1.len]; rw [ho1] at r1; exact r1
    · rw [h0.len, h1.len, List.drop_drop]; rw [ho2, List.take_of_length_le (by rw [List.length_drop]; omega)] at r2; exact r2
section
variable {H : Type} {enc : TypeId × Value → H} {w : World} {base : Nat} {spare : Nat → Bool} {held : Bool} {v : Value} {d : DataW H} {p : List MemPlace} {r : Reach} {base' : Nat} {β : Type} {g : β → PV}
theorem arg_one (h : Opens P t g) (hg : ∀ b, (g b).flat = [g b]) (hv : v.cells.toList = [v]) (hd : DataW.Trod enc P w base spare held t v d p) : ∃ b, RP (Here w) w (g b) v := by
  obtain ⟨m, hm⟩ := hd
  obtain ⟨b, hb⟩ := h.red hm
  refine ⟨b, ?_⟩
  rw [hg b, hv] at hb
  exact hb.2 0 (by simp) (by simp)
theorem arg_int {g : β → PV} (h : Opens P t g) (ht : P.underlying t = some (.int .i64)) (hg : ∀ b, (g b).flat = [g b]) (hw : Value.okWide P w r base' t v) (hd : DataW.Trod enc P w base spare held t v d p) : ∃ b, RP (Here w) w (g b) v := by
  obtain ⟨n, rfl⟩ := okWide_int ht hw
  exact arg_one h hg rfl hd
theorem arg_agg {cs : Array Value} (h : Opens P t g) (hg : ∀ b, g b = .agg (g b).flat) (hd : DataW.Trod enc P w base spare held t (.agg cs) d p) : ∃ b, RP (Here w) w (g b) (.agg cs) := by
  obtain ⟨m, hm⟩ := hd
  obtain ⟨b, hb⟩ := h.red hm
  refine ⟨b, ?_⟩
  rw [hg b]
  exact .agg _ _ hb.1 (h.one b) fun i hi hi' => hb.2 i hi hi'
theorem arg_struct {fs : Array Field} (h : Opens P t g) (ht : P.underlying t = some (.struct fs)) (hg : ∀ b, g b = .agg (g b).flat) (hw : Value.okWide P w r base' t v) (hd : DataW.Trod enc P w base spare held t v d p) : ∃ b, RP (Here w) w (g b) v := by
  obtain ⟨cs, rfl, -⟩ := okWide_struct ht hw
  exact arg_agg h hg hd
end
end
end Abs
end Go
end
section
namespace Go.Proofs.Ytojamfbdlfgedaa
open Go.Abs Go.Sand Go.ChangeShapes Go.WideShapes Go.ChangeAt Go.RowKit
theorem own : ownKnob Try.prog.godebug = none := by kernel_rfl
theorem laidOut : laidOutB Try.prog = true := by kernel_rfl
theorem cells_int : Try.prog.cellsOf 3 = 1 := by kernel_rfl
theorem cells_edges : Try.prog.cellsOf 22 = 1 := by kernel_rfl
theorem cells_edge : Try.prog.cellsOf 51 = 3 := by kernel_rfl
theorem cells_graph : Try.prog.cellsOf 24 = 2 := by kernel_rfl
theorem o_int : Opens Try.prog 3 PV.i := opens_int Try.underlying3 cells_int
theorem o_edge : Opens Try.prog 51 edP :=
  (opens_struct3 o_int o_int o_int Try.underlying51 rfl cells_int.symm (by rw [cells_int]) (by rw [cells_int, cells_edge])).to (fun p => ⟨p.1, p.2.1, p.2.2⟩) (fun e => (e.a, e.b, e.m)) (fun _ => rfl) (fun _ => rfl)
theorem o_edges : Opens Try.prog 22 (fun l : List Ed => PV.sl (l.map edP)) := opens_slice o_edge Try.underlying22 (by rw [cells_edge]; decide) cells_edges
theorem o_graph : Opens Try.prog 24 (fun p : Int × List Ed => G p.1 p.2) :=
  opens_struct2 o_int o_edges Try.underlying24 rfl cells_int.symm (by rw [cells_int, cells_edges, cells_graph])
/-- A contract that leaves true serves as the walk. -/
theorem walk_of {f : FuncId} {ps : List PV} {vs : List Value} {w : World} (h : PC Try.prog f ps (.b true) []) (hr : RPs (Here w) w ps vs) : Calls Try.prog f vs.toArray w fun e w' => e = .returned (.bool true) ∧ Below w.heap.size w w' := by
  refine (h w (fun _ => True) vs ⟨hr.1, fun i hi hi' => (hr.2 i hi hi').mono fun b hb => ⟨⟨hb, trivial⟩, rfl⟩⟩).mono ?_
  rintro e w' ⟨v, φ, rfl, -, hv, hb⟩
  refine ⟨?_, hb⟩
  have := hv.lit
  rw [this.1]
end Go.Proofs.Ytojamfbdlfgedaa
end
