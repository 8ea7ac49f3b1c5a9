/-
  AN ABSTRACT MACHINE, part 18: contracts on values whose result is told by a property.
-/
import Derived.Test.YtjkmhjjfipnbbaaMac
namespace Go
namespace Abs
open Go.RowKit

/-- The contract of a function that is given values alone: it leaves some r and HR of which Q holds. -/
def PCR (P : Program) (f : FuncId) (args : List PV) (Q : AV → List AO → Prop) : Prop :=
  ∀ (w : World) (S : Nat → Prop) (vs : List Value), RPs (fun b => b < w.heap.size ∧ S b) w args vs → Calls P f vs.toArray w fun en w' => ∃ v φ r HR, Q r HR ∧ en = .returned v ∧ MemOk ⟨w', HR, φ, w.heap.size, S⟩ ∧ RA ⟨w', HR, φ, w.heap.size, S⟩ r v ∧ Below w.heap.size w w'
theorem PCR_of_W {P : Program} {f : FuncId} {af : AFn} {args : List PV} {Q : AV → List AO → Prop} (hf : cfn P f args.length = some af) (h : W P 0 af.body (Fin 0 af.res Q) ⟨initT 0 (args.map .p), []⟩) : PCR P f args Q := by
  intro w S vs hvs
  have hM : MemOk ⟨w, [], fun _ => none, w.heap.size, S⟩ := ⟨fun o ob h => by simp at h, fun o o' b h => by simp at h, fun o b h => by simp at h, Nat.le_refl _⟩
  have ha : RAs ⟨w, [], fun _ => none, w.heap.size, S⟩ (args.map .p) vs := ⟨by simpa using hvs.1, fun i hi hi' => by
    simp only [List.length_map] at hi
    simp only [List.getElem_map]
    exact .p _ _ ((hvs.2 i hi hi').mono fun b hb => ⟨⟨hb.1, fun _ => hb.2, fun o ob h => by simp at h⟩, rfl⟩)⟩
  refine (fin_calls (by simpa using hf) hM ha h).mono ?_
  rintro en w' ⟨v, r', H', φ', h1, hQ, h3, _, h5, h6⟩
  exact ⟨v, φ', r', H', hQ, h1, h3, h5, h6⟩
theorem PC_of_PCR {P : Program} {f : FuncId} {args : List PV} {r : AV} {HR : List AO} (h : PCR P f args fun r' H' => r' = r ∧ H' = HR) : PC P f args r HR := by
  intro w S vs hvs
  refine (h w S vs hvs).mono ?_
  rintro en w' ⟨v, φ, r', H', ⟨rfl, rfl⟩, h1⟩
  exact ⟨v, φ, h1⟩
theorem PCR_of_PC {P : Program} {f : FuncId} {args : List PV} {r : AV} {HR : List AO} (h : PC P f args r HR) : PCR P f args fun r' H' => r' = r ∧ H' = HR := by
  intro w S vs hvs
  refine (h w S vs hvs).mono ?_
  rintro en w' ⟨v, φ, h1⟩
  exact ⟨v, φ, _, _, ⟨rfl, rfl⟩, h1⟩
theorem HC_of_PCR {P : Program} {e : Bool} {f : FuncId} {args : List AV} {H : List AO} {ps : List PV} {Q : AV → List AO → Prop} (hv : views H args = some ps) (h : PCR P f ps Q) {R : AV → List AO → Prop}
    (hR0 : ∀ r HR, Q r HR → R (r.ren HR fun o => some (o + H.length)) (hpast H args r HR)) : HC P e f args H R := by
  intro M vs hM hH ha
  subst hH
  obtain ⟨hf1, hf2⟩ := frzL_ok (M := M) args (H := M.H) hM
  have hRP := views_ok (M := M) (M' := ⟨M.w, frzL M.H args, M.φ, M.base, M.S⟩) hf2 hf1 ha hv (fun x hx => frzL_self args M.H x hx)
  refine (h M.w (Mem.shared ⟨M.w, frzL M.H args, M.φ, M.base, M.S⟩) vs ⟨hRP.1, fun i hi hi' => (hRP.2 i hi hi').mono fun b hb => ⟨⟨hb.1, hb⟩, rfl⟩⟩).mono ?_
  rintro en w' ⟨v, φR, r, HR, hQ, rfl, hMc, hr, hb⟩
  have hR := hR0 r HR hQ
  obtain ⟨Hs, hHs⟩ : ∃ Hs, Hs = if calmA r && HR.all calmO then M.H else frzL M.H args := ⟨_, rfl⟩
  have hHl : Hs.length = M.H.length := by
    rw [hHs]
    split
    · rfl
    · exact frzL_length _ _
  have hMs : MemOk ⟨M.w, Hs, M.φ, M.base, M.S⟩ ∧ Le M ⟨M.w, Hs, M.φ, M.base, M.S⟩ := by
    rw [hHs]
    split
    · exact ⟨hM, Le.refl M⟩
    · exact ⟨hf1, hf2⟩
  obtain ⟨hMs1, hMs2⟩ := hMs
  obtain ⟨ρ, hρ⟩ : ∃ ρ : Nat → Option Nat, ρ = fun o => some (o + M.H.length) := ⟨_, rfl⟩
  obtain ⟨Mc, hMcd⟩ : ∃ Mc : Mem, Mc = ⟨w', HR, φR, M.w.heap.size, Mem.shared ⟨M.w, frzL M.H args, M.φ, M.base, M.S⟩⟩ := ⟨_, rfl⟩
  obtain ⟨M', hMd'⟩ : ∃ M' : Mem, M' = ⟨w', Hs ++ HR.map (AO.ren HR ρ), fun o => if o < M.H.length then M.φ o else φR (o - M.H.length), M.base, M.S⟩ := ⟨_, rfl⟩
  rw [← hMcd] at hMc hr
  have hφlo : ∀ o, o < M.H.length → M'.φ o = M.φ o := fun o ho => by rw [hMd']; simp [ho]
  have hφhi : ∀ o, M'.φ (o + M.H.length) = φR o := fun o => by rw [hMd']; dsimp only; rw [if_neg (by omega), Nat.add_sub_cancel]
  have hHlo : ∀ o, o < M.H.length → M'.H[o]? = Hs[o]? := fun o ho => by rw [hMd']; dsimp only; rw [List.getElem?_append_left (by omega)]
  have hHhi : ∀ o, M'.H[o + M.H.length]? = (HR[o]?).map (AO.ren HR ρ) := fun o => by
    rw [hMd']; dsimp only
    rw [List.getElem?_append_right (by omega), hHl, Nat.add_sub_cancel, List.getElem?_map]
  have hlt : ∀ o b, o < M.H.length → M.φ o = some b → b < M.w.heap.size := fun o b ho hb => hM.lt ho hb
  have hge : ∀ o b, o < HR.length → φR o = some b → M.w.heap.size ≤ b := fun o b ho hb => by
    have := hMc.lo o b (by rw [hMcd]; exact ho) (by rw [hMcd]; exact hb)
    rw [hMcd] at this
    exact this
  -- whoever stands in M' stands here or there
  have hwho : ∀ (o : Nat) (ob : AO), M'.H[o]? = some ob → (o < M.H.length ∧ Hs[o]? = some ob) ∨ ∃ k ob', o = k + M.H.length ∧ HR[k]? = some ob' ∧ ob = ob'.ren HR ρ := by
    intro o ob ho
    rcases Nat.lt_or_ge o M.H.length with h1 | h1
    · exact .inl ⟨h1, by rw [← hHlo o h1]; exact ho⟩
    · refine .inr ⟨o - M.H.length, ?_⟩
      have := hHhi (o - M.H.length)
      rw [Nat.sub_add_cancel h1, ho] at this
      obtain ⟨ob', h2, h3⟩ := Option.map_eq_some_iff.1 this.symm
      exact ⟨ob', by omega, h2, h3.symm⟩
  have hren : RenOk Mc M' ρ := by
    refine ⟨fun o o' ob h1 h2 => ?_, fun o ob h1 => ?_⟩
    · rw [hρ] at h1
      injection h1 with h1
      subst h1
      rw [hMcd] at h2 ⊢
      have hl := ob.ren_len HR ρ
      exact ⟨_, by rw [hHhi, show HR[o]? = some ob from h2]; rfl, hl.2.2.1, hl.1, hl.2.1, hφhi o, fun b _ => by rw [hMd']⟩
    · rw [hρ] at h1; cases h1
  have hsome : ∀ o, (ρ o).isSome = true := fun o => by rw [hρ]; rfl
  have hsh : (calmA r && HR.all calmO) = false → ShOk Mc M' := by
    intro hcf b hb
    rw [hcf] at hHs
    simp only [Bool.false_eq_true, if_false] at hHs
    rw [hMcd] at hb
    refine ⟨⟨by rw [hMd']; exact hb.1, fun hlt2 => ?_, fun o ob ho hf => ?_⟩, by rw [hMd', hMcd]⟩
    · rw [hMd'] at hlt2 ⊢
      dsimp only at hlt2
      exact (hb.2.1 (Nat.lt_of_lt_of_le hlt2 hM.bs)).2.1 hlt2
    · rcases hwho o ob ho with ⟨h1, h2⟩ | ⟨k, ob', rfl, h2, h3⟩
      · rw [hφlo o h1]
        intro e
        have hbl := hlt o b h1 e
        exact (hb.2.1 hbl).2.2 o ob (by rw [← hHs]; exact h2) hf e
      · rw [hφhi]
        subst h3
        rw [(ob'.ren_len HR ρ).2.2.2] at hf
        exact hb.2.2 k ob' h2 hf
  have hcs : ∀ {q : Bool}, (calmA r && HR.all calmO) = q → (q = true ∧ ∀ o, (ρ o).isSome = true) ∨ ShOk Mc M' := by
    intro q hq
    cases q
    · exact .inr (hsh hq)
    · exact .inl ⟨rfl, hsome⟩
  have hold : ∀ b, b < M.w.heap.size → w'.heap[b]? = M.w.heap[b]? := fun b hb2 => hb.block b hb2
  have hle : Le ⟨M.w, Hs, M.φ, M.base, M.S⟩ M' := by
    refine ⟨fun b hb2 => ⟨⟨by rw [hMd']; exact Nat.lt_of_lt_of_le hb2.1 hb.size, by rw [hMd']; exact hb2.2.1, fun o ob ho hf => ?_⟩, by rw [hMd']; exact hold b hb2.1⟩, fun o ob ho => ?_⟩
    · rcases hwho o ob ho with ⟨h1, h2⟩ | ⟨k, ob', rfl, h2, h3⟩
      · rw [hφlo o h1]
        exact hb2.2.2 o ob h2 hf
      · rw [hφhi]
        intro e
        have := hge k b (List.getElem?_eq_some_iff.1 h2).1 e
        have := hb2.1
        dsimp only at this
        omega
    · have h1 : o < M.H.length := by have := (List.getElem?_eq_some_iff.1 ho).1; dsimp only at this; omega
      refine ⟨ob, by rw [hHlo o h1]; exact ho, rfl, Nat.le_refl _, fun _ => ⟨rfl, hφlo o h1, fun b hb2 => ?_⟩⟩
      have := hold b (hlt o b h1 hb2)
      rw [hMd']
      simp [World.shape?, this]
  have hM' : MemOk M' := by
    refine ⟨fun o ob ho => ?_, fun o1 o2 b k1 k2 k3 k4 => ?_, fun o b k1 k2 => ?_, by rw [hMd']; exact Nat.le_trans hM.bs hb.size⟩
    · rcases hwho o ob ho with ⟨h1, h2⟩ | ⟨k, ob', rfl, h2, h3⟩
      · refine (hMs1.ok o ob h2).mono hle (hφlo o h1) (fun b hb2 => ?_)
        rw [hMd']
        exact hold b (hlt o b h1 hb2)
      · subst h3
        have := ObOk.ren (o' := k + M.H.length) (M' := M') hMc hren (o := k) (ob := ob') (by rw [hφhi, hMcd]) (fun b _ => by rw [hMd', hMcd]) (hMc.ok k ob' (by rw [hMcd]; exact h2))
        rw [hMcd] at this
        rw [hMcd] at hsh
        refine this ?_
        cases hq : (calmA r && HR.all calmO)
        · exact .inr (hsh hq)
        · simp only [Bool.and_eq_true] at hq
          exact .inl ⟨List.all_eq_true.1 hq.2 _ (List.mem_of_getElem? h2), hsome⟩
    · rw [hMd'] at k1 k2
      simp only [List.length_append, List.length_map, hHl] at k1 k2
      rcases Nat.lt_or_ge o1 M.H.length with c1 | c1 <;> rcases Nat.lt_or_ge o2 M.H.length with c2 | c2
      · rw [hφlo _ c1] at k3
        rw [hφlo _ c2] at k4
        exact hM.inj o1 o2 b c1 c2 k3 k4
      · rw [hφlo _ c1] at k3
        rw [show o2 = (o2 - M.H.length) + M.H.length by omega, hφhi] at k4
        have := hlt _ _ c1 k3
        have := hge _ _ (by omega) k4
        omega
      · rw [hφlo _ c2] at k4
        rw [show o1 = (o1 - M.H.length) + M.H.length by omega, hφhi] at k3
        have := hlt _ _ c2 k4
        have := hge _ _ (by omega) k3
        omega
      · rw [show o1 = (o1 - M.H.length) + M.H.length by omega, hφhi] at k3
        rw [show o2 = (o2 - M.H.length) + M.H.length by omega, hφhi] at k4
        have := hMc.inj (o1 - M.H.length) (o2 - M.H.length) b (by rw [hMcd]; dsimp only; omega) (by rw [hMcd]; dsimp only; omega) (by rw [hMcd]; exact k3) (by rw [hMcd]; exact k4)
        omega
    · rw [hMd'] at k1
      simp only [List.length_append, List.length_map, hHl] at k1
      have hbase : M'.base = M.base := by rw [hMd']
      rw [hbase]
      rcases Nat.lt_or_ge o M.H.length with c1 | c1
      · rw [hφlo _ c1] at k2
        exact hM.lo o b c1 k2
      · rw [show o = (o - M.H.length) + M.H.length by omega, hφhi] at k2
        have := hge _ _ (by omega) k2
        have := hM.bs
        omega
  refine ⟨v, r.ren HR ρ, M'.H, M'.φ, rfl, ?_, ?_, ?_, ?_, ?_, fun _ => Early.Ext.of_below hb⟩
  · rw [hMd', hρ]
    rw [hHs]
    exact hR
  · rw [hMd'] at hM' ⊢; exact hM'
  · have := hMs2.trans hle
    rw [hMd'] at this ⊢; exact this
  · have := RA.ren hMc hren hr (by
      rcases hcs (q := calmA r && HR.all calmO) rfl with ⟨h1, h2⟩ | h1
      · simp only [Bool.and_eq_true] at h1
        exact .inl ⟨h1.1, h2⟩
      · exact .inr h1)
    rw [hMcd] at this
    rw [hMd'] at this ⊢
    exact this
  · exact ⟨hb.os, hb.tape, hb.output, hb.size, fun k hk => hb.block k (by have := hM.bs; omega)⟩
/-- The end of a function that leaves no object, its result told by a property. -/
theorem fin0R {rs : List ARes} {s : St} {x : AV} {e : AExit} {Q : AV → List AO → Prop} (he : match e with | .exit _ => False | _ => True) (h : resOf s rs = some x) (hr : Q (x.ren s.H (idx [] 0)) []) : Fin 0 rs Q e s :=
  ⟨he, .inl ⟨s, x, [], Wk.refl _ _, h, rfl, hr⟩⟩
end Abs
end Go
/-
  AN ABSTRACT MACHINE, part 19: a nil slice that stands in a variable's part may be taken for an own row.
-/
namespace Go
namespace Abs
open Go.RowKit

theorem Wk_nilB {m0 : Nat} {s : St} (o j sz : Nat) (t : TypeId) {x : AV} (ho : s.H[o]? = some (.box x)) (hx : x.flat[j]? = some (.p (.v (.slice none 0 0)))) :
    Wk m0 s ⟨s.t, (s.H ++ [AO.row [] sz t false]).set o (.box (.agg (x.flat.set j (.os s.H.length 0 0))))⟩ := by
  intro N M0 φ a w hm0 hs
  have hM : MemOk (⟨w, s.H, φ, M0.base, M0.S⟩ : Mem) := hs.m
  have hlo := (List.getElem?_eq_some_iff.1 ho).1
  have hle := Le.grow (M := ⟨w, s.H, φ, M0.base, M0.S⟩) (ob := .row [] sz t false) (nb := none) hM (Nat.le_refl _) (fun _ _ => rfl) (fun b h => by cases h)
  have hM2 := MemOk.grow (M := ⟨w, s.H, φ, M0.base, M0.S⟩) (ob := .row [] sz t false) (nb := none) hM (Nat.le_refl _) (fun _ _ => rfl) (fun b h => by cases h) ⟨fun e he => (by cases he), .inl ⟨upd_at _ _ _, rfl⟩⟩
  obtain ⟨M1, hM1⟩ : ∃ M1 : Mem, M1 = ⟨w, s.H ++ [.row [] sz t false], upd φ s.H.length none, M0.base, M0.S⟩ := ⟨_, rfl⟩
  have ho1 : M1.H[o]? = some (.box x) := by rw [hM1]; dsimp only; rw [List.getElem?_append_left hlo]; exact ho
  have hMM : MemOk M1 := by rw [hM1]; exact hM2
  have hLL : Le ⟨w, s.H, φ, M0.base, M0.S⟩ M1 := by rw [hM1]; exact hle
  have hw1 : M1.w = w := by rw [hM1]
  obtain ⟨b, cur, tt, hb, hh, hc1, hc2⟩ := hMM.ok o _ ho1
  have hturn := Le.turn (ob' := .box (.agg (x.flat.set j (.os s.H.length 0 0)))) (w' := M1.w) (nb := M1.φ o) hMM ho1 rfl (Nat.le_refl _) (fun _ _ _ => rfl) (.inl rfl) rfl (Nat.le_refl _) (fun _ => ⟨rfl, rfl, fun _ _ => rfl⟩)
  have hos : RA ⟨M1.w, M1.H.set o (.box (.agg (x.flat.set j (.os s.H.length 0 0)))), upd M1.φ o (M1.φ o), M1.base, M1.S⟩ (.os s.H.length 0 0) (.slice none 0 0) := by
    refine .os _ _ _ _ ⟨.row [] sz t false, ?_, by simp [AO.len], fun _ t' _ => .inl ⟨?_, rfl, rfl, rfl⟩⟩
    · dsimp only
      rw [List.getElem?_set_ne (by omega), hM1]
      simp
    · simp only [upd]
      rw [if_neg (by omega), hM1]
      exact upd_at _ _ _
  have hcells : CellsOk ⟨M1.w, M1.H.set o (.box (.agg (x.flat.set j (.os s.H.length 0 0)))), upd M1.φ o (M1.φ o), M1.base, M1.S⟩ (x.flat.set j (.os s.H.length 0 0)) cur := by
    refine ⟨by rw [List.length_set]; exact hc1, fun i hi => ?_⟩
    have hi' : i < x.flat.length := by simpa using hi
    obtain ⟨c, k1, k2, k3⟩ := hc2 i hi'
    by_cases e : j = i
    · subst e
      have hxx : x.flat[j] = .p (.v (.slice none 0 0)) := by rw [List.getElem?_eq_getElem hi'] at hx; exact Option.some.inj hx
      rw [hxx] at k2
      refine ⟨c, k1, ?_, k3⟩
      rw [List.getElem_set_self, k2.lit.1]
      exact hos
    · refine ⟨c, k1, ?_, k3⟩
      rw [List.getElem_set_ne e]
      exact k2.mono hturn
  have hmt := MemOk.turn (ob' := .box (.agg (x.flat.set j (.os s.H.length 0 0)))) (w' := M1.w) (nb := M1.φ o) hMM ho1 rfl (Nat.le_refl _) (fun _ _ _ => rfl) (.inl rfl) rfl (Nat.le_refl _) (fun _ => ⟨rfl, rfl, fun _ _ => rfl⟩)
    ⟨b, cur, tt, by simp [upd, hb], hh, hcells⟩
  have hH : M1.H.set o (.box (.agg (x.flat.set j (.os s.H.length 0 0)))) = (s.H ++ [AO.row [] sz t false]).set o (.box (.agg (x.flat.set j (.os s.H.length 0 0)))) := by rw [hM1]
  refine ⟨upd M1.φ o (M1.φ o), hs.d, hs.n, ?_, fun i => ?_, hs.b, ?_⟩
  · rw [← hH]
    have e1 : M1.base = M0.base := by rw [hM1]
    have e2 : M1.S = M0.S := by rw [hM1]
    rw [hw1, e1, e2] at hmt
    exact hmt
  · have := ((hs.r i).mono hLL).mono hturn
    have e1 : M1.base = M0.base := by rw [hM1]
    have e2 : M1.S = M0.S := by rw [hM1]
    rw [hw1, e1, e2] at this
    rw [← hH]
    exact this
  · have h3 := (hs.le.trans hLL).trans hturn
    have e1 : M1.base = M0.base := by rw [hM1]
    have e2 : M1.S = M0.S := by rw [hM1]
    rw [hw1, e1, e2] at h3
    rw [← hH]
    exact h3
end Abs
end Go
/-
  AN ABSTRACT MACHINE: lists of read values that are built.
-/
namespace Go
namespace Abs

theorem allP_ps : ∀ (l : List PV), allP (l.map AV.p) = some l
  | [] => rfl
  | x :: l => by
    rw [List.map_cons, allP, allP_ps l]; rfl
theorem allOne_ps (l : List PV) (h : ∀ e ∈ l, e.one = true) : allOne (l.map AV.p) = some l := by
  unfold allOne
  rw [allP_ps]
  dsimp only
  rw [if_pos (List.all_eq_true.2 h)]
theorem renL_ps {H : List AO} {ρ : Nat → Option Nat} : ∀ {l : List AV}, (∀ x ∈ l, ∃ q, x = .p q) → renL H ρ l = l
  | [], _ => rfl
  | x :: l, h => by
    obtain ⟨q, rfl⟩ := h x (by simp)
    rw [renL, renL_ps (fun y hy => h y (by simp [hy])), AV.ren]
theorem ren0_ps {H : List AO} {ρ : Nat → Option Nat} {l : List AV} (h : ∀ x ∈ l, ∃ q, x = .p q) : l.map (ren0 H ρ) = l := by
  conv => rhs; rw [← List.map_id l]
  refine List.map_congr_left fun x hx => ?_
  obtain ⟨q, rfl⟩ := h x hx
  rfl
/-- A list of read values that is built reads as it is. -/
theorem tab_read {l : List PV} {t : TypeId} {fz : Bool} {n : Nat} {Hr : List AO} {ρ : Nat → Option Nat} (h : ∀ e ∈ l, e.one = true) (hn : n = l.length) (hρ : ρ 0 = none) : AV.ren (AO.tab (l.map AV.p) t fz :: Hr) ρ (.os 0 0 n) = .p (.sl l) := by
  subst hn
  have hp : ∀ x ∈ l.map AV.p, ∃ q, x = .p q := fun x hx => by obtain ⟨q, _, rfl⟩ := List.mem_map.1 hx; exact ⟨q, rfl⟩
  rw [AV.ren]
  simp only [hρ, List.getElem?_cons_zero, ren0_ps hp, allOne_ps l h, Nat.zero_add, List.length_map, if_true, List.drop_zero]
end Abs
end Go
