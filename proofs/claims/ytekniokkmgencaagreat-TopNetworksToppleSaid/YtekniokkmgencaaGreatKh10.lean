/-
  Texts joined: Mae.
-/
import Derived.Test.YtekniokkmgencaaGreatKh9

section
namespace Go
namespace Abs
open Go.RowKit
def PCR (P : Program) (f : FuncId) (args : List PV) (Q : AV → List AO → Prop) : Prop :=
  ∀ (w : World) (S : Nat → Prop) (vs : List Value), RPs (fun b => b < w.heap.size ∧ S b) w args vs → Calls P f vs.toArray w fun en w' => ∃ v φ r HR, Q r HR ∧ en = .returned v ∧ MemOk ⟨w', HR, φ, w.heap.size, S⟩ ∧ RA ⟨w', HR, φ, w.heap.size, S⟩ r v ∧ Below w.heap.size w w'
theorem PCR_of_W {P : Program} {f : FuncId} {af : AFn} {args : List PV} {Q : AV → List AO → Prop} (hf : cfn P f args.length = some af) (h : W P 0 af.body (Fin 0 af.res Q) ⟨initT 0 (args.map .p), []⟩) : PCR P f args Q := by
  intro w S vs hvs
  have hM : MemOk ⟨w, [], fun _ => none, w.heap.size, S⟩ := ⟨fun o ob h => by simp at h, fun o o' b h => by simp at h, fun o b h => by simp at h, Nat.le_refl _⟩
  have ha : RAs ⟨w, [], fun _ => none, w.heap.size, S⟩ (args.map .p) vs := ⟨by simpa using hvs.1, fun i hi hi' => by
    simp only [List.length_map] at hi
    simp only [List.getElem_map]
    exact .p _ _ ((hvs.2 i hi hi').mono fun b hb => ⟨⟨hb.1, fun _ => hb.2, fun o ob h => by simp at h⟩, rfl⟩)⟩
  refine (fin_calls (by simpa using hf) hM ha h).mono ?_
  rintro en w' ⟨v, r', H', φ', h1, hQ, h3, _, h5, h6⟩
  exact ⟨v, φ', r', H', hQ, h1, h3, h5, h6⟩
theorem HC_of_PCR {P : Program} {e : Bool} {f : FuncId} {args : List AV} {H : List AO} {ps : List PV} {Q : AV → List AO → Prop} (hv : views H args = some ps) (h : PCR P f ps Q) {R : AV → List AO → Prop}
    (hR0 : ∀ r HR, Q r HR → R (r.ren HR fun o => some (o + H.length)) (hpast H args r HR)) : HC P e f args H R := by
  intro M vs hM hH ha
  subst hH
  obtain ⟨hf1, hf2⟩ := frzL_ok (M := M) args (H := M.H) hM
  have hRP := views_ok (M := M) (M' := ⟨M.w, frzL M.H args, M.φ, M.base, M.S⟩) hf2 hf1 ha hv (fun x hx => frzL_self args M.H x hx)
  refine (h M.w (Mem.shared ⟨M.w, frzL M.H args, M.φ, M.base, M.S⟩) vs ⟨hRP.1, fun i hi hi' => (hRP.2 i hi hi').mono fun b hb => ⟨⟨hb.1, hb⟩, rfl⟩⟩).mono ?_
  rintro en w' ⟨v, φR, r, HR, hQ, rfl, hMc, hr, hb⟩
  have hR := hR0 r HR hQ
  obtain ⟨Hs, hHs⟩ : ∃ Hs, Hs = if calmA r && HR.all calmO then M.H else frzL M.H args := ⟨_, rfl⟩
  have hHl : Hs.length = M.H.length := by
    rw [hHs]
    split
    · rfl
    · exact frzL_length _ _
  have hMs : MemOk ⟨M.w, Hs, M.φ, M.base, M.S⟩ ∧ Le M ⟨M.w, Hs, M.φ, M.base, M.S⟩ := by
    rw [hHs]
    split
    · exact ⟨hM, Le.refl M⟩
    · exact ⟨hf1, hf2⟩
  obtain ⟨hMs1, hMs2⟩ := hMs
  obtain ⟨ρ, hρ⟩ : ∃ ρ : Nat → Option Nat, ρ = fun o => some (o + M.H.length) := ⟨_, rfl⟩
  obtain ⟨Mc, hMcd⟩ : ∃ Mc : Mem, Mc = ⟨w', HR, φR, M.w.heap.size, Mem.shared ⟨M.w, frzL M.H args, M.φ, M.base, M.S⟩⟩ := ⟨_, rfl⟩
  obtain ⟨M', hMd'⟩ : ∃ M' : Mem, M' = ⟨w', Hs ++ HR.map (AO.ren HR ρ), fun o => if o < M.H.length then M.φ o else φR (o - M.H.length), M.base, M.S⟩ := ⟨_, rfl⟩
  rw [← hMcd] at hMc hr
  have hφlo : ∀ o, o < M.H.length → M'.φ o = M.φ o := fun o ho => by rw [hMd']; simp [ho]
  have hφhi : ∀ o, M'.φ (o + M.H.length) = φR o := fun o => by rw [hMd']; dsimp only; rw [if_neg (by omega), Nat.add_sub_cancel]
  have hHlo : ∀ o, o < M.H.length → M'.H[o]? = Hs[o]? := fun o ho => by rw [hMd']; dsimp only; rw [List.getElem?_append_left (by omega)]
  have hHhi : ∀ o, M'.H[o + M.H.length]? = (HR[o]?).map (AO.ren HR ρ) := fun o => by
    rw [hMd']; dsimp only
    rw [List.getElem?_append_right (by omega), hHl, Nat.add_sub_cancel, List.getElem?_map]
  have hlt : ∀ o b, o < M.H.length → M.φ o = some b → b < M.w.heap.size := fun o b ho hb => hM.lt ho hb
  have hge : ∀ o b, o < HR.length → φR o = some b → M.w.heap.size ≤ b := fun o b ho hb => by
    have := hMc.lo o b (by rw [hMcd]; exact ho) (by rw [hMcd]; exact hb)
    rw [hMcd] at this
    exact this
  -- whoever stands in M' stands here or there
  have hwho : ∀ (o : Nat) (ob : AO), M'.H[o]? = some ob → (o < M.H.length ∧ Hs[o]? = some ob) ∨ ∃ k ob', o = k + M.H.length ∧ HR[k]? = some ob' ∧ ob = ob'.ren HR ρ := by
    intro o ob ho
    rcases Nat.lt_or_ge o M.H.length with h1 | h1
    · exact .inl ⟨h1, by rw [← hHlo o h1]; exact ho⟩
    · refine .inr ⟨o - M.H.length, ?_⟩
      have := hHhi (o - M.H.length)
      rw [Nat.sub_add_cancel h1, ho] at this
      obtain ⟨ob', h2, h3⟩ := Option.map_eq_some_iff.1 this.symm
      exact ⟨ob', by omega, h2, h3.symm⟩
  have hren : RenOk Mc M' ρ := by
    refine ⟨fun o o' ob h1 h2 => ?_, fun o ob h1 => ?_⟩
    · rw [hρ] at h1
      injection h1 with h1
      subst h1
      rw [hMcd] at h2 ⊢
      have hl := ob.ren_len HR ρ
      exact ⟨_, by rw [hHhi, show HR[o]? = some ob from h2]; rfl, hl.2.2.1, hl.1, hl.2.1, hφhi o, fun b _ => by rw [hMd']⟩
    · rw [hρ] at h1; cases h1
  have hsome : ∀ o, (ρ o).isSome = true := fun o => by rw [hρ]; rfl
  have hsh : (calmA r && HR.all calmO) = false → ShOk Mc M' := by
    intro hcf b hb
    rw [hcf] at hHs
    simp only [Bool.false_eq_true, if_false] at hHs
    rw [hMcd] at hb
    refine ⟨⟨by rw [hMd']; exact hb.1, fun hlt2 => ?_, fun o ob ho hf => ?_⟩, by rw [hMd', hMcd]⟩
    · rw [hMd'] at hlt2 ⊢
      dsimp only at hlt2
      exact (hb.2.1 (Nat.lt_of_lt_of_le hlt2 hM.bs)).2.1 hlt2
    · rcases hwho o ob ho with ⟨h1, h2⟩ | ⟨k, ob', rfl, h2, h3⟩
      · rw [hφlo o h1]
        intro e
        have hbl := hlt o b h1 e
        exact (hb.2.1 hbl).2.2 o ob (by rw [← hHs]; exact h2) hf e
      · rw [hφhi]
        subst h3
        rw [(ob'.ren_len HR ρ).2.2.2] at hf
        exact hb.2.2 k ob' h2 hf
  have hcs : ∀ {q : Bool}, (calmA r && HR.all calmO) = q → (q = true ∧ ∀ o, (ρ o).isSome = true) ∨ ShOk Mc M' := by
    intro q hq
    cases q
    · exact .inr (hsh hq)
    · exact .inl ⟨rfl, hsome⟩
  have hold : ∀ b, b < M.w.heap.size → w'.heap[b]? = M.w.heap[b]? := fun b hb2 => hb.block b hb2
  have hle : Le ⟨M.w, Hs, M.φ, M.base, M.S⟩ M' := by
    refine ⟨fun b hb2 => ⟨⟨by rw [hMd']; exact Nat.lt_of_lt_of_le hb2.1 hb.size, by rw [hMd']; exact hb2.2.1, fun o ob ho hf => ?_⟩, by rw [hMd']; exact hold b hb2.1⟩, fun o ob ho => ?_⟩
    · rcases hwho o ob ho with ⟨h1, h2⟩ | ⟨k, ob', rfl, h2, h3⟩
      · rw [hφlo o h1]
        exact hb2.2.2 o ob h2 hf
      · rw [hφhi]
        intro e
        have := hge k b (List.getElem?_eq_some_iff.1 h2).1 e
        have := hb2.1
        dsimp only at this
        omega
    · have h1 : o < M.H.length := by have := (List.getElem?_eq_some_iff.1 ho).1; dsimp only at this; omega
      refine ⟨ob, by rw [hHlo o h1]; exact ho, rfl, Nat.le_refl _, fun _ => ⟨rfl, hφlo o h1, fun b hb2 => ?_⟩⟩
      have := hold b (hlt o b h1 hb2)
      rw [hMd']
      simp [World.shape?, this]
  have hM' : MemOk M' := by
    refine ⟨fun o ob ho => ?_, fun o1 o2 b k1 k2 k3 k4 => ?_, fun o b k1 k2 => ?_, by rw [hMd']; exact Nat.le_trans hM.bs hb.size⟩
    · rcases hwho o ob ho with ⟨h1, h2⟩ | ⟨k, ob', rfl, h2, h3⟩
      · refine (hMs1.ok o ob h2).mono hle (hφlo o h1) (fun b hb2 => ?_)
        rw [hMd']
        exact hold b (hlt o b h1 hb2)
      · subst h3
        have := ObOk.ren (o' := k + M.H.length) (M' := M') hMc hren (o := k) (ob := ob') (by rw [hφhi, hMcd]) (fun b _ => by rw [hMd', hMcd]) (hMc.ok k ob' (by rw [hMcd]; exact h2))
        rw [hMcd] at this
        rw [hMcd] at hsh
        refine this ?_
        cases hq : (calmA r && HR.all calmO)
        · exact .inr (hsh hq)
        · simp only [Bool.and_eq_true] at hq
          exact .inl ⟨List.all_eq_true.1 hq.2 _ (List.mem_of_getElem? h2), hsome⟩
    · rw [hMd'] at k1 k2
      simp only [List.length_append, List.length_map, hHl] at k1 k2
      rcases Nat.lt_or_ge o1 M.H.length with c1 | c1 <;> rcases Nat.lt_or_ge o2 M.H.length with c2 | c2
      · rw [hφlo _ c1] at k3
        rw [hφlo _ c2] at k4
        exact hM.inj o1 o2 b c1 c2 k3 k4
      · rw [hφlo _ c1] at k3
        rw [show o2 = (o2 - M.H.length) + M.H.length by omega, hφhi] at k4
        have := hlt _ _ c1 k3
        have := hge _ _ (by omega) k4
        omega
      · rw [hφlo _ c2] at k4
        rw [show o1 = (o1 - M.H.length) + M.H.length by omega, hφhi] at k3
        have := hlt _ _ c2 k4
        have := hge _ _ (by omega) k3
        omega
      · rw [show o1 = (o1 - M.H.length) + M.H.length by omega, hφhi] at k3
        rw [show o2 = (o2 - M.H.length) + M.H.length by omega, hφhi] at k4
        have := hMc.inj (o1 - M.H.length) (o2 - M.H.length) b (by rw [hMcd]; dsimp only; omega) (by rw [hMcd]; dsimp only; omega) (by rw [hMcd]; exact k3) (by rw [hMcd]; exact k4)
        omega
    · rw [hMd'] at k1
      simp only [List.length_append, List.length_map, hHl] at k1
      have hbase : M'.base = M.base := by rw [hMd']
      rw [hbase]
      rcases Nat.lt_or_ge o M.H.length with c1 | c1
      · rw [hφlo _ c1] at k2
        exact hM.lo o b c1 k2
      · rw [show o = (o - M.H.length) + M.H.length by omega, hφhi] at k2
        have := hge _ _ (by omega) k2
        have := hM.bs
        omega
  refine ⟨v, r.ren HR ρ, M'.H, M'.φ, rfl, ?_, ?_, ?_, ?_, ?_, fun _ => Early.Ext.of_below hb⟩
  · rw [hMd', hρ]
    rw [hHs]
    exact hR
  · rw [hMd'] at hM' ⊢; exact hM'
  · have := hMs2.trans hle
    rw [hMd'] at this ⊢; exact this
  · have := RA.ren hMc hren hr (by
      rcases hcs (q := calmA r && HR.all calmO) rfl with ⟨h1, h2⟩ | h1
      · simp only [Bool.and_eq_true] at h1
        exact .inl ⟨h1.1, h2⟩
      · exact .inr h1)
    rw [hMcd] at this
    rw [hMd'] at this ⊢
    exact this
  · exact ⟨hb.os, hb.tape, hb.output, hb.size, fun k hk => hb.block k (by have := hM.bs; omega)⟩
theorem fin0R {rs : List ARes} {s : St} {x : AV} {e : AExit} {Q : AV → List AO → Prop} (he : match e with | .exit _ => False | _ => True) (h : resOf s rs = some x) (hr : Q (x.ren s.H (idx [] 0)) []) : Fin 0 rs Q e s :=
  ⟨he, .inl ⟨s, x, [], Wk.refl _ _, h, rfl, hr⟩⟩
end Abs
end Go
/-
  AN ABSTRACT MACHINE, part 19: a nil slice that stands in a variable's part may be taken for an own row.
-/
namespace Go
namespace Abs
open Go.RowKit
theorem Wk_nilB {m0 : Nat} {s : St} (o j sz : Nat) (t : TypeId) {x : AV} (ho : s.H[o]? = some (.box x)) (hx : x.flat[j]? = some (.p (.v (.slice none 0 0)))) :
    Wk m0 s ⟨s.t, (s.H ++ [AO.row [] sz t false]).set o (.box (.agg (x.flat.set j (.os s.H.length 0 0))))⟩ := by
  intro N M0 φ a w hm0 hs
  have hM : MemOk (⟨w, s.H, φ, M0.base, M0.S⟩ : Mem) := hs.m
  have hlo := (List.getElem?_eq_some_iff.1 ho).1
  have hle := Le.grow (M := ⟨w, s.H, φ, M0.base, M0.S⟩) (ob := .row [] sz t false) (nb := none) hM (Nat.le_refl _) (fun _ _ => rfl) (fun b h => by cases h)
  have hM2 := MemOk.grow (M := ⟨w, s.H, φ, M0.base, M0.S⟩) (ob := .row [] sz t false) (nb := none) hM (Nat.le_refl _) (fun _ _ => rfl) (fun b h => by cases h) ⟨fun e he => (by cases he), .inl ⟨upd_at _ _ _, rfl⟩⟩
  obtain ⟨M1, hM1⟩ : ∃ M1 : Mem, M1 = ⟨w, s.H ++ [.row [] sz t false], upd φ s.H.length none, M0.base, M0.S⟩ := ⟨_, rfl⟩
  have ho1 : M1.H[o]? = some (.box x) := by rw [hM1]; dsimp only; rw [List.getElem?_append_left hlo]; exact ho
  have hMM : MemOk M1 := by rw [hM1]; exact hM2
  have hLL : Le ⟨w, s.H, φ, M0.base, M0.S⟩ M1 := by rw [hM1]; exact hle
  have hw1 : M1.w = w := by rw [hM1]
  obtain ⟨b, cur, tt, hb, hh, hc1, hc2⟩ := hMM.ok o _ ho1
  have hturn := Le.turn (ob' := .box (.agg (x.flat.set j (.os s.H.length 0 0)))) (w' := M1.w) (nb := M1.φ o) hMM ho1 rfl (Nat.le_refl _) (fun _ _ _ => rfl) (.inl rfl) rfl (Nat.le_refl _) (fun _ => ⟨rfl, rfl, fun _ _ => rfl⟩)
  have hos : RA ⟨M1.w, M1.H.set o (.box (.agg (x.flat.set j (.os s.H.length 0 0)))), upd M1.φ o (M1.φ o), M1.base, M1.S⟩ (.os s.H.length 0 0) (.slice none 0 0) := by
    refine .os _ _ _ _ ⟨.row [] sz t false, ?_, by simp [AO.len], fun _ t' _ => .inl (.inl ⟨?_, rfl, rfl, rfl⟩)⟩
    · dsimp only
      rw [List.getElem?_set_ne (by omega), hM1]
      simp
    · simp only [upd]
      rw [if_neg (by omega), hM1]
      exact upd_at _ _ _
  have hcells : CellsOk ⟨M1.w, M1.H.set o (.box (.agg (x.flat.set j (.os s.H.length 0 0)))), upd M1.φ o (M1.φ o), M1.base, M1.S⟩ (x.flat.set j (.os s.H.length 0 0)) cur := by
    refine ⟨by rw [List.length_set]; exact hc1, fun i hi => ?_⟩
    have hi' : i < x.flat.length := by simpa using hi
    obtain ⟨c, k1, k2, k3⟩ := hc2 i hi'
    by_cases e : j = i
    · subst e
      have hxx : x.flat[j] = .p (.v (.slice none 0 0)) := by rw [List.getElem?_eq_getElem hi'] at hx; exact Option.some.inj hx
      rw [hxx] at k2
      refine ⟨c, k1, ?_, k3⟩
      rw [List.getElem_set_self, k2.lit.1]
      exact hos
    · refine ⟨c, k1, ?_, k3⟩
      rw [List.getElem_set_ne e]
      exact k2.mono hturn
  have hmt := MemOk.turn (ob' := .box (.agg (x.flat.set j (.os s.H.length 0 0)))) (w' := M1.w) (nb := M1.φ o) hMM ho1 rfl (Nat.le_refl _) (fun _ _ _ => rfl) (.inl rfl) rfl (Nat.le_refl _) (fun _ => ⟨rfl, rfl, fun _ _ => rfl⟩)
    ⟨b, cur, tt, by simp [upd, hb], hh, hcells⟩
  have hH : M1.H.set o (.box (.agg (x.flat.set j (.os s.H.length 0 0)))) = (s.H ++ [AO.row [] sz t false]).set o (.box (.agg (x.flat.set j (.os s.H.length 0 0)))) := by rw [hM1]
  have hdd : DOk M0 ⟨w, (s.H ++ [AO.row [] sz t false]).set o (.box (.agg (x.flat.set j (.os s.H.length 0 0)))), upd M1.φ o (M1.φ o), M0.base, M0.S⟩ a.defers := by
    have h3 := hLL.trans hturn
    have e1 : M1.base = M0.base := by rw [hM1]
    have e2 : M1.S = M0.S := by rw [hM1]
    rw [hw1, e1, e2] at h3
    rw [← hH]
    exact hs.d.mono h3.sh
  refine ⟨upd M1.φ o (M1.φ o), hdd, hs.n, ?_, fun i => ?_, hs.b, ?_⟩
  · rw [← hH]
    have e1 : M1.base = M0.base := by rw [hM1]
    have e2 : M1.S = M0.S := by rw [hM1]
    rw [hw1, e1, e2] at hmt
    exact hmt
  · have := ((hs.r i).mono hLL).mono hturn
    have e1 : M1.base = M0.base := by rw [hM1]
    have e2 : M1.S = M0.S := by rw [hM1]
    rw [hw1, e1, e2] at this
    rw [← hH]
    exact this
  · have h3 := (hs.le.trans hLL).trans hturn
    have e1 : M1.base = M0.base := by rw [hM1]
    have e2 : M1.S = M0.S := by rw [hM1]
    rw [hw1, e1, e2] at h3
    rw [← hH]
    exact h3
end Abs
end Go
/-
  AN ABSTRACT MACHINE: lists of read values that are built.
-/
namespace Go
namespace Abs
theorem allP_ps : ∀ (l : List PV), allP (l.map AV.p) = some l
  | [] => rfl
  | x :: l => by
    rw [List.map_cons, allP, allP_ps l]; rfl
theorem allOne_ps (l : List PV) (h : ∀ e ∈ l, e.one = true) : allOne (l.map AV.p) = some l := by
  unfold allOne
  rw [allP_ps]
  dsimp only
  rw [if_pos (List.all_eq_true.2 h)]
end Abs
end Go
/-
  AN ABSTRACT MACHINE: a round of a range over a function.
-/
namespace Go
namespace Abs
open Go.RowKit
def putAll (t : List (Nat × AV)) : List Nat → List AV → List (Nat × AV)
  | p :: ps, x :: xs => putAll (put t p x) ps xs
  | _, _ => t
def foldP (tm : Array Value) : List Nat → List Value → Array Value
  | p :: ps, v :: vs => foldP (tm.setIfInBounds p v) ps vs
  | _, _ => tm
theorem foldP_eq : ∀ (ps : List Nat) (vs : List Value) (tm : Array Value), (ps.zip vs).foldl (fun t (x : Nat × Value) => t.setIfInBounds x.1 x.2) tm = foldP tm ps vs
  | [], vs, tm => by cases vs <;> rfl
  | p :: ps, [], tm => rfl
  | p :: ps, v :: vs, tm => by rw [List.zip_cons_cons, List.foldl_cons, foldP_eq ps vs]; rfl
theorem foldP_size : ∀ (ps : List Nat) (vs : List Value) (tm : Array Value), (foldP tm ps vs).size = tm.size
  | [], vs, tm => by cases vs <;> rfl
  | p :: ps, [], tm => rfl
  | p :: ps, v :: vs, tm => by rw [foldP, foldP_size ps vs]; simp
theorem put_env {M : Mem} {t : List (Nat × AV)} {tm : Array Value} {p : Nat} {x : AV} {v : Value} (hp : p < tm.size) (hx : RA M x v) (h : ∀ i, RA M (get t i) (tm.getD i undef)) (i : Nat) : RA M (get (put t p x) i) ((tm.setIfInBounds p v).getD i undef) := by
  rw [get_put]
  by_cases e : p = i
  · subst e
    rw [if_pos rfl, Array.getD_eq_getD_getElem?, Array.getElem?_setIfInBounds_self_of_lt hp]
    exact hx
  · rw [if_neg e, Array.getD_eq_getD_getElem?, Array.getElem?_setIfInBounds_ne e, ← Array.getD_eq_getD_getElem?]
    exact h i
theorem putAll_env {M : Mem} : ∀ (ps : List Nat) (xs : List AV) (vs : List Value) (t : List (Nat × AV)) (tm : Array Value), (∀ p ∈ ps, p < tm.size) → RAs M xs vs → (∀ i, RA M (get t i) (tm.getD i undef)) → ∀ i, RA M (get (putAll t ps xs) i) ((foldP tm ps vs).getD i undef)
  | [], xs, vs, t, tm, _, _, h, i => by cases xs <;> cases vs <;> exact h i
  | p :: ps, [], vs, t, tm, _, hr, h, i => by
    cases vs with
    | nil => exact h i
    | cons v vs => have := hr.1; simp at this
  | p :: ps, x :: xs, [], t, tm, _, hr, h, i => by have := hr.1; simp at this
  | p :: ps, x :: xs, v :: vs, t, tm, hp, hr, h, i => by
    refine putAll_env ps xs vs _ _ (fun q hq => by simpa using hp q (List.mem_cons_of_mem _ hq)) ⟨by simpa using hr.1, fun j hj hj' => ?_⟩ (put_env (hp p (by simp)) (hr.2 0 (by simp) (by simp)) h) i
    exact hr.2 (j + 1) (by simpa using hj) (by simpa using hj')
section
variable {P : Program}
def RoundEnd (n : Nat) (t : List (Nat × AV)) (ps : List Nat) (a c : Code) (o : Nat) (K : AV → List AO → Prop) : AExit → St → Prop
  | .normal, s => s.H[o]? = some (.lp n t ps a c .busy) ∧ K (.p (.v (.bool true))) (s.H.set o (.lp n t ps a c .ready))
  | .ret, s => s.H[o]? = some (.lp n t ps a c .busy) ∧ K (.p (.v (.bool false))) (s.H.set o (.lp n t ps a c (.done .ret)))
  | .exit id, s => s.H[o]? = some (.lp n t ps a c .busy) ∧ K (.p (.v (.bool false))) (s.H.set o (.lp n t ps a c (.done (.exit id))))
def RoundIn' (P : Program) (m0 n : Nat) (t : List (Nat × AV)) (ps : List Nat) (a c : Code) (ac : AC) (o : Nat) (K : AV → List AO → Prop) : AExit → St → Prop
  | .normal, s => s.H[o]? = some (.lp n t ps a c .ready) ∧ W P m0 ac (RoundEnd n t ps a c o K) ⟨s.t, s.H.set o (.lp n t ps a c .busy)⟩
  | _, _ => False
theorem RoundIn'_normal {m0 n : Nat} {t : List (Nat × AV)} {ps : List Nat} {a c : Code} {ac : AC} {o : Nat} {K : AV → List AO → Prop} {s : St} : RoundIn' P m0 n t ps a c ac o K .normal s = (s.H[o]? = some (.lp n t ps a c .ready) ∧ W P m0 ac (RoundEnd n t ps a c o K) ⟨s.t, s.H.set o (.lp n t ps a c .busy)⟩) := rfl
theorem RoundEnd_normal {n : Nat} {t : List (Nat × AV)} {ps : List Nat} {a c : Code} {o : Nat} {K : AV → List AO → Prop} {s : St} : RoundEnd n t ps a c o K .normal s = (s.H[o]? = some (.lp n t ps a c .busy) ∧ K (.p (.v (.bool true))) (s.H.set o (.lp n t ps a c .ready))) := rfl
theorem AfterR_ready {Q : AExit → St → Prop} {t : List (Nat × AV)} {o : Nat} {H : List AO} {n : Nat} {t' : List (Nat × AV)} {ps : List Nat} {a c : Code} (h : H[o]? = some (.lp n t' ps a c .ready)) (hq : Q .normal ⟨t, H.set o (.lp n t' ps a c .over)⟩) : AfterR Q t o H := by unfold AfterR; rw [h]; exact hq
theorem loop_turn {M : Mem} (hM : MemOk M) {o b n : Nat} {t : List (Nat × AV)} {ps : List Nat} {a c : Code} {st st' : LSt} (ho : M.H[o]? = some (.lp n t ps a c st)) {r : Loop} (hb : M.φ o = some b) (hr : M.w.heap[b]? = some (.loop r)) {r' : Loop} (h1 : r'.state = st'.state) (h2 : r'.pending = st'.pend)
    (h3 : r'.params = r.params) (h4 : r'.assign = r.assign) (h5 : r'.body = r.body) (h6 : r'.tmps = r.tmps) :
    MemOk ⟨M.w.putObj b (.loop r'), M.H.set o (.lp n t ps a c st'), upd M.φ o (M.φ o), M.base, M.S⟩ ∧ Le M ⟨M.w.putObj b (.loop r'), M.H.set o (.lp n t ps a c st'), upd M.φ o (M.φ o), M.base, M.S⟩ ∧ Below M.base M.w (M.w.putObj b (.loop r')) ∧
      (M.w.putObj b (.loop r')).heap[b]? = some (.loop r') ∧ upd M.φ o (M.φ o) o = some b := by
  have hlo := (List.getElem?_eq_some_iff.1 ho).1
  have hlt := (Array.getElem?_eq_some_iff.1 hr).1
  have hold : ∀ k, k < M.w.heap.size → M.φ o ≠ some k → (M.w.putObj b (.loop r')).heap[k]? = M.w.heap[k]? := fun k _ hne => World.putObj_heap_other (fun e => hne (by rw [hb, e]))
  have hnew : (M.w.putObj b (.loop r')).heap[b]? = some (.loop r') := World.putObj_heap_same hlt
  have hsz : M.w.heap.size ≤ (M.w.putObj b (.loop r')).heap.size := by simp [World.putObj]
  have hsh : ∀ k, M.φ o = some k → (M.w.putObj b (.loop r')).shape? k = M.w.shape? k := fun k hk => by
    rw [hb] at hk
    injection hk with hk
    subst hk
    simp [World.shape?, hnew, hr]
  have hle := Le.turn hM (ob' := .lp n t ps a c st') ho rfl hsz hold (.inl rfl) rfl (Nat.le_refl _) (fun _ => ⟨rfl, rfl, hsh⟩)
  obtain ⟨b', r0, j1, j2, j3, j4, j5, j6, j7, j8, j9⟩ := hM.ok _ _ ho
  rw [hb] at j1
  injection j1 with j1
  subst j1
  rw [hr] at j2
  injection j2 with j2
  injection j2 with j2
  subst j2
  refine ⟨MemOk.turn hM ho rfl hsz hold (.inl rfl) rfl (Nat.le_refl _) (fun _ => ⟨rfl, rfl, hsh⟩) ⟨b, r', (upd_at _ _ _).trans hb, hnew, h1, .inr h2, by rw [h3]; exact j5, by rw [h4]; exact j6, by rw [h5]; exact j7, by rw [h6]; exact j8, fun i => by rw [h6]; exact (j9 i).mono hle⟩, hle, ?_, hnew, (upd_at _ _ _).trans hb⟩
  exact (Below.refl _ _).grown (grownBy_putObj' _ _ _) hM.bs (fun k e => by cases e; exact hM.lo o b hlo hb)
theorem HY_of_W {o N : Nat} {args : List AV} {H : List AO} {t : List (Nat × AV)} {ps : List Nat} {a c : Code} {aa ac : AC} {K : AV → List AO → Prop} (ho : H[o]? = some (.lp N t ps a c .ready)) (ha : ccode P N a = some aa) (hc : ccode P N c = some ac)
    (hps : (ps.all fun p => decide (p < N)) = true) (hl : args.length = ps.length) (hra : roB aa = true) (hrc : roB ac = true) (h : W P H.length aa (RoundIn' P H.length N t ps a c ac o K) ⟨putAll t ps args, H⟩) : HY P o args H K := by
  intro M vs hM hH hargs b hφ
  subst hH
  have hlo := (List.getElem?_eq_some_iff.1 ho).1
  obtain ⟨b', r, j1, j2, j3, j4, j5, j6, j7, j8, j9⟩ := hM.ok _ _ ho
  rw [hφ] at j1
  injection j1 with j1
  subst j1
  have hp := j4.resolve_left (by simp)
  have hsz : vs.toArray.size = r.params.size := by rw [j5]; simp [hargs.1, hl]
  refine ⟨r.fn, _, r.assign, r.body, run_yield j2 hsz, roundIn_of_wpIn trivial ?_⟩
  rw [j6, j7]
  have hF : Fence.wide.inRound b = Early.fen (some b) := rfl
  rw [hF]
  have htm : (r.params.zip vs.toArray).foldl (fun tmps (x : Nat × Value) => tmps.setIfInBounds x.1 x.2) r.tmps = foldP r.tmps ps vs := by
    rw [j5, ← foldP_eq, ← Array.foldl_toList]
    simp
  have htm' : (r.params.zip vs.toArray).foldl (fun tmps (t, a) => tmps.setIfInBounds t a) r.tmps = foldP r.tmps ps vs := htm
  rw [htm']
  have hs : Sim N M ⟨putAll t ps args, M.H⟩ M.φ { tmps := foldP r.tmps ps vs, defers := [] } M.w := by
    refine ⟨.nil, by rw [foldP_size]; exact j8, hM, ?_, Below.refl _ _, Le.refl _⟩
    exact putAll_env ps args vs t r.tmps (fun p hp => by rw [j8]; simpa using List.all_eq_true.1 hps p hp) hargs j9
  refine wpIn_mono (W_ok ha h hs (some b) (roB_ok _ hra)) ?_
  rintro e a1 w1 ⟨ae, s1, φ1, rfl, hq, hs1⟩
  cases ae with
  | ret => exact hq.elim
  | exit id => exact hq.elim
  | normal =>
    obtain ⟨ho1, hW⟩ := hq
    obtain ⟨ob1, k1, k2, k3, k4⟩ := hs1.le.ob o _ ho
    dsimp only at k1
    rw [ho1] at k1
    injection k1 with k1
    subst k1
    obtain ⟨-, k5, -⟩ := k4 rfl
    have hφ1 : φ1 o = some b := k5.trans hφ
    obtain ⟨b1, r1, i1, i2, i3, i4, i5, i6, i7, i8, i9⟩ := hs1.m.ok _ _ ho1
    dsimp only at i1 i2
    rw [hφ1] at i1
    injection i1 with i1
    subst i1
    obtain ⟨hM2, hle2, hb2, hn2, hφ2⟩ := loop_turn (M := ⟨w1, s1.H, φ1, M.base, M.S⟩) hs1.m (st' := .busy) ho1 hφ1 i2 (r' := { r1 with state := .busy }) rfl (i4.resolve_left (by simp)) rfl rfl rfl rfl
    refine ⟨_, run_beginRound i2 i3, ?_⟩
    have hs2 : Sim N M ⟨s1.t, s1.H.set o (.lp N t ps a c .busy)⟩ (upd φ1 o (φ1 o)) a1 (w1.putObj b (.loop { r1 with state := .busy })) := ⟨hs1.d.mono hle2.sh, hs1.n, hM2, fun i => (hs1.r i).mono hle2, hs1.b.trans hb2, hs1.le.trans hle2⟩
    refine wpIn_mono (W_ok hc hW hs2 (some b) (roB_ok _ hrc)) ?_
    rintro e a3 w3 ⟨ae, s3, φ3, rfl, hq, hs3⟩
    have fin : ∀ (st' : LSt) (jump : Option Code) (x : Bool), s3.H[o]? = some (.lp N t ps a c .busy) → K (.p (.v (.bool x))) (s3.H.set o (.lp N t ps a c st')) → st'.state = (if jump.isNone then .ready else .done) → st'.pend = jump → x = jump.isNone →
        ∃ v w', (Instr.endRound b jump).run P w3 = .ok v w' ∧ ∃ v' r' H' φ', Ending.returned v = .returned v' ∧ K r' H' ∧ MemOk ⟨w', H', φ', M.base, M.S⟩ ∧ Le M ⟨w', H', φ', M.base, M.S⟩ ∧ RA ⟨w', H', φ', M.base, M.S⟩ r' v' ∧ Below M.base M.w w' := by
      intro st' jump x ho3 hK hst hpe hx
      obtain ⟨ob3, k1, k2, k3, k4⟩ := hs3.le.ob o _ ho
      dsimp only at k1
      rw [ho3] at k1
      injection k1 with k1
      subst k1
      obtain ⟨-, k5, -⟩ := k4 rfl
      have hφ3 : φ3 o = some b := k5.trans hφ
      obtain ⟨b3, r3, i1, i2, i3, i4, i5, i6, i7, i8, i9⟩ := hs3.m.ok _ _ ho3
      dsimp only at i1 i2
      rw [hφ3] at i1
      injection i1 with i1
      subst i1
      obtain ⟨hM4, hle4, hb4, -, -⟩ := loop_turn (M := ⟨w3, s3.H, φ3, M.base, M.S⟩) hs3.m (st' := st') ho3 hφ3 i2 (r' := { r3 with state := if jump.isNone then .ready else .done, pending := jump }) hst.symm hpe.symm rfl rfl rfl rfl
      refine ⟨_, _, run_endRound jump i2, _, _, _, _, rfl, hK, hM4, hs3.le.trans hle4, ?_, hs3.b.trans hb4⟩
      rw [hx]
      exact RA.val rfl
    cases ae with
    | normal => exact fin .ready none true hq.1 hq.2 rfl rfl rfl
    | ret => exact fin (.done .ret) (some .ret) false hq.1 hq.2 rfl rfl rfl
    | exit id => exact fin (.done (.exit id)) (some (.exit id)) false hq.1 hq.2 rfl rfl rfl
end
mutual
def loA (m : Nat) : AV → Bool
  | .p _ | .sp _ _ | .dead => true
  | .os o _ _ => decide (o < m)
  | .ptr o _ _ _ => decide (o < m)
  | .mp o => decide (o < m)
  | .bs o _ _ => decide (o < m)
  | .yl o => decide (o < m)
  | .cut _ _ _ _ => false
  | .bc _ _ _ => false
  | .ifc _ x => loA m x
  | .agg l => loL m l
  | .tup l => loL m l
  | .fn _ a b => loL m a && loL m b
def loL (m : Nat) : List AV → Bool
  | [] => true
  | x :: l => loA m x && loL m l
end
section
variable {m : Nat} {H : List AO} {ρ : Nat → Option Nat}
mutual
theorem loA_ren (hρ : ∀ i, i < m → ρ i = some i) : ∀ x : AV, loA m x = true → x.ren H ρ = x
  | .p _, _ => by rw [AV.ren]
  | .sp _ _, _ => by rw [AV.ren]
  | .dead, _ => by rw [AV.ren]
  | .os o _ _, h => by rw [AV.ren, hρ o (of_decide_eq_true h)]
  | .ptr o _ _ _, h => by rw [AV.ren, hρ o (of_decide_eq_true h)]
  | .mp o, h => by rw [AV.ren, hρ o (of_decide_eq_true h)]
  | .bs o _ _, h => by rw [AV.ren, hρ o (of_decide_eq_true h)]
  | .yl o, h => by rw [AV.ren, hρ o (of_decide_eq_true h)]
  | .ifc _ x, h => by rw [AV.ren, loA_ren hρ x h]
  | .agg l, h => by rw [AV.ren, loL_ren hρ l h]
  | .tup l, h => by rw [AV.ren, loL_ren hρ l h]
  | .fn _ a b, h => by
    simp only [loA, Bool.and_eq_true] at h
    rw [AV.ren, loL_ren hρ a h.1, loL_ren hρ b h.2]
theorem loL_ren (hρ : ∀ i, i < m → ρ i = some i) : ∀ l : List AV, loL m l = true → renL H ρ l = l
  | [], _ => by rw [renL]
  | x :: l, h => by
    simp only [loL, Bool.and_eq_true] at h
    rw [renL, loA_ren hρ x h.1, loL_ren hρ l h.2]
end
end
def loT (m : Nat) (t : List (Nat × AV)) : Bool := t.all fun x => loA m x.2
theorem lp_ren {m n : Nat} {t : List (Nat × AV)} {ps : List Nat} {a c : Code} {st : LSt} (h : loT m t = true) {H : List AO} {ρ : Nat → Option Nat} (hρ : ∀ i, i < m → ρ i = some i) : AO.ren H ρ (.lp n t ps a c st) = .lp n t ps a c st := by
  have : (t.map fun x => (x.1, x.2.ren H ρ)) = t := by
    conv => rhs; rw [← List.map_id t]
    refine List.map_congr_left fun x hx => ?_
    have h1 : t.all (fun x => loA m x.2) = true := h
    have := List.all_eq_true.1 h1 x hx
    rw [loA_ren hρ x.2 this]; rfl
  rw [AO.ren, this]
theorem Wk_flat {m0 : Nat} {s : St} (o : Nat) {x y : AV} (ho : s.H[o]? = some (.box x)) (hf : x.flat = y.flat) : Wk m0 s ⟨s.t, s.H.set o (.box y)⟩ := by
  intro N M0 φ a w hm0 hs
  have hM : MemOk (⟨w, s.H, φ, M0.base, M0.S⟩ : Mem) := hs.m
  obtain ⟨b, cur, tt, hb, hh, hc1, hc2⟩ := hM.ok o _ ho
  have hle := Le.turn (ob' := .box y) (w' := w) (nb := φ o) hM ho rfl (Nat.le_refl _) (fun _ _ _ => rfl) (.inl rfl) rfl (Nat.le_refl _) (fun _ => ⟨rfl, rfl, fun _ _ => rfl⟩)
  have hmt := MemOk.turn (ob' := .box y) (w' := w) (nb := φ o) hM ho rfl (Nat.le_refl _) (fun _ _ _ => rfl) (.inl rfl) rfl (Nat.le_refl _) (fun _ => ⟨rfl, rfl, fun _ _ => rfl⟩)
    ⟨b, cur, tt, by simp [upd]; exact hb, hh, by rw [← hf]; exact hc1, fun i hi => by
      obtain ⟨c, k1, k2, k3⟩ := hc2 i (by rw [hf]; exact hi)
      refine ⟨c, k1, ?_, k3⟩
      simp only [hf] at k2
      exact k2.mono hle⟩
  exact ⟨upd φ o (φ o), hs.d.mono hle.sh, hs.n, hmt, fun i => (hs.r i).mono hle, hs.b, hs.le.trans hle⟩
section
variable {H : List AO} {ρ : Nat → Option Nat}
theorem ren_box {x : AV} : AO.ren H ρ (.box x) = .box (x.ren H ρ) := rfl
theorem ren_fbx {x : AV} : AO.ren H ρ (.fbx x) = .fbx (x.ren H ρ) := rfl
theorem ren_row {els : List PV} {sz : Nat} {t : TypeId} {fz : Bool} : AO.ren H ρ (.row els sz t fz) = .row els sz t fz := rfl
theorem ren_tab {els : List AV} {t : TypeId} {fz : Bool} : AO.ren H ρ (.tab els t fz) = .tab (renL H ρ els) t fz := rfl
theorem ren_dict {kd : KD} {es : List (KV × AV)} : AO.ren H ρ (.dict kd es) = .dict kd (es.map fun x => (x.1, x.2.ren H ρ)) := rfl
end
theorem loopS {P : Program} {m0 : Nat} {c : AC} {Q : AExit → St → Prop} {s : St} (N : Nat) (I : Nat → St → Prop) (σ keep : List Nat) (hσ : okσ σ m0 s.H = true) (h0 : I 0 (norm σ keep s)) (h : ∀ k s, k ≤ N → I k s → W P m0 c (RoundQ m0 N k I Q) s) : LoopAt P m0 c Q s :=
  loopW N I (Wk_norm σ keep hσ) h0 h
theorem idx_at (x : Nat) (l : List Nat) (k o : Nat) : idx (x :: l) k o = if x = o then some k else idx l (k + 1) o := rfl
theorem idx_at0 (k o : Nat) : idx [] k o = none := rfl
theorem aev_nilf {t : List (Nat × AV)} : aev t (.const .nilFunc) = some (.p (.v .nilFunc)) := rfl
theorem aev_nilp {t : List (Nat × AV)} : aev t (.const (.pointer none)) = some (.p (.v (.pointer none))) := rfl
attribute [simp] RoundIn'_normal RoundEnd_normal putAll aev_nilf aev_nilp
end Abs
end Go
/-
  AN ABSTRACT MACHINE: objects at the end that nothing names are let go.
-/
namespace Go
namespace Abs
def loO (m : Nat) : AO → Bool
  | .row _ _ _ _ => true
  | .box x => loA m x
  | .tab els _ _ => loL m els
  | .dict _ es => es.all fun x => loA m x.2
  | .fbx x => loA m x
  | .lp _ t _ _ _ _ => loT m t
  | .arr els _ _ => loL m els
theorem loO_ren {m : Nat} {H : List AO} {ρ : Nat → Option Nat} (hρ : ∀ i, i < m → ρ i = some i) : ∀ ob : AO, loO m ob = true → AO.ren H ρ ob = ob
  | .row _ _ _ _, _ => rfl
  | .box x, h => by rw [AO.ren, loA_ren hρ x h]
  | .fbx x, h => by rw [AO.ren, loA_ren hρ x h]
  | .tab els _ _, h => by rw [AO.ren, loL_ren hρ els h]
  | .dict kd es, h => by
    have : (es.map fun x => (x.1, x.2.ren H ρ)) = es := by
      conv => rhs; rw [← List.map_id es]
      refine List.map_congr_left fun x hx => ?_
      have h1 : es.all (fun x => loA m x.2) = true := h
      have := List.all_eq_true.1 h1 x hx
      rw [loA_ren hρ x.2 this]; rfl
    rw [AO.ren, this]
  | .lp _ _ _ _ _ _, h => lp_ren h hρ
  | .arr els _ _, h => by rw [AO.ren, loL_ren hρ els h]
theorem idx_range' : ∀ (n a k o : Nat), a ≤ o → o < a + n → idx (List.range' a n) k o = some (k + (o - a))
  | 0, a, k, o, h1, h2 => by omega
  | n + 1, a, k, o, h1, h2 => by
    rw [List.range'_succ, idx]
    by_cases e : a = o
    · rw [if_pos e]; congr 1; omega
    · rw [if_neg e, idx_range' n (a + 1) (k + 1) o (by omega) (by omega)]; congr 1; omega
theorem idx_range {n o : Nat} (h : o < n) : idx (List.range n) 0 o = some o := by
  rw [List.range_eq_range', idx_range' n 0 0 o (by omega) (by omega)]; congr 1; omega
theorem nodupB_range' : ∀ (n a : Nat), nodupB (List.range' a n) = true
  | 0, a => rfl
  | n + 1, a => by
    rw [List.range'_succ, nodupB, nodupB_range' n (a + 1)]
    simp [List.mem_range']
    omega
theorem firstB_range' : ∀ (m n a : Nat), m ≤ n → firstB a m (List.range' a n) = true
  | 0, n, a, _ => by unfold firstB; rfl
  | m + 1, 0, a, h => by omega
  | m + 1, n + 1, a, h => by
    rw [List.range'_succ, firstB, firstB_range' m n (a + 1) (by omega)]
    simp
theorem okσ_range {m n : Nat} {H : List AO} (h1 : m ≤ n) (h2 : n ≤ H.length) : okσ (List.range n) m H = true := by
  simp only [okσ, Bool.and_eq_true]
  refine ⟨⟨List.all_eq_true.2 fun o ho => ?_, ?_⟩, ?_⟩
  · have := List.mem_range.1 ho
    exact decide_eq_true (by omega)
  · rw [List.range_eq_range']; exact nodupB_range' n 0
  · rw [List.range_eq_range']; exact firstB_range' m n 0 h1
theorem Wk_pop {m0 : Nat} {t : List (Nat × AV)} {H H' : List AO} (n : Nat) (keep : List Nat) (h1 : m0 ≤ n) (h2 : n ≤ H.length) (e : H.take n = H') (ht : ∀ i ∈ keep, loA n (get t i) = true) (hH : ∀ ob ∈ H', loO n ob = true) :
    Wk m0 ⟨t, H⟩ ⟨keep.map fun i => (i, get t i), H'⟩ := by
  have hρ : ∀ i, i < n → idx (List.range n) 0 i = some i := fun i hi => idx_range hi
  have key : norm (List.range n) keep ⟨t, H⟩ = ⟨keep.map fun i => (i, get t i), H'⟩ := by
    unfold norm
    have a1 : (keep.map fun i => (i, (get t i).ren H (idx (List.range n) 0))) = keep.map fun i => (i, get t i) :=
      List.map_congr_left fun i hi => by rw [loA_ren hρ _ (ht i hi)]
    have a2 : ((List.range n).map fun o => (H.getD o (.box .dead)).ren H (idx (List.range n) 0)) = H' := by
      subst e
      refine List.ext_getElem (by simp; omega) fun i hi hi' => ?_
      simp only [List.length_map, List.length_range] at hi
      have hlt : i < H.length := by omega
      have hm : H[i] ∈ H.take n := by
        refine List.mem_iff_getElem.2 ⟨i, by simp; omega, by simp⟩
      simp only [List.getElem_map, List.getElem_range, List.getElem_take]
      rw [List.getD_eq_getElem?_getD, List.getElem?_eq_getElem hlt, Option.getD_some, loO_ren hρ _ (hH _ hm)]
    dsimp only
    rw [a1, a2]
  exact key ▸ Wk_norm (List.range n) keep (okσ_range h1 h2)
theorem HC_ptr {P : Program} {e : Bool} {f : FuncId} {af : AFn} {o j : Nat} {H : List AO} {y : AV} {ps rest : List PV} {x : Value} {R : AV → List AO → Prop} (hf : cfn P f (rest.length + 1) = some af) (ho : H[o]? = some (.box y)) (hv : view H (.agg y.flat) = some (.agg ps))
    (h : W P 0 af.body (Fin 0 af.res fun r' H' => r' = .p (.v x) ∧ H' = []) ⟨initT 0 (.sp (.agg ps) j :: rest.map .p), []⟩) (hR : R (.p (.v x)) H) : HC P e f (.ptr o 1 0 j :: rest.map .p) H R := by
  intro M vs hM hH ha
  subst hH
  obtain ⟨hf1, hf2⟩ := frzL_ok (M := M) [.agg y.flat, .bs o 0 0] (H := M.H) hM
  have hfz : Fz (frzL M.H [.agg y.flat, .bs o 0 0]) o (.box y) := frzL_self [.agg y.flat, .bs o 0 0] M.H (.bs o 0 0) (by simp) _ ho
  obtain ⟨H2, hH2⟩ : ∃ H2, H2 = frzL M.H [.agg y.flat, .bs o 0 0] := ⟨_, rfl⟩
  have hself : FzV M.H H2 (.agg y.flat) := by rw [hH2]; exact frzL_self [.agg y.flat, .bs o 0 0] M.H (.agg y.flat) (by simp)
  rw [← hH2] at hf1 hf2 hfz
  have hfz' : H2[o]? = some (.fbx y) := hfz
  obtain ⟨b, cur, t, hb, hc, hcells⟩ := hM.ok o _ ho
  have hagg : RA M (.agg y.flat) (.agg cur) := .agg _ _ hcells.1 (fun c hc => by
    obtain ⟨i, hi, rfl⟩ := Array.mem_iff_getElem.1 hc
    obtain ⟨c', h1, _, h3⟩ := hcells.2 i (by rw [← hcells.1]; exact hi)
    rw [Array.getElem?_eq_getElem hi] at h1
    injection h1 with h1
    rw [h1]; exact h3) (fun i hi hi' => by
    obtain ⟨c', h1, h2, _⟩ := hcells.2 i hi
    rw [Array.getElem?_eq_getElem hi'] at h1
    injection h1 with h1
    rw [h1]; exact h2)
  have hRP := view_ok (M' := ⟨M.w, H2, M.φ, M.base, M.S⟩) hf2 hf1 hagg hv hself
  have hsb : Mem.shared ⟨M.w, H2, M.φ, M.base, M.S⟩ b := shared_of hf1 hfz' rfl hb
  obtain ⟨S2, hS2⟩ : ∃ S2, S2 = Mem.shared ⟨M.w, H2, M.φ, M.base, M.S⟩ := ⟨_, rfl⟩
  rw [← hS2] at hRP hsb
  have hup : ∀ b, S2 b → Mem.shared ⟨M.w, [], fun _ => none, M.w.heap.size, S2⟩ b ∧ M.w.heap[b]? = M.w.heap[b]? := fun b hb => ⟨⟨by rw [hS2] at hb; exact hb.1, fun _ => hb, fun o ob h => by simp at h⟩, rfl⟩
  have hM3 : MemOk ⟨M.w, [], fun _ => none, M.w.heap.size, S2⟩ := ⟨fun o ob h => by simp at h, fun o o' b h => by simp at h, fun o b h => by simp at h, Nat.le_refl _⟩
  have hl := ha.1
  simp only [List.length_cons, List.length_map] at hl
  have ha3 : RAs ⟨M.w, [], fun _ => none, M.w.heap.size, S2⟩ (.sp (.agg ps) j :: rest.map .p) vs := by
    refine ⟨by simpa using hl, fun i hi hi' => ?_⟩
    have hai := ha.2 i (by simpa using hi) hi'
    cases i with
    | zero =>
      simp only [List.getElem_cons_zero] at hai ⊢
      generalize vs[0] = v0 at hai ⊢
      cases hai with
      | ptr o n i j v hp =>
        obtain ⟨ob, k1, k2, k3⟩ := hp
        rw [ho] at k1
        injection k1 with k1
        subst k1
        obtain ⟨b', k4, rfl⟩ := k3 rfl
        rw [hb] at k4
        injection k4 with k4
        subst k4
        have e1 : 0 * (AO.box y).sz + j = 0 + j := by simp
        rw [e1]
        cases hRP with
        | agg l cs h1 h2 h3 =>
          refine .sp (.agg ps) j b 0 (fun k => cur.getD k undef) (hup b hsb).1 h2 (fun k hk => ?_) (fun k hk => ?_)
          · have hk' : k < cur.size := by rw [h1]; exact hk
            rw [Nat.zero_add]
            simp [World.cell?, hc, hk']
          · have hk' : k < cur.size := by rw [h1]; exact hk
            have e2 : cur.getD k undef = cur[k] := by simp [Array.getD, hk']
            show RP _ _ _ (cur.getD k undef)
            rw [e2]
            exact (h3 k hk hk').mono hup
    | succ i =>
      simp only [List.getElem_cons_succ, List.getElem_map] at hai ⊢
      exact .p _ _ ((hai.toP.mono hf2.sh).mono fun b hb => by rw [← hS2] at hb; exact hup b hb)
  refine (fin_calls (by simpa using hf) hM3 ha3 h).mono ?_
  rintro en w' ⟨v, r', H', φ', rfl, ⟨rfl, rfl⟩, h3, _, h5, h6⟩
  have hold : ∀ b, b < M.w.heap.size → w'.heap[b]? = M.w.heap[b]? := fun b hb2 => h6.block b hb2
  have hle : Le M ⟨w', M.H, M.φ, M.base, M.S⟩ := by
    refine ⟨fun b hb2 => ⟨⟨Nat.lt_of_lt_of_le hb2.1 h6.size, hb2.2.1, hb2.2.2⟩, hold b hb2.1⟩, fun o ob ho => ⟨ob, ho, rfl, Nat.le_refl _, fun _ => ⟨rfl, rfl, fun b hb2 => ?_⟩⟩⟩
    have := hold b (hM.lt (List.getElem?_eq_some_iff.1 ho).1 hb2)
    simp [World.shape?, this]
  refine ⟨v, .p (.v x), M.H, M.φ, rfl, hR, ?_, hle, ?_, ?_, fun _ => Early.Ext.of_below h6⟩
  · exact ⟨fun o ob ho => (hM.ok o ob ho).mono hle rfl (fun b hb2 => hold b (hM.lt (List.getElem?_eq_some_iff.1 ho).1 hb2)), hM.inj, hM.lo, Nat.le_trans hM.bs h6.size⟩
  · obtain ⟨rfl, hs⟩ := h5.lit
    exact .p _ _ (.v _ hs)
  · exact ⟨h6.os, h6.tape, h6.output, h6.size, fun k hk => h6.block k (by have := hM.bs; show k < M.w.heap.size; omega)⟩
theorem Wk_nilBT {m0 : Nat} {s : St} (o j : Nat) (t : TypeId) {x : AV} (ho : s.H[o]? = some (.box x)) (hx : x.flat[j]? = some (.p (.v (.slice none 0 0)))) :
    Wk m0 s ⟨s.t, (s.H ++ [AO.tab [] t false]).set o (.box (.agg (x.flat.set j (.os s.H.length 0 0))))⟩ := by
  intro N M0 φ a w hm0 hs
  have hM : MemOk (⟨w, s.H, φ, M0.base, M0.S⟩ : Mem) := hs.m
  have hlo := (List.getElem?_eq_some_iff.1 ho).1
  have hle := Le.grow (M := ⟨w, s.H, φ, M0.base, M0.S⟩) (ob := .tab [] t false) (nb := none) hM (Nat.le_refl _) (fun _ _ => rfl) (fun b h => by cases h)
  have hM2 := MemOk.grow (M := ⟨w, s.H, φ, M0.base, M0.S⟩) (ob := .tab [] t false) (nb := none) hM (Nat.le_refl _) (fun _ _ => rfl) (fun b h => by cases h) (.inl ⟨upd_at _ _ _, rfl⟩)
  obtain ⟨M1, hM1⟩ : ∃ M1 : Mem, M1 = ⟨w, s.H ++ [.tab [] t false], upd φ s.H.length none, M0.base, M0.S⟩ := ⟨_, rfl⟩
  have ho1 : M1.H[o]? = some (.box x) := by rw [hM1]; dsimp only; rw [List.getElem?_append_left hlo]; exact ho
  have hMM : MemOk M1 := by rw [hM1]; exact hM2
  have hLL : Le ⟨w, s.H, φ, M0.base, M0.S⟩ M1 := by rw [hM1]; exact hle
  have hw1 : M1.w = w := by rw [hM1]
  obtain ⟨b, cur, tt, hb, hh, hc1, hc2⟩ := hMM.ok o _ ho1
  have hturn := Le.turn (ob' := .box (.agg (x.flat.set j (.os s.H.length 0 0)))) (w' := M1.w) (nb := M1.φ o) hMM ho1 rfl (Nat.le_refl _) (fun _ _ _ => rfl) (.inl rfl) rfl (Nat.le_refl _) (fun _ => ⟨rfl, rfl, fun _ _ => rfl⟩)
  have hos : RA ⟨M1.w, M1.H.set o (.box (.agg (x.flat.set j (.os s.H.length 0 0)))), upd M1.φ o (M1.φ o), M1.base, M1.S⟩ (.os s.H.length 0 0) (.slice none 0 0) := by
    refine .os _ _ _ _ ⟨.tab [] t false, ?_, by simp [AO.len], fun _ t' _ => .inl (.inl ⟨?_, rfl, rfl, rfl⟩)⟩
    · dsimp only
      rw [List.getElem?_set_ne (by omega), hM1]
      simp
    · simp only [upd]
      rw [if_neg (by omega), hM1]
      exact upd_at _ _ _
  have hcells : CellsOk ⟨M1.w, M1.H.set o (.box (.agg (x.flat.set j (.os s.H.length 0 0)))), upd M1.φ o (M1.φ o), M1.base, M1.S⟩ (x.flat.set j (.os s.H.length 0 0)) cur := by
    refine ⟨by rw [List.length_set]; exact hc1, fun i hi => ?_⟩
    have hi' : i < x.flat.length := by simpa using hi
    obtain ⟨c, k1, k2, k3⟩ := hc2 i hi'
    by_cases e : j = i
    · subst e
      have hxx : x.flat[j] = .p (.v (.slice none 0 0)) := by rw [List.getElem?_eq_getElem hi'] at hx; exact Option.some.inj hx
      rw [hxx] at k2
      refine ⟨c, k1, ?_, k3⟩
      rw [List.getElem_set_self, k2.lit.1]
      exact hos
    · refine ⟨c, k1, ?_, k3⟩
      rw [List.getElem_set_ne e]
      exact k2.mono hturn
  have hmt := MemOk.turn (ob' := .box (.agg (x.flat.set j (.os s.H.length 0 0)))) (w' := M1.w) (nb := M1.φ o) hMM ho1 rfl (Nat.le_refl _) (fun _ _ _ => rfl) (.inl rfl) rfl (Nat.le_refl _) (fun _ => ⟨rfl, rfl, fun _ _ => rfl⟩)
    ⟨b, cur, tt, by simp [upd, hb], hh, hcells⟩
  have hH : M1.H.set o (.box (.agg (x.flat.set j (.os s.H.length 0 0)))) = (s.H ++ [AO.tab [] t false]).set o (.box (.agg (x.flat.set j (.os s.H.length 0 0)))) := by rw [hM1]
  have hdd : DOk M0 ⟨w, (s.H ++ [AO.tab [] t false]).set o (.box (.agg (x.flat.set j (.os s.H.length 0 0)))), upd M1.φ o (M1.φ o), M0.base, M0.S⟩ a.defers := by
    have h3 := hLL.trans hturn
    have e1 : M1.base = M0.base := by rw [hM1]
    have e2 : M1.S = M0.S := by rw [hM1]
    rw [hw1, e1, e2] at h3
    rw [← hH]
    exact hs.d.mono h3.sh
  refine ⟨upd M1.φ o (M1.φ o), hdd, hs.n, ?_, fun i => ?_, hs.b, ?_⟩
  · rw [← hH]
    have e1 : M1.base = M0.base := by rw [hM1]
    have e2 : M1.S = M0.S := by rw [hM1]
    rw [hw1, e1, e2] at hmt
    exact hmt
  · have := ((hs.r i).mono hLL).mono hturn
    have e1 : M1.base = M0.base := by rw [hM1]
    have e2 : M1.S = M0.S := by rw [hM1]
    rw [hw1, e1, e2] at this
    rw [← hH]
    exact this
  · have h3 := (hs.le.trans hLL).trans hturn
    have e1 : M1.base = M0.base := by rw [hM1]
    have e2 : M1.S = M0.S := by rw [hM1]
    rw [hw1, e1, e2] at h3
    rw [← hH]
    exact h3
end Abs
end Go
end
