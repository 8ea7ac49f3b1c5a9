/-
  AN ABSTRACT MACHINE, part 15: a contract on values alone serves wherever the function is called.
-/
import Derived.Test.YtjkmhjjfipnbbaaAbsn
namespace Go
namespace Abs
open Go.RowKit

/-- The objects behind a call that leaves r and HR. -/
def hpast (H : List AO) (args : List AV) (r : AV) (HR : List AO) : List AO :=
  (if calmA r && HR.all calmO then H else frzL H args) ++ HR.map (AO.ren HR fun o => some (o + H.length))
theorem getElem?_app {α : Type} {a b : List α} {o : Nat} {x : α} (h : (a ++ b)[o]? = some x) : (o < a.length ∧ a[o]? = some x) ∨ (a.length ≤ o ∧ b[o - a.length]? = some x) := by
  rcases Nat.lt_or_ge o a.length with h1 | h1
  · exact .inl ⟨h1, by rwa [List.getElem?_append_left h1] at h⟩
  · exact .inr ⟨h1, by rwa [List.getElem?_append_right h1] at h⟩
theorem HC_of_PC {P : Program} {e : Bool} {f : FuncId} {args : List AV} {H : List AO} {ps : List PV} {r : AV} {HR : List AO} (hv : views H args = some ps) (h : PC P f ps r HR) {R : AV → List AO → Prop}
    (hR : R (r.ren HR fun o => some (o + H.length)) (hpast H args r HR)) : HC P e f args H R := by
  intro M vs hM hH ha
  subst hH
  obtain ⟨hf1, hf2⟩ := frzL_ok (M := M) args (H := M.H) hM
  have hRP := views_ok (M := M) (M' := ⟨M.w, frzL M.H args, M.φ, M.base, M.S⟩) hf2 hf1 ha hv (fun x hx => frzL_self args M.H x hx)
  obtain ⟨Hs, hHs⟩ : ∃ Hs, Hs = if calmA r && HR.all calmO then M.H else frzL M.H args := ⟨_, rfl⟩
  have hHl : Hs.length = M.H.length := by
    rw [hHs]
    split
    · rfl
    · exact frzL_length _ _
  have hMs : MemOk ⟨M.w, Hs, M.φ, M.base, M.S⟩ ∧ Le M ⟨M.w, Hs, M.φ, M.base, M.S⟩ := by
    rw [hHs]
    split
    · exact ⟨hM, Le.refl M⟩
    · exact ⟨hf1, hf2⟩
  obtain ⟨hMs1, hMs2⟩ := hMs
  refine (h M.w (Mem.shared ⟨M.w, frzL M.H args, M.φ, M.base, M.S⟩) vs ⟨hRP.1, fun i hi hi' => (hRP.2 i hi hi').mono fun b hb => ⟨⟨hb.1, hb⟩, rfl⟩⟩).mono ?_
  rintro en w' ⟨v, φR, rfl, hMc, hr, hb⟩
  obtain ⟨ρ, hρ⟩ : ∃ ρ : Nat → Option Nat, ρ = fun o => some (o + M.H.length) := ⟨_, rfl⟩
  obtain ⟨Mc, hMcd⟩ : ∃ Mc : Mem, Mc = ⟨w', HR, φR, M.w.heap.size, Mem.shared ⟨M.w, frzL M.H args, M.φ, M.base, M.S⟩⟩ := ⟨_, rfl⟩
  obtain ⟨M', hMd'⟩ : ∃ M' : Mem, M' = ⟨w', Hs ++ HR.map (AO.ren HR ρ), fun o => if o < M.H.length then M.φ o else φR (o - M.H.length), M.base, M.S⟩ := ⟨_, rfl⟩
  rw [← hMcd] at hMc hr
  have hφlo : ∀ o, o < M.H.length → M'.φ o = M.φ o := fun o ho => by rw [hMd']; simp [ho]
  have hφhi : ∀ o, M'.φ (o + M.H.length) = φR o := fun o => by rw [hMd']; dsimp only; rw [if_neg (by omega), Nat.add_sub_cancel]
  have hHlo : ∀ o, o < M.H.length → M'.H[o]? = Hs[o]? := fun o ho => by rw [hMd']; dsimp only; rw [List.getElem?_append_left (by omega)]
  have hHhi : ∀ o, M'.H[o + M.H.length]? = (HR[o]?).map (AO.ren HR ρ) := fun o => by
    rw [hMd']; dsimp only
    rw [List.getElem?_append_right (by omega), hHl, Nat.add_sub_cancel, List.getElem?_map]
  have hlt : ∀ o b, o < M.H.length → M.φ o = some b → b < M.w.heap.size := fun o b ho hb => hM.lt ho hb
  have hge : ∀ o b, o < HR.length → φR o = some b → M.w.heap.size ≤ b := fun o b ho hb => by
    have := hMc.lo o b (by rw [hMcd]; exact ho) (by rw [hMcd]; exact hb)
    rw [hMcd] at this
    exact this
  -- whoever stands in M' stands here or there
  have hwho : ∀ (o : Nat) (ob : AO), M'.H[o]? = some ob → (o < M.H.length ∧ Hs[o]? = some ob) ∨ ∃ k ob', o = k + M.H.length ∧ HR[k]? = some ob' ∧ ob = ob'.ren HR ρ := by
    intro o ob ho
    rcases Nat.lt_or_ge o M.H.length with h1 | h1
    · exact .inl ⟨h1, by rw [← hHlo o h1]; exact ho⟩
    · refine .inr ⟨o - M.H.length, ?_⟩
      have := hHhi (o - M.H.length)
      rw [Nat.sub_add_cancel h1, ho] at this
      obtain ⟨ob', h2, h3⟩ := Option.map_eq_some_iff.1 this.symm
      exact ⟨ob', by omega, h2, h3.symm⟩
  have hren : RenOk Mc M' ρ := by
    refine ⟨fun o o' ob h1 h2 => ?_, fun o ob h1 => ?_⟩
    · rw [hρ] at h1
      injection h1 with h1
      subst h1
      rw [hMcd] at h2 ⊢
      have hl := ob.ren_len HR ρ
      exact ⟨_, by rw [hHhi, show HR[o]? = some ob from h2]; rfl, hl.2.2.1, hl.1, hl.2.1, hφhi o, fun b _ => by rw [hMd']⟩
    · rw [hρ] at h1; cases h1
  have hsome : ∀ o, (ρ o).isSome = true := fun o => by rw [hρ]; rfl
  have hsh : (calmA r && HR.all calmO) = false → ShOk Mc M' := by
    intro hcf b hb
    rw [hcf] at hHs
    simp only [Bool.false_eq_true, if_false] at hHs
    rw [hMcd] at hb
    refine ⟨⟨by rw [hMd']; exact hb.1, fun hlt2 => ?_, fun o ob ho hf => ?_⟩, by rw [hMd', hMcd]⟩
    · rw [hMd'] at hlt2 ⊢
      dsimp only at hlt2
      exact (hb.2.1 (Nat.lt_of_lt_of_le hlt2 hM.bs)).2.1 hlt2
    · rcases hwho o ob ho with ⟨h1, h2⟩ | ⟨k, ob', rfl, h2, h3⟩
      · rw [hφlo o h1]
        intro e
        have hbl := hlt o b h1 e
        exact (hb.2.1 hbl).2.2 o ob (by rw [← hHs]; exact h2) hf e
      · rw [hφhi]
        subst h3
        rw [(ob'.ren_len HR ρ).2.2.2] at hf
        exact hb.2.2 k ob' h2 hf
  have hcs : ∀ {q : Bool}, (calmA r && HR.all calmO) = q → (q = true ∧ ∀ o, (ρ o).isSome = true) ∨ ShOk Mc M' := by
    intro q hq
    cases q
    · exact .inr (hsh hq)
    · exact .inl ⟨rfl, hsome⟩
  have hold : ∀ b, b < M.w.heap.size → w'.heap[b]? = M.w.heap[b]? := fun b hb2 => hb.block b hb2
  have hle : Le ⟨M.w, Hs, M.φ, M.base, M.S⟩ M' := by
    refine ⟨fun b hb2 => ⟨⟨by rw [hMd']; exact Nat.lt_of_lt_of_le hb2.1 hb.size, by rw [hMd']; exact hb2.2.1, fun o ob ho hf => ?_⟩, by rw [hMd']; exact hold b hb2.1⟩, fun o ob ho => ?_⟩
    · rcases hwho o ob ho with ⟨h1, h2⟩ | ⟨k, ob', rfl, h2, h3⟩
      · rw [hφlo o h1]
        exact hb2.2.2 o ob h2 hf
      · rw [hφhi]
        intro e
        have := hge k b (List.getElem?_eq_some_iff.1 h2).1 e
        have := hb2.1
        dsimp only at this
        omega
    · have h1 : o < M.H.length := by have := (List.getElem?_eq_some_iff.1 ho).1; dsimp only at this; omega
      refine ⟨ob, by rw [hHlo o h1]; exact ho, rfl, Nat.le_refl _, fun _ => ⟨rfl, hφlo o h1, fun b hb2 => ?_⟩⟩
      have := hold b (hlt o b h1 hb2)
      rw [hMd']
      simp [World.shape?, this]
  have hM' : MemOk M' := by
    refine ⟨fun o ob ho => ?_, fun o1 o2 b k1 k2 k3 k4 => ?_, fun o b k1 k2 => ?_, by rw [hMd']; exact Nat.le_trans hM.bs hb.size⟩
    · rcases hwho o ob ho with ⟨h1, h2⟩ | ⟨k, ob', rfl, h2, h3⟩
      · refine (hMs1.ok o ob h2).mono hle (hφlo o h1) (fun b hb2 => ?_)
        rw [hMd']
        exact hold b (hlt o b h1 hb2)
      · subst h3
        have := ObOk.ren (o' := k + M.H.length) (M' := M') hMc hren (o := k) (ob := ob') (by rw [hφhi, hMcd]) (fun b _ => by rw [hMd', hMcd]) (hMc.ok k ob' (by rw [hMcd]; exact h2))
        rw [hMcd] at this
        rw [hMcd] at hsh
        refine this ?_
        cases hq : (calmA r && HR.all calmO)
        · exact .inr (hsh hq)
        · simp only [Bool.and_eq_true] at hq
          exact .inl ⟨List.all_eq_true.1 hq.2 _ (List.mem_of_getElem? h2), hsome⟩
    · rw [hMd'] at k1 k2
      simp only [List.length_append, List.length_map, hHl] at k1 k2
      rcases Nat.lt_or_ge o1 M.H.length with c1 | c1 <;> rcases Nat.lt_or_ge o2 M.H.length with c2 | c2
      · rw [hφlo _ c1] at k3
        rw [hφlo _ c2] at k4
        exact hM.inj o1 o2 b c1 c2 k3 k4
      · rw [hφlo _ c1] at k3
        rw [show o2 = (o2 - M.H.length) + M.H.length by omega, hφhi] at k4
        have := hlt _ _ c1 k3
        have := hge _ _ (by omega) k4
        omega
      · rw [hφlo _ c2] at k4
        rw [show o1 = (o1 - M.H.length) + M.H.length by omega, hφhi] at k3
        have := hlt _ _ c2 k4
        have := hge _ _ (by omega) k3
        omega
      · rw [show o1 = (o1 - M.H.length) + M.H.length by omega, hφhi] at k3
        rw [show o2 = (o2 - M.H.length) + M.H.length by omega, hφhi] at k4
        have := hMc.inj (o1 - M.H.length) (o2 - M.H.length) b (by rw [hMcd]; dsimp only; omega) (by rw [hMcd]; dsimp only; omega) (by rw [hMcd]; exact k3) (by rw [hMcd]; exact k4)
        omega
    · rw [hMd'] at k1
      simp only [List.length_append, List.length_map, hHl] at k1
      have hbase : M'.base = M.base := by rw [hMd']
      rw [hbase]
      rcases Nat.lt_or_ge o M.H.length with c1 | c1
      · rw [hφlo _ c1] at k2
        exact hM.lo o b c1 k2
      · rw [show o = (o - M.H.length) + M.H.length by omega, hφhi] at k2
        have := hge _ _ (by omega) k2
        have := hM.bs
        omega
  refine ⟨v, r.ren HR ρ, M'.H, M'.φ, rfl, ?_, ?_, ?_, ?_, ?_, fun _ => Early.Ext.of_below hb⟩
  · rw [hMd', hρ]
    rw [hHs]
    exact hR
  · rw [hMd'] at hM' ⊢; exact hM'
  · have := hMs2.trans hle
    rw [hMd'] at this ⊢; exact this
  · have := RA.ren hMc hren hr (by
      rcases hcs (q := calmA r && HR.all calmO) rfl with ⟨h1, h2⟩ | h1
      · simp only [Bool.and_eq_true] at h1
        exact .inl ⟨h1.1, h2⟩
      · exact .inr h1)
    rw [hMcd] at this
    rw [hMd'] at this ⊢
    exact this
  · exact ⟨hb.os, hb.tape, hb.output, hb.size, fun k hk => hb.block k (by have := hM.bs; omega)⟩

/-- A nil slice may be taken for an own row of no elements. -/
theorem Wk_nil {m0 : Nat} {s : St} (i sz : Nat) (t : TypeId) (h : get s.t i = .p (.v (.slice none 0 0))) : Wk m0 s ⟨put s.t i (.os s.H.length 0 0), s.H ++ [.row [] sz t false]⟩ := by
  intro N M0 φ a w hm hs
  have hM : MemOk (⟨w, s.H, φ, M0.base, M0.S⟩ : Mem) := hs.m
  have hle := Le.grow (M := ⟨w, s.H, φ, M0.base, M0.S⟩) (ob := .row [] sz t false) (nb := none) hM (Nat.le_refl _) (fun _ _ => rfl) (fun b h => by cases h)
  refine ⟨upd φ s.H.length none, hs.d, hs.n, MemOk.grow (M := ⟨w, s.H, φ, M0.base, M0.S⟩) hM (Nat.le_refl _) (fun _ _ => rfl) (fun b h => by cases h) ⟨fun e he => (by cases he), .inl ⟨upd_at _ _ _, rfl⟩⟩, fun j => ?_, hs.b, hs.le.trans hle⟩
  rw [get_put]
  by_cases e : i = j
  · subst e
    rw [if_pos rfl]
    have := hs.r i
    rw [h] at this
    exact .os _ _ _ _ ⟨.row [] sz t false, by simp, by simp [AO.len], fun _ t' _ => .inl ⟨upd_at _ _ _, rfl, rfl, this.lit.1⟩⟩
  · rw [if_neg e]
    exact (hs.r j).mono hle
/-- A nil slice reads as one that holds nothing. -/
theorem Wk_nil0 {m0 : Nat} {s : St} (i : Nat) (h : get s.t i = .p (.v (.slice none 0 0))) : Wk m0 s ⟨put s.t i (.p (.sl [])), s.H⟩ := by
  intro N M0 φ a w hm hs
  refine ⟨φ, hs.d, hs.n, hs.m, fun j => ?_, hs.b, hs.le⟩
  rw [get_put]
  by_cases e : i = j
  · subst e
    rw [if_pos rfl]
    have := hs.r i
    rw [h] at this
    rw [this.lit.1]
    exact .p _ _ (.sl [] none 0 0 (fun _ _ => undef) (by simp) (by simp) (fun i h => by simp at h) (.inl rfl) (fun i h => by simp at h))
  · rw [if_neg e]
    exact hs.r j
end Abs
end Go
