/-
  AN ABSTRACT MACHINE: a function that only reads what it is handed, functions among it, wherever it is called.
-/
import Derived.Test.YtgbmdikkdjogpaaAcb
set_option linter.unusedSimpArgs false
set_option linter.unusedVariables false
namespace Go
namespace Abs
open Go.RowKit

/-- How an argument looks to a function that only reads. L: what is looked through. -/
inductive Ro (H : List AO) (L : List AV) : AV → AV → Prop
  | p (a : AV) (x : PV) (hv : view H a = some x) (hL : a ∈ L) : Ro H L a (.p x)
  | ptr (o j : Nat) (y : AV) (ps : List PV) (ho : H[o]? = some (.box y)) (hv : view H (.agg y.flat) = some (.agg ps)) (h1 : .agg y.flat ∈ L) (h2 : .bs o 0 0 ∈ L) : Ro H L (.ptr o 1 0 j) (.sp (.agg ps) j)
  | fn (f : Fn) (cap cap' : List AV) (hl : cap.length = cap'.length) (h : ∀ i (hi : i < cap.length) (hi' : i < cap'.length), Ro H L cap[i] cap'[i]) : Ro H L (.fn f [] cap) (.fn f [] cap')
theorem ro_ok {M : Mem} {L : List AV} {H2 : List AO} (hM : MemOk M) (hf1 : MemOk ⟨M.w, H2, M.φ, M.base, M.S⟩) (hf2 : Le M ⟨M.w, H2, M.φ, M.base, M.S⟩) (hself : ∀ x ∈ L, FzV M.H H2 x) {S2 : Nat → Prop} (hS2 : S2 = Mem.shared ⟨M.w, H2, M.φ, M.base, M.S⟩) :
    ∀ {a a' : AV}, Ro M.H L a a' → ∀ v, RA M a v → RA ⟨M.w, [], fun _ => none, M.w.heap.size, S2⟩ a' v := by
  have hup : ∀ b, S2 b → Mem.shared ⟨M.w, [], fun _ => none, M.w.heap.size, S2⟩ b ∧ M.w.heap[b]? = M.w.heap[b]? := fun b hb => ⟨⟨by rw [hS2] at hb; exact hb.1, fun _ => hb, fun o ob h => by simp at h⟩, rfl⟩
  intro a a' hro
  induction hro with
  | p a x hv hL =>
    intro v hr
    have := view_ok (M' := ⟨M.w, H2, M.φ, M.base, M.S⟩) hf2 hf1 hr hv (hself a hL)
    rw [← hS2] at this
    exact .p _ _ (this.mono hup)
  | fn f cap cap' hl h ih =>
    intro v hr
    cases hr with
    | fn f first cap fs cs k1 k2 k3 k4 =>
      exact .fn f [] cap' fs cs k1 (by rw [k2, hl]) (fun i hi => by simp at hi) (fun i hi hi' => ih i (by omega) hi _ (k4 i (by omega) hi'))
  | ptr o j y ps ho hv h1 h2 =>
    intro v hr
    have hfz' : H2[o]? = some (.fbx y) := by
      have : Fz H2 o (.box y) := hself _ h2 _ ho
      exact this
    obtain ⟨b, cur, t, hb, hc, hcells⟩ := hM.ok o _ ho
    have hagg : RA M (.agg y.flat) (.agg cur) := .agg _ _ hcells.1 (fun c hc => by
      obtain ⟨i, hi, rfl⟩ := Array.mem_iff_getElem.1 hc
      obtain ⟨c', h1, _, h3⟩ := hcells.2 i (by rw [← hcells.1]; exact hi)
      rw [Array.getElem?_eq_getElem hi] at h1
      injection h1 with h1
      rw [h1]; exact h3) (fun i hi hi' => by
      obtain ⟨c', h1, h2, _⟩ := hcells.2 i hi
      rw [Array.getElem?_eq_getElem hi'] at h1
      injection h1 with h1
      rw [h1]; exact h2)
    have hRP := view_ok (M' := ⟨M.w, H2, M.φ, M.base, M.S⟩) hf2 hf1 hagg hv (hself _ h1)
    have hsb : Mem.shared ⟨M.w, H2, M.φ, M.base, M.S⟩ b := shared_of hf1 hfz' rfl hb
    rw [← hS2] at hRP hsb
    cases hr with
    | ptr o n i j v hp =>
      obtain ⟨ob, k1, k2, k3⟩ := hp
      rw [ho] at k1
      injection k1 with k1
      subst k1
      obtain ⟨b', k4, rfl⟩ := k3 rfl
      rw [hb] at k4
      injection k4 with k4
      subst k4
      have e1 : 0 * (AO.box y).sz + j = 0 + j := by simp
      rw [e1]
      cases hRP with
      | agg l cs h1 h2 h3 =>
        refine .sp (.agg ps) j b 0 (fun k => cur.getD k undef) (hup b hsb).1 h2 (fun k hk => ?_) (fun k hk => ?_)
        · have hk' : k < cur.size := by rw [h1]; exact hk
          rw [Nat.zero_add]
          simp [World.cell?, hc, hk']
        · have hk' : k < cur.size := by rw [h1]; exact hk
          have e2 : cur.getD k undef = cur[k] := by simp [Array.getD, hk']
          show RP _ _ _ (cur.getD k undef)
          rw [e2]
          exact (h3 k hk hk').mono hup
/-- A function that only reads: wherever it is called, in a region too. -/
theorem HC_ro {P : Program} {e : Bool} {f : FuncId} {af : AFn} {H : List AO} {args args' : List AV} (L : List AV) {z : PV} {R : AV → List AO → Prop} (hf : cfn P f args'.length = some af) (hl : args.length = args'.length)
    (hro : ∀ i (hi : i < args.length) (hi' : i < args'.length), Ro H L args[i] args'[i]) (hz : calmP z = true)
    (h : W P 0 af.body (Fin 0 af.res fun r' H' => r' = .p z ∧ H' = []) ⟨initT 0 args', []⟩) (hR : R (.p z) H) : HC P e f args H R := by
  intro M vs hM hH ha
  subst hH
  obtain ⟨hf1, hf2⟩ := frzL_ok (M := M) L (H := M.H) hM
  obtain ⟨H2, hH2⟩ : ∃ H2, H2 = frzL M.H L := ⟨_, rfl⟩
  have hself : ∀ x ∈ L, FzV M.H H2 x := fun x hx => by rw [hH2]; exact frzL_self L M.H x hx
  rw [← hH2] at hf1 hf2
  obtain ⟨S2, hS2⟩ : ∃ S2, S2 = Mem.shared ⟨M.w, H2, M.φ, M.base, M.S⟩ := ⟨_, rfl⟩
  have hM3 : MemOk ⟨M.w, [], fun _ => none, M.w.heap.size, S2⟩ := ⟨fun o ob h => by simp at h, fun o o' b h => by simp at h, fun o b h => by simp at h, Nat.le_refl _⟩
  have hal := ha.1
  have ha3 : RAs ⟨M.w, [], fun _ => none, M.w.heap.size, S2⟩ args' vs := ⟨by omega, fun i hi hi' => ro_ok hM hf1 hf2 hself hS2 (hro i (by omega) hi) _ (ha.2 i (by omega) hi')⟩
  refine (fin_calls hf hM3 ha3 h).mono ?_
  rintro en w' ⟨v, r', H', φ', rfl, ⟨rfl, rfl⟩, h3, _, h5, h6⟩
  have hold : ∀ b, b < M.w.heap.size → w'.heap[b]? = M.w.heap[b]? := fun b hb2 => h6.block b hb2
  have hle : Le M ⟨w', M.H, M.φ, M.base, M.S⟩ := by
    refine ⟨fun b hb2 => ⟨⟨Nat.lt_of_lt_of_le hb2.1 h6.size, hb2.2.1, hb2.2.2⟩, hold b hb2.1⟩, fun o ob ho => ⟨ob, ho, rfl, Nat.le_refl _, fun _ => ⟨rfl, rfl, fun b hb2 => ?_⟩⟩⟩
    have := hold b (hM.lt (List.getElem?_eq_some_iff.1 ho).1 hb2)
    simp [World.shape?, this]
  refine ⟨v, .p z, M.H, M.φ, rfl, hR, ?_, hle, ?_, ?_, fun _ => Early.Ext.of_below h6⟩
  · exact ⟨fun o ob ho => (hM.ok o ob ho).mono hle rfl (fun b hb2 => hold b (hM.lt (List.getElem?_eq_some_iff.1 ho).1 hb2)), hM.inj, hM.lo, Nat.le_trans hM.bs h6.size⟩
  · exact .p _ _ (h5.toP.calm hz)
  · exact ⟨h6.os, h6.tape, h6.output, h6.size, fun k hk => h6.block k (by have := hM.bs; show k < M.w.heap.size; omega)⟩
end Abs
end Go
