/-
  AN ABSTRACT MACHINE, part 12: regions, in whatever order; code; loops.
-/
import Derived.Test.YtjkmhjjfipnbbaaAbsk
namespace Go
namespace Abs
open Go.RowKit

section
variable {P : Program} {N : Nat} {M0 : Mem} {s : St} {φ : Nat → Option Nat} {a : Act} {w : World} {ops : Array Oper}
theorem undef_ok {M : Mem} : RA M (.tup []) undef := .tup [] #[] rfl (fun i h => by simp at h)
theorem Wop_ok (hs : Sim N M0 s φ a w) {o : Oper} {ao : AOper} (hco : coper P ops N o = some ao) {e : Bool} (he : e = true → grows ao.op = true) {K : St → Prop} (h : Wop P e ao K s) {rest : List Oper} {Q : Exit → Act → World → Prop}
    (hn : ∀ s' φ' a' w', K s' → Sim N M0 s' φ' a' w' → (e = true → Early.Ext w w') → wpList P ops Q rest a' w') : wpList P ops Q (o :: rest) a w := by
  obtain ⟨hc, hdst, hlt, hgd⟩ := coper_ok hco
  unfold Wop at h
  unfold wpList
  split at h
  · rename_i hg
    rw [if_pos (hgd hs.r hg)]
    refine .inl (step_ok hs hc he h ?_)
    rintro v w' ⟨x, H', φ', h1, h2, h3, h4, h5, h6⟩
    rw [hdst] at h1
    exact hn _ φ' _ w' h1 (hs.put hlt h2 h3 h4 h5) h6
  · rename_i hg
    rw [if_neg (by rw [hgd hs.r hg]; simp)]
    rw [hdst] at h
    exact hn _ φ _ w h (hs.put hlt hs.m (Le.refl _) undef_ok (Below.refl _ _)) (fun _ => Early.Ext.refl _)
  · exact h.elim
theorem mapM_cons_some {α β : Type} {f : α → Option β} {x : α} {l : List α} {ys : List β} (h : (x :: l).mapM f = some ys) : ∃ y m, f x = some y ∧ l.mapM f = some m ∧ ys = y :: m := by
  simp only [List.mapM_cons, Option.bind_eq_bind, Option.pure_def, Option.bind_eq_some_iff, Option.some.injEq] at h
  obtain ⟨y, hy, m, hm, h⟩ := h
  exact ⟨y, m, hy, hm, h.symm⟩
theorem Wops_ok : ∀ {l : List Oper} {al : List AOper} {s : St} {φ : Nat → Option Nat} {a : Act} {w : World}, l.mapM (coper P ops N) = some al → Sim N M0 s φ a w → ∀ {K : St → Prop}, Wops P al K s → ∀ {Q : Exit → Act → World → Prop},
    (∀ s' φ' a' w', K s' → Sim N M0 s' φ' a' w' → Q .normal a' w') → wpList P ops Q l a w
  | [], al, s, φ, a, w, hm, hs, K, h, Q, hn => by
    simp at hm
    subst hm
    exact hn s φ a w h hs
  | o :: l, al, s, φ, a, w, hm, hs, K, h, Q, hn => by
    obtain ⟨ao, m, h1, h2, rfl⟩ := mapM_cons_some hm
    exact Wop_ok hs h1 (fun h => by cases h) h (fun s' φ' a' w' hK hs' _ => Wops_ok h2 hs' hK hn)

/-- The operations that look alone. -/
def lookA : AOp → Bool
  | .mov _ | .pick _ _ _ | .load _ _ _ | .bin _ _ _ _ | .un _ _ | .ext _ _ | .fadr _ _ | .iadr _ _ _ | .iadrA _ _ _ _ | .fld _ _ _ _ | .idx _ _ _ _ _ | .len _ | .bld _ _ _ | .fn _ _ _ | .mm _ _ _ | .nilc _ => true
  | _ => false
theorem looks_of {o : Oper} {op : AOp} {H : List AO} (hc : cop P o = some op) (hl : lookA op = true) (hs : Env ⟨w, H, φ, M0.base, M0.S⟩ s.t a) (hH : s.H = H) {r : AV} {H' : List AO} (h : astep op s = some (r, H')) : Early.looks a.eval o = true := by
  cases hop : o.op with
  | binOp bop t x y yt =>
    have hbin : ∃ bo, op = .bin bo bop x y := by
      simp only [cop, hop] at hc
      split at hc
      · split at hc
        · injection hc with hc; subst hc; cases hl
        · injection hc with hc; subst hc; cases hl
        · cases hc
      · exact ⟨_, (Option.some.inj hc).symm⟩
      · exact ⟨_, (Option.some.inj hc).symm⟩
      · cases hc
    obtain ⟨bo, rfl⟩ := hbin
    simp only [astep] at h
    split at h
    · rename_i u v hu hv
      have e1 := (aev_ok hs hu).lit.1
      have e2 := (aev_ok hs hv).lit.1
      obtain ⟨c, hcc, _⟩ := Option.map_eq_some_iff.1 h
      unfold Early.looks
      rw [hop]
      dsimp only
      rw [e1, e2]
      unfold litBin at hcc
      split at hcc
      · split at hcc
        · cases bop <;> first | rfl | (simp at hcc; done)
        · cases hcc
      · rfl
      · cases hcc
    · cases h
  | nilCheck x =>
    simp only [cop, hop, Option.some.injEq] at hc
    subst hc
    simp only [astep] at h
    split at h
    · rename_i y hy
      have ry := aev_ok hs hy
      split at h
      · split at h
        · rename_i hsol
          obtain ⟨ob, h1, h2, h3⟩ := ry.toPtr
          subst hH
          simp only [solid, h1, beq_iff_eq] at hsol
          obtain ⟨b, _, hv⟩ := h3 hsol
          unfold Early.looks
          rw [hop]
          dsimp only
          rw [hv]
        · cases h
      · have hp : ∃ b, a.eval x = .pointer b := by
          generalize a.eval x = v at ry
          cases ry with | sp => exact ⟨_, rfl⟩
        obtain ⟨b, hv⟩ := hp
        unfold Early.looks
        rw [hop]
        dsimp only
        rw [hv]
      · cases h
    · cases h
  | call c =>
    obtain ⟨callee, args, ats⟩ := c
    simp only [cop, hop] at hc
    split at hc
    · unfold Early.looks; rw [hop]
    · exfalso
      (repeat' split at hc) <;> first | (cases hc; done) | (simp at hc; subst hc; cases hl)
    · split at hc
      · rename_i x y hargs
        injection hc with hc
        subst hc
        have e1 : args = #[x, y] := Array.toList_inj.1 hargs
        subst e1
        simp only [astep] at h
        split at h
        · rename_i u v hu hv
          unfold Early.looks
          rw [hop]
          dsimp only
          have e1 := (aev_ok hs hu).lit.1
          have e2 := (aev_ok hs hv).lit.1
          simp [e1, e2]
        · cases h
      · cases hc
    · split at hc
      · rename_i x y hargs
        injection hc with hc
        subst hc
        have e1 : args = #[x, y] := Array.toList_inj.1 hargs
        subst e1
        simp only [astep] at h
        split at h
        · rename_i u v hu hv
          unfold Early.looks
          rw [hop]
          dsimp only
          have e1 := (aev_ok hs hu).lit.1
          have e2 := (aev_ok hs hv).lit.1
          simp [e1, e2]
        · cases h
      · cases hc
    · exfalso
      (repeat' split at hc) <;> first | (cases hc; done) | (simp at hc; subst hc; cases hl)
    · exfalso
      simp at hc; subst hc; cases hl
    · cases hc
  | move | assign | pick | load | unOp | fieldAddr | field | indexAddr | index | extract | build | makeFunc => unfold Early.looks; rw [hop]
  | box => simp only [cop, hop, Option.some.injEq] at hc; subst hc; cases hl
  | alloc => simp only [cop, hop, Option.map_eq_some_iff] at hc; obtain ⟨_, _, hc⟩ := hc; subst hc; cases hl
  | store => simp only [cop, hop, Option.map_eq_some_iff] at hc; obtain ⟨_, _, hc⟩ := hc; subst hc; cases hl
  | makeSlice => exfalso; simp only [cop, hop] at hc; (repeat' split at hc) <;> first | (cases hc; done) | (simp at hc; subst hc; cases hl)
  | buildSlice => exfalso; simp only [cop, hop] at hc; (repeat' split at hc) <;> first | (cases hc; done) | (simp at hc; subst hc; cases hl)
  | _ => simp [cop, hop] at hc
theorem cop_of {op : AOp} {o : Oper} (hc : op = (cop P o).getD .bad) {s : St} {x : AV} {H : List AO} (h : astep op s = some (x, H)) : cop P o = some op := by
  cases hcc : cop P o with
  | some op' => rw [hcc] at hc; rw [hc]; rfl
  | none =>
    rw [hcc] at hc
    simp only [Option.getD_none] at hc
    subst hc
    simp [astep] at h
theorem stepK_look {op : AOp} {e : Bool} (hl : lookA op = true) {K : AV → List AO → Prop} (h : stepK P e op s K) : ∃ x H', astep op s = some (x, H') ∧ K x H' := by
  unfold stepK at h
  split at h
  · cases hl
  · cases hl
  · cases hl
  · split at h
    · rename_i x H hx; exact ⟨x, H, hx, h⟩
    · exact h.elim

theorem looks_list : ∀ {l : List Oper} {al : List AOper} {done : List Oper} {s : St} {φ : Nat → Option Nat} {a : Act} {w : World}, l.mapM (coper P ops N) = some al → (al.all fun ao => lookA ao.op) = true → Early.clean ops l = true →
    (∀ o ∈ done, (Early.looks a.eval o || !Region.wanted o (yielded ops a.tmps)) = true) → (∀ o ∈ done, ∀ o' ∈ l, ∀ d, o'.dst = some d → d ∉ o.looksAt ops) → Sim N M0 s φ a w → ∀ {K : St → Prop}, Wops P al K s → ∀ {K' : Act → World → Prop},
    (∀ s' φ' a' w', K s' → Sim N M0 s' φ' a' w' → K' a' w') → wpList P ops (Early.AtCut ops (done ++ l) K') l a w
  | [], al, done, s, φ, a, w, hm, hal, hcl, hd, hx, hs, K, h, K', hn => by
    simp at hm
    subst hm
    refine Early.AtCut.mk ?_ (hn s φ a w h hs)
    rw [List.append_nil]
    exact List.all_eq_true.2 hd
  | o :: l, al, done, s, φ, a, w, hm, hal, hcl, hd, hx, hs, K, h, K', hn => by
    obtain ⟨ao, m, h1, h2, rfl⟩ := mapM_cons_some hm
    obtain ⟨hc, hdst, hlt, hgd⟩ := coper_ok h1
    simp only [List.all_cons, Bool.and_eq_true] at hal
    simp only [Early.clean, Bool.and_eq_true] at hcl
    have hself : ∀ o' ∈ o :: l, ∀ d, o'.dst = some d → d ∉ o.looksAt ops := fun o' ho' d hd' => by
      have := List.all_eq_true.1 hcl.1 o' ho'
      rw [hd'] at this
      simpa using this
    have next : ∀ (v : Value) (s' : St) (φ' : Nat → Option Nat) (w' : World), (Early.looks a.eval o || !Region.wanted o (yielded ops a.tmps)) = true → Sim N M0 s' φ' (a.put o.dst v) w' → Wops P m K s' → wpList P ops (Early.AtCut ops (done ++ o :: l) K') l (a.put o.dst v) w' := by
      intro v s' φ' w' hlk hs' hW
      have := looks_list (done := done ++ [o]) h2 hal.2 hcl.2 (fun o' ho' => by
        have key : ∀ o'', (∀ d, o.dst = some d → d ∉ o''.looksAt ops) → (Early.looks a.eval o'' || !Region.wanted o'' (yielded ops a.tmps)) = true → (Early.looks (a.put o.dst v).eval o'' || !Region.wanted o'' (yielded ops (a.put o.dst v).tmps)) = true := by
          intro o'' h3 h4
          rw [Early.looks_put o'' a o.dst v h3, wanted_put o'' a o.dst v h3]
          exact h4
        rcases List.mem_append.1 ho' with h3 | h3
        · exact key o' (hx o' h3 o (by simp)) (hd o' h3)
        · simp only [List.mem_singleton] at h3
          subst h3
          exact key o' (hself o' (by simp)) hlk) (fun o' ho' o'' ho'' => by
        rcases List.mem_append.1 ho' with h3 | h3
        · exact hx o' h3 o'' (by simp [ho''])
        · simp only [List.mem_singleton] at h3
          subst h3
          exact hself o'' (by simp [ho''])) hs' hW hn
      rwa [List.append_assoc, List.singleton_append] at this
    unfold Wops Wop at h
    unfold wpList
    split at h
    · rename_i hg
      have hw := hgd hs.r hg
      rw [if_pos hw]
      obtain ⟨x, H', hx', hK⟩ := stepK_look hal.1 h
      have hlk := looks_of (cop_of hc hx') hal.1 hs.r rfl hx'
      refine .inl (step_ok hs hc (e := false) (fun h => by cases h) h ?_)
      rintro v w' ⟨x, H', φ', k1, k2, k3, k4, k5, _⟩
      rw [hdst] at k1
      exact next v _ φ' w' (by rw [hlk]; rfl) (hs.put hlt k2 k3 k4 k5) k1
    · rename_i hg
      have hw := hgd hs.r hg
      rw [if_neg (by rw [hw]; simp)]
      rw [hdst] at h
      exact next undef _ φ w (by rw [hw]; simp) (hs.put hlt hs.m (Le.refl _) undef_ok (Below.refl _ _)) h
    · exact h.elim
end
end Abs
end Go
