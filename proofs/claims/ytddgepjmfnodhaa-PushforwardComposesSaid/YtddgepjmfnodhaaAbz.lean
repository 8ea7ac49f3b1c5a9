/-
  AN ABSTRACT MACHINE: a region with many orders, run by computation.
-/
import Derived.Test.YtddgepjmfnodhaaMae
namespace Go
namespace Abs
open Go.RowKit

/-- An operation that is no call. -/
def xop (o : AOper) (s : St) : Option St :=
  match gd s.t o.guard with
  | some true => match o.op with
    | .call _ _ => none
    | .callv _ _ => none
    | .eqn _ _ => none
    | op => match astep op s with
      | some (x, H) => some ⟨putO s.t o.dst x, H⟩
      | none => none
  | some false => some ⟨putO s.t o.dst (.tup []), s.H⟩
  | none => none
def xops : List AOper → St → Option St
  | [], s => some s
  | o :: l, s => match xop o s with
    | some s' => xops l s'
    | none => none
/-- The ends of all orders. -/
def xtree : AT → St → Option (List St)
  | .done, s => some [s]
  | .look l t, s => match xops l s with
    | some s' => xtree t s'
    | none => none
  | .act _ o t, s => match xop o s with
    | some s' => xtree t s'
    | none => none
  | .fork _ o t u, s => match xop o s with
    | some s' => match xtree t s', xtree u s with
      | some a, some b => some (a ++ b)
      | _, _ => none
    | none => none
section
variable {P : Program}
theorem xop_ok {e : Bool} {o : AOper} {s s' : St} {K : St → Prop} (h : xop o s = some s') (hK : K s') : Wop P e o K s := by
  unfold xop at h
  unfold Wop
  split at h
  · rename_i hg
    rw [hg]
    dsimp only
    cases hop : o.op <;> rw [hop] at h <;> unfold stepK <;> dsimp only at h ⊢ <;> first | (cases h; done) | (split at h <;> first | (rename_i x H hs; rw [hs]; cases h; exact hK) | (rename_i x H hs; simp [astep] at hs; done) | cases h)
  · rename_i hg
    rw [hg]
    cases h
    exact hK
  · cases h
theorem xops_ok : ∀ {l : List AOper} {s s' : St} {K : St → Prop}, xops l s = some s' → K s' → Wops P l K s
  | [], s, s', K, h, hK => by cases h; exact hK
  | o :: l, s, s', K, h, hK => by
    unfold xops at h
    split at h
    · rename_i s1 h1
      exact xop_ok h1 (xops_ok h hK)
    · cases h
theorem xtree_ok : ∀ {t : AT} {s : St} {L : List St} {K : St → Prop}, xtree t s = some L → (∀ s' ∈ L, K s') → Wtree P t K s
  | .done, s, L, K, h, hK => by
    cases h
    exact hK s (by simp)
  | .look l t, s, L, K, h, hK => by
    unfold xtree at h
    split at h
    · rename_i s1 h1
      exact xops_ok h1 (xtree_ok h hK)
    · cases h
  | .act x o t, s, L, K, h, hK => by
    unfold xtree at h
    split at h
    · rename_i s1 h1
      exact xop_ok h1 (xtree_ok h hK)
    · cases h
  | .fork x o t u, s, L, K, h, hK => by
    unfold xtree at h
    split at h
    · rename_i s1 h1
      split at h
      · rename_i a b ha hb
        cases h
        exact ⟨xop_ok h1 (xtree_ok ha fun s' hs => hK s' (by simp [hs])), xtree_ok hb fun s' hs => hK s' (by simp [hs])⟩
      · cases h
    · cases h
/-- All orders lead to one state, once their objects stand in one order. -/
theorem tree_run {m0 : Nat} {Q : AExit → St → Prop} {t : AT} {s s0 : St} (σf : St → List Nat) (keep : List Nat) (h : ((xtree t s).map fun L => L.all fun s' => okσ (σf s') m0 s'.H) = some true)
    (e : ((xtree t s).map fun L => L.map fun s' => norm (σf s') keep s') = (xtree t s).map fun L => L.map fun _ => s0) (hQ : Q .normal s0) : W P m0 (.tree t) Q s := by
  cases hx : xtree t s with
  | none => rw [hx] at h; cases h
  | some L =>
    rw [hx] at h e
    simp only [Option.map_some, Option.some.injEq, List.all_eq_true] at h e
    refine xtree_ok (K := fun s1 => ∃ s2, Wk m0 s1 s2 ∧ Q .normal s2) hx fun s' hs => ⟨s0, ?_, hQ⟩
    have := List.map_inj_left.1 e s' hs
    exact wk_norm (σf s') keep (h s' hs) this
end
def ptrN : AV → Nat
  | .ptr o _ _ _ => o
  | .os o _ _ => o
  | _ => 0
end Abs
end Go
