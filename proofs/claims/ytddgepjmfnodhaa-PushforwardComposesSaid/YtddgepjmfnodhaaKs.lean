/-
  Contracts: the constant map, on both sides.
-/
import Derived.Test.YtddgepjmfnodhaaKr
set_option linter.unusedSimpArgs false
set_option linter.unusedVariables false
namespace Go.Proofs.Ytddgepjmfnodhaa
open Go.Abs Go.Sand

def repL (k : Nat) (w : Int) : List Int := List.replicate k w
theorem repL_length (k : Nat) (w : Int) : (repL k w).length = k := List.length_replicate
theorem repL_succ (k : Nat) (w : Int) : repL (k + 1) w = repL k w ++ [w] := List.replicate_succ'
def constE (g h : Gr) (w : Int) : Int := if errsE [g, h] ≠ 0 then errsE [g, h] else if vtx h.1 w = false then 2 else 0
def constM (g h : Gr) (w : Int) : Mo := if constE g h w = 0 then ⟨repL g.1.toNat w, repL (endsL g.2).length (-1)⟩ else mo0
theorem errs_graphs (g h : Gr) : errsE [g, h] = graphsE g.1 g.2 h.1 h.2 := by
  simp only [errsE, graphsE]
  split <;> try rfl
  split <;> simp_all
theorem sameA_refl (m : Mo) : sameM m m = true := by simp [sameM]
theorem PC_le {P : Program} {f : FuncId} {args args' : List PV} {r : AV} {HR : List AO} (h : PC P f args r HR) (hle : ∀ S w vs, RPs S w args' vs → RPs S w args vs) : PC P f args' r HR := fun w S vs hvs => h w S vs (hle _ _ _ hvs)
theorem RP_nil {S : Nat → Prop} {w : World} {v : Value} (h : RP S w .nil v) : RP S w (.is []) v := by
  cases h
  exact .sl [] none 0 0 (fun _ _ => undef) (by simp) (by simp) (fun i h => by simp at h) (.inl rfl) (fun i h => by simp at h)
theorem RP_mo0 {S : Nat → Prop} {w : World} {v : Value} (h : RP S w (.agg [.nil, .nil]) v) : RP S w (MoP mo0) v := by
  cases h with
  | agg l cs hl ho hr =>
    refine .agg _ _ hl (fun e he => by simp at he; subst he; rfl) fun i hi hi' => ?_
    have h0 := hr 0 (by decide) (by simp at hl; omega)
    have h1 := hr 1 (by decide) (by simp at hl; omega)
    match i, hi, hi' with
    | 0, _, _ => exact RP_nil h0
    | 1, _, _ => exact RP_nil h1
theorem idM_len (g : Gr) (hel : g.2.length ≤ 900) : (idM g).v.length ≤ 4611686018427387904 ∧ (idM g).e.length ≤ 4611686018427387904 := by
  unfold idM
  split
  · rename_i hc
    obtain ⟨hg, a2, a3⟩ := graph_good hc
    have h12 := hg.n12
    have h9 := endsL_len9 hg.right hel
    simp only [unitM, idL_length]
    omega
  · simp
theorem constM_len (g h : Gr) (w : Int) (hel : g.2.length ≤ 900) : (constM g h w).v.length ≤ 4611686018427387904 ∧ (constM g h w).e.length ≤ 4611686018427387904 := by
  unfold constM
  split
  · rename_i hc
    have he : errsE [g, h] = 0 := by
      unfold constE at hc
      split at hc
      · rename_i h1; exact absurd hc h1
      · rename_i h1; exact Decidable.not_not.1 h1
    obtain ⟨hg, a2, a3⟩ := graph_good (errs_two he).1
    have h12 := hg.n12
    have h9 := endsL_len9 hg.right hel
    simp only [repL_length]
    omega
  · simp
end Go.Proofs.Ytddgepjmfnodhaa
