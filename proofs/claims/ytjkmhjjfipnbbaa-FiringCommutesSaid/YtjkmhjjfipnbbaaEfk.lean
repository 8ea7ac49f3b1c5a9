/-
  A region that draws its order, walked as a tree: where two acting operations may come next, both orders.
-/
import Derived.Test.YtjkmhjjfipnbbaaEarly
namespace Go
namespace Early
section
variable {P : Program} {ops : Array Oper} {md : Region.Mode} {Q : Exit → Act → World → Prop}
/-- A plan of a walk: looking operations, one acting operation, or either of two. -/
inductive NT where
  | done
  | look (ps : List Nat) (t : NT)
  | act (i : Nat) (t : NT)
  | fork (i : Nat) (t : NT) (j : Nat) (u : NT)
def ntB (md : Region.Mode) (ops : Array Oper) (X : Nat → Bool) (f : Nat) : NT → Array Bool → Bool
  | .done, listed => (Region.ready md ops listed).isEmpty
  | .look ps t, listed => headB md ops X f ps listed && clean ops (pick ops ps) && ntB md ops X f t (ps.foldl (fun L i => L.setIfInBounds i true) listed)
  | .act i t, listed => decide (Region.ready md ops listed = [i]) && ntB md ops X f t (listed.setIfInBounds i true)
  | .fork i t j u, listed => decide (Region.ready md ops listed = [i, j]) && ntB md ops X f t (listed.setIfInBounds i true) && ntB md ops X f u (listed.setIfInBounds j true)
def ntLen : NT → Option Nat
  | .done => some 0
  | .look ps t => (ntLen t).map (· + ps.length)
  | .act _ t => (ntLen t).map (· + 1)
  | .fork _ t _ u => match ntLen t, ntLen u with
    | some n, some m => if n = m then some (n + 1) else none
    | _, _ => none
def wpNT (P : Program) (ops : Array Oper) (K : Act → World → Prop) (X : Nat → Bool) : NT → Act → World → Prop
  | .done, a, w => K a w
  | .look ps t, a, w => wpList P ops (AtCut ops (pick ops ps) (wpNT P ops K X t)) (pick ops ps) a w
  | .act i t, a, w => wpAct P ops (X i) i (wpNT P ops K X t) a w
  | .fork i t j u, a, w => wpAct P ops (X i) i (wpNT P ops K X t) a w ∧ wpAct P ops (X j) j (wpNT P ops K X u) a w

/-- An acting operation, as the region's rule wants it. -/
theorem act_op {K K' : Act → World → Prop} {x : Bool} {j : Nat} {listed : Array Bool} (hj : j ∈ Region.ready md ops listed) {a : Act} {w : World} (h : wpAct P ops x j K' a w) : wpOp P ops (Well K) j (fun a2 w2 => (x = true → Ext w w2) ∧ K' a2 w2) a w := by
  obtain ⟨_, oi, hoi, _⟩ := mem_ready.1 hj
  have hpk : pick ops [j] = [oi] := by rw [pick_cons, hoi, consO_some, pick_nil]
  have h3 : wpList P ops (AtAct x w K') (pick ops [j]) a w := h
  rw [hpk] at h3
  have h4 : wpOp P ops (AtAct x w K') j (fun a2 w2 => AtAct x w K' .normal a2 w2) a w := by
    unfold wpOp; simp only [hoi]; exact h3
  have h5 : wpOp P ops (Well K) j (fun a2 w2 => AtAct x w K' .normal a2 w2) a w := by
    unfold wpOp at h4 ⊢
    simp only [hoi] at h4 ⊢
    split
    · rename_i hw
      simp only [hw, if_true] at h4
      rcases h4 with h4 | h4
      · left
        unfold Oper.wp at h4 ⊢
        generalize (execOp a.eval oi).run P w = r at *
        cases r with
        | ok n w2 =>
          cases n <;> simp only [Oper.upon] at h4 ⊢ <;> first | exact h4 | skip
          case enter g args =>
            refine Calls.mono h4 fun e w3 he => ?_
            cases e with
            | returned u => exact he
            | panicked c => exact absurd he.1 (by simp)
            | outgrown => exact absurd he (letsOut_no fun e a w h => h.1)
        | halt x w2 =>
          cases x <;> simp only [Oper.upon] at h4 ⊢
          exact absurd h4.1 (by simp)
      · exact absurd h4.2 (letsOut_no fun e a w h => h.1)
    · rename_i hw
      simp only [hw] at h4
      exact h4
  exact wpOp_mono (fun a2 w2 h6 => ⟨h6.2.1, h6.2.2⟩) h5

theorem wpAnyX_nt {K : Act → World → Prop} {X : Nat → Bool} {f : Nat} (hsel : ∀ (j : Nat) (o : Oper) cs b, ops[j]? = some o → o.op ≠ .select cs b) :
    ∀ (t : NT) (n : Nat) (listed : Array Bool) (a : Act) (w : World), ntLen t = some n → ntB md ops X f t listed = true → Closed md ops listed → wpNT P ops K X t a w → wpAnyX P md ops (Well K) X n listed a w
  | .done, n, listed, a, w, hn, hB, _, h => by
    simp only [ntLen, Option.some.injEq] at hn
    subst hn
    exact ⟨by simpa [ntB] using hB, rfl, h⟩
  | .look ps t, n, listed, a, w, hn, hB, hcl, h => by
    simp only [ntLen, Option.map_eq_some_iff] at hn
    obtain ⟨m, hm, rfl⟩ := hn
    simp only [ntB, Bool.and_eq_true] at hB
    obtain ⟨a', w', hp, hq⟩ := path_of_wpList (fun e a w h => h.1) _ a w (headB_kind ps listed hB.1.1) h
    obtain ⟨rfl, hcl', himp⟩ := wpAnyX_head (Q := Well K) hsel (fun e a w h => h.1) ps m listed a w a' w' hB.1.1 hB.1.2 hcl hp hq.2.1
    exact himp (wpAnyX_nt hsel t m _ _ _ hm hB.2 hcl' hq.2.2)
  | .act i t, n, listed, a, w, hn, hB, hcl, h => by
    simp only [ntLen, Option.map_eq_some_iff] at hn
    obtain ⟨m, hm, rfl⟩ := hn
    simp only [ntB, Bool.and_eq_true, decide_eq_true_eq] at hB
    have hi : i ∈ Region.ready md ops listed := by rw [hB.1]; simp
    refine ⟨fun h0 => (by rw [h0] at hi; cases hi), fun j hj => ?_⟩
    rw [hB.1] at hj
    have hji : j = i := by simpa using hj
    subst hji
    exact wpOp_mono (fun a2 w2 h6 => ⟨h6.1, wpAnyX_nt hsel t m _ _ _ hm hB.2 (hcl.set hi) h6.2⟩) (act_op hi h)
  | .fork i t j u, n, listed, a, w, hn, hB, hcl, h => by
    simp only [ntLen] at hn
    split at hn
    · rename_i n1 m hn1 hm
      split at hn
      · rename_i e
        subst e
        injection hn with hn
        subst hn
        simp only [ntB, Bool.and_eq_true, decide_eq_true_eq] at hB
        have hi : i ∈ Region.ready md ops listed := by rw [hB.1.1]; simp
        have hj : j ∈ Region.ready md ops listed := by rw [hB.1.1]; simp
        refine ⟨fun h0 => (by rw [h0] at hi; cases hi), fun k hk => ?_⟩
        rw [hB.1.1] at hk
        simp only [List.mem_cons, List.not_mem_nil, or_false] at hk
        rcases hk with rfl | rfl
        · exact wpOp_mono (fun a2 w2 h6 => ⟨h6.1, wpAnyX_nt hsel t n1 _ _ _ hn1 hB.1.2 (hcl.set hi) h6.2⟩) (act_op hi h.1)
        · exact wpOp_mono (fun a2 w2 h6 => ⟨h6.1, wpAnyX_nt hsel u n1 _ _ _ hm hB.2 (hcl.set hj) h6.2⟩) (act_op hj h.2)
      · cases hn
    · cases hn

theorem wp_region_nt {id : Nat} {l : List Oper} {a : Act} {w : World} (X : Nat → Bool) (t : NT) (hm : P.follows .mixedOrders = true) (hs : Region.noSelect l.toArray = true)
    (hB : ntB .any l.toArray X l.length t (Array.replicate l.length false) = true) (hl : ntLen t = some l.length)
    (h : wpNT P l.toArray (Q .normal) X t a w.drew) : (Code.region id l.toArray true).wp P Q a w := by
  have h1 : wpAny P .any l.toArray (Well (Q .normal)) l.toArray.size (Array.replicate l.toArray.size false) a { w with drawn := w.drawn + 1 } := by
    have := wpAny_of_X _ _ _ _ (wpAnyX_nt (md := .any) (Region.noSelect_spec hs) t l.length (Array.replicate l.length false) a w.drew hl hB (fun j oj _ hl => (by rw [getD_replicate_false] at hl; cases hl)) h)
    simpa using this
  refine Code.wp_mono (fun e a w h => ?_) (wp_region_any hm h1)
  obtain ⟨rfl, h⟩ := h
  exact h
end
end Early
end Go
