/-
  Texts joined: Efk.
-/
import Derived.Test.YtekniokkmgencaaGreatKh5

section
namespace Go
namespace Early
section
variable {P : Program} {ops : Array Oper} {md : Region.Mode} {Q : Exit → Act → World → Prop}
inductive NT where
  | done
  | look (ps : List Nat) (t : NT)
  | act (i : Nat) (t : NT)
  | fork (i : Nat) (t u : NT)
def heads : NT → List Nat
  | .act i _ => [i]
  | .fork i _ u => i :: heads u
  | _ => []
def ntG (md : Region.Mode) (ops : Array Oper) (X : Nat → Bool) (f : Nat) : Bool → NT → Array Bool → Bool
  | b, .done, listed => !b && (Region.ready md ops listed).isEmpty
  | b, .look ps t, listed => !b && headB md ops X f ps listed && clean ops (pick ops ps) && ntG md ops X f false t (ps.foldl (fun L i => L.setIfInBounds i true) listed)
  | b, .act i t, listed => (b || decide (Region.ready md ops listed = [i])) && ntG md ops X f false t (listed.setIfInBounds i true)
  | b, .fork i t u, listed => (b || decide (Region.ready md ops listed = i :: heads u)) && ntG md ops X f false t (listed.setIfInBounds i true) && ntG md ops X f true u listed
def ntB (md : Region.Mode) (ops : Array Oper) (X : Nat → Bool) (f : Nat) (t : NT) (listed : Array Bool) : Bool := ntG md ops X f false t listed
def ntLen : NT → Option Nat
  | .done => some 0
  | .look ps t => (ntLen t).map (· + ps.length)
  | .act _ t => (ntLen t).map (· + 1)
  | .fork _ t u => match ntLen t, ntLen u with
    | some n, some m => if n + 1 = m then some (n + 1) else none
    | _, _ => none
def wpNT (P : Program) (ops : Array Oper) (K : Act → World → Prop) (X : Nat → Bool) : NT → Act → World → Prop
  | .done, a, w => K a w
  | .look ps t, a, w => wpList P ops (AtCut ops (pick ops ps) (wpNT P ops K X t)) (pick ops ps) a w
  | .act i t, a, w => wpAct P ops (X i) i (wpNT P ops K X t) a w
  | .fork i t u, a, w => wpAct P ops (X i) i (wpNT P ops K X t) a w ∧ wpNT P ops K X u a w
theorem act_op {K K' : Act → World → Prop} {x : Bool} {j : Nat} {listed : Array Bool} (hj : j ∈ Region.ready md ops listed) {a : Act} {w : World} (h : wpAct P ops x j K' a w) : wpOp P ops (Well K) j (fun a2 w2 => (x = true → Ext w w2) ∧ K' a2 w2) a w := by
  obtain ⟨_, oi, hoi, _⟩ := mem_ready.1 hj
  have hpk : pick ops [j] = [oi] := by rw [pick_cons, hoi, consO_some, pick_nil]
  have h3 : wpList P ops (AtAct x w K') (pick ops [j]) a w := h
  rw [hpk] at h3
  have h4 : wpOp P ops (AtAct x w K') j (fun a2 w2 => AtAct x w K' .normal a2 w2) a w := by
    unfold wpOp; simp only [hoi]; exact h3
  have h5 : wpOp P ops (Well K) j (fun a2 w2 => AtAct x w K' .normal a2 w2) a w := by
    unfold wpOp at h4 ⊢
    simp only [hoi] at h4 ⊢
    split
    · rename_i hw
      simp only [hw, if_true] at h4
      refine ⟨h4.1, ?_⟩
      have h4 := h4.2
      generalize (execOp a.eval oi).run P w = r at *
      cases r with
      | ok n w2 =>
        cases n <;> simp only [Oper.uponIn] at h4 ⊢ <;> first | exact h4 | skip
        case enter g args =>
          refine ⟨h4.1, CallsIn.mono h4.2 fun e w3 he => ?_⟩
          cases e with
          | returned u => exact he
          | panicked c => exact absurd he.1 (by simp)
          | outgrown => exact absurd he (letsOut_no fun e a w h => h.1)
        case round l f tmps assign body =>
          refine ⟨h4.1, RoundIn.mono h4.2 fun e w3 he => ?_⟩
          cases e with
          | returned u => exact he
          | panicked c => exact absurd he.1 (by simp)
          | outgrown => exact absurd he (letsOut_no fun e a w h => h.1)
      | halt x w2 =>
        cases x <;> simp only [Oper.uponIn] at h4 ⊢
        exact absurd h4.1 (by simp)
    · rename_i hw
      simp only [hw] at h4
      exact h4
  exact wpOp_mono (fun a2 w2 h6 => ⟨h6.2.1, h6.2.2⟩) h5
theorem wpAnyX_nt2 {K : Act → World → Prop} {X : Nat → Bool} {f : Nat} (hsel : ∀ (j : Nat) (o : Oper) cs b, ops[j]? = some o → o.op ≠ .select cs b) (t : NT) :
    (∀ (n : Nat) (listed : Array Bool) (a : Act) (w : World), ntLen t = some n → ntG md ops X f false t listed = true → Closed md ops listed → wpNT P ops K X t a w → wpAnyX P md ops (Well K) X n listed a w) ∧
    (∀ (n : Nat) (listed : Array Bool) (a : Act) (w : World), ntLen t = some (n + 1) → ntG md ops X f true t listed = true → Closed md ops listed → (∀ j ∈ heads t, j ∈ Region.ready md ops listed) → wpNT P ops K X t a w →
      ∀ j ∈ heads t, wpOp P ops (Well K) j (fun a' w' => (X j = true → Ext w w') ∧ wpAnyX P md ops (Well K) X n (listed.setIfInBounds j true) a' w') a w) := by
  induction t with
  | done =>
    refine ⟨fun n listed a w hn hB _ h => ?_, fun n listed a w hn hB _ _ h j hj => by simp [heads] at hj⟩
    simp only [ntLen, Option.some.injEq] at hn
    subst hn
    exact ⟨by simpa [ntG] using hB, rfl, h⟩
  | look ps t ih =>
    refine ⟨fun n listed a w hn hB hcl h => ?_, fun n listed a w hn hB _ _ h j hj => by simp [heads] at hj⟩
    simp only [ntLen, Option.map_eq_some_iff] at hn
    obtain ⟨m, hm, rfl⟩ := hn
    simp only [ntG, Bool.and_eq_true, Bool.not_false, true_and] at hB
    obtain ⟨a', w', hp, hq⟩ := path_of_wpList (fun e a w h => h.1) _ a w (headB_kind ps listed hB.1.1) h
    obtain ⟨rfl, hcl', himp⟩ := wpAnyX_head (Q := Well K) hsel (fun e a w h => h.1) ps m listed a w a' w' hB.1.1 hB.1.2 hcl hp hq.2.1
    exact himp (ih.1 m _ _ _ hm hB.2 hcl' hq.2.2)
  | act i t ih =>
    have key : ∀ (n : Nat) (listed : Array Bool) (a : Act) (w : World), ntLen t = some n → ntG md ops X f false t (listed.setIfInBounds i true) = true → Closed md ops listed → i ∈ Region.ready md ops listed → wpAct P ops (X i) i (wpNT P ops K X t) a w →
        wpOp P ops (Well K) i (fun a' w' => (X i = true → Ext w w') ∧ wpAnyX P md ops (Well K) X n (listed.setIfInBounds i true) a' w') a w :=
      fun n listed a w hn hB hcl hi h => wpOp_mono (fun a2 w2 h6 => ⟨h6.1, ih.1 n _ _ _ hn hB (hcl.set hi) h6.2⟩) (act_op hi h)
    refine ⟨fun n listed a w hn hB hcl h => ?_, fun n listed a w hn hB hcl hr h j hj => ?_⟩
    · simp only [ntLen, Option.map_eq_some_iff] at hn
      obtain ⟨m, hm, rfl⟩ := hn
      simp only [ntG, Bool.false_or, Bool.and_eq_true, decide_eq_true_eq] at hB
      have hi : i ∈ Region.ready md ops listed := by rw [hB.1]; simp
      refine ⟨fun h0 => (by rw [h0] at hi; cases hi), fun j hj => ?_⟩
      rw [hB.1] at hj
      have hji : j = i := by simpa using hj
      subst hji
      exact key m listed a w hm hB.2 hcl hi h
    · simp only [ntLen, Option.map_eq_some_iff] at hn
      obtain ⟨m, hm, hmn⟩ := hn
      have hmn' : m = n := by omega
      subst hmn'
      simp only [ntG, Bool.true_or, Bool.true_and] at hB
      have hji : j = i := by simpa [heads] using hj
      subst hji
      exact key m listed a w hm hB hcl (hr j hj) h
  | fork i t u ih ih' =>
    have key : ∀ (n : Nat) (listed : Array Bool) (a : Act) (w : World), ntLen (.fork i t u) = some (n + 1) → ntG md ops X f false t (listed.setIfInBounds i true) = true → ntG md ops X f true u listed = true → Closed md ops listed → (∀ j ∈ i :: heads u, j ∈ Region.ready md ops listed) →
        wpNT P ops K X (.fork i t u) a w → ∀ j ∈ i :: heads u, wpOp P ops (Well K) j (fun a' w' => (X j = true → Ext w w') ∧ wpAnyX P md ops (Well K) X n (listed.setIfInBounds j true) a' w') a w := by
      intro n listed a w hn hB1 hB2 hcl hr h j hj
      simp only [ntLen] at hn
      split at hn
      · rename_i n1 m hn1 hm
        split at hn
        · rename_i e
          injection hn with hn
          have hnn : n1 = n := by omega
          subst hnn
          rcases List.mem_cons.1 hj with rfl | hj
          · exact wpOp_mono (fun a2 w2 h6 => ⟨h6.1, ih.1 n1 _ _ _ hn1 hB1 (hcl.set (hr j (by simp))) h6.2⟩) (act_op (hr j (by simp)) h.1)
          · exact ih'.2 n1 listed a w (by rw [hm, e]) hB2 hcl (fun k hk => hr k (List.mem_cons_of_mem _ hk)) h.2 j hj
        · cases hn
      · cases hn
    refine ⟨fun n listed a w hn hB hcl h => ?_, fun n listed a w hn hB hcl hr h j hj => ?_⟩
    · simp only [ntG, Bool.false_or, Bool.and_eq_true, decide_eq_true_eq] at hB
      obtain ⟨n', rfl⟩ : ∃ n', n = n' + 1 := by
        simp only [ntLen] at hn
        split at hn
        · split at hn
          · injection hn with hn; exact ⟨_, hn.symm⟩
          · cases hn
        · cases hn
      have hi : i ∈ Region.ready md ops listed := by rw [hB.1.1]; simp
      refine ⟨fun h0 => (by rw [h0] at hi; cases hi), fun j hj => ?_⟩
      exact key n' listed a w hn hB.1.2 hB.2 hcl (fun k hk => by rw [hB.1.1]; exact hk) h j (by rw [← hB.1.1]; exact hj)
    · simp only [ntG, Bool.true_or, Bool.true_and, Bool.and_eq_true] at hB
      exact key n listed a w hn hB.1 hB.2 hcl (fun k hk => hr k (by simpa [heads] using hk)) h j (by simpa [heads] using hj)
theorem wpAnyX_nt {K : Act → World → Prop} {X : Nat → Bool} {f : Nat} (hsel : ∀ (j : Nat) (o : Oper) cs b, ops[j]? = some o → o.op ≠ .select cs b)
    (t : NT) (n : Nat) (listed : Array Bool) (a : Act) (w : World) (hn : ntLen t = some n) (hB : ntB md ops X f t listed = true) (hc : Closed md ops listed) (h : wpNT P ops K X t a w) : wpAnyX P md ops (Well K) X n listed a w :=
  (wpAnyX_nt2 hsel t).1 n listed a w hn hB hc h
theorem wp_region_nt {id : Nat} {l : List Oper} {a : Act} {w : World} (X : Nat → Bool) (t : NT) (hm : P.follows .mixedOrders = true) (hs : Region.noSelect l.toArray = true)
    (hB : ntB .any l.toArray X l.length t (Array.replicate l.length false) = true) (hl : ntLen t = some l.length)
    (h : wpNT P l.toArray (Q .normal) X t a w.drew) (r : Option Nat) : (Code.region id l.toArray true).wpIn (fen r) 0 P Q a w := by
  have h1 : wpAny P .any l.toArray (Well (Q .normal)) l.toArray.size (Array.replicate l.toArray.size false) a { w with drawn := w.drawn + 1 } := by
    have := wpAny_of_X _ _ _ _ (wpAnyX_nt (md := .any) (Region.noSelect_spec hs) t l.length (Array.replicate l.length false) a w.drew hl hB (fun j oj _ hl => (by rw [getD_replicate_false] at hl; cases hl)) h)
    simpa using this
  refine Code.wpIn_mono (fun e a w h => ?_) (wpIn_region_any hm (wpAny_in r _ _ _ _ h1))
  obtain ⟨rfl, h⟩ := h
  exact h
end
end Early
end Go
end
