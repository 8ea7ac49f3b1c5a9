/-
  Texts joined: Efd.
-/
import Derived.Test.YtekniokkmgencaaGreatKh6

section
namespace Go
namespace Early
section
variable {P : Program} {ops : Array Oper} {md : Region.Mode} {Q : Exit → Act → World → Prop}
structure DN where
  n : Nat
  L : Array Bool
  ps : List Nat
  acts : List (Nat × Nat)
def setAll (L : Array Bool) (ps : List Nat) : Array Bool := ps.foldl (fun L i => L.setIfInBounds i true) L
def dnB (md : Region.Mode) (ops : Array Oper) (X : Nat → Bool) (f : Nat) (tab : List DN) (d : DN) : Bool :=
  headB md ops X f d.ps d.L && clean ops (pick ops d.ps) && decide (Region.ready md ops (setAll d.L d.ps) = d.acts.map (·.1)) && (!d.acts.isEmpty || d.n == d.ps.length) &&
    d.acts.all fun x => match tab[x.2]? with
      | some e => (e.L.toList == ((setAll d.L d.ps).setIfInBounds x.1 true).toList) && (e.n + 1 + d.ps.length == d.n)
      | none => false
def dnK (P : Program) (ops : Array Oper) (K : Act → World → Prop) (X : Nat → Bool) (J : Nat → Act → World → Prop) (d : DN) : Act → World → Prop :=
  wpList P ops (AtCut ops (pick ops d.ps) (fun a w => (d.acts = [] → K a w) ∧ ∀ x ∈ d.acts, wpAct P ops (X x.1) x.1 (J x.2) a w)) (pick ops d.ps)
theorem wpAnyX_dag {K : Act → World → Prop} {X : Nat → Bool} {f : Nat} (hsel : ∀ (j : Nat) (o : Oper) cs b, ops[j]? = some o → o.op ≠ .select cs b) (tab : List DN) (hB : ∀ d ∈ tab, dnB md ops X f tab d = true) (J : Nat → Act → World → Prop)
    (hJ : ∀ i d, tab[i]? = some d → ∀ a w, J i a w → dnK P ops K X J d a w) :
    ∀ (n i : Nat) (d : DN) (a : Act) (w : World), d.n = n → tab[i]? = some d → Closed md ops d.L → J i a w → wpAnyX P md ops (Well K) X n d.L a w := by
  intro n
  induction n using Nat.strongRecOn with
  | ind n ih =>
    intro i d a w hn hd hcl h
    have hb := hB d (List.mem_of_getElem? hd)
    simp only [dnB, Bool.and_eq_true, decide_eq_true_eq] at hb
    obtain ⟨⟨⟨⟨b1, b2⟩, b3⟩, b4⟩, b5⟩ := hb
    have h0 := hJ i d hd a w h
    obtain ⟨a', w', hp, hq⟩ := path_of_wpList (fun e a w h => h.1) _ a w (headB_kind d.ps d.L b1) h0
    have fin : ∀ m, n = m + d.ps.length → Closed md ops (setAll d.L d.ps) → wpAnyX P md ops (Well K) X m (setAll d.L d.ps) a' w' := by
      intro m hm hcl'
      cases hac : d.acts with
      | nil =>
        rw [hac] at b3 b4
        simp only [List.isEmpty_nil, Bool.not_true, Bool.false_or, beq_iff_eq] at b4
        have hm0 : m = 0 := by omega
        subst hm0
        exact ⟨by simpa using b3, rfl, hq.2.2.1 hac⟩
      | cons x0 r =>
        have hx0 : x0 ∈ d.acts := by rw [hac]; simp
        have key : ∀ x ∈ d.acts, ∃ e, tab[x.2]? = some e ∧ e.L = (setAll d.L d.ps).setIfInBounds x.1 true ∧ e.n + 1 = m := fun x hx => by
          have := List.all_eq_true.1 b5 x hx
          split at this
          · rename_i e he
            simp only [Bool.and_eq_true, beq_iff_eq] at this
            exact ⟨e, he, Array.toList_inj.1 this.1, by omega⟩
          · cases this
        obtain ⟨e0, -, -, hm1⟩ := key x0 hx0
        obtain ⟨m', rfl⟩ : ∃ m', m = m' + 1 := ⟨m - 1, by omega⟩
        refine ⟨fun hne => (by rw [b3, hac] at hne; cases hne), fun j hj => ?_⟩
        have hj' := hj
        rw [b3] at hj'
        obtain ⟨x, hx, rfl⟩ := List.mem_map.1 hj'
        obtain ⟨e, he1, he2, he3⟩ := key x hx
        refine wpOp_mono (fun a2 w2 h6 => ⟨h6.1, ?_⟩) (act_op hj (hq.2.2.2 x hx))
        have := ih m' (by omega) x.2 e a2 w2 (by omega) he1 (by rw [he2]; exact hcl'.set hj) h6.2
        rw [he2] at this
        exact this
    cases hps : d.ps with
    | nil =>
      have e1 : setAll d.L d.ps = d.L := by rw [hps]; rfl
      rw [hps] at hp
      have hpa : a' = a ∧ w' = w := hp
      obtain ⟨rfl, rfl⟩ := hpa
      have := fin n (by rw [hps]; simp) (by rw [e1]; exact hcl)
      rw [e1] at this
      exact this
    | cons p0 pr =>
      have hle : d.ps.length ≤ n := by
        cases hac : d.acts with
        | nil =>
          rw [hac] at b4
          simp only [List.isEmpty_nil, Bool.not_true, Bool.false_or, beq_iff_eq] at b4
          omega
        | cons x0 r =>
          have := List.all_eq_true.1 b5 x0 (by rw [hac]; simp)
          split at this
          · simp only [Bool.and_eq_true, beq_iff_eq] at this
            omega
          · cases this
      obtain ⟨m, hm⟩ : ∃ m, n = m + d.ps.length := ⟨n - d.ps.length, by omega⟩
      obtain ⟨rfl, hcl', himp⟩ := wpAnyX_head (Q := Well K) hsel (fun e a w h => h.1) d.ps m d.L a w a' w' b1 b2 hcl hp hq.2.1
      rw [hm]
      exact himp (fin m hm hcl')
def hdB (n : Nat) : List DN → Bool
  | d :: _ => (d.L.toList == List.replicate n false) && (d.n == n)
  | [] => false
theorem wp_region_dag {id : Nat} {l : List Oper} {a : Act} {w : World} (X : Nat → Bool) (tab : List DN) (hm : P.follows .mixedOrders = true) (hs : Region.noSelect l.toArray = true)
    (hB : (tab.all fun d => dnB .any l.toArray X l.length tab d) = true) (h0 : hdB l.length tab = true)
    (J : Nat → Act → World → Prop) (hJ : ∀ i d, tab[i]? = some d → ∀ a w, J i a w → dnK P l.toArray (Q .normal) X J d a w) (h : J 0 a w.drew) (r : Option Nat) : (Code.region id l.toArray true).wpIn (fen r) 0 P Q a w := by
  cases tab with
  | nil => cases h0
  | cons d tab =>
    simp only [hdB, Bool.and_eq_true, beq_iff_eq] at h0
    have hL : d.L = Array.replicate l.length false := Array.toList_inj.1 (by rw [h0.1]; simp)
    have hcl : Closed .any l.toArray d.L := by
      rw [hL]
      exact fun j oj _ hl => (by rw [getD_replicate_false] at hl; cases hl)
    have h2 := wpAnyX_dag (md := .any) (K := Q .normal) (Region.noSelect_spec hs) (d :: tab) (fun e he => List.all_eq_true.1 hB e he) J hJ l.length 0 d a w.drew h0.2 rfl hcl h
    rw [hL] at h2
    have h1 : wpAny P .any l.toArray (Well (Q .normal)) l.toArray.size (Array.replicate l.toArray.size false) a { w with drawn := w.drawn + 1 } := by
      have := wpAny_of_X _ _ _ _ h2
      simpa using this
    refine Code.wpIn_mono (fun e a w h => ?_) (wpIn_region_any hm (wpAny_in r _ _ _ _ h1))
    obtain ⟨rfl, h⟩ := h
    exact h
end
end Early
end Go
end
