/-
  AN ABSTRACT MACHINE, RUN: a computation that stands for a contract at given values.
-/
import Derived.Test.YtddgepjmfnodhaaAbz
namespace Go
namespace Abs
open Go.RowKit

/-- What has to be the same in the end. -/
abbrev Eqs := List (St × St)
def Hld (q : Eqs) : Prop := ∀ p ∈ q, p.1 = p.2
abbrev X (α : Type) := Option (α × Eqs)
def xb {α β : Type} (m : X α) (f : α → X β) : X β := match m with
  | none => none
  | some (a, q) => match f a with
    | none => none
    | some (b, q') => some (b, q ++ q')
def xp {α : Type} (a : α) : X α := some (a, [])
theorem xb_inv {α β : Type} {m : X α} {f : α → X β} {b : β} {r : Eqs} (h : xb m f = some (b, r)) (hr : Hld r) : ∃ a q q', m = some (a, q) ∧ Hld q ∧ f a = some (b, q') ∧ Hld q' := by
  unfold xb at h
  split at h
  · cases h
  · rename_i a q
    split at h
    · cases h
    · rename_i b' q' hf
      simp only [Option.some.injEq, Prod.mk.injEq] at h
      obtain ⟨rfl, rfl⟩ := h
      exact ⟨a, q, q', rfl, fun p hp => hr p (by simp [hp]), hf, fun p hp => hr p (by simp [hp])⟩
theorem xp_inv {α : Type} {a b : α} {r : Eqs} (h : xp a = some (b, r)) : a = b := by
  unfold xp at h
  simp only [Option.some.injEq, Prod.mk.injEq] at h
  exact h.1
abbrev Ans := FuncId → List AV → List AO → X (AV × List AO)
abbrev Yld := Nat → List AV → List AO → X (AV × List AO)
section
variable (P : Program) (E : Ans) (Y : Yld)
def AnsOk : Prop := ∀ f vs H r H' q, E f vs H = some ((r, H'), q) → Hld q → ∃ af, cfn P f vs.length = some af ∧ ∀ R : AV → List AO → Prop, R r H' → W P H.length af.body (Fin H.length af.res R) ⟨initT 0 vs, H⟩
def YldOk : Prop := ∀ o vs H r H' q, Y o vs H = some ((r, H'), q) → Hld q → ∀ K : AV → List AO → Prop, K r H' → HY P o vs H K
/-- A call in a region: what is old stands as it was. -/
def rcallE (f : FuncId) (vs : List AV) (H : List AO) : X (AV × List AO) := match allP vs with
  | some ps => xb (E f (ps.map .p) []) fun r => xp (r.1.ren r.2 (fun o => some (o + H.length)), H ++ r.2.map (AO.ren r.2 fun o => some (o + H.length)))
  | none => match views H vs with
  | some ps => xb (E f (ps.map .p) []) fun r => xp (r.1.ren r.2 (fun o => some (o + H.length)), hpast H vs r.1 r.2)
  | none => match vs with
    | .ptr o 1 0 j :: rest => match H[o]?, allP rest with
      | some (.box y), some rp => match view H (.agg y.flat) with
        | some (.agg ps) => xb (E f (.sp (.agg ps) j :: rp.map .p) []) fun r => match r with
          | (.p (.v x), []) => xp (.p (.v x), H)
          | _ => none
        | _ => none
      | _, _ => none
    | _ => none
def rop (e : Bool) (o : AOper) (s : St) : X St := match gd s.t o.guard with
  | some true => xb (match o.op with
    | .call f args => match aevs s.t args with
      | some vs => if e then rcallE E f vs s.H else E f vs s.H
      | none => none
    | .callv x args => match aev s.t x, aevs s.t args with
      | some (.fn (.func f) first cap), some vs => if callable P f = true then (if e then rcallE E f (first ++ vs ++ cap) s.H else E f (first ++ vs ++ cap) s.H) else none
      | some (.yl o), some vs => if e = false ∧ solid s.H (.yl o) = true then Y o vs s.H else none
      | _, _ => none
    | .eqn neg x => match aev s.t x with
      | some y => match isNil y, elems s.H y with
        | true, _ => xp (.p (.v (.bool (!neg))), s.H)
        | false, some (_ :: _) => xp (.p (.v (.bool neg)), s.H)
        | _, _ => none
      | none => none
    | op => match astep op s with
      | some r => xp r
      | none => none) fun r => xp ⟨putO s.t o.dst r.1, r.2⟩
  | some false => xp ⟨putO s.t o.dst (.tup []), s.H⟩
  | none => none
def rops : List AOper → St → X St
  | [], s => xp s
  | o :: l, s => xb (rop P E Y false o s) (rops l)
def ract (o : Option (Bool × AOper)) (s : St) : X St := match o with
  | some (x, o) => rop P E Y x o s
  | none => xp s
def rsegs : List (List AOper × Option (Bool × AOper)) → St → X St
  | [], s => xp s
  | (l, o) :: rest, s => xb (rops P E Y l s) fun s1 => xb (ract P E Y o s1) (rsegs rest)
def rtree : AT → St → X (List St)
  | .done, s => xp [s]
  | .look l t, s => xb (rops P E Y l s) (rtree t)
  | .act x o t, s => xb (rop P E Y x o s) (rtree t)
  | .fork x o t u, s => xb (xb (rop P E Y x o s) (rtree t)) fun a => xb (rtree u s) fun b => xp (a ++ b)
end
section
variable {P : Program} {E : Ans} {Y : Yld}
theorem allP_ok : ∀ {l : List AV} {m : List PV}, allP l = some m → l = m.map .p
  | [], m, h => by cases h; rfl
  | x :: l, m, h => by
    cases x <;> simp only [allP] at h <;> first | (cases h; done) | skip
    rename_i y
    obtain ⟨m', hm, rfl⟩ := Option.map_eq_some_iff.1 h
    rw [List.map_cons, ← allP_ok hm]
theorem views_p (H : List AO) : ∀ ps : List PV, views H (ps.map .p) = some ps
  | [] => rfl
  | x :: l => by simp [views, view, viewC, views_p H l]
theorem frzL_p (H : List AO) : ∀ ps : List PV, frzL H (ps.map .p) = H
  | [] => rfl
  | x :: l => by rw [List.map_cons]; exact frzL_p H l
theorem rcallE_ok (hE : AnsOk P E) {f : FuncId} {vs : List AV} {H H' : List AO} {r : AV} {q : Eqs} (h : rcallE E f vs H = some ((r, H'), q)) (hq : Hld q) {e : Bool} {K : AV → List AO → Prop} (hK : K r H') : HC P e f vs H K := by
  unfold rcallE at h
  split at h
  · rename_i ps hp
    obtain ⟨⟨r1, H1⟩, q1, q2, h1, hq1, h2, hq2⟩ := xb_inv h hq
    have h3 := xp_inv h2
    simp only [Prod.mk.injEq] at h3
    obtain ⟨rfl, rfl⟩ := h3
    obtain ⟨af, hc, hw⟩ := hE f _ _ _ _ _ h1 hq1
    have hvs := allP_ok hp
    refine HC_of_PC (by rw [hvs]; exact views_p H ps) (PC_of_W (by simpa using hc) (hw _ ⟨rfl, rfl⟩)) ?_
    have e : hpast H vs r1 H1 = H ++ H1.map (AO.ren H1 fun o => some (o + H.length)) := by
      unfold hpast
      rw [hvs, frzL_p]
      split <;> rfl
    rw [e]
    exact hK
  split at h
  · rename_i ps hv
    obtain ⟨⟨r1, H1⟩, q1, q2, h1, hq1, h2, hq2⟩ := xb_inv h hq
    have h3 := xp_inv h2
    simp only [Prod.mk.injEq] at h3
    obtain ⟨rfl, rfl⟩ := h3
    obtain ⟨af, hc, hw⟩ := hE f _ _ _ _ _ h1 hq1
    exact HC_of_PC hv (PC_of_W (by simpa using hc) (hw _ ⟨rfl, rfl⟩)) hK
  · split at h
    · rename_i o j rest
      split at h
      · rename_i y rp ho hrp
        split at h
        · rename_i ps hview
          obtain ⟨⟨r1, H1⟩, q1, q2, h1, hq1, h2, hq2⟩ := xb_inv h hq
          split at h2
          · rename_i x heq
            have h3 := xp_inv h2
            simp only [Prod.mk.injEq] at h3 heq
            obtain ⟨rfl, rfl⟩ := h3
            obtain ⟨rfl, rfl⟩ := heq
            obtain ⟨af, hc, hw⟩ := hE f _ _ _ _ _ h1 hq1
            rw [allP_ok hrp]
            exact HC_ptr (by simpa using hc) ho hview (hw _ ⟨rfl, rfl⟩) hK
          · cases h2
        · cases h
      · cases h
    · cases h
theorem rcall_ok (hE : AnsOk P E) {f : FuncId} {vs : List AV} {H H' : List AO} {r : AV} {q : Eqs} {e : Bool} (h : (if e then rcallE E f vs H else E f vs H) = some ((r, H'), q)) (hq : Hld q) {K : AV → List AO → Prop} (hK : K r H') : HC P e f vs H K := by
  cases e with
  | true => exact rcallE_ok hE h hq hK
  | false =>
    obtain ⟨af, hc, hw⟩ := hE f _ _ _ _ _ h hq
    exact HC_of_W hc (hw _ hK)
theorem rop_ok (hE : AnsOk P E) (hY : YldOk P Y) {e : Bool} {o : AOper} {s s' : St} {q : Eqs} (h : rop P E Y e o s = some (s', q)) (hq : Hld q) {K : St → Prop} (hK : K s') : Wop P e o K s := by
  unfold rop at h
  unfold Wop
  split at h
  · rename_i hg
    rw [hg]
    dsimp only
    obtain ⟨⟨r1, H1⟩, q1, q2, h1, hq1, h2, hq2⟩ := xb_inv h hq
    have h3 := xp_inv h2
    subst h3
    cases hop : o.op <;> rw [hop] at h1 <;> unfold stepK <;> dsimp only at h1 ⊢
    case call f args =>
      split at h1
      · rename_i vs hvs
        rw [hvs]
        exact rcall_ok hE h1 hq1 hK
      · cases h1
    case callv x args =>
      split at h1
      · rename_i f first cap vs hx hvs
        rw [hx, hvs]
        split at h1
        · rename_i hc
          exact ⟨hc, rcall_ok hE h1 hq1 hK⟩
        · cases h1
      · rename_i o' vs hx hvs
        rw [hx, hvs]
        split at h1
        · rename_i hc
          exact ⟨hc.1, hc.2, hY _ _ _ _ _ _ h1 hq1 _ hK⟩
        · cases h1
      · cases h1
    case eqn neg x =>
      split at h1
      · rename_i y hy
        rw [hy]
        dsimp only
        split at h1
        · rename_i hn
          rw [hn]
          have h3 := xp_inv h1
          simp only [Prod.mk.injEq] at h3
          obtain ⟨rfl, rfl⟩ := h3
          exact hK
        · rename_i a l hn hel
          rw [hn, hel]
          have h3 := xp_inv h1
          simp only [Prod.mk.injEq] at h3
          obtain ⟨rfl, rfl⟩ := h3
          exact ⟨fun h => by simp at h, hK⟩
        · cases h1
      · cases h1
    case appQ e' x y =>
      split at h1
      · rename_i r hr
        simp [astep] at hr
      · cases h1
    all_goals
      split at h1
      · rename_i r hr
        have h3 := xp_inv h1
        subst h3
        rw [hr]
        exact hK
      · cases h1
  · rename_i hg
    rw [hg]
    have h3 := xp_inv h
    subst h3
    exact hK
  · cases h
theorem rops_ok (hE : AnsOk P E) (hY : YldOk P Y) : ∀ {l : List AOper} {s s' : St} {q : Eqs} {K : St → Prop}, rops P E Y l s = some (s', q) → Hld q → K s' → Wops P l K s
  | [], s, s', q, K, h, hq, hK => by
    have := xp_inv h
    subst this
    exact hK
  | o :: l, s, s', q, K, h, hq, hK => by
    unfold rops at h
    obtain ⟨s1, q1, q2, h1, hq1, h2, hq2⟩ := xb_inv h hq
    exact rop_ok hE hY h1 hq1 (rops_ok hE hY h2 hq2 hK)
theorem ract_ok (hE : AnsOk P E) (hY : YldOk P Y) {o : Option (Bool × AOper)} {s s' : St} {q : Eqs} {K : St → Prop} (h : ract P E Y o s = some (s', q)) (hq : Hld q) (hK : K s') : Wact P o K s := by
  unfold ract at h
  unfold Wact
  split at h
  · exact rop_ok hE hY h hq hK
  · have := xp_inv h
    subst this
    exact hK
theorem rsegs_ok (hE : AnsOk P E) (hY : YldOk P Y) : ∀ {l : List (List AOper × Option (Bool × AOper))} {s s' : St} {q : Eqs} {K : St → Prop}, rsegs P E Y l s = some (s', q) → Hld q → K s' → Wsegs P l K s
  | [], s, s', q, K, h, hq, hK => by
    have := xp_inv h
    subst this
    exact hK
  | (l, o) :: rest, s, s', q, K, h, hq, hK => by
    unfold rsegs at h
    obtain ⟨s1, q1, q2, h1, hq1, h2, hq2⟩ := xb_inv h hq
    obtain ⟨s2, q3, q4, h3, hq3, h4, hq4⟩ := xb_inv h2 hq2
    exact rops_ok hE hY h1 hq1 (ract_ok hE hY h3 hq3 (rsegs_ok hE hY h4 hq4 hK))
theorem rtree_ok (hE : AnsOk P E) (hY : YldOk P Y) : ∀ {t : AT} {s : St} {L : List St} {q : Eqs} {K : St → Prop}, rtree P E Y t s = some (L, q) → Hld q → (∀ s' ∈ L, K s') → Wtree P t K s
  | .done, s, L, q, K, h, hq, hK => by
    have := xp_inv h
    subst this
    exact hK s (by simp)
  | .look l t, s, L, q, K, h, hq, hK => by
    unfold rtree at h
    obtain ⟨s1, q1, q2, h1, hq1, h2, hq2⟩ := xb_inv h hq
    exact rops_ok hE hY h1 hq1 (rtree_ok hE hY h2 hq2 hK)
  | .act x o t, s, L, q, K, h, hq, hK => by
    unfold rtree at h
    obtain ⟨s1, q1, q2, h1, hq1, h2, hq2⟩ := xb_inv h hq
    exact rop_ok hE hY h1 hq1 (rtree_ok hE hY h2 hq2 hK)
  | .fork x o t u, s, L, q, K, h, hq, hK => by
    unfold rtree at h
    obtain ⟨a, q1, q2, h1, hq1, h2, hq2⟩ := xb_inv h hq
    obtain ⟨s1, q5, q6, h5, hq5, h6, hq6⟩ := xb_inv h1 hq1
    obtain ⟨b, q3, q4, h3, hq3, h4, hq4⟩ := xb_inv h2 hq2
    have := xp_inv h4
    subst this
    exact ⟨rop_ok hE hY h5 hq5 (rtree_ok hE hY h6 hq6 fun s' hs => hK s' (by simp [hs])), rtree_ok hE hY h3 hq3 fun s' hs => hK s' (by simp [hs])⟩
end
mutual
def refsA : AV → List Nat
  | .os o _ _ => [o]
  | .ptr o _ _ _ => [o]
  | .mp o => [o]
  | .bs o _ _ => [o]
  | .yl o => [o]
  | .agg l => refsL l
  | .tup l => refsL l
  | .fn _ a b => refsL a ++ refsL b
  | .p _ => []
  | .sp _ _ => []
  | .dead => []
def refsL : List AV → List Nat
  | [] => []
  | x :: l => refsA x ++ refsL l
end
def refsO : AO → List Nat
  | .row _ _ _ _ => []
  | .box x => refsA x
  | .fbx x => refsA x
  | .tab els _ _ => refsL els
  | .dict _ es => es.flatMap fun x => refsA x.2
  | .lp _ t _ _ _ _ => t.flatMap fun x => refsA x.2
def reach (m0 : Nat) (H : List AO) : Nat → List Nat → List Nat → List Nat
  | 0, _, seen => seen
  | _ + 1, [], seen => seen
  | n + 1, o :: w, seen => if Nat.blt o m0 || seen.contains o then reach m0 H n w seen else match H[o]? with
    | some ob => reach m0 H n (w ++ refsO ob) (seen ++ [o])
    | none => reach m0 H n w seen
/-- The objects that are still named. -/
def gcσ (m0 : Nat) (roots : List AV) (H : List AO) : List Nat := List.range m0 ++ reach m0 H 100000 (refsL roots ++ (H.take m0).flatMap refsO) []
def insN (i : Nat) : List Nat → List Nat
  | [] => [i]
  | j :: l => if Nat.blt i j then i :: j :: l else if Nat.beq i j then j :: l else j :: insN i l
def keepOf : List (Nat × AV) → List Nat
  | [] => []
  | x :: l => insN x.1 (keepOf l)
def canon (m0 : Nat) (s : St) : St :=
  let keep := keepOf s.t
  let σ := gcσ m0 (keep.map (get s.t)) s.H
  if okσ σ m0 s.H = true then norm σ keep s else s
theorem canon_ok (m0 : Nat) (s : St) : Wk m0 s (canon m0 s) := by
  unfold canon
  dsimp only
  split
  · rename_i h; exact Wk_norm _ _ h
  · exact Wk.refl _ _
def tidy (m0 : Nat) (s : St) : St := if Nat.blt 60 s.t.length || Nat.blt (m0 + 30) s.H.length then canon m0 s else s
theorem tidy_ok (m0 : Nat) (s : St) : Wk m0 s (tidy m0 s) := by
  unfold tidy
  split
  · exact canon_ok _ _
  · exact Wk.refl _ _
section
variable (P : Program) (E : Ans) (Y : Yld) (m0 : Nat)
def rdGet (i : Nat) : List (Nat × St) → Option St
  | [] => none
  | x :: l => if Nat.beq x.1 i then some x.2 else rdGet i l
/-- The states at the cuts, as they are reached first. -/
def rdAdd (s1 : St) : List (Bool × AOper × Nat) → List (Nat × St) → List (Nat × St)
  | [], kn => kn
  | x :: l, kn => match rdGet x.2.2 kn with
    | some _ => rdAdd s1 l kn
    | none => match rop P E Y x.1 x.2.1 s1 with
      | some (s2, _) => rdAdd s1 l ((x.2.2, canon m0 s2) :: kn)
      | none => rdAdd s1 l kn
def rdKn : List ADN → Nat → List (Nat × St) → List (Nat × St)
  | [], _, kn => kn
  | d :: r, i, kn => match rdGet i kn with
    | some s => match rops P E Y d.look s with
      | some (s1, _) => rdKn r (i + 1) (rdAdd P E Y m0 s1 d.acts kn)
      | none => rdKn r (i + 1) kn
    | none => rdKn r (i + 1) kn
def rdActs (kn : List (Nat × St)) (s1 : St) : List (Bool × AOper × Nat) → X Unit
  | [] => xp ()
  | x :: l => match rdGet x.2.2 kn with
    | none => none
    | some s3 => xb (rop P E Y x.1 x.2.1 s1) fun s2 => xb (rdActs kn s1 l) fun _ => some ((), [(canon m0 s2, s3)])
/-- Whatever stands at a cut leads to what stands behind it; fin stands in the end. -/
def rdChk (kn : List (Nat × St)) (fin : St) : List ADN → Nat → X Unit
  | [], _ => xp ()
  | d :: r, i => match rdGet i kn with
    | none => none
    | some s => xb (rops P E Y d.look s) fun s1 => xb (rdActs P E Y m0 kn s1 d.acts) fun _ => xb (match d.acts with
      | [] => some ((), [(s1, fin)])
      | _ :: _ => xp ()) fun _ => rdChk kn fin r (i + 1)
def rdEnd (kn : List (Nat × St)) : List ADN → Nat → Option St
  | [], _ => none
  | d :: r, i => match d.acts with
    | [] => (rdGet i kn).bind fun s => (rops P E Y d.look s).map (·.1)
    | _ :: _ => rdEnd kn r (i + 1)
def rdFin (kn : List (Nat × St)) (tab : List ADN) : Option St := rdEnd P E Y kn tab 0
def rdagK (kn : List (Nat × St)) (tab : List ADN) : X St := match rdFin P E Y kn tab with
  | some fin => xb (rdChk P E Y m0 kn fin tab 0) fun _ => xp fin
  | none => none
def rdag (tab : List ADN) (s : St) : X St := match rdKn P E Y m0 tab 0 [(0, s)] with
  | kn => match rdGet 0 kn with
    | some s0 => match rdagK P E Y m0 kn tab with
      | some (fin, q) => some (fin, (s, s0) :: q)
      | none => none
    | none => none
end
section
variable {P : Program} {E : Ans} {Y : Yld} {m0 : Nat}
theorem rdActs_ok (hE : AnsOk P E) (hY : YldOk P Y) {kn : List (Nat × St)} {s1 : St} : ∀ {l : List (Bool × AOper × Nat)} {q : Eqs} {u : Unit}, rdActs P E Y m0 kn s1 l = some (u, q) → Hld q → ∀ x ∈ l, Wop P x.1 x.2.1 (fun s2 => ∃ s3, Wk m0 s2 s3 ∧ rdGet x.2.2 kn = some s3) s1
  | [], q, u, h, hq, x, hx => by cases hx
  | y :: l, q, u, h, hq, x, hx => by
    unfold rdActs at h
    split at h
    · cases h
    · rename_i s3 hs3
      obtain ⟨s2, q1, q2, h1, hq1, h2, hq2⟩ := xb_inv h hq
      obtain ⟨u3, q3, q4, h3, hq3, h4, hq4⟩ := xb_inv h2 hq2
      rcases List.mem_cons.1 hx with rfl | hx
      · refine rop_ok hE hY h1 hq1 ⟨canon m0 s2, canon_ok _ _, ?_⟩
        simp only [Option.some.injEq, Prod.mk.injEq, true_and] at h4
        subst h4
        have := hq4 (canon m0 s2, s3) (by simp)
        dsimp only at this
        rw [this]
        exact hs3
      · exact rdActs_ok hE hY h3 hq3 x hx
theorem rdChk_ok (hE : AnsOk P E) (hY : YldOk P Y) {kn : List (Nat × St)} {fin : St} {K : St → Prop} (hK : K fin) : ∀ {l : List ADN} {p : Nat} {q : Eqs} {u : Unit}, rdChk P E Y m0 kn fin l p = some (u, q) → Hld q → ∀ i d, l[i]? = some d → ∀ s, rdGet (p + i) kn = some s →
    Wops P d.look (fun s1 => (d.acts = [] → K s1) ∧ ∀ x ∈ d.acts, Wop P x.1 x.2.1 (fun s2 => ∃ s3, Wk m0 s2 s3 ∧ rdGet x.2.2 kn = some s3) s1) s
  | [], p, q, u, h, hq, i, d, hd, s, hs => by simp at hd
  | y :: l, p, q, u, h, hq, i, d, hd, s, hs => by
    unfold rdChk at h
    split at h
    · cases h
    · rename_i s0 hs0
      obtain ⟨s1, q1, q2, h1, hq1, h2, hq2⟩ := xb_inv h hq
      obtain ⟨u3, q3, q4, h3, hq3, h4, hq4⟩ := xb_inv h2 hq2
      obtain ⟨u5, q5, q6, h5, hq5, h6, hq6⟩ := xb_inv h4 hq4
      cases i with
      | zero =>
        simp only [List.getElem?_cons_zero, Option.some.injEq] at hd
        subst hd
        rw [Nat.add_zero, hs0] at hs
        injection hs with hs
        subst hs
        refine rops_ok hE hY h1 hq1 ⟨fun h0 => ?_, rdActs_ok hE hY h3 hq3⟩
        rw [h0] at h5
        simp only [Option.some.injEq, Prod.mk.injEq, true_and] at h5
        subst h5
        have := hq5 (s1, fin) (by simp)
        dsimp only at this
        rw [this]
        exact hK
      | succ i =>
        exact rdChk_ok hE hY hK h6 hq6 i d (by simpa using hd) s (by rw [← hs]; congr 1; omega)
theorem rdagK_ok (hE : AnsOk P E) (hY : YldOk P Y) {kn : List (Nat × St)} {tab : List ADN} {s s' : St} {q : Eqs} {K : St → Prop} (h : rdagK P E Y m0 kn tab = some (s', q)) (hq : Hld q) (h0 : ∃ s0, Wk m0 s s0 ∧ rdGet 0 kn = some s0) (hK : K s') : Wdag P m0 tab K s := by
  unfold rdagK at h
  split at h
  · rename_i fin hfin
    obtain ⟨u1, q1, q2, h1, hq1, h2, hq2⟩ := xb_inv h hq
    have := xp_inv h2
    subst this
    exact ⟨fun i s => rdGet i kn = some s, h0, fun i d hd s hs => rdChk_ok hE hY hK h1 hq1 i d hd s (by rw [Nat.zero_add]; exact hs)⟩
  · cases h
theorem rdag_ok (hE : AnsOk P E) (hY : YldOk P Y) {tab : List ADN} {s s' : St} {q : Eqs} {K : St → Prop} (h : rdag P E Y m0 tab s = some (s', q)) (hq : Hld q) (hK : K s') : Wdag P m0 tab K s := by
  unfold rdag at h
  dsimp only at h
  split at h
  · rename_i s0 hs0
    split at h
    · rename_i fin q1 h1
      simp only [Option.some.injEq, Prod.mk.injEq] at h
      obtain ⟨rfl, rfl⟩ := h
      have h2 := hq (s, s0) (by simp)
      dsimp only at h2
      subst h2
      exact rdagK_ok hE hY h1 (fun p hp => hq p (by simp [hp])) ⟨s, Wk.refl _ _, hs0⟩ hK
    · cases h
  · cases h
end
section
variable (P : Program) (E : Ans) (Y : Yld) (m0 L : Nat)
def rloop (f : St → X (AExit × St)) : Nat → St → X (AExit × St)
  | 0, _ => none
  | n + 1, s => xb (f s) fun r => match r with
    | (.normal, s1) => rloop f n (tidy m0 s1)
    | r => xp r
def rC : AC → St → X (AExit × St)
  | .skip, s => xp (.normal, s)
  | .ops l, s => xb (rops P E Y l s) fun s1 => xp (.normal, s1)
  | .segs l, s => xb (rsegs P E Y l s) fun s1 => xp (.normal, s1)
  | .tree t, s => xb (rtree P E Y t s) fun l => match l with
    | [] => none
    | s1 :: rest => some ((.normal, canon m0 s1), rest.map fun s2 => (canon m0 s2, canon m0 s1))
  | .dag tab, s => xb (rdag P E Y m0 tab s) fun s1 => xp (.normal, s1)
  | .seq a b, s => xb (rC a s) fun r => match r with
    | (.normal, s1) => rC b s1
    | r => xp r
  | .cond c a b, s => match aev s.t c with
    | some (.p (.v (.bool true))) => rC a s
    | some (.p (.v (.bool false))) => rC b s
    | _ => none
  | .block id a, s => xb (rC a s) fun r => match r with
    | (.exit i, s1) => xp (if i = id then .normal else .exit i, s1)
    | r => xp r
  | .loop a, s => rloop m0 (rC a) L s
  | .exit id, s => xp (.exit id, s)
  | .ret, s => xp (.ret, s)
  | .rangeF n g ps a c, s => match aev s.t g with
    | some (.fn (.func f) [] cap) => if callable P f = true then xb (E f (.yl s.H.length :: cap) (s.H ++ [.lp n s.t ps a c .ready])) fun r => match r.2[s.H.length]? with
        | some (.lp n' t' ps' a' c' .ready) => xp (.normal, ⟨s.t, r.2.set s.H.length (.lp n' t' ps' a' c' .over)⟩)
        | some (.lp n' t' ps' a' c' (.done .ret)) => xp (.ret, ⟨s.t, r.2.set s.H.length (.lp n' t' ps' a' c' .over)⟩)
        | some (.lp n' t' ps' a' c' (.done (.exit id))) => xp (.exit id, ⟨s.t, r.2.set s.H.length (.lp n' t' ps' a' c' .over)⟩)
        | _ => none
      else none
    | _ => none
end
section
variable {P : Program} {E : Ans} {Y : Yld} {m0 L : Nat}
theorem rloop_ok {f : St → X (AExit × St)} {a : AC} (hf : ∀ s e s' q (Q : AExit → St → Prop), f s = some ((e, s'), q) → Hld q → Q e s' → W P m0 a Q s) {n : Nat} {s s' : St} {e : AExit} {q : Eqs} {Q : AExit → St → Prop} (h : rloop m0 f n s = some ((e, s'), q)) (hq : Hld q) (hQ : Q e s') : W P m0 (.loop a) Q s := by
  refine ⟨fun n s => ∃ e s' q, rloop m0 f n s = some ((e, s'), q) ∧ Hld q ∧ Q e s', ⟨n, s, Wk.refl _ _, e, s', q, h, hq, hQ⟩, ?_⟩
  rintro k s1 ⟨e1, s2, q1, h1, hq1, hQ1⟩
  cases k with
  | zero => cases h1
  | succ k =>
    unfold rloop at h1
    obtain ⟨⟨e3, s3⟩, q3, q4, h3, hq3, h4, hq4⟩ := xb_inv h1 hq1
    refine hf _ _ _ _ _ h3 hq3 ?_
    cases e3 with
    | normal => exact ⟨k, tidy m0 s3, tidy_ok _ _, ⟨e1, s2, q4, h4, hq4, hQ1⟩, Nat.lt_succ_self _⟩
    | exit id =>
      have := xp_inv h4
      simp only [Prod.mk.injEq] at this
      obtain ⟨rfl, rfl⟩ := this
      exact hQ1
    | ret =>
      have := xp_inv h4
      simp only [Prod.mk.injEq] at this
      obtain ⟨rfl, rfl⟩ := this
      exact hQ1
theorem rC_ok (hE : AnsOk P E) (hY : YldOk P Y) : ∀ (c : AC) (s : St) (e : AExit) (s' : St) (q : Eqs) (Q : AExit → St → Prop), rC P E Y m0 L c s = some ((e, s'), q) → Hld q → Q e s' → W P m0 c Q s
  | .skip, s, e, s', q, Q, h, hq, hQ => by
    have := xp_inv h
    simp only [Prod.mk.injEq] at this
    obtain ⟨rfl, rfl⟩ := this
    exact hQ
  | .ops l, s, e, s', q, Q, h, hq, hQ => by
    unfold rC at h
    obtain ⟨s1, q1, q2, h1, hq1, h2, hq2⟩ := xb_inv h hq
    have := xp_inv h2
    simp only [Prod.mk.injEq] at this
    obtain ⟨rfl, rfl⟩ := this
    exact rops_ok hE hY h1 hq1 hQ
  | .segs l, s, e, s', q, Q, h, hq, hQ => by
    unfold rC at h
    obtain ⟨s1, q1, q2, h1, hq1, h2, hq2⟩ := xb_inv h hq
    have := xp_inv h2
    simp only [Prod.mk.injEq] at this
    obtain ⟨rfl, rfl⟩ := this
    exact rsegs_ok hE hY h1 hq1 hQ
  | .tree t, s, e, s', q, Q, h, hq, hQ => by
    unfold rC at h
    obtain ⟨l, q1, q2, h1, hq1, h2, hq2⟩ := xb_inv h hq
    split at h2
    · cases h2
    · rename_i s1 rest
      simp only [Option.some.injEq, Prod.mk.injEq] at h2
      obtain ⟨⟨rfl, rfl⟩, rfl⟩ := h2
      refine rtree_ok hE hY (K := fun s1 => ∃ s2, Wk m0 s1 s2 ∧ Q .normal s2) h1 hq1 fun s2 hs => ?_
      rcases List.mem_cons.1 hs with rfl | hs
      · exact ⟨_, canon_ok _ _, hQ⟩
      · have := hq2 (canon m0 s2, canon m0 s1) (List.mem_map.2 ⟨s2, hs, rfl⟩)
        refine ⟨canon m0 s2, canon_ok _ _, ?_⟩
        dsimp only at this
        rw [this]
        exact hQ
  | .dag tab, s, e, s', q, Q, h, hq, hQ => by
    unfold rC at h
    obtain ⟨s1, q1, q2, h1, hq1, h2, hq2⟩ := xb_inv h hq
    have := xp_inv h2
    simp only [Prod.mk.injEq] at this
    obtain ⟨rfl, rfl⟩ := this
    exact rdag_ok hE hY h1 hq1 hQ
  | .seq a b, s, e, s', q, Q, h, hq, hQ => by
    unfold rC at h
    obtain ⟨⟨e1, s1⟩, q1, q2, h1, hq1, h2, hq2⟩ := xb_inv h hq
    refine rC_ok hE hY a _ _ _ _ _ h1 hq1 ?_
    cases e1 with
    | normal => exact rC_ok hE hY b _ _ _ _ _ h2 hq2 hQ
    | exit id =>
      have := xp_inv h2
      simp only [Prod.mk.injEq] at this
      obtain ⟨rfl, rfl⟩ := this
      exact hQ
    | ret =>
      have := xp_inv h2
      simp only [Prod.mk.injEq] at this
      obtain ⟨rfl, rfl⟩ := this
      exact hQ
  | .cond c a b, s, e, s', q, Q, h, hq, hQ => by
    unfold rC at h
    unfold W
    split at h
    · rename_i hc
      rw [hc]
      exact rC_ok hE hY a _ _ _ _ _ h hq hQ
    · rename_i hc
      rw [hc]
      exact rC_ok hE hY b _ _ _ _ _ h hq hQ
    · cases h
  | .block id a, s, e, s', q, Q, h, hq, hQ => by
    unfold rC at h
    obtain ⟨⟨e1, s1⟩, q1, q2, h1, hq1, h2, hq2⟩ := xb_inv h hq
    refine rC_ok hE hY a _ _ _ _ _ h1 hq1 ?_
    cases e1 with
    | exit i =>
      have := xp_inv h2
      simp only [Prod.mk.injEq] at this
      obtain ⟨rfl, rfl⟩ := this
      dsimp only
      split
      · rename_i hi; rw [if_pos hi] at hQ; exact hQ
      · rename_i hi; rw [if_neg hi] at hQ; exact hQ
    | normal =>
      have := xp_inv h2
      simp only [Prod.mk.injEq] at this
      obtain ⟨rfl, rfl⟩ := this
      exact hQ
    | ret =>
      have := xp_inv h2
      simp only [Prod.mk.injEq] at this
      obtain ⟨rfl, rfl⟩ := this
      exact hQ
  | .loop a, s, e, s', q, Q, h, hq, hQ => by
    unfold rC at h
    exact rloop_ok (fun s e s' q Q => rC_ok hE hY a s e s' q Q) h hq hQ
  | .exit id, s, e, s', q, Q, h, hq, hQ => by
    have := xp_inv h
    simp only [Prod.mk.injEq] at this
    obtain ⟨rfl, rfl⟩ := this
    exact hQ
  | .ret, s, e, s', q, Q, h, hq, hQ => by
    have := xp_inv h
    simp only [Prod.mk.injEq] at this
    obtain ⟨rfl, rfl⟩ := this
    exact hQ
  | .rangeF n g ps a c, s, e, s', q, Q, h, hq, hQ => by
    unfold rC at h
    unfold W
    split at h
    · rename_i f cap hg
      rw [hg]
      dsimp only
      split at h
      · rename_i hcb
        obtain ⟨⟨r1, H1⟩, q1, q2, h1, hq1, h2, hq2⟩ := xb_inv h hq
        obtain ⟨af, hc, hw⟩ := hE f _ _ _ _ _ h1 hq1
        refine ⟨hcb, HC_of_W hc (hw _ ?_)⟩
        unfold AfterR
        dsimp only at h2
        split at h2
        · rename_i hl
          rw [hl]
          have := xp_inv h2
          simp only [Prod.mk.injEq] at this
          obtain ⟨rfl, rfl⟩ := this
          exact hQ
        · rename_i hl
          rw [hl]
          have := xp_inv h2
          simp only [Prod.mk.injEq] at this
          obtain ⟨rfl, rfl⟩ := this
          exact hQ
        · rename_i hl
          rw [hl]
          have := xp_inv h2
          simp only [Prod.mk.injEq] at this
          obtain ⟨rfl, rfl⟩ := this
          exact hQ
        · cases h2
      · cases h
    · cases h
end
section
variable (P : Program) (L : Nat) (E : Ans) (Y : Yld)
def runF : Ans := fun f vs H => match cfn P f vs.length with
  | some af => xb (rC P E Y H.length L af.body ⟨initT 0 vs, H⟩) fun r => match r.1 with
    | .exit _ => none
    | _ => match resOf r.2 af.res with
      | some x =>
        let σ := gcσ H.length [x] r.2.H
        if okσ σ H.length r.2.H = true then xp (x.ren r.2.H (idx σ 0), renH σ r.2.H) else none
      | none => none
  | none => none
def runY : Yld := fun o vs H => match H[o]? with
  | some (.lp N t ps a c .ready) => match ccode P N a, ccode P N c with
    | some aa, some ac => if (ps.all fun p => decide (p < N)) = true ∧ vs.length = ps.length ∧ roB aa = true ∧ roB ac = true then
        xb (rC P E Y H.length L aa ⟨putAll t ps vs, H⟩) fun r => match r.1, r.2.H[o]? with
          | .normal, some ob => xb (some ((), [(⟨[], [ob]⟩, ⟨[], [.lp N t ps a c .ready]⟩)])) fun _ => xb (rC P E Y H.length L ac ⟨r.2.t, r.2.H.set o (.lp N t ps a c .busy)⟩) fun r2 => match r2.2.H[o]? with
            | some ob2 => xb (some ((), [(⟨[], [ob2]⟩, ⟨[], [.lp N t ps a c .busy]⟩)])) fun _ => match r2.1 with
              | .normal => xp (.p (.v (.bool true)), r2.2.H.set o (.lp N t ps a c .ready))
              | .ret => xp (.p (.v (.bool false)), r2.2.H.set o (.lp N t ps a c (.done .ret)))
              | .exit id => xp (.p (.v (.bool false)), r2.2.H.set o (.lp N t ps a c (.done (.exit id))))
            | none => none
          | _, _ => none
      else none
    | _, _ => none
  | _ => none
def runs : Nat → Ans × Yld
  | 0 => (fun _ _ _ => none, fun _ _ _ => none)
  | n + 1 => (runF P L (runs n).1 (runs n).2, runY P L (runs n).1 (runs n).2)
end
section
variable {P : Program} {L : Nat} {E : Ans} {Y : Yld}
theorem finX {m0 : Nat} {rs : List ARes} {R : AV → List AO → Prop} {e : AExit} {s : St} {x r : AV} {H' : List AO} (σ : List Nat) (he : match e with | .exit _ => False | _ => True) (hx : resOf s rs = some x) (hσ : okσ σ m0 s.H = true) (e1 : x.ren s.H (idx σ 0) = r) (e2 : renH σ s.H = H') (hR : R r H') : Fin m0 rs R e s :=
  ⟨he, .inl ⟨s, x, σ, Wk.refl _ _, hx, hσ, by rw [e1, e2]; exact hR⟩⟩
theorem runF_ok (hE : AnsOk P E) (hY : YldOk P Y) : AnsOk P (runF P L E Y) := by
  intro f vs H r H' q h hq
  unfold runF at h
  split at h
  · rename_i af hc
    refine ⟨af, hc, fun R hR => ?_⟩
    obtain ⟨⟨e, s1⟩, q1, q2, h1, hq1, h2, hq2⟩ := xb_inv h hq
    refine rC_ok hE hY _ _ _ _ _ _ h1 hq1 ?_
    cases e with
    | exit id => cases h2
    | normal =>
      dsimp only at h2
      split at h2
      · rename_i x hx
        split at h2
        · rename_i hσ
          have := xp_inv h2
          simp only [Prod.mk.injEq] at this
          exact finX _ trivial hx hσ this.1 this.2 hR
        · cases h2
      · cases h2
    | ret =>
      dsimp only at h2
      split at h2
      · rename_i x hx
        split at h2
        · rename_i hσ
          have := xp_inv h2
          simp only [Prod.mk.injEq] at this
          exact finX _ trivial hx hσ this.1 this.2 hR
        · cases h2
      · cases h2
  · cases h
theorem runY_ok (hE : AnsOk P E) (hY : YldOk P Y) : YldOk P (runY P L E Y) := by
  intro o vs H r H' q h hq K hK
  unfold runY at h
  split at h
  · rename_i N t ps a c ho
    split at h
    · rename_i aa ac haa hac
      split at h
      · rename_i hcond
        obtain ⟨c1, c2, c3, c4⟩ := hcond
        refine HY_of_W ho haa hac c1 c2 c3 c4 ?_
        obtain ⟨⟨e, s1⟩, q1, q2, h1, hq1, h2, hq2⟩ := xb_inv h hq
        refine rC_ok hE hY _ _ _ _ _ _ h1 hq1 ?_
        dsimp only at h2
        split at h2
        · rename_i ob hob
          obtain ⟨_, q3, q4, h3, hq3, h4, hq4⟩ := xb_inv h2 hq2
          simp only [Option.some.injEq, Prod.mk.injEq] at h3
          obtain ⟨-, rfl⟩ := h3
          have e1 := hq3 _ (List.mem_singleton.2 rfl)
          simp only [St.mk.injEq, List.cons.injEq, and_true, true_and] at e1
          subst e1
          rw [RoundIn'_normal]
          refine ⟨hob, ?_⟩
          obtain ⟨⟨e2, s2⟩, q5, q6, h5, hq5, h6, hq6⟩ := xb_inv h4 hq4
          refine rC_ok hE hY _ _ _ _ _ _ h5 hq5 ?_
          dsimp only at h6
          split at h6
          · rename_i ob2 hob2
            obtain ⟨_, q7, q8, h7, hq7, h8, hq8⟩ := xb_inv h6 hq6
            simp only [Option.some.injEq, Prod.mk.injEq] at h7
            obtain ⟨-, rfl⟩ := h7
            have e3 := hq7 _ (List.mem_singleton.2 rfl)
            simp only [St.mk.injEq, List.cons.injEq, and_true, true_and] at e3
            subst e3
            cases e2 with
            | normal =>
              have := xp_inv h8
              simp only [Prod.mk.injEq] at this
              obtain ⟨rfl, rfl⟩ := this
              exact ⟨hob2, hK⟩
            | ret =>
              have := xp_inv h8
              simp only [Prod.mk.injEq] at this
              obtain ⟨rfl, rfl⟩ := this
              exact ⟨hob2, hK⟩
            | exit id =>
              have := xp_inv h8
              simp only [Prod.mk.injEq] at this
              obtain ⟨rfl, rfl⟩ := this
              exact ⟨hob2, hK⟩
          · cases h6
        · cases h2
      · cases h
    · cases h
  · cases h
theorem runs_ok : ∀ n, AnsOk P (runs P L n).1 ∧ YldOk P (runs P L n).2
  | 0 => ⟨fun _ _ _ _ _ _ h => (by cases h), fun _ _ _ _ _ _ h => (by cases h)⟩
  | n + 1 => ⟨runF_ok (runs_ok n).1 (runs_ok n).2, runY_ok (runs_ok n).1 (runs_ok n).2⟩
/-- What a run says is a contract. -/
theorem PC_run (n : Nat) {f : FuncId} {ps : List PV} {r : AV} {HR : List AO} (h : ((runs P L n).1 f (ps.map .p) []).map (fun x => x.1) = some (r, HR))
    (e : ((runs P L n).1 f (ps.map .p) []).map (fun x => x.2.map fun p => p.1) = ((runs P L n).1 f (ps.map .p) []).map fun x => x.2.map fun p => p.2) : PC P f ps r HR := by
  cases hx : (runs P L n).1 f (ps.map .p) [] with
  | none => rw [hx] at h; cases h
  | some x =>
    obtain ⟨⟨r1, H1⟩, q⟩ := x
    rw [hx] at h e
    simp only [Option.map_some, Option.some.injEq, Prod.mk.injEq] at h e
    obtain ⟨rfl, rfl⟩ := h
    obtain ⟨af, hc, hw⟩ := (runs_ok n).1 _ _ _ _ _ _ hx fun p hp => List.map_inj_left.1 e p hp
    exact PC_of_W (by simpa using hc) (hw _ ⟨rfl, rfl⟩)
end
section
/-- A region as a graph of cuts, run by the kernel. -/
theorem rdag_W {P : Program} {E : Ans} {Y : Yld} {m0 : Nat} {tab : List ADN} {s s' : St} {Q : AExit → St → Prop} (hE : AnsOk P E) (hY : YldOk P Y) (h1 : (rdag P E Y m0 tab s).isSome = true)
    (h2 : (rdag P E Y m0 tab s).map (fun r => (r.1, r.2.map (·.1))) = (rdag P E Y m0 tab s).map (fun r => (s', r.2.map (·.2)))) (hQ : Q .normal s') : W P m0 (.dag tab) Q s := by
  cases h : rdag P E Y m0 tab s with
  | none => rw [h] at h1; cases h1
  | some r =>
    obtain ⟨s1, q⟩ := r
    rw [h] at h2
    simp only [Option.map_some, Option.some.injEq, Prod.mk.injEq] at h2
    obtain ⟨rfl, h3⟩ := h2
    refine rdag_ok hE hY h (fun p hp => ?_) hQ
    obtain ⟨i, hi, he⟩ := List.mem_iff_getElem.1 hp
    have := congrArg (fun l => l[i]?) h3
    simpa [hi, he] using this
/-- The same where nothing is called. -/
theorem rdag_W0 {P : Program} {m0 : Nat} {tab : List ADN} {s s' : St} {Q : AExit → St → Prop} (h1 : (rdag P (fun _ _ _ => none) (fun _ _ _ => none) m0 tab s).isSome = true)
    (h2 : (rdag P (fun _ _ _ => none) (fun _ _ _ => none) m0 tab s).map (fun r => (r.1, r.2.map (·.1))) = (rdag P (fun _ _ _ => none) (fun _ _ _ => none) m0 tab s).map (fun r => (s', r.2.map (·.2)))) (hQ : Q .normal s') : W P m0 (.dag tab) Q s :=
  rdag_W (fun _ _ _ _ _ _ h => by cases h) (fun _ _ _ _ _ _ h => by cases h) h1 h2 hQ
end
end Abs
end Go
