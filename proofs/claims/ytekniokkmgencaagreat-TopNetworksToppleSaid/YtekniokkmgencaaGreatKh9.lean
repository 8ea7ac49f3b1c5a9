/-
  Texts joined: Mac.
-/
import Derived.Test.YtekniokkmgencaaGreatKh8
import Derived.IntWalk
section
namespace Go
namespace Abs
open Go.RowKit
abbrev PV.i (n : Int) : PV := .v (.int .i64 n)
abbrev PV.b (t : Bool) : PV := .v (.bool t)
abbrev PV.nil : PV := .v (.slice none 0 0)
abbrev AV.i (n : Int) : AV := .p (.v (.int .i64 n))
abbrev AV.b (t : Bool) : AV := .p (.v (.bool t))
abbrev PV.is (l : List Int) : PV := .sl (l.map PV.i)
theorem wrap_id {n : Int} (h1 : -9223372036854775808 ≤ n) (h2 : n ≤ 9223372036854775807) : IntKind.i64.wrap n = n := by
  exact IntWalk.i64_in n (by omega)
section
variable {P : Program} {m0 : Nat}
theorem loopI {body : (AExit → St → Prop) → St → Prop} {Q : AExit → St → Prop} {s : St} (N : Nat) (I : Nat → St → Prop) (h0 : ∃ s', Wk m0 s s' ∧ I 0 s')
    (h : ∀ k s, k ≤ N → I k s → body (fun e s1 => match e with
      | .normal => k + 1 ≤ N ∧ ∃ s2, Wk m0 s1 s2 ∧ I (k + 1) s2
      | e => Q e s1) s) (hmono : ∀ {Q Q' : AExit → St → Prop}, (∀ e s, Q e s → Q' e s) → ∀ s, body Q s → body Q' s) : LoopW m0 body Q s := by
  obtain ⟨s0, hk, hI⟩ := h0
  refine ⟨fun n s => ∃ k, k ≤ N ∧ n = N - k ∧ I k s, ⟨N, s0, hk, 0, by omega, by omega, hI⟩, ?_⟩
  rintro n s1 ⟨k, hkN, rfl, hI1⟩
  refine hmono ?_ s1 (h k s1 hkN hI1)
  intro e s2 hq
  cases e with
  | normal =>
    obtain ⟨hk1, s3, hw, hI3⟩ := hq
    exact ⟨N - (k + 1), s3, hw, ⟨k + 1, hk1, rfl, hI3⟩, by omega⟩
  | exit i => exact hq
  | ret => exact hq
theorem Wop_mono {e : Bool} {o : AOper} {K K' : St → Prop} (hK : ∀ s, K s → K' s) {s : St} (h : Wop P e o K s) : Wop P e o K' s := by
  have hst : ∀ {op : AOp} {L L' : AV → List AO → Prop}, (∀ x H, L x H → L' x H) → stepK P e op s L → stepK P e op s L' := by
    intro op L L' hL h
    unfold stepK at h ⊢
    split at h
    · split at h
      · exact h.mono hL
      · exact h.elim
    · split at h
      · exact ⟨h.1, h.2.mono hL⟩
      · exact ⟨h.1, h.2.1, h.2.2.mono hL⟩
      · exact h.elim
    · split at h
      · split at h
        · exact ⟨h.1, h.2.mono hL⟩
        · exact h.elim
      · exact h.elim
    · split at h
      · split at h
        · exact hL _ _ h
        · exact ⟨fun h0 => hL _ _ (h.1 h0), hL _ _ h.2⟩
        · exact h.elim
      · exact h.elim
    · split at h
      · split at h
        · exact ⟨h.1, hL _ _ h.2.1, hL _ _ h.2.2⟩
        · exact h.elim
      · split at h
        · exact ⟨h.1, fun c => hL _ _ (h.2.1 c), fun c c' hc => hL _ _ (h.2.2 c c' hc)⟩
        · exact h.elim
      · exact h.elim
    · split at h
      · exact hL _ _ h
      · obtain ⟨h1, h⟩ := h
        refine ⟨h1, ?_⟩
        split at h
        · split at h
          · exact ⟨h.1, hL _ _ h.2.1, hL _ _ h.2.2⟩
          · exact h.elim
        · split at h
          · exact ⟨h.1, fun c => hL _ _ (h.2.1 c), fun c c' hc => hL _ _ (h.2.2 c c' hc)⟩
          · exact h.elim
        · exact h.elim
    · split at h
      · exact hL _ _ h
      · exact h.elim
  unfold Wop at h ⊢
  split at h
  · exact hst (fun x H h => hK _ h) h
  · exact hK _ h
  · exact h.elim
theorem Wops_mono : ∀ {l : List AOper} {K K' : St → Prop}, (∀ s, K s → K' s) → ∀ {s : St}, Wops P l K s → Wops P l K' s
  | [], _, _, hK, _, h => hK _ h
  | _ :: _, _, _, hK, _, h => Wop_mono (fun _ h => Wops_mono hK h) h
theorem Wsegs_mono : ∀ {l : List (List AOper × Option (Bool × AOper))} {K K' : St → Prop}, (∀ s, K s → K' s) → ∀ {s : St}, Wsegs P l K s → Wsegs P l K' s
  | [], _, _, hK, _, h => hK _ h
  | (_, none) :: rest, K, K', hK, _, h => Wops_mono (K := Wsegs P rest K) (K' := Wsegs P rest K') (fun _ h => Wsegs_mono hK h) h
  | (_, some (x, o)) :: rest, K, K', hK, _, h => Wops_mono (K := Wop P x o (Wsegs P rest K)) (K' := Wop P x o (Wsegs P rest K')) (fun _ h => Wop_mono (fun _ h => Wsegs_mono hK h) h) h
theorem Wtree_mono : ∀ {t : AT} {K K' : St → Prop}, (∀ s, K s → K' s) → ∀ {s : St}, Wtree P t K s → Wtree P t K' s
  | .done, _, _, hK, _, h => hK _ h
  | .look _ t, K, K', hK, _, h => Wops_mono (K := Wtree P t K) (K' := Wtree P t K') (fun _ h => Wtree_mono hK h) h
  | .act _ _ t, K, K', hK, _, h => Wop_mono (K := Wtree P t K) (K' := Wtree P t K') (fun _ h => Wtree_mono hK h) h
  | .fork _ _ t u, K, K', hK, _, h => ⟨Wop_mono (K := Wtree P t K) (K' := Wtree P t K') (fun _ h => Wtree_mono hK h) h.1, Wtree_mono (t := u) hK h.2⟩
theorem AfterR_mono {Q Q' : AExit → St → Prop} (hQ : ∀ e s, Q e s → Q' e s) {t : List (Nat × AV)} {o : Nat} {H : List AO} (h : AfterR Q t o H) : AfterR Q' t o H := by
  unfold AfterR at h ⊢
  split at h
  · exact hQ _ _ h
  · exact hQ _ _ h
  · exact hQ _ _ h
  · exact h.elim
theorem W_mono : ∀ (c : AC) {Q Q' : AExit → St → Prop}, (∀ e s, Q e s → Q' e s) → ∀ s, W P m0 c Q s → W P m0 c Q' s
  | .skip, _, _, hQ, _, h => hQ _ _ h
  | .ops _, _, _, hQ, _, h => Wops_mono (hQ _) h
  | .segs _, _, _, hQ, _, h => Wsegs_mono (hQ _) h
  | .tree t, Q, Q', hQ, _, h => Wtree_mono (t := t) (fun _ ⟨s2, h1, h2⟩ => ⟨s2, h1, hQ _ _ h2⟩) h
  | .dag tab, Q, Q', hQ, _, ⟨I, h0, h⟩ => ⟨I, h0, fun i d hd s hs => Wops_mono (fun _ h1 => ⟨fun h2 => hQ _ _ (h1.1 h2), h1.2⟩) (h i d hd s hs)⟩
  | .seq a b, Q, Q', hQ, s, h => by
    simp only [W] at h ⊢
    refine W_mono a (fun e s1 h1 => ?_) s h
    cases e with
    | normal => exact W_mono b hQ s1 h1
    | exit i => exact hQ _ _ h1
    | ret => exact hQ _ _ h1
  | .cond _ a b, _, _, hQ, s, h => by
    simp only [W] at h ⊢
    split at h
    · rename_i t ht
      cases t
      · exact W_mono b hQ _ h
      · exact W_mono a hQ _ h
    · exact h.elim
  | .block id a, _, _, hQ, s, h => by
    simp only [W] at h ⊢
    refine W_mono a (fun e s1 h1 => ?_) s h
    cases e with
    | normal => exact hQ _ _ h1
    | exit i =>
      by_cases e : i = id
      · simp only [e, if_true] at h1 ⊢; exact hQ _ _ h1
      · simp only [e, if_false] at h1 ⊢; exact hQ _ _ h1
    | ret => exact hQ _ _ h1
  | .loop a, _, _, hQ, _, ⟨I, h0, h⟩ => ⟨I, h0, fun n s hI => W_mono a (fun e s1 h1 => by
      cases e with
      | normal => exact h1
      | exit i => exact hQ _ _ h1
      | ret => exact hQ _ _ h1) _ (h n s hI)⟩
  | .exit _, _, _, hQ, _, h => hQ _ _ h
  | .ret, _, _, hQ, _, h => hQ _ _ h
  | .rangeF n g ps a c, _, _, hQ, s, h => by
    simp only [W] at h ⊢
    split at h
    · exact ⟨h.1, h.2.mono fun _ H' h1 => AfterR_mono hQ h1⟩
    · exact h.elim
/-! ### The walk, one step at a time: what follows stays behind a name until the walk comes to it. -/
def SeqQ (P : Program) (m0 : Nat) (b : AC) (Q : AExit → St → Prop) (e : AExit) (s : St) : Prop := match e with
  | .normal => W P m0 b Q s
  | e => Q e s
def BlockQ (id : Nat) (Q : AExit → St → Prop) (e : AExit) (s : St) : Prop := match e with
  | .exit i => if i = id then Q .normal s else Q (.exit i) s
  | e => Q e s
def LoopAt (P : Program) (m0 : Nat) (a : AC) (Q : AExit → St → Prop) (s : St) : Prop := LoopW m0 (W P m0 a) Q s
def condP (P : Program) (m0 : Nat) (c : Option AV) (a b : AC) (Q : AExit → St → Prop) (s : St) : Prop := match c with
  | some (.p (.v (.bool t))) => if t then W P m0 a Q s else W P m0 b Q s
  | _ => False
def rangeP (P : Program) (n : Nat) (ps : List Nat) (a c : Code) (g : Option AV) (Q : AExit → St → Prop) (s : St) : Prop := match g with
  | some (.fn (.func f) [] cap) => callable P f = true ∧ HC P false f (.yl s.H.length :: cap) (s.H ++ [.lp n s.t ps a c .ready]) fun _ H' => AfterR Q s.t s.H.length H'
  | _ => False
def PutK (K : St → Prop) (t : List (Nat × AV)) (d : Option Nat) (x : AV) (H : List AO) : Prop := K ⟨putO t d x, H⟩
def stepP (r : Option (AV × List AO)) (K : AV → List AO → Prop) : Prop := match r with
  | some (x, H) => K x H
  | none => False
def callP (P : Program) (e : Bool) (f : FuncId) (vs : Option (List AV)) (H : List AO) (K : AV → List AO → Prop) : Prop := match vs with
  | some vs => HC P e f vs H K
  | none => False
def callvP (P : Program) (e : Bool) (x : Option AV) (vs : Option (List AV)) (H : List AO) (K : AV → List AO → Prop) : Prop := match x, vs with
  | some (.fn (.func f) first cap), some vs => callable P f = true ∧ HC P e f (first ++ vs ++ cap) H K
  | some (.yl o), some vs => e = false ∧ solid H (.yl o) = true ∧ HY P o vs H K
  | _, _ => False
def methP (P : Program) (e : Bool) (f : Option FuncId) (vs : List AV) (H : List AO) (K : AV → List AO → Prop) : Prop := match f with
  | some f => callable P f = true ∧ HC P e f vs H K
  | none => False
def callMP (P : Program) (e : Bool) (name : String) (vs : Option (List AV)) (H : List AO) (K : AV → List AO → Prop) : Prop := match vs with
  | some (.ifc t x :: vs) => methP P e (methO P t name) (x :: vs) H K
  | _ => False
def eqnP (neg : Bool) (x : Option AV) (H : List AO) (K : AV → List AO → Prop) : Prop := match x with
  | some y => match isNil y, elems H y with
    | true, _ => K (.b (!neg)) H
    | false, some l => (l = [] → K (.b (!neg)) H) ∧ K (.b neg) H
    | _, _ => False
  | none => False
def appQP (e : TypeId) (x : Option AV) (xs : Option (List PV)) (H : List AO) (K : AV → List AO → Prop) : Prop := match x, xs with
  | some (.os o off len), some xs => match H[o]? with
    | some (.row els sz t false) => (off + len = els.length ∧ sz = 1 ∧ t = e ∧ 0 < xs.length ∧ els.all (·.one) = true ∧ xs.all (·.one) = true ∧ els.length + xs.length ≤ 1048576) ∧
      K (.os o off (len + xs.length)) (H.set o (.row (els ++ xs) 1 e false)) ∧ K (.os H.length 0 (len + xs.length)) (H ++ [.row (els.drop off ++ xs) 1 e false])
    | _ => False
  | some (.bc o len cap), some xs => match bcL H o cap with
    | some l => (0 < xs.length ∧ xs.all (·.one) = true ∧ len + xs.length ≤ 1048576) ∧
      (len + xs.length ≤ cap → K (.bc o (len + xs.length) cap) (H.set o (.box (.agg (l.take len ++ xs.map .p ++ l.drop (len + xs.length)))))) ∧
      (cap < len + xs.length → ∀ c, len + xs.length ≤ c → K (.bc H.length (len + xs.length) c) (H ++ [.box (.agg (l.take len ++ xs.map .p ++ List.replicate (c - (len + xs.length)) .dead))]))
    | _ => False
  | _, _ => False
def appP (r : Option (AV × List AO)) (n : Nat) (e : TypeId) (x : Option AV) (xs : Option (List PV)) (H : List AO) (K : AV → List AO → Prop) : Prop := match r with
  | some (x, H) => K x H
  | none => n = 1 ∧ appQP e x xs H K
def ActK (P : Program) (o : Option (Bool × AOper)) (rest : List (List AOper × Option (Bool × AOper))) (K : St → Prop) (s : St) : Prop := Wact P o (Wsegs P rest K) s
def gdB (P : Program) (e : Bool) (t : Bool) (d : Option Nat) (op : AOp) (K : St → Prop) (s : St) : Prop := if t then stepK P e op s (PutK K s.t d) else K ⟨putO s.t d (.tup []), s.H⟩
def gdK (P : Program) (e : Bool) (v : AV) (want : Bool) (d : Option Nat) (op : AOp) (K : St → Prop) (s : St) : Prop := match v with
  | .p (.v (.bool b)) => gdB P e (b == want) d op K s
  | .tup [] => K ⟨putO s.t d (.tup []), s.H⟩
  | _ => False
section
variable {Q : AExit → St → Prop} {K : St → Prop} {L : AV → List AO → Prop} {s : St} {H : List AO} {t : List (Nat × AV)}
theorem W_skip : W P m0 .skip Q s = Q .normal s := rfl
theorem W_ops {l : List AOper} : W P m0 (.ops l) Q s = Wops P l (Q .normal) s := rfl
theorem W_segs {l : List (List AOper × Option (Bool × AOper))} : W P m0 (.segs l) Q s = Wsegs P l (Q .normal) s := rfl
theorem tree_all {t : AT} (h : Wtree P t (Q .normal) s) : W P m0 (.tree t) Q s := Wtree_mono (t := t) (fun s1 h1 => ⟨s1, Wk.refl _ _, h1⟩) h
theorem tree_join {t : AT} {s0 : St} (h0 : Q .normal s0) (h : Wtree P t (fun s1 => Wk m0 s1 s0) s) : W P m0 (.tree t) Q s := Wtree_mono (t := t) (fun _ h1 => ⟨s0, h1, h0⟩) h
theorem Wtree_done : Wtree P .done K s = K s := rfl
theorem Wtree_look {l : List AOper} {t : AT} : Wtree P (.look l t) K s = Wops P l (Wtree P t K) s := rfl
theorem Wtree_act {x : Bool} {o : AOper} {t : AT} : Wtree P (.act x o t) K s = Wop P x o (Wtree P t K) s := rfl
theorem Wtree_fork {x : Bool} {o : AOper} {t u : AT} : Wtree P (.fork x o t u) K s = (Wop P x o (Wtree P t K) s ∧ Wtree P u K s) := rfl
theorem W_seq {a b : AC} : W P m0 (.seq a b) Q s = W P m0 a (SeqQ P m0 b Q) s := by
  simp only [W]
  congr 1
theorem W_cond {c : Operand} {a b : AC} : W P m0 (.cond c a b) Q s = condP P m0 (aev s.t c) a b Q s := by
  rfl
theorem W_block {id : Nat} {a : AC} : W P m0 (.block id a) Q s = W P m0 a (BlockQ id Q) s := by
  simp only [W]
  congr 1
theorem W_loop {a : AC} : W P m0 (.loop a) Q s = LoopAt P m0 a Q s := rfl
theorem W_exit {id : Nat} : W P m0 (.exit id) Q s = Q (.exit id) s := rfl
theorem W_rangeF {n : Nat} {g : Operand} {ps : List Nat} {a c : Code} : W P m0 (.rangeF n g ps a c) Q s = rangeP P n ps a c (aev s.t g) Q s := rfl
theorem rangeP_some {n : Nat} {ps : List Nat} {a c : Code} {f : FuncId} {cap : List AV} : rangeP P n ps a c (some (.fn (.func f) [] cap)) Q s = (callable P f = true ∧ HC P false f (.yl s.H.length :: cap) (s.H ++ [.lp n s.t ps a c .ready]) fun _ H' => AfterR Q s.t s.H.length H') := rfl
theorem W_ret : W P m0 .ret Q s = Q .ret s := rfl
theorem SeqQ_normal {b : AC} : SeqQ P m0 b Q .normal s = W P m0 b Q s := rfl
theorem SeqQ_exit {b : AC} {i : Nat} : SeqQ P m0 b Q (.exit i) s = Q (.exit i) s := rfl
theorem SeqQ_ret {b : AC} : SeqQ P m0 b Q .ret s = Q .ret s := rfl
theorem BlockQ_normal {id : Nat} : BlockQ id Q .normal s = Q .normal s := rfl
theorem BlockQ_exit {id i : Nat} : BlockQ id Q (.exit i) s = if i = id then Q .normal s else Q (.exit i) s := rfl
theorem BlockQ_ret {id : Nat} : BlockQ id Q .ret s = Q .ret s := rfl
theorem Wops_nil : Wops P [] K s = K s := rfl
theorem Wops_cons {o : AOper} {l : List AOper} : Wops P (o :: l) K s = Wop P false o (Wops P l K) s := rfl
theorem Wsegs_nil : Wsegs P [] K s = K s := rfl
theorem Wsegs_cons {l : List AOper} {o : Option (Bool × AOper)} {rest : List (List AOper × Option (Bool × AOper))} : Wsegs P ((l, o) :: rest) K s = Wops P l (ActK P o rest K) s := rfl
theorem ActK_none {rest : List (List AOper × Option (Bool × AOper))} : ActK P none rest K s = Wsegs P rest K s := rfl
theorem ActK_some {x : Bool} {o : AOper} {rest : List (List AOper × Option (Bool × AOper))} : ActK P (some (x, o)) rest K s = Wop P x o (Wsegs P rest K) s := rfl
theorem Wop_none {e : Bool} {d : Option Nat} {op : AOp} : Wop P e ⟨d, op, none⟩ K s = stepK P e op s (PutK K s.t d) := rfl
theorem Wop_some {e : Bool} {d : Option Nat} {op : AOp} {g : Nat} {want : Bool} : Wop P e ⟨d, op, some (g, want)⟩ K s = gdK P e (get s.t g) want d op K s := by
  unfold Wop gdK gd
  dsimp only
  split
  · rename_i h
    split at h
    · rename_i b hb
      rw [hb]
      dsimp only
      rw [gdB, Option.some.inj h]
      rfl
    · cases h
    · cases h
  · rename_i h
    split at h
    · rename_i b hb
      rw [hb]
      dsimp only
      rw [gdB, Option.some.inj h]
      rfl
    · rename_i hb; rw [hb]
    · cases h
  · rename_i h
    split at h
    · cases h
    · cases h
    · rename_i h1 h2
      split
      · rename_i b hb; exact absurd hb (h1 b)
      · rename_i hb; exact absurd hb h2
      · rfl
theorem gdK_bool {e b want : Bool} {d : Option Nat} {op : AOp} : gdK P e (.p (.v (.bool b))) want d op K s = gdB P e (b == want) d op K s := rfl
theorem gdK_tup {e want : Bool} {d : Option Nat} {op : AOp} : gdK P e (.tup []) want d op K s = K ⟨putO s.t d (.tup []), s.H⟩ := rfl
theorem gdB_true {e : Bool} {d : Option Nat} {op : AOp} : gdB P e true d op K s = stepK P e op s (PutK K s.t d) := rfl
theorem gdB_false {e : Bool} {d : Option Nat} {op : AOp} : gdB P e false d op K s = K ⟨putO s.t d (.tup []), s.H⟩ := rfl
theorem PutK_app {d : Option Nat} {x : AV} : PutK K t d x H = K ⟨putO t d x, H⟩ := rfl
theorem putO_some {d : Nat} {x : AV} : putO t (some d) x = (d, x) :: t := rfl
theorem putO_none {x : AV} : putO t none x = t := rfl
theorem appP_some {n : Nat} {t : TypeId} {y : Option AV} {xs : Option (List PV)} {H' : List AO} {x : AV} : appP (some (x, H)) n t y xs H' L = L x H := rfl
theorem appP_none {t : TypeId} {y : Option AV} {xs : Option (List PV)} {H' : List AO} : appP none 1 t y xs H' L = appQP t y xs H' L := by simp [appP]
theorem stepP_some {x : AV} : stepP (some (x, H)) L = L x H := rfl
theorem callP_some {e : Bool} {f : FuncId} {vs : List AV} : callP P e f (some vs) H L = HC P e f vs H L := rfl
theorem callvP_some {e : Bool} {f : FuncId} {first cap vs : List AV} : callvP P e (some (.fn (.func f) first cap)) (some vs) H L = (callable P f = true ∧ HC P e f (first ++ vs ++ cap) H L) := rfl
theorem callvP_yl {o : Nat} {vs : List AV} : callvP P false (some (.yl o)) (some vs) H L = (solid H (.yl o) = true ∧ HY P o vs H L) := by
  simp [callvP]
theorem condP_true {a b : AC} : condP P m0 (some (.p (.v (.bool true)))) a b Q s = W P m0 a Q s := rfl
theorem condP_false {a b : AC} : condP P m0 (some (.p (.v (.bool false)))) a b Q s = W P m0 b Q s := rfl
theorem stepK_call {e : Bool} {f : FuncId} {args : List Operand} : stepK P e (.call f args) s L = callP P e f (aevs s.t args) s.H L := rfl
theorem methP_some {e : Bool} {f : FuncId} {vs : List AV} : methP P e (some f) vs H L = (callable P f = true ∧ HC P e f vs H L) := rfl
theorem callMP_some {e : Bool} {name : String} {t : TypeId} {x : AV} {vs : List AV} : callMP P e name (some (.ifc t x :: vs)) H L = methP P e (methO P t name) (x :: vs) H L := rfl
theorem stepK_callM {e : Bool} {name : String} {args : List Operand} : stepK P e (.callM name args) s L = callMP P e name (aevs s.t args) s.H L := rfl
theorem stepK_mkI {e : Bool} {t : TypeId} {x : Operand} : stepK P e (.mkI t x) s L = stepP (astep (.mkI t x) s) L := rfl
theorem stepK_tas {e : Bool} {t : TypeId} {z : PV} {x : Operand} : stepK P e (.tas t z x) s L = stepP (astep (.tas t z x) s) L := rfl
theorem stepK_bslR {e : Bool} {t : TypeId} {sz : Nat} {x : List Operand} : stepK P e (.bslR t sz x) s L = stepP (astep (.bslR t sz x) s) L := rfl
theorem stepK_appR {e : Bool} {t : TypeId} {sz : Nat} {x y : Operand} : stepK P e (.appR t sz x y) s L = stepP (astep (.appR t sz x y) s) L := rfl
theorem stepK_cpyR {e : Bool} {sz : Nat} {x y : Operand} : stepK P e (.cpyR sz x y) s L = stepP (astep (.cpyR sz x y) s) L := rfl
theorem stepK_mkR {e : Bool} {t : TypeId} {sz : Nat} {z : PV} {x y : Operand} : stepK P e (.mkR t sz z x y) s L = stepP (astep (.mkR t sz z x y) s) L := rfl
theorem stepK_callv {e : Bool} {x : Operand} {args : List Operand} : stepK P e (.callv x args) s L = callvP P e (aev s.t x) (aevs s.t args) s.H L := rfl
theorem stepK_eqn {e neg : Bool} {x : Operand} : stepK P e (.eqn neg x) s L = eqnP neg (aev s.t x) s.H L := rfl
theorem stepK_mov {e : Bool} {x : Operand} : stepK P e (.mov x) s L = stepP (astep (.mov x) s) L := rfl
theorem stepK_pick {e : Bool} {c x y : Operand} : stepK P e (.pick c x y) s L = stepP (astep (.pick c x y) s) L := rfl
theorem stepK_box {e : Bool} {t : TypeId} {x : Operand} : stepK P e (.box t x) s L = stepP (astep (.box t x) s) L := rfl
theorem stepK_zro {e : Bool} {t : TypeId} {x : PV} : stepK P e (.zro t x) s L = stepP (astep (.zro t x) s) L := rfl
theorem stepK_load {e ag : Bool} {n : Nat} {x : Operand} : stepK P e (.load ag n x) s L = stepP (astep (.load ag n x) s) L := rfl
theorem stepK_store {e : Bool} {n : Nat} {x y : Operand} : stepK P e (.store n x y) s L = stepP (astep (.store n x y) s) L := rfl
theorem stepK_bin {e bo : Bool} {op : BinOp} {x y : Operand} : stepK P e (.bin bo op x y) s L = stepP (astep (.bin bo op x y) s) L := rfl
theorem stepK_un {e : Bool} {op : UnOp} {x : Operand} : stepK P e (.un op x) s L = stepP (astep (.un op x) s) L := rfl
theorem stepK_ext {e : Bool} {i : Nat} {x : Operand} : stepK P e (.ext x i) s L = stepP (astep (.ext x i) s) L := rfl
theorem stepK_fadr {e : Bool} {i : Nat} {x : Operand} : stepK P e (.fadr i x) s L = stepP (astep (.fadr i x) s) L := rfl
theorem stepK_iadr {e : Bool} {n : Nat} {x i : Operand} : stepK P e (.iadr n x i) s L = stepP (astep (.iadr n x i) s) L := rfl
theorem stepK_iadrA {e : Bool} {n m : Nat} {x i : Operand} : stepK P e (.iadrA n m x i) s L = stepP (astep (.iadrA n m x i) s) L := rfl
theorem stepK_len {e : Bool} {x : Operand} : stepK P e (.len x) s L = stepP (astep (.len x) s) L := rfl
theorem stepK_app {e : Bool} {t : TypeId} {n : Nat} {x y : Operand} : stepK P e (.app t n x y) s L = appP (astep (.app t n x y) s) n t (aev s.t x) ((aev s.t y).bind (elems s.H)) s.H L := rfl
theorem stepK_mk {e : Bool} {t : TypeId} {n : Nat} {z : PV} {x y : Operand} : stepK P e (.mk t n z x y) s L = stepP (astep (.mk t n z x y) s) L := rfl
theorem stepK_bsl {e : Bool} {t : TypeId} {n : Nat} {l : List Operand} : stepK P e (.bsl t n l) s L = stepP (astep (.bsl t n l) s) L := rfl
theorem stepK_bld {e : Bool} {z : List PV} {pl : List (Nat × Nat)} {l : List (Nat × Operand)} : stepK P e (.bld z pl l) s L = stepP (astep (.bld z pl l) s) L := rfl
theorem stepK_fn {e : Bool} {f : Fn} {a b : List Operand} : stepK P e (.fn f a b) s L = stepP (astep (.fn f a b) s) L := rfl
theorem stepK_mm {e b : Bool} {x y : Operand} : stepK P e (.mm b x y) s L = stepP (astep (.mm b x y) s) L := rfl
theorem stepK_cvt {e : Bool} {k : IntKind} {x : Operand} : stepK P e (.cvt k x) s L = stepP (astep (.cvt k x) s) L := rfl
theorem stepK_nilc {e : Bool} {x : Operand} : stepK P e (.nilc x) s L = stepP (astep (.nilc x) s) L := rfl
theorem stepK_bslT {e : Bool} {t : TypeId} {l : List Operand} : stepK P e (.bslT t l) s L = stepP (astep (.bslT t l) s) L := rfl
theorem stepK_appT {e : Bool} {t : TypeId} {x y : Operand} : stepK P e (.appT t x y) s L = stepP (astep (.appT t x y) s) L := rfl
theorem stepK_slA {e : Bool} {n : Nat} {x : Operand} : stepK P e (.slA n x) s L = stepP (astep (.slA n x) s) L := rfl
theorem stepK_slS {e : Bool} {n : Nat} {x : Operand} {lo hi : Option Operand} : stepK P e (.slS n x lo hi) s L = stepP (astep (.slS n x lo hi) s) L := rfl
theorem stepK_mkm {e : Bool} {kd : KD} : stepK P e (.mkm kd) s L = stepP (astep (.mkm kd) s) L := rfl
theorem stepK_lookup {e ok : Bool} {kd : KD} {z : PV} {m k : Operand} : stepK P e (.look kd z ok m k) s L = stepP (astep (.look kd z ok m k) s) L := rfl
theorem stepK_mset {e : Bool} {kd : KD} {m k x : Operand} : stepK P e (.mset kd m k x) s L = stepP (astep (.mset kd m k x) s) L := rfl
theorem get_cons {j i : Nat} {x : AV} : get ((j, x) :: t) i = if j = i then x else get t i := rfl
theorem aev_tmp {i : Nat} : aev t (.tmp i) = some (get t i) := rfl
theorem aev_int {k : IntKind} {n : Int} : aev t (.const (.int k n)) = some (.p (.v (.int k n))) := rfl
theorem aev_bool {b : Bool} : aev t (.const (.bool b)) = some (.p (.v (.bool b))) := rfl
theorem aev_nil : aev t (.const (.slice none 0 0)) = some (.p (.v (.slice none 0 0))) := rfl
theorem aev_func {f : FuncId} : aev t (.func f) = some (.fn (.func f) [] []) := rfl
end
def RoundQ (m0 N k : Nat) (I : Nat → St → Prop) (Q : AExit → St → Prop) (e : AExit) (s : St) : Prop := match e with
  | .normal => k + 1 ≤ N ∧ ∃ s2, Wk m0 s s2 ∧ I (k + 1) s2
  | e => Q e s
section
variable {N k : Nat} {I : Nat → St → Prop} {Q : AExit → St → Prop} {s s2 : St}
theorem RoundQ_exit {i : Nat} : RoundQ m0 N k I Q (.exit i) s = Q (.exit i) s := rfl
theorem RoundQ_ret : RoundQ m0 N k I Q .ret s = Q .ret s := rfl
theorem round_keep (keep : List Nat) (hk : k + 1 ≤ N) (hI : I (k + 1) ⟨keep.map fun i => (i, get s.t i), s.H⟩) : RoundQ m0 N k I Q .normal s := ⟨hk, _, Wk_keep keep, hI⟩
theorem round_end (σ keep : List Nat) (hk : k + 1 ≤ N) (h : okσ σ m0 s.H = true) (hI : I (k + 1) (norm σ keep s)) : RoundQ m0 N k I Q .normal s := ⟨hk, _, Wk_norm σ keep h, hI⟩
theorem round_end' (hk : k + 1 ≤ N) (hw : Wk m0 s s2) (hI : I (k + 1) s2) : RoundQ m0 N k I Q .normal s := ⟨hk, _, hw, hI⟩
end
theorem loopW {c : AC} {Q : AExit → St → Prop} {s s' : St} (N : Nat) (I : Nat → St → Prop) (hw : Wk m0 s s') (h0 : I 0 s') (h : ∀ k s, k ≤ N → I k s → W P m0 c (RoundQ m0 N k I Q) s) : LoopAt P m0 c Q s :=
  loopI N I ⟨s', hw, h0⟩ (fun k s hk hI => W_mono c (fun e s1 h1 => by cases e <;> exact h1) s (h k s hk hI)) (fun hQ s h => W_mono c hQ s h)
theorem wk_norm {s s' : St} (σ keep : List Nat) (h : okσ σ m0 s.H = true) (e : norm σ keep s = s') : Wk m0 s s' := e ▸ Wk_norm σ keep h
theorem fin0 {rs : List ARes} {s : St} {x r : AV} {e : AExit} (he : match e with | .exit _ => False | _ => True) (h : resOf s rs = some x) (hr : x.ren s.H (idx [] 0) = r) : Fin 0 rs (fun r' H' => r' = r ∧ H' = []) e s :=
  ⟨he, .inl ⟨s, x, [], Wk.refl _ _, h, rfl, hr, rfl⟩⟩
theorem finσ {rs : List ARes} {s : St} {x r : AV} {HR : List AO} {e : AExit} (σ : List Nat) (he : match e with | .exit _ => False | _ => True) (h : resOf s rs = some x) (hσ : okσ σ m0 s.H = true) (hr : x.ren s.H (idx σ 0) = r) (hH : renH σ s.H = HR) :
    Fin m0 rs (fun r' H' => r' = r ∧ H' = HR) e s := ⟨he, .inl ⟨s, x, σ, Wk.refl _ _, h, hσ, hr, hH⟩⟩
theorem finH {rs : List ARes} {R : AV → List AO → Prop} {s : St} {x : AV} {e : AExit} (he : match e with | .exit _ => False | _ => True) (h : resOf s rs = some x) (hR : R x s.H) : Fin m0 rs R e s := ⟨he, .inr ⟨s, x, Wk.refl _ _, h, hR⟩⟩
theorem finW {rs : List ARes} {R : AV → List AO → Prop} {s s2 : St} {e : AExit} (hw : Wk m0 s s2) (h : Fin m0 rs R e s2) : Fin m0 rs R e s := by
  refine ⟨h.1, ?_⟩
  rcases h.2 with ⟨s3, r, σ, h1, h2⟩ | ⟨s3, r, h1, h2⟩
  · exact .inl ⟨s3, r, σ, hw.trans h1, h2⟩
  · exact .inr ⟨s3, r, hw.trans h1, h2⟩
theorem fin1 {rs : List ARes} {s : St} {x r : AV} {HR : List AO} {e : AExit} (σ : List Nat) (he : match e with | .exit _ => False | _ => True) (h : resOf s rs = some x) (hσ : okσ σ 0 s.H = true) (hr : x.ren s.H (idx σ 0) = r ∧ renH σ s.H = HR) : Fin 0 rs (fun r' H' => r' = r ∧ H' = HR) e s := finσ σ he h hσ hr.1 hr.2
end
end Abs
end Go
/-
  AN ABSTRACT MACHINE, part 17: what the walk rewrites with.
-/
namespace Go
namespace Abs
attribute [simp] RoundQ_exit RoundQ_ret W_skip W_ops W_segs Wtree_done Wtree_look Wtree_act Wtree_fork W_seq W_cond W_block W_loop W_exit W_ret W_rangeF rangeP_some callvP_yl SeqQ_normal SeqQ_exit SeqQ_ret BlockQ_normal BlockQ_exit BlockQ_ret Wops_nil Wops_cons Wsegs_nil Wsegs_cons ActK_none ActK_some Wop_none Wop_some gdK_bool gdK_tup gdB_true gdB_false PutK_app putO_some putO_none stepP_some appP_some appP_none callP_some callvP_some condP_true condP_false stepK_call stepK_callv methP_some callMP_some stepK_callM stepK_mkI stepK_tas stepK_bslR stepK_appR stepK_cpyR stepK_mkR elemsR stepK_mov stepK_pick stepK_box stepK_zro stepK_load stepK_store stepK_bin stepK_un stepK_ext stepK_fadr stepK_iadr stepK_iadrA stepK_len stepK_app stepK_mk stepK_bsl stepK_bld stepK_fn stepK_mm stepK_cvt stepK_nilc stepK_bslT stepK_appT stepK_slA stepK_slS stepK_mkm stepK_lookup stepK_mset sAll sOf sFit bytesL lenA ownEls elemsT allOne frzO keyA ints bools isB dIdx sbound elOk KV.fit ren0 get_cons aev_tmp aev_int aev_bool aev_nil aev_func aevs astep initT boxable solid partA partP putP putA mkAgg allP PV.flat AV.flat PV.one Abs.isAgg asNat elems litBin litUn isNil AO.len AO.sz lay hpast calmA calmL calmP calmO AV.ren renL AO.ren viewL views view viewC frzL frzC Abs.put resT
end Abs
end Go
end
