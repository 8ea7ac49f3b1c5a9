/-
  Texts joined: Mad.
-/
import Derived.Test.YtekniokkmgencaaGreatKh7
import Derived.RangeFuncNested
import Derived.Deep.LoopGhost
import Derived.OwnWalk
import Derived.Scope
section
namespace Go
namespace Abs
open Go.RowKit
structure AOper where
  dst : Option Nat
  op : AOp
  guard : Option (Nat × Bool)
  deriving Inhabited
inductive AT where
  | done
  | look (l : List AOper) (t : AT)
  | act (x : Bool) (o : AOper) (t : AT)
  | fork (x : Bool) (o : AOper) (t u : AT)
  deriving Inhabited
structure ADN where
  look : List AOper
  acts : List (Bool × AOper × Nat)
  deriving Inhabited
inductive AC where
  | skip
  | ops (l : List AOper)
  | segs (l : List (List AOper × Option (Bool × AOper)))
  | tree (t : AT)
  | dag (tab : List ADN)
  | seq (a b : AC)
  | cond (c : Operand) (a b : AC)
  | block (id : Nat) (a : AC)
  | loop (a : AC)
  | exit (id : Nat)
  | ret
  | rangeF (n : Nat) (g : Operand) (ps : List Nat) (a c : Code)
inductive AExit where
  | normal
  | exit (id : Nat)
  | ret
def putO (t : List (Nat × AV)) (d : Option Nat) (x : AV) : List (Nat × AV) := match d with
  | some d => put t d x
  | none => t
def gd (t : List (Nat × AV)) : Option (Nat × Bool) → Option Bool
  | none => some true
  | some (d, want) => match get t d with
    | .p (.v (.bool b)) => some (b == want)
    | .tup [] => some false
    | _ => none
def HC (P : Program) (e : Bool) (f : FuncId) (args : List AV) (H : List AO) (R : AV → List AO → Prop) : Prop :=
  ∀ (M : Mem) (vs : List Value), MemOk M → M.H = H → RAs M args vs → Calls P f vs.toArray M.w fun en w' => ∃ v r H' φ', en = .returned v ∧ R r H' ∧ MemOk ⟨w', H', φ', M.base, M.S⟩ ∧ Le M ⟨w', H', φ', M.base, M.S⟩ ∧
    RA ⟨w', H', φ', M.base, M.S⟩ r v ∧ Below M.base M.w w' ∧ (e = true → Early.Ext M.w w')
theorem HC.mono {P : Program} {e : Bool} {f : FuncId} {args : List AV} {H : List AO} {R R' : AV → List AO → Prop} (h : HC P e f args H R) (hR : ∀ r H', R r H' → R' r H') : HC P e f args H R' := fun M vs hM hH ha =>
  (h M vs hM hH ha).mono fun _ _ ⟨v, r, H', φ', h1, h2, h3⟩ => ⟨v, r, H', φ', h1, hR r H' h2, h3⟩
def HY (P : Program) (o : Nat) (args : List AV) (H : List AO) (R : AV → List AO → Prop) : Prop :=
  ∀ (M : Mem) (vs : List Value), MemOk M → M.H = H → RAs M args vs → ∀ b, M.φ o = some b → YieldAt Fence.wide 0 P b vs.toArray M.w fun en w' => ∃ v r H' φ', en = .returned v ∧ R r H' ∧ MemOk ⟨w', H', φ', M.base, M.S⟩ ∧ Le M ⟨w', H', φ', M.base, M.S⟩ ∧
    RA ⟨w', H', φ', M.base, M.S⟩ r v ∧ Below M.base M.w w'
theorem HY.mono {P : Program} {o : Nat} {args : List AV} {H : List AO} {R R' : AV → List AO → Prop} (h : HY P o args H R) (hR : ∀ r H', R r H' → R' r H') : HY P o args H R' := fun M vs hM hH ha b hb => by
  obtain ⟨fn, tm, x, y, h1, h2⟩ := h M vs hM hH ha b hb
  exact ⟨fn, tm, x, y, h1, h2.mono fun _ _ ⟨v, r, H', φ', k1, k2, k3⟩ => ⟨v, r, H', φ', k1, hR r H' k2, k3⟩⟩
section
variable {P : Program}
theorem run_call {fn : Func} {f : FuncId} {w : World} {args : Array Value} (hf : P.funcs[f]? = some fn) (h1 : (fn.name == "runtime.NumGoroutine") = false) (h2 : fn.body.isNone = false) : (callFunc f args).run P w = .ok (.enter f args) w := by
  unfold callFunc
  rw [Sem.run_bind, run_program, Result.andThen_ok, hf]
  dsimp only
  rw [h1, h2]
  rfl
def callable (P : Program) (f : FuncId) : Bool := match P.funcs[f]? with
  | some fn => !(fn.name == "runtime.NumGoroutine") && !fn.body.isNone
  | none => false
theorem run_callable {f : FuncId} {w : World} {args : Array Value} (h : callable P f = true) : (callFunc f args).run P w = .ok (.enter f args) w := by
  unfold callable at h
  split at h
  · rename_i fn hf
    simp only [Bool.and_eq_true, Bool.not_eq_true'] at h
    exact run_call hf h.1 h.2
  · cases h
end
section
variable (P : Program)
def stepK (e : Bool) (op : AOp) (s : St) (K : AV → List AO → Prop) : Prop :=
  match op with
  | .call f args => match aevs s.t args with
    | some vs => HC P e f vs s.H K
    | none => False
  | .callv x args => match aev s.t x, aevs s.t args with
    | some (.fn (.func f) first cap), some vs => callable P f = true ∧ HC P e f (first ++ vs ++ cap) s.H K
    | some (.yl o), some vs => e = false ∧ solid s.H (.yl o) = true ∧ HY P o vs s.H K
    | _, _ => False
  | .callM name args => match aevs s.t args with
    | some (.ifc t x :: vs) => match methO P t name with
      | some f => callable P f = true ∧ HC P e f (x :: vs) s.H K
      | none => False
    | _ => False
  | .eqn neg x => match aev s.t x with
    | some y => match isNil y, elems s.H y with
      | true, _ => K (.p (.v (.bool (!neg)))) s.H
      | false, some l => (l = [] → K (.p (.v (.bool (!neg)))) s.H) ∧ K (.p (.v (.bool neg))) s.H
      | _, _ => False
    | none => False
  | .appQ e x y => match aev s.t x, (aev s.t y).bind (elems s.H) with
    | some (.os o off len), some xs => match s.H[o]? with
      | some (.row els sz t false) => (off + len = els.length ∧ sz = 1 ∧ t = e ∧ 0 < xs.length ∧ els.all (·.one) = true ∧ xs.all (·.one) = true ∧ els.length + xs.length ≤ 1048576) ∧
        K (.os o off (len + xs.length)) (s.H.set o (.row (els ++ xs) 1 e false)) ∧ K (.os s.H.length 0 (len + xs.length)) (s.H ++ [.row (els.drop off ++ xs) 1 e false])
      | _ => False
    | some (.bc o len cap), some xs => match bcL s.H o cap with
      | some l => (0 < xs.length ∧ xs.all (·.one) = true ∧ len + xs.length ≤ 1048576) ∧
        (len + xs.length ≤ cap → K (.bc o (len + xs.length) cap) (s.H.set o (.box (.agg (l.take len ++ xs.map .p ++ l.drop (len + xs.length)))))) ∧
        (cap < len + xs.length → ∀ c, len + xs.length ≤ c → K (.bc s.H.length (len + xs.length) c) (s.H ++ [.box (.agg (l.take len ++ xs.map .p ++ List.replicate (c - (len + xs.length)) .dead))]))
      | _ => False
    | _, _ => False
  | .app e sz x y => match astep (.app e sz x y) s with
    | some (x, H) => K x H
    | none => sz = 1 ∧ match aev s.t x, (aev s.t y).bind (elems s.H) with
      | some (.os o off len), some xs => match s.H[o]? with
        | some (.row els sz t false) => (off + len = els.length ∧ sz = 1 ∧ t = e ∧ 0 < xs.length ∧ els.all (·.one) = true ∧ xs.all (·.one) = true ∧ els.length + xs.length ≤ 1048576) ∧
          K (.os o off (len + xs.length)) (s.H.set o (.row (els ++ xs) 1 e false)) ∧ K (.os s.H.length 0 (len + xs.length)) (s.H ++ [.row (els.drop off ++ xs) 1 e false])
        | _ => False
      | some (.bc o len cap), some xs => match bcL s.H o cap with
        | some l => (0 < xs.length ∧ xs.all (·.one) = true ∧ len + xs.length ≤ 1048576) ∧
          (len + xs.length ≤ cap → K (.bc o (len + xs.length) cap) (s.H.set o (.box (.agg (l.take len ++ xs.map .p ++ l.drop (len + xs.length)))))) ∧
          (cap < len + xs.length → ∀ c, len + xs.length ≤ c → K (.bc s.H.length (len + xs.length) c) (s.H ++ [.box (.agg (l.take len ++ xs.map .p ++ List.replicate (c - (len + xs.length)) .dead))]))
        | _ => False
      | _, _ => False
  | op => match astep op s with
    | some (x, H) => K x H
    | none => False
def Wop (e : Bool) (o : AOper) (K : St → Prop) (s : St) : Prop :=
  match gd s.t o.guard with
  | some true => stepK P e o.op s fun x H => K ⟨putO s.t o.dst x, H⟩
  | some false => K ⟨putO s.t o.dst (.tup []), s.H⟩
  | none => False
def Wops : List AOper → (St → Prop) → St → Prop
  | [], K, s => K s
  | o :: l, K, s => Wop P false o (Wops l K) s
def Wact (o : Option (Bool × AOper)) (K : St → Prop) (s : St) : Prop := match o with
  | some (x, o) => Wop P x o K s
  | none => K s
def Wsegs : List (List AOper × Option (Bool × AOper)) → (St → Prop) → St → Prop
  | [], K, s => K s
  | (l, o) :: rest, K, s => Wops P l (Wact P o (Wsegs rest K)) s
def Wtree : AT → (St → Prop) → St → Prop
  | .done, K, s => K s
  | .look l t, K, s => Wops P l (Wtree t K) s
  | .act x o t, K, s => Wop P x o (Wtree t K) s
  | .fork x o t u, K, s => Wop P x o (Wtree t K) s ∧ Wtree u K s
end
def markD (D : Nat) : Deferred := { target := .collected D, args := #[] }
def DOk (M0 M : Mem) (ds : List Deferred) : Prop := ∃ Ds : List Nat, ds = Ds.map markD ∧ Ds.Nodup ∧ ∀ D ∈ Ds, (M0.w.heap.size ≤ D ∧ M0.base ≤ D) ∧ M.shared D ∧ M.w.heap[D]? = some (.deferred (some []))
theorem DOk.nil {M0 M : Mem} : DOk M0 M [] := ⟨[], rfl, List.nodup_nil, fun D h => by cases h⟩
theorem DOk.mono {M0 M M' : Mem} {ds : List Deferred} (h : DOk M0 M ds) (hs : ∀ b, M.shared b → M'.shared b ∧ M'.w.heap[b]? = M.w.heap[b]?) : DOk M0 M' ds := by
  obtain ⟨Ds, h1, h2, h3⟩ := h
  refine ⟨Ds, h1, h2, fun D hD => ?_⟩
  obtain ⟨k1, k2, k3⟩ := h3 D hD
  exact ⟨k1, (hs D k2).1, (hs D k2).2.trans k3⟩
structure Sim (N : Nat) (M0 : Mem) (s : St) (φ : Nat → Option Nat) (a : Act) (w : World) : Prop where
  d : DOk M0 ⟨w, s.H, φ, M0.base, M0.S⟩ a.defers
  n : a.tmps.size = N
  m : MemOk ⟨w, s.H, φ, M0.base, M0.S⟩
  r : Env ⟨w, s.H, φ, M0.base, M0.S⟩ s.t a
  b : Below M0.base M0.w w
  le : Le M0 ⟨w, s.H, φ, M0.base, M0.S⟩
section
variable {P : Program} {N : Nat} {M0 : Mem} {s : St} {φ : Nat → Option Nat} {a : Act} {w : World}
theorem Sim.put (h : Sim N M0 s φ a w) {w' : World} {H' : List AO} {φ' : Nat → Option Nat} {x : AV} {v : Value} {d : Option Nat} (hd : ∀ i, d = some i → i < N) (hm : MemOk ⟨w', H', φ', M0.base, M0.S⟩)
    (hle : Le ⟨w, s.H, φ, M0.base, M0.S⟩ ⟨w', H', φ', M0.base, M0.S⟩) (hx : RA ⟨w', H', φ', M0.base, M0.S⟩ x v) (hb : Below M0.base w w') : Sim N M0 ⟨putO s.t d x, H'⟩ φ' (a.put d v) w' := by
  refine ⟨?_, ?_, hm, fun i => ?_, h.b.trans hb, h.le.trans hle⟩
  · cases d <;> exact h.d.mono hle.sh
  · cases d
    · exact h.n
    · simp only [Act.put, Array.size_setIfInBounds]; exact h.n
  · cases d with
    | none => exact (h.r i).mono hle
    | some d =>
      have hlt := hd d rfl
      have hn := h.n
      simp only [putO, get_put, Act.put]
      by_cases e : d = i
      · subst e
        rw [if_pos rfl, Array.getD_eq_getD_getElem?, Array.getElem?_setIfInBounds_self_of_lt (by omega)]
        exact hx
      · rw [if_neg e, Array.getD_eq_getD_getElem?, Array.getElem?_setIfInBounds_ne (by omega), ← Array.getD_eq_getD_getElem?]
        exact (h.r i).mono hle
theorem Sim.drew (h : Sim N M0 s φ a w) : Sim N M0 s φ a w.drew where
  d := h.d.mono (M' := ⟨w.drew, s.H, φ, M0.base, M0.S⟩) fun _ hb => ⟨hb, rfl⟩
  n := h.n
  m := MemOk.heap (M := ⟨w, s.H, φ, M0.base, M0.S⟩) h.m rfl
  r := fun i => (h.r i).mono (M := ⟨w, s.H, φ, M0.base, M0.S⟩) (M' := ⟨w.drew, s.H, φ, M0.base, M0.S⟩) (Le.heap (M := ⟨w, s.H, φ, M0.base, M0.S⟩) rfl)
  b := h.b.trans ((Below.refl _ _).drew)
  le := h.le.trans (Le.heap (M := ⟨w, s.H, φ, M0.base, M0.S⟩) rfl)
def dstOk (N : Nat) : Option Nat → Bool
  | some d => decide (d < N)
  | none => true
def coper (P : Program) (ops : Array Oper) (N : Nat) (o : Oper) : Option AOper :=
  if dstOk N o.dst then
    match o.guard with
    | none => some ⟨o.dst, (cop P o).getD .bad, none⟩
    | some (j, want) => match (ops[j]?).bind (·.dst) with
      | some d => some ⟨o.dst, (cop P o).getD .bad, some (d, want)⟩
      | none => none
  else none
theorem coper_ok {ops : Array Oper} {o : Oper} {ao : AOper} (h : coper P ops N o = some ao) : ao.op = (cop P o).getD .bad ∧ ao.dst = o.dst ∧ (∀ i, o.dst = some i → i < N) ∧
    ∀ {M : Mem} {t : List (Nat × AV)} {a : Act} {b : Bool}, Env M t a → gd t ao.guard = some b → Region.wanted o (yielded ops a.tmps) = b := by
  unfold coper at h
  · split at h
    · rename_i hd
      have hd' : ∀ i, o.dst = some i → i < N := fun i hi => by rw [hi] at hd; simpa [dstOk] using hd
      split at h
      · rename_i hg
        injection h with h
        subst h
        exact ⟨rfl, rfl, hd', fun hE hgd => by simp only [gd, Option.some.injEq] at hgd; subst hgd; simp [Region.wanted, hg]⟩
      · rename_i j want hg
        split at h
        · rename_i d hj
          injection h with h
          subst h
          refine ⟨rfl, rfl, hd', fun {M t a b} hE hgd => ?_⟩
          simp only [gd] at hgd
          have hr := hE d
          unfold Region.wanted yielded
          rw [hg]
          dsimp only
          rw [hj]
          simp only [Option.bind_some]
          split at hgd
          · rename_i b' hget
            injection hgd with hgd
            rw [hget] at hr
            have hv := hr.lit.1
            have hlt : d < a.tmps.size := by
              rcases Nat.lt_or_ge d a.tmps.size with h | h
              · exact h
              · rw [Array.getD_eq_getD_getElem?, Array.getElem?_eq_none h] at hv
                cases hv
            rw [Array.getD_eq_getD_getElem?, Array.getElem?_eq_getElem hlt] at hv
            rw [Array.getElem?_eq_getElem hlt]
            simp only [Option.getD_some] at hv
            rw [hv]
            rw [← hgd]
            cases b' <;> cases want <;> rfl
          · rename_i hget
            injection hgd with hgd
            subst hgd
            rw [hget] at hr
            have hv : a.tmps.getD d undef = .tuple #[] := by
              generalize a.tmps.getD d undef = v at hr
              cases hr with
              | tup l cs hl hr =>
                have : cs = #[] := Array.eq_empty_of_size_eq_zero (by simpa using hl)
                rw [this]
            rw [Array.getD_eq_getD_getElem?] at hv
            cases hq : a.tmps[d]? with
            | none => rfl
            | some u =>
              rw [hq] at hv
              simp only [Option.getD_some] at hv
              rw [hv]
              rfl
          · cases hgd
        · cases h
    · cases h
theorem cop_call {o : Oper} {f : FuncId} {args : List Operand} (h : cop P o = some (.call f args)) : ∃ c : Call, o.op = .call c ∧ c.callee = .value (.func f) ∧ c.args.toList = args ∧ ∃ fn, P.funcs[f]? = some fn ∧ (fn.name == "runtime.NumGoroutine") = false ∧ fn.body.isNone = false := by
  cases hop : o.op with
  | call c =>
    obtain ⟨callee, cargs, ats⟩ := c
    simp only [cop, hop] at h
    split at h
    · (repeat' split at h) <;> first | (cases h; done) | (simp at h; done)
    · (repeat' split at h) <;> first | (cases h; done) | (simp at h; done)
    · (repeat' split at h) <;> first | (cases h; done) | (simp at h; done)
    · (repeat' split at h) <;> first | (cases h; done) | (simp at h; done)
    · (repeat' split at h) <;> first | (cases h; done) | (simp at h; done)
    · split at h
      · rename_i fn hfn
        split at h
        · cases h
        · rename_i hc
          simp only [Option.some.injEq, AOp.call.injEq] at h
          obtain ⟨rfl, rfl⟩ := h
          simp only [Bool.or_eq_true, not_or, Bool.not_eq_true] at hc
          exact ⟨_, rfl, rfl, rfl, fn, hfn, hc.1, hc.2⟩
      · cases h
    · cases h
    · cases h
    · first | (cases h; done) | (simp at h; done)
  | _ =>
    exfalso
    simp only [cop, hop] at h
    first
    | (cases h; done)
    | (simp at h; done)
    | ((repeat' split at h) <;> first | (cases h; done) | (simp at h; done) | (simp_all; done))
theorem cop_callM {o : Oper} {name : String} {args : List Operand} (h : cop P o = some (.callM name args)) : ∃ (c : Call) (recv : Operand), o.op = .call c ∧ c.callee = .invoke recv name ∧ recv :: c.args.toList = args := by
  cases hop : o.op with
  | call c =>
    obtain ⟨callee, cargs, ats⟩ := c
    simp only [cop, hop] at h
    split at h
    · (repeat' split at h) <;> first | (cases h; done) | (simp at h; done)
    · (repeat' split at h) <;> first | (cases h; done) | (simp at h; done)
    · (repeat' split at h) <;> first | (cases h; done) | (simp at h; done)
    · (repeat' split at h) <;> first | (cases h; done) | (simp at h; done)
    · (repeat' split at h) <;> first | (cases h; done) | (simp at h; done)
    · (repeat' split at h) <;> first | (cases h; done) | (simp at h; done)
    · simp at h
    · simp only [Option.some.injEq, AOp.callM.injEq] at h
      obtain ⟨rfl, rfl⟩ := h
      exact ⟨_, _, rfl, rfl, rfl⟩
    · cases h
  | _ =>
    exfalso
    simp only [cop, hop] at h
    first
    | (cases h; done)
    | (simp at h; done)
    | ((repeat' split at h) <;> first | (cases h; done) | (simp at h; done) | (simp_all; done))
theorem run_method {t : TypeId} {name : String} {f : FuncId} (h : methO P t name = some f) (n : Nat) (v : Value) (w : World) : (method (n + 1) t v name).run P w = .ok (f, v) w := by
  unfold methO at h
  split at h
  · rename_i i hi
    split at h
    · rename_i m hm
      split at h
      · rename_i hp
        split at h
        · rename_i f' hf
          split at h
          · cases h
          · rename_i d hd ht
            injection h with h
            subst h
            have hp2 : m.path.toList = [] := by simpa using hp
            unfold method
            cases d with
            | pointer e => exact absurd rfl (hd e)
            | _ => simp [typeInfo, hi, hm, hp2, follow, hf, receiverAt, run_underlying ht, Place.get]
          · cases h
        · cases h
      · cases h
    · cases h
  · cases h
theorem cop_callv {o : Oper} {x : Operand} {args : List Operand} (h : cop P o = some (.callv x args)) : ∃ c : Call, o.op = .call c ∧ c.callee = .value x ∧ c.args.toList = args := by
  cases hop : o.op with
  | call c =>
    obtain ⟨callee, cargs, ats⟩ := c
    simp only [cop, hop] at h
    split at h
    · (repeat' split at h) <;> first | (cases h; done) | (simp at h; done)
    · (repeat' split at h) <;> first | (cases h; done) | (simp at h; done)
    · (repeat' split at h) <;> first | (cases h; done) | (simp at h; done)
    · (repeat' split at h) <;> first | (cases h; done) | (simp at h; done)
    · (repeat' split at h) <;> first | (cases h; done) | (simp at h; done)
    · (repeat' split at h) <;> first | (cases h; done) | (simp at h; done)
    · simp only [Option.some.injEq, AOp.callv.injEq] at h
      obtain ⟨rfl, rfl⟩ := h
      exact ⟨_, rfl, rfl, rfl⟩
    · cases h
    · first | (cases h; done) | (simp at h; done)
  | _ =>
    exfalso
    simp only [cop, hop] at h
    first
    | (cases h; done)
    | (simp at h; done)
    | ((repeat' split at h) <;> first | (cases h; done) | (simp at h; done) | (simp_all; done))
def Behind1 (M0 : Mem) (s : St) (φ : Nat → Option Nat) (w : World) (e : Bool) (K : AV → List AO → Prop) (v : Value) (w' : World) : Prop :=
  ∃ x H' φ', K x H' ∧ MemOk ⟨w', H', φ', M0.base, M0.S⟩ ∧ Le ⟨w, s.H, φ, M0.base, M0.S⟩ ⟨w', H', φ', M0.base, M0.S⟩ ∧ RA ⟨w', H', φ', M0.base, M0.S⟩ x v ∧ Below M0.base w w' ∧ (e = true → Early.Ext w w')
theorem cop_eqn {o : Oper} {neg : Bool} {x : Operand} (h : cop P o = some (.eqn neg x)) : ∃ t e yt, o.op = .binOp (if neg then .neq else .eql) t x (.const (.slice none 0 0)) yt ∧ P.underlying t = some (.slice e) := by
  cases hop : o.op with
  | binOp op t x' y yt =>
    simp only [cop, hop] at h
    split at h
    · rename_i e ht
      split at h
      · simp only [Option.some.injEq, AOp.eqn.injEq] at h
        obtain ⟨rfl, rfl⟩ := h
        exact ⟨t, e, yt, rfl, ht⟩
      · simp only [Option.some.injEq, AOp.eqn.injEq] at h
        obtain ⟨rfl, rfl⟩ := h
        exact ⟨t, e, yt, rfl, ht⟩
      · cases h
    · cases h
    · cases h
    · cases h
    · (repeat' split at h) <;> first | (cases h; done) | (simp at h; done)
    · (repeat' split at h) <;> first | (cases h; done) | (simp at h; done)
    · cases h
  | call c =>
    exfalso
    simp only [cop, hop] at h
    (repeat' split at h) <;> first | (cases h; done) | (simp at h; done)
  | _ =>
    exfalso
    simp only [cop, hop] at h
    first
    | (cases h; done)
    | (simp at h; done)
    | ((repeat' split at h) <;> first | (cases h; done) | (simp at h; done) | (simp_all; done))
theorem cop_appQ (M : Mem) {o : Oper} {e : TypeId} {x y : Operand} (h : cop P o = some (.appQ e x y)) : ∃ t z i0, o.op = .call { callee := .builtin .append, args := #[x, y], argTypes := #[t, t] } ∧ P.underlying t = some (.slice e) ∧ P.info? e = some i0 ∧ i0.zero = some z ∧
    i0.size = 1 ∧ i0.bytes ≤ 1024 ∧ z.cells.size = 1 ∧ ∀ c ∈ z.cells, c.oneCell' = true := by
  cases hop : o.op with
  | call c =>
    obtain ⟨callee, cargs, ats⟩ := c
    simp only [cop, hop] at h
    split at h
    · (repeat' split at h) <;> first | (cases h; done) | (simp at h; done)
    · split at h
      · rename_i x' y' t t' hargs hats
        split at h
        · rename_i htt
          subst htt
          split at h
          · rename_i e' hsl
            split at h
            · rename_i sz z i hsz hz hi
              split at h
              · rename_i hcond
                obtain ⟨k1, k2, k3, k4⟩ := hcond
                split at h
                · simp at h
                · split at h
                  · rename_i hdeep
                    simp only [Option.some.injEq, AOp.appQ.injEq] at h
                    obtain ⟨rfl, rfl, rfl⟩ := h
                    have h1 : sz = 1 := by simpa using (Bool.and_eq_true_iff.1 hdeep).2
                    have ht : P.underlying t = some (.slice e') := by
                      unfold slO at hsl
                      split at hsl
                      · rename_i e' he; injection hsl with hsl; subst hsl; exact he
                      · cases hsl
                    obtain ⟨i', v, hi', hv, hov⟩ := zeroO_ok hz
                    rw [hi] at hi'
                    injection hi' with hi'
                    subst hi'
                    have hs : i.size = sz := by simp [szO, hi] at hsz; exact hsz
                    have hz1 : ∀ c ∈ v.cells, c.oneCell' = true := fun c hc => by
                      obtain ⟨i, hi, rfl⟩ := Array.mem_iff_getElem.1 hc
                      have hp := pcells (M := M) (ofVal_ok (S := M.shared) (w := M.w) hov)
                      obtain ⟨c, k1, _, k3⟩ := hp.2 i (by rw [← hp.1]; exact hi)
                      rw [Array.getElem?_eq_getElem hi] at k1
                      rw [Option.some.inj k1]; exact k3
                    have hzs := (pcells (M := M) (ofVal_ok (S := M.shared) (w := M.w) hov)).1
                    rw [List.length_map, ← k1] at hzs
                    have e1 : cargs = #[x', y'] := Array.toList_inj.1 hargs
                    have e2 : ats = #[t, t] := Array.toList_inj.1 hats
                    subst e1 e2
                    exact ⟨t, v, i, rfl, ht, hi, hv, hs.trans h1, k2, hzs.trans h1, hz1⟩
                  · split at h <;> simp at h
              · cases h
            · cases h
          · cases h
        · cases h
      · cases h
    · (repeat' split at h) <;> first | (cases h; done) | (simp at h; done)
    · (repeat' split at h) <;> first | (cases h; done) | (simp at h; done)
    · (repeat' split at h) <;> first | (cases h; done) | (simp at h; done)
    · (repeat' split at h) <;> first | (cases h; done) | (simp at h; done)
    · simp at h
    · first | (cases h; done) | (simp at h; done)
    · cases h
  | _ =>
    exfalso
    simp only [cop, hop] at h
    first
    | (cases h; done)
    | (simp at h; done)
    | ((repeat' split at h) <;> first | (cases h; done) | (simp at h; done) | (simp_all; done))
theorem cop_app1 (M : Mem) {o : Oper} {e : TypeId} {x y : Operand} (h : cop P o = some (.app e 1 x y)) : ∃ t z i0, o.op = .call { callee := .builtin .append, args := #[x, y], argTypes := #[t, t] } ∧ P.underlying t = some (.slice e) ∧ P.info? e = some i0 ∧ i0.zero = some z ∧
    i0.size = 1 ∧ i0.bytes ≤ 1024 ∧ z.cells.size = 1 ∧ ∀ c ∈ z.cells, c.oneCell' = true := by
  cases hop : o.op with
  | call c =>
    obtain ⟨callee, cargs, ats⟩ := c
    simp only [cop, hop] at h
    split at h
    · (repeat' split at h) <;> first | (cases h; done) | (simp at h; done)
    · split at h
      · rename_i x' y' t t' hargs hats
        split at h
        · rename_i htt
          subst htt
          split at h
          · rename_i e' hsl
            split at h
            · rename_i sz z i hsz hz hi
              split at h
              · rename_i hcond
                obtain ⟨k1, k2, k3, k4⟩ := hcond
                split at h
                · simp at h
                · split at h
                  · simp at h
                  · split at h
                    · simp at h
                    rename_i hdeep
                    simp only [Option.some.injEq, AOp.app.injEq] at h
                    obtain ⟨rfl, h1, rfl, rfl⟩ := h
                    have ht : P.underlying t = some (.slice e') := by
                      unfold slO at hsl
                      split at hsl
                      · rename_i e' he; injection hsl with hsl; subst hsl; exact he
                      · cases hsl
                    obtain ⟨i', v, hi', hv, hov⟩ := zeroO_ok hz
                    rw [hi] at hi'
                    injection hi' with hi'
                    subst hi'
                    have hs : i.size = sz := by simp [szO, hi] at hsz; exact hsz
                    have hz1 : ∀ c ∈ v.cells, c.oneCell' = true := fun c hc => by
                      obtain ⟨i, hi, rfl⟩ := Array.mem_iff_getElem.1 hc
                      have hp := pcells (M := M) (ofVal_ok (S := M.shared) (w := M.w) hov)
                      obtain ⟨c, k1, _, k3⟩ := hp.2 i (by rw [← hp.1]; exact hi)
                      rw [Array.getElem?_eq_getElem hi] at k1
                      rw [Option.some.inj k1]; exact k3
                    have hzs := (pcells (M := M) (ofVal_ok (S := M.shared) (w := M.w) hov)).1
                    rw [List.length_map, ← k1] at hzs
                    have e1 : cargs = #[x', y'] := Array.toList_inj.1 hargs
                    have e2 : ats = #[t, t] := Array.toList_inj.1 hats
                    subst e1 e2
                    exact ⟨t, v, i, rfl, ht, hi, hv, hs.trans h1, k2, hzs.trans h1, hz1⟩
              · cases h
            · cases h
          · cases h
        · cases h
      · cases h
    · (repeat' split at h) <;> first | (cases h; done) | (simp at h; done)
    · (repeat' split at h) <;> first | (cases h; done) | (simp at h; done)
    · (repeat' split at h) <;> first | (cases h; done) | (simp at h; done)
    · (repeat' split at h) <;> first | (cases h; done) | (simp at h; done)
    · simp at h
    · first | (cases h; done) | (simp at h; done)
    · cases h
  | _ =>
    exfalso
    simp only [cop, hop] at h
    first
    | (cases h; done)
    | (simp at h; done)
    | ((repeat' split at h) <;> first | (cases h; done) | (simp at h; done) | (simp_all; done))
theorem cop_nodefer {o : Oper} {op : AOp} (h : cop P o = some op) : ∀ c, o.op ≠ .defer c := by
  intro c hc
  simp [cop, hc] at h
theorem step_ok (hs : Sim N M0 s φ a w) {o : Oper} {op : AOp} (hc0 : op = (cop P o).getD .bad) {e : Bool} (he : e = true → grows op = true) {K : AV → List AO → Prop} (h : stepK P e op s K) {next : Act → World → Prop} {Q : Exit → Act → World → Prop}
    (hn : ∀ v w', Behind1 M0 s φ w e K v w' → next (a.put o.dst v) w') : Early.opY P o a w next Q := by
  have hc : cop P o = some op := by
    cases hcc : cop P o with
    | some op' => rw [hcc] at hc0; rw [hc0]; rfl
    | none =>
      rw [hcc] at hc0
      simp only [Option.getD_none] at hc0
      subst hc0
      simp [stepK, astep] at h
  clear hc0
  have hfin : ∀ {x : AV} {H' : List AO}, StepOk P ⟨w, s.H, φ, M0.base, M0.S⟩ (grows op) (execOp a.eval o) x H' → K x H' → Early.opY P o a w next Q := by
    intro x H' hx hK
    obtain ⟨v, w', φ', h1, h2, h3, h4, h5, h6⟩ := hx
    have hb : Behind1 M0 s φ w e K v w' := ⟨x, H', φ', hK, h2, h3, h4, h5, fun h => h6 (he h)⟩
    refine ⟨cop_nodefer hc, ?_⟩
    rcases h1 with h1 | ⟨h1, rfl⟩
    · dsimp only at h1
      rw [h1]
      exact hn v w' hb
    · dsimp only at h1
      rw [h1]
      exact hn undef w' hb
  have hmain : ∀ {x : AV} {H' : List AO}, astep op s = some (x, H') → K x H' → Early.opY P o a w next Q := fun hx hK => hfin (astep_ok (M := ⟨w, s.H, φ, M0.base, M0.S⟩) hc hs.m rfl hs.r hx) hK
  have hcall : ∀ {f : FuncId} {vs : List AV} {us : List Value}, HC P e f vs s.H K → RAs ⟨w, s.H, φ, M0.base, M0.S⟩ vs us → (execOp a.eval o).run P w = .ok (.enter f us.toArray) w → Early.opY P o a w next Q := by
    intro f vs us hH hr hrun
    refine ⟨cop_nodefer hc, ?_⟩
    rw [hrun]
    refine ⟨(fun h => by cases h), callsIn_wide.2 ((hH _ us hs.m rfl hr).mono ?_)⟩
    rintro en w' ⟨v, r, H', φ', rfl, h1, h2, h3, h4, h5, h6⟩
    exact hn v w' ⟨r, H', φ', h1, h2, h3, h4, h5, h6⟩
  unfold stepK at h
  split at h
  · rename_i f args
    split at h
    · rename_i vs hvs
      obtain ⟨c, hop, hcal, hargs, fn, hf, h1, h2⟩ := cop_call hc
      refine hcall h (aevs_ok hs.r hvs) ?_
      unfold execOp
      simp only [hop, resolve, hcal, Act.eval, Deferred.ofValue, invoke, Sem.run_bind, Sem.run_pure, Result.andThen_ok]
      have := run_call (P := P) (w := w) (args := (#[] ++ Array.map a.eval c.args ++ #[])) hf h1 h2
      refine Eq.trans ?_ (this.trans ?_)
      · rfl
      · congr 2
        apply Array.toList_inj.1
        simp [← hargs]
    · exact h.elim
  · rename_i x args
    split at h
    · rename_i f first cap vs hx hvs
      obtain ⟨c, hop, hcal, hargs⟩ := cop_callv hc
      have hxv := aev_ok hs.r hx
      obtain ⟨k1, k2⟩ := aevs_ok hs.r hvs
      generalize hv : a.eval x = v at hxv
      cases hxv with
      | fn _ _ _ fs cs hl hl' hr hr' =>
        refine hcall (us := fs.toList ++ args.map a.eval ++ cs.toList) h.2 ⟨by simp at k1 ⊢; omega, fun i hi hi' => ?_⟩ ?_
        · simp only [List.length_append] at hi hi'
          simp only [Array.length_toList] at hi'
          by_cases c1 : i < first.length
          · have e1 : (first ++ vs ++ cap)[i] = first[i] := by rw [List.getElem_append_left (by simp; omega), List.getElem_append_left c1]
            have e2 : (fs.toList ++ args.map a.eval ++ cs.toList)[i] = fs[i] := by rw [List.getElem_append_left (by simp; omega), List.getElem_append_left (by simp; omega), Array.getElem_toList]
            rw [e1, e2]
            exact hr i c1 (by omega)
          · by_cases c2 : i < first.length + vs.length
            · have e1 : (first ++ vs ++ cap)[i] = vs[i - first.length]'(by omega) := by rw [List.getElem_append_left (by simp; omega), List.getElem_append_right (by omega)]
              have e2 : (fs.toList ++ args.map a.eval ++ cs.toList)[i] = (args.map a.eval)[i - first.length]'(by rw [k1]; omega) := by
                rw [List.getElem_append_left (by simp at k1 ⊢; omega), List.getElem_append_right (by simp; omega)]
                congr 1
                simp; omega
              rw [e1, e2]
              exact k2 _ (by omega) (by rw [k1]; omega)
            · have e1 : (first ++ vs ++ cap)[i] = cap[i - (first.length + vs.length)]'(by omega) := by
                rw [List.getElem_append_right (by simp; omega)]
                congr 1
                simp
              have e2 : (fs.toList ++ args.map a.eval ++ cs.toList)[i] = cs[i - (first.length + vs.length)]'(by omega) := by
                rw [List.getElem_append_right (by simp at k1 ⊢; omega), Array.getElem_toList]
                congr 1
                simp at k1 ⊢; omega
              rw [e1, e2]
              exact hr' _ (by omega) (by omega)
        · unfold execOp
          simp only [hop, resolve, hcal, hv, Deferred.ofValue, invoke, Sem.run_bind, Sem.run_pure, Result.andThen_ok]
          rw [run_callable h.1]
          congr 2
          apply Array.toList_inj.1
          simp [← hargs]
    · rename_i ob vs hx hvs
      obtain ⟨rfl, hsol, hY⟩ := h
      obtain ⟨c, hop, hcal, hargs⟩ := cop_callv hc
      have hxv := aev_ok hs.r hx
      have hr := aevs_ok hs.r hvs
      generalize hv : a.eval x = v at hxv
      cases hxv with
      | yl _ _ hb =>
        obtain ⟨obj, h1, h2, h3⟩ := hb
        simp only [solid, h1, beq_iff_eq] at hsol
        obtain ⟨b, hφ, rfl⟩ := h3 hsol
        obtain ⟨fn, tm, ca, cb, hrun, hR⟩ := hY _ _ hs.m rfl hr b hφ
        refine ⟨cop_nodefer hc, ?_⟩
        have hrun' : (execOp a.eval o).run P w = .ok (.round b fn tm ca cb) w := by
          unfold execOp
          simp only [hop, resolve, hcal, hv, yieldV, Deferred.ofValue, invoke, Sem.run_bind, Sem.run_pure, Result.andThen_ok]
          refine Eq.trans ?_ hrun
          congr 2
          apply Array.toList_inj.1
          simp [← hargs]
        rw [hrun']
        refine ⟨(fun h => by cases h), hR.mono ?_⟩
        rintro en w' ⟨v, r, H', φ', rfl, h1, h2, h3, h4, h5⟩
        exact hn v w' ⟨r, H', φ', h1, h2, h3, h4, h5, (fun h => by cases h)⟩
    · exact h.elim
  · rename_i name args
    split at h
    · rename_i t x vs hvs
      split at h
      · rename_i f hf
        obtain ⟨c, recv, hop, hcal, hargs⟩ := cop_callM hc
        obtain ⟨k1, k2⟩ := aevs_ok hs.r hvs
        have hrv := k2 0 (by simp) (by rw [k1]; simp)
        simp only [← hargs, List.map_cons, List.getElem_cons_zero] at hrv
        generalize hv : a.eval recv = v at hrv
        cases hrv with
        | ifc _ _ u hu =>
          refine hcall (us := u :: c.args.toList.map a.eval) h.2 ⟨by rw [← hargs] at k1; simpa using k1, fun i hi hi' => ?_⟩ ?_
          · cases i with
            | zero => exact hu
            | succ i =>
              have := k2 (i + 1) (by simpa using hi) (by rw [k1]; simpa using hi)
              simp only [← hargs, List.map_cons, List.getElem_cons_succ] at this
              exact this
          · have e1 : P.types.size + Made.depth = (P.types.size + 99) + 1 := rfl
            unfold execOp
            simp only [hop, resolve, hcal, hv, invoke, Sem.run_bind, Sem.run_pure, Result.andThen_ok, callMethod]
            simp only [List.size_toArray, List.length_cons, List.length_nil, Array.getElem?_append, Nat.zero_lt_succ, if_true, List.getElem?_toArray, List.getElem?_cons_zero]
            simp only [Sem.run_bind, run_program, Result.andThen_ok, e1, run_method hf]
            rw [run_callable h.1]
            congr 2
            apply Array.toList_inj.1
            simp
            rw [List.take_of_length_le (by simp)]
      · exact h.elim
    · exact h.elim
  · rename_i neg x
    split at h
    · rename_i y hy
      obtain ⟨t, et, yt, hop, ht⟩ := cop_eqn hc
      have ry := aev_ok hs.r hy
      have hfin : ∀ (A : Option Addr) (n c : Nat), a.eval x = .slice A n c → (A.isNone = true → K (.p (.v (.bool (!neg)))) s.H) → (A.isNone = false → K (.p (.v (.bool neg))) s.H) → Early.opY P o a w next Q := by
        intro A n c hv k1 k2
        have hrun : (execOp a.eval o).run P w = .ok (.value (.bool (if neg then !A.isNone else A.isNone))) w := by
          have hce : a.eval (.const (.slice none 0 0)) = .slice none 0 0 := rfl
          unfold execOp
          cases neg
          · have := Lib.run_eql_slice_nil (P := P) w t et A n c 0 0 ht
            simp only [hop, hv, hce, eqGuard, Sem.run_bind, Bool.false_eq_true, if_false]
            simp [this]
          · have := run_neq_slice_nil_any (P := P) w t et A n c 0 0 ht
            simp only [hop, hv, hce, eqGuard, Sem.run_bind, if_true]
            simp [this]
        refine ⟨cop_nodefer hc, ?_⟩
        rw [hrun]
        refine hn _ w ⟨.p (.v (.bool (if neg then !A.isNone else A.isNone))), s.H, φ, ?_, hs.m, Le.refl _, RA.val rfl, Below.refl _ _, fun _ => Early.Ext.refl _⟩
        cases hA : A.isNone
        · cases neg <;> exact k2 hA
        · cases neg <;> exact k1 hA
      split at h
      · rename_i hnil
        have hy2 : y = .p (.v (.slice none 0 0)) := by
          unfold isNil at hnil
          split at hnil
          · rfl
          · cases hnil
        subst hy2
        exact hfin none 0 0 ry.lit.1 (fun _ => h) (fun h => by cases h)
      · rename_i l hnil hl
        obtain ⟨A, cap, hv, _, _, hb⟩ := elems_ok (M := ⟨w, s.H, φ, M0.base, M0.S⟩) hs.m ry hl
        refine hfin A _ cap hv (fun hA => h.1 ?_) (fun _ => h.2)
        rcases hb with hb | ⟨b, off, sz, c, hA2, _⟩
        · exact hb
        · rw [hA2] at hA; cases hA
      · exact h.elim
    · exact h.elim
  · rename_i e' x y
    split at h
    · rename_i ob off len xs hx hxs
      split at h
      · rename_i els sz t hob
        obtain ⟨⟨c1, c2, c3, c4, c5, c6, c7⟩, k1, k2⟩ := h
        subst c2 c3
        obtain ⟨t', z, i0, hop, ht, hi, hz, hsz, hb2, hzs, hz1⟩ := cop_appQ ⟨w, s.H, φ, M0.base, M0.S⟩ hc
        have := step_appQ (M := ⟨w, s.H, φ, M0.base, M0.S⟩) hop ht hi hz hsz hb2 hzs hs.m rfl hs.r hx hob c1 hxs c4 (fun q hq => List.all_eq_true.1 c5 q hq) (fun q hq => List.all_eq_true.1 c6 q hq) c7
        rcases this with this | this
        · exact hfin this k1
        · exact hfin this k2
      · exact h.elim
    · rename_i ob len cap xs hx hxs
      split at h
      · rename_i l hob
        obtain ⟨⟨c2, c3, c4⟩, k1, k2⟩ := h
        obtain ⟨t', z, i0, hop, ht, hi, hz, hsz, hb2, hzs, hz1⟩ := cop_appQ ⟨w, s.H, φ, M0.base, M0.S⟩ hc
        have := step_appB (M := ⟨w, s.H, φ, M0.base, M0.S⟩) hop ht hi hz hsz hb2 hzs hz1 hs.m rfl hs.r hx hob hxs c2 (fun q hq => List.all_eq_true.1 c3 q hq) c4
        rcases this with ⟨hf, this⟩ | ⟨hf, c, hcc, this⟩
        · exact hfin this (k1 hf)
        · exact hfin this (k2 hf c hcc)
      · exact h.elim
    · exact h.elim
  · rename_i e' sz x y
    split at h
    · rename_i x' H' hx
      exact hmain hx h
    · obtain ⟨rfl, h⟩ := h
      split at h
      · rename_i ob off len xs hx hxs
        split at h
        · rename_i els sz t hob
          obtain ⟨⟨c1, c2, c3, c4, c5, c6, c7⟩, k1, k2⟩ := h
          subst c2 c3
          obtain ⟨t', z, i0, hop, ht, hi, hz, hsz, hb2, hzs, hz1⟩ := cop_app1 ⟨w, s.H, φ, M0.base, M0.S⟩ hc
          have := step_appQ (M := ⟨w, s.H, φ, M0.base, M0.S⟩) hop ht hi hz hsz hb2 hzs hs.m rfl hs.r hx hob c1 hxs c4 (fun q hq => List.all_eq_true.1 c5 q hq) (fun q hq => List.all_eq_true.1 c6 q hq) c7
          rcases this with this | this
          · exact hfin this k1
          · exact hfin this k2
        · exact h.elim
      · rename_i ob len cap xs hx hxs
        split at h
        · rename_i l hob
          obtain ⟨⟨c2, c3, c4⟩, k1, k2⟩ := h
          obtain ⟨t', z, i0, hop, ht, hi, hz, hsz, hb2, hzs, hz1⟩ := cop_app1 ⟨w, s.H, φ, M0.base, M0.S⟩ hc
          have := step_appB (M := ⟨w, s.H, φ, M0.base, M0.S⟩) hop ht hi hz hsz hb2 hzs hz1 hs.m rfl hs.r hx hob hxs c2 (fun q hq => List.all_eq_true.1 c3 q hq) c4
          rcases this with ⟨hf, this⟩ | ⟨hf, c, hcc, this⟩
          · exact hfin this (k1 hf)
          · exact hfin this (k2 hf c hcc)
        · exact h.elim
      · exact h.elim
  · split at h
    · rename_i x H hx
      exact hmain hx h
    · exact h.elim
end
end Abs
end Go
/-
  AN ABSTRACT MACHINE, part 12: regions, in whatever order; code; loops.
-/
namespace Go
namespace Abs
open Go.RowKit
section
variable {P : Program} {N : Nat} {M0 : Mem} {s : St} {φ : Nat → Option Nat} {a : Act} {w : World} {ops : Array Oper}
theorem undef_ok {M : Mem} : RA M (.tup []) undef := .tup [] #[] rfl (fun i h => by simp at h)
theorem Wop_ok (hs : Sim N M0 s φ a w) {o : Oper} {ao : AOper} (hco : coper P ops N o = some ao) {e : Bool} (he : e = true → grows ao.op = true) {K : St → Prop} (h : Wop P e ao K s) {rest : List Oper} {Q : Exit → Act → World → Prop}
    (hn : ∀ s' φ' a' w', K s' → Sim N M0 s' φ' a' w' → (e = true → Early.Ext w w') → Early.wpList P ops Q rest a' w') : Early.wpList P ops Q (o :: rest) a w := by
  obtain ⟨hc, hdst, hlt, hgd⟩ := coper_ok hco
  unfold Wop at h
  unfold Early.wpList
  split at h
  · rename_i hg
    rw [if_pos (hgd hs.r hg)]
    refine step_ok hs hc he h ?_
    rintro v w' ⟨x, H', φ', h1, h2, h3, h4, h5, h6⟩
    rw [hdst] at h1
    exact hn _ φ' _ w' h1 (hs.put hlt h2 h3 h4 h5) h6
  · rename_i hg
    rw [if_neg (by rw [hgd hs.r hg]; simp)]
    rw [hdst] at h
    exact hn _ φ _ w h (hs.put hlt hs.m (Le.refl _) undef_ok (Below.refl _ _)) (fun _ => Early.Ext.refl _)
  · exact h.elim
theorem mapM_cons_some {α β : Type} {f : α → Option β} {x : α} {l : List α} {ys : List β} (h : (x :: l).mapM f = some ys) : ∃ y m, f x = some y ∧ l.mapM f = some m ∧ ys = y :: m := by
  simp only [List.mapM_cons, Option.bind_eq_bind, Option.pure_def, Option.bind_eq_some_iff, Option.some.injEq] at h
  obtain ⟨y, hy, m, hm, h⟩ := h
  exact ⟨y, m, hy, hm, h.symm⟩
theorem Wops_ok : ∀ {l : List Oper} {al : List AOper} {s : St} {φ : Nat → Option Nat} {a : Act} {w : World}, l.mapM (coper P ops N) = some al → Sim N M0 s φ a w → ∀ {K : St → Prop}, Wops P al K s → ∀ {Q : Exit → Act → World → Prop},
    (∀ s' φ' a' w', K s' → Sim N M0 s' φ' a' w' → Q .normal a' w') → Early.wpList P ops Q l a w
  | [], al, s, φ, a, w, hm, hs, K, h, Q, hn => by
    simp at hm
    subst hm
    exact hn s φ a w h hs
  | o :: l, al, s, φ, a, w, hm, hs, K, h, Q, hn => by
    obtain ⟨ao, m, h1, h2, rfl⟩ := mapM_cons_some hm
    exact Wop_ok hs h1 (fun h => by cases h) h (fun s' φ' a' w' hK hs' _ => Wops_ok h2 hs' hK hn)
def lookA : AOp → Bool
  | .mov _ | .pick _ _ _ | .load _ _ _ | .bin _ _ _ _ | .un _ _ | .ext _ _ | .fadr _ _ | .iadr _ _ _ | .iadrA _ _ _ _ | .fld _ _ _ _ | .idx _ _ _ _ _ | .len _ | .bld _ _ _ | .fn _ _ _ | .mm _ _ _ | .nilc _ | .slA _ _ | .slS _ _ _ _ | .look (.int _) _ _ _ _ => true
  | _ => false
theorem looks_of {o : Oper} {op : AOp} {H : List AO} (hc : cop P o = some op) (hl : lookA op = true) (hs : Env ⟨w, H, φ, M0.base, M0.S⟩ s.t a) (hH : s.H = H) {r : AV} {H' : List AO} (h : astep op s = some (r, H')) : Early.looks a.eval o = true := by
  cases hop : o.op with
  | binOp bop t x y yt =>
    have hbin : ∃ bo, op = .bin bo bop x y := by
      simp only [cop, hop] at hc
      split at hc
      · split at hc
        · injection hc with hc; subst hc; cases hl
        · injection hc with hc; subst hc; cases hl
        · cases hc
      · exact ⟨_, (Option.some.inj hc).symm⟩
      · exact ⟨_, (Option.some.inj hc).symm⟩
      · exact ⟨_, (Option.some.inj hc).symm⟩
      · exfalso
        (repeat' split at hc) <;> first | (cases hc; done) | (simp at hc; subst hc; cases hl)
      · exfalso
        (repeat' split at hc) <;> first | (cases hc; done) | (simp at hc; subst hc; cases hl)
      · cases hc
    obtain ⟨bo, rfl⟩ := hbin
    simp only [astep] at h
    split at h
    · rename_i u v hu hv
      have e1 := (aev_ok hs hu).lit.1
      have e2 := (aev_ok hs hv).lit.1
      obtain ⟨c, hcc, _⟩ := Option.map_eq_some_iff.1 h
      unfold Early.looks
      rw [hop]
      dsimp only
      rw [e1, e2]
      unfold litBin at hcc
      split at hcc
      · rfl
      · rfl
      · rfl
      · cases hcc
    · cases h
  | nilCheck x =>
    simp only [cop, hop, Option.some.injEq] at hc
    subst hc
    simp only [astep] at h
    split at h
    · rename_i y hy
      have ry := aev_ok hs hy
      split at h
      · split at h
        · rename_i hsol
          obtain ⟨ob, h1, h2, h3⟩ := ry.toPtr
          subst hH
          simp only [solid, h1, beq_iff_eq] at hsol
          obtain ⟨b, _, hv⟩ := h3 hsol
          unfold Early.looks
          rw [hop]
          dsimp only
          rw [hv]
        · cases h
      · have hp : ∃ b, a.eval x = .pointer b := by
          generalize a.eval x = v at ry
          cases ry with | sp => exact ⟨_, rfl⟩
        obtain ⟨b, hv⟩ := hp
        unfold Early.looks
        rw [hop]
        dsimp only
        rw [hv]
      · cases h
    · cases h
  | call c =>
    obtain ⟨callee, args, ats⟩ := c
    simp only [cop, hop] at hc
    split at hc
    · unfold Early.looks; rw [hop]
    · exfalso
      (repeat' split at hc) <;> first | (cases hc; done) | (simp at hc; subst hc; cases hl)
    · split at hc
      · rename_i x y hargs
        injection hc with hc
        subst hc
        have e1 : args = #[x, y] := Array.toList_inj.1 hargs
        subst e1
        simp only [astep] at h
        split at h
        · rename_i u v hu hv
          unfold Early.looks
          rw [hop]
          dsimp only
          have e1 := (aev_ok hs hu).lit.1
          have e2 := (aev_ok hs hv).lit.1
          simp [e1, e2]
        · cases h
      · cases hc
    · split at hc
      · rename_i x y hargs
        injection hc with hc
        subst hc
        have e1 : args = #[x, y] := Array.toList_inj.1 hargs
        subst e1
        simp only [astep] at h
        split at h
        · rename_i u v hu hv
          unfold Early.looks
          rw [hop]
          dsimp only
          have e1 := (aev_ok hs hu).lit.1
          have e2 := (aev_ok hs hv).lit.1
          simp [e1, e2]
        · cases h
      · injection hc with hc
        subst hc
        cases hl
      · cases hc
    · exfalso
      (repeat' split at hc) <;> first | (cases hc; done) | (simp at hc; subst hc; cases hl)
    · exfalso
      (repeat' split at hc) <;> first | (cases hc; done) | (simp at hc; subst hc; cases hl)
    · exfalso
      simp at hc; subst hc; cases hl
    · exfalso
      simp at hc; subst hc; cases hl
    · cases hc
  | move | assign | pick | load | unOp | fieldAddr | field | indexAddr | index | extract | build | makeFunc => unfold Early.looks; rw [hop]
  | box => simp only [cop, hop, Option.some.injEq] at hc; subst hc; cases hl
  | alloc => simp only [cop, hop, Option.map_eq_some_iff] at hc; obtain ⟨_, _, hc⟩ := hc; subst hc; cases hl
  | store => simp only [cop, hop, Option.map_eq_some_iff] at hc; obtain ⟨_, _, hc⟩ := hc; subst hc; cases hl
  | makeSlice => exfalso; simp only [cop, hop] at hc; (repeat' split at hc) <;> first | (cases hc; done) | (simp at hc; subst hc; cases hl)
  | buildSlice => exfalso; simp only [cop, hop] at hc; (repeat' split at hc) <;> first | (cases hc; done) | (simp at hc; subst hc; cases hl)
  | slice => unfold Early.looks; rw [hop]
  | convert => exfalso; simp only [cop, hop] at hc; (repeat' split at hc) <;> first | (cases hc; done) | (simp at hc; subst hc; cases hl)
  | makeInterface => exfalso; simp only [cop, hop] at hc; (repeat' split at hc) <;> first | (cases hc; done) | (simp at hc; subst hc; cases hl)
  | typeAssert x t0 t ok =>
    exfalso
    cases ok with
    | false => simp [cop, hop] at hc
    | true =>
      simp only [cop, hop] at hc
      split at hc
      · cases hc
      · simp only [Option.map_eq_some_iff] at hc; obtain ⟨_, _, hc⟩ := hc; subst hc; cases hl
      · cases hc
  | lookup t m k ok =>
    simp only [cop, hop, Option.map_eq_some_iff] at hc
    obtain ⟨p, hp, rfl⟩ := hc
    simp only [astep] at h
    split at h
    · rename_i ob kv hm hk
      split at h
      · split at h
        · rename_i hcond
          have hkv := key_at hs hk
          obtain ⟨kd, z⟩ := p
          cases kd <;> simp only [lookA, Bool.false_eq_true] at hl
          cases kv <;> simp only [KV.fit, Bool.false_eq_true, and_false] at hcond
          unfold Early.looks
          simp only [hop, hkv, KV.val]
        · cases h
      · cases h
    · cases h
  | makeMap t r =>
    cases r with
    | some r => simp [cop, hop] at hc
    | none => simp only [cop, hop, Option.map_eq_some_iff] at hc; obtain ⟨_, _, hc⟩ := hc; subst hc; cases hl
  | insert => simp only [cop, hop, Option.map_eq_some_iff] at hc; obtain ⟨_, _, hc⟩ := hc; subst hc; cases hl
  | mapUpdate => simp only [cop, hop, Option.map_eq_some_iff] at hc; obtain ⟨_, _, hc⟩ := hc; subst hc; cases hl
  | mapEntry => simp only [cop, hop, Option.map_eq_some_iff] at hc; obtain ⟨_, _, hc⟩ := hc; subst hc; cases hl
  | entryStore => simp only [cop, hop, Option.map_eq_some_iff] at hc; obtain ⟨_, _, hc⟩ := hc; subst hc; cases hl
  | _ => simp [cop, hop] at hc
theorem cop_of {op : AOp} {o : Oper} (hc : op = (cop P o).getD .bad) {s : St} {x : AV} {H : List AO} (h : astep op s = some (x, H)) : cop P o = some op := by
  cases hcc : cop P o with
  | some op' => rw [hcc] at hc; rw [hc]; rfl
  | none =>
    rw [hcc] at hc
    simp only [Option.getD_none] at hc
    subst hc
    simp [astep] at h
theorem stepK_look {op : AOp} {e : Bool} (hl : lookA op = true) {K : AV → List AO → Prop} (h : stepK P e op s K) : ∃ x H', astep op s = some (x, H') ∧ K x H' := by
  unfold stepK at h
  split at h
  · cases hl
  · cases hl
  · cases hl
  · cases hl
  · cases hl
  · cases hl
  · split at h
    · rename_i x H hx; exact ⟨x, H, hx, h⟩
    · exact h.elim
theorem looks_list : ∀ {l : List Oper} {al : List AOper} {done : List Oper} {s : St} {φ : Nat → Option Nat} {a : Act} {w : World}, l.mapM (coper P ops N) = some al → (al.all fun ao => lookA ao.op) = true → Early.clean ops l = true →
    (∀ o ∈ done, (Early.looks a.eval o || !Region.wanted o (yielded ops a.tmps)) = true) → (∀ o ∈ done, ∀ o' ∈ l, ∀ d, o'.dst = some d → d ∉ o.looksAt ops) → Sim N M0 s φ a w → ∀ {K : St → Prop}, Wops P al K s → ∀ {K' : Act → World → Prop},
    (∀ s' φ' a' w', K s' → Sim N M0 s' φ' a' w' → K' a' w') → Early.wpList P ops (Early.AtCut ops (done ++ l) K') l a w
  | [], al, done, s, φ, a, w, hm, hal, hcl, hd, hx, hs, K, h, K', hn => by
    simp at hm
    subst hm
    refine Early.AtCut.mk ?_ (hn s φ a w h hs)
    rw [List.append_nil]
    exact List.all_eq_true.2 hd
  | o :: l, al, done, s, φ, a, w, hm, hal, hcl, hd, hx, hs, K, h, K', hn => by
    obtain ⟨ao, m, h1, h2, rfl⟩ := mapM_cons_some hm
    obtain ⟨hc, hdst, hlt, hgd⟩ := coper_ok h1
    simp only [List.all_cons, Bool.and_eq_true] at hal
    simp only [Early.clean, Bool.and_eq_true] at hcl
    have hself : ∀ o' ∈ o :: l, ∀ d, o'.dst = some d → d ∉ o.looksAt ops := fun o' ho' d hd' => by
      have := List.all_eq_true.1 hcl.1 o' ho'
      rw [hd'] at this
      simpa using this
    have next : ∀ (v : Value) (s' : St) (φ' : Nat → Option Nat) (w' : World), (Early.looks a.eval o || !Region.wanted o (yielded ops a.tmps)) = true → Sim N M0 s' φ' (a.put o.dst v) w' → Wops P m K s' → Early.wpList P ops (Early.AtCut ops (done ++ o :: l) K') l (a.put o.dst v) w' := by
      intro v s' φ' w' hlk hs' hW
      have := looks_list (done := done ++ [o]) h2 hal.2 hcl.2 (fun o' ho' => by
        have key : ∀ o'', (∀ d, o.dst = some d → d ∉ o''.looksAt ops) → (Early.looks a.eval o'' || !Region.wanted o'' (yielded ops a.tmps)) = true → (Early.looks (a.put o.dst v).eval o'' || !Region.wanted o'' (yielded ops (a.put o.dst v).tmps)) = true := by
          intro o'' h3 h4
          rw [Early.looks_put o'' a o.dst v h3, wanted_put o'' a o.dst v h3]
          exact h4
        rcases List.mem_append.1 ho' with h3 | h3
        · exact key o' (hx o' h3 o (by simp)) (hd o' h3)
        · simp only [List.mem_singleton] at h3
          subst h3
          exact key o' (hself o' (by simp)) hlk) (fun o' ho' o'' ho'' => by
        rcases List.mem_append.1 ho' with h3 | h3
        · exact hx o' h3 o'' (by simp [ho''])
        · simp only [List.mem_singleton] at h3
          subst h3
          exact hself o'' (by simp [ho''])) hs' hW hn
      rwa [List.append_assoc, List.singleton_append] at this
    unfold Wops Wop at h
    unfold Early.wpList
    split at h
    · rename_i hg
      have hw := hgd hs.r hg
      rw [if_pos hw]
      obtain ⟨x, H', hx', hK⟩ := stepK_look hal.1 h
      have hlk := looks_of (cop_of hc hx') hal.1 hs.r rfl hx'
      refine step_ok hs hc (e := false) (fun h => by cases h) h ?_
      rintro v w' ⟨x, H', φ', k1, k2, k3, k4, k5, _⟩
      rw [hdst] at k1
      exact next v _ φ' w' (by rw [hlk]; rfl) (hs.put hlt k2 k3 k4 k5) k1
    · rename_i hg
      have hw := hgd hs.r hg
      rw [if_neg (by rw [hw]; simp)]
      rw [hdst] at h
      exact next undef _ φ w (by rw [hw]; simp) (hs.put hlt hs.m (Le.refl _) undef_ok (Below.refl _ _)) h
    · exact h.elim
end
end Abs
end Go
/-
  AN ABSTRACT MACHINE, part 13: compiled code; W stands for the kit's wp; contracts out of W.
-/
namespace Go
namespace Abs
open Go.RowKit
section
variable (P : Program) (N : Nat)
def lkB (ops : Array Oper) (i : Nat) : Bool := match ops[i]? with
  | some o => match coper P ops N o with
    | some ao => lookA ao.op
    | none => false
  | none => false
def segGo (ops : Array Oper) (X L : Nat → Bool) : Nat → Array Bool → List Nat → Option (List (List Nat × Option Nat))
  | 0, _, _ => none
  | f + 1, listed, cur =>
    match Region.ready .any ops listed with
    | [] => some (if cur = [] then [] else [(cur, none)])
    | i0 :: r => match (i0 :: r).find? fun i => L i && Early.headB .any ops X ops.size [i] listed with
      | some i => if Early.clean ops (Early.pick ops (cur ++ [i])) then segGo ops X L f (listed.setIfInBounds i true) (cur ++ [i])
        else (segGo ops X L f listed []).map ((cur, none) :: ·)
      | none => if r = [] then (segGo ops X L f (listed.setIfInBounds i0 true) []).map ((cur, some i0) :: ·) else none
def storing (P : Program) : AOp → Bool
  | .call f _ => match P.funcs[f]? with
    | some fn => ["(*sandpile/tree.forest).join", "(*sandpile/wire.wires).wait", "(*sandpile/wire.wires).send", "(*sandpile/wire.queue).drop"].contains fn.name
    | none => false
  | _ => false
def actStores (ops : Array Oper) : List Nat := (List.range ops.size).filter fun i => match ops[i]? with
  | some o => match cop P o with
    | some op => !grows op || storing P op
    | none => true
  | none => true
def cseg (ops : Array Oper) (X : Nat → Bool) : List Nat × Option Nat → Option (List AOper × Option (Bool × AOper))
  | (ps, oi) => match (Early.pick ops ps).mapM (coper P ops N) with
    | none => none
    | some al => if (al.all fun ao => lookA ao.op) && Early.clean ops (Early.pick ops ps) then
        match oi with
        | none => some (al, none)
        | some i => match ops[i]? with
          | none => none
          | some o => match coper P ops N o with
            | none => none
            | some ao => if !X i || grows ao.op then some (al, some (X i, ao)) else none
      else none
def csegs (ops : Array Oper) : Option AC :=
  let st := actStores P ops
  match segGo ops (fun i => !st.contains i) (lkB P N ops) (3 * ops.size + 3) (Array.replicate ops.size false) [] with
  | none => none
  | some sg =>
    if P.follows .mixedOrders && Region.noSelect ops && Early.segsB .any ops (fun i => !st.contains i) ops.size sg (Array.replicate ops.size false) && Early.segsLen sg == ops.size then
      (sg.mapM (cseg P N ops fun i => !st.contains i)).map .segs
    else none
def ntChain (g : Nat → Option Early.NT) : List Nat → Option Early.NT
  | [] => none
  | [i] => (g i).map (.act i)
  | i :: r => match g i, ntChain g r with
    | some t, some u => some (.fork i t u)
    | _, _ => none
def ntGo (ops : Array Oper) (X L : Nat → Bool) : Nat → Array Bool → List Nat → Option Early.NT
  | 0, _, _ => none
  | f + 1, listed, cur =>
    let lk := fun t => if cur = [] then t else Early.NT.look cur t
    match Region.ready .any ops listed with
    | [] => some (lk .done)
    | i0 :: r => match (i0 :: r).find? fun i => L i && Early.headB .any ops X ops.size [i] listed with
      | some i => if Early.clean ops (Early.pick ops (cur ++ [i])) then ntGo ops X L f (listed.setIfInBounds i true) (cur ++ [i])
        else (ntGo ops X L f listed []).map lk
      | none => (ntChain (fun i => ntGo ops X L f (listed.setIfInBounds i true) []) (i0 :: r)).map lk
def cact (ops : Array Oper) (X : Nat → Bool) (i : Nat) : Option (Bool × AOper) := match ops[i]? with
  | none => none
  | some o => match coper P ops N o with
    | none => none
    | some ao => if !X i || grows ao.op then some (X i, ao) else none
def cnt (ops : Array Oper) (X : Nat → Bool) : Early.NT → Option AT
  | .done => some .done
  | .look ps t => match (Early.pick ops ps).mapM (coper P ops N), cnt ops X t with
    | some al, some u => if (al.all fun ao => lookA ao.op) && Early.clean ops (Early.pick ops ps) then some (.look al u) else none
    | _, _ => none
  | .act i t => match cact P N ops X i, cnt ops X t with
    | some x, some u => some (.act x.1 x.2 u)
    | _, _ => none
  | .fork i t u => match cact P N ops X i, cnt ops X t, cnt ops X u with
    | some x, some a, some b => some (.fork x.1 x.2 a b)
    | _, _, _ => none
def ctree (ops : Array Oper) : Option AC :=
  let st := actStores P ops
  match ntGo ops (fun i => !st.contains i) (lkB P N ops) (3 * ops.size + 3) (Array.replicate ops.size false) [] with
  | none => none
  | some t =>
    if P.follows .mixedOrders && Region.noSelect ops && Early.ntB .any ops (fun i => !st.contains i) ops.size t (Array.replicate ops.size false) && Early.ntLen t == some ops.size then
      (cnt P N ops (fun i => !st.contains i) t).map .tree
    else none
def dgLook (ops : Array Oper) (X L : Nat → Bool) : Nat → Array Bool → List Nat → List Nat
  | 0, _, cur => cur
  | f + 1, listed, cur => match (Region.ready .any ops listed).find? fun i => L i && Early.headB .any ops X ops.size [i] listed && Early.clean ops (Early.pick ops (cur ++ [i])) with
    | some i => dgLook ops X L f (listed.setIfInBounds i true) (cur ++ [i])
    | none => cur
def dgIdx (T : List Bool) : List (Array Bool) → Nat → Option Nat
  | [], _ => none
  | S :: l, k => if S.toList == T then some k else dgIdx T l (k + 1)
def dgActs (S : Array Bool) : List Nat → List (Array Bool) → List (Nat × Nat) × List (Array Bool)
  | [], seen => ([], seen)
  | i :: r, seen => match dgIdx (S.setIfInBounds i true).toList seen 0 with
    | some k => match dgActs S r seen with
      | (l, sn) => ((i, k) :: l, sn)
    | none => match dgActs S r (seen ++ [S.setIfInBounds i true]) with
      | (l, sn) => ((i, seen.length) :: l, sn)
def dgGo (ops : Array Oper) (X L : Nat → Bool) : Nat → Nat → List (Array Bool) → Option (List Early.DN)
  | 0, _, _ => none
  | f + 1, p, seen => match seen[p]? with
    | none => some []
    | some S => match dgLook ops X L (ops.size + 1) S [] with
      | ps => match dgActs (Early.setAll S ps) (Region.ready .any ops (Early.setAll S ps)) seen with
        | (acts, sn) => (dgGo ops X L f (p + 1) sn).map (⟨S.toList.count false, S, ps, acts⟩ :: ·)
def cdacts (ops : Array Oper) (X : Nat → Bool) : List (Nat × Nat) → Option (List (Bool × AOper × Nat))
  | [] => some []
  | x :: l => match cact P N ops X x.1, cdacts ops X l with
    | some y, some m => some ((y.1, y.2, x.2) :: m)
    | _, _ => none
def cdn (ops : Array Oper) (X : Nat → Bool) (d : Early.DN) : Option ADN := match (Early.pick ops d.ps).mapM (coper P ops N), cdacts P N ops X d.acts with
  | some al, some m => if (al.all fun ao => lookA ao.op) && Early.clean ops (Early.pick ops d.ps) then some ⟨al, m⟩ else none
  | _, _ => none
def cdag (ops : Array Oper) : Option AC :=
  let st := actStores P ops
  match dgGo ops (fun i => !st.contains i) (lkB P N ops) 500 0 [Array.replicate ops.size false] with
  | none => none
  | some tab =>
    if Nat.blt 16 tab.length && P.follows .mixedOrders && Region.noSelect ops && (tab.all fun d => Early.dnB .any ops (fun i => !st.contains i) ops.size tab d) && Early.hdB ops.size tab then
      (tab.mapM (cdn P N ops fun i => !st.contains i)).map .dag
    else none
def ccode : Code → Option AC
  | .skip => some .skip
  | .label _ => some .skip
  | .region _ ops false => (ops.toList.mapM (coper P ops N)).map .ops
  | .region _ ops true => match csegs P N ops with
    | some x => some x
    | none => match cdag P N ops with
      | some x => some x
      | none => ctree P N ops
  | .seq a b => match ccode a, ccode b with
    | some x, some y => some (.seq x y)
    | _, _ => none
  | .cond c a b => match ccode a, ccode b with
    | some x, some y => some (.cond c x y)
    | _, _ => none
  | .block id a => (ccode a).map (.block id)
  | .scope a => ccode a
  | .loop a => (ccode a).map .loop
  | .exit id => some (.exit id)
  | .ret => some .ret
  | .rangeFunc g ps a c => some (.rangeF N g ps.toList a c)
  | _ => none
end
def rngs : Code → List (Code × Code)
  | .rangeFunc _ _ a c => [(a, c)]
  | .seq a b => rngs a ++ rngs b
  | .cond _ a b => rngs a ++ rngs b
  | .block _ a => rngs a
  | .loop a => rngs a
  | .scope a => rngs a
  | _ => []
def rngF (P : Program) (f : FuncId) : List (Code × Code) := match P.funcs[f]? with
  | some fn => match fn.body with
    | some b => rngs b
    | none => []
  | none => []
def rngA (P : Program) (f : FuncId) (k : Nat) : Code := match (rngF P f)[k]? with
  | some x => x.1
  | none => .skip
def rngC (P : Program) (f : FuncId) (k : Nat) : Code := match (rngF P f)[k]? with
  | some x => x.2
  | none => .skip
def Wk (m0 : Nat) (s s' : St) : Prop := ∀ (N : Nat) (M0 : Mem) (φ : Nat → Option Nat) (a : Act) (w : World), M0.H.length = m0 → Sim N M0 s φ a w → ∃ φ', Sim N M0 s' φ' a w
theorem Wk.refl (m0 : Nat) (s : St) : Wk m0 s s := fun _ _ φ _ _ _ h => ⟨φ, h⟩
theorem Wk.trans {m0 : Nat} {a b c : St} (h : Wk m0 a b) (k : Wk m0 b c) : Wk m0 a c := fun N M0 φ u w hm hs => by
  obtain ⟨φ', h'⟩ := h N M0 φ u w hm hs
  exact k N M0 φ' u w hm h'
section
variable (P : Program) (m0 : Nat)
def LoopW (body : (AExit → St → Prop) → St → Prop) (Q : AExit → St → Prop) (s : St) : Prop :=
  ∃ (I : Nat → St → Prop), (∃ n s', Wk m0 s s' ∧ I n s') ∧ ∀ n s, I n s → body (fun e s1 => match e with
    | .normal => ∃ n' s2, Wk m0 s1 s2 ∧ I n' s2 ∧ n' < n
    | e => Q e s1) s
def Wdag (tab : List ADN) (K : St → Prop) (s : St) : Prop := ∃ I : Nat → St → Prop, (∃ s', Wk m0 s s' ∧ I 0 s') ∧ ∀ i d, tab[i]? = some d → ∀ s, I i s →
  Wops P d.look (fun s1 => (d.acts = [] → K s1) ∧ ∀ x ∈ d.acts, Wop P x.1 x.2.1 (fun s2 => ∃ s3, Wk m0 s2 s3 ∧ I x.2.2 s3) s1) s
def AfterR (Q : AExit → St → Prop) (t : List (Nat × AV)) (o : Nat) (H : List AO) : Prop := match H[o]? with
  | some (.lp n t' ps a c .ready) => Q .normal ⟨t, H.set o (.lp n t' ps a c .over)⟩
  | some (.lp n t' ps a c (.done .ret)) => Q .ret ⟨t, H.set o (.lp n t' ps a c .over)⟩
  | some (.lp n t' ps a c (.done (.exit id))) => Q (.exit id) ⟨t, H.set o (.lp n t' ps a c .over)⟩
  | _ => False
def W : AC → (AExit → St → Prop) → St → Prop
  | .skip, Q, s => Q .normal s
  | .ops l, Q, s => Wops P l (Q .normal) s
  | .segs l, Q, s => Wsegs P l (Q .normal) s
  | .tree t, Q, s => Wtree P t (fun s1 => ∃ s2, Wk m0 s1 s2 ∧ Q .normal s2) s
  | .dag tab, Q, s => Wdag P m0 tab (Q .normal) s
  | .seq a b, Q, s => W a (fun e s' => match e with
    | .normal => W b Q s'
    | e => Q e s') s
  | .cond c a b, Q, s => match aev s.t c with
    | some (.p (.v (.bool t))) => if t then W a Q s else W b Q s
    | _ => False
  | .block id a, Q, s => W a (fun e s' => match e with
    | .exit i => if i = id then Q .normal s' else Q (.exit i) s'
    | e => Q e s') s
  | .loop a, Q, s => LoopW m0 (W a) Q s
  | .exit id, Q, s => Q (.exit id) s
  | .ret, Q, s => Q .ret s
  | .rangeF n g ps a c, Q, s => match aev s.t g with
    | some (.fn (.func f) [] cap) => callable P f = true ∧ HC P false f (.yl s.H.length :: cap) (s.H ++ [.lp n s.t ps a c .ready]) fun _ H' => AfterR Q s.t s.H.length H'
    | _ => False
end
def toExit : AExit → Exit
  | .normal => .normal
  | .exit id => .exit id
  | .ret => .ret
def Sims (N : Nat) (M0 : Mem) (Q : AExit → St → Prop) (ex : Exit) (a : Act) (w : World) : Prop := ∃ ae s φ, ex = toExit ae ∧ Q ae s ∧ Sim N M0 s φ a w
section
variable {P : Program} {N : Nat} {M0 : Mem}
theorem Wsegs_ok {ops : Array Oper} {X : Nat → Bool} : ∀ {sg : List (List Nat × Option Nat)} {al : List (List AOper × Option (Bool × AOper))} {s : St} {φ : Nat → Option Nat} {a : Act} {w : World}, sg.mapM (cseg P N ops X) = some al → Sim N M0 s φ a w →
    ∀ {K : St → Prop}, Wsegs P al K s → ∀ {K' : Act → World → Prop}, (∀ s' φ' a' w', K s' → Sim N M0 s' φ' a' w' → K' a' w') → Early.wpSegs P ops K' X sg a w
  | [], al, s, φ, a, w, hm, hs, K, h, K', hn => by
    simp at hm
    subst hm
    exact hn s φ a w h hs
  | (ps, oi) :: sg, al, s, φ, a, w, hm, hs, K, h, K', hn => by
    obtain ⟨y, m, h1, h2, rfl⟩ := mapM_cons_some hm
    simp only [cseg] at h1
    split at h1
    · cases h1
    · rename_i l hl
      split at h1
      · rename_i hcond
        simp only [Bool.and_eq_true] at hcond
        split at h1
        · injection h1 with h1
          subst h1
          have := looks_list (done := []) hl hcond.1 hcond.2 (fun o ho => by cases ho) (fun o ho => by cases ho) hs h (fun s' φ' a' w' hK hs' => Wsegs_ok h2 hs' hK hn)
          exact Early.segs_last (by simpa using this)
        · rename_i i
          split at h1
          · cases h1
          · rename_i o ho
            split at h1
            · cases h1
            · rename_i ao hao
              split at h1
              · rename_i hX
                injection h1 with h1
                subst h1
                have := looks_list (done := []) (K' := Early.wpAct P ops (X i) i (Early.wpSegs P ops K' X sg)) hl hcond.1 hcond.2 (fun o ho => by cases ho) (fun o ho => by cases ho) hs h (fun s' φ' a' w' hK hs' => by
                  refine Early.act ?_
                  rw [Early.pick_cons, ho, Early.consO_some, Early.pick_nil]
                  refine Wop_ok hs' hao (e := X i) (fun he => by simpa [he] using hX) hK (fun s2 φ2 a2 w2 hK2 hs2 hext => ?_)
                  exact Early.wpList_nil (Early.AtAct.mk hext (Wsegs_ok h2 hs2 hK2 hn)))
                exact Early.segs_some (by simpa using this)
              · cases h1
      · cases h1
theorem Wact_ok {ops : Array Oper} {X : Nat → Bool} {i : Nat} {x : Bool × AOper} (hx : cact P N ops X i = some x) {s : St} {φ : Nat → Option Nat} {a : Act} {w : World} (hs : Sim N M0 s φ a w) {K : St → Prop} (h : Wop P x.1 x.2 K s) {K' : Act → World → Prop}
    (hn : ∀ s' φ' a' w', K s' → Sim N M0 s' φ' a' w' → K' a' w') : Early.wpAct P ops (X i) i K' a w := by
  unfold cact at hx
  split at hx
  · cases hx
  · rename_i o ho
    split at hx
    · cases hx
    · rename_i ao hao
      split at hx
      · rename_i hX
        injection hx with hx
        subst hx
        refine Early.act ?_
        rw [Early.pick_cons, ho, Early.consO_some, Early.pick_nil]
        refine Wop_ok hs hao (e := X i) (fun he => by simpa [he] using hX) h (fun s2 φ2 a2 w2 hK2 hs2 hext => ?_)
        exact Early.wpList_nil (Early.AtAct.mk hext (hn s2 φ2 a2 w2 hK2 hs2))
      · cases hx
theorem Wtree_ok {ops : Array Oper} {X : Nat → Bool} : ∀ {t : Early.NT} {at_ : AT} {s : St} {φ : Nat → Option Nat} {a : Act} {w : World}, cnt P N ops X t = some at_ → Sim N M0 s φ a w →
    ∀ {K : St → Prop}, Wtree P at_ K s → ∀ {K' : Act → World → Prop}, (∀ s' φ' a' w', K s' → Sim N M0 s' φ' a' w' → K' a' w') → Early.wpNT P ops K' X t a w
  | .done, at_, s, φ, a, w, hm, hs, K, h, K', hn => by
    simp only [cnt, Option.some.injEq] at hm
    subst hm
    exact hn s φ a w h hs
  | .look ps t, at_, s, φ, a, w, hm, hs, K, h, K', hn => by
    simp only [cnt] at hm
    split at hm
    · rename_i al u hl hu
      split at hm
      · rename_i hcond
        simp only [Bool.and_eq_true] at hcond
        injection hm with hm
        subst hm
        have := looks_list (done := []) hl hcond.1 hcond.2 (fun o ho => by cases ho) (fun o ho => by cases ho) hs h (fun s' φ' a' w' hK hs' => Wtree_ok hu hs' hK hn)
        simpa [Early.wpNT] using this
      · cases hm
    · cases hm
  | .act i t, at_, s, φ, a, w, hm, hs, K, h, K', hn => by
    simp only [cnt] at hm
    split at hm
    · rename_i x u hx hu
      injection hm with hm
      subst hm
      exact Wact_ok hx hs h (fun s' φ' a' w' hK hs' => Wtree_ok hu hs' hK hn)
    · cases hm
  | .fork i t t2, at_, s, φ, a, w, hm, hs, K, h, K', hn => by
    simp only [cnt] at hm
    split at hm
    · rename_i x u u2 hx hu hu2
      injection hm with hm
      subst hm
      exact ⟨Wact_ok hx hs h.1 (fun s' φ' a' w' hK hs' => Wtree_ok hu hs' hK hn), Wtree_ok hu2 hs h.2 hn⟩
    · cases hm
theorem cdacts_mem {ops : Array Oper} {X : Nat → Bool} : ∀ {l : List (Nat × Nat)} {m : List (Bool × AOper × Nat)}, cdacts P N ops X l = some m → (l = [] → m = []) ∧ ∀ x ∈ l, ∃ y, cact P N ops X x.1 = some y ∧ (y.1, y.2, x.2) ∈ m
  | [], m, h => by
    simp only [cdacts, Option.some.injEq] at h
    subst h
    exact ⟨fun _ => rfl, fun x hx => by cases hx⟩
  | x :: l, m, h => by
    simp only [cdacts] at h
    split at h
    · rename_i y m' hy hm
      injection h with h
      subst h
      refine ⟨fun h0 => (by cases h0), fun z hz => ?_⟩
      rcases List.mem_cons.1 hz with rfl | hz
      · exact ⟨y, hy, by simp⟩
      · obtain ⟨y', h1, h2⟩ := (cdacts_mem hm).2 z hz
        exact ⟨y', h1, by simp [h2]⟩
    · cases h
theorem mapM_at {α β : Type} {f : α → Option β} : ∀ {l : List α} {m : List β}, l.mapM f = some m → ∀ (i : Nat) (x : α), l[i]? = some x → ∃ y, m[i]? = some y ∧ f x = some y
  | [], m, h, i, x, hx => by simp at hx
  | z :: l, m, h, i, x, hx => by
    obtain ⟨y, m', h1, h2, rfl⟩ := mapM_cons_some h
    cases i with
    | zero =>
      simp only [List.getElem?_cons_zero, Option.some.injEq] at hx
      subst hx
      exact ⟨y, rfl, h1⟩
    | succ i => exact mapM_at h2 i x (by simpa using hx)
theorem Wdag_ok {ops : Array Oper} {X : Nat → Bool} {tab : List Early.DN} {at_ : List ADN} (hm : tab.mapM (cdn P N ops X) = some at_) {K : St → Prop} {K' : Act → World → Prop} {I : Nat → St → Prop}
    (hI : ∀ i d, at_[i]? = some d → ∀ s, I i s → Wops P d.look (fun s1 => (d.acts = [] → K s1) ∧ ∀ x ∈ d.acts, Wop P x.1 x.2.1 (fun s2 => ∃ s3, Wk M0.H.length s2 s3 ∧ I x.2.2 s3) s1) s)
    (hn : ∀ s' φ' a' w', K s' → Sim N M0 s' φ' a' w' → K' a' w') : ∀ i d, tab[i]? = some d → ∀ a w, (∃ s φ, I i s ∧ Sim N M0 s φ a w) → Early.dnK P ops K' X (fun i a w => ∃ s φ, I i s ∧ Sim N M0 s φ a w) d a w := by
  rintro i d hd a w ⟨s, φ, hs, hsim⟩
  obtain ⟨y, hy, hc⟩ := mapM_at hm i d hd
  have h := hI i y hy s hs
  simp only [cdn] at hc
  split at hc
  · rename_i al m hl hu
    split at hc
    · rename_i hcond
      simp only [Bool.and_eq_true] at hcond
      injection hc with hc
      subst hc
      obtain ⟨c1, c2⟩ := cdacts_mem hu
      have := looks_list (K' := fun a w => (d.acts = [] → K' a w) ∧ ∀ x ∈ d.acts, Early.wpAct P ops (X x.1) x.1 (fun a w => ∃ s φ, I x.2 s ∧ Sim N M0 s φ a w) a w) (done := []) hl hcond.1 hcond.2 (fun o ho => by cases ho) (fun o ho => by cases ho) hsim h (fun s' φ' a' w' hK hs' => ⟨fun h0 => hn s' φ' a' w' (hK.1 (c1 h0)) hs', fun x hx => by
        obtain ⟨y, k1, k2⟩ := c2 x hx
        refine Wact_ok k1 hs' (hK.2 _ k2) (fun s2 φ2 a2 w2 hK2 hs2 => ?_)
        obtain ⟨s3, hk3, hI3⟩ := hK2
        obtain ⟨φ3, hs3⟩ := hk3 N M0 φ2 a2 w2 rfl hs2
        exact ⟨s3, φ3, hI3, hs3⟩⟩)
      simpa [Early.dnK] using this
    · cases hc
  · cases hc
def RoOk (ro : Option Nat) : AC → Prop
  | .seq a b => RoOk ro a ∧ RoOk ro b
  | .cond _ a b => RoOk ro a ∧ RoOk ro b
  | .block _ a => RoOk ro a
  | .loop a => RoOk ro a
  | .rangeF .. => ro = none
  | _ => True
theorem RoOk.none : ∀ ac, RoOk none ac
  | .seq a b => ⟨RoOk.none a, RoOk.none b⟩
  | .cond _ a b => ⟨RoOk.none a, RoOk.none b⟩
  | .block _ a => RoOk.none a
  | .loop a => RoOk.none a
  | .rangeF .. => rfl
  | .skip => trivial
  | .ops _ => trivial
  | .segs _ => trivial
  | .tree _ => trivial
  | .dag _ => trivial
  | .exit _ => trivial
  | .ret => trivial
def roB : AC → Bool
  | .seq a b => roB a && roB b
  | .cond _ a b => roB a && roB b
  | .block _ a => roB a
  | .loop a => roB a
  | .rangeF .. => false
  | _ => true
theorem roB_ok (ro : Option Nat) : ∀ {ac : AC}, roB ac = true → RoOk ro ac
  | .seq a b, h => by simp only [roB, Bool.and_eq_true] at h; exact ⟨roB_ok ro h.1, roB_ok ro h.2⟩
  | .cond _ a b, h => by simp only [roB, Bool.and_eq_true] at h; exact ⟨roB_ok ro h.1, roB_ok ro h.2⟩
  | .block _ a, h => roB_ok (ac := a) ro h
  | .loop a, h => roB_ok (ac := a) ro h
  | .rangeF .., h => by cases h
  | .skip, _ => trivial
  | .ops _, _ => trivial
  | .segs _, _ => trivial
  | .tree _, _ => trivial
  | .dag _, _ => trivial
  | .exit _, _ => trivial
  | .ret, _ => trivial
theorem wpIn_scope_straight {F : Fence} {n : Nat} {Q : Exit → Act → World → Prop} {a : Act} {w : World} {c : Code} (h : c.wpIn F n P (Exit.noGoto Q) a w) : (Code.scope c).wpIn F n P Q a w := by
  intro b k cs hro hb hr
  have h0 : (lone (b.atR a (.code (.scope c) :: k)) cs w).fenced P F := fenced_calm hb hr rfl
  have s1 : step P (lone (b.atR a (.code (.scope c) :: k)) cs w) = .next (lone (b.atR a (.code c :: .inScope c :: k)) cs w) := step_lone_go (by simp [stepG, stepG.exec, Frame.atR])
  have s2 : ∀ a₁ w₁, step P (lone (b.atR a₁ (.inScope c :: k)) cs w₁) = .next (lone (b.atR a₁ k) cs w₁) := fun a₁ w₁ => step_lone_go (by simp [stepG, stepG.exec, Frame.atR])
  obtain ⟨e, a₁, w₁, hq, harr⟩ := h b (.inScope c :: k) cs hro hb hr
  cases e with
  | normal => exact ⟨.normal, a₁, w₁, hq, .head h0 s1 (StepsIn.trans harr (.one (fenced_calm hb hr rfl) (s2 _ _)))⟩
  | exit id =>
    have hx : exitTo id (.inScope c :: k) = exitTo id k := by simp [exitTo]
    exact ⟨.exit id, a₁, w₁, hq, fun k' hk => .head h0 s1 (harr.1 k' (by rw [hx]; exact hk)), fun hr' hk => let ⟨k₁, h1, h2⟩ := harr.2 hr' (by rw [hx]; exact hk); ⟨k₁, h1, .head h0 s1 h2⟩⟩
  | goto l => exact hq.elim
  | ret => exact ⟨_, a₁, w₁, hq, .of_steps (.one h0 s1) harr⟩
  | panic ch => exact ⟨_, a₁, w₁, hq, .of_steps (.one h0 s1) harr⟩
  | outgrown => exact ⟨_, a₁, w₁, hq, .of_steps (.one h0 s1) harr⟩
theorem wpIn_loop_ghost {F : Fence} {m : Nat} {Q : Exit → Act → World → Prop} {a : Act} {w : World} {c : Code} (I : Nat → Act → World → Prop) (n₀ : Nat) (h₀ : I n₀ a w)
    (round : ∀ n a w, I n a w → c.wpIn F m P (Exit.then (fun a' w' => ∃ n', n' < n ∧ I n' a' w') Q) a w) : (Code.loop c).wpIn F m P Q a w := by
  refine wpIn_loop (fun a w => ∃ n, I n a w) (fun a w => leastOf (fun n => I n a w)) ⟨n₀, h₀⟩ ?_
  intro a w hI
  refine wpIn_mono (round _ a w (leastOf_spec hI).1) ?_
  intro e a' w' hq
  cases e with
  | normal =>
    obtain ⟨n', hlt, hI'⟩ := hq
    exact ⟨⟨n', hI'⟩, Nat.lt_of_le_of_lt ((leastOf_spec ⟨n', hI'⟩).2 n' hI') hlt⟩
  | exit id => exact hq
  | goto l => exact hq
  | ret => exact hq
  | panic ch => exact hq
  | outgrown => exact hq
theorem loop_over {M : Mem} (hM : MemOk M) {o b n : Nat} {t : List (Nat × AV)} {ps : List Nat} {a c : Code} {st : LSt} (ho : M.H[o]? = some (.lp n t ps a c st)) (hb : M.φ o = some b) (hst : st.state ≠ .busy) (hov : st ≠ .over) :
    ∃ w4, (Instr.endLoop b).run P M.w = .ok st.pend w4 ∧ MemOk ⟨w4, M.H.set o (.lp n t ps a c .over), upd M.φ o (M.φ o), M.base, M.S⟩ ∧ Le M ⟨w4, M.H.set o (.lp n t ps a c .over), upd M.φ o (M.φ o), M.base, M.S⟩ ∧ Below M.base M.w w4 := by
  have hlo := (List.getElem?_eq_some_iff.1 ho).1
  obtain ⟨b', r0, j1, j2, j3, j4, j5, j6, j7, j8, j9⟩ := hM.ok _ _ ho
  rw [hb] at j1
  injection j1 with j1
  subst j1
  have hp : r0.pending = st.pend := j4.resolve_left hov
  have hlt := (Array.getElem?_eq_some_iff.1 j2).1
  have hold : ∀ k, k < M.w.heap.size → M.φ o ≠ some k → (M.w.putObj b (.loop { r0 with state := .exhausted })).heap[k]? = M.w.heap[k]? := fun k _ hne => World.putObj_heap_other (fun e => hne (by rw [hb, e]))
  have hnew : (M.w.putObj b (.loop { r0 with state := .exhausted })).heap[b]? = some (.loop { r0 with state := .exhausted }) := World.putObj_heap_same hlt
  have hsz : M.w.heap.size ≤ (M.w.putObj b (.loop { r0 with state := .exhausted })).heap.size := by simp [World.putObj]
  have hsh : ∀ k, M.φ o = some k → (M.w.putObj b (.loop { r0 with state := .exhausted })).shape? k = M.w.shape? k := fun k hk => by
    rw [hb] at hk
    injection hk with hk
    subst hk
    simp [World.shape?, hnew, j2]
  have hle := Le.turn hM (ob' := .lp n t ps a c .over) ho rfl hsz hold (.inl rfl) rfl (Nat.le_refl _) (fun _ => ⟨rfl, rfl, hsh⟩)
  refine ⟨_, by rw [run_endLoop j2 (by rw [j3]; exact hst), hp], ?_, hle, ?_⟩
  · exact MemOk.turn hM ho rfl hsz hold (.inl rfl) rfl (Nat.le_refl _) (fun _ => ⟨rfl, rfl, hsh⟩) ⟨b, { r0 with state := .exhausted }, (upd_at _ _ _).trans hb, hnew, rfl, .inl rfl, j5, j6, j7, j8, fun i => (j9 i).mono hle⟩
  · exact (Below.refl _ _).grown (grownBy_putObj' _ _ _) hM.bs (fun k e => by cases e; exact hM.lo o b hlo hb)
set_option maxHeartbeats 1000000 in
theorem range_ok {g : Operand} {ps : Array Tmp} {ca cb : Code} {Q : AExit → St → Prop} {s : St} {φ : Nat → Option Nat} {a : Act} {w : World} (h : W P M0.H.length (.rangeF N g ps.toList ca cb) Q s) (hs : Sim N M0 s φ a w) : (Code.rangeFunc g ps ca cb).wpIn (Early.fen none) 0 P (Sims N M0 Q) a w := by
  simp only [W] at h
  split at h
  · rename_i f cap hg
    obtain ⟨hcl, hH⟩ := h
    have hgv := aev_ok hs.r hg
    generalize hv : a.eval g = v at hgv
    cases hgv with
    | fn _ _ _ fs cs hl hl' hr hr' =>
      have hfs : fs = #[] := Array.eq_empty_of_size_eq_zero (by simpa using hl)
      subst hfs
      refine wpIn_rangeFunc fun fn _ => ?_
      obtain ⟨w1, hw1⟩ : ∃ w1, w1 = w.alloc (.deferred (some [])) := ⟨_, rfl⟩
      have hM := hs.m
      have e1 : w1.heap.size = w.heap.size + 1 := by rw [hw1]; simp
      have e2 : ∀ b, b < w.heap.size → w1.heap[b]? = w.heap[b]? := fun b hb => by rw [hw1]; exact Below.heap_alloc _ _ _ hb
      have hM1 : MemOk ⟨w1, s.H, φ, M0.base, M0.S⟩ := MemOk.ext hM (by dsimp only; omega) e2
      have hle1 : Le ⟨w, s.H, φ, M0.base, M0.S⟩ ⟨w1, s.H, φ, M0.base, M0.S⟩ := Le.ext hM (by dsimp only; omega) e2
      obtain ⟨rec, hrec⟩ : ∃ rec : Loop, rec = { state := .ready, pending := none, fn, tmps := a.tmps, params := ps, assign := ca, body := cb, defers := w.heap.size } := ⟨_, rfl⟩
      obtain ⟨w2, hw2⟩ : ∃ w2, w2 = w1.alloc (.loop rec) := ⟨_, rfl⟩
      have e3 : w2.heap.size = w1.heap.size + 1 := by rw [hw2]; simp
      have e4 : ∀ b, b < w1.heap.size → w2.heap[b]? = w1.heap[b]? := fun b hb => by rw [hw2]; exact Below.heap_alloc _ _ _ hb
      have e5 : w2.heap[w1.heap.size]? = some (.loop rec) := by rw [hw2]; exact World.alloc_heap_new _ _
      have hle2 : Le ⟨w1, s.H, φ, M0.base, M0.S⟩ ⟨w2, s.H ++ [.lp N s.t ps.toList ca cb .ready], upd φ s.H.length (some w1.heap.size), M0.base, M0.S⟩ := Le.grow hM1 (by dsimp only; omega) e4 (fun b hb => by injection hb with hb; dsimp only; omega)
      have hM2 : MemOk ⟨w2, s.H ++ [.lp N s.t ps.toList ca cb .ready], upd φ s.H.length (some w1.heap.size), M0.base, M0.S⟩ := MemOk.grow hM1 (by dsimp only; omega) e4 (fun b hb => by injection hb with hb; dsimp only; omega)
        ⟨w1.heap.size, rec, upd_at _ _ _, e5, by rw [hrec]; rfl, .inr (by rw [hrec]; rfl), by rw [hrec], by rw [hrec], by rw [hrec], by rw [hrec]; exact hs.n, fun i => by rw [hrec]; exact (hs.r i).mono (hle1.trans hle2)⟩
      have hle := hle1.trans hle2
      have hD : Mem.shared ⟨w1, s.H, φ, M0.base, M0.S⟩ w.heap.size ∧ w1.heap[w.heap.size]? = some (.deferred (some [])) := by
        refine ⟨⟨by dsimp only; omega, fun hb => absurd hM.bs (by dsimp only at hb ⊢; omega), fun o ob ho _ e => ?_⟩, by rw [hw1]; exact World.alloc_heap_new _ _⟩
        have := hM.lt (List.getElem?_eq_some_iff.1 ho).1 e
        dsimp only at this
        omega
      have hD2 := hle2.sh _ hD.1
      have hb2 : Below M0.base w w2 := by
        have h0 : M0.base ≤ w.heap.size := hM.bs
        rw [hw2, hw1]
        exact (((Below.refl _ w).alloc h0 _).alloc (by simp; omega) _)
      refine ⟨w.heap.size + 1, [markD w.heap.size], w2, { target := .fn (.func f) cs, args := #[.func (.yield (w.heap.size + 1)) #[] #[]] }, w2, f, #[.func (.yield (w.heap.size + 1)) #[] #[]] ++ cs, w2, ?_, ?_, (fun _ _ => trivial), ?_, (fun h => by cases h), callsIn_wide.2 ?_⟩
      · rw [hw2, hw1, hrec]; exact run_enterLoop_outer _ _ _ _ _
      · simp only [resolve, hv]
        simp [go_sem]
      · simp only [invoke]
        rw [run_callable hcl]
      · rw [show (#[Value.func (.yield (w.heap.size + 1)) #[] #[]] ++ cs) = (Value.func (.yield (w.heap.size + 1)) #[] #[] :: cs.toList).toArray from Array.toList_inj.1 (by simp)]
        refine (hH ⟨w2, s.H ++ [.lp N s.t ps.toList ca cb .ready], upd φ s.H.length (some w1.heap.size), M0.base, M0.S⟩ (.func (.yield (w.heap.size + 1)) #[] #[] :: cs.toList) hM2 rfl ⟨by simpa using hl', fun i hi hi' => ?_⟩).mono ?_
        · cases i with
          | zero =>
            refine .yl _ _ ⟨.lp N s.t ps.toList ca cb .ready, by simp, Nat.le_refl _, fun _ => ⟨w1.heap.size, upd_at _ _ _, ?_⟩⟩
            rw [e1]; rfl
          | succ i =>
            simp only [List.getElem_cons_succ, Array.getElem_toList]
            exact (hr' i (by simpa using hi) (by simpa using hi')).mono hle
        · rintro en w3 ⟨v, r, H', φ', rfl, hR, hM3, hle3, -, hb3, -⟩
          unfold AfterR at hR
          have hz : ∀ {n : Nat} {t' : List (Nat × AV)} {ps' : List Nat} {a' c' : Code} {st : LSt}, H'[s.H.length]? = some (.lp n t' ps' a' c' st) → st.state ≠ .busy → st ≠ .over → ∃ w4, (Instr.endLoop (w.heap.size + 1)).run P w3 = .ok st.pend w4 ∧
              Sim N M0 ⟨s.t, H'.set s.H.length (.lp n t' ps' a' c' .over)⟩ (upd φ' s.H.length (φ' s.H.length)) { a with defers := markD w.heap.size :: a.defers } w4 := by
            intro n t' ps' a' c' st hob hst hov
            obtain ⟨ob', k1, k2, k3, k4⟩ := hle3.ob s.H.length (.lp N s.t ps.toList ca cb .ready) (by simp)
            dsimp only at k1
            rw [hob] at k1
            injection k1 with k1
            subst k1
            obtain ⟨-, k5, -⟩ := k4 rfl
            have k7 : φ' s.H.length = some (w.heap.size + 1) := by rw [← e1]; exact k5.trans (upd_at _ _ _)
            obtain ⟨w4, hrun, hM4, hle4, hb4⟩ := loop_over (P := P) (M := ⟨w3, H', φ', M0.base, M0.S⟩) hM3 hob k7 hst hov
            refine ⟨w4, hrun, ?_⟩
            have hall := (hle.trans hle3).trans hle4
            have hDD := (hle3.trans hle4).sh _ hD2.1
            refine ⟨?_, hs.n, hM4, fun i => (hs.r i).mono hall, hs.b.trans ((hb2.trans hb3).trans hb4), hs.le.trans hall⟩
            obtain ⟨Ds, d1, d2, d3⟩ := hs.d
            refine ⟨w.heap.size :: Ds, by simp only [List.map_cons, d1], List.nodup_cons.2 ⟨fun hm => ?_, d2⟩, fun D hm => ?_⟩
            · have := (d3 _ hm).2.1.1
              dsimp only at this
              omega
            · rcases List.mem_cons.1 hm with rfl | hm
              · exact ⟨⟨hs.b.size, hM.bs⟩, hDD.1, hDD.2.trans (hD2.2.trans hD.2)⟩
              · obtain ⟨q1, q2, q3⟩ := d3 D hm
                have := hall.sh _ q2
                exact ⟨q1, this.1, this.2.trans q3⟩
          split at hR
          · rename_i n t' ps' a' c' hob
            obtain ⟨w4, hrun, hs4⟩ := hz hob (by simp [LSt.state]) (by simp)
            exact ⟨none, w4, hrun, ⟨.normal, _, _, rfl, hR, hs4⟩⟩
          · rename_i n t' ps' a' c' hob
            obtain ⟨w4, hrun, hs4⟩ := hz hob (by simp [LSt.state]) (by simp)
            exact ⟨some .ret, w4, hrun, wpIn_ret ⟨.ret, _, _, rfl, hR, hs4⟩⟩
          · rename_i n t' ps' a' c' id hob
            obtain ⟨w4, hrun, hs4⟩ := hz hob (by simp [LSt.state]) (by simp)
            exact ⟨some (.exit id), w4, hrun, wpIn_exit ⟨.exit id, _, _, rfl, hR, hs4⟩⟩
          · exact hR.elim
  · exact h.elim
theorem W_ok : ∀ {c : Code} {ac : AC}, ccode P N c = some ac → ∀ {Q : AExit → St → Prop} {s : St} {φ : Nat → Option Nat} {a : Act} {w : World}, W P M0.H.length ac Q s → Sim N M0 s φ a w → ∀ (ro : Option Nat), RoOk ro ac → c.wpIn (Early.fen ro) 0 P (Sims N M0 Q) a w
  | .skip, ac, hc, Q, s, φ, a, w, h, hs, ro, hro => by
    simp only [ccode, Option.some.injEq] at hc; subst hc
    exact wpIn_skip ⟨.normal, s, φ, rfl, h, hs⟩
  | .label l, ac, hc, Q, s, φ, a, w, h, hs, ro, hro => by
    simp only [ccode, Option.some.injEq] at hc; subst hc
    exact wpIn_label ⟨.normal, s, φ, rfl, h, hs⟩
  | .region id ops false, ac, hc, Q, s, φ, a, w, h, hs, ro, hro => by
    simp only [ccode, Option.map_eq_some_iff] at hc
    obtain ⟨al, hal, rfl⟩ := hc
    exact wpIn_region_list (Early.wpList_in ro _ _ _ (Wops_ok hal hs h (fun s' φ' a' w' hK hs' => ⟨.normal, s', φ', rfl, hK, hs'⟩)))
  | .region id ops true, ac, hc, Q, s, φ, a, w, h, hs, ro, hro => by
    simp only [ccode] at hc
    split at hc
    case h_2 =>
     split at hc
     case h_1 =>
      rename_i x0 hx0
      injection hc with hc
      subst hc
      have hc := hx0
      simp only [cdag] at hc
      split at hc
      · cases hc
      · rename_i tab htab
        split at hc
        · rename_i hcond
          simp only [Bool.and_eq_true] at hcond
          obtain ⟨⟨⟨⟨-, k1⟩, k2⟩, k3⟩, k4⟩ := hcond
          obtain ⟨at_, hat, rfl⟩ := Option.map_eq_some_iff.1 hc
          obtain ⟨I, ⟨s0, hk0, hI0⟩, hI⟩ := h
          obtain ⟨φ0, hs0⟩ := hk0 N M0 φ a w.drew rfl hs.drew
          have := Early.wp_region_dag (P := P) (id := id) (l := ops.toList) (Q := Sims N M0 Q) (a := a) (w := w) (fun i => !(actStores P ops).contains i) tab k1 (by simpa using k2) (by simpa using k3) (by simpa using k4)
            (fun i a w => ∃ s φ, I i s ∧ Sim N M0 s φ a w) (by
              simp only [Array.toArray_toList]
              exact Wdag_ok hat hI (fun s' φ' a' w' hK hs' => ⟨.normal, s', φ', rfl, hK, hs'⟩)) ⟨s0, φ0, hI0, hs0⟩ ro
          simpa using this
        · cases hc
     case h_2 =>
      simp only [ctree] at hc
      split at hc
      · cases hc
      · rename_i t ht
        split at hc
        · rename_i hcond
          simp only [Bool.and_eq_true, beq_iff_eq] at hcond
          obtain ⟨⟨⟨k1, k2⟩, k3⟩, k4⟩ := hcond
          obtain ⟨at_, hat, rfl⟩ := Option.map_eq_some_iff.1 hc
          have := Early.wp_region_nt (P := P) (id := id) (l := ops.toList) (Q := Sims N M0 Q) (a := a) (w := w) (fun i => !(actStores P ops).contains i) t k1 k2 k3 k4
            (Wtree_ok (ops := ops) (K' := Sims N M0 Q .normal) hat hs.drew h (fun s' φ' a' w' hK hs' => by
              obtain ⟨s2, hk2, hQ2⟩ := hK
              obtain ⟨φ2, hs2⟩ := hk2 N M0 φ' a' w' rfl hs'
              exact ⟨.normal, s2, φ2, rfl, hQ2, hs2⟩)) ro
          exact this
        · cases hc
    rename_i x0 hx0
    injection hc with hc
    subst hc
    have hc := hx0
    simp only [csegs] at hc
    split at hc
    · cases hc
    · rename_i sg hsg
      split at hc
      · rename_i hcond
        simp only [Bool.and_eq_true, beq_iff_eq] at hcond
        obtain ⟨⟨⟨k1, k2⟩, k3⟩, k4⟩ := hcond
        obtain ⟨al, hal, rfl⟩ := Option.map_eq_some_iff.1 hc
        have := Early.wp_region_early (P := P) (id := id) (l := ops.toList) (Q := Sims N M0 Q) (a := a) (w := w) (actStores P ops) sg k1 (by simpa using k2) (by simpa using k3) (by simpa using k4)
          (by
            simp only [Array.toArray_toList]
            exact Wsegs_ok hal hs.drew h (fun s' φ' a' w' hK hs' => ⟨.normal, s', φ', rfl, hK, hs'⟩)) ro
        simpa using this
      · cases hc
  | .seq x y, ac, hc, Q, s, φ, a, w, h, hs, ro, hro => by
    simp only [ccode] at hc
    split at hc
    · rename_i ax ay hx hy
      injection hc with hc; subst hc
      refine wpIn_seq (wpIn_mono (W_ok hx h hs ro hro.1) ?_)
      rintro e a' w' ⟨ae, s', φ', rfl, hq, hs'⟩
      cases ae with
      | normal => exact W_ok hy hq hs' ro hro.2
      | exit id => exact ⟨.exit id, s', φ', rfl, hq, hs'⟩
      | ret => exact ⟨.ret, s', φ', rfl, hq, hs'⟩
    · cases hc
  | .cond c x y, ac, hc, Q, s, φ, a, w, h, hs, ro, hro => by
    simp only [ccode] at hc
    split at hc
    · rename_i ax ay hx hy
      injection hc with hc; subst hc
      simp only [W] at h
      split at h
      · rename_i t ht
        have hv := (aev_ok hs.r ht).lit.1
        refine wpIn_cond hv ?_
        cases t
        · exact W_ok hy h hs ro hro.2
        · exact W_ok hx h hs ro hro.1
      · exact h.elim
    · cases hc
  | .block id x, ac, hc, Q, s, φ, a, w, h, hs, ro, hro => by
    simp only [ccode, Option.map_eq_some_iff] at hc
    obtain ⟨ax, hx, rfl⟩ := hc
    refine wpIn_block (wpIn_mono (W_ok hx h hs ro hro) ?_)
    rintro e a' w' ⟨ae, s', φ', rfl, hq, hs'⟩
    cases ae with
    | normal => exact ⟨.normal, s', φ', rfl, hq, hs'⟩
    | exit i =>
      simp only [toExit, Exit.inBlock]
      by_cases hi : i = id
      · rw [if_pos hi]
        simp only [if_pos hi] at hq
        exact ⟨.normal, s', φ', rfl, hq, hs'⟩
      · rw [if_neg hi]
        simp only [if_neg hi] at hq
        exact ⟨.exit i, s', φ', rfl, hq, hs'⟩
    | ret => exact ⟨.ret, s', φ', rfl, hq, hs'⟩
  | .loop x, ac, hc, Q, s, φ, a, w, h, hs, ro, hro => by
    simp only [ccode, Option.map_eq_some_iff] at hc
    obtain ⟨ax, hx, rfl⟩ := hc
    obtain ⟨I, ⟨n0, s0, hk, hI⟩, round⟩ := h
    obtain ⟨φ0, hs0⟩ := hk N M0 φ a w rfl hs
    refine wpIn_loop_ghost (fun n a w => ∃ s φ, I n s ∧ Sim N M0 s φ a w) n0 ⟨s0, φ0, hI, hs0⟩ ?_
    rintro n a1 w1 ⟨s1, φ1, hI1, hs1⟩
    refine wpIn_mono (W_ok hx (round n s1 hI1) hs1 ro hro) ?_
    rintro e a' w' ⟨ae, s', φ', rfl, hq, hs'⟩
    cases ae with
    | normal =>
      obtain ⟨n', s2, hk2, hI2, hlt⟩ := hq
      obtain ⟨φ2, hs2⟩ := hk2 N M0 φ' a' w' rfl hs'
      exact ⟨n', hlt, s2, φ2, hI2, hs2⟩
    | exit i => exact ⟨.exit i, s', φ', rfl, hq, hs'⟩
    | ret => exact ⟨.ret, s', φ', rfl, hq, hs'⟩
  | .exit id, ac, hc, Q, s, φ, a, w, h, hs, ro, hro => by
    simp only [ccode, Option.some.injEq] at hc; subst hc
    exact wpIn_exit ⟨.exit id, s, φ, rfl, h, hs⟩
  | .ret, ac, hc, Q, s, φ, a, w, h, hs, ro, hro => by
    simp only [ccode, Option.some.injEq] at hc; subst hc
    exact wpIn_ret ⟨.ret, s, φ, rfl, h, hs⟩
  | .goto _, ac, hc, _, _, _, _, _, _, _, _, _ => by simp [ccode] at hc
  | .rangeFunc g ps ca cb, ac, hc, Q, s, φ, a, w, h, hs, ro, hro => by
    simp only [ccode, Option.some.injEq] at hc; subst hc
    obtain rfl : ro = none := hro
    exact range_ok h hs
  | .scope x, ac, hc, Q, s, φ, a, w, h, hs, ro, hro => by
    simp only [ccode] at hc
    refine wpIn_scope_straight (wpIn_mono (W_ok hc h hs ro hro) ?_)
    rintro e a' w' ⟨ae, s', φ', rfl, hq, hs'⟩
    cases ae with
    | normal => exact ⟨.normal, s', φ', rfl, hq, hs'⟩
    | exit id => exact ⟨.exit id, s', φ', rfl, hq, hs'⟩
    | ret => exact ⟨.ret, s', φ', rfl, hq, hs'⟩
  | .refuse _, ac, hc, _, _, _, _, _, _, _, _, _ => by simp [ccode] at hc
inductive ARes where
  | tmp (i : Nat)
  | cell (i : Nat) (ag : Bool) (n : Nat)
structure AFn where
  n : Nat
  body : AC
  res : List ARes
def res1 (s : St) : ARes → Option AV
  | .tmp i => some (get s.t i)
  | .cell i ag n => (astep (.load ag n (.tmp i)) s).map (·.1)
def resL (s : St) : List ARes → Option (List AV)
  | [] => some []
  | x :: l => match res1 s x, resL s l with
    | some y, some m => some (y :: m)
    | _, _ => none
def resT : List AV → AV
  | [x] => x
  | l => .tup l
def resOf (s : St) (l : List ARes) : Option AV := (resL s l).map resT
def initT (k : Nat) : List AV → List (Nat × AV)
  | [] => []
  | x :: l => (k, x) :: initT (k + 1) l
def cres (P : Program) : List ResultVar → Option (List ARes)
  | [] => some []
  | .tmp i :: l => (cres P l).map (.tmp i :: ·)
  | .cell i t :: l => match agO P t, szO P t with
    | some ag, some n => (cres P l).map (.cell i ag n :: ·)
    | _, _ => none
def cfn (P : Program) (f : FuncId) (n : Nat) : Option AFn :=
  match P.funcs[f]? with
  | none => none
  | some fn => match fn.body, cres P fn.results.toList with
    | some c, some rs => (ccode P (n + (fn.ntmps - n)) c).map fun ac => ⟨n + (fn.ntmps - n), ac, rs⟩
    | _, _ => none
theorem resL_ok {P : Program} {M : Mem} {s : St} {a : Act} (hM : MemOk M) (hH : M.H = s.H) (hE : Env M s.t a) (f : ResultVar → Sem Value) (hf : ∀ i, f (.tmp i) = pure (a.tmps.getD i undef)) (hf' : ∀ c t, f (.cell c t) = (do loadVar t (← asAddr (a.tmps.getD c undef)))) :
    ∀ {l : List ResultVar} {rs : List ARes} {ys : List AV}, cres P l = some rs → resL s rs = some ys → ∃ vs, (l.mapM f).run P M.w = .ok vs M.w ∧ RAs M ys vs
  | [], rs, ys, h, h' => by
    simp only [cres, Option.some.injEq] at h
    subst h
    simp only [resL, Option.some.injEq] at h'
    subst h'
    exact ⟨[], by simp, rfl, fun i h => by simp at h⟩
  | rv :: l, rs, ys, h, h' => by
    have key : ∀ {ar : ARes} {rs' : List ARes}, rs = ar :: rs' → cres P l = some rs' → (∀ {y : AV}, res1 s ar = some y → ∃ v, (f rv).run P M.w = .ok v M.w ∧ RA M y v) → ∃ vs, ((rv :: l).mapM f).run P M.w = .ok vs M.w ∧ RAs M ys vs := by
      intro ar rs' hrs hl h1
      subst hrs
      simp only [resL] at h'
      split at h'
      · rename_i y m hy hm
        injection h' with h'
        subst h'
        obtain ⟨v, hv, hr⟩ := h1 hy
        obtain ⟨vs, hvs, k1, k2⟩ := resL_ok hM hH hE f hf hf' hl hm
        refine ⟨v :: vs, by simp only [List.mapM_cons, Sem.run_bind, hv, Result.andThen_ok, hvs, Sem.run_pure], by simp [k1], fun i hi hi' => ?_⟩
        cases i with
        | zero => exact hr
        | succ i => exact k2 i (by simpa using hi) (by simpa using hi')
      · cases h'
    cases rv with
    | tmp i =>
      simp only [cres, Option.map_eq_some_iff] at h
      obtain ⟨rs', hrs, rfl⟩ := h
      refine key rfl hrs (fun {y} hy => ?_)
      simp only [res1, Option.some.injEq] at hy
      subst hy
      exact ⟨_, by rw [hf]; rfl, hE i⟩
    | cell c t =>
      simp only [cres] at h
      split at h
      · rename_i ag n hag hn
        simp only [Option.map_eq_some_iff] at h
        obtain ⟨rs', hrs, rfl⟩ := h
        refine key rfl hrs (fun {y} hy => ?_)
        simp only [res1, Option.map_eq_some_iff] at hy
        obtain ⟨⟨y', H'⟩, h1, rfl⟩ := hy
        obtain ⟨ad, v, hv, hrun, hr, _⟩ := load_run hag hn hM hH hE h1
        refine ⟨v, ?_, hr⟩
        have hv' : a.tmps.getD c undef = .pointer (some ad) := hv
        rw [hf', hv']
        simp only [asAddr, Sem.run_bind, Sem.run_pure, Result.andThen_ok, hrun]
      · cases h
theorem res_ok {P : Program} {M : Mem} {s : St} {a : Act} {fn : Func} {rs : List ARes} {y : AV} (hM : MemOk M) (hH : M.H = s.H) (hE : Env M s.t a) (hr : cres P fn.results.toList = some rs) (h : resOf s rs = some y) :
    ∃ v, (results fn a.tmps).run P M.w = .ok v M.w ∧ RA M y v := by
  obtain ⟨ys, hys, rfl⟩ := Option.map_eq_some_iff.1 h
  have key : ∀ f : ResultVar → Sem Value, (∀ i, f (.tmp i) = pure (a.tmps.getD i undef)) → (∀ c t, f (.cell c t) = (do loadVar t (← asAddr (a.tmps.getD c undef)))) →
      ∃ v, (((Sem.run P (List.mapM f fn.results.toList) M.w).andThen fun a w' => Result.ok a.toArray w').andThen fun a w' => Sem.run P (pure (if h : a.size = 1 then a[0] else .tuple a)) w') = Result.ok v M.w ∧ RA M (resT ys) v := by
    intro f h1 h2
    obtain ⟨vs, hvs, k1, k2⟩ := resL_ok hM hH hE f h1 h2 hr hys
    refine ⟨_, by rw [hvs]; rfl, ?_⟩
    match ys, vs, k1, k2 with
    | [], [], _, _ => exact .tup [] #[] rfl (fun i h => by simp at h)
    | [y], [v], _, k2 => exact k2 0 (by simp) (by simp)
    | y :: y' :: ys, v :: v' :: vs, k1, k2 =>
      rw [dif_neg (by simp)]
      exact .tup _ _ (by simpa using k1) (fun i hi hi' => by
        simp only [List.getElem_toArray]
        exact k2 i hi (by simpa using hi'))
  have e : fn.results = fn.results.toList.toArray := by simp
  unfold results
  rw [e, List.mapM_toArray, Sem.run_bind, Sem.run_map]
  exact key _ (fun _ => rfl) (fun _ _ => rfl)
theorem get_init : ∀ (l : List AV) (k i : Nat), get (initT k l) i = if h : k ≤ i ∧ i - k < l.length then l[i - k]'h.2 else .dead
  | [], k, i => by simp [initT, get]
  | x :: l, k, i => by
    simp only [initT, get]
    by_cases e : k = i
    · subst e
      simp
    · rw [if_neg e, get_init l (k + 1) i]
      by_cases h : k + 1 ≤ i ∧ i - (k + 1) < l.length
      · rw [dif_pos h, dif_pos ⟨by omega, by simp; omega⟩]
        obtain ⟨m, hm⟩ : ∃ m, i - k = m + 1 := ⟨i - k - 1, by omega⟩
        have hm' : i - (k + 1) = m := by omega
        simp only [hm, hm', List.getElem_cons_succ]
      · rw [dif_neg h, dif_neg (by simp only [List.length_cons]; omega)]
theorem env_init {M : Mem} {args : List AV} {vs : List Value} (h : RAs M args vs) (k : Nat) : Env M (initT 0 args) { tmps := vs.toArray ++ Array.replicate k undef, defers := [] } := fun i => by
  rw [get_init]
  split
  · rename_i hi
    obtain ⟨_, hi⟩ := hi
    simp only [Nat.sub_zero] at hi ⊢
    have hl := h.1
    rw [Array.getD_eq_getD_getElem?, Array.getElem?_append_left (by simp; omega)]
    simp only [List.getElem?_toArray]
    rw [List.getElem?_eq_getElem (by omega)]
    exact h.2 i hi (by omega)
  · exact .dead _
end
end Abs
end Go
/-
  AN ABSTRACT MACHINE, part 14: objects under other numbers; what a call leaves is taken over.
-/
namespace Go
namespace Abs
open Go.RowKit
def ren0 (H : List AO) (ρ : Nat → Option Nat) : AV → AV
  | .p x => .p x
  | .os o off len => match ρ o with
    | some _ => .dead
    | none => match H[o]? with
      | some (.row els _ _ _) => if off + len = els.length then .p (.sl (els.drop off)) else .dead
      | _ => .dead
  | _ => .dead
mutual
def AV.ren (H : List AO) (ρ : Nat → Option Nat) : AV → AV
  | .p x => .p x
  | .os o off len => match ρ o with
    | some o' => .os o' off len
    | none => match H[o]? with
      | some (.row els _ _ _) => if off + len = els.length then .p (.sl (els.drop off)) else .dead
      | some (.tab els _ _) => if off + len = els.length then (match allOne (els.map (ren0 H ρ)) with | some ps => .p (.sl (ps.drop off)) | none => .dead) else .dead
      | _ => .dead
  | .ptr o n i j => match ρ o with
    | some o' => .ptr o' n i j
    | none => .dead
  | .mp o => match ρ o with
    | some o' => .mp o'
    | none => .dead
  | .bs o j len => match ρ o with
    | some o' => .bs o' j len
    | none => .dead
  | .yl o => match ρ o with
    | some o' => .yl o'
    | none => .dead
  | .cut _ _ _ _ => .dead
  | .bc _ _ _ => .dead
  | .ifc t x => .ifc t (AV.ren H ρ x)
  | .sp e j => .sp e j
  | .agg l => .agg (renL H ρ l)
  | .tup l => .tup (renL H ρ l)
  | .fn f a b => .fn f (renL H ρ a) (renL H ρ b)
  | .dead => .dead
def renL (H : List AO) (ρ : Nat → Option Nat) : List AV → List AV
  | [] => []
  | x :: l => AV.ren H ρ x :: renL H ρ l
end
theorem renL_eq (H : List AO) (ρ : Nat → Option Nat) : ∀ l, renL H ρ l = l.map (AV.ren H ρ)
  | [] => rfl
  | x :: l => by rw [renL, renL_eq H ρ l]; rfl
def AO.ren (H : List AO) (ρ : Nat → Option Nat) : AO → AO
  | .row els sz t fz => .row els sz t fz
  | .box x => .box (x.ren H ρ)
  | .tab els t fz => .tab (renL H ρ els) t fz
  | .dict kd es => .dict kd (es.map fun x => (x.1, x.2.ren H ρ))
  | .fbx x => .fbx (x.ren H ρ)
  | .lp n t ps a c st => .lp n (t.map fun x => (x.1, x.2.ren H ρ)) ps a c st
  | .arr els sz t => .arr (renL H ρ els) sz t
def calmP : PV → Bool
  | .v _ => true
  | .sl _ => false
  | .agg l => l.all fun
    | .v _ => true
    | _ => false
mutual
def calmA : AV → Bool
  | .p x => calmP x
  | .os _ _ _ | .ptr _ _ _ _ | .dead | .mp _ | .bs _ _ _ | .yl _ | .cut _ _ _ _ | .bc _ _ _ => true
  | .sp _ _ => false
  | .ifc _ x => calmA x
  | .agg l | .tup l => calmL l
  | .fn _ a b => calmL a && calmL b
def calmL : List AV → Bool
  | [] => true
  | x :: l => calmA x && calmL l
end
theorem calmL_mem : ∀ {l : List AV}, calmL l = true → ∀ x ∈ l, calmA x = true
  | y :: l, h, x, hx => by
    simp only [calmL, Bool.and_eq_true] at h
    rcases List.mem_cons.1 hx with rfl | hx
    · exact h.1
    · exact calmL_mem h.2 x hx
def calmO : AO → Bool
  | .row els _ _ _ => els.all calmP
  | .box x => calmA x
  | .tab els _ _ => calmL els
  | .dict _ es => es.all fun x => calmA x.2
  | .fbx x => calmA x
  | .lp _ t _ _ _ _ => t.all fun x => calmA x.2
  | .arr els _ _ => calmL els
theorem calmP_flat {e : PV} (h : calmP e = true) : ∀ c ∈ e.flat, calmP c = true := by
  cases e with
  | v => intro c hc; simp [PV.flat] at hc; subst hc; rfl
  | sl => cases h
  | agg l =>
    intro c hc
    have := List.all_eq_true.1 h c hc
    cases c <;> first | rfl | simp at this
theorem RP.calm {S S' : Nat → Prop} {w w' : World} {x : PV} {v : Value} (h : RP S w x v) (hc : calmP x = true) : RP S' w' x v := by
  cases h with
  | v _ h => exact .v _ h
  | sl => cases hc
  | agg l cs hl ho hr =>
    refine .agg l cs hl ho (fun i hi hi' => ?_)
    have := List.all_eq_true.1 hc _ (List.getElem_mem hi)
    have h2 := hr i hi hi'
    generalize l[i] = e at this h2 ⊢
    generalize cs[i] = u at h2 ⊢
    cases h2 with
    | v _ h => exact .v _ h
    | sl => simp at this
    | agg => simp at this
structure RenOk (M M' : Mem) (ρ : Nat → Option Nat) : Prop where
  ob : ∀ o o' ob, ρ o = some o' → M.H[o]? = some ob → ∃ ob', M'.H[o']? = some ob' ∧ ob'.tag = ob.tag ∧ ob'.len = ob.len ∧ ob'.sz = ob.sz ∧ M'.φ o' = M.φ o ∧ ∀ b, M.φ o = some b → M'.w.shape? b = M.w.shape? b
  dr : ∀ o ob, ρ o = none → M.H[o]? = some ob → ∀ b, M.φ o = some b → M'.shared b ∧ M'.w.heap[b]? = M.w.heap[b]?
def ShOk (M M' : Mem) : Prop := ∀ b, M.shared b → M'.shared b ∧ M'.w.heap[b]? = M.w.heap[b]?
theorem row_drop {M M' : Mem} {ρ : Nat → Option Nat} (hM : MemOk M) (hr : RenOk M M' ρ) (hc : ShOk M M') {o off len : Nat} {v : Value} (h : OsOk M o off len v) {els : List PV} {sz : Nat} {t : TypeId} {fz : Bool} (h1 : M.H[o]? = some (.row els sz t fz)) (hlen : off + len = els.length)
    (hρ : ρ o = none) : RP M'.shared M'.w (.sl (els.drop off)) v := by
  obtain ⟨ob, h1', h2, h3⟩ := h
  rw [h1] at h1'
  injection h1' with h1'
  subst h1'
  rcases h3 (by simpa [AO.len] using hlen) t rfl with (⟨a1, a2, a3, a4⟩ | ⟨b, cap, a1, a2, a3, a4, a5⟩) | ⟨_, hl, A, hv⟩
  rotate_right
  · have e0 : els.drop off = [] := List.length_eq_zero_iff.1 (by simp; omega)
    rw [e0, hv]
    exact .sl [] A 0 0 (fun _ _ => undef) (by simp) (by simp) (fun i h => by simp at h) (.inl rfl) (fun i h => by simp at h)
  · subst a2
    have e0 : els = [] := List.length_eq_zero_iff.1 (by omega)
    subst e0
    rw [a4]
    exact .sl [] none 0 0 (fun _ _ => undef) (by simp) (by simp) (fun i h => by simp at h) (.inl rfl) (fun i h => by simp at h)
  · obtain ⟨hfl, hrest⟩ := hM.ok o _ h1
    obtain ⟨hsh, hheap⟩ := hr.dr o _ hρ h1 b a1
    rcases hrest with ⟨hnone, _⟩ | ⟨b', cur, cap', hb1, hb2, hcs, hcap, hcells⟩
    · rw [a1] at hnone; cases hnone
    · rw [a1] at hb1
      injection hb1 with hb1
      subst hb1
      have hll : (els.drop off).length = len := by simp; omega
      rw [a2, ← hll]
      simp only [AO.sz]
      have hb2' : M'.w.heap[b]? = some (.cells cur t (0, 0)) := hheap.trans hb2
      refine .sl (els.drop off) _ cap sz (fun i j => cur.getD ((off + i) * sz + j) undef) (by omega) a4 (fun i hi => ?_) (.inr ⟨b, off * sz, rfl, hsh, fun i j hi hj => ?_⟩) (fun i hi j hj => ?_)
      · rw [List.getElem_drop]; exact hfl _ (List.getElem_mem _)
      · rw [hll] at hi
        have hfe := (hfl _ (List.getElem_mem (by omega : off + i < els.length))).1
        obtain ⟨c, k1, _⟩ := hcells (off + i) (by omega) j (by omega)
        rw [cell_of_row M'.w b _ cur t (0, 0) hb2', show off * sz + i * sz + j = (off + i) * sz + j by rw [Nat.add_mul], Array.getD_eq_getD_getElem?, k1]
        rfl
      · rw [hll] at hi
        simp only [List.getElem_drop] at hj ⊢
        obtain ⟨c, k1, k2⟩ := hcells (off + i) (by omega) j hj
        rw [Array.getD_eq_getD_getElem?, k1]
        exact k2.mono hc
theorem ren0_ok {M M' : Mem} {ρ : Nat → Option Nat} (hM : MemOk M) (hr : RenOk M M' ρ) (hc : ShOk M M') {x : AV} {v : Value} (h : RA M x v) {q : PV} (hq : ren0 M.H ρ x = .p q) : RP M'.shared M'.w q v := by
  unfold ren0 at hq
  split at hq
  · injection hq with hq
    subst hq
    exact h.toP.mono hc
  · rename_i o off len
    split at hq
    · cases hq
    · rename_i hρ
      split at hq
      · rename_i els sz t fz hob
        split at hq
        · rename_i hlen
          injection hq with hq
          subst hq
          exact row_drop hM hr hc h.toOs hob hlen hρ
        · cases hq
      · cases hq
  · cases hq
theorem RA.ren {M M' : Mem} {ρ : Nat → Option Nat} (hM : MemOk M) (hr : RenOk M M' ρ) {x : AV} {v : Value} (h : RA M x v) : ((calmA x = true ∧ ∀ o, (ρ o).isSome = true) ∨ ShOk M M') → RA M' (x.ren M.H ρ) v := by
  induction h with
  | p x v h =>
    intro hc
    rw [AV.ren]
    rcases hc with hc | hc
    · exact .p _ _ (h.calm hc.1)
    · exact .p _ _ (h.mono hc)
  | os o off len v h =>
    intro hc
    rw [AV.ren]
    obtain ⟨ob, h1, h2, h3⟩ := id h
    cases hρ : ρ o with
    | some o' =>
      obtain ⟨ob', k1, k2, k3, k4, k5, k6⟩ := hr.ob o o' ob hρ h1
      dsimp only
      refine .os _ _ _ _ ⟨ob', k1, by omega, fun e t ht => ?_⟩
      rcases h3 (by omega) t (k2 ▸ ht) with (⟨a1, a2, a3, a4⟩ | ⟨b, cap, a1, a2, a3, a4, a5⟩) | h3
      · exact .inl (.inl ⟨k5.trans a1, a2, a3, a4⟩)
      · exact .inl (.inr ⟨b, cap, k5.trans a1, by rw [k4]; exact a2, a3, a4, by rw [k6 b a1, k4]; exact a5⟩)
      · exact .inr h3
    | none =>
      dsimp only
      rcases hc with hc | hc
      · have := hc.2 o
        rw [hρ] at this
        cases this
      · rw [h1]
        cases ob with
        | box y => exact .dead _
        | dict kd es => exact .dead _
        | fbx y => exact .dead _
        | lp => exact .dead _
        | arr => exact .dead _
        | tab els t fz =>
          dsimp only
          split
          · rename_i hlen
            split
            · rename_i ps hps
              obtain ⟨hmap, hone⟩ := allOne_ok hps
              have hpl : ps.length = els.length := by have := congrArg List.length hmap; simpa using this.symm
              have hat : ∀ i (hi : i < els.length), ren0 M.H ρ els[i] = .p (ps[i]'(by omega)) := fun i hi => by
                have := congrArg (fun l => l[i]?) hmap
                simpa [hi, hpl] using this
              rcases h3 (by simpa [AO.len] using hlen) t rfl with (⟨a1, a2, a3, a4⟩ | ⟨b, cap, a1, a2, a3, a4, a5⟩) | ⟨_, hl, A, hv⟩
              rotate_right
              · have e0 : ps.drop off = [] := List.length_eq_zero_iff.1 (by simp; omega)
                rw [e0, hv]
                exact .p _ _ (.sl [] A 0 0 (fun _ _ => undef) (by simp) (by simp) (fun i h => by simp at h) (.inl rfl) (fun i h => by simp at h))
              · subst a2
                have e0 : els = [] := List.length_eq_zero_iff.1 (by omega)
                subst e0
                have e1 : ps = [] := List.length_eq_zero_iff.1 (by simpa using hpl)
                subst e1
                rw [a4]
                exact .p _ _ (.sl [] none 0 0 (fun _ _ => undef) (by simp) (by simp) (fun i h => by simp at h) (.inl rfl) (fun i h => by simp at h))
              · obtain ⟨hsh, hheap⟩ := hr.dr o _ hρ h1 b a1
                rcases hM.ok o _ h1 with ⟨hnone, _⟩ | ⟨b', cur, hb1, hb2, hcs, hcells⟩
                · rw [a1] at hnone; cases hnone
                · rw [a1] at hb1
                  injection hb1 with hb1
                  subst hb1
                  have hll : (ps.drop off).length = len := by simp; omega
                  rw [a2, ← hll]
                  simp only [AO.sz, Nat.mul_one]
                  have hb2' : M'.w.heap[b]? = some (.cells cur t (0, 0)) := hheap.trans hb2
                  refine .p _ _ (.sl (ps.drop off) _ cap 1 (fun i j => cur.getD (off + i) undef) (by omega) a4 (fun i hi => ?_) (.inr ⟨b, off, rfl, hsh, fun i j hi hj => ?_⟩) (fun i hi j hj => ?_))
                  · rw [List.getElem_drop]
                    have ho := hone _ (List.getElem_mem (by rw [hll] at hi; omega : off + i < ps.length))
                    rw [one_flat ho]
                    exact ⟨rfl, fun e he => by simp only [List.mem_singleton] at he; subst he; exact ho⟩
                  · rw [hll] at hi
                    obtain ⟨c, k1, _⟩ := hcells (off + i) (by omega)
                    rw [cell_of_row M'.w b _ cur t (0, 0) hb2', show off + i * 1 + j = off + i by omega, Array.getD_eq_getD_getElem?, k1]
                    rfl
                  · rw [hll] at hi
                    obtain ⟨c, k1, k2, k3⟩ := hcells (off + i) (by omega)
                    have ho := hone _ (List.getElem_mem (by omega : off + i < ps.length))
                    simp only [List.getElem_drop, one_flat ho] at hj ⊢
                    have hj0 : j = 0 := by simpa using hj
                    subst hj0
                    rw [Array.getD_eq_getD_getElem?, k1]
                    exact ren0_ok hM hr hc k2 (hat (off + i) (by omega))
            · exact .dead _
          · exact .dead _
        | row els sz t fz =>
          dsimp only
          split
          · rename_i hlen
            exact .p _ _ (row_drop hM hr hc h h1 (by simpa [AO.len] using hlen) hρ)
          · exact .dead _
  | ptr o n i j v h =>
    intro hc
    rw [AV.ren]
    obtain ⟨ob, h1, h2, h3⟩ := h
    cases hρ : ρ o with
    | some o' =>
      obtain ⟨ob', k1, k2, k3, k4, k5, k6⟩ := hr.ob o o' ob hρ h1
      refine .ptr _ _ _ _ _ ⟨ob', k1, by omega, fun e => ?_⟩
      obtain ⟨b, a1, a2⟩ := h3 (by omega)
      exact ⟨b, k5.trans a1, by rw [k4]; exact a2⟩
    | none => exact .dead _
  | mp o v h =>
    intro hc
    rw [AV.ren]
    obtain ⟨ob, h1, h2, h3⟩ := h
    cases hρ : ρ o with
    | some o' =>
      obtain ⟨ob', k1, k2, k3, k4, k5, k6⟩ := hr.ob o o' ob hρ h1
      refine .mp _ _ ⟨ob', k1, by omega, fun e => ?_⟩
      obtain ⟨b, a1, a2⟩ := h3 (by omega)
      exact ⟨b, k5.trans a1, a2⟩
    | none => exact .dead _
  | bs o j len v hl h =>
    intro hc
    rw [AV.ren]
    obtain ⟨ob, h1, h2, h3⟩ := h
    cases hρ : ρ o with
    | some o' =>
      obtain ⟨ob', k1, k2, k3, k4, k5, k6⟩ := hr.ob o o' ob hρ h1
      refine .bs _ _ _ _ hl ⟨ob', k1, by omega, fun e => ?_⟩
      obtain ⟨b, a1, a2⟩ := h3 (by omega)
      exact ⟨b, k5.trans a1, a2⟩
    | none => exact .dead _
  | yl o v h =>
    intro hc
    rw [AV.ren]
    obtain ⟨ob, h1, h2, h3⟩ := h
    cases hρ : ρ o with
    | some o' =>
      obtain ⟨ob', k1, k2, k3, k4, k5, k6⟩ := hr.ob o o' ob hρ h1
      refine .yl _ _ ⟨ob', k1, by omega, fun e => ?_⟩
      obtain ⟨b, a1, a2⟩ := h3 (by omega)
      exact ⟨b, k5.trans a1, a2⟩
    | none => exact .dead _
  | cut o off len k v h =>
    intro hc
    rw [AV.ren]
    exact .dead _
  | bc o len cap v hl hk h0 h =>
    intro hc
    rw [AV.ren]
    exact .dead _
  | ifc t x v h ih =>
    intro hc
    rw [AV.ren]
    exact .ifc _ _ _ (ih (hc.imp (fun h => ⟨by simpa [calmA] using h.1, h.2⟩) id))
  | sp e j b off c hb ho hc2 hr2 =>
    intro hc
    rw [AV.ren]
    rcases hc with hc | hc
    · exact absurd hc.1 (by simp [calmA])
    · refine .sp e j b off c (hc b hb).1 ho (fun k hk => ?_) (fun k hk => (hr2 k hk).mono hc)
      rw [World.cell?_of_block (w := M.w) (w' := M'.w) (hc b hb).2]
      exact hc2 k hk
  | agg l cs hl ho hr2 ih =>
    intro hc
    rw [AV.ren, renL_eq]
    refine .agg _ cs (by simpa using hl) ho (fun i hi hi' => ?_)
    simp only [List.length_map] at hi
    simp only [List.getElem_map]
    exact ih i hi hi' (hc.imp (fun h => ⟨calmL_mem (by simpa [calmA] using h.1) _ (List.getElem_mem hi), h.2⟩) id)
  | tup l cs hl hr2 ih =>
    intro hc
    rw [AV.ren, renL_eq]
    refine .tup _ cs (by simpa using hl) (fun i hi hi' => ?_)
    simp only [List.length_map] at hi
    simp only [List.getElem_map]
    exact ih i hi hi' (hc.imp (fun h => ⟨calmL_mem (by simpa [calmA] using h.1) _ (List.getElem_mem hi), h.2⟩) id)
  | fn f first cap fs cs hl hl' hr2 hr3 ih ih' =>
    intro hc
    rw [AV.ren, renL_eq, renL_eq]
    have hcc : ((calmL first = true ∧ calmL cap = true) ∧ ∀ o, (ρ o).isSome = true) ∨ ShOk M M' := hc.imp (fun h => ⟨by simpa [calmA] using h.1, h.2⟩) id
    refine .fn f _ _ fs cs (by simpa using hl) (by simpa using hl') (fun i hi hi' => ?_) (fun i hi hi' => ?_)
    · simp only [List.length_map] at hi
      simp only [List.getElem_map]
      exact ih i hi hi' (hcc.imp (fun h => ⟨calmL_mem h.1.1 _ (List.getElem_mem hi), h.2⟩) id)
    · simp only [List.length_map] at hi
      simp only [List.getElem_map]
      exact ih' i hi hi' (hcc.imp (fun h => ⟨calmL_mem h.1.2 _ (List.getElem_mem hi), h.2⟩) id)
  | dead v => intro _; rw [AV.ren]; exact .dead v
theorem solidFlat {x : AV} (H : List AO) (ρ : Nat → Option Nat) (hx : ∀ l, x ≠ .agg l) (hp : ∀ q, x ≠ .p q) : (x.ren H ρ).flat = x.flat.map (AV.ren H ρ) := by
  cases x with
  | p q => exact absurd rfl (hp q)
  | agg l => exact absurd rfl (hx l)
  | os o off len =>
    show (AV.ren H ρ (.os o off len)).flat = [AV.ren H ρ (.os o off len)]
    rw [AV.ren]
    cases ρ o with
    | some o' => rfl
    | none =>
      cases H[o]? with
      | none => rfl
      | some ob =>
        cases ob with
        | box y => rfl
        | dict kd es => rfl
        | fbx y => rfl
        | lp => rfl
        | arr => rfl
        | tab els t fz =>
          dsimp only
          split
          · split <;> rfl
          · rfl
        | row els sz t fz =>
          dsimp only
          split <;> rfl
  | ptr o n i j =>
    show (AV.ren H ρ (.ptr o n i j)).flat = [AV.ren H ρ (.ptr o n i j)]
    rw [AV.ren]
    cases ρ o <;> rfl
  | mp o =>
    show (AV.ren H ρ (.mp o)).flat = [AV.ren H ρ (.mp o)]
    rw [AV.ren]
    cases ρ o <;> rfl
  | bs o j len =>
    show (AV.ren H ρ (.bs o j len)).flat = [AV.ren H ρ (.bs o j len)]
    rw [AV.ren]
    cases ρ o <;> rfl
  | yl o =>
    show (AV.ren H ρ (.yl o)).flat = [AV.ren H ρ (.yl o)]
    rw [AV.ren]
    cases ρ o <;> rfl
  | cut o off len k => simp [AV.ren, AV.flat]
  | bc o len cap => simp [AV.ren, AV.flat]
  | ifc t x => simp [AV.ren, AV.flat]
  | sp e j => simp [AV.ren, AV.flat]
  | tup l => simp [AV.ren, AV.flat]
  | fn f a b => simp [AV.ren, AV.flat]
  | dead => simp [AV.ren, AV.flat]
theorem flat_ren (x : AV) (H : List AO) (ρ : Nat → Option Nat) : (x.ren H ρ).flat = x.flat.map (AV.ren H ρ) := by
  by_cases h1 : ∃ l, x = .agg l
  · obtain ⟨l, rfl⟩ := h1
    rw [AV.ren, renL_eq]
    rfl
  · by_cases h2 : ∃ q, x = .p q
    · obtain ⟨q, rfl⟩ := h2
      rw [AV.ren]
      simp only [AV.flat, List.map_map]
      apply List.map_congr_left
      intro y _
      simp [AV.ren]
    · exact solidFlat H ρ (fun l h => h1 ⟨l, h⟩) (fun q h => h2 ⟨q, h⟩)
theorem calmA_flat {x : AV} (h : calmA x = true) : ∀ c ∈ x.flat, calmA c = true := by
  cases x with
  | p q =>
    intro c hc
    simp only [AV.flat, List.mem_map] at hc
    obtain ⟨y, hy, rfl⟩ := hc
    exact calmP_flat h y hy
  | agg l =>
    rw [calmA] at h
    exact calmL_mem h
  | _ => intro c hc; simp [AV.flat] at hc; subst hc; exact h
theorem CellsOk.ren {M M' : Mem} {ρ : Nat → Option Nat} (hM : MemOk M) (hr : RenOk M M' ρ) {x : AV} {cur : Array Value} (h : CellsOk M x.flat cur) (hc : (calmA x = true ∧ ∀ o, (ρ o).isSome = true) ∨ ShOk M M') : CellsOk M' (x.ren M.H ρ).flat cur := by
  rw [flat_ren]
  refine ⟨by simpa using h.1, fun i hi => ?_⟩
  simp only [List.length_map] at hi
  obtain ⟨c, k1, k2, k3⟩ := h.2 i hi
  simp only [List.getElem_map]
  exact ⟨c, k1, k2.ren hM hr (hc.imp (fun h => ⟨calmA_flat h.1 _ (List.getElem_mem hi), h.2⟩) id), k3⟩
theorem AO.ren_len (ob : AO) (H : List AO) (ρ : Nat → Option Nat) : (ob.ren H ρ).len = ob.len ∧ (ob.ren H ρ).sz = ob.sz ∧ (ob.ren H ρ).tag = ob.tag ∧ (ob.ren H ρ).fz = ob.fz := by
  cases ob <;> first | exact ⟨rfl, rfl, rfl, rfl⟩ | (refine ⟨?_, rfl, rfl, rfl⟩; simp [AO.ren, AO.len, renL_eq])
theorem get_ren (H : List AO) (ρ : Nat → Option Nat) : ∀ (t : List (Nat × AV)) (i : Nat), get (t.map fun x => (x.1, x.2.ren H ρ)) i = (get t i).ren H ρ
  | [], i => by simp [get, AV.ren]
  | (j, x) :: t, i => by
    simp only [List.map_cons, get]
    split
    · rfl
    · exact get_ren H ρ t i
theorem get_calm : ∀ (t : List (Nat × AV)), t.all (fun x => calmA x.2) = true → ∀ i, calmA (get t i) = true
  | [], _, i => by simp [get, calmA]
  | (j, x) :: t, h, i => by
    simp only [List.all_cons, Bool.and_eq_true] at h
    simp only [get]
    split
    · exact h.1
    · exact get_calm t h.2 i
theorem ObOk.ren {M M' : Mem} {ρ : Nat → Option Nat} (hM : MemOk M) (hr : RenOk M M' ρ) {o o' : Nat} {ob : AO} (hφ : M'.φ o' = M.φ o) (hh : ∀ b, M.φ o = some b → M'.w.heap[b]? = M.w.heap[b]?) (h : ObOk M o ob) (hc : (calmO ob = true ∧ ∀ o, (ρ o).isSome = true) ∨ ShOk M M') : ObOk M' o' (ob.ren M.H ρ) := by
  cases ob with
  | row els sz t fz =>
    refine ⟨h.1, ?_⟩
    rcases h.2 with ⟨h1, h2⟩ | ⟨b, cur, cap, hb, hc2, h1, h2, h3⟩
    · exact .inl ⟨hφ.trans h1, h2⟩
    · refine .inr ⟨b, cur, cap, hφ.trans hb, (hh b hb).trans hc2, h1, h2, fun i hi j hj => ?_⟩
      obtain ⟨c, k1, k2⟩ := h3 i hi j hj
      refine ⟨c, k1, ?_⟩
      rcases hc with hc | hc
      · exact k2.calm (calmP_flat (List.all_eq_true.1 hc.1 _ (List.getElem_mem hi)) _ (List.getElem_mem hj))
      · exact k2.mono hc
  | box x =>
    obtain ⟨b, cur, t, hb, hc2, h1⟩ := h
    exact ⟨b, cur, t, hφ.trans hb, (hh b hb).trans hc2, h1.ren hM hr hc⟩
  | fbx x =>
    obtain ⟨b, cur, t, hb, hc2, h1⟩ := h
    exact ⟨b, cur, t, hφ.trans hb, (hh b hb).trans hc2, h1.ren hM hr hc⟩
  | tab els t fz =>
    show TabOk M' o' (renL M.H ρ els) t
    rw [renL_eq]
    rcases h with ⟨h1, h2⟩ | ⟨b, cur, hb, hc2, h1, h3⟩
    · exact .inl ⟨hφ.trans h1, by rw [h2]; rfl⟩
    · refine .inr ⟨b, cur, hφ.trans hb, (hh b hb).trans hc2, by simpa using h1, fun i hi => ?_⟩
      simp only [List.length_map] at hi
      obtain ⟨c, k1, k2, k3⟩ := h3 i hi
      simp only [List.getElem_map]
      exact ⟨c, k1, k2.ren hM hr (hc.imp (fun h => ⟨calmL_mem h.1 _ (List.getElem_mem hi), h.2⟩) id), k3⟩
  | dict kd es =>
    obtain ⟨hn, hf, b, cur, hb, hc2, h1, h3⟩ := h
    refine ⟨by simpa [Function.comp_def] using hn, fun x hx => ?_, b, cur, hφ.trans hb, by simpa using (hh b hb).trans hc2, by simpa using h1, fun i hi => ?_⟩
    · obtain ⟨y, hy, rfl⟩ := List.mem_map.1 hx
      exact hf y hy
    · simp only [List.length_map] at hi
      obtain ⟨e, k1, k2, k3, k4⟩ := h3 i hi
      simp only [List.getElem_map]
      exact ⟨e, k1, k2, k3, k4.ren hM hr (hc.imp (fun h => ⟨by have h1 : es.all (fun x => calmA x.2) = true := h.1; exact List.all_eq_true.1 h1 _ (List.getElem_mem hi), h.2⟩) id)⟩
  | lp n t ps a c st =>
    obtain ⟨b, r, hb, hc2, k1, k2, k3, k4, k5, k6, k7⟩ := h
    refine ⟨b, r, hφ.trans hb, (hh b hb).trans hc2, k1, k2, k3, k4, k5, k6, fun i => ?_⟩
    rw [get_ren]
    refine (k7 i).ren hM hr (hc.imp (fun h => ⟨?_, h.2⟩) id)
    have h1 : t.all (fun x => calmA x.2) = true := h.1
    exact get_calm t h1 i
  | arr els sz t =>
    show ArrOk M' o' (renL M.H ρ els) sz t
    rw [renL_eq]
    obtain ⟨hfl, h⟩ := h
    refine ⟨fun e he => ?_, ?_⟩
    · obtain ⟨x, hx, rfl⟩ := List.mem_map.1 he
      rw [flat_ren, List.length_map]
      exact hfl x hx
    rcases h with ⟨h1, h2⟩ | ⟨b, cur, hb, hc2, h1, h3⟩
    · exact .inl ⟨hφ.trans h1, by rw [h2]; rfl⟩
    · refine .inr ⟨b, cur, hφ.trans hb, (hh b hb).trans hc2, by simpa using h1, fun i hi j hj => ?_⟩
      simp only [List.length_map] at hi
      simp only [List.getElem_map, flat_ren, List.length_map] at hj ⊢
      obtain ⟨c, k1, k2, k3⟩ := h3 i hi j hj
      exact ⟨c, k1, k2.ren hM hr (hc.imp (fun h => ⟨calmA_flat (calmL_mem h.1 _ (List.getElem_mem hi)) _ (List.getElem_mem hj), h.2⟩) id), k3⟩
def idx : List Nat → Nat → Nat → Option Nat
  | [], _, _ => none
  | x :: l, k, o => if x = o then some k else idx l (k + 1) o
theorem idx_some : ∀ {l : List Nat} {k o o' : Nat}, idx l k o = some o' → k ≤ o' ∧ l[o' - k]? = some o
  | x :: l, k, o, o', h => by
    simp only [idx] at h
    split at h
    · rename_i e; injection h with h; subst h e; simp
    · obtain ⟨h1, h2⟩ := idx_some h
      refine ⟨by omega, ?_⟩
      rw [show o' - k = (o' - (k + 1)) + 1 by omega, List.getElem?_cons_succ]
      exact h2
theorem idx_none : ∀ {l : List Nat} {k o : Nat}, idx l k o = none → o ∉ l
  | [], _, _, _ => by simp
  | x :: l, k, o, h => by
    simp only [idx] at h
    split at h
    · cases h
    · rename_i e
      intro hm
      rcases List.mem_cons.1 hm with rfl | hm
      · exact e rfl
      · exact idx_none h hm
def norm (σ keep : List Nat) (s : St) : St := ⟨keep.map fun i => (i, (get s.t i).ren s.H (idx σ 0)), σ.map fun o => (s.H.getD o (.box .dead)).ren s.H (idx σ 0)⟩
theorem get_keep (f : Nat → AV) : ∀ (keep : List Nat) (i : Nat), get (keep.map fun i => (i, f i)) i = f i ∨ get (keep.map fun i => (i, f i)) i = .dead
  | [], _ => .inr rfl
  | j :: l, i => by
    simp only [List.map_cons, get]
    by_cases e : j = i
    · subst e; simp
    · rw [if_neg e]; exact get_keep f l i
def nodupB : List Nat → Bool
  | [] => true
  | x :: l => !l.contains x && nodupB l
theorem nodupB_inj : ∀ {l : List Nat}, nodupB l = true → ∀ (i j x : Nat), l[i]? = some x → l[j]? = some x → i = j
  | [], _, i, j, x, h, _ => by simp at h
  | y :: l, hn, i, j, x, h, h' => by
    simp only [nodupB, Bool.and_eq_true, Bool.not_eq_true', List.contains_eq_mem, decide_eq_false_iff_not] at hn
    cases i with
    | zero =>
      cases j with
      | zero => rfl
      | succ j =>
        simp at h h'
        subst h
        exact absurd (List.mem_of_getElem? h') hn.1
    | succ i =>
      cases j with
      | zero =>
        simp at h h'
        subst h'
        exact absurd (List.mem_of_getElem? h) hn.1
      | succ j => rw [nodupB_inj hn.2 i j x (by simpa using h) (by simpa using h')]
def firstB : Nat → Nat → List Nat → Bool
  | _, 0, _ => true
  | k, m + 1, x :: l => x == k && firstB (k + 1) m l
  | _, _ + 1, [] => false
theorem firstB_get : ∀ {m k : Nat} {l : List Nat}, firstB k m l = true → ∀ i, i < m → l[i]? = some (k + i)
  | m + 1, k, x :: l, h, i, hi => by
    simp only [firstB, Bool.and_eq_true, beq_iff_eq] at h
    cases i with
    | zero => simp [h.1]
    | succ i =>
      rw [List.getElem?_cons_succ, firstB_get h.2 i (by omega)]
      congr 1
      omega
def okσ (σ : List Nat) (m0 : Nat) (H : List AO) : Bool := (σ.all fun o => decide (o < H.length)) && nodupB σ && firstB 0 m0 σ
def renH (σ : List Nat) (H : List AO) : List AO := σ.map fun o => (H.getD o (.box .dead)).ren H (idx σ 0)
theorem mem_norm {M0 M : Mem} (hM : MemOk M) (hle : Le M0 M) (hbase : M.base = M0.base) {σ : List Nat} (h : okσ σ M0.H.length M.H = true) :
    ∃ M' : Mem, M'.w = M.w ∧ M'.H = renH σ M.H ∧ M'.base = M.base ∧ M'.S = M.S ∧ MemOk M' ∧ Le M0 M' ∧ (∀ b, M.shared b → M'.shared b ∧ M'.w.heap[b]? = M.w.heap[b]?) ∧ ∀ {x : AV} {v : Value}, RA M x v → RA M' (x.ren M.H (idx σ 0)) v := by
  simp only [okσ, Bool.and_eq_true] at h
  obtain ⟨⟨h1, h2⟩, h3⟩ := h
  have hlt : ∀ (i : Nat) (o : Nat), σ[i]? = some o → o < M.H.length := fun i o hi => by
    have := List.all_eq_true.1 h1 o (List.mem_of_getElem? hi)
    simpa using this
  obtain ⟨M', hMd'⟩ : ∃ M' : Mem, M' = ⟨M.w, renH σ M.H, fun o => (σ[o]?).bind M.φ, M.base, M.S⟩ := ⟨_, rfl⟩
  have hget : ∀ (o' o : Nat) (ob : AO), σ[o']? = some o → M.H[o]? = some ob → M'.H[o']? = some (ob.ren M.H (idx σ 0)) := by
    intro o' o ob h4 h5
    rw [hMd']
    simp only [renH, List.getElem?_map, h4, Option.map_some, List.getD_eq_getElem?_getD, h5, Option.getD_some]
  have hback : ∀ (o' : Nat) (ob' : AO), M'.H[o']? = some ob' → ∃ o ob, σ[o']? = some o ∧ M.H[o]? = some ob ∧ ob' = ob.ren M.H (idx σ 0) := by
    intro o' ob' h4
    rw [hMd'] at h4
    simp only [renH, List.getElem?_map, Option.map_eq_some_iff] at h4
    obtain ⟨o, h5, h6⟩ := h4
    have h7 := List.getElem?_eq_getElem (hlt o' o h5)
    refine ⟨o, _, h5, h7, ?_⟩
    rw [← h6, List.getD_eq_getElem?_getD, h7]
    rfl
  have hφ' : ∀ (o' o : Nat), σ[o']? = some o → M'.φ o' = M.φ o := fun o' o h4 => by rw [hMd']; simp [h4]
  have hsh : ShOk M M' := by
    intro b hb
    refine ⟨⟨by rw [hMd']; exact hb.1, by rw [hMd']; exact hb.2.1, fun o' ob' h4 h5 => ?_⟩, by rw [hMd']⟩
    obtain ⟨o, ob, k1, k2, k3⟩ := hback o' ob' h4
    rw [hφ' o' o k1]
    subst k3
    rw [(ob.ren_len M.H (idx σ 0)).2.2.2] at h5
    exact hb.2.2 o ob k2 h5
  have hren : RenOk M M' (idx σ 0) := by
    refine ⟨fun o o' ob h4 h5 => ?_, fun o ob h4 h5 b hb => ?_⟩
    · obtain ⟨_, k1⟩ := idx_some h4
      rw [Nat.sub_zero] at k1
      have hl := ob.ren_len M.H (idx σ 0)
      exact ⟨_, hget o' o ob k1 h5, hl.2.2.1, hl.1, hl.2.1, hφ' o' o k1, fun b _ => by rw [hMd']⟩
    · have hlt' := (List.getElem?_eq_some_iff.1 h5).1
      refine ⟨⟨by rw [hMd']; exact hM.lt hlt' hb, fun hlt2 => ?_, fun o' ob' h6 h7 e => ?_⟩, by rw [hMd']⟩
      · rw [hMd'] at hlt2
        have := hM.lo o b hlt' hb
        dsimp only at hlt2
        omega
      · obtain ⟨o2, ob2, k1, k2, k3⟩ := hback o' ob' h6
        rw [hφ' o' o2 k1] at e
        have := hM.inj o2 o b (hlt o' o2 k1) hlt' e hb
        subst this
        exact idx_none h4 (List.mem_of_getElem? k1)
  refine ⟨M', by rw [hMd'], by rw [hMd'], by rw [hMd'], by rw [hMd'], ⟨fun o' ob' h4 => ?_, fun o1 o2 b k1 k2 k3 k4 => ?_, fun o b k1 k2 => ?_, by rw [hMd']; exact hM.bs⟩, ⟨fun b hb => ?_, fun o ob ho => ?_⟩, hsh, fun {x v} hx => RA.ren hM hren hx (.inr hsh)⟩
  · obtain ⟨o, ob, k1, k2, k3⟩ := hback o' ob' h4
    subst k3
    exact ObOk.ren (o' := o') hM hren (hφ' o' o k1) (fun b _ => by rw [hMd']) (hM.ok o ob k2) (.inr hsh)
  · have e1 : o1 < σ.length := by rw [hMd'] at k1; simpa [renH] using k1
    have e2 : o2 < σ.length := by rw [hMd'] at k2; simpa [renH] using k2
    rw [hφ' o1 _ (List.getElem?_eq_getElem e1)] at k3
    rw [hφ' o2 _ (List.getElem?_eq_getElem e2)] at k4
    have := hM.inj _ _ b (hlt o1 _ (List.getElem?_eq_getElem e1)) (hlt o2 _ (List.getElem?_eq_getElem e2)) k3 k4
    exact nodupB_inj h2 o1 o2 _ (List.getElem?_eq_getElem e1) (by rw [this]; exact List.getElem?_eq_getElem e2)
  · have e1 : o < σ.length := by rw [hMd'] at k1; simpa [renH] using k1
    rw [hφ' o _ (List.getElem?_eq_getElem e1)] at k2
    rw [hMd']
    exact hM.lo _ b (hlt o _ (List.getElem?_eq_getElem e1)) k2
  · have k1 := hle.sh b hb
    have k2 := hsh b k1.1
    exact ⟨k2.1, k2.2.trans k1.2⟩
  · obtain ⟨ob1, k1, k2, k3, k4⟩ := hle.ob o ob ho
    have hlo := (List.getElem?_eq_some_iff.1 ho).1
    have hσ : σ[o]? = some o := by rw [firstB_get h3 o (by omega), Nat.zero_add]
    have hl := ob1.ren_len M.H (idx σ 0)
    refine ⟨_, hget o o ob1 hσ k1, hl.2.2.1.trans k2, by rw [hl.1]; exact k3, fun e => ?_⟩
    obtain ⟨a1, a2, a3⟩ := k4 (by rw [hl.1] at e; exact e)
    exact ⟨hl.2.1.trans a1, by rw [hφ' o o hσ]; exact a2, fun b hb => by rw [hMd']; exact a3 b hb⟩
theorem Wk_norm {m0 : Nat} {s : St} (σ keep : List Nat) (h : okσ σ m0 s.H = true) : Wk m0 s (norm σ keep s) := by
  intro N M0 φ a w hm hs
  subst hm
  obtain ⟨M', e1, e2, e3, e4, hM', hle, hsh, hx⟩ := mem_norm (M := ⟨w, s.H, φ, M0.base, M0.S⟩) hs.m hs.le rfl h
  obtain ⟨w', H', φ', base', S'⟩ := M'
  dsimp only at e1 e2 e3 e4
  subst e1 e2 e3 e4
  refine ⟨φ', hs.d.mono hsh, hs.n, hM', fun i => ?_, hs.b, hle⟩
  rcases get_keep (fun i => (get s.t i).ren s.H (idx σ 0)) keep i with h4 | h4
  · rw [show get (norm σ keep s).t i = _ from h4]
    exact hx (hs.r i)
  · rw [show get (norm σ keep s).t i = .dead from h4]
    exact .dead _

/-! ### A block that holds no cells is turned -/
section
variable {M : Mem} {D : Nat} {o0 o1 : Obj}
theorem off_other {w : World} {D b : Nat} {o : Obj} (h : b ≠ D) : (w.putObj D o).heap[b]? = w.heap[b]? := World.putObj_heap_other h
theorem off_size (w : World) (D : Nat) (o : Obj) : (w.putObj D o).heap.size = w.heap.size := by simp [World.putObj]
theorem off_shared {b : Nat} (h : M.shared b) : Mem.shared ⟨M.w.putObj D o1, M.H, M.φ, M.base, M.S⟩ b := ⟨by rw [off_size]; exact h.1, h.2.1, h.2.2⟩
theorem off_cell {w : World} {ds : Option (List Deferred)} (h0 : w.heap[D]? = some (.deferred ds)) {b o : Nat} {v : Value} (h : w.cell? ⟨b, o, none⟩ = some v) : (w.putObj D o1).cell? ⟨b, o, none⟩ = some v := by
  have hb : b ≠ D := fun e => by
    subst e
    simp [World.cell?, h0] at h
  rw [World.cell?_of_block (w := w) (off_other hb)]
  exact h
theorem RP.off {ds : Option (List Deferred)} (h0 : M.w.heap[D]? = some (.deferred ds)) {x : PV} {v : Value} (h : RP M.shared M.w x v) : RP (Mem.shared ⟨M.w.putObj D o1, M.H, M.φ, M.base, M.S⟩) (M.w.putObj D o1) x v := by
  induction h with
  | v x h => exact .v x h
  | sl l A cap sz c h1 h2 hs ha hr ih =>
    refine .sl l A cap sz c h1 h2 hs ?_ ih
    rcases ha with ha | ⟨b, off, e, hb, hc⟩
    · exact .inl ha
    · exact .inr ⟨b, off, e, off_shared hb, fun i j hi hj => off_cell h0 (hc i j hi hj)⟩
  | agg l cs hl ho hr ih => exact .agg l cs hl ho ih
theorem off_shape {w : World} {ds : Option (List Deferred)} (h0 : w.heap[D]? = some (.deferred ds)) {b : Nat} {x : TypeId × Nat} (h : w.shape? b = some x) : (w.putObj D o1).shape? b = some x := by
  have hb : b ≠ D := fun e => by
    subst e
    simp [World.shape?, h0] at h
  simp only [World.shape?, off_other hb] at h ⊢
  exact h
theorem RA.off {ds : Option (List Deferred)} (h0 : M.w.heap[D]? = some (.deferred ds)) {x : AV} {v : Value} (h : RA M x v) : RA ⟨M.w.putObj D o1, M.H, M.φ, M.base, M.S⟩ x v := by
  induction h with
  | p x v h => exact .p x v (h.off h0)
  | os o off len v h =>
    obtain ⟨ob, h1, h2, h3⟩ := h
    refine .os o off len v ⟨ob, h1, h2, fun e t ht => ?_⟩
    rcases h3 e t ht with (h4 | ⟨b, cap, a1, a2, a3, a4, a5⟩) | h4
    · exact .inl (.inl h4)
    · exact .inl (.inr ⟨b, cap, a1, a2, a3, a4, off_shape h0 a5⟩)
    · exact .inr h4
  | ptr o n i j v h => exact .ptr o n i j v h
  | sp e j b off c hb ho hc hr => exact .sp e j b off c (off_shared hb) ho (fun k hk => off_cell h0 (hc k hk)) (fun k hk => (hr k hk).off h0)
  | agg l cs hl ho hr ih => exact .agg l cs hl ho ih
  | tup l cs hl hr ih => exact .tup l cs hl ih
  | fn f first cap fs cs hl hl' hr hr' ih ih' => exact .fn f first cap fs cs hl hl' ih ih'
  | dead v => exact .dead v
  | mp o v h => exact .mp o v h
  | bs o j len v hl h => exact .bs o j len v hl h
  | yl o v h => exact .yl o v h
  | cut o off len k v h => exact .cut o off len k v h
  | bc o len cap v hl hc h0 h => exact .bc o len cap v hl hc h0 h
  | ifc t x v h ih => exact .ifc t x v ih
theorem ObOk.off {ds : Option (List Deferred)} (h0 : M.w.heap[D]? = some (.deferred ds)) {o : Nat} {ob : AO} (h : ObOk M o ob) : ObOk ⟨M.w.putObj D o1, M.H, M.φ, M.base, M.S⟩ o ob := by
  have hne : ∀ {b : Nat} {x : Obj}, M.w.heap[b]? = some x → (∀ d, x ≠ .deferred d) → (M.w.putObj D o1).heap[b]? = some x := fun {b x} hb hx => by
    rw [off_other (fun e => by subst e; rw [h0] at hb; injection hb with hb; exact hx _ hb.symm)]
    exact hb
  cases ob with
  | row els sz t fz =>
    refine ⟨h.1, ?_⟩
    rcases h.2 with h1 | ⟨b, cur, cap, hb, hc, h1, h2, h3⟩
    · exact .inl h1
    · exact .inr ⟨b, cur, cap, hb, hne hc (by simp), h1, h2, fun i hi j hj => let ⟨c, k1, k2⟩ := h3 i hi j hj; ⟨c, k1, k2.off h0⟩⟩
  | box x =>
    obtain ⟨b, cur, t, hb, hc, h1⟩ := h
    exact ⟨b, cur, t, hb, hne hc (by simp), h1.1, fun i hi => let ⟨c, k1, k2, k3⟩ := h1.2 i hi; ⟨c, k1, k2.off h0, k3⟩⟩
  | fbx x =>
    obtain ⟨b, cur, t, hb, hc, h1⟩ := h
    exact ⟨b, cur, t, hb, hne hc (by simp), h1.1, fun i hi => let ⟨c, k1, k2, k3⟩ := h1.2 i hi; ⟨c, k1, k2.off h0, k3⟩⟩
  | tab els t fz =>
    rcases h with h1 | ⟨b, cur, hb, hc, h1, h2⟩
    · exact .inl h1
    · exact .inr ⟨b, cur, hb, hne hc (by simp), h1, fun i hi => let ⟨c, k1, k2, k3⟩ := h2 i hi; ⟨c, k1, k2.off h0, k3⟩⟩
  | dict kd es =>
    obtain ⟨hn, hf, b, cur, hb, hc, h1, h2⟩ := h
    exact ⟨hn, hf, b, cur, hb, hne hc (by simp), h1, fun i hi => let ⟨e, k1, k2, k3, k4⟩ := h2 i hi; ⟨e, k1, k2, k3, k4.off h0⟩⟩
  | lp n t ps a c st =>
    obtain ⟨b, r, hb, hc, k1, k2, k3, k4, k5, k6, k7⟩ := h
    exact ⟨b, r, hb, hne hc (by simp), k1, k2, k3, k4, k5, k6, fun i => (k7 i).off h0⟩
  | arr els sz t =>
    obtain ⟨hfl, h⟩ := h
    rcases h with h1 | ⟨b, cur, hb, hc, h1, h2⟩
    · exact ⟨hfl, .inl h1⟩
    · exact ⟨hfl, .inr ⟨b, cur, hb, hne hc (by simp), h1, fun i hi j hj => let ⟨c, k1, k2, k3⟩ := h2 i hi j hj; ⟨c, k1, k2.off h0, k3⟩⟩⟩
end
theorem ObOk.noDef {M : Mem} {o D : Nat} {ob : AO} (h : ObOk M o ob) (hφ : M.φ o = some D) (ds : Option (List Deferred)) : M.w.heap[D]? ≠ some (.deferred ds) := by
  intro h0
  cases ob with
  | row els sz t fz =>
    rcases h.2 with ⟨h1, _⟩ | ⟨b, cur, cap, hb, hc, _⟩
    · rw [hφ] at h1; cases h1
    · rw [hφ] at hb; injection hb with hb; subst hb; rw [h0] at hc; cases hc
  | box x =>
    obtain ⟨b, cur, t, hb, hc, _⟩ := h
    rw [hφ] at hb; injection hb with hb; subst hb; rw [h0] at hc; cases hc
  | fbx x =>
    obtain ⟨b, cur, t, hb, hc, _⟩ := h
    rw [hφ] at hb; injection hb with hb; subst hb; rw [h0] at hc; cases hc
  | tab els t fz =>
    rcases h with ⟨h1, _⟩ | ⟨b, cur, hb, hc, _⟩
    · rw [hφ] at h1; cases h1
    · rw [hφ] at hb; injection hb with hb; subst hb; rw [h0] at hc; cases hc
  | dict kd es =>
    obtain ⟨_, _, b, cur, hb, hc, _⟩ := h
    rw [hφ] at hb; injection hb with hb; subst hb; rw [h0] at hc; cases hc
  | lp n t ps a c st =>
    obtain ⟨b, r, hb, hc, _⟩ := h
    rw [hφ] at hb; injection hb with hb; subst hb; rw [h0] at hc; cases hc
  | arr els sz t =>
    rcases h.2 with ⟨h1, _⟩ | ⟨b, cur, hb, hc, _⟩
    · rw [hφ] at h1; cases h1
    · rw [hφ] at hb; injection hb with hb; subst hb; rw [h0] at hc; cases hc
theorem Sim.unmark {N : Nat} {M0 : Mem} {s : St} {φ : Nat → Option Nat} {a : Act} {w : World} (h : Sim N M0 s φ a w) {D : Nat} {Ds : List Nat} (he : a.defers = markD D :: Ds.map markD) :
    w.heap[D]? = some (.deferred (some [])) ∧ Sim N M0 s φ { a with defers := Ds.map markD } (w.putObj D (.deferred none)) := by
  obtain ⟨Es, h1, h2, h3⟩ := h.d
  have hE : Es = D :: Ds := by
    rw [he] at h1
    have hinj : ∀ (l m : List Nat), l.map markD = m.map markD → l = m := by
      intro l
      induction l with
      | nil => intro m hm; cases m with
        | nil => rfl
        | cons y m => cases hm
      | cons x l ih =>
        intro m hm
        cases m with
        | nil => cases hm
        | cons y m =>
          simp only [List.map_cons, List.cons.injEq, markD, Deferred.mk.injEq, Target.collected.injEq, and_true] at hm
          rw [hm.1, ih m hm.2]
    exact (hinj (D :: Ds) Es (by simpa using h1)).symm
  subst hE
  obtain ⟨k1, k2, k3⟩ := h3 D (by simp)
  dsimp only at k3
  have hbase : M0.base ≤ D := k1.2
  refine ⟨k3, ⟨Ds, rfl, (List.nodup_cons.1 h2).2, fun E hE => ?_⟩, h.n, ⟨fun o ob ho => (h.m.ok o ob ho).off k3, h.m.inj, h.m.lo, by dsimp only; rw [off_size]; exact h.m.bs⟩, fun i => (h.r i).off k3, ?_, ⟨fun b hb => ?_, fun o ob ho => ?_⟩⟩
  · obtain ⟨q1, q2, q3⟩ := h3 E (by simp [hE])
    refine ⟨q1, off_shared q2, ?_⟩
    dsimp only
    rw [off_other (fun e => (List.nodup_cons.1 h2).1 (by rw [← e]; exact hE))]
    exact q3
  · exact h.b.trans ((Below.refl _ _).grown (grownBy_putObj' _ _ _) (by have := h.m.bs; exact this) (fun k e => by cases e; exact hbase))
  · obtain ⟨q1, q2⟩ := h.le.sh b hb
    have hbD : b ≠ D := fun e => by
      have := hb.1
      have := k1.1
      omega
    refine ⟨off_shared q1, ?_⟩
    dsimp only
    rw [off_other hbD]
    exact q2
  · obtain ⟨ob', q1, q2, q3, q4⟩ := h.le.ob o ob ho
    refine ⟨ob', q1, q2, q3, fun e => ?_⟩
    obtain ⟨p1, p2, p3⟩ := q4 e
    refine ⟨p1, p2, fun b hb => ?_⟩
    have hs := p3 b hb
    dsimp only at hs ⊢
    by_cases hbD : b = D
    · subst hbD
      exact absurd k3 ((h.m.ok o ob' q1).noDef (p2.trans hb) _)
    · rw [← hs]
      simp only [World.shape?, off_other hbD]
section
variable {P : Program} {N : Nat} {M0 : Mem}
def Fin (m0 : Nat) (rs : List ARes) (R : AV → List AO → Prop) (e : AExit) (s : St) : Prop := (match e with | .exit _ => False | _ => True) ∧ ((∃ s2 r σ, Wk m0 s s2 ∧ resOf s2 rs = some r ∧ okσ σ m0 s2.H = true ∧ R (r.ren s2.H (idx σ 0)) (renH σ s2.H)) ∨ ∃ s2 r, Wk m0 s s2 ∧ resOf s2 rs = some r ∧ R r s2.H)
theorem fin_calls {f : FuncId} {af : AFn} {M : Mem} {args : List AV} {vs : List Value} (hf : cfn P f args.length = some af) (hM : MemOk M) (ha : RAs M args vs) {R : AV → List AO → Prop} (h : W P M.H.length af.body (Fin M.H.length af.res R) ⟨initT 0 args, M.H⟩) :
    Calls P f vs.toArray M.w fun en w' => ∃ v r H' φ', en = .returned v ∧ R r H' ∧ MemOk ⟨w', H', φ', M.base, M.S⟩ ∧ Le M ⟨w', H', φ', M.base, M.S⟩ ∧ RA ⟨w', H', φ', M.base, M.S⟩ r v ∧ Below M.base M.w w' := by
  unfold cfn at hf
  split at hf
  · cases hf
  · rename_i fn hfn
    split at hf
    · rename_i c rs hc hrs
      obtain ⟨ac, hac, rfl⟩ := Option.map_eq_some_iff.1 hf
      have hlen := ha.1
      refine (callsIn_wide (n := 0)).1 (callsIn_of_wp_marks hfn hc trivial (wpIn_mono (W_ok (M0 := M) hac h (φ := M.φ) (a := { tmps := vs.toArray ++ Array.replicate (fn.ntmps - vs.toArray.size) undef, defers := [] }) (w := M.w) ⟨.nil, by simp; omega, hM, env_init ha _, Below.refl _ _, Le.refl M⟩ none (RoOk.none _)) ?_))
      rintro e a' w' ⟨ae, s', φ', rfl, ⟨hq, hq2⟩, hs'⟩
      have fin : ∀ {s2 : St} {φ2 : Nat → Option Nat} {r : AV} {w2 : World} {a2 : Act}, a2.defers = [] → a2.tmps = a'.tmps → Sim (args.length + (fn.ntmps - args.length)) M s2 φ2 a2 w2 → resOf s2 rs = some r → ((∃ σ, okσ σ M.H.length s2.H = true ∧ R (r.ren s2.H (idx σ 0)) (renH σ s2.H)) ∨ R r s2.H) →
          LeavesInM Fence.wide 0 P fn a'.tmps (fun en w' => ∃ v r H' φ', en = .returned v ∧ R r H' ∧ MemOk ⟨w', H', φ', M.base, M.S⟩ ∧ Le M ⟨w', H', φ', M.base, M.S⟩ ∧ RA ⟨w', H', φ', M.base, M.S⟩ r v ∧ Below M.base M.w w') [] .returning w2 := by
        intro s2 φ2 r w2 a2 ha2 hat hs2 hrr hR
        obtain ⟨v, hrun, hrv⟩ := res_ok (M := ⟨w2, s2.H, φ2, M.base, M.S⟩) hs2.m rfl hs2.r hrs hrr
        rw [hat] at hrun
        refine ⟨v, hrun, ?_⟩
        rcases hR with ⟨σ, hσ, hR⟩ | hR
        · obtain ⟨M', e1, e2, e3, e4, hM', hle, -, hx⟩ := mem_norm (M := ⟨w2, s2.H, φ2, M.base, M.S⟩) hs2.m hs2.le rfl hσ
          obtain ⟨w1, H', φ', base', S'⟩ := M'
          dsimp only at e1 e2 e3 e4
          subst e1 e2 e3 e4
          exact ⟨v, _, _, φ', rfl, hR, hM', hle, hx hrv, hs2.b⟩
        · exact ⟨v, _, _, φ2, rfl, hR, hs2.m, hs2.le, hrv, hs2.b⟩
      have marks : ∀ (Ds : List Nat) {s2 : St} {φ2 : Nat → Option Nat} {r : AV} {w2 : World} {a2 : Act}, a2.defers = Ds.map markD → a2.tmps = a'.tmps → Sim (args.length + (fn.ntmps - args.length)) M s2 φ2 a2 w2 → resOf s2 rs = some r → ((∃ σ, okσ σ M.H.length s2.H = true ∧ R (r.ren s2.H (idx σ 0)) (renH σ s2.H)) ∨ R r s2.H) →
          LeavesInM Fence.wide 0 P fn a'.tmps (fun en w' => ∃ v r H' φ', en = .returned v ∧ R r H' ∧ MemOk ⟨w', H', φ', M.base, M.S⟩ ∧ Le M ⟨w', H', φ', M.base, M.S⟩ ∧ RA ⟨w', H', φ', M.base, M.S⟩ r v ∧ Below M.base M.w w') (Ds.map markD) .returning w2 := by
        intro Ds
        induction Ds with
        | nil => intro s2 φ2 r w2 a2 h1 h2 h3 h4 h5; exact fin h1 h2 h3 h4 h5
        | cons D Ds ih =>
          intro s2 φ2 r w2 a2 h1 h2 h3 h4 h5
          obtain ⟨hd, h3'⟩ := h3.unmark (by rw [h1]; rfl)
          refine ⟨by simp, .inl ⟨D, _, rfl, run_takeDeferred hd, ?_⟩⟩
          exact ih (a2 := { a2 with defers := Ds.map markD }) rfl h2 h3' h4 h5
      have all : LeavesInM Fence.wide 0 P fn a'.tmps (fun en w' => ∃ v r H' φ', en = .returned v ∧ R r H' ∧ MemOk ⟨w', H', φ', M.base, M.S⟩ ∧ Le M ⟨w', H', φ', M.base, M.S⟩ ∧ RA ⟨w', H', φ', M.base, M.S⟩ r v ∧ Below M.base M.w w') a'.defers .returning w' := by
        obtain ⟨Ds, hds, -, -⟩ := hs'.d
        rw [hds]
        rcases hq2 with ⟨s2, r, σ, hk, hrr, hσ, hR⟩ | ⟨s2, r, hk, hrr, hR⟩
        · obtain ⟨φ2, hs2⟩ := hk _ M φ' a' w' rfl hs'
          exact marks Ds hds rfl hs2 hrr (.inl ⟨σ, hσ, hR⟩)
        · obtain ⟨φ2, hs2⟩ := hk _ M φ' a' w' rfl hs'
          exact marks Ds hds rfl hs2 hrr (.inr hR)
      cases ae with
      | normal => exact all
      | ret => exact all
      | exit i => exact hq.elim
    · cases hf
theorem HC_of_W {f : FuncId} {af : AFn} {args : List AV} {H : List AO} (hf : cfn P f args.length = some af) {R : AV → List AO → Prop} (h : W P H.length af.body (Fin H.length af.res R) ⟨initT 0 args, H⟩) : HC P false f args H R := by
  intro M vs hM hH ha
  subst hH
  exact (fin_calls hf hM ha h).mono fun _ _ ⟨v, r, H', φ', h1, h2, h3, h4, h5, h6⟩ => ⟨v, r, H', φ', h1, h2, h3, h4, h5, h6, fun h => by cases h⟩
def PC (P : Program) (f : FuncId) (args : List PV) (r : AV) (HR : List AO) : Prop :=
  ∀ (w : World) (S : Nat → Prop) (vs : List Value), RPs (fun b => b < w.heap.size ∧ S b) w args vs → Calls P f vs.toArray w fun en w' => ∃ v φ, en = .returned v ∧ MemOk ⟨w', HR, φ, w.heap.size, S⟩ ∧ RA ⟨w', HR, φ, w.heap.size, S⟩ r v ∧ Below w.heap.size w w'
theorem PC_of_W {f : FuncId} {af : AFn} {args : List PV} {r : AV} {HR : List AO} (hf : cfn P f args.length = some af) (h : W P 0 af.body (Fin 0 af.res fun r' H' => r' = r ∧ H' = HR) ⟨initT 0 (args.map .p), []⟩) : PC P f args r HR := by
  intro w S vs hvs
  have hM : MemOk ⟨w, [], fun _ => none, w.heap.size, S⟩ := ⟨fun o ob h => by simp at h, fun o o' b h => by simp at h, fun o b h => by simp at h, Nat.le_refl _⟩
  have ha : RAs ⟨w, [], fun _ => none, w.heap.size, S⟩ (args.map .p) vs := ⟨by simpa using hvs.1, fun i hi hi' => by
    simp only [List.length_map] at hi
    simp only [List.getElem_map]
    exact .p _ _ ((hvs.2 i hi hi').mono fun b hb => ⟨⟨hb.1, fun _ => hb.2, fun o ob h => by simp at h⟩, rfl⟩)⟩
  refine (fin_calls (by simpa using hf) hM ha h).mono ?_
  rintro en w' ⟨v, r', H', φ', h1, ⟨rfl, rfl⟩, h3, _, h5, h6⟩
  exact ⟨v, φ', h1, h3, h5, h6⟩
end
theorem Wk_keep {m0 : Nat} {s : St} (keep : List Nat) : Wk m0 s ⟨keep.map fun i => (i, get s.t i), s.H⟩ := by
  intro N M0 φ a w hm hs
  refine ⟨φ, hs.d, hs.n, hs.m, fun i => ?_, hs.b, hs.le⟩
  rcases get_keep (fun i => get s.t i) keep i with h4 | h4
  · rw [show get (⟨keep.map fun i => (i, get s.t i), s.H⟩ : St).t i = _ from h4]
    exact hs.r i
  · rw [show get (⟨keep.map fun i => (i, get s.t i), s.H⟩ : St).t i = .dead from h4]
    exact .dead _
end Abs
end Go
/-
  AN ABSTRACT MACHINE, part 15: a contract on values alone serves wherever the function is called.
-/
namespace Go
namespace Abs
open Go.RowKit
def hpast (H : List AO) (args : List AV) (r : AV) (HR : List AO) : List AO :=
  (if calmA r && HR.all calmO then H else frzL H args) ++ HR.map (AO.ren HR fun o => some (o + H.length))
theorem HC_of_PC {P : Program} {e : Bool} {f : FuncId} {args : List AV} {H : List AO} {ps : List PV} {r : AV} {HR : List AO} (hv : views H args = some ps) (h : PC P f ps r HR) {R : AV → List AO → Prop}
    (hR : R (r.ren HR fun o => some (o + H.length)) (hpast H args r HR)) : HC P e f args H R := by
  intro M vs hM hH ha
  subst hH
  obtain ⟨hf1, hf2⟩ := frzL_ok (M := M) args (H := M.H) hM
  have hRP := views_ok (M := M) (M' := ⟨M.w, frzL M.H args, M.φ, M.base, M.S⟩) hf2 hf1 ha hv (fun x hx => frzL_self args M.H x hx)
  obtain ⟨Hs, hHs⟩ : ∃ Hs, Hs = if calmA r && HR.all calmO then M.H else frzL M.H args := ⟨_, rfl⟩
  have hHl : Hs.length = M.H.length := by
    rw [hHs]
    split
    · rfl
    · exact frzL_length _ _
  have hMs : MemOk ⟨M.w, Hs, M.φ, M.base, M.S⟩ ∧ Le M ⟨M.w, Hs, M.φ, M.base, M.S⟩ := by
    rw [hHs]
    split
    · exact ⟨hM, Le.refl M⟩
    · exact ⟨hf1, hf2⟩
  obtain ⟨hMs1, hMs2⟩ := hMs
  refine (h M.w (Mem.shared ⟨M.w, frzL M.H args, M.φ, M.base, M.S⟩) vs ⟨hRP.1, fun i hi hi' => (hRP.2 i hi hi').mono fun b hb => ⟨⟨hb.1, hb⟩, rfl⟩⟩).mono ?_
  rintro en w' ⟨v, φR, rfl, hMc, hr, hb⟩
  obtain ⟨ρ, hρ⟩ : ∃ ρ : Nat → Option Nat, ρ = fun o => some (o + M.H.length) := ⟨_, rfl⟩
  obtain ⟨Mc, hMcd⟩ : ∃ Mc : Mem, Mc = ⟨w', HR, φR, M.w.heap.size, Mem.shared ⟨M.w, frzL M.H args, M.φ, M.base, M.S⟩⟩ := ⟨_, rfl⟩
  obtain ⟨M', hMd'⟩ : ∃ M' : Mem, M' = ⟨w', Hs ++ HR.map (AO.ren HR ρ), fun o => if o < M.H.length then M.φ o else φR (o - M.H.length), M.base, M.S⟩ := ⟨_, rfl⟩
  rw [← hMcd] at hMc hr
  have hφlo : ∀ o, o < M.H.length → M'.φ o = M.φ o := fun o ho => by rw [hMd']; simp [ho]
  have hφhi : ∀ o, M'.φ (o + M.H.length) = φR o := fun o => by rw [hMd']; dsimp only; rw [if_neg (by omega), Nat.add_sub_cancel]
  have hHlo : ∀ o, o < M.H.length → M'.H[o]? = Hs[o]? := fun o ho => by rw [hMd']; dsimp only; rw [List.getElem?_append_left (by omega)]
  have hHhi : ∀ o, M'.H[o + M.H.length]? = (HR[o]?).map (AO.ren HR ρ) := fun o => by
    rw [hMd']; dsimp only
    rw [List.getElem?_append_right (by omega), hHl, Nat.add_sub_cancel, List.getElem?_map]
  have hlt : ∀ o b, o < M.H.length → M.φ o = some b → b < M.w.heap.size := fun o b ho hb => hM.lt ho hb
  have hge : ∀ o b, o < HR.length → φR o = some b → M.w.heap.size ≤ b := fun o b ho hb => by
    have := hMc.lo o b (by rw [hMcd]; exact ho) (by rw [hMcd]; exact hb)
    rw [hMcd] at this
    exact this
  -- whoever stands in M' stands here or there
  have hwho : ∀ (o : Nat) (ob : AO), M'.H[o]? = some ob → (o < M.H.length ∧ Hs[o]? = some ob) ∨ ∃ k ob', o = k + M.H.length ∧ HR[k]? = some ob' ∧ ob = ob'.ren HR ρ := by
    intro o ob ho
    rcases Nat.lt_or_ge o M.H.length with h1 | h1
    · exact .inl ⟨h1, by rw [← hHlo o h1]; exact ho⟩
    · refine .inr ⟨o - M.H.length, ?_⟩
      have := hHhi (o - M.H.length)
      rw [Nat.sub_add_cancel h1, ho] at this
      obtain ⟨ob', h2, h3⟩ := Option.map_eq_some_iff.1 this.symm
      exact ⟨ob', by omega, h2, h3.symm⟩
  have hren : RenOk Mc M' ρ := by
    refine ⟨fun o o' ob h1 h2 => ?_, fun o ob h1 => ?_⟩
    · rw [hρ] at h1
      injection h1 with h1
      subst h1
      rw [hMcd] at h2 ⊢
      have hl := ob.ren_len HR ρ
      exact ⟨_, by rw [hHhi, show HR[o]? = some ob from h2]; rfl, hl.2.2.1, hl.1, hl.2.1, hφhi o, fun b _ => by rw [hMd']⟩
    · rw [hρ] at h1; cases h1
  have hsome : ∀ o, (ρ o).isSome = true := fun o => by rw [hρ]; rfl
  have hsh : (calmA r && HR.all calmO) = false → ShOk Mc M' := by
    intro hcf b hb
    rw [hcf] at hHs
    simp only [Bool.false_eq_true, if_false] at hHs
    rw [hMcd] at hb
    refine ⟨⟨by rw [hMd']; exact hb.1, fun hlt2 => ?_, fun o ob ho hf => ?_⟩, by rw [hMd', hMcd]⟩
    · rw [hMd'] at hlt2 ⊢
      dsimp only at hlt2
      exact (hb.2.1 (Nat.lt_of_lt_of_le hlt2 hM.bs)).2.1 hlt2
    · rcases hwho o ob ho with ⟨h1, h2⟩ | ⟨k, ob', rfl, h2, h3⟩
      · rw [hφlo o h1]
        intro e
        have hbl := hlt o b h1 e
        exact (hb.2.1 hbl).2.2 o ob (by rw [← hHs]; exact h2) hf e
      · rw [hφhi]
        subst h3
        rw [(ob'.ren_len HR ρ).2.2.2] at hf
        exact hb.2.2 k ob' h2 hf
  have hcs : ∀ {q : Bool}, (calmA r && HR.all calmO) = q → (q = true ∧ ∀ o, (ρ o).isSome = true) ∨ ShOk Mc M' := by
    intro q hq
    cases q
    · exact .inr (hsh hq)
    · exact .inl ⟨rfl, hsome⟩
  have hold : ∀ b, b < M.w.heap.size → w'.heap[b]? = M.w.heap[b]? := fun b hb2 => hb.block b hb2
  have hle : Le ⟨M.w, Hs, M.φ, M.base, M.S⟩ M' := by
    refine ⟨fun b hb2 => ⟨⟨by rw [hMd']; exact Nat.lt_of_lt_of_le hb2.1 hb.size, by rw [hMd']; exact hb2.2.1, fun o ob ho hf => ?_⟩, by rw [hMd']; exact hold b hb2.1⟩, fun o ob ho => ?_⟩
    · rcases hwho o ob ho with ⟨h1, h2⟩ | ⟨k, ob', rfl, h2, h3⟩
      · rw [hφlo o h1]
        exact hb2.2.2 o ob h2 hf
      · rw [hφhi]
        intro e
        have := hge k b (List.getElem?_eq_some_iff.1 h2).1 e
        have := hb2.1
        dsimp only at this
        omega
    · have h1 : o < M.H.length := by have := (List.getElem?_eq_some_iff.1 ho).1; dsimp only at this; omega
      refine ⟨ob, by rw [hHlo o h1]; exact ho, rfl, Nat.le_refl _, fun _ => ⟨rfl, hφlo o h1, fun b hb2 => ?_⟩⟩
      have := hold b (hlt o b h1 hb2)
      rw [hMd']
      simp [World.shape?, this]
  have hM' : MemOk M' := by
    refine ⟨fun o ob ho => ?_, fun o1 o2 b k1 k2 k3 k4 => ?_, fun o b k1 k2 => ?_, by rw [hMd']; exact Nat.le_trans hM.bs hb.size⟩
    · rcases hwho o ob ho with ⟨h1, h2⟩ | ⟨k, ob', rfl, h2, h3⟩
      · refine (hMs1.ok o ob h2).mono hle (hφlo o h1) (fun b hb2 => ?_)
        rw [hMd']
        exact hold b (hlt o b h1 hb2)
      · subst h3
        have := ObOk.ren (o' := k + M.H.length) (M' := M') hMc hren (o := k) (ob := ob') (by rw [hφhi, hMcd]) (fun b _ => by rw [hMd', hMcd]) (hMc.ok k ob' (by rw [hMcd]; exact h2))
        rw [hMcd] at this
        rw [hMcd] at hsh
        refine this ?_
        cases hq : (calmA r && HR.all calmO)
        · exact .inr (hsh hq)
        · simp only [Bool.and_eq_true] at hq
          exact .inl ⟨List.all_eq_true.1 hq.2 _ (List.mem_of_getElem? h2), hsome⟩
    · rw [hMd'] at k1 k2
      simp only [List.length_append, List.length_map, hHl] at k1 k2
      rcases Nat.lt_or_ge o1 M.H.length with c1 | c1 <;> rcases Nat.lt_or_ge o2 M.H.length with c2 | c2
      · rw [hφlo _ c1] at k3
        rw [hφlo _ c2] at k4
        exact hM.inj o1 o2 b c1 c2 k3 k4
      · rw [hφlo _ c1] at k3
        rw [show o2 = (o2 - M.H.length) + M.H.length by omega, hφhi] at k4
        have := hlt _ _ c1 k3
        have := hge _ _ (by omega) k4
        omega
      · rw [hφlo _ c2] at k4
        rw [show o1 = (o1 - M.H.length) + M.H.length by omega, hφhi] at k3
        have := hlt _ _ c2 k4
        have := hge _ _ (by omega) k3
        omega
      · rw [show o1 = (o1 - M.H.length) + M.H.length by omega, hφhi] at k3
        rw [show o2 = (o2 - M.H.length) + M.H.length by omega, hφhi] at k4
        have := hMc.inj (o1 - M.H.length) (o2 - M.H.length) b (by rw [hMcd]; dsimp only; omega) (by rw [hMcd]; dsimp only; omega) (by rw [hMcd]; exact k3) (by rw [hMcd]; exact k4)
        omega
    · rw [hMd'] at k1
      simp only [List.length_append, List.length_map, hHl] at k1
      have hbase : M'.base = M.base := by rw [hMd']
      rw [hbase]
      rcases Nat.lt_or_ge o M.H.length with c1 | c1
      · rw [hφlo _ c1] at k2
        exact hM.lo o b c1 k2
      · rw [show o = (o - M.H.length) + M.H.length by omega, hφhi] at k2
        have := hge _ _ (by omega) k2
        have := hM.bs
        omega
  refine ⟨v, r.ren HR ρ, M'.H, M'.φ, rfl, ?_, ?_, ?_, ?_, ?_, fun _ => Early.Ext.of_below hb⟩
  · rw [hMd', hρ]
    rw [hHs]
    exact hR
  · rw [hMd'] at hM' ⊢; exact hM'
  · have := hMs2.trans hle
    rw [hMd'] at this ⊢; exact this
  · have := RA.ren hMc hren hr (by
      rcases hcs (q := calmA r && HR.all calmO) rfl with ⟨h1, h2⟩ | h1
      · simp only [Bool.and_eq_true] at h1
        exact .inl ⟨h1.1, h2⟩
      · exact .inr h1)
    rw [hMcd] at this
    rw [hMd'] at this ⊢
    exact this
  · exact ⟨hb.os, hb.tape, hb.output, hb.size, fun k hk => hb.block k (by have := hM.bs; omega)⟩
theorem Wk_nil {m0 : Nat} {s : St} (i sz : Nat) (t : TypeId) (h : get s.t i = .p (.v (.slice none 0 0))) : Wk m0 s ⟨put s.t i (.os s.H.length 0 0), s.H ++ [.row [] sz t false]⟩ := by
  intro N M0 φ a w hm hs
  have hM : MemOk (⟨w, s.H, φ, M0.base, M0.S⟩ : Mem) := hs.m
  have hle := Le.grow (M := ⟨w, s.H, φ, M0.base, M0.S⟩) (ob := .row [] sz t false) (nb := none) hM (Nat.le_refl _) (fun _ _ => rfl) (fun b h => by cases h)
  refine ⟨upd φ s.H.length none, hs.d.mono hle.sh, hs.n, MemOk.grow (M := ⟨w, s.H, φ, M0.base, M0.S⟩) hM (Nat.le_refl _) (fun _ _ => rfl) (fun b h => by cases h) ⟨fun e he => (by cases he), .inl ⟨upd_at _ _ _, rfl⟩⟩, fun j => ?_, hs.b, hs.le.trans hle⟩
  rw [get_put]
  by_cases e : i = j
  · subst e
    rw [if_pos rfl]
    have := hs.r i
    rw [h] at this
    exact .os _ _ _ _ ⟨.row [] sz t false, by simp, by simp [AO.len], fun _ t' _ => .inl (.inl ⟨upd_at _ _ _, rfl, rfl, this.lit.1⟩)⟩
  · rw [if_neg e]
    exact (hs.r j).mono hle
theorem Wk_nilT {m0 : Nat} {s : St} (i : Nat) (t : TypeId) (h : get s.t i = .p (.v (.slice none 0 0))) : Wk m0 s ⟨put s.t i (.os s.H.length 0 0), s.H ++ [.tab [] t false]⟩ := by
  intro N M0 φ a w hm hs
  have hM : MemOk (⟨w, s.H, φ, M0.base, M0.S⟩ : Mem) := hs.m
  have hle := Le.grow (M := ⟨w, s.H, φ, M0.base, M0.S⟩) (ob := .tab [] t false) (nb := none) hM (Nat.le_refl _) (fun _ _ => rfl) (fun b h => by cases h)
  refine ⟨upd φ s.H.length none, hs.d.mono hle.sh, hs.n, MemOk.grow (M := ⟨w, s.H, φ, M0.base, M0.S⟩) hM (Nat.le_refl _) (fun _ _ => rfl) (fun b h => by cases h) (.inl ⟨upd_at _ _ _, rfl⟩), fun j => ?_, hs.b, hs.le.trans hle⟩
  rw [get_put]
  by_cases e : i = j
  · subst e
    rw [if_pos rfl]
    have := hs.r i
    rw [h] at this
    exact .os _ _ _ _ ⟨.tab [] t false, by simp, by simp [AO.len], fun _ t' _ => .inl (.inl ⟨upd_at _ _ _, rfl, rfl, this.lit.1⟩)⟩
  · rw [if_neg e]
    exact (hs.r j).mono hle
theorem Wk_nilR {m0 : Nat} {s : St} (i sz : Nat) (t : TypeId) (h : get s.t i = .p (.v (.slice none 0 0))) : Wk m0 s ⟨put s.t i (.os s.H.length 0 0), s.H ++ [.arr [] sz t]⟩ := by
  intro N M0 φ a w hm hs
  have hM : MemOk (⟨w, s.H, φ, M0.base, M0.S⟩ : Mem) := hs.m
  have hle := Le.grow (M := ⟨w, s.H, φ, M0.base, M0.S⟩) (ob := .arr [] sz t) (nb := none) hM (Nat.le_refl _) (fun _ _ => rfl) (fun b h => by cases h)
  refine ⟨upd φ s.H.length none, hs.d.mono hle.sh, hs.n, MemOk.grow (M := ⟨w, s.H, φ, M0.base, M0.S⟩) hM (Nat.le_refl _) (fun _ _ => rfl) (fun b h => by cases h) ⟨fun e he => (by cases he), .inl ⟨upd_at _ _ _, rfl⟩⟩, fun j => ?_, hs.b, hs.le.trans hle⟩
  rw [get_put]
  by_cases e : i = j
  · subst e
    rw [if_pos rfl]
    have := hs.r i
    rw [h] at this
    exact .os _ _ _ _ ⟨.arr [] sz t, by simp, by simp [AO.len], fun _ t' _ => .inl (.inl ⟨upd_at _ _ _, rfl, rfl, this.lit.1⟩)⟩
  · rw [if_neg e]
    exact (hs.r j).mono hle
theorem Wk_nil0 {m0 : Nat} {s : St} (i : Nat) (h : get s.t i = .p (.v (.slice none 0 0))) : Wk m0 s ⟨put s.t i (.p (.sl [])), s.H⟩ := by
  intro N M0 φ a w hm hs
  refine ⟨φ, hs.d, hs.n, hs.m, fun j => ?_, hs.b, hs.le⟩
  rw [get_put]
  by_cases e : i = j
  · subst e
    rw [if_pos rfl]
    have := hs.r i
    rw [h] at this
    rw [this.lit.1]
    exact .p _ _ (.sl [] none 0 0 (fun _ _ => undef) (by simp) (by simp) (fun i h => by simp at h) (.inl rfl) (fun i h => by simp at h))
  · rw [if_neg e]
    exact hs.r j
end Abs
end Go
end
