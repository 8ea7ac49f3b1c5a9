/-
  AN ABSTRACT MACHINE, part 11: compiled code, what it comes to (W), and regions.
-/
import Derived.Test.YtjkmhjjfipnbbaaAbsj
namespace Go
namespace Abs
open Go.RowKit

structure AOper where
  dst : Option Nat
  op : AOp
  guard : Option (Nat × Bool)
  deriving Inhabited
inductive AC where
  | skip
  | ops (l : List AOper)
  | segs (l : List (List AOper × Option (Bool × AOper)))
  | seq (a b : AC)
  | cond (c : Operand) (a b : AC)
  | block (id : Nat) (a : AC)
  | loop (a : AC)
  | exit (id : Nat)
  | ret
inductive AExit where
  | normal
  | exit (id : Nat)
  | ret

def putO (t : List (Nat × AV)) (d : Option Nat) (x : AV) : List (Nat × AV) := match d with
  | some d => put t d x
  | none => t
/-- Is an operation wanted? -/
def gd (t : List (Nat × AV)) : Option (Nat × Bool) → Option Bool
  | none => some true
  | some (d, want) => match get t d with
    | .p (.v (.bool b)) => some (b == want)
    | .tup [] => some false
    | _ => none

/-- A call of function f. e: behind it every old block stands as it was. -/
def HC (P : Program) (e : Bool) (f : FuncId) (args : List AV) (H : List AO) (R : AV → List AO → Prop) : Prop :=
  ∀ (M : Mem) (vs : List Value), MemOk M → M.H = H → RAs M args vs → Calls P f vs.toArray M.w fun en w' => ∃ v r H' φ', en = .returned v ∧ R r H' ∧ MemOk ⟨w', H', φ', M.base, M.S⟩ ∧ Le M ⟨w', H', φ', M.base, M.S⟩ ∧
    RA ⟨w', H', φ', M.base, M.S⟩ r v ∧ Below M.base M.w w' ∧ (e = true → Early.Ext M.w w')
theorem HC.mono {P : Program} {e : Bool} {f : FuncId} {args : List AV} {H : List AO} {R R' : AV → List AO → Prop} (h : HC P e f args H R) (hR : ∀ r H', R r H' → R' r H') : HC P e f args H R' := fun M vs hM hH ha =>
  (h M vs hM hH ha).mono fun _ _ ⟨v, r, H', φ', h1, h2, h3⟩ => ⟨v, r, H', φ', h1, hR r H' h2, h3⟩

section
variable {P : Program}
theorem run_call {fn : Func} {f : FuncId} {w : World} {args : Array Value} (hf : P.funcs[f]? = some fn) (h1 : (fn.name == "runtime.NumGoroutine") = false) (h2 : fn.body.isNone = false) : (callFunc f args).run P w = .ok (.enter f args) w := by
  unfold callFunc
  rw [Sem.run_bind, run_program, Result.andThen_ok, hf]
  dsimp only
  rw [h1, h2]
  rfl
/-- Which functions may be called. -/
def callable (P : Program) (f : FuncId) : Bool := match P.funcs[f]? with
  | some fn => !(fn.name == "runtime.NumGoroutine") && !fn.body.isNone
  | none => false
theorem run_callable {f : FuncId} {w : World} {args : Array Value} (h : callable P f = true) : (callFunc f args).run P w = .ok (.enter f args) w := by
  unfold callable at h
  split at h
  · rename_i fn hf
    simp only [Bool.and_eq_true, Bool.not_eq_true'] at h
    exact run_call hf h.1 h.2
  · cases h

end
section
variable (P : Program)
def stepK (e : Bool) (op : AOp) (s : St) (K : AV → List AO → Prop) : Prop :=
  match op with
  | .call f args => match aevs s.t args with
    | some vs => HC P e f vs s.H K
    | none => False
  | .callv x args => match aev s.t x, aevs s.t args with
    | some (.fn (.func f) first cap), some vs => callable P f = true ∧ HC P e f (first ++ vs ++ cap) s.H K
    | _, _ => False
  | .eqn neg x => match aev s.t x with
    | some y => match isNil y, elems s.H y with
      | true, _ => K (.p (.v (.bool (!neg)))) s.H
      | false, some l => (l = [] → K (.p (.v (.bool (!neg)))) s.H) ∧ K (.p (.v (.bool neg))) s.H
      | _, _ => False
    | none => False
  | op => match astep op s with
    | some (x, H) => K x H
    | none => False
def Wop (e : Bool) (o : AOper) (K : St → Prop) (s : St) : Prop :=
  match gd s.t o.guard with
  | some true => stepK P e o.op s fun x H => K ⟨putO s.t o.dst x, H⟩
  | some false => K ⟨putO s.t o.dst (.tup []), s.H⟩
  | none => False
def Wops : List AOper → (St → Prop) → St → Prop
  | [], K, s => K s
  | o :: l, K, s => Wop P false o (Wops l K) s
def Wact (o : Option (Bool × AOper)) (K : St → Prop) (s : St) : Prop := match o with
  | some (x, o) => Wop P x o K s
  | none => K s
def Wsegs : List (List AOper × Option (Bool × AOper)) → (St → Prop) → St → Prop
  | [], K, s => K s
  | (l, o) :: rest, K, s => Wops P l (Wact P o (Wsegs rest K)) s
end

/-- The frame of a call: what it began with. -/
structure Sim (N : Nat) (M0 : Mem) (s : St) (φ : Nat → Option Nat) (a : Act) (w : World) : Prop where
  d : a.defers = []
  n : a.tmps.size = N
  m : MemOk ⟨w, s.H, φ, M0.base, M0.S⟩
  r : Env ⟨w, s.H, φ, M0.base, M0.S⟩ s.t a
  b : Below M0.base M0.w w
  le : Le M0 ⟨w, s.H, φ, M0.base, M0.S⟩

section
variable {P : Program} {N : Nat} {M0 : Mem} {s : St} {φ : Nat → Option Nat} {a : Act} {w : World}
theorem Sim.put (h : Sim N M0 s φ a w) {w' : World} {H' : List AO} {φ' : Nat → Option Nat} {x : AV} {v : Value} {d : Option Nat} (hd : ∀ i, d = some i → i < N) (hm : MemOk ⟨w', H', φ', M0.base, M0.S⟩)
    (hle : Le ⟨w, s.H, φ, M0.base, M0.S⟩ ⟨w', H', φ', M0.base, M0.S⟩) (hx : RA ⟨w', H', φ', M0.base, M0.S⟩ x v) (hb : Below M0.base w w') : Sim N M0 ⟨putO s.t d x, H'⟩ φ' (a.put d v) w' := by
  refine ⟨?_, ?_, hm, fun i => ?_, h.b.trans hb, h.le.trans hle⟩
  · cases d <;> exact h.d
  · cases d
    · exact h.n
    · simp only [Act.put, Array.size_setIfInBounds]; exact h.n
  · cases d with
    | none => exact (h.r i).mono hle
    | some d =>
      have hlt := hd d rfl
      have hn := h.n
      simp only [putO, get_put, Act.put]
      by_cases e : d = i
      · subst e
        rw [if_pos rfl, Array.getD_eq_getD_getElem?, Array.getElem?_setIfInBounds_self_of_lt (by omega)]
        exact hx
      · rw [if_neg e, Array.getD_eq_getD_getElem?, Array.getElem?_setIfInBounds_ne (by omega), ← Array.getD_eq_getD_getElem?]
        exact (h.r i).mono hle
theorem Sim.drew (h : Sim N M0 s φ a w) : Sim N M0 s φ a w.drew where
  d := h.d
  n := h.n
  m := MemOk.heap (M := ⟨w, s.H, φ, M0.base, M0.S⟩) h.m rfl
  r := fun i => (h.r i).mono (M := ⟨w, s.H, φ, M0.base, M0.S⟩) (M' := ⟨w.drew, s.H, φ, M0.base, M0.S⟩) (Le.heap (M := ⟨w, s.H, φ, M0.base, M0.S⟩) rfl)
  b := h.b.trans ((Below.refl _ _).drew)
  le := h.le.trans (Le.heap (M := ⟨w, s.H, φ, M0.base, M0.S⟩) rfl)

def dstOk (N : Nat) : Option Nat → Bool
  | some d => decide (d < N)
  | none => true
/-- An operation as the program has it, and as it is compiled. -/
def coper (P : Program) (ops : Array Oper) (N : Nat) (o : Oper) : Option AOper :=
  if dstOk N o.dst then
    match o.guard with
    | none => some ⟨o.dst, (cop P o).getD .bad, none⟩
    | some (j, want) => match (ops[j]?).bind (·.dst) with
      | some d => some ⟨o.dst, (cop P o).getD .bad, some (d, want)⟩
      | none => none
  else none
theorem coper_ok {ops : Array Oper} {o : Oper} {ao : AOper} (h : coper P ops N o = some ao) : ao.op = (cop P o).getD .bad ∧ ao.dst = o.dst ∧ (∀ i, o.dst = some i → i < N) ∧
    ∀ {M : Mem} {t : List (Nat × AV)} {a : Act} {b : Bool}, Env M t a → gd t ao.guard = some b → Region.wanted o (yielded ops a.tmps) = b := by
  unfold coper at h
  · split at h
    · rename_i hd
      have hd' : ∀ i, o.dst = some i → i < N := fun i hi => by rw [hi] at hd; simpa [dstOk] using hd
      split at h
      · rename_i hg
        injection h with h
        subst h
        exact ⟨rfl, rfl, hd', fun hE hgd => by simp only [gd, Option.some.injEq] at hgd; subst hgd; simp [Region.wanted, hg]⟩
      · rename_i j want hg
        split at h
        · rename_i d hj
          injection h with h
          subst h
          refine ⟨rfl, rfl, hd', fun {M t a b} hE hgd => ?_⟩
          simp only [gd] at hgd
          have hr := hE d
          unfold Region.wanted yielded
          rw [hg]
          dsimp only
          rw [hj]
          simp only [Option.bind_some]
          split at hgd
          · rename_i b' hget
            injection hgd with hgd
            rw [hget] at hr
            have hv := hr.lit.1
            have hlt : d < a.tmps.size := by
              rcases Nat.lt_or_ge d a.tmps.size with h | h
              · exact h
              · rw [Array.getD_eq_getD_getElem?, Array.getElem?_eq_none h] at hv
                cases hv
            rw [Array.getD_eq_getD_getElem?, Array.getElem?_eq_getElem hlt] at hv
            rw [Array.getElem?_eq_getElem hlt]
            simp only [Option.getD_some] at hv
            rw [hv]
            rw [← hgd]
            cases b' <;> cases want <;> rfl
          · rename_i hget
            injection hgd with hgd
            subst hgd
            rw [hget] at hr
            have hv : a.tmps.getD d undef = .tuple #[] := by
              generalize a.tmps.getD d undef = v at hr
              cases hr with
              | tup l cs hl hr =>
                have : cs = #[] := Array.eq_empty_of_size_eq_zero (by simpa using hl)
                rw [this]
            rw [Array.getD_eq_getD_getElem?] at hv
            cases hq : a.tmps[d]? with
            | none => rfl
            | some u =>
              rw [hq] at hv
              simp only [Option.getD_some] at hv
              rw [hv]
              rfl
          · cases hgd
        · cases h
    · cases h

theorem aevs_list {t : List (Nat × AV)} {M : Mem} (hE : Env M t a) {l : List Operand} {ys : List AV} (h : aevs t l = some ys) : RAs M ys (l.map a.eval) := aevs_ok hE h
theorem cop_call {o : Oper} {f : FuncId} {args : List Operand} (h : cop P o = some (.call f args)) : ∃ c : Call, o.op = .call c ∧ c.callee = .value (.func f) ∧ c.args.toList = args ∧ ∃ fn, P.funcs[f]? = some fn ∧ (fn.name == "runtime.NumGoroutine") = false ∧ fn.body.isNone = false := by
  cases hop : o.op with
  | call c =>
    obtain ⟨callee, cargs, ats⟩ := c
    simp only [cop, hop] at h
    split at h
    · (repeat' split at h) <;> first | (cases h; done) | (simp at h; done)
    · (repeat' split at h) <;> first | (cases h; done) | (simp at h; done)
    · (repeat' split at h) <;> first | (cases h; done) | (simp at h; done)
    · (repeat' split at h) <;> first | (cases h; done) | (simp at h; done)
    · split at h
      · rename_i fn hfn
        split at h
        · cases h
        · rename_i hc
          simp only [Option.some.injEq, AOp.call.injEq] at h
          obtain ⟨rfl, rfl⟩ := h
          simp only [Bool.or_eq_true, not_or, Bool.not_eq_true] at hc
          exact ⟨_, rfl, rfl, rfl, fn, hfn, hc.1, hc.2⟩
      · cases h
    · cases h
    · cases h
  | _ =>
    exfalso
    simp only [cop, hop] at h
    first
    | (cases h; done)
    | (simp at h; done)
    | ((repeat' split at h) <;> first | (cases h; done) | (simp at h; done))
theorem cop_callv {o : Oper} {x : Operand} {args : List Operand} (h : cop P o = some (.callv x args)) : ∃ c : Call, o.op = .call c ∧ c.callee = .value x ∧ c.args.toList = args := by
  cases hop : o.op with
  | call c =>
    obtain ⟨callee, cargs, ats⟩ := c
    simp only [cop, hop] at h
    split at h
    · (repeat' split at h) <;> first | (cases h; done) | (simp at h; done)
    · (repeat' split at h) <;> first | (cases h; done) | (simp at h; done)
    · (repeat' split at h) <;> first | (cases h; done) | (simp at h; done)
    · (repeat' split at h) <;> first | (cases h; done) | (simp at h; done)
    · (repeat' split at h) <;> first | (cases h; done) | (simp at h; done)
    · simp only [Option.some.injEq, AOp.callv.injEq] at h
      obtain ⟨rfl, rfl⟩ := h
      exact ⟨_, rfl, rfl, rfl⟩
    · cases h
  | _ =>
    exfalso
    simp only [cop, hop] at h
    first
    | (cases h; done)
    | (simp at h; done)
    | ((repeat' split at h) <;> first | (cases h; done) | (simp at h; done))

/-- What holds behind an operation. -/
def Behind1 (M0 : Mem) (s : St) (φ : Nat → Option Nat) (w : World) (e : Bool) (K : AV → List AO → Prop) (v : Value) (w' : World) : Prop :=
  ∃ x H' φ', K x H' ∧ MemOk ⟨w', H', φ', M0.base, M0.S⟩ ∧ Le ⟨w, s.H, φ, M0.base, M0.S⟩ ⟨w', H', φ', M0.base, M0.S⟩ ∧ RA ⟨w', H', φ', M0.base, M0.S⟩ x v ∧ Below M0.base w w' ∧ (e = true → Early.Ext w w')

theorem cop_eqn {o : Oper} {neg : Bool} {x : Operand} (h : cop P o = some (.eqn neg x)) : ∃ t e yt, o.op = .binOp (if neg then .neq else .eql) t x (.const (.slice none 0 0)) yt ∧ P.underlying t = some (.slice e) := by
  cases hop : o.op with
  | binOp op t x' y yt =>
    simp only [cop, hop] at h
    split at h
    · rename_i e ht
      split at h
      · simp only [Option.some.injEq, AOp.eqn.injEq] at h
        obtain ⟨rfl, rfl⟩ := h
        exact ⟨t, e, yt, rfl, ht⟩
      · simp only [Option.some.injEq, AOp.eqn.injEq] at h
        obtain ⟨rfl, rfl⟩ := h
        exact ⟨t, e, yt, rfl, ht⟩
      · cases h
    · cases h
    · cases h
    · cases h
  | call c =>
    exfalso
    simp only [cop, hop] at h
    (repeat' split at h) <;> first | (cases h; done) | (simp at h; done)
  | _ =>
    exfalso
    simp only [cop, hop] at h
    first
    | (cases h; done)
    | (simp at h; done)
    | ((repeat' split at h) <;> first | (cases h; done) | (simp at h; done))
theorem step_ok (hs : Sim N M0 s φ a w) {o : Oper} {op : AOp} (hc0 : op = (cop P o).getD .bad) {e : Bool} (he : e = true → grows op = true) {K : AV → List AO → Prop} (h : stepK P e op s K) {next : Act → World → Prop} {Q : Exit → Act → World → Prop}
    (hn : ∀ v w', Behind1 M0 s φ w e K v w' → next (a.put o.dst v) w') : o.wp P a w next Q := by
  have hc : cop P o = some op := by
    cases hcc : cop P o with
    | some op' => rw [hcc] at hc0; rw [hc0]; rfl
    | none =>
      rw [hcc] at hc0
      simp only [Option.getD_none] at hc0
      subst hc0
      simp [stepK, astep] at h
  clear hc0
  have hmain : ∀ {x : AV} {H' : List AO}, astep op s = some (x, H') → K x H' → o.wp P a w next Q := by
    intro x H' hx hK
    obtain ⟨v, w', φ', h1, h2, h3, h4, h5, h6⟩ := astep_ok (M := ⟨w, s.H, φ, M0.base, M0.S⟩) hc hs.m rfl hs.r hx
    have hb : Behind1 M0 s φ w e K v w' := ⟨x, H', φ', hK, h2, h3, h4, h5, fun h => h6 (he h)⟩
    unfold Oper.wp
    rcases h1 with h1 | ⟨h1, rfl⟩
    · dsimp only at h1
      rw [h1]
      exact hn v w' hb
    · dsimp only at h1
      rw [h1]
      exact hn undef w' hb
  have hcall : ∀ {f : FuncId} {vs : List AV} {us : List Value}, HC P e f vs s.H K → RAs ⟨w, s.H, φ, M0.base, M0.S⟩ vs us → (execOp a.eval o).run P w = .ok (.enter f us.toArray) w → o.wp P a w next Q := by
    intro f vs us hH hr hrun
    unfold Oper.wp
    rw [hrun]
    refine (hH _ us hs.m rfl hr).mono ?_
    rintro en w' ⟨v, r, H', φ', rfl, h1, h2, h3, h4, h5, h6⟩
    exact hn v w' ⟨r, H', φ', h1, h2, h3, h4, h5, h6⟩
  unfold stepK at h
  split at h
  · rename_i f args
    split at h
    · rename_i vs hvs
      obtain ⟨c, hop, hcal, hargs, fn, hf, h1, h2⟩ := cop_call hc
      refine hcall h (aevs_ok hs.r hvs) ?_
      unfold execOp
      simp only [hop, resolve, hcal, Act.eval, Deferred.ofValue, invoke, Sem.run_bind, Sem.run_pure, Result.andThen_ok]
      have := run_call (P := P) (w := w) (args := (#[] ++ Array.map a.eval c.args ++ #[])) hf h1 h2
      refine Eq.trans ?_ (this.trans ?_)
      · rfl
      · congr 2
        apply Array.toList_inj.1
        simp [← hargs]
    · exact h.elim
  · rename_i x args
    split at h
    · rename_i f first cap vs hx hvs
      obtain ⟨c, hop, hcal, hargs⟩ := cop_callv hc
      have hxv := aev_ok hs.r hx
      obtain ⟨k1, k2⟩ := aevs_ok hs.r hvs
      generalize hv : a.eval x = v at hxv
      cases hxv with
      | fn _ _ _ fs cs hl hl' hr hr' =>
        refine hcall (us := fs.toList ++ args.map a.eval ++ cs.toList) h.2 ⟨by simp at k1 ⊢; omega, fun i hi hi' => ?_⟩ ?_
        · simp only [List.length_append] at hi hi'
          simp only [Array.length_toList] at hi'
          by_cases c1 : i < first.length
          · have e1 : (first ++ vs ++ cap)[i] = first[i] := by rw [List.getElem_append_left (by simp; omega), List.getElem_append_left c1]
            have e2 : (fs.toList ++ args.map a.eval ++ cs.toList)[i] = fs[i] := by rw [List.getElem_append_left (by simp; omega), List.getElem_append_left (by simp; omega), Array.getElem_toList]
            rw [e1, e2]
            exact hr i c1 (by omega)
          · by_cases c2 : i < first.length + vs.length
            · have e1 : (first ++ vs ++ cap)[i] = vs[i - first.length]'(by omega) := by rw [List.getElem_append_left (by simp; omega), List.getElem_append_right (by omega)]
              have e2 : (fs.toList ++ args.map a.eval ++ cs.toList)[i] = (args.map a.eval)[i - first.length]'(by rw [k1]; omega) := by
                rw [List.getElem_append_left (by simp at k1 ⊢; omega), List.getElem_append_right (by simp; omega)]
                congr 1
                simp; omega
              rw [e1, e2]
              exact k2 _ (by omega) (by rw [k1]; omega)
            · have e1 : (first ++ vs ++ cap)[i] = cap[i - (first.length + vs.length)]'(by omega) := by
                rw [List.getElem_append_right (by simp; omega)]
                congr 1
                simp
              have e2 : (fs.toList ++ args.map a.eval ++ cs.toList)[i] = cs[i - (first.length + vs.length)]'(by omega) := by
                rw [List.getElem_append_right (by simp at k1 ⊢; omega), Array.getElem_toList]
                congr 1
                simp at k1 ⊢; omega
              rw [e1, e2]
              exact hr' _ (by omega) (by omega)
        · unfold execOp
          simp only [hop, resolve, hcal, hv, Deferred.ofValue, invoke, Sem.run_bind, Sem.run_pure, Result.andThen_ok]
          rw [run_callable h.1]
          congr 2
          apply Array.toList_inj.1
          simp [← hargs]
    · exact h.elim
  · rename_i neg x
    split at h
    · rename_i y hy
      obtain ⟨t, et, yt, hop, ht⟩ := cop_eqn hc
      have ry := aev_ok hs.r hy
      have hfin : ∀ (A : Option Addr) (n c : Nat), a.eval x = .slice A n c → (A.isNone = true → K (.p (.v (.bool (!neg)))) s.H) → (A.isNone = false → K (.p (.v (.bool neg))) s.H) → o.wp P a w next Q := by
        intro A n c hv k1 k2
        have hrun : (execOp a.eval o).run P w = .ok (.value (.bool (if neg then !A.isNone else A.isNone))) w := by
          have hce : a.eval (.const (.slice none 0 0)) = .slice none 0 0 := rfl
          unfold execOp
          cases neg
          · have := Lib.run_eql_slice_nil (P := P) w t et A n c 0 0 ht
            simp only [hop, hv, hce, eqGuard, Sem.run_bind, Bool.false_eq_true, if_false]
            simp [this]
          · have := run_neq_slice_nil_any (P := P) w t et A n c 0 0 ht
            simp only [hop, hv, hce, eqGuard, Sem.run_bind, if_true]
            simp [this]
        unfold Oper.wp
        rw [hrun]
        refine hn _ w ⟨.p (.v (.bool (if neg then !A.isNone else A.isNone))), s.H, φ, ?_, hs.m, Le.refl _, RA.val rfl, Below.refl _ _, fun _ => Early.Ext.refl _⟩
        cases hA : A.isNone
        · cases neg <;> exact k2 hA
        · cases neg <;> exact k1 hA
      split at h
      · rename_i hnil
        have hy2 : y = .p (.v (.slice none 0 0)) := by
          unfold isNil at hnil
          split at hnil
          · rfl
          · cases hnil
        subst hy2
        exact hfin none 0 0 ry.lit.1 (fun _ => h) (fun h => by cases h)
      · rename_i l hnil hl
        obtain ⟨A, cap, hv, _, _, hb⟩ := elems_ok (M := ⟨w, s.H, φ, M0.base, M0.S⟩) hs.m ry hl
        refine hfin A _ cap hv (fun hA => h.1 ?_) (fun _ => h.2)
        rcases hb with hb | ⟨b, off, sz, c, hA2, _⟩
        · exact hb
        · rw [hA2] at hA; cases hA
      · exact h.elim
    · exact h.elim
  · split at h
    · rename_i x H hx
      exact hmain hx h
    · exact h.elim
end
end Abs
end Go
