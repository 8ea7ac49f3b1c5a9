/-
  AN ABSTRACT MACHINE, part 13: compiled code; W stands for the kit's wp; contracts out of W.
-/
import Derived.Test.YtjkmhjjfipnbbaaAbsl
import Derived.Deep.LoopGhost
import Derived.OwnWalk
namespace Go
namespace Abs
open Go.RowKit

section
variable (P : Program) (N : Nat)
/-- In which order a region that draws is walked. -/
def segGo (ops : Array Oper) (X : Nat → Bool) : Nat → Array Bool → List Nat → Option (List (List Nat × Option Nat))
  | 0, _, _ => none
  | f + 1, listed, cur =>
    match Region.ready .any ops listed with
    | [] => some (if cur = [] then [] else [(cur, none)])
    | i0 :: r => match (i0 :: r).find? fun i => Early.headB .any ops X ops.size [i] listed with
      | some i => if Early.clean ops (Early.pick ops (cur ++ [i])) then segGo ops X f (listed.setIfInBounds i true) (cur ++ [i])
        else (segGo ops X f listed []).map ((cur, none) :: ·)
      | none => if r = [] then (segGo ops X f (listed.setIfInBounds i0 true) []).map ((cur, some i0) :: ·) else none
def actStores (ops : Array Oper) : List Nat := (List.range ops.size).filter fun i => match ops[i]? with
  | some o => match cop P o with
    | some op => !grows op
    | none => true
  | none => true
def cseg (ops : Array Oper) (X : Nat → Bool) : List Nat × Option Nat → Option (List AOper × Option (Bool × AOper))
  | (ps, oi) => match (Early.pick ops ps).mapM (coper P ops N) with
    | none => none
    | some al => if (al.all fun ao => lookA ao.op) && Early.clean ops (Early.pick ops ps) then
        match oi with
        | none => some (al, none)
        | some i => match ops[i]? with
          | none => none
          | some o => match coper P ops N o with
            | none => none
            | some ao => if !X i || grows ao.op then some (al, some (X i, ao)) else none
      else none
def csegs (ops : Array Oper) : Option AC :=
  let st := actStores P ops
  match segGo ops (fun i => !st.contains i) (3 * ops.size + 3) (Array.replicate ops.size false) [] with
  | none => none
  | some sg =>
    if P.follows .mixedOrders && Region.noSelect ops && Early.segsB .any ops (fun i => !st.contains i) ops.size sg (Array.replicate ops.size false) && Early.segsLen sg == ops.size then
      (sg.mapM (cseg P N ops fun i => !st.contains i)).map .segs
    else none
def ccode : Code → Option AC
  | .skip => some .skip
  | .label _ => some .skip
  | .region _ ops false => (ops.toList.mapM (coper P ops N)).map .ops
  | .region _ ops true => csegs P N ops
  | .seq a b => match ccode a, ccode b with
    | some x, some y => some (.seq x y)
    | _, _ => none
  | .cond c a b => match ccode a, ccode b with
    | some x, some y => some (.cond c x y)
    | _, _ => none
  | .block id a => (ccode a).map (.block id)
  | .loop a => (ccode a).map .loop
  | .exit id => some (.exit id)
  | .ret => some .ret
  | _ => none
end

/-- Whatever s stands for, s' stands for too; the first m0 objects keep their numbers. -/
def Wk (m0 : Nat) (s s' : St) : Prop := ∀ (N : Nat) (M0 : Mem) (φ : Nat → Option Nat) (a : Act) (w : World), M0.H.length = m0 → Sim N M0 s φ a w → ∃ φ', Sim N M0 s' φ' a w
theorem Wk.refl (m0 : Nat) (s : St) : Wk m0 s s := fun _ _ φ _ _ _ h => ⟨φ, h⟩
theorem Wk.trans {m0 : Nat} {a b c : St} (h : Wk m0 a b) (k : Wk m0 b c) : Wk m0 a c := fun N M0 φ u w hm hs => by
  obtain ⟨φ', h'⟩ := h N M0 φ u w hm hs
  exact k N M0 φ' u w hm h'
section
variable (P : Program) (m0 : Nat)
def LoopW (body : (AExit → St → Prop) → St → Prop) (Q : AExit → St → Prop) (s : St) : Prop :=
  ∃ (I : Nat → St → Prop), (∃ n s', Wk m0 s s' ∧ I n s') ∧ ∀ n s, I n s → body (fun e s1 => match e with
    | .normal => ∃ n' s2, Wk m0 s1 s2 ∧ I n' s2 ∧ n' < n
    | e => Q e s1) s
def W : AC → (AExit → St → Prop) → St → Prop
  | .skip, Q, s => Q .normal s
  | .ops l, Q, s => Wops P l (Q .normal) s
  | .segs l, Q, s => Wsegs P l (Q .normal) s
  | .seq a b, Q, s => W a (fun e s' => match e with
    | .normal => W b Q s'
    | e => Q e s') s
  | .cond c a b, Q, s => match aev s.t c with
    | some (.p (.v (.bool t))) => if t then W a Q s else W b Q s
    | _ => False
  | .block id a, Q, s => W a (fun e s' => match e with
    | .exit i => if i = id then Q .normal s' else Q (.exit i) s'
    | e => Q e s') s
  | .loop a, Q, s => LoopW m0 (W a) Q s
  | .exit id, Q, s => Q (.exit id) s
  | .ret, Q, s => Q .ret s
end
def toExit : AExit → Exit
  | .normal => .normal
  | .exit id => .exit id
  | .ret => .ret
def Sims (N : Nat) (M0 : Mem) (Q : AExit → St → Prop) (ex : Exit) (a : Act) (w : World) : Prop := ∃ ae s φ, ex = toExit ae ∧ Q ae s ∧ Sim N M0 s φ a w

section
variable {P : Program} {N : Nat} {M0 : Mem}
theorem Wsegs_ok {ops : Array Oper} {X : Nat → Bool} : ∀ {sg : List (List Nat × Option Nat)} {al : List (List AOper × Option (Bool × AOper))} {s : St} {φ : Nat → Option Nat} {a : Act} {w : World}, sg.mapM (cseg P N ops X) = some al → Sim N M0 s φ a w →
    ∀ {K : St → Prop}, Wsegs P al K s → ∀ {K' : Act → World → Prop}, (∀ s' φ' a' w', K s' → Sim N M0 s' φ' a' w' → K' a' w') → Early.wpSegs P ops K' X sg a w
  | [], al, s, φ, a, w, hm, hs, K, h, K', hn => by
    simp at hm
    subst hm
    exact hn s φ a w h hs
  | (ps, oi) :: sg, al, s, φ, a, w, hm, hs, K, h, K', hn => by
    obtain ⟨y, m, h1, h2, rfl⟩ := mapM_cons_some hm
    simp only [cseg] at h1
    split at h1
    · cases h1
    · rename_i l hl
      split at h1
      · rename_i hcond
        simp only [Bool.and_eq_true] at hcond
        split at h1
        · injection h1 with h1
          subst h1
          have := looks_list (done := []) hl hcond.1 hcond.2 (fun o ho => by cases ho) (fun o ho => by cases ho) hs h (fun s' φ' a' w' hK hs' => Wsegs_ok h2 hs' hK hn)
          exact Early.segs_last (by simpa using this)
        · rename_i i
          split at h1
          · cases h1
          · rename_i o ho
            split at h1
            · cases h1
            · rename_i ao hao
              split at h1
              · rename_i hX
                injection h1 with h1
                subst h1
                have := looks_list (done := []) (K' := Early.wpAct P ops (X i) i (Early.wpSegs P ops K' X sg)) hl hcond.1 hcond.2 (fun o ho => by cases ho) (fun o ho => by cases ho) hs h (fun s' φ' a' w' hK hs' => by
                  refine Early.act ?_
                  rw [Early.pick_cons, ho, Early.consO_some, Early.pick_nil]
                  refine Wop_ok hs' hao (e := X i) (fun he => by simpa [he] using hX) hK (fun s2 φ2 a2 w2 hK2 hs2 hext => ?_)
                  exact wpList_nil (Early.AtAct.mk hext (Wsegs_ok h2 hs2 hK2 hn)))
                exact Early.segs_some (by simpa using this)
              · cases h1
      · cases h1

theorem W_ok : ∀ {c : Code} {ac : AC}, ccode P N c = some ac → ∀ {Q : AExit → St → Prop} {s : St} {φ : Nat → Option Nat} {a : Act} {w : World}, W P M0.H.length ac Q s → Sim N M0 s φ a w → c.wp P (Sims N M0 Q) a w
  | .skip, ac, hc, Q, s, φ, a, w, h, hs => by
    simp only [ccode, Option.some.injEq] at hc; subst hc
    exact wp_skip ⟨.normal, s, φ, rfl, h, hs⟩
  | .label l, ac, hc, Q, s, φ, a, w, h, hs => by
    simp only [ccode, Option.some.injEq] at hc; subst hc
    exact wp_label ⟨.normal, s, φ, rfl, h, hs⟩
  | .region id ops false, ac, hc, Q, s, φ, a, w, h, hs => by
    simp only [ccode, Option.map_eq_some_iff] at hc
    obtain ⟨al, hal, rfl⟩ := hc
    exact wp_region_list (Wops_ok hal hs h (fun s' φ' a' w' hK hs' => ⟨.normal, s', φ', rfl, hK, hs'⟩))
  | .region id ops true, ac, hc, Q, s, φ, a, w, h, hs => by
    simp only [ccode, csegs] at hc
    split at hc
    · cases hc
    · rename_i sg hsg
      split at hc
      · rename_i hcond
        simp only [Bool.and_eq_true, beq_iff_eq] at hcond
        obtain ⟨⟨⟨k1, k2⟩, k3⟩, k4⟩ := hcond
        obtain ⟨al, hal, rfl⟩ := Option.map_eq_some_iff.1 hc
        have := Early.wp_region_early (P := P) (id := id) (l := ops.toList) (Q := Sims N M0 Q) (a := a) (w := w) (actStores P ops) sg k1 (by simpa using k2) (by simpa using k3) (by simpa using k4)
          (by
            simp only [Array.toArray_toList]
            exact Wsegs_ok hal hs.drew h (fun s' φ' a' w' hK hs' => ⟨.normal, s', φ', rfl, hK, hs'⟩))
        simpa using this
      · cases hc
  | .seq x y, ac, hc, Q, s, φ, a, w, h, hs => by
    simp only [ccode] at hc
    split at hc
    · rename_i ax ay hx hy
      injection hc with hc; subst hc
      refine wp_seq (wp_mono (W_ok hx h hs) ?_)
      rintro e a' w' ⟨ae, s', φ', rfl, hq, hs'⟩
      cases ae with
      | normal => exact W_ok hy hq hs'
      | exit id => exact ⟨.exit id, s', φ', rfl, hq, hs'⟩
      | ret => exact ⟨.ret, s', φ', rfl, hq, hs'⟩
    · cases hc
  | .cond c x y, ac, hc, Q, s, φ, a, w, h, hs => by
    simp only [ccode] at hc
    split at hc
    · rename_i ax ay hx hy
      injection hc with hc; subst hc
      simp only [W] at h
      split at h
      · rename_i t ht
        have hv := (aev_ok hs.r ht).lit.1
        refine wp_cond hv ?_
        cases t
        · exact W_ok hy h hs
        · exact W_ok hx h hs
      · exact h.elim
    · cases hc
  | .block id x, ac, hc, Q, s, φ, a, w, h, hs => by
    simp only [ccode, Option.map_eq_some_iff] at hc
    obtain ⟨ax, hx, rfl⟩ := hc
    refine wp_block (wp_mono (W_ok hx h hs) ?_)
    rintro e a' w' ⟨ae, s', φ', rfl, hq, hs'⟩
    cases ae with
    | normal => exact ⟨.normal, s', φ', rfl, hq, hs'⟩
    | exit i =>
      simp only [toExit, Exit.inBlock]
      by_cases hi : i = id
      · rw [if_pos hi]
        simp only [if_pos hi] at hq
        exact ⟨.normal, s', φ', rfl, hq, hs'⟩
      · rw [if_neg hi]
        simp only [if_neg hi] at hq
        exact ⟨.exit i, s', φ', rfl, hq, hs'⟩
    | ret => exact ⟨.ret, s', φ', rfl, hq, hs'⟩
  | .loop x, ac, hc, Q, s, φ, a, w, h, hs => by
    simp only [ccode, Option.map_eq_some_iff] at hc
    obtain ⟨ax, hx, rfl⟩ := hc
    obtain ⟨I, ⟨n0, s0, hk, hI⟩, round⟩ := h
    obtain ⟨φ0, hs0⟩ := hk N M0 φ a w rfl hs
    refine wp_loop_ghost (fun n a w => ∃ s φ, I n s ∧ Sim N M0 s φ a w) n0 ⟨s0, φ0, hI, hs0⟩ ?_
    rintro n a1 w1 ⟨s1, φ1, hI1, hs1⟩
    refine wp_mono (W_ok hx (round n s1 hI1) hs1) ?_
    rintro e a' w' ⟨ae, s', φ', rfl, hq, hs'⟩
    cases ae with
    | normal =>
      obtain ⟨n', s2, hk2, hI2, hlt⟩ := hq
      obtain ⟨φ2, hs2⟩ := hk2 N M0 φ' a' w' rfl hs'
      exact ⟨n', hlt, s2, φ2, hI2, hs2⟩
    | exit i => exact ⟨.exit i, s', φ', rfl, hq, hs'⟩
    | ret => exact ⟨.ret, s', φ', rfl, hq, hs'⟩
  | .exit id, ac, hc, Q, s, φ, a, w, h, hs => by
    simp only [ccode, Option.some.injEq] at hc; subst hc
    exact wp_exit ⟨.exit id, s, φ, rfl, h, hs⟩
  | .ret, ac, hc, Q, s, φ, a, w, h, hs => by
    simp only [ccode, Option.some.injEq] at hc; subst hc
    exact wp_ret ⟨.ret, s, φ, rfl, h, hs⟩
  | .goto _, ac, hc, _, _, _, _, _, _, _ => by simp [ccode] at hc
  | .rangeFunc _ _ _ _, ac, hc, _, _, _, _, _, _, _ => by simp [ccode] at hc
  | .scope _, ac, hc, _, _, _, _, _, _, _ => by simp [ccode] at hc
  | .refuse _, ac, hc, _, _, _, _, _, _, _ => by simp [ccode] at hc

/-- A function, compiled: its code and the slots of its results. -/
inductive ARes where
  | tmp (i : Nat)
  | cell (i : Nat) (ag : Bool) (n : Nat)
structure AFn where
  n : Nat
  body : AC
  res : List ARes
/-- What a result slot holds. -/
def res1 (s : St) : ARes → Option AV
  | .tmp i => some (get s.t i)
  | .cell i ag n => (astep (.load ag n (.tmp i)) s).map (·.1)
def resL (s : St) : List ARes → Option (List AV)
  | [] => some []
  | x :: l => match res1 s x, resL s l with
    | some y, some m => some (y :: m)
    | _, _ => none
def resT : List AV → AV
  | [x] => x
  | l => .tup l
def resOf (s : St) (l : List ARes) : Option AV := (resL s l).map resT
def initT (k : Nat) : List AV → List (Nat × AV)
  | [] => []
  | x :: l => (k, x) :: initT (k + 1) l
def cres (P : Program) : List ResultVar → Option (List ARes)
  | [] => some []
  | .tmp i :: l => (cres P l).map (.tmp i :: ·)
  | .cell i t :: l => match agO P t, szO P t with
    | some ag, some n => (cres P l).map (.cell i ag n :: ·)
    | _, _ => none
/-- Function f with n arguments, compiled. -/
def cfn (P : Program) (f : FuncId) (n : Nat) : Option AFn :=
  match P.funcs[f]? with
  | none => none
  | some fn => match fn.body, cres P fn.results.toList with
    | some c, some rs => (ccode P (n + (fn.ntmps - n)) c).map fun ac => ⟨n + (fn.ntmps - n), ac, rs⟩
    | _, _ => none
/-- A result slot is read. -/
theorem resL_ok {P : Program} {M : Mem} {s : St} {a : Act} (hM : MemOk M) (hH : M.H = s.H) (hE : Env M s.t a) (f : ResultVar → Sem Value) (hf : ∀ i, f (.tmp i) = pure (a.tmps.getD i undef)) (hf' : ∀ c t, f (.cell c t) = (do loadVar t (← asAddr (a.tmps.getD c undef)))) :
    ∀ {l : List ResultVar} {rs : List ARes} {ys : List AV}, cres P l = some rs → resL s rs = some ys → ∃ vs, (l.mapM f).run P M.w = .ok vs M.w ∧ RAs M ys vs
  | [], rs, ys, h, h' => by
    simp only [cres, Option.some.injEq] at h
    subst h
    simp only [resL, Option.some.injEq] at h'
    subst h'
    exact ⟨[], by simp, rfl, fun i h => by simp at h⟩
  | rv :: l, rs, ys, h, h' => by
    have key : ∀ {ar : ARes} {rs' : List ARes}, rs = ar :: rs' → cres P l = some rs' → (∀ {y : AV}, res1 s ar = some y → ∃ v, (f rv).run P M.w = .ok v M.w ∧ RA M y v) → ∃ vs, ((rv :: l).mapM f).run P M.w = .ok vs M.w ∧ RAs M ys vs := by
      intro ar rs' hrs hl h1
      subst hrs
      simp only [resL] at h'
      split at h'
      · rename_i y m hy hm
        injection h' with h'
        subst h'
        obtain ⟨v, hv, hr⟩ := h1 hy
        obtain ⟨vs, hvs, k1, k2⟩ := resL_ok hM hH hE f hf hf' hl hm
        refine ⟨v :: vs, by simp only [List.mapM_cons, Sem.run_bind, hv, Result.andThen_ok, hvs, Sem.run_pure], by simp [k1], fun i hi hi' => ?_⟩
        cases i with
        | zero => exact hr
        | succ i => exact k2 i (by simpa using hi) (by simpa using hi')
      · cases h'
    cases rv with
    | tmp i =>
      simp only [cres, Option.map_eq_some_iff] at h
      obtain ⟨rs', hrs, rfl⟩ := h
      refine key rfl hrs (fun {y} hy => ?_)
      simp only [res1, Option.some.injEq] at hy
      subst hy
      exact ⟨_, by rw [hf]; rfl, hE i⟩
    | cell c t =>
      simp only [cres] at h
      split at h
      · rename_i ag n hag hn
        simp only [Option.map_eq_some_iff] at h
        obtain ⟨rs', hrs, rfl⟩ := h
        refine key rfl hrs (fun {y} hy => ?_)
        simp only [res1, Option.map_eq_some_iff] at hy
        obtain ⟨⟨y', H'⟩, h1, rfl⟩ := hy
        obtain ⟨ad, v, hv, hrun, hr, _⟩ := load_run hag hn hM hH hE h1
        refine ⟨v, ?_, hr⟩
        have hv' : a.tmps.getD c undef = .pointer (some ad) := hv
        rw [hf', hv']
        simp only [asAddr, Sem.run_bind, Sem.run_pure, Result.andThen_ok, hrun]
      · cases h
theorem res_ok {P : Program} {M : Mem} {s : St} {a : Act} {fn : Func} {rs : List ARes} {y : AV} (hM : MemOk M) (hH : M.H = s.H) (hE : Env M s.t a) (hr : cres P fn.results.toList = some rs) (h : resOf s rs = some y) :
    ∃ v, (results fn a.tmps).run P M.w = .ok v M.w ∧ RA M y v := by
  obtain ⟨ys, hys, rfl⟩ := Option.map_eq_some_iff.1 h
  have key : ∀ f : ResultVar → Sem Value, (∀ i, f (.tmp i) = pure (a.tmps.getD i undef)) → (∀ c t, f (.cell c t) = (do loadVar t (← asAddr (a.tmps.getD c undef)))) →
      ∃ v, (((Sem.run P (List.mapM f fn.results.toList) M.w).andThen fun a w' => Result.ok a.toArray w').andThen fun a w' => Sem.run P (pure (if h : a.size = 1 then a[0] else .tuple a)) w') = Result.ok v M.w ∧ RA M (resT ys) v := by
    intro f h1 h2
    obtain ⟨vs, hvs, k1, k2⟩ := resL_ok hM hH hE f h1 h2 hr hys
    refine ⟨_, by rw [hvs]; rfl, ?_⟩
    match ys, vs, k1, k2 with
    | [], [], _, _ => exact .tup [] #[] rfl (fun i h => by simp at h)
    | [y], [v], _, k2 => exact k2 0 (by simp) (by simp)
    | y :: y' :: ys, v :: v' :: vs, k1, k2 =>
      rw [dif_neg (by simp)]
      exact .tup _ _ (by simpa using k1) (fun i hi hi' => by
        simp only [List.getElem_toArray]
        exact k2 i hi (by simpa using hi'))
  have e : fn.results = fn.results.toList.toArray := by simp
  unfold results
  rw [e, List.mapM_toArray, Sem.run_bind, Sem.run_map]
  exact key _ (fun _ => rfl) (fun _ _ => rfl)
theorem get_init : ∀ (l : List AV) (k i : Nat), get (initT k l) i = if h : k ≤ i ∧ i - k < l.length then l[i - k]'h.2 else .dead
  | [], k, i => by simp [initT, get]
  | x :: l, k, i => by
    simp only [initT, get]
    by_cases e : k = i
    · subst e
      simp
    · rw [if_neg e, get_init l (k + 1) i]
      by_cases h : k + 1 ≤ i ∧ i - (k + 1) < l.length
      · rw [dif_pos h, dif_pos ⟨by omega, by simp; omega⟩]
        obtain ⟨m, hm⟩ : ∃ m, i - k = m + 1 := ⟨i - k - 1, by omega⟩
        have hm' : i - (k + 1) = m := by omega
        simp only [hm, hm', List.getElem_cons_succ]
      · rw [dif_neg h, dif_neg (by simp only [List.length_cons]; omega)]
theorem env_init {M : Mem} {args : List AV} {vs : List Value} (h : RAs M args vs) (k : Nat) : Env M (initT 0 args) { tmps := vs.toArray ++ Array.replicate k undef, defers := [] } := fun i => by
  rw [get_init]
  split
  · rename_i hi
    obtain ⟨_, hi⟩ := hi
    simp only [Nat.sub_zero] at hi ⊢
    have hl := h.1
    rw [Array.getD_eq_getD_getElem?, Array.getElem?_append_left (by simp; omega)]
    simp only [List.getElem?_toArray]
    rw [List.getElem?_eq_getElem (by omega)]
    exact h.2 i hi (by omega)
  · exact .dead _

end
end Abs
end Go
