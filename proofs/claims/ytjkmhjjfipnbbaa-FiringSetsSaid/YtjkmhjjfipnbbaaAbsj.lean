/-
  AN ABSTRACT MACHINE, part 10: a step of the machine is a step of the program.
-/
import Derived.Test.YtjkmhjjfipnbbaaAbsi
namespace Go
namespace Abs
open Go.RowKit

section
variable {P : Program} {M : Mem} {s : St} {a : Act} {r : AV} {H' : List AO} {o : Oper}
theorem same_of {y : AV} {v : Value} (hM : MemOk M) (hr : (execOp a.eval o).run P M.w = .ok (.value v) M.w) (hy : RA M y v) {g : Bool} {H : List AO} (hH : M.H = H) : StepOk P M g (execOp a.eval o) y H := by
  subst hH
  exact StepOk.same hM hr hy

theorem step_len {x : Operand} {t e : TypeId} (hop : o.op = .call { callee := .builtin .len, args := #[x], argTypes := #[t] }) (ht : P.underlying t = some (.slice e)) (hM : MemOk M) (hH : M.H = s.H) (hE : Env M s.t a)
    (h : astep (.len x) s = some (r, H')) : StepOk P M true (execOp a.eval o) r H' := by
  simp only [astep] at h
  split at h
  · rename_i y hy
    rw [← hH] at h
    obtain ⟨l, hl, hh⟩ := Option.map_eq_some_iff.1 h
    simp only [Prod.mk.injEq] at hh
    obtain ⟨rfl, rfl⟩ := hh
    obtain ⟨A, cap, hv, _⟩ := elems_ok hM (aev_ok hE hy) hl
    refine StepOk.same hM ?_ (RA.val rfl)
    unfold execOp
    simp only [hop, resolve, invoke, builtin, Builtin.len_, Sem.run_bind, Sem.run_pure, Result.andThen_ok, List.map_toArray, List.map_cons, List.map_nil, hv, goInt]
    simp [run_underlying ht]
  · cases h
theorem step_mm {x y : Operand} {mx : Bool} {ts : Array TypeId} (hop : o.op = .call { callee := .builtin (if mx then .max else .min), args := #[x, y], argTypes := ts }) (hM : MemOk M) (hH : M.H = s.H) (hE : Env M s.t a)
    (h : astep (.mm mx x y) s = some (r, H')) : StepOk P M true (execOp a.eval o) r H' := by
  simp only [astep] at h
  split at h
  · rename_i u v hu hv
    simp only [Option.some.injEq, Prod.mk.injEq] at h
    obtain ⟨rfl, rfl⟩ := h
    have e1 := (aev_ok hE hu).lit.1
    have e2 := (aev_ok hE hv).lit.1
    refine same_of hM ?_ (RA.val rfl) hH
    unfold execOp
    cases mx <;> simp [hop, resolve, invoke, builtin, e1, e2, Lib.run_max_ints, Lib.run_min_ints]
  · cases h
theorem step_fld {t : TypeId} {x : Operand} {f : Nat} {fs : Array Field} {fd : Field} {n : Nat} {ag : Bool} (hop : o.op = .field t x f) (ht : P.underlying t = some (.struct fs)) (hf : fs[f]? = some fd) (hag : agO P fd.type = some ag) (hn : szO P fd.type = some n)
    (hM : MemOk M) (hH : M.H = s.H) (hE : Env M s.t a) (h : astep (.fld ag n fd.offset x) s = some (r, H')) : StepOk P M true (execOp a.eval o) r H' := by
  have run : ∀ {cs : Array Value} {u : Value}, a.eval x = .agg cs → (part fd.type cs fd.offset).run P M.w = .ok u M.w → (execOp a.eval o).run P M.w = .ok (.value u) M.w := by
    intro cs u hv hp
    unfold execOp
    simp only [hop, Instr.field, hv, asAgg, Sem.run_bind, Sem.run_pure, Result.andThen_ok, run_underlying ht, hf, hp]
  simp only [astep] at h
  split at h
  · rename_i l hx
    obtain ⟨q, hq, hh⟩ := Option.map_eq_some_iff.1 h
    simp only [Prod.mk.injEq] at hh
    obtain ⟨rfl, rfl⟩ := hh
    obtain ⟨cs, hv, u, k1, k2⟩ := part_okP (aev_ok hE hx) hag hn hq
    exact same_of hM (run hv k1) k2 hH
  · rename_i l hx
    obtain ⟨q, hq, hh⟩ := Option.map_eq_some_iff.1 h
    simp only [Prod.mk.injEq] at hh
    obtain ⟨rfl, rfl⟩ := hh
    have hx' := aev_ok hE hx
    generalize hv : a.eval x = v at hx'
    have hcs : ∃ cs, v = .agg cs := by cases hx' with | agg l cs => exact ⟨cs, rfl⟩
    obtain ⟨cs, rfl⟩ := hcs
    obtain ⟨u, k1, k2⟩ := part_ok hx' hag hn hq
    exact same_of hM (run hv k1) k2 hH
  · cases h
theorem step_idx {t e : TypeId} {x i : Operand} {len n : Nat} {ag : Bool} (hop : o.op = .index t x i) (ht : P.underlying t = some (.array len e)) (hag : agO P e = some ag) (hn : szO P e = some n)
    (hM : MemOk M) (hH : M.H = s.H) (hE : Env M s.t a) (h : astep (.idx ag len n x i) s = some (r, H')) : StepOk P M true (execOp a.eval o) r H' := by
  have run : ∀ {cs : Array Value} {u : Value} {k : Nat} {kd : IntKind}, a.eval x = .agg cs → a.eval i = .int kd k → k < len → (part e cs (k * n)).run P M.w = .ok u M.w → (execOp a.eval o).run P M.w = .ok (.value u) M.w := by
    intro cs u k kd hv hi hk hp
    have h1 : (0 : Int) ≤ (k : Int) ∧ (k : Int) < (len : Int) := ⟨by omega, by omega⟩
    unfold execOp
    simp [hop, Instr.index, hv, hi, asIntOf, run_underlying ht, szO_run hn, h1.1, hk, hp]
  simp only [astep] at h
  split at h
  · rename_i l k hx hk
    split at h
    · rename_i hkl
      obtain ⟨q, hq, hh⟩ := Option.map_eq_some_iff.1 h
      simp only [Prod.mk.injEq] at hh
      obtain ⟨rfl, rfl⟩ := hh
      obtain ⟨kd, hi⟩ := asNat_bind hE hk
      obtain ⟨cs, hv, u, k1, k2⟩ := part_okP (aev_ok hE hx) hag hn hq
      exact same_of hM (run hv hi hkl k1) k2 hH
    · cases h
  · rename_i l k hx hk
    split at h
    · rename_i hkl
      obtain ⟨q, hq, hh⟩ := Option.map_eq_some_iff.1 h
      simp only [Prod.mk.injEq] at hh
      obtain ⟨rfl, rfl⟩ := hh
      obtain ⟨kd, hi⟩ := asNat_bind hE hk
      have hx' := aev_ok hE hx
      generalize hv : a.eval x = v at hx'
      have hcs : ∃ cs, v = .agg cs := by cases hx' with | agg l cs => exact ⟨cs, rfl⟩
      obtain ⟨cs, rfl⟩ := hcs
      obtain ⟨u, k1, k2⟩ := part_ok hx' hag hn hq
      exact same_of hM (run hv hi hkl k1) k2 hH
    · cases h
  · cases h
theorem step_nilc {x : Operand} (hop : o.op = .nilCheck x) (hM : MemOk M) (hH : M.H = s.H) (hE : Env M s.t a) (h : astep (.nilc x) s = some (r, H')) : StepOk P M true (execOp a.eval o) r H' := by
  simp only [astep] at h
  split at h
  · rename_i y hy
    have ry := aev_ok hE hy
    have run : ∀ (b off : Nat), a.eval x = .pointer (some ⟨b, off, none⟩) → (execOp a.eval o).run P M.w = .ok (.value (a.eval x)) M.w := by
      intro b off hv
      unfold execOp
      simp only [hop, hv, Sem.run_pure]
    split at h
    · rename_i ob n i j
      split at h
      · rename_i hs
        simp only [Option.some.injEq, Prod.mk.injEq] at h
        obtain ⟨rfl, rfl⟩ := h
        obtain ⟨obj, h1, h2, h3⟩ := ry.toPtr
        rw [← hH] at hs
        simp only [solid, h1, beq_iff_eq] at hs
        obtain ⟨b, _, hv⟩ := h3 hs
        exact same_of hM (run _ _ hv) ry hH
      · cases h
    · split at h
      · simp only [Option.some.injEq, Prod.mk.injEq] at h
        obtain ⟨rfl, rfl⟩ := h
        have hp : ∃ b off, a.eval x = .pointer (some ⟨b, off, none⟩) := by
          generalize a.eval x = v at ry
          cases ry with | sp => exact ⟨_, _, rfl⟩
        obtain ⟨b, off, hv⟩ := hp
        exact same_of hM (run _ _ hv) ry hH
      · cases h
    · cases h
  · cases h

theorem mapM_of {fs : List Field} {places : List (Nat × Nat)} (h : (fs.mapM fun f => (szO P f.type).map fun n => (f.offset, n)) = some places) : fs.mapM (fun f => (P.info? f.type).map fun i => (f.offset, i.size)) = some places := mapM_places h

set_option maxHeartbeats 1000000 in
theorem astep_ok {op : AOp} (hc : cop P o = some op) (hM : MemOk M) (hH : M.H = s.H) (hE : Env M s.t a) (h : astep op s = some (r, H')) : StepOk P M (grows op) (execOp a.eval o) r H' := by
  unfold cop at hc
  split at hc
  · rename_i x hop
    injection hc with hc; subst hc
    simp only [astep, Option.map_eq_some_iff, Prod.mk.injEq] at h
    obtain ⟨y, hy, rfl, rfl⟩ := h
    exact same_of hM (by unfold execOp; simp only [hop, Sem.run_pure]) (aev_ok hE hy) hH
  · rename_i x hop
    injection hc with hc; subst hc
    simp only [astep, Option.map_eq_some_iff, Prod.mk.injEq] at h
    obtain ⟨y, hy, rfl, rfl⟩ := h
    exact same_of hM (by unfold execOp; simp only [hop, Sem.run_pure]) (aev_ok hE hy) hH
  · rename_i c x y hop
    injection hc with hc; subst hc
    simp only [astep] at h
    split at h
    · rename_i b hcb
      have hcv := (aev_ok hE hcb).lit.1
      have run : (execOp a.eval o).run P M.w = .ok (.value (if b then a.eval x else a.eval y)) M.w := by
        unfold execOp
        cases b <;> simp [hop, hcv, asBool]
      cases b
      · simp only [Bool.false_eq_true, if_false, Option.map_eq_some_iff, Prod.mk.injEq] at h run
        obtain ⟨z, hz, rfl, rfl⟩ := h
        exact same_of hM run (aev_ok hE hz) hH
      · simp only [if_true, Option.map_eq_some_iff, Prod.mk.injEq] at h run
        obtain ⟨z, hz, rfl, rfl⟩ := h
        exact same_of hM run (aev_ok hE hz) hH
    · cases h
  · rename_i t x hop
    injection hc with hc; subst hc
    exact step_box hop hM hH hE h
  · rename_i t hop
    obtain ⟨z, hz, rfl⟩ := Option.map_eq_some_iff.1 hc
    exact step_zro hop hz hM hH h
  · rename_i t x hop
    split at hc
    · rename_i ag n hag hn
      injection hc with hc; subst hc
      exact step_load hop hag hn hM hH hE h
    · cases hc
  · rename_i t x y hop
    obtain ⟨n, hn, rfl⟩ := Option.map_eq_some_iff.1 hc
    exact step_store hop hn hM hH hE h
  · rename_i op t x y yt hop
    have main : ∀ bo, (bo = true → P.underlying t = some .bool) → astep (.bin bo op x y) s = some (r, H') → StepOk P M true (execOp a.eval o) r H' := by
      intro bo hbo h
      simp only [astep] at h
      split at h
      · rename_i u v hu hv
        obtain ⟨c, hcc, hh⟩ := Option.map_eq_some_iff.1 h
        simp only [Prod.mk.injEq] at hh
        obtain ⟨rfl, rfl⟩ := hh
        obtain ⟨k1, k2⟩ := litBin_ok (P := P) (t := t) (x := x) (y := y) hbo hcc M.w
        refine same_of hM ?_ (RA.val k2) hH
        rw [← (aev_ok hE hu).lit.1, ← (aev_ok hE hv).lit.1] at k1
        unfold execOp
        simp only [hop]
        rw [Sem.run_bind, k1]
        rfl
      · cases h
    split at hc
    · split at hc
      · injection hc with hc; subst hc
        simp [astep] at h
      · injection hc with hc; subst hc
        simp [astep] at h
      · cases hc
    · injection hc with hc; subst hc
      exact main false (fun h => by cases h) h
    · rename_i hb
      injection hc with hc; subst hc
      exact main true (fun _ => hb) h
    · cases hc
  · rename_i op t x hop
    injection hc with hc; subst hc
    simp only [astep] at h
    split at h
    · rename_i u hu
      obtain ⟨c, hcc, hh⟩ := Option.map_eq_some_iff.1 h
      simp only [Prod.mk.injEq] at hh
      obtain ⟨rfl, rfl⟩ := hh
      obtain ⟨k1, k2⟩ := litUn_ok (P := P) hcc M.w
      refine same_of hM ?_ (RA.val k2) hH
      rw [← (aev_ok hE hu).lit.1] at k1
      unfold execOp
      simp only [hop]
      rw [Sem.run_bind, k1]
      rfl
    · cases h
  · rename_i x i hop
    injection hc with hc; subst hc
    simp only [astep] at h
    split at h
    · rename_i l hl
      obtain ⟨y, hy, hh⟩ := Option.map_eq_some_iff.1 h
      simp only [Prod.mk.injEq] at hh
      obtain ⟨rfl, rfl⟩ := hh
      have hx' := aev_ok hE hl
      generalize hv : a.eval x = v at hx'
      cases hx' with
      | tup l cs hl hr =>
        obtain ⟨hi, rfl⟩ := List.getElem?_eq_some_iff.1 hy
        refine same_of (v := cs[i]) hM ?_ (hr i hi (by omega)) hH
        unfold execOp
        simp [hop, hv, Instr.extract, Array.getElem?_eq_getElem (by omega : i < cs.size)]
    · cases h
  · rename_i t x f hop
    split at hc
    · rename_i fs ht
      split at hc
      · rename_i fd hf
        split at hc
        · rename_i n hn
          split at hc
          · cases hc
          · rename_i hn0
            injection hc with hc; subst hc
            exact step_fadr hop ht hf hn hn0 hM hH hE h
        · cases hc
      · cases hc
    · cases hc
  · rename_i t x i hop
    split at hc
    · rename_i e ht
      obtain ⟨n, hn, rfl⟩ := Option.map_eq_some_iff.1 hc
      exact step_iadr hop ht hn hM hH hE h
    · rename_i len e ht
      obtain ⟨n, hn, rfl⟩ := Option.map_eq_some_iff.1 hc
      exact step_iadrA hop ht hn hM hH hE h
    · cases hc
  · rename_i t x f hop
    split at hc
    · rename_i fs ht
      split at hc
      · rename_i fd hf
        split at hc
        · rename_i ag n hag hn
          injection hc with hc; subst hc
          exact step_fld hop ht hf hag hn hM hH hE h
        · cases hc
      · cases hc
    · cases hc
  · rename_i t x i hop
    split at hc
    · rename_i len e ht
      split at hc
      · rename_i ag n hag hn
        injection hc with hc; subst hc
        exact step_idx hop ht hag hn hM hH hE h
      · cases hc
    · cases hc
  · rename_i t n c hop
    split at hc
    · rename_i e hsl
      split at hc
      · rename_i sz z i hsz hz hi
        split at hc
        · rename_i hcond
          obtain ⟨k1, k2, k3, k4⟩ := hcond
          injection hc with hc; subst hc
          have ht : P.underlying t = some (.slice e) := by
            unfold slO at hsl
            split at hsl
            · rename_i e' he; injection hsl with hsl; subst hsl; exact he
            · cases hsl
          have hs : i.size = sz := by simp [szO, hi] at hsz; exact hsz
          exact step_mk hop ht hi hz (hs.trans k3) k3 k2 k4 hM hH hE h
        · cases hc
      · cases hc
    · cases hc
  · rename_i t n parts hop
    split at hc
    · rename_i e hsl
      split at hc
      · rename_i sz z hsz hz
        split at hc
        · rename_i hcond
          obtain ⟨k1, k2, k3, k4, k5⟩ := hcond
          injection hc with hc; subst hc
          have ht : P.underlying t = some (.slice e) := by
            unfold slO at hsl
            split at hsl
            · rename_i e' he; injection hsl with hsl; subst hsl; exact he
            · cases hsl
          obtain ⟨i, hi, hs⟩ := Option.map_eq_some_iff.1 hsz
          exact step_bsl hop ht hi hz hs k3 k4 k5 k1 k2 hM hH hE h
        · cases hc
      · cases hc
    · cases hc
  · rename_i t parts hop
    split at hc
    · rename_i fs z ht hz
      split at hc
      · rename_i places hpl
        injection hc with hc; subst hc
        refine step_bld hop hz (place := fun i => places[i]?) (fun i _ => rfl) (fun v i0 hi hv ps cells hf => ?_) hM hH hE h
        have hm := mapM_of hpl
        unfold Program.built
        simp only [hi, ht, hv, hm]
        simpa using hf
      · cases hc
    · rename_i len e z ht hz
      split at hc
      · rename_i n hn
        split at hc
        · rename_i hok
          injection hc with hc; subst hc
          obtain ⟨i1, hi1, rfl⟩ := Option.map_eq_some_iff.1 hn
          refine step_bld hop hz (place := fun i => some (i * i1.size, i1.size)) (fun i hi => ?_) (fun v i0 hi hv ps cells hf => ?_) hM hH hE h
          · have := List.all_eq_true.1 hok i hi
            simp only [decide_eq_true_eq] at this
            simp [this]
          · unfold Program.built
            simp only [hi, ht, hv, hi1]
            exact hf
        · cases hc
      · cases hc
    · cases hc
  · rename_i f first cap hop
    injection hc with hc; subst hc
    simp only [astep] at h
    split at h
    · rename_i ya yb ha hb
      simp only [Option.some.injEq, Prod.mk.injEq] at h
      obtain ⟨rfl, rfl⟩ := h
      obtain ⟨l1, r1⟩ := aevs_ok hE ha
      obtain ⟨l2, r2⟩ := aevs_ok hE hb
      refine same_of (v := .func f (first.map a.eval) (cap.map a.eval)) hM ?_ (.fn f ya yb _ _ ?_ ?_ (fun i hi hi' => ?_) (fun i hi hi' => ?_)) hH
      · unfold execOp
        simp only [hop, Instr.makeFunc, Sem.run_bind, Sem.run_pure, Result.andThen_ok]
      · simpa using l1
      · simpa using l2
      · have := r1 i hi (by rw [l1]; exact hi)
        simpa using this
      · have := r2 i hi (by rw [l2]; exact hi)
        simpa using this
    · cases h
  · rename_i x hop
    injection hc with hc; subst hc
    exact step_nilc hop hM hH hE h
  · rename_i c hop
    obtain ⟨callee, args, ats⟩ := c
    dsimp only at hc
    split at hc
    · split at hc
      · rename_i x t hargs hat
        split at hc
        · rename_i e ht
          split at hc
          · rename_i hsz
            injection hc with hc; subst hc
            have e1 : args = #[x] := Array.toList_inj.1 hargs
            have e2 : ats = #[t] := by
              apply Array.toList_inj.1
              rw [← Array.getElem?_toList] at hat
              have hl : ats.toList.length = 1 := by simpa using hsz
              match hal : ats.toList, hl with
              | [u], _ => rw [hal] at hat; simp at hat; rw [hat]
            subst e1 e2
            exact step_len hop ht hM hH hE h
          · cases hc
        · cases hc
      · cases hc
    · split at hc
      · rename_i x y t t' hargs hats
        split at hc
        · rename_i htt
          subst htt
          split at hc
          · rename_i e hsl
            split at hc
            · rename_i sz z i hsz hz hi
              split at hc
              · rename_i hcond
                obtain ⟨k1, k2, k3, k4⟩ := hcond
                injection hc with hc; subst hc
                have ht : P.underlying t = some (.slice e) := by
                  unfold slO at hsl
                  split at hsl
                  · rename_i e' he; injection hsl with hsl; subst hsl; exact he
                  · cases hsl
                obtain ⟨i', v, hi', hv, hov⟩ := zeroO_ok hz
                rw [hi] at hi'
                injection hi' with hi'
                subst hi'
                have hs : i.size = sz := by simp [szO, hi] at hsz; exact hsz
                have hzs := (pcells (M := M) (ofVal_ok (S := M.shared) (w := M.w) hov)).1
                rw [List.length_map, ← k1] at hzs
                have e1 : args = #[x, y] := Array.toList_inj.1 hargs
                have e2 : ats = #[t, t] := Array.toList_inj.1 hats
                subst e1 e2
                exact step_app hop ht hi hv hs k2 hzs k3 hM hH hE h
              · cases hc
            · cases hc
          · cases hc
        · cases hc
      · cases hc
    · split at hc
      · rename_i x y hargs
        injection hc with hc; subst hc
        have e1 : args = #[x, y] := Array.toList_inj.1 hargs
        subst e1
        exact step_mm (mx := false) hop hM hH hE h
      · cases hc
    · split at hc
      · rename_i x y hargs
        injection hc with hc; subst hc
        have e1 : args = #[x, y] := Array.toList_inj.1 hargs
        subst e1
        exact step_mm (mx := true) hop hM hH hE h
      · cases hc
    · split at hc
      · split at hc
        · cases hc
        · injection hc with hc; subst hc
          simp [astep] at h
      · cases hc
    · injection hc with hc; subst hc
      simp [astep] at h
    · cases hc
  · cases hc
end
end Abs
end Go
