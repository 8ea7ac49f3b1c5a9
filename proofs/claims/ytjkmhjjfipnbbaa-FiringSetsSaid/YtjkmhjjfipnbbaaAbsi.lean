/-
  AN ABSTRACT MACHINE, part 9: every operation that calls nothing.
-/
import Derived.Test.YtjkmhjjfipnbbaaAbsh
namespace Go
namespace Abs
open Go.RowKit

section
variable {P : Program} {M : Mem} {s : St} {a : Act} {r : AV} {H' : List AO} {o : Oper}
theorem StepOk.weak {g : Bool} {e : Sem Next} {x : AV} (h : StepOk P M true e x H') : StepOk P M g e x H' := by
  obtain ⟨v, w', φ', h1, h2, h3, h4, h5, h6⟩ := h
  exact ⟨v, w', φ', h1, h2, h3, h4, h5, fun _ => h6 rfl⟩
theorem litBin_ok {bo : Bool} {op : BinOp} {t : TypeId} {x y : Operand} {u v c : Value} (ht : bo = true → P.underlying t = some .bool) (h : litBin bo op u v = some c) (w : World) : (do eqGuard op t x y u v; binOp op t u v : Sem Value).run P w = .ok c w ∧ scalar c = true := by
  unfold litBin at h
  split at h
  · rename_i k a k' b
    split at h
    · rename_i hk
      subst hk
      have hg : (eqGuard op t x y (.int k a) (.int k b)).run P w = .ok () w := by
        unfold eqGuard
        dsimp only
        split <;> rfl
      rw [Sem.run_bind, hg, Result.andThen_ok]
      cases op <;> simp only [reduceCtorEq] at h
      case quo =>
        split at h
        · cases h
        · rename_i h0; injection h with h; subst h; simp [binOp, Op.intDiv, h0, scalar]
      case rem =>
        split at h
        · cases h
        · rename_i h0; injection h with h; subst h; simp [binOp, Op.intDiv, h0, scalar]
      case eql => injection h with h; subst h; refine ⟨?_, rfl⟩; simp only [binOp, ne_eq, not_true_eq_false, if_false, Op.intCmp, Sem.run_pure]; rfl
      case neq => injection h with h; subst h; refine ⟨?_, rfl⟩; simp only [binOp, ne_eq, not_true_eq_false, if_false, Op.intCmp, Sem.run_pure]; rfl
      all_goals (injection h with h; subst h; simp [binOp, Op.intArith, Op.intCmp, scalar])
    · cases h
  · rename_i a b
    split at h
    · rename_i hbo
      have hg : (eqGuard op t x y (.bool a) (.bool b)).run P w = .ok () w := by
        unfold eqGuard
        dsimp only
        split <;> rfl
      have he : (Op.equal t (.bool a) (.bool b)).run P w = .ok (a == b) w := by
        unfold Op.equal Op.maxDepth Op.equalIn
        rw [Sem.run_bind, run_underlying (ht hbo), Result.andThen_ok]
        rfl
      rw [Sem.run_bind, hg, Result.andThen_ok]
      cases op <;> simp only [reduceCtorEq] at h
      all_goals (injection h with h; subst h; refine ⟨?_, rfl⟩; simp only [binOp, Sem.run_bind, he, Result.andThen_ok, Sem.run_pure]; try rfl)
    · cases h
  · cases h
theorem litUn_ok {op : UnOp} {u c : Value} (h : litUn op u = some c) (w : World) : (Op.unary op u).run P w = .ok c w ∧ scalar c = true := by
  unfold litUn at h
  split at h
  · injection h with h; subst h; exact ⟨rfl, rfl⟩
  · injection h with h; subst h; exact ⟨rfl, rfl⟩
  · cases h
theorem partA_p {ag : Bool} {n j : Nat} {e q : PV} (h : partP ag n e j = some q) : partA ag n (.p e) j = some (.p q) := by simp [partA, h]

theorem load_run {t : TypeId} {x : Operand} {ag : Bool} {n : Nat} (hag : agO P t = some ag) (hn : szO P t = some n) (hM : MemOk M) (hH : M.H = s.H) (hE : Env M s.t a)
    (h : astep (.load ag n x) s = some (r, H')) : ∃ ad v, a.eval x = .pointer (some ad) ∧ (loadVar t ad).run P M.w = .ok v M.w ∧ RA M r v ∧ M.H = H' := by
  have fin : ∀ {y : AV} {b off j : Nat} {z : AV} (c : Nat → Value), (∀ k (h : k < z.flat.length), M.w.cell? ⟨b, off + k, none⟩ = some (c k) ∧ RA M z.flat[k] (c k) ∧ (c k).oneCell' = true) → partA ag n z j = some y →
      a.eval x = .pointer (some ⟨b, off + j, none⟩) → ∃ ad v, a.eval x = .pointer (some ad) ∧ (loadVar t ad).run P M.w = .ok v M.w ∧ RA M y v ∧ M.H = M.H := by
    intro y b off j z c hc hp hv
    obtain ⟨v, hrun, hr⟩ := loadA c hc hag hn hp
    exact ⟨_, v, hv, hrun, hr, rfl⟩
  simp only [astep] at h
  split at h
  · rename_i ob m i j hx
    rw [← hH] at h
    obtain ⟨obj, h1, h2, h3⟩ := (aev_ok hE hx).toPtr
    split at h
    · rename_i els sz t' fz hob
      rw [hob] at h1
      injection h1 with h1
      subst h1
      split at h
      · rename_i hm
        split at h
        · rename_i e hei
          obtain ⟨q, hq, hh⟩ := Option.map_eq_some_iff.1 h
          simp only [Prod.mk.injEq] at hh
          obtain ⟨rfl, rfl⟩ := hh
          obtain ⟨hi, rfl⟩ := List.getElem?_eq_some_iff.1 hei
          obtain ⟨b, hφ, hv⟩ := h3 hm
          obtain ⟨hfl, hrest⟩ := hM.ok ob _ hob
          rcases hrest with ⟨hnone, _⟩ | ⟨b', cur, cap', hb1, hb2, hcs, hcap, hcells⟩
          · rw [hφ] at hnone; cases hnone
          · rw [hφ] at hb1
            injection hb1 with hb1
            subst hb1
            refine fin (z := .p els[i]) (off := i * sz) (fun k => cur.getD (i * sz + k) undef) (fun k hk => ?_) (partA_p hq) hv
            simp only [AV.flat, List.length_map] at hk
            obtain ⟨c, k1, k2⟩ := hcells i hi k hk
            rw [cell_of_row M.w b _ cur t' (0, 0) hb2, Array.getD_eq_getD_getElem?, k1]
            simp only [AV.flat, List.getElem_map, Option.getD_some]
            exact ⟨trivial, .p _ _ k2, k2.one ((hfl _ (List.getElem_mem hi)).2 _ (List.getElem_mem hk))⟩
        · cases h
      · cases h
    · rename_i y hob
      rw [hob] at h1
      injection h1 with h1
      subst h1
      split at h
      · rename_i hm
        obtain ⟨hm, rfl⟩ := hm
        obtain ⟨z, hz, hh⟩ := Option.map_eq_some_iff.1 h
        simp only [Prod.mk.injEq] at hh
        obtain ⟨rfl, rfl⟩ := hh
        obtain ⟨b, hφ, hv⟩ := h3 hm
        obtain ⟨b', cur, t', hb1, hb2, hcs⟩ := hM.ok ob _ hob
        rw [hφ] at hb1
        injection hb1 with hb1
        subst hb1
        refine fin (z := y) (b := b) (off := 0) (fun k => cur.getD k undef) (fun k hk => ?_) hz (by rw [hv]; simp [AO.sz])
        obtain ⟨c, k1, k2, k3⟩ := hcs.2 k hk
        rw [cell_of_row M.w b _ cur t' (0, 0) hb2, Nat.zero_add, Array.getD_eq_getD_getElem?, k1]
        exact ⟨rfl, k2, k3⟩
      · cases h
    · cases h
  · rename_i e j hx
    rw [← hH] at h
    obtain ⟨q, hq, hh⟩ := Option.map_eq_some_iff.1 h
    simp only [Prod.mk.injEq] at hh
    obtain ⟨rfl, rfl⟩ := hh
    have hsp := aev_ok hE hx
    generalize hv : a.eval x = v at hsp
    cases hsp with
    | sp e j b off c hb ho hc hr =>
      have := fin (z := .p e) (off := off) c (fun k hk => by
        simp only [AV.flat, List.length_map] at hk
        simp only [AV.flat, List.getElem_map]
        exact ⟨hc k hk, .p _ _ (hr k hk), (hr k hk).one (ho _ (List.getElem_mem hk))⟩) (partA_p hq) hv
      rwa [hv] at this
  · cases h

theorem step_load {t : TypeId} {x : Operand} {ag : Bool} {n : Nat} (hop : o.op = .load t x) (hag : agO P t = some ag) (hn : szO P t = some n) (hM : MemOk M) (hH : M.H = s.H) (hE : Env M s.t a)
    (h : astep (.load ag n x) s = some (r, H')) : StepOk P M true (execOp a.eval o) r H' := by
  obtain ⟨ad, v, hv, hrun, hr, rfl⟩ := load_run hag hn hM hH hE h
  refine StepOk.same (v := v) hM ?_ hr
  unfold execOp
  simp only [hop, Instr.loadAt, hv, Instr.sureAddr, Sem.run_bind, Sem.run_pure, Result.andThen_ok, hrun]
theorem step_fadr {t : TypeId} {x : Operand} {f : Nat} {fs : Array Field} {fd : Field} {n : Nat} (hop : o.op = .fieldAddr t x f) (ht : P.underlying t = some (.struct fs)) (hf : fs[f]? = some fd) (hn : szO P fd.type = some n) (hn0 : n ≠ 0)
    (hM : MemOk M) (hH : M.H = s.H) (hE : Env M s.t a) (h : astep (.fadr fd.offset x) s = some (r, H')) : StepOk P M true (execOp a.eval o) r H' := by
  have run : ∀ {b off : Nat}, a.eval x = .pointer (some ⟨b, off, none⟩) → (execOp a.eval o).run P M.w = .ok (.value (.pointer (some ⟨b, off + fd.offset, none⟩))) M.w := by
    intro b off hv
    unfold execOp
    simp only [hop, Instr.fieldAt, fieldPlace, hv, Instr.sureAddr, Sem.run_bind, Sem.run_pure, Result.andThen_ok, run_underlying ht, hf, szO_run hn, hn0, if_false, addr_add]
  simp only [astep] at h
  split at h
  · rename_i ob m i j hx
    rw [← hH] at h
    split at h
    · rename_i hs
      simp only [Option.some.injEq, Prod.mk.injEq] at h
      obtain ⟨rfl, rfl⟩ := h
      obtain ⟨obj, h1, h2, h3⟩ := (aev_ok hE hx).toPtr
      simp only [solid, h1, beq_iff_eq] at hs
      obtain ⟨b, hφ, hv⟩ := h3 hs
      exact StepOk.same hM (run hv) (.ptr _ _ _ _ _ ⟨obj, h1, h2, fun _ => ⟨b, hφ, by rw [Nat.add_assoc]⟩⟩)
    · cases h
  · rename_i e j hx
    rw [← hH] at h
    simp only [Option.some.injEq, Prod.mk.injEq] at h
    obtain ⟨rfl, rfl⟩ := h
    have hsp := aev_ok hE hx
    generalize hv : a.eval x = v at hsp
    cases hsp with
    | sp e j b off c hb ho hc hr =>
      have hr1 := run hv
      rw [Nat.add_assoc] at hr1
      exact StepOk.same hM hr1 (.sp e (j + fd.offset) b off c hb ho hc hr)
  · cases h

theorem step_iadr {t e : TypeId} {x i : Operand} {n : Nat} (hop : o.op = .indexAddr t x i) (ht : P.underlying t = some (.slice e)) (hn : szO P e = some n)
    (hM : MemOk M) (hH : M.H = s.H) (hE : Env M s.t a) (h : astep (.iadr n x i) s = some (r, H')) : StepOk P M true (execOp a.eval o) r H' := by
  have run : ∀ {b off len cap k : Nat} {kd : IntKind}, a.eval x = .slice (some ⟨b, off, none⟩) len cap → a.eval i = .int kd k → k < len → (execOp a.eval o).run P M.w = .ok (.value (.pointer (some ⟨b, off + k * n, none⟩))) M.w := by
    intro b off len cap k kd hv hi hk
    have h1 : (0 : Int) ≤ (k : Int) ∧ (k : Int) < (len : Int) := ⟨by omega, by omega⟩
    unfold execOp
    simp [hop, Instr.indexAt, hv, hi, asIntOf, run_underlying ht, szO_run hn, h1.1, addr_add, hk]
  simp only [astep] at h
  split at h
  · rename_i l k hx hk
    rw [← hH] at h
    split at h
    · rename_i e' hle
      split at h
      · rename_i hfl
        simp only [Option.some.injEq, Prod.mk.injEq] at h
        obtain ⟨rfl, rfl⟩ := h
        obtain ⟨kd, hi⟩ := asNat_bind hE hk
        have hsl := (aev_ok hE hx).toP
        generalize hv : a.eval x = v at hsl
        obtain ⟨hkl, rfl⟩ := List.getElem?_eq_some_iff.1 hle
        cases hsl with
        | sl l A cap sz c h1 h2 hs ha hr =>
          rcases ha with ha | ⟨b, off, rfl, hb, hc⟩
          · subst ha; simp at hkl
          · have e1 : sz = n := by have := (hs k hkl).1; omega
            subst e1
            have := run hv hi hkl
            exact StepOk.same hM this (RA.sp (l[k]) 0 b (off + k * sz) (c k) hb (hs k hkl).2 (fun j hj => hc k j hkl (by omega)) (hr k hkl))
      · cases h
    · cases h
  · rename_i ob off len k hx hk
    rw [← hH] at h
    split at h
    · rename_i els z t' fz hob
      split at h
      · rename_i hcond
        obtain ⟨hlen, hkl, rfl⟩ := hcond
        simp only [Option.some.injEq, Prod.mk.injEq] at h
        obtain ⟨rfl, rfl⟩ := h
        obtain ⟨kd, hi⟩ := asNat_bind hE hk
        obtain ⟨obj, h1, h2, h3⟩ := (aev_ok hE hx).toOs
        rw [hob] at h1
        injection h1 with h1
        subst h1
        rcases h3 (by simpa [AO.len] using hlen) t' rfl with ⟨_, _, hl, _⟩ | ⟨b, cap, hb, hv, hc1, hc2, hs⟩
        · omega
        · have := run hv hi hkl
          exact StepOk.same hM this (.ptr _ _ _ _ _ ⟨_, hob, by simp [AO.len], fun _ => ⟨b, hb, by simp [AO.sz, Nat.add_mul]⟩⟩)
      · cases h
    · cases h
  · cases h

theorem step_iadrA {t e : TypeId} {x i : Operand} {n len : Nat} (hop : o.op = .indexAddr t x i) (ht : P.underlying t = some (.array len e)) (hn : szO P e = some n)
    (hM : MemOk M) (hH : M.H = s.H) (hE : Env M s.t a) (h : astep (.iadrA len n x i) s = some (r, H')) : StepOk P M true (execOp a.eval o) r H' := by
  have run : ∀ {b off k : Nat} {kd : IntKind}, a.eval x = .pointer (some ⟨b, off, none⟩) → a.eval i = .int kd k → k < len → (execOp a.eval o).run P M.w = .ok (.value (.pointer (some ⟨b, off + k * n, none⟩))) M.w := by
    intro b off k kd hv hi hk
    have h1 : (0 : Int) ≤ (k : Int) ∧ (k : Int) < (len : Int) := ⟨by omega, by omega⟩
    unfold execOp
    simp [hop, Instr.indexAt, hv, hi, asIntOf, run_underlying ht, szO_run hn, h1.1, addr_add, Instr.sureAddr, hk]
  simp only [astep] at h
  split at h
  · rename_i ob m i0 j k hx hk
    rw [← hH] at h
    split at h
    · rename_i hcond
      obtain ⟨hkl, hs⟩ := hcond
      simp only [Option.some.injEq, Prod.mk.injEq] at h
      obtain ⟨rfl, rfl⟩ := h
      obtain ⟨kd, hi⟩ := asNat_bind hE hk
      obtain ⟨obj, h1, h2, h3⟩ := (aev_ok hE hx).toPtr
      simp only [solid, h1, beq_iff_eq] at hs
      obtain ⟨b, hφ, hv⟩ := h3 hs
      exact StepOk.same hM (run hv hi hkl) (.ptr _ _ _ _ _ ⟨obj, h1, h2, fun _ => ⟨b, hφ, by rw [Nat.add_assoc]⟩⟩)
    · cases h
  · rename_i e' j k hx hk
    rw [← hH] at h
    split at h
    · rename_i hkl
      simp only [Option.some.injEq, Prod.mk.injEq] at h
      obtain ⟨rfl, rfl⟩ := h
      obtain ⟨kd, hi⟩ := asNat_bind hE hk
      have hsp := aev_ok hE hx
      generalize hv : a.eval x = v at hsp
      cases hsp with
      | sp e j b off c hb ho hc hr =>
        have hr1 := run hv hi hkl
        rw [Nat.add_assoc] at hr1
        exact StepOk.same hM hr1 (.sp e' (j + k * n) b off c hb ho hc hr)
    · cases h
  · cases h

theorem part_ok {l : List AV} {cs : Array Value} (hx : RA M (.agg l) (.agg cs)) {t : TypeId} {ag : Bool} {n j : Nat} {y : AV} (hag : agO P t = some ag) (hn : szO P t = some n) (h : partA ag n (.agg l) j = some y) :
    ∃ v, (part t cs j).run P M.w = .ok v M.w ∧ RA M y v := by
  cases hx with
  | agg l cs hl ho hr =>
    have many : j + n ≤ l.length → RA M (.agg ((l.drop j).take n)) (.agg (cs.extract j (j + n))) := by
      intro hj
      refine .agg _ _ (by simp; omega) (fun c hc => ho c ?_) (fun i hi hi' => ?_)
      · obtain ⟨i, hi, rfl⟩ := Array.mem_iff_getElem.1 hc
        rw [Array.getElem_extract]
        exact Array.getElem_mem _
      · simp only [List.length_take, List.length_drop] at hi
        simp only [List.getElem_take, List.getElem_drop, Array.getElem_extract]
        exact hr (j + i) (by omega) (by omega)
    simp only [partA] at h
    unfold part
    cases ag with
    | true =>
      simp only [if_true] at h
      split at h
      · rename_i h0
        injection h with h
        subst h
        obtain ⟨rfl, rfl⟩ := h0
        refine ⟨.agg (cs.extract 0 (0 + l.length)), by simp only [Sem.run_bind, agO_run hag, Result.andThen_ok, if_true, szO_run hn, Sem.run_pure], ?_⟩
        have := many (by simp)
        rwa [List.drop_zero, List.take_of_length_le (Nat.le_refl _)] at this
      · split at h
        · rename_i hj
          injection h with h
          subst h
          exact ⟨_, by simp only [Sem.run_bind, agO_run hag, Result.andThen_ok, if_true, szO_run hn, Sem.run_pure], (many hj).mkAgg⟩
        · cases h
    | false =>
      simp only [Bool.false_eq_true, if_false] at h
      obtain ⟨hj, rfl⟩ := List.getElem?_eq_some_iff.1 h
      have hj' : j < cs.size := by omega
      refine ⟨cs[j], ?_, hr j hj hj'⟩
      simp only [Sem.run_bind, agO_run hag, Result.andThen_ok, Bool.false_eq_true, if_false, Array.getElem?_eq_getElem hj', Sem.run_pure]
theorem agg_of_p {l : List PV} {v : Value} (h : RA M (.p (.agg l)) v) : ∃ cs, v = .agg cs ∧ RA M (.agg (l.map .p)) (.agg cs) := by
  have := h.toP
  cases this with
  | agg l cs hl ho hr =>
    refine ⟨cs, rfl, .agg _ cs (by simpa using hl) (fun c hc => ?_) (fun i hi hi' => ?_)⟩
    · obtain ⟨i, hi, rfl⟩ := Array.mem_iff_getElem.1 hc
      exact (hr i (by omega) hi).one (ho _ (List.getElem_mem _))
    · simp only [List.getElem_map]
      exact .p _ _ (hr i (by simpa using hi) hi')
theorem partP_A {ag : Bool} {n j : Nat} {l : List PV} {q : PV} (hone : ∀ e ∈ l, e.one = true) (h : partP ag n (.agg l) j = some q) : partA ag n (.agg (l.map .p)) j = some (.p q) ∨ (partA ag n (.agg (l.map .p)) j = some (.agg (l.map .p)) ∧ q = .agg l) := by
  simp only [partP, PV.flat, Abs.isAgg] at h
  simp only [partA]
  cases ag with
  | true =>
    simp only [if_true] at h ⊢
    split at h
    · rename_i h0
      injection h with h
      subst h
      right
      rw [if_pos ⟨h0.1, by simpa using h0.2.1⟩]
      exact ⟨rfl, rfl⟩
    · rename_i h0
      by_cases hj : j + n ≤ l.length
      · simp only [hj, if_true, Option.some.injEq] at h
        subst h
        left
        rw [if_neg (fun h1 : j = 0 ∧ n = (l.map AV.p).length => h0 ⟨h1.1, by simpa using h1.2, trivial⟩), if_pos (by simpa using hj), ← List.map_drop, ← List.map_take]
        have hall : ∀ (m : List PV), allP (m.map .p) = some m := by
          intro m
          induction m with
          | nil => rfl
          | cons x m ih => simp [allP, ih]
        simp only [Abs.mkAgg, hall]
        rw [if_pos]
        exact List.all_eq_true.2 fun e he => hone e (List.mem_of_mem_drop (List.mem_of_mem_take he))
      · simp only [hj, if_false, reduceCtorEq] at h
  | false =>
    simp only [Bool.false_eq_true, if_false] at h ⊢
    left
    rw [List.getElem?_map, h]
    rfl
theorem part_okP {l : List PV} {v : Value} (hx : RA M (.p (.agg l)) v) {t : TypeId} {ag : Bool} {n j : Nat} {q : PV} (hag : agO P t = some ag) (hn : szO P t = some n) (h : partP ag n (.agg l) j = some q) :
    ∃ cs, v = .agg cs ∧ ∃ u, (part t cs j).run P M.w = .ok u M.w ∧ RA M (.p q) u := by
  obtain ⟨cs, rfl, hA⟩ := agg_of_p hx
  have hone : ∀ e ∈ l, e.one = true := by
    have := hx.toP
    cases this with
    | agg l cs hl ho hr => exact ho
  refine ⟨cs, rfl, ?_⟩
  rcases partP_A hone h with h1 | ⟨h1, rfl⟩
  · exact part_ok hA hag hn h1
  · obtain ⟨u, k1, k2⟩ := part_ok hA hag hn h1
    refine ⟨u, k1, ?_⟩
    have := k2.mkAgg
    have hall : ∀ (m : List PV), allP (m.map .p) = some m := by
      intro m
      induction m with
      | nil => rfl
      | cons x m ih => simp [allP, ih]
    simp only [Abs.mkAgg, hall] at this
    rwa [if_pos (List.all_eq_true.2 hone)] at this
end
end Abs
end Go
