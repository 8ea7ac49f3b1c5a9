/-
  AN ABSTRACT MACHINE, part 3: each operation that looks alone does in memory what the abstract one does.
-/
import Derived.Test.YtjkmhjjfipnbbaaAbsb
import Derived.Lib.MinMax
import Derived.Great.BuildSlice
namespace Go
namespace Abs
open Go.RowKit

theorem ofVal_ok {S : Nat → Prop} {w : World} {v : Value} {q : PV} (h : ofVal v = some q) : RP S w q v := by
  unfold ofVal at h
  split at h
  · rename_i hs
    injection h with h
    subst h
    exact .v v hs
  · split at h
    · rename_i cs _
      split at h
      · rename_i hs
        injection h with h
        subst h
        refine .agg _ cs (by simp) (fun e he => ?_) (fun i hi hi' => ?_)
        · obtain ⟨x, _, rfl⟩ := List.mem_map.1 he
          rfl
        · simp only [List.getElem_map, Array.getElem_toList]
          exact .v _ (List.all_eq_true.1 hs _ (by simp))
      · cases h
    · cases h
/-- The slots stand for the temporaries. -/
def Env (M : Mem) (t : List (Nat × AV)) (a : Act) : Prop := ∀ i, RA M (get t i) (a.tmps.getD i undef)
theorem Env.mono {M M' : Mem} {t : List (Nat × AV)} {a : Act} (hm : Le M M') (h : Env M t a) : Env M' t a := fun i => (h i).mono hm
theorem aev_ok {M : Mem} {t : List (Nat × AV)} {a : Act} (hE : Env M t a) {x : Operand} {y : AV} (h : aev t x = some y) : RA M y (a.eval x) := by
  cases x with
  | tmp i => simp only [aev, Option.some.injEq] at h; subst h; exact hE i
  | const v =>
    simp only [aev, Option.map_eq_some_iff] at h
    obtain ⟨q, hq, rfl⟩ := h
    exact .p q v (ofVal_ok hq)
  | func f => simp only [aev, Option.some.injEq] at h; subst h; exact .fn (.func f) [] [] #[] #[] rfl rfl (fun i h => by simp at h) (fun i h => by simp at h)
  | global g => simp [aev] at h

/-- What a step of the machine has to bring. -/
def StepOk (P : Program) (M : Mem) (g : Bool) (e : Sem Next) (x : AV) (H' : List AO) : Prop :=
  ∃ v w' φ', (e.run P M.w = .ok (.value v) w' ∨ (e.run P M.w = .ok .skip w' ∧ v = undef)) ∧ MemOk ⟨w', H', φ', M.base, M.S⟩ ∧ Le M ⟨w', H', φ', M.base, M.S⟩ ∧ RA ⟨w', H', φ', M.base, M.S⟩ x v ∧
    Below M.base M.w w' ∧ (g = true → Early.Ext M.w w')
theorem StepOk.same {P : Program} {M : Mem} {g : Bool} {e : Sem Next} {x : AV} {v : Value} (hM : MemOk M) (hr : e.run P M.w = .ok (.value v) M.w) (hx : RA M x v) : StepOk P M g e x M.H :=
  ⟨v, M.w, M.φ, .inl hr, hM, Le.refl M, hx, Below.refl _ _, fun _ => Early.Ext.refl _⟩

theorem RP.int {S : Nat → Prop} {w : World} {k : IntKind} {n : Int} {v : Value} (h : RP S w (.v (.int k n)) v) : v = .int k n := by cases h; rfl
theorem RA.lit {M : Mem} {x : Value} {v : Value} (h : RA M (.p (.v x)) v) : v = x ∧ scalar x = true := by
  cases h with | p x v h => cases h with | v x h => exact ⟨rfl, h⟩
theorem RA.toP {M : Mem} {x : PV} {v : Value} (h : RA M (.p x) v) : RP M.shared M.w x v := by cases h; assumption
theorem RA.val {M : Mem} {x : Value} (h : scalar x = true) : RA M (.p (.v x)) x := .p _ _ (.v x h)
theorem RA.toPtr {M : Mem} {o n i j : Nat} {v : Value} (h : RA M (.ptr o n i j) v) : PtrOk M o n i j v := by cases h; assumption
theorem RA.toOs {M : Mem} {o off len : Nat} {v : Value} (h : RA M (.os o off len) v) : OsOk M o off len v := by cases h; assumption
theorem asNat_ok {M : Mem} {x : AV} {v : Value} {k : Nat} (h : RA M x v) (hk : asNat x = some k) : ∃ kd : IntKind, v = .int kd k := by
  unfold asNat at hk
  split at hk
  · rename_i kd n
    obtain ⟨rfl, _⟩ := h.lit
    split at hk
    · rename_i h0
      injection hk with hk
      subst hk
      exact ⟨kd, by rw [Int.toNat_of_nonneg h0]⟩
    · cases hk
  · cases hk
theorem asNat_bind {M : Mem} {t : List (Nat × AV)} {a : Act} (hE : Env M t a) {x : Operand} {k : Nat} (h : (aev t x).bind asNat = some k) : ∃ kd : IntKind, a.eval x = .int kd k := by
  obtain ⟨y, hy, hk⟩ := Option.bind_eq_some_iff.1 h
  exact asNat_ok (aev_ok hE hy) hk

theorem RP.one_of {S : Nat → Prop} {w : World} {x : PV} {v : Value} (h : RP S w x v) (ho : v.oneCell' = true) : x.one = true := by
  cases h with
  | v => rfl
  | sl => rfl
  | agg => cases ho
theorem allP_eq : ∀ {l : List AV} {ps : List PV}, allP l = some ps → l = ps.map .p
  | [], ps, h => by simp [allP] at h; subst h; rfl
  | x :: l, ps, h => by
    cases x <;> simp only [allP, Option.map_eq_some_iff, reduceCtorEq] at h
    obtain ⟨qs, hq, rfl⟩ := h
    rw [allP_eq hq]; rfl
theorem RA.mkAgg {M : Mem} {l : List AV} {v : Value} (h : RA M (.agg l) v) : RA M (Abs.mkAgg l) v := by
  unfold Abs.mkAgg
  split
  · rename_i ps hps
    split
    · rename_i hone
      have := allP_eq hps
      subst this
      cases h with
      | agg l cs hl ho hr =>
        refine .p _ _ (.agg ps cs (by simpa using hl) (fun e he => List.all_eq_true.1 hone e he) (fun i hi hi' => ?_))
        have := hr i (by simpa using hi) hi'
        simp only [List.getElem_map] at this
        exact this.toP
    · exact h
  · exact h
/-- A value that may be stored: one cell, or a struct. -/
theorem solid_one {M : Mem} {x : AV} {v : Value} (h : RA M x v) (hs : solid M.H x = true) : v.oneCell' = true := by
  cases h with
  | p x v h => exact h.one hs
  | os o off len v h =>
    obtain ⟨ob, h1, h2, h3⟩ := h
    simp only [solid, h1] at hs
    cases ob with
    | row els sz t fz =>
      simp only [beq_iff_eq] at hs
      rcases h3 hs t rfl with ⟨_, _, _, rfl⟩ | ⟨b, cap, _, rfl, _⟩ <;> rfl
    | box y => simp at hs
  | ptr o n i j v h =>
    obtain ⟨ob, h1, h2, h3⟩ := h
    simp only [solid, h1, beq_iff_eq] at hs
    obtain ⟨b, _, rfl⟩ := h3 hs
    rfl
  | sp => rfl
  | agg => cases hs
  | tup => cases hs
  | fn => rfl
  | dead => cases hs
theorem cells_one {v : Value} (h : v.oneCell' = true) : v.cells = #[v] := by
  cases v <;> first | rfl | cases h
theorem boxable_cells {M : Mem} {x : AV} {v : Value} (h : RA M x v) (hs : boxable M.H x = true) : CellsOk M x.flat v.cells := by
  cases h with
  | p x v h =>
    cases h with
    | v x h => exact ⟨by rw [cells_one (scalar_one h)]; rfl, fun i hi => by
        simp [AV.flat, PV.flat] at hi
        subst hi
        exact ⟨_, by rw [cells_one (scalar_one h)]; rfl, RA.val h, scalar_one h⟩⟩
    | sl l A cap sz c h1 h2 h3 ha hr =>
      exact ⟨rfl, fun i hi => by
        simp [AV.flat, PV.flat] at hi
        subst hi
        exact ⟨_, rfl, .p _ _ (.sl l A cap sz c h1 h2 h3 ha hr), rfl⟩⟩
    | agg l cs hl ho hr =>
      refine ⟨by simpa [AV.flat, PV.flat, Value.cells] using hl, fun i hi => ?_⟩
      simp only [AV.flat, PV.flat, List.length_map] at hi
      refine ⟨cs[i], by simp [Value.cells, Array.getElem?_eq_getElem (by omega : i < cs.size)], ?_, ?_⟩
      · simp only [AV.flat, PV.flat, List.getElem_map]; exact .p _ _ (hr i hi (by omega))
      · exact (hr i hi (by omega)).one (ho _ (List.getElem_mem hi))
  | agg l cs hl ho hr =>
    refine ⟨hl, fun i hi => ?_⟩
    have hi' : i < cs.size := by simp only [AV.flat] at hi; omega
    exact ⟨cs[i], by simp [Value.cells, Array.getElem?_eq_getElem hi'], hr i hi hi', ho _ (by simp)⟩
  | tup => cases hs
  | dead => cases hs
  | os o off len v h =>
    have h1 := solid_one (.os o off len v h) hs
    exact ⟨by rw [cells_one h1]; rfl, fun i hi => by
      simp [AV.flat] at hi
      subst hi
      exact ⟨v, by rw [cells_one h1]; rfl, .os o off len v h, h1⟩⟩
  | ptr o n i j v h =>
    have h1 := solid_one (.ptr o n i j v h) hs
    exact ⟨by rw [cells_one h1]; rfl, fun k hk => by
      simp [AV.flat] at hk
      subst hk
      exact ⟨v, by rw [cells_one h1]; rfl, .ptr o n i j v h, h1⟩⟩
  | sp e j b off c hb ho hc hr =>
    exact ⟨rfl, fun i hi => by
      simp [AV.flat] at hi
      subst hi
      exact ⟨_, rfl, .sp e j b off c hb ho hc hr, rfl⟩⟩
  | fn f first cap fs cs hl hl' hr hr' =>
    exact ⟨rfl, fun i hi => by
      simp [AV.flat] at hi
      subst hi
      exact ⟨_, rfl, .fn f first cap fs cs hl hl' hr hr', rfl⟩⟩

section
variable {P : Program}
theorem agO_run {t : TypeId} {ag : Bool} (h : agO P t = some ag) (w : World) : (Go.isAgg t).run P w = .ok ag w := by
  unfold agO at h
  obtain ⟨d, hd, rfl⟩ := Option.map_eq_some_iff.1 h
  unfold Go.isAgg
  rw [Sem.run_bind, run_underlying hd, Result.andThen_ok]
  cases d <;> rfl
theorem szO_run {t : TypeId} {n : Nat} (h : szO P t = some n) (w : World) : (sizeOf t).run P w = .ok n w := by
  unfold szO at h
  obtain ⟨i, hi, rfl⟩ := Option.map_eq_some_iff.1 h
  simp [sizeOf, typeInfo, hi]
theorem addr_add (b o n : Nat) : (⟨b, o, none⟩ : Addr).add n = ⟨b, o + n, none⟩ := by
  unfold Addr.add; split <;> simp_all
/-- A struct, an array or a cell is loaded. -/
theorem loadA {M : Mem} {x : AV} {b off : Nat} (c : Nat → Value) (hc : ∀ k (h : k < x.flat.length), M.w.cell? ⟨b, off + k, none⟩ = some (c k) ∧ RA M x.flat[k] (c k) ∧ (c k).oneCell' = true)
    {t : TypeId} {ag : Bool} {n j : Nat} {y : AV} (hag : agO P t = some ag) (hn : szO P t = some n) (h : partA ag n x j = some y) :
    ∃ v, (loadVar t ⟨b, off + j, none⟩).run P M.w = .ok v M.w ∧ RA M y v := by
  have many : ∀ (hj : j + n ≤ x.flat.length), ag = true → (loadVar t ⟨b, off + j, none⟩).run P M.w = .ok (.agg ((List.range n).map fun k => c (j + k)).toArray) M.w := by
    intro hj hat
    subst hat
    have hl : (loadCells ⟨b, off + j, none⟩ n).run P M.w = .ok ((List.range n).map fun k => c (j + k)).toArray M.w :=
      run_loadCells M.w ⟨b, off + j, none⟩ n (fun k => c (j + k)) (fun k hk => by
        rw [addr_add, Nat.add_assoc]
        exact (hc (j + k) (by omega)).1)
    unfold loadVar
    simp only [Sem.run_bind, agO_run hag, Result.andThen_ok, if_true, szO_run hn, hl, Sem.run_pure]
  have one : ∀ (hj : j < x.flat.length), ag = false → (loadVar t ⟨b, off + j, none⟩).run P M.w = .ok (c j) M.w := by
    intro hj haf
    subst haf
    unfold loadVar
    simp only [Sem.run_bind, agO_run hag, Result.andThen_ok, Bool.false_eq_true, if_false, run_load, (hc j hj).1]
  have aggL : ∀ (l : List AV) (hj : j + n ≤ x.flat.length), l = (x.flat.drop j).take n → RA M (.agg l) (.agg ((List.range n).map fun k => c (j + k)).toArray) := by
    intro l hj hl
    have hll : l.length = n := by rw [hl]; simp; omega
    refine .agg l _ (by simp [hll]) (fun v hv => ?_) (fun i hi hi' => ?_)
    · simp only [List.mem_toArray, List.mem_map, List.mem_range] at hv
      obtain ⟨k, hk, rfl⟩ := hv
      exact (hc (j + k) (by omega)).2.2
    · have := (hc (j + i) (by omega)).2.1
      simp only [List.getElem_toArray, List.getElem_map, List.getElem_range]
      have e : l[i] = x.flat[j + i]'(by omega) := by
        have : l[i]? = x.flat[j + i]? := by rw [hl, List.getElem?_take_of_lt (by omega), List.getElem?_drop]
        rw [List.getElem?_eq_getElem hi, List.getElem?_eq_getElem (by omega)] at this
        exact Option.some.inj this
      rw [e]
      exact this
  have cellv : ∀ (z : AV), x.flat[j]? = some z → ag = false → ∃ v, (loadVar t ⟨b, off + j, none⟩).run P M.w = .ok v M.w ∧ RA M z v := by
    intro z hz haf
    obtain ⟨hj, rfl⟩ := List.getElem?_eq_some_iff.1 hz
    exact ⟨c j, one hj haf, (hc j hj).2.1⟩
  have one1 : x.flat = [x] → (if ag = false ∧ j = 0 then some x else none) = some y → ∃ v, (loadVar t ⟨b, off + j, none⟩).run P M.w = .ok v M.w ∧ RA M y v := by
    intro hx hy
    split at hy
    · rename_i h0
      injection hy with hy
      subst hy
      exact cellv x (by rw [h0.2, hx]; rfl) h0.1
    · cases hy
  cases x with
  | p e =>
    simp only [partA, Option.map_eq_some_iff] at h
    obtain ⟨q, hq, rfl⟩ := h
    simp only [partP] at hq
    have hfl : (AV.p e).flat = e.flat.map .p := rfl
    cases ag with
    | true =>
      simp only [if_true] at hq
      split at hq
      · rename_i h0
        injection hq with hq
        subst hq
        obtain ⟨h1, h2, h3⟩ := h0
        subst h1
        cases e with
        | agg l =>
          refine ⟨_, many (by simp [hfl, PV.flat] at *; omega) rfl, ?_⟩
          have := aggL (l.map .p) (by simp [hfl, PV.flat] at *; omega) (by simp [hfl, PV.flat] at *; rw [List.take_of_length_le (by simp; omega)])
          cases this with
          | agg _ cs hl ho hr =>
            refine .p _ _ (.agg l _ (by simpa using hl) (fun e he => ?_) (fun i hi hi' => ?_))
            · obtain ⟨i, hi, rfl⟩ := List.mem_iff_getElem.1 he
              have h4 := hr i (by simpa using hi) (by simp at hl ⊢; omega)
              simp only [List.getElem_map] at h4
              exact h4.toP.one_of (ho _ (Array.getElem_mem _))
            · have h4 := hr i (by simpa using hi) hi'
              simp only [List.getElem_map] at h4
              exact h4.toP
        | v => cases h3
        | sl => cases h3
      · split at hq
        · rename_i hj
          injection hq with hq
          subst hq
          refine ⟨_, many (by simpa [hfl] using hj) rfl, ?_⟩
          have := aggL (((e.flat.drop j).take n).map .p) (by simpa [hfl] using hj) (by rw [hfl]; simp [List.map_drop, List.map_take])
          cases this with
          | agg _ cs hl ho hr =>
            refine .p _ _ (.agg _ _ (by simpa using hl) (fun e he => ?_) (fun i hi hi' => ?_))
            · obtain ⟨i, hi, rfl⟩ := List.mem_iff_getElem.1 he
              have h4 := hr i (by simpa using hi) (by simp at hl hi ⊢; omega)
              simp only [List.getElem_map] at h4
              exact h4.toP.one_of (ho _ (Array.getElem_mem _))
            · have h4 := hr i (by simpa using hi) hi'
              simp only [List.getElem_map] at h4
              exact h4.toP
        · cases hq
    | false =>
      simp only [Bool.false_eq_true, if_false] at hq
      exact cellv (.p q) (by rw [hfl, List.getElem?_map, hq]; rfl) rfl
  | agg l =>
    simp only [partA] at h
    cases ag with
    | true =>
      simp only [if_true] at h
      split at h
      · rename_i h0
        injection h with h
        subst h
        obtain ⟨h1, h2⟩ := h0
        subst h1 h2
        exact ⟨_, many (by simp [AV.flat]) rfl, aggL l (by simp [AV.flat]) (by simp [AV.flat])⟩
      · split at h
        · rename_i hj
          injection h with h
          subst h
          exact ⟨_, many hj rfl, (aggL _ hj rfl).mkAgg⟩
        · cases h
    | false =>
      simp only [Bool.false_eq_true, if_false] at h
      exact cellv y h rfl
  | os o off len => simp only [partA] at h; exact one1 rfl h
  | ptr o n i j => simp only [partA] at h; exact one1 rfl h
  | sp e j => simp only [partA] at h; exact one1 rfl h
  | tup l => simp only [partA] at h; exact one1 rfl h
  | fn f a c => simp only [partA] at h; exact one1 rfl h
  | dead => simp only [partA] at h; exact one1 rfl h
end
end Abs
end Go
