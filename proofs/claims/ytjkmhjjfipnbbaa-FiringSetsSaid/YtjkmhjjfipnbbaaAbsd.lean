/-
  AN ABSTRACT MACHINE, part 4: stores, appends, rows that are made.
-/
import Derived.Test.YtjkmhjjfipnbbaaAbsc
import Derived.Laws.CopyOwn
namespace Go
namespace Abs
open Go.RowKit

theorem idx_lt {i n sz j : Nat} (hi : i < n) (hj : j < sz) : i * sz + j < n * sz := by
  have : (i + 1) * sz ≤ n * sz := Nat.mul_le_mul_right _ hi
  rw [Nat.add_mul, Nat.one_mul] at this
  omega
theorem list_three {α : Type} (a b c : List α) (k : Nat) : (a ++ b ++ c)[k]? = if k < a.length then a[k]? else if k < a.length + b.length then b[k - a.length]? else c[k - a.length - b.length]? := by
  rw [List.append_assoc]
  split
  · rename_i h; rw [List.getElem?_append_left h]
  · rename_i h
    rw [List.getElem?_append_right (by omega)]
    split
    · rename_i h2; rw [List.getElem?_append_left (by omega)]
    · rename_i h2; rw [List.getElem?_append_right (by omega)]
theorem putP_flat {e x e' : PV} {j : Nat} (h : putP e j x = some e') : e'.flat = e.flat.take j ++ x.flat ++ e.flat.drop (j + x.flat.length) ∧ j + x.flat.length ≤ e.flat.length := by
  unfold putP at h
  split at h
  · rename_i h0
    injection h with h
    subst h
    obtain ⟨rfl, h1⟩ := h0
    refine ⟨?_, by omega⟩
    rw [List.drop_of_length_le (by omega)]
    simp
  · split at h
    · rename_i l _
      split at h
      · rename_i h0
        injection h with h
        subst h
        obtain ⟨h1, h2⟩ := h0
        have hx : x.flat = [x] := by cases x <;> first | rfl | cases h1
        rw [hx]
        refine ⟨?_, by simp only [PV.flat, List.length_singleton]; omega⟩
        simp only [PV.flat, List.length_singleton]
        rw [List.set_eq_take_append_cons_drop, if_pos h2]
        simp
      · cases h
    · cases h
theorem mkAgg_flat (l : List AV) : (mkAgg l).flat = l := by
  unfold mkAgg
  split
  · rename_i ps hps
    split
    · rw [allP_eq hps]; rfl
    · rfl
  · rfl
theorem putA_flat {H : List AO} {x y x' : AV} {j : Nat} (h : putA H x j y = some x') : x'.flat = x.flat.take j ++ y.flat ++ x.flat.drop (j + y.flat.length) ∧ j + y.flat.length ≤ x.flat.length ∧ boxable H y = true := by
  unfold putA at h
  split at h
  · rename_i h0
    injection h with h
    subst h
    obtain ⟨rfl, h1, h2⟩ := h0
    refine ⟨?_, by omega, h2⟩
    rw [List.drop_of_length_le (by omega)]
    simp
  · split at h
    · rename_i h0
      injection h with h
      subst h
      obtain ⟨h1, h2⟩ := h0
      have hx : y.flat = [y] := by
        cases y <;> first | rfl | (cases h1; done) | skip
        rename_i q _
        cases q <;> first | rfl | cases h1
      have hb : boxable H y = true := by cases y <;> first | exact h1 | rfl
      rw [hx]
      refine ⟨?_, by simp only [List.length_singleton]; omega, hb⟩
      rw [mkAgg_flat, List.set_eq_take_append_cons_drop, if_pos h2]
      simp
    · cases h

section
variable {P : Program} {M : Mem}
/-- Cells are written into a block. -/
theorem storeVar_run {tt : TypeId} {n : Nat} (hn : szO P tt = some n) {b off : Nat} {v : Value} {w : World} {cur : Array Value} {ty : TypeId} (hb : w.heap[b]? = some (.cells cur ty (0, 0)))
    (hv : v.cells.size = n) (hone : ∀ c ∈ v.cells.toList, c.oneCell' = true) (hoff : off + v.cells.toList.length ≤ cur.size) :
    (storeVar tt ⟨b, off, none⟩ v).run P w = .ok () (w.setRow b (cur.toList.take off ++ v.cells.toList ++ cur.toList.drop (off + v.cells.toList.length)).toArray) := by
  unfold storeVar
  have := run_storeCells_at (P := P) b off ty v.cells.toList 0 cur w hb (by omega) hone
  simp only [Sem.run_bind, szO_run hn, Result.andThen_ok, hv]
  simpa using this
theorem shape_of {w : World} {b : Nat} {cur : Array Value} {t : TypeId} (h : w.heap[b]? = some (.cells cur t (0, 0))) : w.shape? b = some (t, cur.size) := by simp [World.shape?, h]

theorem set_same {α : Type} {l : List α} {o : Nat} {x : α} (h : l[o]? = some x) : l.set o x = l := by
  apply List.ext_getElem?
  intro i
  by_cases e : i = o
  · subst e
    have := (List.getElem?_eq_some_iff.1 h).1
    simp [this]
    exact (List.getElem?_eq_some_iff.1 h).2.symm
  · rw [List.getElem?_set_ne (by omega)]

/-- Object o, whose block stays, holds other cells. -/
theorem turn_here (hM : MemOk M) {o b : Nat} {ob ob' : AO} (ho : M.H[o]? = some ob) (hfz : ob.fz = false) (hφ : M.φ o = some b) {cur new : Array Value} {t : TypeId} (hb : M.w.heap[b]? = some (.cells cur t (0, 0)))
    (hsz : new.size = cur.size) (htag : ob'.tag = ob.tag) (hlen : ob'.len = ob.len) (hz : ob'.sz = ob.sz)
    (hob : ∀ M' : Mem, Le M M' → M'.φ o = some b → M'.w.heap[b]? = some (.cells new t (0, 0)) → ObOk M' o ob') :
    MemOk ⟨M.w.setRow b new, M.H.set o ob', upd M.φ o (M.φ o), M.base, M.S⟩ ∧ Le M ⟨M.w.setRow b new, M.H.set o ob', upd M.φ o (M.φ o), M.base, M.S⟩ ∧ Below M.base M.w (M.w.setRow b new) := by
  have h1 : M.w.heap.size ≤ (M.w.setRow b new).heap.size := by simp
  have h2 : ∀ b', b' < M.w.heap.size → M.φ o ≠ some b' → (M.w.setRow b new).heap[b']? = M.w.heap[b']? := fun b' _ hne => setRow_other M.w b b' new (fun e => hne (by rw [hφ, e]))
  have h3 : ob'.len = ob.len → ob'.sz = ob.sz ∧ M.φ o = M.φ o ∧ ∀ b', M.φ o = some b' → (M.w.setRow b new).shape? b' = M.w.shape? b' := fun _ => ⟨hz, rfl, fun b' hb' => by
    rw [hφ] at hb'
    injection hb' with hb'
    subst hb'
    rw [shape_of (setRow_heap M.w b cur new t (0, 0) hb), shape_of hb, hsz]⟩
  have hle := Le.turn hM ho hfz h1 h2 (.inl rfl) htag (by omega) h3
  refine ⟨MemOk.turn hM ho hfz h1 h2 (.inl rfl) htag (by omega) h3 ?_, hle, below_setRow (Below.refl _ _) (hM.lo o b (List.getElem?_eq_some_iff.1 ho).1 hφ) new⟩
  exact hob _ hle (by simp [upd, hφ]) (setRow_heap M.w b cur new t (0, 0) hb)

theorem step_store {o : Oper} {tt : TypeId} {x y : Operand} {n : Nat} (hop : o.op = .store tt x y) (hn : szO P tt = some n) {s : St} {a : Act} (hM : MemOk M) (hH : M.H = s.H) (hE : Env M s.t a) {r : AV} {H' : List AO}
    (h : astep (.store n x y) s = some (r, H')) : StepOk P M false (execOp a.eval o) r H' := by
  simp only [astep] at h
  split at h
  · rename_i ob m i j z hx hy
    rw [← hH] at h
    split at h
    · rename_i hzn
      have rx := (aev_ok hE hx).toPtr
      have ry := aev_ok hE hy
      obtain ⟨obj, h1, h2, h3⟩ := rx
      have run : ∀ {b off : Nat} {cur new : Array Value} {ty : TypeId}, a.eval x = .pointer (some ⟨b, off, none⟩) → M.w.heap[b]? = some (.cells cur ty (0, 0)) → CellsOk M z.flat (a.eval y).cells → off + (a.eval y).cells.toList.length ≤ cur.size →
          new = (cur.toList.take off ++ (a.eval y).cells.toList ++ cur.toList.drop (off + (a.eval y).cells.toList.length)).toArray → (execOp a.eval o).run P M.w = .ok .skip (M.w.setRow b new) := by
        intro b off cur new ty hp hb hc hoff hnew
        have := storeVar_run (P := P) hn hb (v := a.eval y) (off := off) (by rw [hc.1]; exact hzn) (fun c hcm => by
          obtain ⟨k, hk, rfl⟩ := List.mem_iff_getElem.1 hcm
          obtain ⟨c', e1, _, e3⟩ := hc.2 k (by have := hc.1; simp at hk; omega)
          simp at hk
          rw [Array.getElem?_eq_getElem hk] at e1
          injection e1 with e1
          simpa [e1] using e3) hoff
        unfold execOp
        rw [hop]
        simp only [Instr.storeAt, hp, Instr.sureAddr, Sem.run_bind, Sem.run_pure, Result.andThen_ok, this, hnew]
      split at h
      · rename_i els sz t hob
        rw [hob] at h1
        injection h1 with h1
        subst h1
        simp only [AO.len, AO.sz] at h2 h3
        split at h
        · rename_i hm
          obtain ⟨b, hφ, hv⟩ := h3 hm
          split at h
          · rename_i e q hei
            obtain ⟨e', he', hh⟩ := Option.map_eq_some_iff.1 h
            simp only [Prod.mk.injEq] at hh
            obtain ⟨rfl, rfl⟩ := hh
            obtain ⟨hi, hee⟩ := List.getElem?_eq_some_iff.1 hei
            have hok := hM.ok ob _ hob
            obtain ⟨hfl, hrest⟩ := hok
            rcases hrest with ⟨hnone, _⟩ | ⟨b', cur, cap, hb1, hb2, hcs, hcap, hcells⟩
            · rw [hφ] at hnone; cases hnone
            · rw [hφ] at hb1
              injection hb1 with hb1
              subst hb1
              have hc := boxable_cells ry rfl
              obtain ⟨hf1, hf2⟩ := putP_flat he'
              have hesz : e.flat.length = sz := by rw [← hee]; exact (hfl _ (List.getElem_mem hi)).1
              have hqs : (a.eval y).cells.size = q.flat.length := by have := hc.1; simpa [AV.flat] using this
              have hql : (a.eval y).cells.toList.length = q.flat.length := by simp [hqs]
              have hend : i * sz + sz ≤ cur.size := by
                have : (i + 1) * sz ≤ cap * sz := Nat.mul_le_mul_right _ (by omega)
                rw [Nat.add_mul, Nat.one_mul] at this
                omega
              have hrun := run hv hb2 hc (by omega) rfl
              refine ⟨undef, _, upd M.φ ob (M.φ ob), .inr ⟨hrun, rfl⟩, ?_⟩
              have hT := turn_here hM hob rfl hφ hb2 (new := (cur.toList.take (i * sz + j) ++ (a.eval y).cells.toList ++ cur.toList.drop (i * sz + j + (a.eval y).cells.toList.length)).toArray)
                (ob' := .row (els.set i e') sz t false) (by simp; omega) rfl (by simp [AO.len]) rfl (fun M' hle hφ' hb' => ?_)
              · exact ⟨hT.1, hT.2.1, .tup [] #[] rfl (fun k hk => by simp at hk), hT.2.2, fun h => by cases h⟩
              · have hqone : ∀ c ∈ q.flat, c.one = true := fun c hcm => by
                  obtain ⟨k, hk, rfl⟩ := List.mem_iff_getElem.1 hcm
                  obtain ⟨c', _, e2, e3⟩ := hc.2 k (by simpa [AV.flat] using hk)
                  simp only [AV.flat, List.getElem_map] at e2
                  exact e2.toP.one_of e3
                have hel : ∀ c ∈ e.flat, c.one = true := by rw [← hee]; exact (hfl _ (List.getElem_mem hi)).2
                refine ⟨fun e2 he2 => ?_, .inr ⟨b, _, cap, hφ', hb', by simp; omega, by simpa using hcap, fun i' hi' j' hj' => ?_⟩⟩
                · rcases List.mem_or_eq_of_mem_set he2 with h4 | h4
                  · exact hfl e2 h4
                  · subst h4
                    refine ⟨by rw [hf1]; simp; omega, fun c hcm => ?_⟩
                    rw [hf1] at hcm
                    simp only [List.mem_append] at hcm
                    rcases hcm with (h5 | h5) | h5
                    · exact hel c (List.mem_of_mem_take h5)
                    · exact hqone c h5
                    · exact hel c (List.mem_of_mem_drop h5)
                · rw [List.length_set] at hi'
                  have hnew : ∀ k, (cur.toList.take (i * sz + j) ++ (a.eval y).cells.toList ++ cur.toList.drop (i * sz + j + (a.eval y).cells.toList.length)).toArray[k]? =
                      if k < i * sz + j then cur[k]? else if k < i * sz + j + q.flat.length then (a.eval y).cells[k - (i * sz + j)]? else cur[k]? := by
                    intro k
                    rw [List.getElem?_toArray, list_three, List.length_take, Array.length_toList, Nat.min_eq_left (by omega), hql]
                    split
                    · rename_i h6; rw [List.getElem?_take_of_lt h6, Array.getElem?_toList]
                    · split
                      · rw [Array.getElem?_toList]
                      · rename_i h6 h7; rw [List.getElem?_drop, Array.getElem?_toList]; congr 1; omega
                  by_cases hii : i' = i
                  · subst hii
                    have hje : (els.set i' e')[i'] = e' := by simp
                    simp only [hje] at hj' ⊢
                    have hj2 : j' < sz := by rw [hf1] at hj'; simp at hj'; omega
                    have hget : e'.flat[j']? = some (e'.flat[j']) := List.getElem?_eq_getElem hj'
                    obtain ⟨u, hu⟩ : ∃ u, u = e'.flat[j'] := ⟨_, rfl⟩
                    rw [← hu] at hget ⊢
                    rw [hnew]
                    by_cases c1 : j' < j
                    · rw [if_pos (by omega)]
                      obtain ⟨c, k1, k2⟩ := hcells i' hi j' (by rw [hee]; omega)
                      refine ⟨c, k1, ?_⟩
                      have : u = els[i'].flat[j']'(by rw [hee]; omega) := by
                        rw [hf1, list_three, List.length_take, Nat.min_eq_left (by omega), if_pos c1, List.getElem?_take_of_lt c1] at hget
                        rw [List.getElem?_eq_getElem (by omega)] at hget
                        simp only [hee]
                        exact (Option.some.inj hget).symm
                      rw [this]
                      exact k2.mono hle.sh
                    · rw [if_neg (by omega)]
                      by_cases c2 : j' < j + q.flat.length
                      · rw [if_pos (by omega)]
                        obtain ⟨c, k1, k2, _⟩ := hc.2 (j' - j) (by simp [AV.flat]; omega)
                        refine ⟨c, by rw [← k1]; congr 1; omega, ?_⟩
                        simp only [AV.flat, List.getElem_map] at k2
                        have : u = q.flat[j' - j]'(by omega) := by
                          rw [hf1, list_three, List.length_take, Nat.min_eq_left (by omega), if_neg c1, if_pos c2, List.getElem?_eq_getElem (by omega)] at hget
                          exact (Option.some.inj hget).symm
                        rw [this]
                        exact k2.toP.mono hle.sh
                      · rw [if_neg (by omega)]
                        obtain ⟨c, k1, k2⟩ := hcells i' hi j' (by rw [hee]; omega)
                        refine ⟨c, k1, ?_⟩
                        have : u = els[i'].flat[j']'(by rw [hee]; omega) := by
                          rw [hf1, list_three, List.length_take, Nat.min_eq_left (by omega), if_neg c1, if_neg c2, List.getElem?_drop] at hget
                          rw [show j + q.flat.length + (j' - j - q.flat.length) = j' by omega, List.getElem?_eq_getElem (by omega)] at hget
                          simp only [hee]
                          exact (Option.some.inj hget).symm
                        rw [this]
                        exact k2.mono hle.sh
                  · have hje : (els.set i e')[i']'(by simpa using hi') = els[i'] := by simp [List.getElem_set_ne (by omega : i ≠ i')]
                    simp only [hje] at hj' ⊢
                    have hj2 : j' < sz := by have := (hfl _ (List.getElem_mem hi')).1; omega
                    obtain ⟨c, k1, k2⟩ := hcells i' hi' j' hj'
                    refine ⟨c, ?_, k2.mono hle.sh⟩
                    rw [hnew]
                    rcases Nat.lt_or_gt_of_ne hii with h6 | h6
                    · have := idx_lt h6 hj2
                      rw [if_pos (by omega)]
                      exact k1
                    · have : (i + 1) * sz ≤ i' * sz := Nat.mul_le_mul_right _ h6
                      rw [Nat.add_mul, Nat.one_mul] at this
                      rw [if_neg (by omega), if_neg (by omega)]
                      exact k1
          · cases h
        · cases h
      · rename_i y0 hob
        rw [hob] at h1
        injection h1 with h1
        subst h1
        simp only [AO.len, AO.sz] at h2 h3
        split at h
        · rename_i hm
          obtain ⟨hm, rfl⟩ := hm
          obtain ⟨b, hφ, hv⟩ := h3 hm
          obtain ⟨y', hy', hh⟩ := Option.map_eq_some_iff.1 h
          simp only [Prod.mk.injEq] at hh
          obtain ⟨rfl, rfl⟩ := hh
          obtain ⟨b', cur, t, hb1, hb2, hcs⟩ := hM.ok ob _ hob
          rw [hφ] at hb1
          injection hb1 with hb1
          subst hb1
          obtain ⟨hf1, hf2, hbx⟩ := putA_flat hy'
          have hc := boxable_cells ry hbx
          have hqs := hc.1
          have hql : (a.eval y).cells.toList.length = z.flat.length := by simp [hqs]
          rw [Nat.zero_mul, Nat.zero_add] at hv
          have hcsz := hcs.1
          have hrun := run hv hb2 hc (by omega) rfl
          refine ⟨undef, _, upd M.φ ob (M.φ ob), .inr ⟨hrun, rfl⟩, ?_⟩
          have hT := turn_here hM hob rfl hφ hb2 (new := (cur.toList.take j ++ (a.eval y).cells.toList ++ cur.toList.drop (j + (a.eval y).cells.toList.length)).toArray)
            (ob' := .box y') (by simp; omega) rfl rfl rfl (fun M' hle hφ' hb' => ?_)
          · exact ⟨hT.1, hT.2.1, .tup [] #[] rfl (fun k hk => by simp at hk), hT.2.2, fun h => by cases h⟩
          · refine ⟨b, _, t, hφ', hb', by rw [hf1]; simp; omega, fun k hk => ?_⟩
            have hnew : (cur.toList.take j ++ (a.eval y).cells.toList ++ cur.toList.drop (j + (a.eval y).cells.toList.length)).toArray[k]? =
                if k < j then cur[k]? else if k < j + z.flat.length then (a.eval y).cells[k - j]? else cur[k]? := by
              rw [List.getElem?_toArray, list_three, List.length_take, Array.length_toList, Nat.min_eq_left (by omega), hql]
              split
              · rename_i h6; rw [List.getElem?_take_of_lt h6, Array.getElem?_toList]
              · split
                · rw [Array.getElem?_toList]
                · rename_i h6 h7; rw [List.getElem?_drop, Array.getElem?_toList]; congr 1; omega
            rw [hnew]
            have hk2 : k < y0.flat.length := by rw [hf1] at hk; simp at hk; omega
            have hget : y'.flat[k]? = some (y'.flat[k]) := List.getElem?_eq_getElem hk
            obtain ⟨u, hu⟩ : ∃ u, u = y'.flat[k] := ⟨_, rfl⟩
            rw [← hu] at hget ⊢
            rw [hf1, list_three, List.length_take, Nat.min_eq_left (by omega)] at hget
            by_cases c1 : k < j
            · rw [if_pos c1]
              rw [if_pos c1, List.getElem?_take_of_lt c1, List.getElem?_eq_getElem hk2] at hget
              obtain ⟨c, k1, k2, k3⟩ := hcs.2 k hk2
              exact ⟨c, k1, by rw [← Option.some.inj hget]; exact k2.mono hle, k3⟩
            · rw [if_neg c1]
              rw [if_neg c1] at hget
              by_cases c2 : k < j + z.flat.length
              · rw [if_pos c2]
                rw [if_pos c2, List.getElem?_eq_getElem (by omega)] at hget
                obtain ⟨c, k1, k2, k3⟩ := hc.2 (k - j) (by omega)
                exact ⟨c, k1, by rw [← Option.some.inj hget]; exact k2.mono hle, k3⟩
              · rw [if_neg c2]
                rw [if_neg c2, List.getElem?_drop, show j + z.flat.length + (k - j - z.flat.length) = k by omega, List.getElem?_eq_getElem hk2] at hget
                obtain ⟨c, k1, k2, k3⟩ := hcs.2 k hk2
                exact ⟨c, k1, by rw [← Option.some.inj hget]; exact k2.mono hle, k3⟩
        · cases h
      · cases h
    · cases h
  · cases h
end
end Abs
end Go
