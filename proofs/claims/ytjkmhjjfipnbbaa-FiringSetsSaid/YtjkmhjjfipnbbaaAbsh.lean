/-
  AN ABSTRACT MACHINE, part 8: literals of slices and structs.
-/
import Derived.Test.YtjkmhjjfipnbbaaAbsg
namespace Go
namespace Abs
open Go.RowKit

theorem setAll_get (off : Nat) : ∀ (l : List Value) (k : Nat) (cells : Array Value), off + k + l.length ≤ cells.size →
    ((l.zipIdx k).foldl (fun cs (x : Value × Nat) => cs.setIfInBounds (off + x.2) x.1) cells).size = cells.size ∧
    ∀ i, ((l.zipIdx k).foldl (fun cs (x : Value × Nat) => cs.setIfInBounds (off + x.2) x.1) cells)[i]? = if off + k ≤ i ∧ i < off + k + l.length then l[i - off - k]? else cells[i]?
  | [], k, cells, _ => ⟨rfl, fun i => by rw [if_neg (by simp)]; rfl⟩
  | v :: l, k, cells, h => by
    simp only [List.zipIdx_cons, List.foldl_cons]
    simp only [List.length_cons] at h
    have ih := setAll_get off l (k + 1) (cells.setIfInBounds (off + k) v) (by simp; omega)
    refine ⟨by rw [ih.1]; simp, fun i => ?_⟩
    rw [ih.2 i]
    simp only [List.length_cons]
    by_cases h1 : i = off + k
    · rw [if_neg (by omega), if_pos (by omega), h1]
      rw [Array.getElem?_setIfInBounds_self_of_lt (by omega)]
      simp
    · by_cases h2 : off + (k + 1) ≤ i ∧ i < off + (k + 1) + l.length
      · rw [if_pos h2, if_pos (by omega)]
        obtain ⟨m, hm⟩ : ∃ m, i - off - k = m + 1 := ⟨i - off - k - 1, by omega⟩
        rw [hm, List.getElem?_cons_succ]
        congr 1
        omega
      · rw [if_neg h2, if_neg (by omega), Array.getElem?_setIfInBounds_ne (by omega)]
theorem fill_cons (place : Nat → Option (Nat × Nat)) (cells : Array Value) (i : Nat) (v : Value) (rest : List (Nat × Value)) {off sz : Nat} (hp : place i = some (off, sz)) (h1 : v.cells.size = sz) (h2 : off + sz ≤ cells.size) :
    ∃ c', Instr.fill place cells ((i, v) :: rest) = Instr.fill place c' rest ∧ c'.size = cells.size ∧ ∀ k, c'[k]? = if off ≤ k ∧ k < off + sz then v.cells[k - off]? else cells[k]? := by
  have hs := setAll_get off v.cells.toList 0 cells (by simp; omega)
  refine ⟨_, ?_, hs.1, fun k => ?_⟩
  · rw [Instr.fill, hp]
    have hb : (decide (v.cells.size ≠ sz) || decide (off + v.cells.size > cells.size)) = false := by simp; omega
    simp only [hb, Bool.false_eq_true, if_false]
    rw [← Array.foldl_toList, Array.toList_zipIdx]
  · rw [hs.2 k]
    simp only [Array.length_toList, h1, Nat.add_zero, Nat.sub_zero, Array.getElem?_toList]

section
variable {P : Program} {M : Mem}
theorem lay_ok {t : List (Nat × AV)} {a : Act} (hE : Env M t a) {places : List (Nat × Nat)} {place : Nat → Option (Nat × Nat)} (hp : ∀ i, place i = places[i]?) : ∀ {parts : List (Nat × Operand)} {cs cs' : List AV} {cur : Array Value}, CellsOk M cs cur →
    lay t M.H places cs parts = some cs' → ∃ cur', Instr.fill place cur (parts.map fun p => (p.1, a.eval p.2)) = some cur' ∧ CellsOk M cs' cur'
  | [], cs, cs', cur, hc, h => by
    simp only [lay, Option.some.injEq] at h
    subst h
    exact ⟨cur, rfl, hc⟩
  | (i, x) :: rest, cs, cs', cur, hc, h => by
    unfold lay at h
    split at h
    · rename_i off n y hpl hy
      split at h
      · rename_i hcond
        obtain ⟨h1, h2, h3⟩ := hcond
        have hcy := boxable_cells (aev_ok hE hy) h3
        obtain ⟨c', e1, e2, e3⟩ := fill_cons place cur i (a.eval x) (rest.map fun p => (p.1, a.eval p.2)) ((hp i).trans hpl) (by rw [hcy.1, h1]) (by rw [hc.1]; exact h2)
        rw [List.map_cons, e1]
        refine lay_ok hE hp ⟨?_, fun k hk => ?_⟩ h
        · rw [e2, hc.1]; simp; omega
        · have hget : (cs.take off ++ y.flat ++ cs.drop (off + n))[k]? = some ((cs.take off ++ y.flat ++ cs.drop (off + n))[k]) := List.getElem?_eq_getElem hk
          obtain ⟨u, hu⟩ : ∃ u, u = (cs.take off ++ y.flat ++ cs.drop (off + n))[k] := ⟨_, rfl⟩
          rw [← hu] at hget ⊢
          rw [list_three, List.length_take, Nat.min_eq_left (by omega)] at hget
          have hk2 : k < cs.length := by simp at hk; omega
          rw [e3 k]
          by_cases c1 : k < off
          · rw [if_neg (by omega)]
            rw [if_pos c1, List.getElem?_take_of_lt c1, List.getElem?_eq_getElem hk2] at hget
            rw [← Option.some.inj hget]
            exact hc.2 k hk2
          · rw [if_neg c1] at hget
            by_cases c2 : k < off + n
            · rw [if_pos (by omega)]
              rw [if_pos (by omega), List.getElem?_eq_getElem (by omega)] at hget
              rw [← Option.some.inj hget]
              exact hcy.2 (k - off) (by omega)
            · rw [if_neg (by omega)]
              rw [if_neg (by omega), List.getElem?_drop, show off + n + (k - off - y.flat.length) = k by omega, List.getElem?_eq_getElem hk2] at hget
              rw [← Option.some.inj hget]
              exact hc.2 k hk2
      · cases h
    · cases h

/-- Parts that stand in order fill a row. -/
theorem fill_seq (sz : Nat) : ∀ (vs : List Value) (k : Nat) (cells : Array Value), (∀ v ∈ vs, v.cells.size = sz) → (k + vs.length) * sz ≤ cells.size →
    ∃ c', Instr.fill (fun i => some (i * sz, sz)) cells ((vs.zipIdx k).map fun p => (p.2, p.1)) = some c' ∧ c'.size = cells.size ∧ (∀ m, m < k * sz → c'[m]? = cells[m]?) ∧ ∀ i (h : i < vs.length) j, j < sz → c'[(k + i) * sz + j]? = (vs[i]).cells[j]?
  | [], k, cells, _, _ => ⟨cells, rfl, rfl, fun _ _ => rfl, fun i h => by simp at h⟩
  | v :: vs, k, cells, hv, hsz => by
    simp only [List.length_cons] at hsz
    have hsz2 : (k + 1) * sz ≤ (k + (vs.length + 1)) * sz := Nat.mul_le_mul_right _ (by omega)
    rw [Nat.add_mul, Nat.one_mul] at hsz2
    obtain ⟨c1, e1, e2, e3⟩ := fill_cons (fun i => some (i * sz, sz)) cells k v ((vs.zipIdx (k + 1)).map fun p => (p.2, p.1)) rfl (hv v (by simp)) (by omega)
    obtain ⟨c2, f1, f2, f3, f4⟩ := fill_seq sz vs (k + 1) c1 (fun u hu => hv u (by simp [hu])) (by rw [e2, show k + 1 + vs.length = k + (vs.length + 1) by omega]; exact hsz)
    refine ⟨c2, ?_, by omega, fun m hm => ?_, fun i hi j hj => ?_⟩
    · rw [List.zipIdx_cons, List.map_cons, e1, f1]
    · rw [f3 m (by rw [Nat.add_mul]; omega), e3 m, if_neg (by omega)]
    · cases i with
      | zero =>
        rw [Nat.add_zero, f3 _ (by rw [Nat.add_mul, Nat.one_mul]; omega), e3, if_pos (by omega), Nat.add_sub_cancel_left]
        rfl
      | succ i =>
        have := f4 i (by simpa using hi) j hj
        rw [show k + (i + 1) = k + 1 + i by omega]
        exact this
theorem inOrder_map (ev : Operand → Value) : ∀ {l : List (Nat × Operand)} {k : Nat}, inOrder k l = true → l.map (fun p => (p.1, ev p.2)) = (((l.map (·.2)).map ev).zipIdx k).map fun p => (p.2, p.1)
  | [], _, _ => rfl
  | (i, x) :: l, k, h => by
    simp only [inOrder, Bool.and_eq_true, beq_iff_eq] at h
    simp only [List.map_cons, List.zipIdx_cons, h.1]
    rw [inOrder_map ev h.2]
theorem frzC_length (H : List AO) (x : AV) : (frzC H x).length = H.length := by
  unfold frzC
  split
  · split
    · simp
    · rfl
  · rfl
theorem foldC_length : ∀ (l : List AV) (H : List AO), (l.foldl frzC H).length = H.length
  | [], _ => rfl
  | x :: l, H => by rw [List.foldl_cons, foldC_length l, frzC_length]
theorem frzL_length : ∀ (l : List AV) (H : List AO), (frzL H l).length = H.length
  | [], _ => rfl
  | x :: l, H => by
    rw [frzL_cons, frzL_length l]
    rcases frzV_cases x with ⟨m, rfl⟩ | hx
    · exact foldC_length m H
    · rw [hx, frzC_length]
theorem step_bsl {o : Oper} {t e : TypeId} {n : Nat} {parts : Array (Nat × Operand)} {sz : Nat} {z : PV} {i0 : TypeInfo} (hop : o.op = .buildSlice t n parts) (ht : P.underlying t = some (.slice e)) (hi : P.info? e = some i0) (hz : zeroO P e = some z) (hs : i0.size = sz)
    (hzs : sz = z.flat.length) (hsz : 0 < sz) (hbig : n * sz ≤ 65536) (hn : parts.size = n) (hord : inOrder 0 parts.toList = true) {s : St} {a : Act} (hM : MemOk M) (hH : M.H = s.H) (hE : Env M s.t a) {r : AV} {H' : List AO}
    (h : astep (.bsl e sz (parts.toList.map (·.2))) s = some (r, H')) : StepOk P M true (execOp a.eval o) r H' := by
  simp only [astep] at h
  split at h
  · rename_i ys hys
    rw [← hH] at h
    split at h
    · rename_i xs hxs
      split at h
      · rename_i hall
        simp only [Option.some.injEq, Prod.mk.injEq] at h
        obtain ⟨rfl, rfl⟩ := h
        have hones := ones_of hall
        have hRA := aevs_ok hE hys
        obtain ⟨hf1, hf2⟩ := frzL_ok (M := M) ys (H := M.H) hM
        have hRP := views_ok (M := M) (M' := ⟨M.w, frzL M.H ys, M.φ, M.base, M.S⟩) hf2 hf1 hRA hxs (fun x hx => frzL_self ys M.H x hx)
        obtain ⟨vs, hvs⟩ : ∃ vs, vs = (parts.toList.map (·.2)).map a.eval := ⟨_, rfl⟩
        rw [← hvs] at hRP hRA
        have hlen : vs.length = xs.length := hRP.1
        have hlenn : xs.length = n := by rw [← hlen, hvs]; simp [hn]
        obtain ⟨i, v0, hi2, hv2, hov⟩ := zeroO_ok hz
        rw [hi] at hi2
        injection hi2 with hi2
        subst hi2
        have hrp0 := ofVal_ok (S := M.shared) (w := M.w) hov
        have hz0 := (pcells hrp0).1
        rw [List.length_map] at hz0
        have hvc : ∀ v ∈ vs, v.cells.size = sz := fun v hv => by
          obtain ⟨i, hi', rfl⟩ := List.mem_iff_getElem.1 hv
          have h1 := (pcells (M := ⟨M.w, frzL M.H ys, M.φ, M.base, M.S⟩) (hRP.2 i (by omega) hi')).1
          rw [List.length_map, (hones _ (List.getElem_mem _)).1] at h1
          exact h1
        have hcase : ∃ cells, (Instr.buildSlice t n (parts.map fun (i, x) => (i, a.eval x))).run P M.w = .ok (.slice (some ⟨M.w.heap.size, 0, none⟩) n n) (M.w.alloc (.cells cells e)) ∧ cells.size = n * sz ∧
            ∀ i (h : i < vs.length) j, j < sz → cells[i * sz + j]? = (vs[i]).cells[j]? := by
          have hparts : (parts.map fun (i, x) => (i, a.eval x)).toList = (vs.zipIdx 0).map fun p => (p.2, p.1) := by
            rw [Array.toList_map, hvs, ← inOrder_map a.eval hord]
          obtain ⟨c', e1, e2, _, e4⟩ := fill_seq sz vs 0 ((Array.range (n * sz)).map (v0.cells[· % v0.cells.size]!)) hvc (by simp; rw [hlen, hlenn]; exact Nat.le_refl _)
          rcases Nat.eq_zero_or_pos n with h0 | h0
          · subst h0
            refine ⟨#[], ?_, by simp, fun i hi' => by omega⟩
            have hp : parts = #[] := Array.eq_empty_of_size_eq_zero hn
            subst hp
            simp [Instr.buildSlice, run_underlying ht, sizeOf, typeInfo, hi, newRow, Instr.fill]
            rw [show Array.range 0 = #[] from Array.eq_empty_of_size_eq_zero Array.size_range, Array.map_empty]
          · have hpos : ¬ n * sz = 0 := by have := Nat.mul_pos h0 hsz; omega
            refine ⟨c', run_buildSlice (P := P) M.w t e n _ c' i0 v0 ht hi hv2 (by rw [hs]; omega) (by rw [hs]; exact hpos) (by rw [hparts, hs]; exact e1), by rw [e2]; simp, fun i hi' j hj => by simpa using e4 i hi' j hj⟩
        obtain ⟨cells, hrun, hcsz, hcget⟩ := hcase
        obtain ⟨h1, h2, h3, h4⟩ := grow_new (M := ⟨M.w, frzL M.H ys, M.φ, M.base, M.S⟩) hf1 (cur := cells) (t := e) (ob := .row xs sz e false) (fun M' hle hφ hh => ⟨hones, .inr ⟨_, cells, n, hφ, hh, hcsz, by omega, fun i hi' j hj => by
          have hc := pcells (hRP.2 i hi' (by omega))
          obtain ⟨c, k1, k2, _⟩ := hc.2 j (by simpa using hj)
          simp only [List.getElem_map] at k2
          exact ⟨c, by rw [hcget i (by omega) j (row_at hones hi' hj)]; exact k1, k2.toP.mono hle.sh⟩⟩⟩)
        refine ⟨.slice (some ⟨M.w.heap.size, 0, none⟩) n n, _, _, .inl ?_, h1, hf2.trans h2, .os _ _ _ _ ⟨.row xs sz e false, by rw [← frzL_length ys M.H]; simp, by simp [AO.len], fun _ t' ht' => .inr ⟨M.w.heap.size, n, by rw [← frzL_length ys M.H]; exact upd_at _ _ _, by simp [hlenn], by omega, ?_, ?_⟩⟩, h3, fun _ => h4⟩
        · unfold execOp
          simp only [hop, Sem.run_bind, hrun, Result.andThen_ok, Sem.run_pure]
        · rcases Nat.eq_zero_or_pos sz with h0 | h0
          · omega
          · have := Nat.le_mul_of_pos_right n h0; omega
        · injection ht' with ht'
          subst ht'
          rw [shape_of (Go.heap_alloc_new M.w _), hcsz]
          simp [AO.sz]
      · cases h
    · cases h
  · cases h

theorem mapM_places : ∀ {fs : List Field} {places : List (Nat × Nat)}, (fs.mapM fun f => (szO P f.type).map fun n => (f.offset, n)) = some places → fs.mapM (fun f => (P.info? f.type).map fun i => (f.offset, i.size)) = some places := by
  intro fs
  have : (fun f : Field => (szO P f.type).map fun n => (f.offset, n)) = fun f => (P.info? f.type).map fun i => (f.offset, i.size) := by
    funext f
    simp [szO, Option.map_map, Function.comp_def]
  rw [this]
  exact fun _ h => h
theorem step_bld {o : Oper} {t : TypeId} {parts : Array (Nat × Operand)} {z : List PV} {places : List (Nat × Nat)} (hop : o.op = .build t parts) (hz : zeroO P t = some (.agg z)) {place : Nat → Option (Nat × Nat)} (hpl : ∀ i ∈ parts.toList.map (·.1), place i = places[i]?)
    (hbuilt : ∀ (v : Value) (i0 : TypeInfo), P.info? t = some i0 → i0.zero = some v → ∀ ps cells, Instr.fill place v.cells ps = some cells → P.built t ps = some cells) {s : St} {a : Act} (hM : MemOk M) (hH : M.H = s.H) (hE : Env M s.t a) {r : AV} {H' : List AO}
    (h : astep (.bld z places parts.toList) s = some (r, H')) : StepOk P M true (execOp a.eval o) r H' := by
  simp only [astep, Option.map_eq_some_iff, Prod.mk.injEq] at h
  obtain ⟨cs, hcs, rfl, rfl⟩ := h
  rw [← hH] at hcs ⊢
  obtain ⟨i0, v, hi, hv, hov⟩ := zeroO_ok hz
  have hc0 := pcells (M := M) (ofVal_ok (S := M.shared) (w := M.w) hov)
  obtain ⟨cur', e1, e2⟩ := lay_ok hE (place := fun i => places[i]?) (fun _ => rfl) hc0 hcs
  have same : ∀ (l : List (Nat × Value)) (c : Array Value), (∀ i ∈ l.map (·.1), place i = places[i]?) → Instr.fill place c l = Instr.fill (fun i => places[i]?) c l := by
    intro l
    induction l with
    | nil => intro c _; rfl
    | cons p l ih =>
      intro c hp
      obtain ⟨i, u⟩ := p
      have hpi := hp i (by simp)
      rw [Instr.fill, Instr.fill, hpi]
      cases places[i]? with
      | none => rfl
      | some q =>
        dsimp only
        split
        · rfl
        · exact ih _ (fun j hj => hp j (by simp at hj ⊢; exact .inr hj))
  have hrun := run_build (P := P) M.w t (parts.map fun (i, x) => (i, a.eval x)) cur' (hbuilt v i0 hi hv _ _ (by
    rw [same _ _ (by
      intro i hi'
      rw [Array.toList_map, List.map_map] at hi'
      exact hpl i hi'), Array.toList_map]
    exact e1))
  refine StepOk.same (v := .agg cur') hM ?_ (RA.mkAgg (.agg cs cur' e2.1 (fun c hc => ?_) (fun i hi' hi2 => ?_)))
  · unfold execOp
    simp only [hop, Sem.run_bind, hrun, Result.andThen_ok, Sem.run_pure]
  · obtain ⟨i, hi', rfl⟩ := Array.mem_iff_getElem.1 hc
    obtain ⟨c, k1, _, k3⟩ := e2.2 i (by have := e2.1; omega)
    rw [Array.getElem?_eq_getElem hi'] at k1
    rw [Option.some.inj k1]
    exact k3
  · obtain ⟨c, k1, k2, _⟩ := e2.2 i hi'
    rw [Array.getElem?_eq_getElem hi2] at k1
    rw [Option.some.inj k1]
    exact k2
end
end Abs
end Go
