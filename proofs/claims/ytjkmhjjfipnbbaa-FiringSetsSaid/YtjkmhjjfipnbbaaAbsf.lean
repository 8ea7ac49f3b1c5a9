/-
  AN ABSTRACT MACHINE, part 6: append, make, freezing and reading as a value.
-/
import Derived.Test.YtjkmhjjfipnbbaaAbse
namespace Go
namespace Abs
open Go.RowKit

section
variable {P : Program} {M : Mem}
theorem ones_of {xs : List PV} {sz : Nat} (h : xs.all (fun q => decide (q.flat.length = sz) && q.flat.all (·.one)) = true) : ∀ e ∈ xs, e.flat.length = sz ∧ ∀ c ∈ e.flat, c.one = true := fun e he => by
  have := List.all_eq_true.1 h e he
  simp only [Bool.and_eq_true, decide_eq_true_eq] at this
  exact ⟨this.1, fun c hc => List.all_eq_true.1 this.2 c hc⟩
theorem upd_at (φ : Nat → Option Nat) (o : Nat) (b : Option Nat) : upd φ o b o = b := by simp [upd]

theorem step_app {o : Oper} {t e : TypeId} {x y : Operand} {sz : Nat} {z : Value} {i0 : TypeInfo} (hop : o.op = .call { callee := .builtin .append, args := #[x, y], argTypes := #[t, t] }) (ht : P.underlying t = some (.slice e)) (hi : P.info? e = some i0) (hz : i0.zero = some z)
    (hs : i0.size = sz) (hb2 : i0.bytes ≤ 1024) (hzs : z.cells.size = sz) (hsz : 0 < sz) {s : St} {a : Act} (hM : MemOk M) (hH : M.H = s.H) (hE : Env M s.t a) {r : AV} {H' : List AO}
    (h : astep (.app e sz x y) s = some (r, H')) : StepOk P M false (execOp a.eval o) r H' := by
  have run : ∀ {v' : Value} {w' : World}, (Builtin.append_ #[t, t] o.type #[a.eval x, a.eval y]).run P M.w = .ok v' w' → (execOp a.eval o).run P M.w = .ok (.value v') w' := by
    intro v' w' hr
    unfold execOp
    simp only [hop, resolve, invoke, builtin, Sem.run_bind, Sem.run_pure, Result.andThen_ok, List.map_toArray, List.map_cons, List.map_nil, hr]
  simp only [astep] at h
  split at h
  · rename_i q xs hq hxs
    obtain ⟨q2, hq2, hxs2⟩ := Option.bind_eq_some_iff.1 hxs
    have rq := aev_ok hE hq
    rw [← hH] at hxs2 h
    have bx := elems_ok hM (aev_ok hE hq2) hxs2
    split at h
    · rename_i hall
      have hones := ones_of hall
      split at h
      · split at h
        · rename_i hlen
          simp only [Option.some.injEq, Prod.mk.injEq] at h
          obtain ⟨rfl, rfl⟩ := h
          obtain ⟨hv, _⟩ := rq.lit
          by_cases hne : xs = []
          · subst hne
            obtain ⟨A, cap, hu, _⟩ := bx
            have hr := run_append_none (P := P) M.w t o.type e i0 ht hi none A 0 0 cap (by simp)
            rw [← hv] at hr
            simp only [List.length_nil] at hu ⊢
            rw [← hu] at hr
            have hM' : MemOk ⟨M.w, M.H ++ [.row [] sz e false], upd M.φ M.H.length none, M.base, M.S⟩ := MemOk.grow hM (Nat.le_refl _) (fun _ _ => rfl) (fun b h => by cases h) ⟨fun e he => (by cases he), .inl ⟨upd_at _ _ _, rfl⟩⟩
            refine ⟨_, M.w, upd M.φ M.H.length none, .inl (run hr), hM', Le.grow hM (Nat.le_refl _) (fun _ _ => rfl) (fun b h => by cases h), .os _ _ _ _ ⟨.row [] sz e false, by simp, by simp [AO.len], fun _ t' ht => .inl ⟨upd_at _ _ _, rfl, rfl, hv⟩⟩, Below.refl _ _, fun h => by cases h⟩
          · obtain ⟨v', w', news, hr, hown, hg, hat, hc⟩ := app_run (ty := o.type) (M := M) ht hi hz hs rfl hb2 hzs hsz (World.ownsRow_nil M.w M.base e sz) bx hne (fun q hq => (hones q hq).1) (by omega) hM.bs
            rw [← hv] at hr
            have hnb : v'.ownBlock = some M.w.heap.size := by
              rcases hat with h1 | h1
              · rcases hown.2 with ⟨_, h2⟩ | ⟨g, cap, cur, hv', _⟩
                · have := List.length_pos_iff.2 hne; omega
                · rw [hv'] at h1; cases h1
              · exact h1
            have hold : ∀ b, b < M.w.heap.size → w'.heap[b]? = M.w.heap[b]? := fun b hb => hg.block b hb (by simp [Value.ownBlock])
            have hnb' : ∀ b, v'.ownBlock = some b → M.w.heap.size ≤ b := fun b hb => by rw [hnb] at hb; injection hb with hb; omega
            have hle : Le M ⟨w', M.H ++ [.row xs sz e false], upd M.φ M.H.length v'.ownBlock, M.base, M.S⟩ := Le.grow hM hg.size hold hnb'
            simp only [Nat.zero_add, List.nil_append] at hown
            have hR := of_owns (M' := ⟨w', M.H ++ [.row xs sz e false], upd M.φ M.H.length v'.ownBlock, M.base, M.S⟩) (o := M.H.length) hown (upd_at _ _ _) hones (fun i hi j hj => let ⟨c, k1, k2⟩ := hc i hi j hj; ⟨c, k1, k2.mono hle.sh⟩) (by simp)
            exact ⟨v', w', _, .inl (run hr), MemOk.grow hM hg.size hold hnb' hR.1, hle, .os _ _ _ _ hR.2, grownBy_below hg hM.bs (fun k hk => by simp [Value.ownBlock] at hk), fun h => by cases h⟩
        · cases h
      · rename_i ob off len
        split at h
        · rename_i els z' t' hob
          split at h
          · rename_i hcond
            obtain ⟨rfl, rfl, rfl, rfl, hbig⟩ := hcond
            simp only [Option.some.injEq, Prod.mk.injEq] at h
            obtain ⟨rfl, rfl⟩ := h
            have hlo := (List.getElem?_eq_some_iff.1 hob).1
            obtain ⟨vs, hown, hblk, hcv⟩ := owns_of hM hob rq.toOs
            have hfl := (hM.ok ob _ hob).1
            by_cases hne : xs = []
            · subst hne
              obtain ⟨A, cap, hu, _⟩ := bx
              have hvs : ∃ A' c, a.eval x = .slice A' els.length c ∧ els.length ≤ c := by
                rcases hown.2 with ⟨h1, h2⟩ | ⟨g, c, cur, h1, _, _, h2, _⟩
                · exact ⟨none, 0, by rw [h2]; exact h1, by omega⟩
                · exact ⟨_, c, h1, h2⟩
              obtain ⟨A', c, hv, hlc⟩ := hvs
              have hr := run_append_none (P := P) M.w t o.type t' i0 ht hi A' A els.length c cap hlc
              rw [← hv] at hr
              simp only [List.length_nil] at hu
              rw [← hu] at hr
              simp only [List.append_nil, List.length_nil, Nat.add_zero]
              rw [set_same hob]
              exact StepOk.same hM (run hr) rq
            · obtain ⟨v', w', news, hr, hown2, hg, hat, hc⟩ := app_run (ty := o.type) (M := M) ht hi hz hs rfl hb2 hzs hsz hown bx hne (fun q hq => (hones q hq).1) hbig hM.bs
              rw [hblk] at hg hat
              have hpos := List.length_pos_iff.2 hne
              have hold : ∀ b, b < M.w.heap.size → M.φ ob ≠ some b → w'.heap[b]? = M.w.heap[b]? := fun b hb hn => hg.block b hb (fun e => hn e.symm)
              have hnb : v'.ownBlock = M.φ ob ∨ ∀ b, v'.ownBlock = some b → M.w.heap.size ≤ b := by
                rcases hat with h1 | h1
                · exact .inl h1
                · exact .inr fun b hb => by rw [h1] at hb; injection hb with hb; omega
              have hlen : (AO.row els z' t' false).len ≤ (AO.row (els ++ xs) z' t' false).len := by simp [AO.len]
              have hsame : (AO.row (els ++ xs) z' t' false).len = (AO.row els z' t' false).len → (AO.row (els ++ xs) z' t' false).sz = (AO.row els z' t' false).sz ∧ v'.ownBlock = M.φ ob ∧ ∀ b, M.φ ob = some b → w'.shape? b = M.w.shape? b := fun h => by
                simp [AO.len] at h; exact absurd h hne
              have hle := Le.turn (ob' := .row (els ++ xs) z' t' false) hM hob rfl hg.size hold hnb rfl hlen hsame
              rw [← List.length_append] at hown2 ⊢
              have hR := of_owns (M' := ⟨w', M.H.set ob (.row (els ++ xs) z' t' false), upd M.φ ob v'.ownBlock, M.base, M.S⟩) (o := ob) hown2 (upd_at _ _ _)
                (fun e he => (List.mem_append.1 he).elim (hfl e) (hones e)) (fun i hi j hj => by
                  rw [List.length_append] at hi
                  have hvl := hown.1
                  by_cases hlt : i < els.length
                  · simp only [List.getElem_append_left hlt] at hj ⊢
                    obtain ⟨c, k1, k2⟩ := hcv i hlt j hj
                    refine ⟨c, ?_, k2.mono hle.sh⟩
                    rw [List.getElem?_append_left (by rw [hvl]; exact idx_lt hlt (row_at hfl hlt hj))]
                    exact k1
                  · have hge : els.length ≤ i := by omega
                    simp only [List.getElem_append_right hge] at hj ⊢
                    obtain ⟨c, k1, k2⟩ := hc (i - els.length) (by omega) j hj
                    refine ⟨c, ?_, k2.mono hle.sh⟩
                    have e2 : i * z' + j = els.length * z' + ((i - els.length) * z' + j) := by
                      rw [← Nat.add_assoc, ← Nat.add_mul]; congr 2; omega
                    rw [List.getElem?_append_right (by rw [hvl, e2]; omega), hvl, e2, Nat.add_sub_cancel_left]
                    exact k1) (by simp [hlo])
              exact ⟨v', w', _, .inl (run hr), MemOk.turn hM hob rfl hg.size hold hnb rfl hlen hsame hR.1, hle, .os _ _ _ _ hR.2, grownBy_below hg hM.bs (fun k hk => hM.lo ob k hlo hk), fun h => by cases h⟩
          · cases h
        · cases h
      · cases h
    · cases h
  · cases h

theorem below_alloc {B : Nat} {w : World} (hB : B ≤ w.heap.size) (o : Obj) : Below B w (w.alloc o) := (Below.refl B w).alloc hB o
theorem alloc_old (w : World) (o : Obj) : ∀ b, b < w.heap.size → (w.alloc o).heap[b]? = w.heap[b]? := fun _ hb => heap_alloc_old w o hb

/-- A new object in a new block. -/
theorem grow_new (hM : MemOk M) {cur : Array Value} {t : TypeId} {ob : AO}
    (hob : ∀ M' : Mem, Le M M' → M'.φ M.H.length = some M.w.heap.size → M'.w.heap[M.w.heap.size]? = some (.cells cur t (0, 0)) → ObOk M' M.H.length ob) :
    MemOk ⟨M.w.alloc (.cells cur t), M.H ++ [ob], upd M.φ M.H.length (some M.w.heap.size), M.base, M.S⟩ ∧ Le M ⟨M.w.alloc (.cells cur t), M.H ++ [ob], upd M.φ M.H.length (some M.w.heap.size), M.base, M.S⟩ ∧
      Below M.base M.w (M.w.alloc (.cells cur t)) ∧ Early.Ext M.w (M.w.alloc (.cells cur t)) := by
  have hsz : M.w.heap.size ≤ (M.w.alloc (.cells cur t)).heap.size := by simp
  have hnb : ∀ b, some M.w.heap.size = some b → M.w.heap.size ≤ b := fun b h => by injection h with h; omega
  have hle := Le.grow (ob := ob) hM hsz (alloc_old M.w (.cells cur t)) hnb
  exact ⟨MemOk.grow hM hsz (alloc_old M.w (.cells cur t)) hnb (hob _ hle (upd_at _ _ _) (Go.heap_alloc_new M.w _)), hle, below_alloc hM.bs _, Early.Ext.alloc _ _⟩
theorem solid_new {w : World} {H : List AO} {φ : Nat → Option Nat} {base : Nat} {S : Nat → Prop} {ob : AO} {b : Nat} {j : Nat} (h1 : ob.len = 1) : PtrOk ⟨w, H ++ [ob], upd φ H.length (some b), base, S⟩ H.length 1 0 j (.pointer (some ⟨b, j, none⟩)) :=
  ⟨ob, by simp, by omega, fun _ => ⟨b, upd_at _ _ _, by simp⟩⟩

theorem step_box {o : Oper} {t : TypeId} {x : Operand} (hop : o.op = .box t x) {s : St} {a : Act} (hM : MemOk M) (hH : M.H = s.H) (hE : Env M s.t a) {r : AV} {H' : List AO}
    (h : astep (.box t x) s = some (r, H')) : StepOk P M true (execOp a.eval o) r H' := by
  simp only [astep] at h
  split at h
  · rename_i y hy
    rw [← hH] at h
    split at h
    · rename_i hb
      simp only [Option.some.injEq, Prod.mk.injEq] at h
      obtain ⟨rfl, rfl⟩ := h
      have hc := boxable_cells (aev_ok hE hy) hb
      obtain ⟨h1, h2, h3, h4⟩ := grow_new hM (cur := (a.eval x).cells) (t := t) (ob := .box y) (fun M' hle hφ hh => ⟨_, _, _, hφ, hh, hc.mono hle⟩)
      refine ⟨.pointer (some ⟨M.w.heap.size, 0, none⟩), _, _, .inl ?_, h1, h2, .ptr _ _ _ _ _ (solid_new rfl), h3, fun _ => h4⟩
      unfold execOp
      simp [hop, Instr.box, newVar, newRow]
    · cases h
  · cases h
theorem zeroO_ok {t : TypeId} {z : PV} (h : zeroO P t = some z) : ∃ i v, P.info? t = some i ∧ i.zero = some v ∧ ofVal v = some z := by
  unfold zeroO at h
  split at h
  · rename_i i hi
    split at h
    · rename_i v hv; exact ⟨i, v, hi, hv, h⟩
    · cases h
  · cases h
theorem pcells {M : Mem} {z : PV} {v : Value} (h : RP M.shared M.w z v) : CellsOk M (z.flat.map .p) v.cells := boxable_cells (.p z v h) rfl
theorem step_zro {o : Oper} {t : TypeId} {z : PV} (hop : o.op = .alloc t) (hz : zeroO P t = some z) {s : St} {a : Act} (hM : MemOk M) (hH : M.H = s.H) {r : AV} {H' : List AO}
    (h : astep (.zro t z) s = some (r, H')) : StepOk P M true (execOp a.eval o) r H' := by
  simp only [astep, Option.some.injEq, Prod.mk.injEq] at h
  rw [← hH] at h
  obtain ⟨rfl, rfl⟩ := h
  obtain ⟨i, v, hi, hv, hov⟩ := zeroO_ok hz
  have hc := pcells (M := M) (ofVal_ok (S := M.shared) (w := M.w) hov)
  obtain ⟨h1, h2, h3, h4⟩ := grow_new hM (cur := v.cells) (t := t) (ob := .box (.p z)) (fun M' hle hφ hh => ⟨_, _, _, hφ, hh, hc.mono hle⟩)
  refine ⟨.pointer (some ⟨M.w.heap.size, 0, none⟩), _, _, .inl ?_, h1, h2, .ptr _ _ _ _ _ (solid_new rfl), h3, fun _ => h4⟩
  unfold execOp
  simp [hop, Instr.alloc, zeroValue, typeInfo, hi, hv, newVar, newRow]

theorem step_mk {o : Oper} {t e : TypeId} {n c : Operand} {sz : Nat} {z : PV} {i0 : TypeInfo} (hop : o.op = .makeSlice t n c) (ht : P.underlying t = some (.slice e)) (hi : P.info? e = some i0) (hz : zeroO P e = some z) (hs : i0.size = 1) (hsz : sz = 1) (hb2 : i0.bytes ≤ 1024)
    (hone : z.one = true) {s : St} {a : Act} (hM : MemOk M) (hH : M.H = s.H) (hE : Env M s.t a) {r : AV} {H' : List AO}
    (h : astep (.mk e sz z n c) s = some (r, H')) : StepOk P M true (execOp a.eval o) r H' := by
  simp only [astep] at h
  split at h
  · rename_i k k' hk hk'
    split at h
    · rename_i hcond
      obtain ⟨rfl, hbig⟩ := hcond
      simp only [Option.some.injEq, Prod.mk.injEq] at h
      rw [← hH] at h
      obtain ⟨rfl, rfl⟩ := h
      subst hsz
      obtain ⟨kd, hv⟩ := asNat_bind hE hk
      obtain ⟨kd', hv'⟩ := asNat_bind hE hk'
      obtain ⟨i, v, hi2, hv2, hov⟩ := zeroO_ok hz
      rw [hi] at hi2
      injection hi2 with hi2
      subst hi2
      have hrp := ofVal_ok (S := M.shared) (w := M.w) hov
      have hvo := hrp.one hone
      have hzf : z.flat = [z] := by cases z <;> first | rfl | cases hone
      have hrun := run_make_row' (P := P) t e v i0.bytes ht (by simp [hi, hv2, hs]) (cells_one hvo) kd kd' k (by have := Nat.mul_le_mul hb2 hbig; omega) (by omega) M.w
      have hml : (madeCells #[v] k).toList = List.replicate k v := toList_madeCells_one v k
      have hmsz : (madeCells #[v] k).size = k := by rw [← Array.length_toList, hml, List.length_replicate]
      have hget : ∀ i, i < k → (madeCells #[v] k)[i]? = some v := fun i hi => by rw [← Array.getElem?_toList, hml]; simp [hi]
      obtain ⟨h1, h2, h3, h4⟩ := grow_new hM (cur := madeCells #[v] k) (t := e) (ob := .row (List.replicate k z) 1 e false) (fun M' hle hφ hh => ⟨fun e he => by
        obtain ⟨_, rfl⟩ := List.mem_replicate.1 he
        rw [hzf]
        exact ⟨rfl, fun c hc => by simp at hc; subst hc; exact hone⟩, .inr ⟨_, _, k, hφ, hh, by omega, by simp, fun i hi j hj => by
          simp only [List.length_replicate] at hi
          simp only [List.getElem_replicate, hzf, List.length_singleton] at hj ⊢
          obtain rfl : j = 0 := by omega
          refine ⟨v, by rw [Nat.mul_one, Nat.add_zero]; exact hget i hi, ?_⟩
          exact hrp.mono hle.sh⟩⟩)
      refine ⟨.slice (some ⟨M.w.heap.size, 0, none⟩) k k, _, _, .inl ?_, h1, h2, .os _ _ _ _ ⟨.row (List.replicate k z) 1 e false, by simp, by simp [AO.len], fun _ t' ht' => .inr ⟨_, k, upd_at _ _ _, ?_, Nat.le_refl _, by omega, ?_⟩⟩, h3, fun _ => h4⟩
      · unfold execOp
        simp only [hop, hv, hv', Sem.run_bind, hrun, Result.andThen_ok, Sem.run_pure]
      · simp
      · injection ht' with ht'
        subst ht'
        rw [shape_of (Go.heap_alloc_new M.w _), hmsz]
        simp [AO.sz]
    · cases h
  · cases h
end
end Abs
end Go
