/-
  append of a slice of ints onto a row of the call's own: a law that names no program.
-/
import Derived.Test.YtgbmdikkdjogpaaOwn
import Derived.Maps.AppendAt
import Derived.Deep.AppendLies
import Derived.RegionTactic
import Derived.OwnWalk
namespace Go
namespace Sand
open Go.RowKit
section
variable {P : Program} (w : World)

theorem run_append_nil0 (base : Nat) (t ty e : TypeId) (i : TypeInfo) (size : Nat) (ht : P.underlying t = some (.slice e)) (hi : P.info? e = some i)
    (v : Value) (n : Nat) (xs : List Value) (hown : w.ownsRow base e size v n xs) (c : Nat) : (Builtin.append_ #[t, t] ty #[v, .slice none 0 c]).run P w = .ok v w := by
  rcases hown.2 with ⟨rfl, rfl⟩ | ⟨g, cap, cur, rfl, _, _, hnc, _⟩
  · simp [Builtin.append_, run_underlying ht, sizeOf, typeInfo, hi, Builtin.lenOf, Builtin.firstCells]
  · simp [Builtin.append_, run_underlying ht, sizeOf, typeInfo, hi, Builtin.lenOf, Builtin.firstCells, hnc, storeCells]

theorem run_append_sl (B : Nat) (t ty e : TypeId) (ht : P.underlying t = some (.slice e)) (hinfo : (P.info? e).map (fun i => (i.zero, i.size, i.bytes)) = some (some (.int .i64 0), 1, 8))
    (v u : Value) (xs ys : List Int) (hown : OwnI e w B v xs) (hs : SlI w u ys) (hsz : xs.length + ys.length ≤ 1048576) (hB : B ≤ w.heap.size) :
    ∃ v' w', (Builtin.append_ #[t, t] ty #[v, u]).run P w = .ok v' w' ∧ OwnI e w' B v' (xs ++ ys) ∧ w.grownBy w' v.ownBlock ∧ (v'.ownBlock = v.ownBlock ∨ v'.ownBlock = some w.heap.size) := by
  obtain ⟨i0, hi, hz0, hz1, hz2⟩ := info_parts hinfo
  obtain ⟨A, cap, rfl, hlc, hm, hc⟩ := hs
  have hvl : (vI (xs ++ ys)) = vI xs ++ vI ys := by simp [vI]
  have hone : ∀ u ∈ vI ys, u.oneCell' = true := ints_oneCell _ _
  rcases A with _ | ad
  · have hm : ys = [] := by
      rcases Nat.eq_zero_or_pos ys.length with h0 | h0
      · exact List.eq_nil_of_length_eq_zero h0
      · obtain ⟨b, off, h, _⟩ := hc 0 h0
        cases h
    subst hm
    exact ⟨v, w, run_append_nil0 w B t ty e i0 1 ht hi v xs.length (vI xs) hown.1 cap, by simpa using hown, World.grownBy.refl w _, .inl rfl⟩
  · have hcells : ∀ j u, (vI ys)[j]? = some u → w.cell? (ad.add j) = some u := by
      intro j u hu
      have hj : j < ys.length := by
        rcases Nat.lt_or_ge j ys.length with h | h
        · exact h
        · rw [List.getElem?_eq_none (by rw [vI_length]; exact h)] at hu; cases hu
      obtain ⟨b, off, h, hcell⟩ := hc j hj
      injection h with h
      subst h
      rw [vI_get ys j hj] at hu
      rw [← hu, ← hcell]
      unfold Addr.add
      split
      · rename_i h0; subst h0; rfl
      · rfl
    obtain ⟨v', w', hrun, h2, h3, _, h5⟩ := run_append_own_at (P := P) w B t ty e i0 (.int .i64 0) 1 8 ht hi hz0 hz1 hz2 rfl (by omega) v xs.length (vI xs) hown.1 ad ys.length cap (vI ys)
      (by simp [vI]) hcells hone (by unfold maxLen; omega) (by omega) hB
    refine ⟨v', w', hrun, ⟨?_, by rw [List.length_append]; omega⟩, h3, h5⟩
    rw [hvl, List.length_append]
    exact h2

theorem wp_append_sl {o : Oper} {a : Act} {K : Act → World → Prop} {Q : Exit → Act → World → Prop} (s x : Operand) (t : TypeId)
    (ho : o.op = .call { callee := .builtin .append, args := #[s, x], argTypes := #[t, t] })
    (B : Nat) (e : TypeId) (ht : P.underlying t = some (.slice e)) (hinfo : (P.info? e).map (fun i => (i.zero, i.size, i.bytes)) = some (some (.int .i64 0), 1, 8))
    (v u : Value) (xs ys : List Int) (hev : a.eval s = v) (hown : OwnI e w B v xs) (heu : a.eval x = u) (hs : SlI w u ys) (hsz : xs.length + ys.length ≤ 1048576) (hB : B ≤ w.heap.size)
    (h : ∀ v' w', OwnI e w' B v' (xs ++ ys) → w.grownBy w' v.ownBlock → (v'.ownBlock = v.ownBlock ∨ v'.ownBlock = some w.heap.size) → K (a.put o.dst v') w') : o.wp P a w K Q := by
  obtain ⟨v', w', hrun, h2, h3, h4⟩ := run_append_sl (P := P) w B t o.type e ht hinfo v u xs ys hown hs hsz hB
  unfold Oper.wp execOp
  simp only [ho, resolve, invoke, builtin, Sem.run_bind, Sem.run_pure, Result.andThen_ok, List.map_toArray, List.map_cons, List.map_nil, hev, heu, hrun]
  exact h v' w' h2 h3 h4

theorem wpList_append_sl {ops : Array Oper} {rest : List Oper} {o : Oper} {a : Act} {Q : Exit → Act → World → Prop} (hgd : o.guard = none) (s x : Operand) (t : TypeId)
    (ho : o.op = .call { callee := .builtin .append, args := #[s, x], argTypes := #[t, t] })
    (B : Nat) (e : TypeId) (ht : P.underlying t = some (.slice e)) (hinfo : (P.info? e).map (fun i => (i.zero, i.size, i.bytes)) = some (some (.int .i64 0), 1, 8))
    (v u : Value) (xs ys : List Int) (hev : a.eval s = v) (hown : OwnI e w B v xs) (heu : a.eval x = u) (hs : SlI w u ys) (hsz : xs.length + ys.length ≤ 1048576) (hB : B ≤ w.heap.size)
    (h : ∀ v' w', OwnI e w' B v' (xs ++ ys) → w.grownBy w' v.ownBlock → (v'.ownBlock = v.ownBlock ∨ v'.ownBlock = some w.heap.size) → wpList P ops Q rest (a.put o.dst v') w') : wpList P ops Q (o :: rest) a w :=
  wpList_plain hgd fun _ hK => wp_append_sl w s x t ho B e ht hinfo v u xs ys hev hown heu hs hsz hB fun v' w' h2 h3 h4 => hK _ _ (h v' w' h2 h3 h4)
end
theorem OwnI.empty (e : TypeId) (w : World) (B : Nat) (hB : B ≤ w.heap.size) : OwnI e (w.alloc (.cells #[] e)) B (.slice (some ⟨w.heap.size, 0, none⟩) 0 0) [] := by
  have := OwnI.of_blk (e := e) (xs := []) (Blk.new w e #[]) hB (by simp)
  exact this
theorem grow_grown {a w w' : World} {row : Option Nat} (h : Below a.heap.size a w) (hg : w.grownBy w' row) (hr : ∀ k, row = some k → a.heap.size ≤ k) : Below a.heap.size a w' := h.grown hg h.size hr
end Sand
end Go
