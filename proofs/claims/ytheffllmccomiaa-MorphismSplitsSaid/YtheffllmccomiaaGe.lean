/-
  The single edges' iterator, and graph.Ends, which ranges over it: contracts.
-/
import Derived.Test.YtheffllmccomiaaMra
import Derived.RangeFuncNested
import Derived.RangeFuncBound
import Derived.RangeFuncCalls
import Derived.RangeFuncLeaves
import Derived.RangeFuncBox
import Derived.Shelf.Abstract
import Derived.Shelf.RegionOpen
import Derived.OwnWalkIn
import Derived.TacticsInMore
import Derived.LoopNIn
import Derived.LoopIn
import Derived.Maps.AppendAt
set_option linter.unusedVariables false
set_option linter.unusedSimpArgs false
namespace Go.Proofs.Ytheffllmccomiaa
open Go.RowKit Go.Shelf Go.Sand
attribute [local go_sem] Oper.semAt_some

/-- Blocks below n0, and those of edges and graphs, that hold cells, hold them still. -/
def KpE (n0 : Nat) (W W' : World) : Prop := ∀ (k : Nat) (c : Array Value) (t : TypeId) (f : Nat × Nat), (k < n0 ∨ t = 78 ∨ t = 24) → W.heap[k]? = some (.cells c t f) → W'.heap[k]? = some (.cells c t f)
theorem KpE.refl {n0 : Nat} {W : World} : KpE n0 W W := fun _ _ _ _ _ h => h
theorem KpE.trans {n0 : Nat} {A B C : World} (h : KpE n0 A B) (k : KpE n0 B C) : KpE n0 A C := fun i c t f hi e => k i c t f hi (h i c t f hi e)
theorem KpE.alloc {n0 : Nat} {W : World} (o : Obj) : KpE n0 W (W.alloc o) := fun k c t f _ h => (Below.heap_alloc W o k (Array.getElem?_eq_some_iff.1 h).1).trans h
theorem KpE.cell {n0 : Nat} {W W' : World} (h : KpE n0 W W') {b o : Nat} {v : Value} (hb : b < n0) (hc : W.cell? ⟨b, o, none⟩ = some v) : W'.cell? ⟨b, o, none⟩ = some v := by
  unfold World.cell? at hc ⊢
  split at hc
  · rename_i c e f ho
    rw [h b _ _ _ (.inl hb) ho]; exact hc
  · cases hc
theorem KpE.blkE {n0 : Nat} {W W' : World} (h : KpE n0 W W') {b : Nat} {cs : Array Value} (hb : Blk W b 78 cs) : Blk W' b 78 cs := h b _ _ _ (.inr (.inl rfl)) hb
theorem KpE.blkG {n0 : Nat} {W W' : World} (h : KpE n0 W W') {b : Nat} {cs : Array Value} (hb : Blk W b 24 cs) : Blk W' b 24 cs := h b _ _ _ (.inr (.inr rfl)) hb
/-- The single edges with their numbers. -/
def sL (ps : List (Int × Int)) : List (Nat × Int × Int) := ps.zipIdx.map fun p => (p.2, p.1.1, p.1.2)
theorem sL_snoc (ps : List (Int × Int)) (p : Int × Int) : sL (ps ++ [p]) = sL ps ++ [(ps.length, p.1, p.2)] := by simp [sL, List.zipIdx_append]
theorem sL_length (ps : List (Int × Int)) : (sL ps).length = ps.length := by simp [sL]
theorem sL_back (ps : List (Int × Int)) : (sL ps).map (fun x => (x.2.1, x.2.2)) = ps := by
  simp only [sL, List.map_map]
  rw [show ((fun x : Nat × Int × Int => (x.2.1, x.2.2)) ∘ fun p : (Int × Int) × Nat => (p.2, p.1.1, p.1.2)) = Prod.fst from rfl, List.zipIdx_map_fst]
abbrev encE (x : Nat × Int × Int) : Array Value := #[.int .i64 x.1, .agg #[.int .i64 x.2.1, .int .i64 x.2.2]]

set_option maxRecDepth 100000 in
set_option maxHeartbeats 2000000 in
theorem singles1_in (n : Nat) (hn : 1 ≤ n) (l gb n0 : Nat) (N : Int) (ev : Value) (es : List Ed) (hr : ∀ x ∈ es, Right N x) (hel : es.length ≤ 900) (J Jx : List (Nat × Int × Int) → World → Prop) (B : Nat) (hJ : AbidesFrom B J)
    (hY : ∀ pre x W, J pre W → pre.length < 50000 → YieldAt Fence.wide (n - 1) Try.prog l (encE x) W fun e W' =>
      (e = .returned (.bool true) ∧ J (pre ++ [x]) W' ∧ KpE n0 W W') ∨ (e = .returned (.bool false) ∧ Jx (pre ++ [x]) W'))
    (W : World) (hB : B = W.heap.size) (hg : Blk W gb 24 #[.int .i64 N, ev]) (he : SlE W ev es) (hlow : ∀ A len cap, ev = .slice (some A) len cap → es ≠ [] → A.block < n0) (h0 : J [] W) :
    CallsIn Fence.wide n Try.prog 81 #[.func (.yield l) #[] #[], .pointer (some ⟨gb, 0, none⟩)] W fun e W' => (∃ v, e = .returned v) ∧
      ((∃ ys, ys = sL (endsL es) ∧ J ys W') ∨ (∃ pre, True ∧ Jx pre W')) := by
  have hl : ∀ k, k ≤ es.length → (endsL (es.take k)).length ≤ 50 * k := fun k hk => by
    have := endsL_len (es := es.take k) (fun x hx => hr x (List.mem_of_mem_take hx))
    simp at this; omega
  obtain ⟨A, cap, rfl, hlc, hm, hc⟩ := id he
  have c1 := hg.cell 1
  refine callsIn_of_wp Try.func81 rfl trivial ?_ rfl
  simp only [Try.ntmps81, List.size_toArray, List.length_cons, List.length_nil, Nat.reduceAdd, Nat.reduceSub, Array.replicate_succ, Array.replicate_zero, List.push_toArray, List.append_toArray, List.nil_append, List.cons_append]
  gi_wp2
  gi_loopw [3, 9] (fun e i wr => ∃ k : Nat, k ≤ es.length ∧ i = .int .i64 k ∧ e = .int .i64 (endsL (es.take k)).length ∧ J (sL (endsL (es.take k))) wr ∧ KpE n0 W wr) (fun _ i _ => es.length - (intOf i).toNat)
  case atStart => exact ⟨0, Nat.zero_le _, rfl, rfl, h0, KpE.refl⟩
  case round =>
    obtain ⟨k, hk, rfl, rfl, hJk, hKp⟩ := hrel
    by_cases hlt : k < es.length
    rotate_left
    · have Hk := List.take_of_length_le (l := es) (i := k) (by omega)
      gi_wp2
      go_end0
      rw [Hk] at hJk
      exact ⟨⟨_, rfl⟩, .inl ⟨_, rfl, hJk⟩⟩
    obtain ⟨b, off, rfl, ca, cb, cm⟩ := hc k hlt
    have hbl : b < n0 := hlow _ _ _ rfl (fun e => by rw [e] at hlt; simp at hlt)
    replace ca := hKp.cell hbl ca
    replace cb := hKp.cell hbl cb
    replace cm := hKp.cell hbl cm
    have hrx := hr _ (List.getElem_mem hlt)
    have Hs := Lib.hid (endsL_snoc es k hlt)
    have hlk := hl k hk
    obtain ⟨x, hx⟩ : ∃ x, x = es[k] := ⟨_, rfl⟩
    rw [← hx] at ca cb cm hrx Hs
    clear hx hc hl
    have m1 := hrx.m1
    have m50 := hrx.m50
    clear hrx
    obtain ⟨mm, hmm⟩ : ∃ mm : Nat, x.m = mm := ⟨x.m.toNat, by omega⟩
    rw [hmm] at cm m1 m50
    rw [show x.m.toNat = mm by omega] at Hs
    clear hmm
    obtain ⟨L, HL⟩ : ∃ L, Hid (L = endsL (es.take k)) := ⟨_, Lib.hid rfl⟩
    rw [← HL.out] at hJk Hs hlk ⊢
    gi_wp2
    have hJ0 : J (sL L) (wr.alloc (.cells #[.int .i64 x.a, .int .i64 x.b, .int .i64 mm] 78)) := hJ _ _ _ none hJk (World.grownBy_alloc _ _ none) (fun r e => by cases e)
    have hK0 : KpE n0 W (wr.alloc (.cells #[.int .i64 x.a, .int .i64 x.b, .int .i64 mm] 78)) := hKp.trans (KpE.alloc _)
    have hb0 := Blk.new wr 78 #[.int .i64 x.a, .int .i64 x.b, .int .i64 mm]
    clear hKp hJk
    obtain ⟨bx, hbx⟩ : ∃ bx, bx = wr.heap.size := ⟨_, rfl⟩
    rw [← hbx] at hb0 ⊢
    clear hbx
    gi_loopw [3, 15] (fun e i wq => ∃ j : Nat, j ≤ mm ∧ i = .int .i64 j ∧ e = .int .i64 (L.length + j : Nat) ∧ J (sL (L ++ List.replicate j (x.a, x.b))) wq ∧ KpE n0 W wq ∧ Blk wq bx 78 #[.int .i64 x.a, .int .i64 x.b, .int .i64 mm]) (fun _ i _ => mm - (intOf i).toNat)
    case atStart => exact ⟨0, Nat.zero_le _, rfl, by simp, by simpa using hJ0, hK0, hb0⟩
    case round =>
      clear hJ0 hK0 hb0
      obtain ⟨j, hj, rfl, rfl, hJk, hKp, hb⟩ := hrel
      by_cases hjt : j < mm
      rotate_left
      · have hjm : j = mm := by omega
        subst hjm
        gi_wp2
        go_roundw
        case rel => exact ⟨k + 1, by omega, by go_num, by rw [Hs.out]; simp, by rw [Hs.out]; exact hJk, hKp⟩
        case measure => simp [intOf]; omega
      have d0 : wr.cell? ⟨bx, 0, none⟩ = some (.int .i64 x.a) := hb.cell 0
      have d1 : wr.cell? ⟨bx, 1, none⟩ = some (.int .i64 x.b) := hb.cell 1
      have hpl : (sL (L ++ List.replicate j (x.a, x.b))).length < 50000 := by rw [sL_length]; simp; omega
      have hsn := sL_snoc (L ++ List.replicate j (x.a, x.b)) (x.a, x.b)
      obtain ⟨fn, tmps, assign, body, hy, hR⟩ := hY _ (L.length + j, x.a, x.b) _ hJk hpl
      rw [show encE (L.length + j, x.a, x.b) = #[.int .i64 ((L.length : Int) + j), .agg #[.int .i64 x.a, .int .i64 x.b]] by simp [encE]] at hy
      gi_wp2
      refine hR.mono ?_
      rintro e W3 (⟨rfl, hJ3, hk3⟩ | ⟨rfl, hJx3⟩)
      · have hb3 := hk3.blkE hb
        rw [show sL (L ++ List.replicate j (x.a, x.b)) ++ [(L.length + j, x.a, x.b)] = sL (L ++ List.replicate (j + 1) (x.a, x.b)) by rw [List.replicate_succ', ← List.append_assoc, hsn]; simp] at hJ3
        gi_wp2
        go_roundw
        case rel => exact ⟨j + 1, by omega, by go_num, by go_num, hJ3, hKp.trans hk3, hb3⟩
        case measure => simp [intOf]; omega
      · gi_wp2
        refine bodyPost_ret (results_none rfl _ _ _) rfl ?_
        exact ⟨⟨_, rfl⟩, .inr ⟨_, trivial, hJx3⟩⟩

theorem singles_in (n : Nat) (N : Int) (ev : Value) (w : World) : CallsIn Fence.wide n Try.prog 74 #[.agg #[.int .i64 N, ev]] w fun e w' => e = .returned (.func (.func 81) #[] #[.pointer (some ⟨w.heap.size, 0, none⟩)]) ∧ w' = w.alloc (.cells #[.int .i64 N, ev] 24) := by
  refine callsIn_of_wp Try.func74 rfl trivial ?_ rfl
  simp only [Try.ntmps74, List.size_toArray, List.length_cons, List.length_nil, Nat.reduceAdd, Nat.reduceSub, Array.replicate_succ, Array.replicate_zero, List.push_toArray, List.append_toArray, List.nil_append, List.cons_append]
  gi_wp2
  go_ret
  exact ⟨rfl, rfl⟩

theorem info_pairE : (Try.prog.info? 55).map (fun i => (i.zero, i.size, i.bytes)) = some (some (.agg #[.int .i64 0, .int .i64 0]), 2, 16) := by kernel_rfl
/-- What a list of pairs lies as. -/
def cellsP (ps : List (Int × Int)) : List Value := ps.flatMap fun p => [.int .i64 p.1, .int .i64 p.2]
abbrev endsOf (l : List (Nat × Int × Int)) : List (Int × Int) := l.map fun x => (x.2.1, x.2.2)
theorem cellsP_snoc (pre : List (Nat × Int × Int)) (x : Nat × Int × Int) : cellsP (endsOf (pre ++ [x])) = cellsP (endsOf pre) ++ [.int .i64 x.2.1, .int .i64 x.2.2] := by simp [cellsP, endsOf]

theorem KpE.appended {n0 bo k : Nat} {W w1 : World} {v u : Value} {xs : List Value} {tmp : Obj} (hv : Boxed W bo 80 v) (hrow : W.ownsRow n0 55 2 v k xs) (hob : n0 ≤ bo) (hgrow : (W.alloc tmp).grownBy w1 v.ownBlock) :
    KpE n0 W (w1.setCell ⟨bo, 0, none⟩ u) := by
  intro j c t f hj hh
  have hlt := (Array.getElem?_eq_some_iff.1 hh).1
  have h1 : j ≠ bo := fun e => by
    subst e
    have := (show W.heap[j]? = _ from hv).symm.trans hh
    injection this with this
    injection this with _ e2 _
    rcases hj with hj | hj | hj
    · omega
    · rw [hj] at e2; cases e2
    · rw [hj] at e2; cases e2
  have h2 : some j ≠ v.ownBlock := fun e => by
    rcases hrow.2 with ⟨rfl, _⟩ | ⟨g, cap, cur, rfl, hg, hgb, _⟩
    · cases e
    · obtain rfl : j = g := by simpa [Value.ownBlock] using e
      have := hgb.symm.trans hh
      injection this with this
      injection this with _ e2 _
      rcases hj with hj | hj | hj
      · omega
      · rw [hj] at e2; cases e2
      · rw [hj] at e2; cases e2
  refine (Below.heap_setCell _ _ _ j h1).trans ?_
  refine (hgrow.block j (by simp; omega) h2).trans ?_
  exact (Below.heap_alloc W tmp j hlt).trans hh

set_option maxRecDepth 100000 in
set_option maxHeartbeats 4000000 in
theorem ends_err (N : Int) (ev : Value) (r : Int) (hne : r ≠ 0) (w : World)
    (hC : Calls Try.prog 73 #[.agg #[.int .i64 N, ev]] (w.alloc (.cells #[.int .i64 N, ev] 24)) fun e w' => e = .returned (.int .i64 r) ∧ Below (w.heap.size + 1) (w.alloc (.cells #[.int .i64 N, ev] 24)) w') :
    Calls Try.prog 66 #[.agg #[.int .i64 N, ev]] w fun e w' => e = .returned (.tuple #[.slice none 0 0, .int .i64 r]) ∧ Below w.heap.size w w' := by
  refine (callsIn_wide (n := 6)).1 ?_
  have hB0 : Below w.heap.size w (w.alloc (.cells #[.int .i64 N, ev] 24)) := (Below.refl _ w).alloc (Nat.le_refl _) _
  refine callsIn_of_wp Try.func66 rfl trivial ?_ rfl
  simp only [Try.ntmps66, List.size_toArray, List.length_cons, List.length_nil, Nat.reduceAdd, Nat.reduceSub, Array.replicate_succ, Array.replicate_zero, List.push_toArray, List.append_toArray, List.nil_append, List.cons_append]
  gi_wp2_with (refine ⟨trivial, ?_⟩; gi_at_call 73; refine (callsIn_wide.2 hC).mono ?_; rintro e w1 ⟨rfl, hb⟩)
  refine bodyPost_ret (results_tmp2 rfl _ _ _) rfl ?_
  exact ⟨rfl, hB0.trans (hb.mono (by omega))⟩
set_option maxRecDepth 100000 in
set_option maxHeartbeats 4000000 in
theorem ends_good (N : Int) (ev : Value) (es : List Ed) (hr : ∀ x ∈ es, Right N x) (hel : es.length ≤ 900) (w : World) (he : SlE w ev es) (hlow : ∀ A len cap, ev = .slice (some A) len cap → es ≠ [] → A.block < w.heap.size)
    (hC : Calls Try.prog 73 #[.agg #[.int .i64 N, ev]] (w.alloc (.cells #[.int .i64 N, ev] 24)) fun e w' => e = .returned (.int .i64 0) ∧ Below (w.heap.size + 1) (w.alloc (.cells #[.int .i64 N, ev] 24)) w') :
    Calls Try.prog 66 #[.agg #[.int .i64 N, ev]] w fun e w' => ∃ v, e = .returned (.tuple #[v, .int .i64 0]) ∧ w'.ownsRow w.heap.size 55 2 v (endsL es).length (cellsP (endsL es)) ∧ Below w.heap.size w w' := by
  refine (callsIn_wide (n := 6)).1 ?_
  have hB0 : Below w.heap.size w (w.alloc (.cells #[.int .i64 N, ev] 24)) := (Below.refl _ w).alloc (Nat.le_refl _) _
  have bG0 : Blk (w.alloc (.cells #[.int .i64 N, ev] 24)) w.heap.size 24 #[.int .i64 N, ev] := Blk.new _ _ _
  refine callsIn_of_wp_marks Try.func66 rfl trivial ?_ rfl
  simp only [Try.ntmps66, List.size_toArray, List.length_cons, List.length_nil, Nat.reduceAdd, Nat.reduceSub, Array.replicate_succ, Array.replicate_zero, List.push_toArray, List.append_toArray, List.nil_append, List.cons_append]
  gi_wp2_with first | (refine ⟨trivial, ?_⟩; gi_at_call 73; refine (callsIn_wide.2 hC).mono ?_; rintro e w1 ⟨rfl, hb⟩; have bG1 := bG0.below hb (by omega); have bG2 := bG1.alloc (.cells #[.slice none 0 0] 80); have c0 : (w1.alloc (.cells #[.slice none 0 0] 80)).cell? ⟨w.heap.size, 0, none⟩ = some (.int .i64 N) := bG2.cell 0; have c1 : (w1.alloc (.cells #[.slice none 0 0] 80)).cell? ⟨w.heap.size, 1, none⟩ = some ev := bG2.cell 1) | (refine ⟨trivial, ?_⟩; gi_at_call 74; refine (singles_in _ N ev _).mono ?_; rintro e w2 ⟨rfl, rfl⟩)
  have hB1 : Below w.heap.size w w1 := hB0.trans (hb.mono (by omega))
  have hs1 := hb.size
  simp only [World.size_alloc] at hs1
  have bO := (Boxed.new w1 80 (.slice none 0 0)).alloc (.cells #[.int .i64 N, ev] 24)
  have bG := Blk.new (w1.alloc (.cells #[.slice none 0 0] 80)) 24 #[.int .i64 N, ev]
  rw [World.size_alloc] at bG
  have hB2 : Below w.heap.size w ((w1.alloc (.cells #[.slice none 0 0] 80)).alloc (.cells #[.int .i64 N, ev] 24)) := (hB1.alloc hB1.size _).alloc (by have := hB1.size; simp; omega) _
  have hsz : ((w1.alloc (.cells #[.slice none 0 0] 80)).alloc (.cells #[.int .i64 N, ev] 24)).heap.size = w1.heap.size + 2 := by simp
  obtain ⟨W0, hW0⟩ : ∃ W0, (w1.alloc (.cells #[.slice none 0 0] 80)).alloc (.cells #[.int .i64 N, ev] 24) = W0 := ⟨_, rfl⟩
  rw [hW0] at bO bG hB2 hsz ⊢
  clear hW0 bG1 bG2 c0 c1 hb hC
  have he0 : SlE W0 ev es := he.below hB2
  obtain ⟨bo, hbo⟩ : ∃ bo, bo = w1.heap.size := ⟨_, rfl⟩
  have hob : w.heap.size ≤ bo := by have := hB1.size; omega
  rw [← hbo] at bO bG hsz ⊢
  clear hbo hB1 hs1
  obtain ⟨i0, hi, hz0, hz1, hz2⟩ := info_parts info_pairE
  refine wpIn_rangeFunc_ownH rfl (by omega) (gf := 81) (lb := #[.pointer (some ⟨bo + 1, 0, none⟩)]) rfl trivial (enters_of Try.func81 (by kernel_rfl) rfl)
    (encs := encE) (Kp := KpE w.heap.size) (S := fun ys => ys = sL (endsL es)) (Sp := fun _ => True) (N := 50000) (w0 := W0)
    (fun l J Jx W hW hJ _ hY h0 => singles1_in (6 - 1) (by omega) l (bo + 1) w.heap.size N ev es hr hel J Jx W.heap.size hJ hY W rfl (bG.below hW (by omega)) (he0.below hW) hlow h0)
    (fun h k => h.trans k) (fun W l o o' _ hl hc _ k c t f _ hk => by
      refine (World.putObj_heap_other ?_).trans hk
      intro e
      rw [e] at hk
      rw [hl] at hk
      injection hk with hk
      subst hk
      cases hc) (Below.refl _ _) (fun _ => rfl)
    (fun pre W => (∃ v, Boxed W bo 80 v ∧ W.ownsRow w.heap.size 55 2 v (endsOf pre).length (cellsP (endsOf pre)) ∧ True) ∧ Below w.heap.size w W)
    (fun _ _ _ => False)
    (OwnFrom.and (Own.from (holdsRow_own w.heap.size bo 80 55 2 (fun pre : List (Nat × Int × Int) => (endsOf pre).length) (fun pre => cellsP (endsOf pre)) (fun _ _ => True)) _) (ownFrom_below (Nat.le_refl _) (by omega)))
    (fun _ _ _ _ _ hs _ _ => hs)
    ⟨⟨_, bO, World.ownsRow_nil _ _ _ _, trivial⟩, hB2⟩
    (fun x a' W => ∃ Bx, bo < Bx ∧ Blk W Bx 120 #[.int .i64 x.2.1, .int .i64 x.2.2] ∧ a' = { tmps := #[.agg #[.int .i64 N, ev], .pointer (some ⟨w.heap.size, 0, none⟩), .slice none 0 0, .int .i64 0, .int .i64 0, .pointer (some ⟨bo, 0, none⟩), undef, .pointer (some ⟨Bx, 0, none⟩), .agg #[.int .i64 N, ev], .int .i64 0, .int .i64 0, .bool false, undef, .agg #[.int .i64 N, ev], .func (.func 81) #[] #[.pointer (some ⟨bo + 1, 0, none⟩)], .int .i64 x.1, .agg #[.int .i64 x.2.1, .int .i64 x.2.2], undef, undef, undef, undef, undef, undef, undef, undef, undef], defers := [] })
    (fun x a' _ X Y row hs hg hr' => by
      obtain ⟨Bx, h1, h2, h3⟩ := hs
      refine ⟨Bx, h1, (hg.block Bx h2.lt (fun e => ?_)).trans h2, h3⟩
      obtain ⟨_, o, ho, hc⟩ := hr' Bx e.symm
      rw [show X.heap[Bx]? = _ from h2] at ho
      cases ho
      cases hc)
    ?assign ?body ?done ?stop
  case assign =>
    rintro l pre x W K ⟨⟨v, hv, hrow, _⟩, hB⟩ hK
    gi_wp2
    exact hK _ _ ((KeepsOthers.alloc _ _).from _) (KpE.alloc _) ⟨⟨v, hv.alloc _, hrow.alloc _, trivial⟩, hB.alloc hB.size _⟩ ⟨W.heap.size, hv.lt, Blk.new _ _ _, rfl⟩
  case body =>
    rintro l pre x a' W hl ⟨r, hr'⟩ ⟨⟨v, hv, hrow, _⟩, hB⟩ ⟨Bx, hBx, bX, rfl⟩ hlt
    have hc := hv.cell
    have d0 : W.cell? ⟨Bx, 0, none⟩ = some (.int .i64 x.2.1) := bX.cell 0
    have d1 : W.cell? ⟨Bx, 1, none⟩ = some (.int .i64 x.2.2) := bX.cell 1
    have hpl : (endsOf pre).length < 50000 := by simpa using hlt
    have hcell : ∀ (j : Nat) (u : Value), [Value.int .i64 x.2.1, Value.int .i64 x.2.2][j]? = some u → (W.alloc (.cells #[.int .i64 x.2.1, .int .i64 x.2.2] 55)).cell? ((⟨W.heap.size, 0, none⟩ : Addr).add j) = some u := fun j u hj => by
      have hb := Blk.new W 55 #[.int .i64 x.2.1, .int .i64 x.2.2]
      rw [Abs.addr_add, Nat.zero_add, hb.cell j]
      simpa using hj
    gi_wp2_with (gi_at_builtin; refine wpListIn_append_own _ rfl _ _ 80 rfl w.heap.size 55 i0 (.agg #[.int .i64 0, .int .i64 0]) 2 16 Try.underlying80 hi hz0 hz1 hz2 rfl (by decide) _ _ _ rfl (hrow.alloc _) ⟨W.heap.size, 0, none⟩ 1 1 [.int .i64 x.2.1, .int .i64 x.2.2] rfl rfl hcell (by simp [Value.oneCell']) (by unfold maxLen; omega) (by omega) (by have := hB.size; simp; omega) ?_; intro v' w1 hown' hgrow _; obtain ⟨g', cap', rfl⟩ := ownsRow_succ hown'; obtain ⟨hv1, hv2, hr2, hk2, hb2⟩ := hv.appended (by decide) hrow hB.size hob hown' hgrow; have hc1 := hv1.cell; have hf1 := hv1.frozen)
    have hfin := KpE.appended (u := .slice (some ⟨g', 0, none⟩) (pre.length + 1) cap') hv hrow hob hgrow
    have hl' : (endsOf (pre ++ [x])).length = (endsOf pre).length + 1 := by simp
    simp only [List.length_map] at hv2 hr2 hb2 hk2
    refine ⟨hk2.from _, hfin, ⟨_, hv2, ?_, trivial⟩, hB.trans hb2⟩
    rw [cellsP_snoc, hl', List.length_map]
    exact hr2
  case done =>
    rintro D ys W hD rfl ⟨⟨v, hv, hrow, _⟩, hB⟩ hK
    have hc := hv.cell
    gi_wp2
    refine ⟨by simp, .inl ⟨_, _, rfl, run_takeDeferred hK, ?_⟩⟩
    rw [show endsOf (sL (endsL es)) = endsL es from sL_back _] at hrow
    exact ⟨_, results_tmp2 rfl _ _ _, v, rfl, ownsRow_putObj hrow _ hK rfl, hB.trans (belowK_b (w := w) (Nat.le_refl _) W D _ _ (by omega) hK rfl rfl)⟩
  case stop =>
    rintro D c pre W _ _ h _
    exact h.elim

/-! ### As contracts on values -/
theorem G_parts {S : Nat → Prop} {w : World} {N : Int} {es : List Ed} {v : Value} (h : Abs.RP S w (G N es) v) (hS : ∀ b, S b → b < w.heap.size) :
    ∃ ev, v = .agg #[.int .i64 N, ev] ∧ SlE w ev es ∧ ∀ A len cap, ev = .slice (some A) len cap → es ≠ [] → A.block < w.heap.size := by
  cases h with
  | agg l cs hl ho hr =>
    have hl : cs.size = 2 := hl
    have h0 := hr 0 (by simp) (by omega)
    have h1 := hr 1 (by simp) (by omega)
    simp only [List.getElem_cons_zero, List.getElem_cons_succ] at h0 h1
    have e0 := h0.int
    refine ⟨cs[1], ?_, ?_⟩
    · congr 1
      apply Array.ext
      · simp [hl]
      · intro i h1 h2
        match i, h1 with
        | 0, _ => simpa using e0
        | 1, _ => rfl
        | i + 2, h1 => omega
    · generalize cs[1] = ev at h1
      cases h1 with
      | sl l A cap sz c h1 h2 hs ha hr =>
        simp only [List.length_map] at h1 hs ha hr ⊢
        refine ⟨⟨A, cap, rfl, h1, h2, fun i hi => ?_⟩, fun A' len cap' he hne => ?_⟩
        · have hsz : sz = 3 := by
            have := (hs i hi).1
            simp [Abs.PV.flat] at this
            omega
          subst hsz
          rcases ha with ha | ⟨b, off, rfl, hb, hc⟩
          · have : es.length = 0 := by simpa using congrArg List.length ha
            omega
          · refine ⟨b, off, rfl, ?_⟩
            have g0 := hr i hi 0 (by simp [Abs.PV.flat])
            have g1 := hr i hi 1 (by simp [Abs.PV.flat])
            have g2 := hr i hi 2 (by simp [Abs.PV.flat])
            simp [Abs.PV.flat] at g0 g1 g2
            refine ⟨?_, ?_, ?_⟩
            · have := hc i 0 hi (by omega)
              rw [g0.int] at this
              simpa using this
            · have := hc i 1 hi (by omega)
              rw [g1.int] at this
              exact this
            · have := hc i 2 hi (by omega)
              rw [g2.int] at this
              exact this
        · injection he with he1 _ _
          rcases ha with ha | ⟨b, off, hA, hb, _⟩
          · exact absurd (by simpa using ha) hne
          · rw [hA] at he1
            injection he1 with he1
            rw [← he1]
            exact hS b hb
theorem cellsP_get : ∀ (ps : List (Int × Int)) (i : Nat) (h : i < ps.length), (cellsP ps)[i * 2]? = some (.int .i64 ps[i].1) ∧ (cellsP ps)[i * 2 + 1]? = some (.int .i64 ps[i].2)
  | p :: ps, 0, _ => by simp [cellsP]
  | p :: ps, i + 1, h => by
    have := cellsP_get ps i (by simpa using h)
    have e : cellsP (p :: ps) = [.int .i64 p.1, .int .i64 p.2] ++ cellsP ps := rfl
    rw [e, List.getElem?_append_right (by simp; omega), List.getElem?_append_right (by simp; omega)]
    simp only [List.length_cons, List.length_nil, List.getElem_cons_succ]
    rw [show (i + 1) * 2 - (0 + 1 + 1) = i * 2 by omega, show (i + 1) * 2 + 1 - (0 + 1 + 1) = i * 2 + 1 by omega]
    exact this
theorem pairs_read {w : World} {B : Nat} {S : Nat → Prop} {φ : Nat → Option Nat} {v : Value} {ps : List (Int × Int)} (h : w.ownsRow B 55 2 v ps.length (cellsP ps)) : Abs.RP (Abs.Mem.shared ⟨w, [], φ, B, S⟩) w (.ps ps) v := by
  rcases h.2 with ⟨hv, hn⟩ | ⟨g, cap, cur, hv, hg, hh, hnc, hcm, hcs, htake⟩
  · rw [hv, List.length_eq_zero_iff.1 hn]
    exact .sl [] none 0 0 (fun _ _ => undef) (by simp) (by simp) (fun i h => by simp at h) (.inl rfl) (fun i h => by simp at h)
  · have := Abs.RP.sl (S := Abs.Mem.shared ⟨w, [], φ, B, S⟩) (w := w) (ps.map pP) (some ⟨g, 0, none⟩) cap 2 (fun i j => if j = 0 then .int .i64 ((ps[i]?.map (·.1)).getD 0) else .int .i64 ((ps[i]?.map (·.2)).getD 0)) (by simpa using hnc) hcm
      (fun i hi => by
        simp only [List.getElem_map]
        exact ⟨rfl, fun e he => by simp [Abs.PV.flat] at he; rcases he with rfl | rfl <;> rfl⟩)
      (.inr ⟨g, 0, rfl, ⟨lt_of_block hh, fun h => by dsimp only at h; omega, fun o ob h => by simp at h⟩, fun i j hi hj => by
        simp only [List.length_map] at hi
        rw [cell_of_row w g _ cur _ (0, 0) hh, Nat.zero_add]
        have hlen := h.1
        obtain ⟨c0, c1⟩ := cellsP_get ps i hi
        rw [← htake] at c0 c1
        have key : ∀ (m : Nat) (u : Value), (cur.toList.take (ps.length * 2))[m]? = some u → cur[m]? = some u := fun m u hm => by
          rw [List.getElem?_take] at hm
          split at hm
          · rwa [Array.getElem?_toList] at hm
          · cases hm
        match j, hj with
        | 0, _ => rw [Nat.add_zero, key _ _ c0]; simp [hi]
        | 1, _ => rw [key _ _ c1]; simp [hi]⟩)
      (fun i hi j hj => by
        simp only [List.length_map] at hi
        simp only [List.getElem_map, Abs.PV.flat] at hj ⊢
        match j, hj with
        | 0, _ => simp [hi]; exact .v _ rfl
        | 1, _ => simp [hi]; exact .v _ rfl)
    rw [hv]
    simpa using this
theorem gends_ok (N : Int) (es : List Ed) (hel : es.length ≤ 900) : Abs.PC Try.prog 66 [G N es] (.tup [.p (if gcheck N es = 0 then .ps (endsL es) else .nil), .i (gcheck N es)]) [] := by
  intro w S vs hvs
  obtain ⟨hl, hr⟩ := hvs
  match vs, hl with
  | [v], _ =>
    have hv := hr 0 (by simp) (by simp)
    simp only [List.getElem_cons_zero] at hv
    obtain ⟨ev, rfl, he, hlow⟩ := G_parts hv (fun b hb => hb.1)
    have hgrow : ∀ b, b < w.heap.size → (w.alloc (.cells #[.int .i64 N, ev] 24)).heap[b]? = w.heap[b]? := Abs.alloc_old w _
    have hC : Calls Try.prog 73 #[.agg #[.int .i64 N, ev]] (w.alloc (.cells #[.int .i64 N, ev] 24)) fun e w' => e = .returned (.int .i64 (gcheck N es)) ∧ Below (w.heap.size + 1) (w.alloc (.cells #[.int .i64 N, ev] 24)) w' := by
      refine (gcheck_ok' N es (by omega) (w.alloc (.cells #[.int .i64 N, ev] 24)) S [.agg #[.int .i64 N, ev]] ⟨rfl, fun i h1 h2 => ?_⟩).mono ?_
      · match i, h1 with
        | 0, _ => exact hv.mono fun b hb => ⟨⟨by simp; omega, hb.2⟩, hgrow b hb.1⟩
      · rintro en w' ⟨v', φ, rfl, _, hra, hb⟩
        refine ⟨?_, by simpa using hb⟩
        rw [hra.lit.1]
    have hM : ∀ w' : World, w.heap.size ≤ w'.heap.size → Abs.MemOk ⟨w', [], fun _ => none, w.heap.size, S⟩ := fun w' h => ⟨fun o ob h => by simp at h, fun o o' b h => by simp at h, fun o b h => by simp at h, h⟩
    by_cases hg : gcheck N es = 0
    · rw [hg] at hC ⊢
      refine (ends_good N ev es (gcheck_ok hg).right hel w he hlow hC).mono ?_
      rintro e w' ⟨v, rfl, hown, hb⟩
      refine ⟨_, fun _ => none, rfl, hM w' hb.size, .tup _ _ rfl (fun i h1 h2 => ?_), hb⟩
      match i, h1 with
      | 0, _ => exact .p _ _ (pairs_read hown)
      | 1, _ => exact .p _ _ (.v _ rfl)
    · refine (ends_err N ev _ hg w hC).mono ?_
      rintro e w' ⟨rfl, hb⟩
      refine ⟨_, fun _ => none, rfl, hM w' hb.size, .tup _ _ rfl (fun i h1 h2 => ?_), hb⟩
      rw [if_neg hg]
      match i, h1 with
      | 0, _ => exact .p _ _ (.v _ rfl)
      | 1, _ => exact .p _ _ (.v _ rfl)
end Go.Proofs.Ytheffllmccomiaa
