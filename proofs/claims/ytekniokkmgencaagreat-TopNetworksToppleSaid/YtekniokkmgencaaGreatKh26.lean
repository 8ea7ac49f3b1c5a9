/-
  Texts joined: Mua.
-/
import Derived.Test.YtekniokkmgencaaGreatKh25

section
namespace Go.Sand
structure Forest (F : List Int) (c : Nat → Nat) : Prop where
  len : F.length = 12
  par : ∀ v, v < 12 → ∃ p : Nat, F[v]? = some (p : Int) ∧ p ≤ v ∧ c p = c v ∧ (p = v → c v = v)
theorem Forest.le {F : List Int} {c : Nat → Nat} (h : Forest F c) : ∀ v, v < 12 → c v ≤ v ∧ c (c v) = c v := by
  intro v
  induction v using Nat.strongRecOn with
  | _ v ih =>
    intro hv
    obtain ⟨p, _, h2, h3, h4⟩ := h.par v hv
    by_cases e : p = v
    · have := h4 e
      rw [this]
      exact ⟨Nat.le_refl _, this⟩
    · obtain ⟨i1, i2⟩ := ih p (by omega) (by omega)
      rw [← h3]
      exact ⟨by omega, i2⟩
def joinC (c : Nat → Nat) (a b : Nat) : Nat → Nat := fun v => if c v = max (c a) (c b) then min (c a) (c b) else c v
theorem Forest.join {F : List Int} {c : Nat → Nat} (h : Forest F c) {a b : Nat} (ha : a < 12) (hb : b < 12) : Forest (F.set (max (c a) (c b)) ((min (c a) (c b) : Nat) : Int)) (joinC c a b) := by
  obtain ⟨a1, a2⟩ := h.le a ha
  obtain ⟨b1, b2⟩ := h.le b hb
  obtain ⟨M, hM⟩ : ∃ M, M = max (c a) (c b) := ⟨_, rfl⟩
  obtain ⟨m, hm⟩ : ∃ m, m = min (c a) (c b) := ⟨_, rfl⟩
  have hmM : m ≤ M := by omega
  have hM12 : M < 12 := by omega
  have cM : c M = M := by
    rcases Nat.le_total (c a) (c b) with e | e
    · rw [show M = c b by omega, b2]
    · rw [show M = c a by omega, a2]
  have cm : c m = m := by
    rcases Nat.le_total (c a) (c b) with e | e
    · rw [show m = c a by omega, a2]
    · rw [show m = c b by omega, b2]
  have hj : ∀ v, joinC c a b v = if c v = M then m else c v := fun v => by rw [joinC, ← hM, ← hm]
  rw [← hM, ← hm]
  refine ⟨by simp [h.len], fun v hv => ?_⟩
  by_cases e : v = M
  · subst e
    refine ⟨m, by simp [h.len, hv], hmM, ?_, fun e => ?_⟩
    · rw [hj, hj, cM, cm, if_pos rfl]
      split <;> rfl
    · rw [hj, cM, if_pos rfl, e]
  · obtain ⟨p, h1, h2, h3, h4⟩ := h.par v hv
    refine ⟨p, by rw [List.getElem?_set_ne (fun h => e h.symm)]; exact h1, h2, by rw [hj, hj, h3], fun e2 => ?_⟩
    have := h4 e2
    rw [hj, if_neg (by rw [this]; exact e), this]
def ufJ (es : List Ed) : List Int × (Nat → Nat) := es.foldl (fun s x => (s.1.set (max (s.2 x.a.toNat) (s.2 x.b.toNat)) ((min (s.2 x.a.toNat) (s.2 x.b.toNat) : Nat) : Int), joinC s.2 x.a.toNat x.b.toNat)) ((List.range 12).map fun i : Nat => (i : Int), id)
theorem ufJ_snoc (es : List Ed) (k : Nat) (h : k < es.length) : ufJ (es.take (k + 1)) = (((ufJ (es.take k)).1.set (max ((ufJ (es.take k)).2 es[k].a.toNat) ((ufJ (es.take k)).2 es[k].b.toNat)) ((min ((ufJ (es.take k)).2 es[k].a.toNat) ((ufJ (es.take k)).2 es[k].b.toNat) : Nat) : Int)),
    joinC (ufJ (es.take k)).2 es[k].a.toNat es[k].b.toNat) := by
  have e : es.take (k + 1) = es.take k ++ [es[k]] := by rw [List.take_add_one, List.getElem?_eq_getElem h]; rfl
  rw [e]
  unfold ufJ
  rw [List.foldl_append]
  rfl
theorem grown_forest : Forest ((List.range 12).map fun i : Nat => (i : Int)) id := by
  refine ⟨rfl, fun v hv => ⟨v, ?_, Nat.le_refl _, rfl, fun _ => rfl⟩⟩
  simp [hv]
theorem ufJ_forest {n : Int} {es : List Ed} (hn : n ≤ 12) (hr : ∀ x ∈ es, Right n x) : ∀ k, k ≤ es.length → Forest (ufJ (es.take k)).1 (ufJ (es.take k)).2
  | 0, _ => grown_forest
  | k + 1, hk => by
    have r := hr _ (List.getElem_mem (by omega : k < es.length))
    have h1 := r.a0
    have h2 := r.ab
    have h3 := r.bn
    rw [ufJ_snoc es k (by omega)]
    exact (ufJ_forest hn hr k (by omega)).join (by omega) (by omega)
def cls (es : List Ed) : Nat → Nat := (ufJ es).2
def rootsL (es : List Ed) (n : Nat) : List Nat := (List.range n).filter fun v => decide (cls es v = v)
end Go.Sand
/-
  Contracts: the forest of package connect.
-/
set_option linter.unusedSimpArgs false
set_option linter.unusedVariables false
namespace Go.Proofs.YtekniokkmgencaaGreat
open Go.Abs Go.Sand
abbrev boxF (F : List Int) : AO := .box (.p (.agg (F.map PV.i)))
theorem get_F {F : List Int} {v p : Nat} (h : F[v]? = some (p : Int)) : (F.map PV.i)[v]? = some (PV.i p) := by rw [List.getElem?_map, h]; rfl
theorem allP_map : ∀ l : List PV, allP (l.map AV.p) = some l
  | [] => rfl
  | x :: l => by simp [allP, allP_map l]
theorem putA_agg {H : List AO} {l : List PV} {j : Nat} {q : PV} (h : ∀ e ∈ l, e.one = true) (hq : q.one = true) (hj : j < l.length) (h2 : 2 ≤ l.length) : putA H (.p (.agg l)) j (.p q) = some (.p (.agg (l.set j q))) := by
  have hqf : (AV.p q).flat = [.p q] := by cases q <;> first | rfl | cases hq
  have hlf : (AV.p (.agg l)).flat = l.map AV.p := rfl
  unfold putA
  rw [hqf, hlf, if_neg (by simp; omega), if_pos ⟨hq, by simpa using hj⟩, ← List.map_set]
  unfold mkAgg
  rw [allP_map]
  dsimp only
  rw [if_pos]
  refine List.all_eq_true.2 fun e he => ?_
  obtain ⟨i, hi, rfl⟩ := List.mem_iff_getElem.1 he
  rw [List.getElem_set]
  split
  · exact hq
  · exact h _ (List.getElem_mem _)
theorem putA_ints {H : List AO} {F : List Int} {j : Nat} {n : Int} (hj : j < F.length) (h2 : 2 ≤ F.length) : putA H (.p (.agg (F.map PV.i))) j (.p (.v (.int .i64 n))) = some (.p (.agg ((F.set j n).map PV.i))) := by
  rw [putA_agg (fun e he => by obtain ⟨x, _, rfl⟩ := List.mem_map.1 he; rfl) rfl (by simpa using hj) (by simpa using h2), List.map_set]
attribute [local simp ↓ 10000] putA_ints
section
variable {F : List Int} {c : Nat → Nat} {H : List AO} {o : Nat} {R : AV → List AO → Prop}
theorem uroot_ok (hF : Forest F c) (ho : H[o]? = some (boxF F)) (v : Nat) (hv : v < 12) (hR : R (.i (c v)) H) : HC Tryz.prog false 112 [.ptr o 1 0 0, .i v] H R := by
  refine HC_of_W (af := _) ((by exact cfn112 : cfn _ _ _ = some _)) ?_
  simp -implicitDefEqProofs (disch := omega) [c112, List.getElem?_cons_zero, List.getElem?_cons_succ, wrap_id]
  refine loopW v (fun k s => ∃ u : Nat, s = ⟨[(1, .i u), (0, .ptr o 1 0 0), (4, .i 0)], H⟩ ∧ u + k ≤ v ∧ c u = c v) (Wk_keep [1, 0, 4]) ⟨v, rfl, by omega, rfl⟩ ?_
  rintro k s hk ⟨u, rfl, huk, hc⟩
  obtain ⟨p, h1, h2, h3, h4⟩ := hF.par u (by omega)
  have hg := get_F h1
  have hu : u < 12 := by omega
  by_cases e : p = u
  · have hcu := h4 e
    subst e
    simp -implicitDefEqProofs (disch := omega) [List.getElem?_cons_zero, List.getElem?_cons_succ, wrap_id, ho, hg, hu]
    exact finH trivial rfl (by rw [← hc, hcu] at hR; exact hR)
  · have e' : ¬ ((p : Int) = (u : Int)) := by omega
    simp -implicitDefEqProofs (disch := omega) [List.getElem?_cons_zero, List.getElem?_cons_succ, wrap_id, ho, hg, hu, e']
    exact round_keep [1, 0, 4] (by omega) ⟨p, rfl, by omega, by rw [h3]; exact hc⟩
theorem ujoin_ok (hF : Forest F c) (ho : H[o]? = some (boxF F)) (a b : Nat) (ha : a < 12) (hb : b < 12) (hR : R (.tup []) (H.set o (boxF (F.set (max (c a) (c b)) ((min (c a) (c b) : Nat) : Int))))) :
    HC Tryz.prog false 111 [.ptr o 1 0 0, .i a, .i b] H R := by
  refine HC_of_W (af := _) ((by exact cfn111 : cfn _ _ _ = some _)) ?_
  simp -implicitDefEqProofs (disch := omega) [c111, List.getElem?_cons_zero, List.getElem?_cons_succ, wrap_id]
  refine uroot_ok hF ho a ha ?_
  simp -implicitDefEqProofs (disch := omega) [List.getElem?_cons_zero, List.getElem?_cons_succ, wrap_id]
  refine uroot_ok hF ho b hb ?_
  obtain ⟨a1, _⟩ := hF.le a ha
  obtain ⟨b1, _⟩ := hF.le b hb
  have e1 : max (c a : Int) (c b) = ((max (c a) (c b) : Nat) : Int) := by omega
  have e2 : min (c a : Int) (c b) = ((min (c a) (c b) : Nat) : Int) := by omega
  obtain ⟨M, hM⟩ : ∃ M, M = max (c a) (c b) := ⟨_, rfl⟩
  rw [← hM] at e1 hR
  have hM12 : M < 12 := by omega
  have hl := hF.len
  simp -implicitDefEqProofs (disch := omega) [List.getElem?_cons_zero, List.getElem?_cons_succ, wrap_id, ho, e1, e2, hM12, hl]
  exact finH trivial rfl (by have h := hR; simp only [boxF, List.map_set] at h; exact h)
end
def gF (k : Nat) : List Int := (List.range 12).map fun j => if j < k then (j : Int) else 0
theorem gF_set (k : Nat) (h : k < 12) : (gF k).set k k = gF (k + 1) := by
  refine List.ext_getElem (by simp [gF]) fun i h1 h2 => ?_
  rw [List.getElem_set]
  simp only [gF, List.getElem_map, List.getElem_range]
  (repeat' split) <;> omega
theorem grown_ok : PC Tryz.prog 110 [] (.p (.agg (((List.range 12).map fun i : Nat => (i : Int)).map PV.i))) [] := by
  refine PC_of_W cfn110 ?_
  simp -implicitDefEqProofs (disch := omega) [c110, List.getElem?_cons_zero, List.getElem?_cons_succ, wrap_id]
  refine loopW 12 (fun k s => s = ⟨[(3, .i k), (1, .ptr 1 1 0 0), (0, .ptr 0 1 0 0)], [boxF (gF 0), boxF (gF k)]⟩) (wk_norm [0, 1] [3, 1, 0] rfl rfl) rfl ?_
  rintro k s hk rfl
  by_cases hlt : k < 12
  · have hl : (gF k).length = 12 := by simp [gF]
    have hs := congrArg (List.map PV.i) (gF_set k hlt)
    rw [List.map_set] at hs
    have hlt' : (k : Int) < 12 := by omega
    simp -implicitDefEqProofs (disch := omega) [List.getElem?_cons_zero, List.getElem?_cons_succ, wrap_id, hlt', hlt, hl, hs]
    exact round_end [0, 1] [3, 1, 0] hlt rfl rfl
  · have hk12 : k = 12 := by omega
    subst hk12
    have hl : (gF 12).length = 12 := rfl
    have hl0 : (gF 0).length = 12 := rfl
    simp -implicitDefEqProofs (disch := omega) [List.getElem?_cons_zero, List.getElem?_cons_succ, wrap_id, hl, hl0]
    exact fin1 [] trivial rfl rfl ⟨rfl, rfl⟩
theorem joinedF_ok (n : Nat) (es : List Ed) (hn : n ≤ 12) (hr : ∀ x ∈ es, Right n x) (hel : es.length ≤ 900) : PC Tryz.prog 103 [G n es] (.p (.agg ((ufJ es).1.map PV.i))) [] := by
  refine PC_of_W cfn103 ?_
  simp -implicitDefEqProofs (disch := omega) [c103, List.getElem?_cons_zero, List.getElem?_cons_succ, wrap_id]
  refine HC_of_PC rfl (grown_ok) ?_
  have hl0 : ((List.range 12).map fun i : Nat => (i : Int)).length = 12 := rfl
  simp -implicitDefEqProofs (disch := omega) [List.getElem?_cons_zero, List.getElem?_cons_succ, wrap_id, hl0]
  refine loopW es.length (fun k s => s = ⟨[(10, .i k), (9, .i es.length), (8, .p (.sl (es.map edP))), (3, .ptr 1 1 0 0), (2, .ptr 0 1 0 0)], [boxF (gF 0), boxF (ufJ (es.take k)).1]⟩) (wk_norm [1, 2] [10, 9, 8, 3, 2] rfl rfl) rfl ?_
  rintro k s hk rfl
  have hF := ufJ_forest (n := n) (by omega) hr k hk
  by_cases hlt : k < es.length
  · have r := hr _ (List.getElem_mem hlt)
    have h1 := r.a0
    have h2 := r.an
    have h3 := r.b0
    have h4 := r.bn
    have hsn := ufJ_snoc es k hlt
    obtain ⟨a, ha⟩ : ∃ a : Nat, es[k].a = a := ⟨es[k].a.toNat, by omega⟩
    obtain ⟨b, hb⟩ : ∃ b : Nat, es[k].b = b := ⟨es[k].b.toNat, by omega⟩
    rw [ha, hb] at hsn
    simp only [Int.toNat_natCast] at hsn
    simp -implicitDefEqProofs (disch := omega) [List.getElem?_cons_zero, List.getElem?_cons_succ, wrap_id, hlt, ha, hb]
    refine ujoin_ok hF (o := 1) rfl a b (by omega) (by omega) ?_
    simp -implicitDefEqProofs (disch := omega) [List.getElem?_cons_zero, List.getElem?_cons_succ, wrap_id]
    exact round_end [0, 1] [10, 9, 8, 3, 2] hlt rfl (by rw [hsn]; rfl)
  · have hl := hF.len
    have hl0 : (gF 0).length = 12 := rfl
    have hke : k = es.length := by omega
    subst hke
    rw [List.take_length] at hl ⊢
    simp -implicitDefEqProofs (disch := omega) [List.getElem?_cons_zero, List.getElem?_cons_succ, wrap_id, hl, hl0]
    exact fin1 [] (x := .p (.agg ((ufJ es).1.map PV.i))) trivial (by simp [resOf, Abs.resL, res1, hl]) rfl ⟨rfl, rfl⟩
end Go.Proofs.YtekniokkmgencaaGreat
/-
  Contracts: the parts of a forest; Components, Connected.
-/
set_option linter.unusedSimpArgs false
set_option linter.unusedVariables false
namespace Go.Proofs.YtekniokkmgencaaGreat
open Go.Abs Go.Sand
structure RowsAt (els : List AV) (T : List AO) (B k : Nat) : Prop where
  row : ∀ j (h : j < els.length), ∃ o l, els[j] = .os (o + B) 0 l.length ∧ T[o]? = some (.row l 1 3 false) ∧ l.length ≤ k
  inj : ∀ i j (hi : i < els.length) (hj : j < els.length) (o n m : Nat), els[i] = .os (o + B) 0 n → els[j] = .os (o + B) 0 m → i = j
def placeL (es : List Ed) (k : Nat) : List (KV × AV) := (rootsL es k).zipIdx.map fun p => (.ki .i64 p.1, .i p.2)
theorem rootsL_succ (es : List Ed) (k : Nat) : rootsL es (k + 1) = if cls es k = k then rootsL es k ++ [k] else rootsL es k := by
  simp only [rootsL, List.range_succ, List.filter_append]
  by_cases h : cls es k = k <;> simp [h]
theorem placeL_succ (es : List Ed) (k : Nat) : placeL es (k + 1) = if cls es k = k then placeL es k ++ [(.ki .i64 k, .i (rootsL es k).length)] else placeL es k := by
  unfold placeL
  rw [rootsL_succ]
  split
  · simp [List.zipIdx_append]
  · rfl
theorem dIdx_zip : ∀ (l : List Nat) (v i : Nat), (v ∈ l → ∃ j, dIdx (.ki .i64 v) ((l.zipIdx i).map fun p => ((.ki .i64 p.1, .i p.2) : KV × AV)) = some j ∧ j < l.length ∧ ((l.zipIdx i).map fun p => ((.ki .i64 p.1, .i p.2) : KV × AV))[j]? = some (.ki .i64 v, .i (i + j : Nat))) ∧
    (v ∉ l → dIdx (.ki .i64 v) ((l.zipIdx i).map fun p => ((.ki .i64 p.1, .i p.2) : KV × AV)) = none)
  | [], v, i => ⟨(fun h => by cases h), fun _ => rfl⟩
  | x :: l, v, i => by
    obtain ⟨h1, h2⟩ := dIdx_zip l v (i + 1)
    simp only [List.zipIdx_cons, List.map_cons, dIdx]
    by_cases e : x = v
    · subst e
      refine ⟨fun _ => ⟨0, by simp, by simp, by simp⟩, fun h => absurd (by simp) h⟩
    · have e' : ¬ ((KV.ki IntKind.i64 (x : Int)) = KV.ki IntKind.i64 (v : Int)) := by simp; omega
      rw [if_neg e']
      refine ⟨fun h => ?_, fun h => ?_⟩
      · obtain ⟨j, k1, k2, k3⟩ := h1 ((List.mem_cons.1 h).resolve_left fun h => e h.symm)
        refine ⟨j + 1, by rw [k1]; rfl, by simp; omega, ?_⟩
        rw [List.getElem?_cons_succ, k3]
        simp
        omega
      · rw [h2 (fun h' => h (List.mem_cons_of_mem _ h'))]; rfl
theorem place_at {es : List Ed} {k v : Nat} (h : v ∈ rootsL es k) : ∃ j, dIdx (.ki .i64 v) (placeL es k) = some j ∧ j < (rootsL es k).length ∧ (placeL es k)[j]? = some (.ki .i64 v, .i (j : Nat)) := by
  obtain ⟨j, h1, h2, h3⟩ := (dIdx_zip (rootsL es k) v 0).1 h
  exact ⟨j, h1, h2, by rw [Nat.zero_add] at h3; exact h3⟩
theorem place_not {es : List Ed} {k : Nat} : dIdx (.ki .i64 (k : Int)) (placeL es k) = none := by
  refine (dIdx_zip (rootsL es k) k 0).2 fun h => ?_
  have := (List.mem_filter.1 h).1
  simp at this
theorem RowsAt.put {els : List AV} {T T' : List AO} {B k j o : Nat} {l : List PV} {x : PV} (h : RowsAt els T B k) (hj : j < els.length) (he : els[j] = .os (o + B) 0 l.length) (hT : T[o]? = some (.row l 1 3 false)) (hl : l.length ≤ k) (hle : ∀ (i : Nat) (ob : AO), T[i]? = some ob → i ≠ o → T'[i]? = some ob)
    (hn : T'[o]? = some (.row (l ++ [x]) 1 3 false)) : RowsAt (els.set j (.os (o + B) 0 (l.length + 1))) T' B (k + 1) := by
  refine ⟨fun i hi0 => ?_, fun i i' hi0 hi0' o' n m h1 h2 => ?_⟩
  · have hi : i < els.length := by simpa using hi0
    rw [List.getElem_set]
    split
    · exact ⟨o, l ++ [x], by simp, hn, by simp; omega⟩
    · rename_i hne
      obtain ⟨o', l', a1, a2, a3⟩ := h.row i hi
      refine ⟨o', l', a1, hle o' _ a2 (fun e => ?_), by omega⟩
      subst e
      exact hne (h.inj j i hj hi o' _ _ he a1)
  · have hi : i < els.length := by simpa using hi0
    have hi' : i' < els.length := by simpa using hi0'
    rw [List.getElem_set] at h1 h2
    split at h1 <;> split at h2
    · omega
    · rename_i e1 e2
      injection h1 with h1 _ _
      rw [← h1] at h2
      exact absurd (h.inj j i' hj hi' o _ _ he h2) e2
    · rename_i e1 e2
      injection h2 with h2 _ _
      rw [← h2] at h1
      exact absurd (h.inj j i hj hi o _ _ he h1) e1
    · exact h.inj i i' hi hi' o' n m h1 h2
theorem RowsAt.new {els : List AV} {T T' : List AO} {B k o : Nat} {x : PV} (h : RowsAt els T B k) (ho : T.length ≤ o) (hle : ∀ (i : Nat) (ob : AO), T[i]? = some ob → T'[i]? = some ob) (hn : T'[o]? = some (.row [x] 1 3 false)) : RowsAt (els ++ [.os (o + B) 0 1]) T' B (k + 1) := by
  have old : ∀ i (hi : i < els.length), ∃ o' l, els[i] = .os (o' + B) 0 l.length ∧ o' < T.length ∧ T'[o']? = some (.row l 1 3 false) ∧ l.length ≤ k := fun i hi => by
    obtain ⟨o', l, a1, a2, a3⟩ := h.row i hi
    exact ⟨o', l, a1, (List.getElem?_eq_some_iff.1 a2).1, hle _ _ a2, a3⟩
  refine ⟨fun i hi => ?_, fun i i' hi hi' o' n m h1 h2 => ?_⟩
  · by_cases hlt : i < els.length
    · rw [List.getElem_append_left hlt]
      obtain ⟨o', l, a1, _, a2, a3⟩ := old i hlt
      exact ⟨o', l, a1, a2, by omega⟩
    · refine ⟨o, [x], ?_, hn, by simp⟩
      rw [List.getElem_append_right (by omega)]
      simp
  · simp only [List.length_append, List.length_singleton] at hi hi'
    by_cases c1 : i < els.length <;> by_cases c2 : i' < els.length
    · rw [List.getElem_append_left c1] at h1
      rw [List.getElem_append_left c2] at h2
      exact h.inj i i' c1 c2 o' n m h1 h2
    · rw [List.getElem_append_left c1] at h1
      rw [List.getElem_append_right (by omega)] at h2
      simp at h2
      obtain ⟨o2, l, a1, a2, _⟩ := old i c1
      rw [a1] at h1
      injection h1 with h1 _ _
      omega
    · rw [List.getElem_append_left c2] at h2
      rw [List.getElem_append_right (by omega)] at h1
      simp at h1
      obtain ⟨o2, l, a1, a2, _⟩ := old i' c2
      rw [a1] at h2
      injection h2 with h2 _ _
      omega
    · omega
theorem dIdx_push {kv : KV} {x : AV} : ∀ (es : List (KV × AV)), dIdx kv es = none → dIdx kv (es ++ [(kv, x)]) = some es.length
  | [], _ => by simp [dIdx]
  | y :: es, h => by
    simp only [dIdx] at h
    split at h
    · cases h
    · rename_i hne
      simp only [Option.map_eq_none_iff] at h
      simp only [List.cons_append, dIdx, if_neg hne, dIdx_push es h, List.length_cons]
      rfl
theorem wf_small {v : Nat} (h : v ≤ 1000000) : (Lit.int .i64 (v : Int)).wf = true := by
  have e1 : IntKind.i64.min = -9223372036854775808 := rfl
  have e2 : IntKind.i64.max = 9223372036854775807 := rfl
  simp [Lit.wf, e1, e2]
  omega
def PartsR (es : List Ed) (n : Nat) (b0 : AO) (F : List Int) (r : AV) (H' : List AO) : Prop := ∃ els T, r = .os 3 0 els.length ∧ H' = b0 :: boxF F :: .dict (.int .i64) (placeL es n) :: .tab els 25 false :: T ∧ els.length = (rootsL es n).length ∧ RowsAt els T 4 n
theorem uparts_ok (n : Nat) (es : List Ed) (hn : n ≤ 12) (b0 : AO) (F : List Int) (hF : Forest F (cls es)) : HC Tryz.prog false 104 [.ptr 1 1 0 0, .i n] [b0, boxF F] (PartsR es n b0 F) := by
  refine HC_of_W (af := _) ((by exact cfn104 : cfn _ _ _ = some _)) ?_
  simp -implicitDefEqProofs (disch := omega) [c104, List.getElem?_cons_zero, List.getElem?_cons_succ, wrap_id]
  refine loopW n (fun k s => ∃ els T, s = ⟨[(5, .os 3 0 els.length), (6, .mp 2), (0, .ptr 1 1 0 0), (10, .i n), (11, .i k)], b0 :: boxF F :: .dict (.int .i64) (placeL es k) :: .tab els 25 false :: T⟩ ∧ els.length = (rootsL es k).length ∧ RowsAt els T 4 k)
    ((Wk_nilT 5 25 rfl).trans (Wk_keep [5, 6, 0, 10, 11])) ⟨[], [], rfl, rfl, fun j h => by simp at h, fun i j hi => by simp at hi⟩ ?_
  rintro k s hk ⟨els, T, rfl, hlen, hR⟩
  by_cases hlt : k < n
  · obtain ⟨c1, c2⟩ := hF.le k (by omega)
    have hwf : (Lit.int .i64 ((cls es k : Nat) : Int)).wf = true := wf_small (by omega)
    have hmem : cls es k ∈ rootsL es (k + 1) := by simp [rootsL, c2]; omega
    obtain ⟨j, hj1, hj2, hj3⟩ := place_at hmem
    by_cases hr : cls es k = k
    · rw [hr] at hwf
      have e1 : placeL es k ++ [(.ki .i64 (k : Int), .i (els.length : Nat))] = placeL es (k + 1) := by rw [placeL_succ, if_pos hr, hlen]
      have e2 : rootsL es (k + 1) = rootsL es k ++ [k] := by rw [rootsL_succ, if_pos hr]
      have hno := place_not (es := es) (k := k)
      have hpl : (placeL es k).length = els.length := by simp [placeL, hlen]
      have hd1 : dIdx (.ki .i64 (k : Int)) (placeL es (k + 1)) = some els.length := by rw [← e1, dIdx_push _ hno, hpl]
      have hd2 : (placeL es (k + 1))[els.length]? = some (.ki .i64 (k : Int), .i (els.length : Nat)) := by rw [← e1, ← hpl]; simp
      have hla : ∀ r : AO, (T ++ [r])[T.length]? = some r := fun r => by simp
      have hl2 : ∀ r q : AO, (T ++ [r, q])[T.length + 1]? = some q := fun r q => by simp
      have hl3 : ∀ r q u : AO, (T ++ [r, q, u])[T.length + 2]? = some u := fun r q u => by simp
      have hle : ∀ x : AV, (els ++ [x])[els.length]? = some x := fun x => by simp
      have hse : ∀ x y : AV, (els ++ [x]).set els.length y = els ++ [y] := fun x y => by simp
      have hbd : els.length ≤ 1048575 := by
        have : (rootsL es k).length ≤ k := by have := List.length_filter_le (fun v => decide (cls es v = v)) (List.range k); simpa [rootsL] using this
        omega
      simp -implicitDefEqProofs (disch := omega) [List.getElem?_cons_zero, List.getElem?_cons_succ, wrap_id, hlt]
      refine uroot_ok hF (o := 1) rfl k (by omega) ?_
      have hfin := hR.new (o := T.length + 2) (x := PV.v (.int .i64 k)) (T' := T ++ [AO.tab [AV.p (PV.v (Value.slice none 0 0))] 25 false, AO.row [PV.v (.int .i64 k)] 1 3 false, AO.row [PV.v (.int .i64 k)] 1 3 false]) (by omega)
        (fun i ob hi => by rw [List.getElem?_append_left (List.getElem?_eq_some_iff.1 hi).1]; exact hi) (hl3 _ _ _)
      simp -implicitDefEqProofs (disch := omega) [List.getElem?_cons_zero, List.getElem?_cons_succ, wrap_id, hr, hwf, hno, e1, hd1, hd2, hla, hl2, hl3, hle, hse, hbd]
      refine tree_all ?_
      simp -implicitDefEqProofs (disch := omega) [List.getElem?_cons_zero, List.getElem?_cons_succ, wrap_id, hr, hwf, hno, e1, hd1, hd2, hla, hl2, hl3, hle, hse, hbd]
      refine ⟨?_, ?_, ?_⟩ <;> exact round_keep [5, 6, 0, 10, 11] hlt ⟨_, _, by rw [List.length_append]; rfl, by rw [e2, List.length_append, List.length_append, hlen]; rfl, hfin⟩
    · have hr' : ¬ ((cls es k : Nat) : Int) = (k : Int) := by omega
      have e1 : placeL es (k + 1) = placeL es k := by rw [placeL_succ, if_neg hr]
      have e2 : rootsL es (k + 1) = rootsL es k := by rw [rootsL_succ, if_neg hr]
      rw [e1] at hj1 hj3
      rw [e2, ← hlen] at hj2
      obtain ⟨o, l, ho1, ho2, ho3⟩ := hR.row j hj2
      have hej : els[j]? = some (.os (o + 4) 0 l.length) := by rw [List.getElem?_eq_getElem hj2, ho1]
      have hTo : ∀ r : AO, (T ++ [r])[o]? = some (.row l 1 3 false) := fun r => by rw [List.getElem?_append_left (List.getElem?_eq_some_iff.1 ho2).1]; exact ho2
      simp -implicitDefEqProofs (disch := omega) [List.getElem?_cons_zero, List.getElem?_cons_succ, wrap_id, hlt]
      refine uroot_ok hF (o := 1) rfl k (by omega) ?_
      have hla : ∀ r : AO, (T ++ [r])[T.length]? = some r := fun r => by simp
      have hbd : l.length ≤ 1048575 := by omega
      have hTl := (List.getElem?_eq_some_iff.1 ho2).1
      have hso : ∀ r q : AO, (T.set o q ++ [r])[o]? = some q := fun r q => by rw [List.getElem?_append_left (by simpa using hTl), List.getElem?_set_self hTl]
      have hfin := hR.put (T' := T.set o (.row (l ++ [PV.v (.int .i64 k)]) 1 3 false) ++ [AO.row [PV.v (.int .i64 k)] 1 3 false]) (x := PV.v (.int .i64 k)) hj2 ho1 ho2 ho3
        (fun i ob hi hne => by rw [List.getElem?_append_left (by simpa using (List.getElem?_eq_some_iff.1 hi).1), List.getElem?_set_ne (fun e => hne e.symm)]; exact hi) (hso _ _)
      simp -implicitDefEqProofs (disch := omega) [List.getElem?_cons_zero, List.getElem?_cons_succ, wrap_id, hr', hwf, hj1, hj3, hj2, ho1, hTo, hbd, hla, hso]
      refine tree_all ?_
      simp -implicitDefEqProofs (disch := omega) [List.getElem?_cons_zero, List.getElem?_cons_succ, wrap_id, hr', hwf, hj1, hj3, hj2, ho1, hTo, hbd, hla, hso]
      refine ⟨?_, ?_, ?_⟩ <;> exact round_keep [5, 6, 0, 10, 11] hlt ⟨_, _, by rw [e1, List.length_set]; rfl, by rw [e2, List.length_set]; exact hlen, hfin⟩
  · have hkn : k = n := by omega
    subst hkn
    simp -implicitDefEqProofs (disch := omega) [List.getElem?_cons_zero, List.getElem?_cons_succ, wrap_id]
    exact finH trivial rfl ⟨els, T, rfl, rfl, hlen, hR⟩
end Go.Proofs.YtekniokkmgencaaGreat
/-
  Contracts: Components, Connected.
-/
set_option linter.unusedSimpArgs false
set_option linter.unusedVariables false
namespace Go.Proofs.YtekniokkmgencaaGreat
open Go.Abs Go.Sand
theorem allOne_map {α : Type} (f : α → AV) : ∀ (L : List α), (∀ x ∈ L, ∃ q : PV, f x = .p q ∧ q.one = true) → ∃ ps : List PV, ps.length = L.length ∧ allOne (L.map f) = some ps
  | [], _ => ⟨[], rfl, rfl⟩
  | x :: L, h => by
    obtain ⟨q, hq, ho⟩ := h x (by simp)
    obtain ⟨ps, hl, hps⟩ := allOne_map f L (fun y hy => h y (by simp [hy]))
    obtain ⟨e1, e2⟩ := allOne_ok hps
    refine ⟨q :: ps, by simp [hl], ?_⟩
    unfold allOne
    rw [List.map_cons, hq, e1]
    have : allP (AV.p q :: ps.map AV.p) = some (q :: ps) := by rw [allP, allP_map]; rfl
    rw [this]
    dsimp only
    rw [if_pos (by simp only [List.all_cons, ho, Bool.true_and, List.all_eq_true]; exact e2)]
theorem rows_read {els : List AV} {T : List AO} {k : Nat} (h : RowsAt els T 4 k) (a b c d : AO) : ∃ ps : List PV, ps.length = els.length ∧ allOne (els.map (ren0 (a :: b :: c :: d :: T) (idx [] 0))) = some ps :=
  allOne_map _ els fun x hx => by
    obtain ⟨j, hj, rfl⟩ := List.mem_iff_getElem.1 hx
    obtain ⟨o, l, h1, h2, _⟩ := h.row j hj
    refine ⟨.sl l, ?_, rfl⟩
    rw [h1]
    have : (a :: b :: c :: d :: T)[o + 4]? = some (.row l 1 3 false) := by simpa using h2
    unfold ren0
    simp only [Abs.idx, this]
    simp
theorem components_err (N : Int) (es : List Ed) (hel : es.length ≤ 900) (hg : gcheck N es ≠ 0) : PC Tryz.prog 89 [G N es] (.tup [.p .nil, .i (gcheck N es)]) [] := by
  refine PC_of_W cfn89 ?_
  simp -implicitDefEqProofs (disch := omega) [c89, List.getElem?_cons_zero, List.getElem?_cons_succ, wrap_id]
  refine HC_of_PC rfl (gcheck_ok' N es (by omega)) ?_
  simp -implicitDefEqProofs (disch := omega) [List.getElem?_cons_zero, List.getElem?_cons_succ, wrap_id, hg]
  (refine fin0 trivial rfl ?_; simp -implicitDefEqProofs (disch := omega) [List.getElem?_cons_zero, List.getElem?_cons_succ, idx, wrap_id])
theorem components_ok (n : Nat) (es : List Ed) (hel : es.length ≤ 900) (hg : gcheck n es = 0) : PCR Tryz.prog 89 [G n es] fun r HR => ∃ ps : List PV, ps.length = (rootsL es n).length ∧ r = .tup [.p (.sl ps), .i 0] ∧ HR = [] := by
  have hgg := gcheck_ok hg
  have hn := hgg.n12
  have hF := ufJ_forest (n := n) (by omega) hgg.right es.length (Nat.le_refl _)
  rw [List.take_length] at hF
  have hl := hF.len
  refine PCR_of_W cfn89 ?_
  simp -implicitDefEqProofs (disch := omega) [c89, List.getElem?_cons_zero, List.getElem?_cons_succ, wrap_id]
  refine HC_of_PC rfl (gcheck_ok' n es (by omega)) ?_
  simp -implicitDefEqProofs (disch := omega) [List.getElem?_cons_zero, List.getElem?_cons_succ, wrap_id, hg]
  refine HC_of_PC rfl (joinedF_ok n es (by omega) hgg.right hel) ?_
  simp -implicitDefEqProofs (disch := omega) [List.getElem?_cons_zero, List.getElem?_cons_succ, wrap_id, hl]
  refine (uparts_ok n es (by omega) _ _ hF).mono ?_
  rintro r H' ⟨els, T, rfl, rfl, hlen, hR⟩
  obtain ⟨ps, hps1, hps2⟩ := rows_read hR (.box (.p (G n es))) (boxF (ufJ es).1) (.dict (.int .i64) (placeL es n)) (.tab els 25 false)
  have e : AV.ren (.box (.p (G n es)) :: boxF (ufJ es).1 :: .dict (.int .i64) (placeL es n) :: .tab els 25 false :: T) (Abs.idx [] 0) (.os 3 0 els.length) = .p (.sl ps) := by
    rw [AV.ren]
    simp only [show Abs.idx [] 0 3 = none from rfl, List.getElem?_cons_succ, List.getElem?_cons_zero, hps2, Nat.zero_add, if_true, List.drop_zero]
  simp -implicitDefEqProofs (disch := omega) [List.getElem?_cons_zero, List.getElem?_cons_succ, wrap_id]
  refine fin0R (x := .tup [.os 3 0 els.length, .i 0]) trivial rfl ⟨ps, by rw [hps1, hlen], ?_, rfl⟩
  rw [AV.ren, renL, renL, renL, e, AV.ren]
theorem connected_err (N : Int) (es : List Ed) (hel : es.length ≤ 900) (hg : gcheck N es ≠ 0) : PC Tryz.prog 59 [G N es] (.tup [.b false, .i (gcheck N es)]) [] := by
  refine PC_of_W cfn59 ?_
  simp -implicitDefEqProofs (disch := omega) [c59, List.getElem?_cons_zero, List.getElem?_cons_succ, wrap_id]
  refine HC_of_PC rfl (components_err N es hel hg) ?_
  simp -implicitDefEqProofs (disch := omega) [List.getElem?_cons_zero, List.getElem?_cons_succ, wrap_id]
  (refine fin0 trivial rfl ?_; simp -implicitDefEqProofs (disch := omega) [List.getElem?_cons_zero, List.getElem?_cons_succ, idx, wrap_id])
theorem connected_ok (n : Nat) (es : List Ed) (hel : es.length ≤ 900) (hg : gcheck n es = 0) : PC Tryz.prog 59 [G n es] (.tup [.b (decide ((rootsL es n).length = 1)), .i 0]) [] := by
  refine PC_of_W cfn59 ?_
  simp -implicitDefEqProofs (disch := omega) [c59, List.getElem?_cons_zero, List.getElem?_cons_succ, wrap_id]
  refine HC_of_PCR rfl (components_ok n es hel hg) ?_
  rintro r HR ⟨ps, hps, rfl, rfl⟩
  have hq : (((rootsL es n).length : Int) = 1) = ((rootsL es n).length = 1) := by simp only [eq_iff_iff]; omega
  simp -implicitDefEqProofs (disch := omega) [List.getElem?_cons_zero, List.getElem?_cons_succ, wrap_id]
  (refine fin0 trivial rfl ?_; simp -implicitDefEqProofs (disch := omega) [List.getElem?_cons_zero, List.getElem?_cons_succ, idx, wrap_id, hps, hq])
end Go.Proofs.YtekniokkmgencaaGreat
/-
  The reference's reach, plain: and that it is the class.
-/
set_option linter.unusedVariables false
namespace Go.Sand
def bitAt (es : List Ed) (a b : Nat) (o : List Bool) : List Bool := if o.getD a false = true ∧ 0 < betw es (min (a : Int) b) (max (a : Int) b) then o.set b true else o
def rowR (es : List Ed) (a k : Nat) (o : List Bool) : List Bool := (List.range k).foldl (fun o b => bitAt es a b o) o
def midR (n : Nat) (es : List Ed) (k : Nat) (o : List Bool) : List Bool := (List.range k).foldl (fun o a => rowR es a n o) o
def reachR (n : Nat) (es : List Ed) (v k : Nat) : List Bool := (List.range k).foldl (fun o _ => midR n es n o) ((List.replicate n false).set v true)
theorem rowR_succ (es : List Ed) (a k : Nat) (o : List Bool) : rowR es a (k + 1) o = bitAt es a k (rowR es a k o) := by simp [rowR, List.range_succ, List.foldl_append]
theorem midR_succ (n : Nat) (es : List Ed) (k : Nat) (o : List Bool) : midR n es (k + 1) o = rowR es k n (midR n es k o) := by simp [midR, List.range_succ, List.foldl_append]
theorem reachR_succ (n : Nat) (es : List Ed) (v k : Nat) : reachR n es v (k + 1) = midR n es n (reachR n es v k) := by simp [reachR, List.range_succ, List.foldl_append]
theorem bitAt_length (es : List Ed) (a b : Nat) (o : List Bool) : (bitAt es a b o).length = o.length := by unfold bitAt; split <;> simp
theorem rowR_length (es : List Ed) (a k : Nat) (o : List Bool) : (rowR es a k o).length = o.length := by
  induction k with
  | zero => rfl
  | succ k ih => rw [rowR_succ, bitAt_length, ih]
theorem midR_length (n : Nat) (es : List Ed) (k : Nat) (o : List Bool) : (midR n es k o).length = o.length := by
  induction k with
  | zero => rfl
  | succ k ih => rw [midR_succ, rowR_length, ih]
theorem reachR_length (n : Nat) (es : List Ed) (v k : Nat) : (reachR n es v k).length = n := by
  induction k with
  | zero => simp [reachR]
  | succ k ih => rw [reachR_succ, midR_length, ih]
def adj (es : List Ed) (a b : Nat) : Prop := 0 < betw es (min (a : Int) b) (max (a : Int) b)
def inS (o : List Bool) (v : Nat) : Prop := o.getD v false = true
theorem inS_set {o : List Bool} {b v : Nat} (hb : b < o.length) : inS (o.set b true) v ↔ v = b ∨ inS o v := by
  unfold inS
  rw [List.getD_eq_getElem?_getD, List.getD_eq_getElem?_getD]
  by_cases e : b = v
  · subst e; simp [hb]
  · rw [List.getElem?_set_ne e]
    exact ⟨.inr, fun h => h.resolve_left fun h => e h.symm⟩
theorem bitAt_mono {es : List Ed} {a b : Nat} {o : List Bool} (hb : b < o.length) {v : Nat} (h : inS o v) : inS (bitAt es a b o) v := by
  unfold bitAt
  split
  · exact (inS_set hb).2 (.inr h)
  · exact h
theorem bitAt_sound {es : List Ed} {a b : Nat} {o : List Bool} (hb : b < o.length) {v : Nat} (h : inS (bitAt es a b o) v) : inS o v ∨ (inS o a ∧ adj es a b ∧ v = b) := by
  unfold bitAt at h
  split at h
  · rename_i hc
    rcases (inS_set hb).1 h with e | h
    · exact .inr ⟨hc.1, hc.2, e⟩
    · exact .inl h
  · exact .inl h
theorem bitAt_hit {es : List Ed} {a b : Nat} {o : List Bool} (hb : b < o.length) (ha : inS o a) (hab : adj es a b) : inS (bitAt es a b o) b := by
  unfold bitAt
  rw [if_pos ⟨ha, hab⟩]
  exact (inS_set hb).2 (.inl rfl)
theorem rowR_mono {es : List Ed} {a : Nat} {o : List Bool} {n : Nat} (hn : o.length = n) {k k' : Nat} (hk : k ≤ k') (hk' : k' ≤ n) {v : Nat} (h : inS (rowR es a k o) v) : inS (rowR es a k' o) v := by
  induction k' with
  | zero => rw [show k = 0 by omega] at h; exact h
  | succ m ih =>
    by_cases e : k = m + 1
    · rw [← e]; exact h
    · rw [rowR_succ]
      exact bitAt_mono (by rw [rowR_length]; omega) (ih (by omega) (by omega))
theorem midR_mono {es : List Ed} {o : List Bool} {n : Nat} (hn : o.length = n) {k k' : Nat} (hk : k ≤ k') (hk' : k' ≤ n) {v : Nat} (h : inS (midR n es k o) v) : inS (midR n es k' o) v := by
  induction k' with
  | zero => rw [show k = 0 by omega] at h; exact h
  | succ m ih =>
    by_cases e : k = m + 1
    · rw [← e]; exact h
    · rw [midR_succ]
      exact rowR_mono (k := 0) (by rw [midR_length]; exact hn) (Nat.zero_le _) (Nat.le_refl _) (ih (by omega) (by omega))
theorem rowR_inv {P : Nat → Prop} {es : List Ed} {a : Nat} {o : List Bool} {n : Nat} (hn : o.length = n) (ho : ∀ v, inS o v → P v) (ha : ∀ b, b < n → P a → adj es a b → P b) : ∀ k, k ≤ n → ∀ v, inS (rowR es a k o) v → P v
  | 0, _, v, h => ho v h
  | k + 1, hk, v, h => by
    rw [rowR_succ] at h
    rcases bitAt_sound (by rw [rowR_length]; omega) h with h | ⟨h1, h2, e⟩
    · exact rowR_inv hn ho ha k (by omega) v h
    · rw [e]; exact ha k (by omega) (rowR_inv hn ho ha k (by omega) a h1) h2
theorem midR_inv {P : Nat → Prop} {es : List Ed} {o : List Bool} {n : Nat} (hn : o.length = n) (ho : ∀ v, inS o v → P v) (ha : ∀ a b, a < n → b < n → P a → adj es a b → P b) : ∀ k, k ≤ n → ∀ v, inS (midR n es k o) v → P v
  | 0, _, v, h => ho v h
  | k + 1, hk, v, h => by
    rw [midR_succ] at h
    exact rowR_inv (by rw [midR_length]; exact hn) (midR_inv hn ho ha k (by omega)) (fun b hb => ha k b (by omega) hb) n (Nat.le_refl _) v h
theorem reachR_inv {P : Nat → Prop} {es : List Ed} {n v : Nat} (hv : v < n) (h0 : P v) (ha : ∀ a b, a < n → b < n → P a → adj es a b → P b) : ∀ k u, inS (reachR n es v k) u → P u
  | 0, u, h => by
    rcases (inS_set (by simpa using hv)).1 (show inS ((List.replicate n false).set v true) u from h) with e | h
    · rw [e]; exact h0
    · unfold inS at h
      rw [List.getD_eq_getElem?_getD, List.getElem?_replicate] at h
      split at h <;> simp at h
  | k + 1, u, h => by
    rw [reachR_succ] at h
    exact midR_inv (reachR_length n es v k) (reachR_inv hv h0 ha k) ha n (Nat.le_refl _) u h
theorem reachR_self {es : List Ed} {n v : Nat} (hv : v < n) : ∀ k, inS (reachR n es v k) v
  | 0 => (inS_set (by simpa using hv)).2 (.inl rfl)
  | k + 1 => by
    rw [reachR_succ]
    exact midR_mono (k := 0) (reachR_length n es v k) (Nat.zero_le _) (Nat.le_refl _) (reachR_self hv k)
theorem round_closed {es : List Ed} {o : List Bool} {n : Nat} (hn : o.length = n) (h : ∀ v, inS (midR n es n o) v → inS o v) {a b : Nat} (ha : a < n) (hb : b < n) (hia : inS o a) (hab : adj es a b) : inS o b := by
  refine h b ?_
  refine midR_mono (k := a + 1) hn (by omega) (Nat.le_refl _) ?_
  rw [midR_succ]
  refine rowR_mono (k := b + 1) (by rw [midR_length]; exact hn) (by omega) (Nat.le_refl _) ?_
  rw [rowR_succ]
  refine bitAt_hit (by rw [rowR_length, midR_length]; omega) ?_ hab
  exact rowR_mono (n := n) (k := 0) (by rw [midR_length]; exact hn) (Nat.zero_le _) (by omega) (midR_mono (k := 0) hn (Nat.zero_le _) (by omega) hia)
def cnt (o : List Bool) : Nat := o.count true
theorem cnt_le {o : List Bool} : cnt o ≤ o.length := List.count_le_length
theorem cnt_mono : ∀ {o o' : List Bool}, o.length = o'.length → (∀ v, inS o v → inS o' v) → cnt o ≤ cnt o' ∧ (cnt o = cnt o' → o = o')
  | [], [], _, _ => ⟨Nat.le_refl _, fun _ => rfl⟩
  | x :: o, y :: o', hl, h => by
    obtain ⟨h1, h2⟩ := cnt_mono (o := o) (o' := o') (by simpa using hl) (fun v hv => by
      have := h (v + 1) (by simpa [inS] using hv)
      simpa [inS] using this)
    have h0 := h 0
    simp only [inS, List.getD_cons_zero] at h0
    unfold cnt at *
    cases x <;> cases y <;> simp at h0 ⊢
    · exact ⟨h1, h2⟩
    · refine ⟨by omega, by omega⟩
    · exact ⟨h1, h2⟩
theorem reachR_grows {es : List Ed} {n v : Nat} (k : Nat) : ∀ u, inS (reachR n es v k) u → inS (reachR n es v (k + 1)) u := fun u h => by
  rw [reachR_succ]
  exact midR_mono (k := 0) (reachR_length n es v k) (Nat.zero_le _) (Nat.le_refl _) h
theorem reach_stop {es : List Ed} {n v : Nat} (hv : v < n) : ∀ k, k < cnt (reachR n es v k) ∨ reachR n es v (k + 1) = reachR n es v k
  | 0 => .inl (by
    have : inS (reachR n es v 0) v := reachR_self hv 0
    unfold inS at this
    refine List.count_pos_iff.2 ?_
    rw [List.getD_eq_getElem?_getD] at this
    cases h : (reachR n es v 0)[v]? with
    | none => rw [h] at this; cases this
    | some x => rw [h] at this; exact List.mem_of_getElem? (by rw [h]; simpa using this))
  | k + 1 => by
    have hm := cnt_mono (o := reachR n es v k) (o' := reachR n es v (k + 1)) (by rw [reachR_length, reachR_length]) (reachR_grows k)
    rcases reach_stop (es := es) hv k with h | h
    · by_cases e : cnt (reachR n es v k) = cnt (reachR n es v (k + 1))
      · right
        have := hm.2 e
        rw [reachR_succ n es v (k + 1), ← this, ← reachR_succ, this]
      · left; omega
    · right
      rw [reachR_succ n es v (k + 1), h, ← reachR_succ, h]
theorem reach_closed {es : List Ed} {n v : Nat} (hv : v < n) {a b : Nat} (ha : a < n) (hb : b < n) (h : inS (reachR n es v n) a) (hab : adj es a b) : inS (reachR n es v n) b := by
  have hstop : reachR n es v (n + 1) = reachR n es v n := by
    rcases reach_stop (es := es) hv n with h | h
    · have := cnt_le (o := reachR n es v n)
      rw [reachR_length] at this
      omega
    · exact h
  refine round_closed (es := es) (reachR_length n es v n) (fun u hu => ?_) ha hb h hab
  rw [← reachR_succ, hstop] at hu
  exact hu

/-! ### The class of a vertex is what is reached. -/
theorem betw_pos {es : List Ed} (hp : ∀ x ∈ es, 1 ≤ x.m) (lo hi : Int) : 0 < betw es lo hi ↔ ∃ x ∈ es, x.a = lo ∧ x.b = hi := by
  induction es with
  | nil => simp [betw]
  | cons x es ih =>
    have ih := ih (fun y hy => hp y (by simp [hy]))
    unfold betw
    have hx := hp x (by simp)
    split
    · rename_i h
      exact ⟨fun _ => ⟨x, by simp, h⟩, fun _ => by omega⟩
    · rename_i h
      rw [ih]
      constructor
      · rintro ⟨y, hy, h2⟩; exact ⟨y, by simp [hy], h2⟩
      · rintro ⟨y, hy, h2⟩
        rcases List.mem_cons.1 hy with rfl | hy
        · exact absurd h2 h
        · exact ⟨y, hy, h2⟩
theorem adj_of {n : Int} {es : List Ed} (hr : ∀ x ∈ es, Right n x) {x : Ed} (hx : x ∈ es) : adj es x.a.toNat x.b.toNat ∧ adj es x.b.toNat x.a.toNat := by
  have r := hr x hx
  have h0 := r.a0
  have h1 := r.b0
  have h2 := r.ab
  unfold adj
  constructor
  · exact (betw_pos (fun y hy => (hr y hy).m1) _ _).2 ⟨x, hx, by omega, by omega⟩
  · exact (betw_pos (fun y hy => (hr y hy).m1) _ _).2 ⟨x, hx, by omega, by omega⟩
theorem joinC_same {c : Nat → Nat} {a b u v : Nat} (h : c u = c v) : joinC c a b u = joinC c a b v := by unfold joinC; rw [h]
theorem cls_edge {n : Int} {es : List Ed} (hn : n ≤ 12) (hr : ∀ x ∈ es, Right n x) : ∀ k, k ≤ es.length → ∀ i (h : i < k) (h' : i < es.length), (ufJ (es.take k)).2 es[i].a.toNat = (ufJ (es.take k)).2 es[i].b.toNat
  | k + 1, hk, i, h, h' => by
    rw [ufJ_snoc es k (by omega)]
    dsimp only
    by_cases e : i < k
    · exact joinC_same (cls_edge hn hr k (by omega) i e h')
    · have e : i = k := by omega
      subst e
      obtain ⟨c, hc⟩ : ∃ c, c = (ufJ (es.take i)).2 := ⟨_, rfl⟩
      rw [← hc]
      unfold joinC
      (repeat' split) <;> omega
theorem cls_closed {n : Int} {es : List Ed} (S : Nat → Prop) (hS : ∀ x ∈ es, S x.a.toNat ↔ S x.b.toNat) : ∀ k, k ≤ es.length → ∀ u v, (ufJ (es.take k)).2 u = (ufJ (es.take k)).2 v → (S u ↔ S v)
  | 0, _, u, v, h => by
    have : u = v := h
    rw [this]
  | k + 1, hk, u, v, h => by
    have ih := cls_closed S hS (n := n) k (by omega)
    rw [ufJ_snoc es k (by omega)] at h
    dsimp only at h
    obtain ⟨c, hc⟩ : ∃ c, c = (ufJ (es.take k)).2 := ⟨_, rfl⟩
    rw [← hc] at h ih
    have hab := hS _ (List.getElem_mem (by omega : k < es.length))
    obtain ⟨a, ha⟩ : ∃ a, a = es[k].a.toNat := ⟨_, rfl⟩
    obtain ⟨b, hb⟩ : ∃ b, b = es[k].b.toNat := ⟨_, rfl⟩
    rw [← ha, ← hb] at h hab
    -- whoever is of a's or b's class
    have key : ∀ w, (c w = c a ∨ c w = c b) → (S w ↔ S a) := fun w hw => by
      rcases hw with hw | hw
      · exact ih w a hw
      · rw [hab]; exact ih w b hw
    unfold joinC at h
    by_cases hu : c u = c a ∨ c u = c b <;> by_cases hv : c v = c a ∨ c v = c b
    · rw [key u hu, key v hv]
    · exfalso
      have h1 : ¬ c v = c a := fun e => hv (.inl e)
      have h2 : ¬ c v = c b := fun e => hv (.inr e)
      split at h <;> split at h <;> omega
    · exfalso
      have h1 : ¬ c u = c a := fun e => hu (.inl e)
      have h2 : ¬ c u = c b := fun e => hu (.inr e)
      split at h <;> split at h <;> omega
    · refine ih u v ?_
      have h1 : ¬ c u = c a := fun e => hu (.inl e)
      have h2 : ¬ c u = c b := fun e => hu (.inr e)
      have h3 : ¬ c v = c a := fun e => hv (.inl e)
      have h4 : ¬ c v = c b := fun e => hv (.inr e)
      split at h <;> split at h <;> omega
theorem adj_edge {n : Int} {es : List Ed} (hr : ∀ x ∈ es, Right n x) {a b : Nat} (h : adj es a b) : ∃ x ∈ es, (x.a.toNat = a ∧ x.b.toNat = b) ∨ (x.a.toNat = b ∧ x.b.toNat = a) := by
  obtain ⟨x, hx, h1, h2⟩ := (betw_pos (fun y hy => (hr y hy).m1) _ _).1 h
  refine ⟨x, hx, ?_⟩
  omega
theorem reach_cls {n : Nat} {es : List Ed} (hn : n ≤ 12) (hr : ∀ x ∈ es, Right n x) {v u : Nat} (hv : v < n) (hu : u < n) : inS (reachR n es v n) u ↔ cls es u = cls es v := by
  constructor
  · refine reachR_inv (P := fun u => cls es u = cls es v) hv rfl (fun a b _ _ ha hab => ?_) n u
    obtain ⟨x, hx, hxx⟩ := adj_edge hr hab
    obtain ⟨i, hi, rfl⟩ := List.mem_iff_getElem.1 hx
    have := cls_edge (n := n) (by omega) hr es.length (Nat.le_refl _) i hi hi
    rw [List.take_length] at this
    change cls es _ = cls es _ at this
    rcases hxx with ⟨h1, h2⟩ | ⟨h1, h2⟩
    · rw [h1, h2] at this; rw [← this]; exact ha
    · rw [h1, h2] at this; rw [this]; exact ha
  · intro h
    have hS : ∀ x ∈ es, inS (reachR n es v n) x.a.toNat ↔ inS (reachR n es v n) x.b.toNat := fun x hx => by
      have r := hr x hx
      have h1 := r.a0
      have h2 := r.an
      have h3 := r.b0
      have h4 := r.bn
      obtain ⟨a1, a2⟩ := adj_of hr hx
      exact ⟨fun h => reach_closed hv (by omega) (by omega) h a1, fun h => reach_closed hv (by omega) (by omega) h a2⟩
    have := cls_closed (n := n) _ hS es.length (Nat.le_refl _) u v (by rw [List.take_length]; exact h)
    exact this.2 (reachR_self hv n)
def partsN (es : List Ed) (k : Nat) : Nat := (rootsL es k).length
theorem root_iff {n : Nat} {es : List Ed} (hn : n ≤ 12) (hr : ∀ x ∈ es, Right n x) {v : Nat} (hv : v < n) : cls es v = v ↔ ∀ u, u < v → cls es u ≠ cls es v := by
  have hF := ufJ_forest (n := n) (by omega) hr es.length (Nat.le_refl _)
  rw [List.take_length] at hF
  obtain ⟨h1, h2⟩ := hF.le v (by omega)
  change cls es v ≤ v at h1
  change cls es (cls es v) = cls es v at h2
  constructor
  · intro h u hu e
    have := (hF.le u (by omega)).1
    change cls es u ≤ u at this
    omega
  · intro h
    by_cases e : cls es v = v
    · exact e
    · exact absurd h2 (h (cls es v) (by omega))
end Go.Sand
/-
  Contracts: the reference's Reached, Parts, Connected, Joined; a graph that is connected, without loops.
-/
set_option linter.unusedSimpArgs false
set_option linter.unusedVariables false
namespace Go.Proofs.YtekniokkmgencaaGreat
open Go.Abs Go.Sand
abbrev bs (l : List Bool) : List PV := l.map PV.b
theorem bs_set (l : List Bool) (i : Nat) : (bs l).set i (.v (.bool true)) = bs (l.set i true) := by simp [bs]
theorem reached_ok (n v : Nat) (es : List Ed) (hv : v < n) (hn : n ≤ 12) (hel : es.length ≤ 900) : PC Tryz.prog 102 [G n es, .i v] (.p (.sl (bs (reachR n es v n)))) [] := by
  refine PC_of_W cfn102 ?_
  have hn' : n ≤ 1048576 := by omega
  simp -implicitDefEqProofs (disch := omega) [c102, List.getElem?_cons_zero, List.getElem?_cons_succ, wrap_id, hv, hn']
  have h0 : (List.replicate n (PV.v (Value.bool false))).set v (PV.v (Value.bool true)) = bs (reachR n es v 0) := by simp [bs, reachR, List.map_replicate]
  refine loopW n (fun r s => s = ⟨[(6, .i r), (5, .os 1 0 n), (2, .ptr 0 1 0 0)], [.box (.p (G n es)), .row (bs (reachR n es v r)) 1 4 false]⟩) (wk_norm [0, 1] [6, 5, 2] rfl rfl) (by rw [← h0]; rfl) ?_
  rintro r s hr rfl
  have hl := reachR_length n es v r
  by_cases hlt : r < n
  · simp -implicitDefEqProofs (disch := omega) [List.getElem?_cons_zero, List.getElem?_cons_succ, wrap_id, hlt]
    refine loopW n (fun a s => s = ⟨[(7, .i a), (6, .i r), (5, .os 1 0 n), (2, .ptr 0 1 0 0)], [.box (.p (G n es)), .row (bs (midR n es a (reachR n es v r))) 1 4 false]⟩) (wk_norm [0, 1] [7, 6, 5, 2] rfl rfl) rfl ?_
    rintro a s ha rfl
    have hl2 := (midR_length n es a (reachR n es v r)).trans hl
    by_cases hat : a < n
    · simp -implicitDefEqProofs (disch := omega) [List.getElem?_cons_zero, List.getElem?_cons_succ, wrap_id, hat]
      refine loopW n (fun b s => s = ⟨[(8, .i b), (7, .i a), (6, .i r), (5, .os 1 0 n), (2, .ptr 0 1 0 0)], [.box (.p (G n es)), .row (bs (rowR es a b (midR n es a (reachR n es v r)))) 1 4 false]⟩) (wk_norm [0, 1] [8, 7, 6, 5, 2] rfl rfl) rfl ?_
      rintro b s hb rfl
      obtain ⟨o, ho⟩ : ∃ o, o = rowR es a b (midR n es a (reachR n es v r)) := ⟨_, rfl⟩
      have hl3 : o.length = n := by rw [ho, rowR_length]; exact hl2
      have hsn := rowR_succ es a b (midR n es a (reachR n es v r))
      rw [← ho] at hsn ⊢
      by_cases hbt : b < n
      · have hal : a < o.length := by omega
        have hgd : o.getD a false = o[a] := by rw [List.getD_eq_getElem?_getD, List.getElem?_eq_getElem hal]; rfl
        cases hx : o[a] with
        | false =>
          have hbit : bitAt es a b o = o := by rw [bitAt, if_neg (by rw [hgd, hx]; simp)]
          rw [hbit] at hsn
          simp -implicitDefEqProofs (disch := omega) [List.getElem?_cons_zero, List.getElem?_cons_succ, wrap_id, hbt, hat, hl3, hx]
          exact round_end [0, 1] [8, 7, 6, 5, 2] hbt rfl (by rw [hsn]; rfl)
        | true =>
          simp -implicitDefEqProofs (disch := omega) [List.getElem?_cons_zero, List.getElem?_cons_succ, wrap_id, hbt, hat, hl3, hx]
          refine HC_of_PC rfl (rbetw_ok n a b es (by omega)) ?_
          by_cases hp : 0 < betw es (min (a : Int) b) (max (a : Int) b)
          · have hbit : bitAt es a b o = o.set b true := by rw [bitAt, if_pos ⟨by rw [hgd, hx], hp⟩]
            rw [hbit] at hsn
            simp -implicitDefEqProofs (disch := omega) [List.getElem?_cons_zero, List.getElem?_cons_succ, wrap_id, hbt, hat, hl3, hx, hp]
            exact round_end [0, 1] [8, 7, 6, 5, 2] hbt rfl (by rw [hsn, ← bs_set]; rfl)
          · have hbit : bitAt es a b o = o := by rw [bitAt, if_neg (fun h => hp h.2)]
            rw [hbit] at hsn
            simp -implicitDefEqProofs (disch := omega) [List.getElem?_cons_zero, List.getElem?_cons_succ, wrap_id, hbt, hat, hl3, hx, hp]
            exact round_end [0, 1] [8, 7, 6, 5, 2] hbt rfl (by rw [hsn]; rfl)
      · have hbn : b = n := by omega
        subst hbn
        simp -implicitDefEqProofs (disch := omega) [List.getElem?_cons_zero, List.getElem?_cons_succ, wrap_id]
        exact round_end [0, 1] [7, 6, 5, 2] hat rfl (by rw [midR_succ, ← ho]; rfl)
    · have han : a = n := by omega
      subst han
      simp -implicitDefEqProofs (disch := omega) [List.getElem?_cons_zero, List.getElem?_cons_succ, wrap_id]
      exact round_end [0, 1] [6, 5, 2] hlt rfl (by rw [reachR_succ]; rfl)
  · have hrn : r = n := by omega
    subst hrn
    simp -implicitDefEqProofs (disch := omega) [List.getElem?_cons_zero, List.getElem?_cons_succ, wrap_id, hl]
    refine fin0 (x := .os 1 0 r) trivial rfl ?_
    simp [hl]
    rfl
end Go.Proofs.YtekniokkmgencaaGreat
/-
  Contracts: the reference's Parts, Connected, Joined; graphs that are connected, without loops.
-/
set_option linter.unusedSimpArgs false
set_option linter.unusedVariables false
namespace Go.Proofs.YtekniokkmgencaaGreat
open Go.Abs Go.Sand
def fL (n : Nat) (f : Nat → Bool) : List Bool := (List.range n).map f
theorem fL_length (n : Nat) (f : Nat → Bool) : (fL n f).length = n := by simp [fL]
theorem fL_get (n : Nat) (f : Nat → Bool) (k : Nat) (h : k < (fL n f).length) : (fL n f)[k] = f k := by simp [fL]
theorem fL_ext {n : Nat} {f g : Nat → Bool} (h : ∀ u, u < n → f u = g u) : fL n f = fL n g := by
  unfold fL
  exact List.map_congr_left fun u hu => h u (by simpa using hu)
theorem fL_set (n : Nat) (f : Nat → Bool) (k : Nat) (x : Bool) : (fL n f).set k x = fL n (fun u => if u = k then x else f u) := by
  refine List.ext_getElem (by simp [fL]) fun i h1 h2 => ?_
  rw [List.getElem_set, fL_get]
  split
  · rename_i e; rw [fL_get, if_pos e.symm]
  · rename_i e; rw [fL_get, if_neg (fun h => e h.symm)]
def seenB (es : List Ed) (v u : Nat) : Bool := (List.range v).any fun w => decide (cls es w = cls es u)
theorem seenB_iff (es : List Ed) (v u : Nat) : seenB es v u = true ↔ ∃ w, w < v ∧ cls es w = cls es u := by simp [seenB]
theorem seen_succ (es : List Ed) (v u : Nat) : seenB es (v + 1) u = (seenB es v u || decide (cls es v = cls es u)) := by simp [seenB, List.range_succ]
theorem parts_same {n : Nat} {es : List Ed} (hn : n ≤ 12) (hr : ∀ x ∈ es, Right n x) {v : Nat} (hv : v < n) (h : seenB es v v = true) : partsN es (v + 1) = partsN es v ∧ ∀ u, seenB es (v + 1) u = seenB es v u := by
  obtain ⟨w, hw, he⟩ := (seenB_iff es v v).1 h
  refine ⟨?_, fun u => ?_⟩
  · unfold partsN
    rw [rootsL_succ, if_neg]
    intro hc
    exact (root_iff hn hr hv).1 hc w hw he
  · rw [seen_succ]
    by_cases e : cls es v = cls es u
    · have : seenB es v u = true := (seenB_iff es v u).2 ⟨w, hw, he.trans e⟩
      simp [this]
    · simp [e]
theorem parts_more {n : Nat} {es : List Ed} (hn : n ≤ 12) (hr : ∀ x ∈ es, Right n x) {v : Nat} (hv : v < n) (h : seenB es v v = false) : partsN es (v + 1) = partsN es v + 1 := by
  unfold partsN
  rw [rootsL_succ, if_pos, List.length_append]
  · rfl
  · refine (root_iff hn hr hv).2 fun u hu e => ?_
    have := (seenB_iff es v v).2 ⟨u, hu, e⟩
    rw [h] at this
    cases this
theorem partsN_le (es : List Ed) (k : Nat) : partsN es k ≤ k := by
  unfold partsN rootsL
  have := List.length_filter_le (fun v => decide (cls es v = v)) (List.range k)
  simpa using this
theorem bs_setv (l : List Bool) (i : Nat) (x : Bool) : (bs l).set i (.v (.bool x)) = bs (l.set i x) := by simp [bs]
def nxB (n : Nat) (es : List Ed) (v k u : Nat) : Bool := seenB es v u || (decide (u < k) && (reachR n es v n).getD u false)
theorem rparts_ok (n : Nat) (es : List Ed) (hn : n ≤ 12) (hr : ∀ x ∈ es, Right n x) (hel : es.length ≤ 900) : PC Tryz.prog 88 [G n es] (.i (partsN es n)) [] := by
  have hn' : n ≤ 1048576 := by omega
  refine PC_of_W cfn88 ?_
  simp -implicitDefEqProofs (disch := omega) [c88, List.getElem?_cons_zero, List.getElem?_cons_succ, wrap_id, hn']
  have h0 : List.replicate n (PV.v (Value.bool false)) = bs (fL n (seenB es 0)) := by
    refine List.ext_getElem (by simp [fL]) fun i h1 h2 => ?_
    simp [bs, fL, seenB]
  rw [h0]
  refine loopW n (fun v s => s = ⟨[(5, .i v), (3, .i (partsN es v)), (4, .os 1 0 n), (1, .ptr 0 1 0 0)], [.box (.p (G n es)), .row (bs (fL n (seenB es v))) 1 4 false]⟩) (wk_norm [0, 1] [5, 3, 4, 1] rfl rfl) rfl ?_
  rintro v s hv rfl
  have hl := fL_length n (seenB es v)
  by_cases hlt : v < n
  · have hg := fL_get n (seenB es v) v (by rw [hl]; exact hlt)
    cases hs : seenB es v v with
    | true =>
      obtain ⟨e1, e2⟩ := parts_same hn hr hlt hs
      rw [hs] at hg
      simp -implicitDefEqProofs (disch := omega) [List.getElem?_cons_zero, List.getElem?_cons_succ, wrap_id, hlt, hl, hg]
      exact round_end [0, 1] [5, 3, 4, 1] hlt rfl (by rw [e1, fL_ext (g := seenB es v) (fun u _ => e2 u)]; rfl)
    | false =>
      have e1 := parts_more hn hr hlt hs
      have hpl := partsN_le es v
      rw [hs] at hg
      simp -implicitDefEqProofs (disch := omega) [List.getElem?_cons_zero, List.getElem?_cons_succ, wrap_id, hlt, hl, hg]
      refine HC_of_PC rfl (reached_ok n v es hlt hn hel) ?_
      simp -implicitDefEqProofs (disch := omega) [List.getElem?_cons_zero, List.getElem?_cons_succ, wrap_id]
      have hrl := reachR_length n es v n
      refine loopW n (fun k s => s = ⟨[(7, .i k), (5, .i v), (3, .i (partsN es v + 1 : Nat)), (4, .os 1 0 n), (6, .p (.sl (bs (reachR n es v n)))), (1, .ptr 0 1 0 0)], [.box (.p (G n es)), .row (bs (fL n (nxB n es v k))) 1 4 false]⟩)
        (wk_norm [0, 1] [7, 5, 3, 4, 6, 1] rfl rfl) (by rw [fL_ext (f := nxB n es v 0) (g := seenB es v) (fun u _ => by simp [nxB])]; rfl) ?_
      rintro k s hk rfl
      obtain ⟨f, hf⟩ : ∃ f : Nat → Bool, f = nxB n es v k := ⟨_, rfl⟩
      have hlf := fL_length n f
      rw [← hf]
      by_cases hkt : k < n
      · have hgk := fL_get n f k (by rw [hlf]; exact hkt)
        have hrk : (reachR n es v n).getD k false = (reachR n es v n)[k]'(by omega) := by rw [List.getD_eq_getElem?_getD, List.getElem?_eq_getElem (by omega)]; rfl
        have hnext : (fL n f).set k (f k || (reachR n es v n).getD k false) = fL n (nxB n es v (k + 1)) := by
          rw [fL_set]
          refine fL_ext fun u _ => ?_
          rw [hf]
          by_cases e : u = k
          · subst e; simp [nxB]
          · simp only [if_neg e, nxB]
            congr 2
            exact decide_eq_decide.2 (by omega)
        cases hx : f k with
        | true =>
          rw [hx] at hgk hnext
          simp -implicitDefEqProofs (disch := omega) [List.getElem?_cons_zero, List.getElem?_cons_succ, wrap_id, hkt, hlf, hgk]
          exact round_end [0, 1] [7, 5, 3, 4, 6, 1] hkt rfl (by rw [← hnext, ← bs_setv]; rfl)
        | false =>
          rw [hx] at hgk hnext
          rw [hrk] at hnext
          simp -implicitDefEqProofs (disch := omega) [List.getElem?_cons_zero, List.getElem?_cons_succ, wrap_id, hkt, hlf, hgk, hrl]
          exact round_end [0, 1] [7, 5, 3, 4, 6, 1] hkt rfl (by rw [← hnext, ← bs_setv, Bool.false_or]; rfl)
      · have hkn : k = n := by omega
        subst hkn
        simp -implicitDefEqProofs (disch := omega) [List.getElem?_cons_zero, List.getElem?_cons_succ, wrap_id]
        refine round_end [0, 1] [5, 3, 4, 1] hlt rfl ?_
        rw [e1, fL_ext (f := seenB es (v + 1)) (g := f) (fun u hu => ?_)]
        · rfl
        · rw [seen_succ, hf, nxB]
          have := reach_cls hn hr hlt hu
          unfold inS at this
          simp only [hu, decide_true, Bool.true_and]
          congr 1
          rw [Bool.eq_iff_iff, this]
          simp [eq_comm]
  · have hvn : v = n := by omega
    subst hvn
    simp -implicitDefEqProofs (disch := omega) [List.getElem?_cons_zero, List.getElem?_cons_succ, wrap_id]
    (refine fin0 trivial rfl ?_; simp -implicitDefEqProofs (disch := omega) [List.getElem?_cons_zero, List.getElem?_cons_succ, idx, wrap_id])
end Go.Proofs.YtekniokkmgencaaGreat
end
