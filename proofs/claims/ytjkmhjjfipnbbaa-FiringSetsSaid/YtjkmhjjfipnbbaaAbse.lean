/-
  AN ABSTRACT MACHINE, part 5: what a slice holds; appends; freezing.
-/
import Derived.Test.YtjkmhjjfipnbbaaAbsd
namespace Go
namespace Abs
open Go.RowKit

section
variable {P : Program} {M : Mem}
/-- What lies behind a slice: address, cells. -/
def Behind (M : Mem) (xs : List PV) (v : Value) : Prop :=
  ∃ A cap, v = .slice A xs.length cap ∧ xs.length ≤ cap ∧ cap ≤ 9223372036854775807 ∧ (xs = [] ∨ ∃ b off sz, ∃ c : Nat → Nat → Value, A = some ⟨b, off, none⟩ ∧ b < M.w.heap.size ∧ (∀ i (h : i < xs.length), (xs[i]).flat.length = sz ∧ ∀ e ∈ (xs[i]).flat, e.one = true) ∧
    ∀ i (h : i < xs.length) j (hj : j < (xs[i]).flat.length), M.w.cell? ⟨b, off + i * sz + j, none⟩ = some (c i j) ∧ RP M.shared M.w ((xs[i]).flat[j]) (c i j))
theorem elems_ok (hM : MemOk M) {y : AV} {v : Value} {xs : List PV} (hy : RA M y v) (h : elems M.H y = some xs) : Behind M xs v := by
  unfold elems at h
  split at h
  · injection h with h
    subst h
    have := hy.toP
    cases this with
    | sl l A cap sz c h1 h2 hs ha hr =>
      refine ⟨A, cap, rfl, h1, h2, ?_⟩
      rcases ha with ha | ⟨b, off, hA, hb, hc⟩
      · exact .inl ha
      · exact .inr ⟨b, off, sz, c, hA, hb.1, hs, fun i hi j hj => ⟨hc i j hi (by have := (hs i hi).1; omega), hr i hi j hj⟩⟩
  · injection h with h
    subst h
    obtain ⟨rfl, _⟩ := hy.lit
    exact ⟨none, 0, rfl, by simp, by simp, .inl rfl⟩
  · rename_i o off len
    split at h
    · rename_i els sz t fz hob
      split at h
      · rename_i hlen
        injection h with h
        subst h
        obtain ⟨ob, h1, h2, h3⟩ := hy.toOs
        rw [hob] at h1
        injection h1 with h1
        subst h1
        have hll : (els.drop off).length = len := by simp; omega
        rcases h3 (by simpa [AO.len] using hlen) t rfl with ⟨hn, hz, hl, hv⟩ | ⟨b, cap, hb, hv, hc1, hc2, hs⟩
        · have : els.drop off = [] := List.length_eq_zero_iff.1 (by omega)
          exact ⟨none, 0, by rw [hll, hl]; exact hv, by omega, by simp, .inl this⟩
        · refine ⟨_, cap, by rw [hll]; exact hv, by omega, hc2, ?_⟩
          obtain ⟨hfl, hrest⟩ := hM.ok o _ hob
          rcases hrest with ⟨hnone, _⟩ | ⟨b', cur, cap', hb1, hb2, hcs, hcap, hcells⟩
          · rw [hb] at hnone; cases hnone
          · rw [hb] at hb1
            injection hb1 with hb1
            subst hb1
            simp only [AO.sz]
            refine .inr ⟨b, off * sz, sz, fun i j => cur.getD ((off + i) * sz + j) undef, rfl, lt_of_block hb2, fun i hi => ?_, fun i hi j hj => ?_⟩
            · rw [List.getElem_drop]; exact hfl _ (List.getElem_mem _)
            · rw [hll] at hi
              simp only [List.getElem_drop] at hj ⊢
              obtain ⟨c, k1, k2⟩ := hcells (off + i) (by omega) j hj
              rw [cell_of_row M.w b _ cur t (0, 0) hb2, show off * sz + i * sz + j = (off + i) * sz + j by rw [Nat.add_mul], Array.getD_eq_getD_getElem?, k1]
              exact ⟨rfl, k2⟩
      · cases h
    · cases h
  · cases h

/-- The cells of some elements, one behind the other. -/
def cellsF (c : Nat → Nat → Value) (n sz : Nat) : List Value := (List.range (n * sz)).map fun k => c (k / sz) (k % sz)
theorem cellsF_get {c : Nat → Nat → Value} {n sz i j : Nat} (hi : i < n) (hj : j < sz) : (cellsF c n sz)[i * sz + j]? = some (c i j) := by
  have hlt := idx_lt hi hj
  unfold cellsF
  rw [List.getElem?_map, List.getElem?_range hlt]
  have h1 : (i * sz + j) / sz = i := by
    rw [Nat.mul_comm, Nat.mul_add_div (by omega), Nat.div_eq_of_lt hj]; simp
  have h2 : (i * sz + j) % sz = j := by
    rw [Nat.mul_comm, Nat.mul_add_mod, Nat.mod_eq_of_lt hj]
  simp [h1, h2]
theorem cellsF_length (c : Nat → Nat → Value) (n sz : Nat) : (cellsF c n sz).length = n * sz := by simp [cellsF]
theorem cellsF_split {c : Nat → Nat → Value} {n sz k : Nat} {u : Value} (h : (cellsF c n sz)[k]? = some u) : ∃ i j, i < n ∧ j < sz ∧ k = i * sz + j ∧ u = c i j := by
  have hk : k < n * sz := by
    have := (List.getElem?_eq_some_iff.1 h).1
    rwa [cellsF_length] at this
  have hsz : 0 < sz := by
    rcases Nat.eq_zero_or_pos sz with h0 | h0
    · subst h0; simp at hk
    · exact h0
  have h1 : k / sz < n := (Nat.div_lt_iff_lt_mul hsz).2 hk
  have h2 : k % sz < sz := Nat.mod_lt _ hsz
  have h3 : k = (k / sz) * sz + k % sz := by rw [Nat.mul_comm]; exact (Nat.div_add_mod k sz).symm
  refine ⟨k / sz, k % sz, h1, h2, h3, ?_⟩
  have := cellsF_get (c := c) h1 h2
  rw [← h3, h] at this
  exact Option.some.inj this

theorem grownBy_below {w w' : World} {row : Option Nat} {B : Nat} (h : w.grownBy w' row) (hB : B ≤ w.heap.size) (hr : ∀ k, row = some k → B ≤ k) : Below B w w' :=
  ⟨h.os, h.tape, h.output, h.size, fun k hk => h.block k (by omega) (fun e => by have := hr k e.symm; omega)⟩

theorem row_at {els : List PV} {sz i j : Nat} (hfl : ∀ e ∈ els, e.flat.length = sz ∧ ∀ c ∈ e.flat, c.one = true) (hi : i < els.length) (hj : j < (els[i]).flat.length) : j < sz := by
  have := (hfl _ (List.getElem_mem hi)).1; omega

/-- An owned row, in the kit's own words. -/
theorem owns_of (hM : MemOk M) {o : Nat} {els : List PV} {sz : Nat} {t : TypeId} {fz : Bool} (hob : M.H[o]? = some (.row els sz t fz)) {v : Value} (hv : OsOk M o 0 els.length v) :
    ∃ xs, M.w.ownsRow M.base t sz v els.length xs ∧ v.ownBlock = M.φ o ∧ ∀ i (h : i < els.length) j (hj : j < (els[i]).flat.length), ∃ c, xs[i * sz + j]? = some c ∧ RP M.shared M.w ((els[i]).flat[j]) c := by
  obtain ⟨ob, h1, h2, h3⟩ := hv
  rw [hob] at h1
  injection h1 with h1
  subst h1
  have hlo := (List.getElem?_eq_some_iff.1 hob).1
  obtain ⟨hfl, hrest⟩ := hM.ok o _ hob
  rcases h3 (by simp [AO.len]) t rfl with ⟨hn, _, hl, hv⟩ | ⟨b, cap, hb, hv, hc1, hc2, hs⟩
  · refine ⟨[], ⟨by simp [hl], .inl ⟨hv, hl⟩⟩, by rw [hv, hn]; rfl, fun i hi => by omega⟩
  · rcases hrest with ⟨hnone, _⟩ | ⟨b', cur, cap', hb1, hb2, hcs, hcap, hcells⟩
    · rw [hb] at hnone; cases hnone
    · rw [hb] at hb1
      injection hb1 with hb1
      subst hb1
      rw [shape_of hb2] at hs
      simp only [Option.some.injEq, Prod.mk.injEq, true_and, Nat.zero_add, AO.sz] at hs
      rw [Nat.zero_mul] at hv
      have hle : els.length * sz ≤ cap * sz := Nat.mul_le_mul_right _ hc1
      refine ⟨cur.toList.take (els.length * sz), ⟨by simp; omega, .inr ⟨b, cap, cur, hv, hM.lo o b hlo hb, hb2, hc1, hc2, hs, rfl⟩⟩, by rw [hv, hb]; rfl, fun i hi j hj => ?_⟩
      obtain ⟨c, k1, k2⟩ := hcells i hi j hj
      refine ⟨c, ?_, k2⟩
      rw [List.getElem?_take_of_lt (idx_lt hi (row_at hfl hi hj)), Array.getElem?_toList]
      exact k1
/-- And back. -/
theorem of_owns {M' : Mem} {o : Nat} {els : List PV} {sz : Nat} {t : TypeId} {v : Value} {xs : List Value} {B : Nat} (hown : M'.w.ownsRow B t sz v els.length xs) (hφ : M'.φ o = v.ownBlock)
    (hfl : ∀ e ∈ els, e.flat.length = sz ∧ ∀ c ∈ e.flat, c.one = true)
    (hc : ∀ i (h : i < els.length) j (hj : j < (els[i]).flat.length), ∃ c, xs[i * sz + j]? = some c ∧ RP M'.shared M'.w ((els[i]).flat[j]) c) (hH : M'.H[o]? = some (.row els sz t false)) :
    RowOk M' o els sz t ∧ OsOk M' o 0 els.length v := by
  obtain ⟨hl, hrest⟩ := hown
  rcases hrest with ⟨hv, hn⟩ | ⟨g, cap, cur, hv, hg, hh, hnc, hcm, hcs, htake⟩
  · refine ⟨⟨hfl, .inl ⟨by rw [hφ, hv]; rfl, List.length_eq_zero_iff.1 hn⟩⟩, _, hH, by simp [AO.len], fun _ t' ht => .inl ⟨by rw [hφ, hv]; rfl, rfl, hn, hv⟩⟩
  · have hφ' : M'.φ o = some g := by rw [hφ, hv]; rfl
    refine ⟨⟨hfl, .inr ⟨g, cur, cap, hφ', hh, hcs, hnc, fun i hi j hj => ?_⟩⟩, _, hH, by simp [AO.len], fun _ t' ht => .inr ⟨g, cap, hφ', by rw [hv, Nat.zero_mul], hnc, hcm, ?_⟩⟩
    · obtain ⟨c, k1, k2⟩ := hc i hi j hj
      refine ⟨c, ?_, k2⟩
      rw [← htake, List.getElem?_take_of_lt (idx_lt hi (row_at hfl hi hj)), Array.getElem?_toList] at k1
      exact k1
    · injection ht with ht
      subst ht
      rw [shape_of hh, hcs, Nat.zero_add]; rfl

theorem run_append_none (w : World) (t ty e : TypeId) (i : TypeInfo) (ht : P.underlying t = some (.slice e)) (hi : P.info? e = some i) (A B : Option Addr) (n c c' : Nat) (hn : n ≤ c) :
    (Builtin.append_ #[t, t] ty #[.slice A n c, .slice B 0 c']).run P w = .ok (.slice A n c) w := by
  rcases A with _ | a <;> rcases B with _ | b <;> simp [Builtin.append_, run_underlying ht, sizeOf, typeInfo, hi, Builtin.lenOf, Builtin.firstCells, hn, storeCells, loadCells, loadCellsFrom]

theorem app_run {t ty e : TypeId} {sz bytes : Nat} {i0 : TypeInfo} {z : Value} (ht : P.underlying t = some (.slice e)) (hi : P.info? e = some i0) (hz : i0.zero = some z) (hs : i0.size = sz) (hb : i0.bytes = bytes) (hb2 : bytes ≤ 1024)
    (hzs : z.cells.size = sz) (hsz : 0 < sz) {v u : Value} {n : Nat} {vs : List Value} {xs : List PV} (hown : M.w.ownsRow M.base e sz v n vs) (hx : Behind M xs u) (hne : xs ≠ []) (hxs : ∀ q ∈ xs, q.flat.length = sz) (hbig : n + xs.length ≤ 1048576)
    (hbs : M.base ≤ M.w.heap.size) :
    ∃ v' w' news, (Builtin.append_ #[t, t] ty #[v, u]).run P M.w = .ok v' w' ∧ w'.ownsRow M.base e sz v' (n + xs.length) (vs ++ news) ∧ M.w.grownBy w' v.ownBlock ∧ (v'.ownBlock = v.ownBlock ∨ v'.ownBlock = some M.w.heap.size) ∧
      ∀ i (h : i < xs.length) j (hj : j < (xs[i]).flat.length), ∃ c, news[i * sz + j]? = some c ∧ RP M.shared M.w ((xs[i]).flat[j]) c := by
  obtain ⟨A, cap, rfl, hlc, hm, hc⟩ := hx
  rcases hc with hc | ⟨b, off, sz', c, rfl, hbl, hfl, hcells⟩
  · exact absurd hc hne
  · have h0 : 0 < xs.length := List.length_pos_iff.2 hne
    have e1 : sz' = sz := by
      have h1 := (hfl 0 h0).1
      have h2 := hxs _ (List.getElem_mem h0)
      omega
    subst e1
    obtain ⟨v', w', hrun, h2, h3, _, h5⟩ := run_append_own_at (P := P) M.w M.base t ty e i0 z sz' bytes ht hi hz hs hb hzs hsz v n vs hown ⟨b, off, none⟩ xs.length cap (cellsF c xs.length sz') (cellsF_length _ _ _)
      (fun k u hu => by
        obtain ⟨i, j, hi', hj', rfl, rfl⟩ := cellsF_split hu
        rw [addr_add, ← Nat.add_assoc]
        exact (hcells i hi' j (by have := (hfl i hi').1; omega)).1)
      (fun u hu => by
        obtain ⟨k, hk, rfl⟩ := List.mem_iff_getElem.1 hu
        obtain ⟨i, j, hi', hj', _, e⟩ := cellsF_split (List.getElem?_eq_getElem hk)
        rw [e]
        have hj2 : j < (xs[i]).flat.length := by have := (hfl i hi').1; omega
        exact (hcells i hi' j hj2).2.one ((hfl i hi').2 _ (List.getElem_mem hj2)))
      (by unfold maxLen; omega) (by have := Nat.mul_le_mul hbig hb2; omega) hbs
    refine ⟨v', w', _, hrun, h2, h3, h5, fun i hi' j hj' => ⟨c i j, cellsF_get hi' (by have := (hfl i hi').1; omega), (hcells i hi' j hj').2⟩⟩
end
end Abs
end Go
