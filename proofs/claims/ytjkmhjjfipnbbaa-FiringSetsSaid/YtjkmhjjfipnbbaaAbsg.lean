/-
  AN ABSTRACT MACHINE, part 7: freezing; literals of slices and structs; every operation.
-/
import Derived.Test.YtjkmhjjfipnbbaaAbsf
namespace Go
namespace Abs
open Go.RowKit

section
variable {P : Program} {M : Mem}
/-- A row is frozen: nobody may write it any more, so it may be read as a value. -/
theorem frz_one (hM : MemOk M) {o : Nat} {els : List PV} {sz : Nat} {t : TypeId} {fz : Bool} (ho : M.H[o]? = some (.row els sz t fz)) :
    MemOk ⟨M.w, M.H.set o (.row els sz t true), M.φ, M.base, M.S⟩ ∧ Le M ⟨M.w, M.H.set o (.row els sz t true), M.φ, M.base, M.S⟩ := by
  have hlo := (List.getElem?_eq_some_iff.1 ho).1
  have hle : Le M ⟨M.w, M.H.set o (.row els sz t true), M.φ, M.base, M.S⟩ := by
    refine ⟨fun b hb => ⟨⟨hb.1, hb.2.1, fun o2 ob2 ho2 hf => ?_⟩, rfl⟩, fun o2 ob2 ho2 => ?_⟩
    · dsimp only at ho2
      by_cases e : o2 = o
      · subst e
        simp [hlo] at ho2
        subst ho2
        cases hf
      · rw [List.getElem?_set_ne (by omega)] at ho2
        exact hb.2.2 o2 ob2 ho2 hf
    · by_cases e : o2 = o
      · subst e
        rw [ho] at ho2
        injection ho2 with ho2
        subst ho2
        exact ⟨.row els sz t true, by simp [hlo], rfl, Nat.le_refl _, fun _ => ⟨rfl, rfl, fun _ _ => rfl⟩⟩
      · exact ⟨ob2, by dsimp only; rw [List.getElem?_set_ne (by omega)]; exact ho2, rfl, Nat.le_refl _, fun _ => ⟨rfl, rfl, fun _ _ => rfl⟩⟩
  refine ⟨⟨fun o2 ob2 ho2 => ?_, ?_, ?_, hM.bs⟩, hle⟩
  · dsimp only at ho2
    by_cases e : o2 = o
    · subst e
      simp [hlo] at ho2
      subst ho2
      exact ObOk.mono (ob := .row els sz t fz) hle rfl (fun _ _ => rfl) (hM.ok o2 _ ho)
    · rw [List.getElem?_set_ne (by omega)] at ho2
      exact (hM.ok o2 ob2 ho2).mono hle rfl (fun _ _ => rfl)
  · intro o1 o2 b h1 h2
    simp only [List.length_set] at h1 h2
    exact hM.inj o1 o2 b h1 h2
  · intro o1 b h1
    simp only [List.length_set] at h1
    exact hM.lo o1 b h1
/-- Frozen, with what it held. -/
def Fz (H : List AO) (o : Nat) (els : List PV) : Prop := ∃ sz t, H[o]? = some (.row els sz t true)
theorem frzC_ok (x : AV) {H : List AO} (hM : MemOk ⟨M.w, H, M.φ, M.base, M.S⟩) : MemOk ⟨M.w, frzC H x, M.φ, M.base, M.S⟩ ∧ Le ⟨M.w, H, M.φ, M.base, M.S⟩ ⟨M.w, frzC H x, M.φ, M.base, M.S⟩ := by
  unfold frzC
  split
  · rename_i o _ _
    split
    · rename_i els sz t fz ho
      exact frz_one (M := ⟨M.w, H, M.φ, M.base, M.S⟩) hM ho
    · exact ⟨hM, Le.refl _⟩
  · exact ⟨hM, Le.refl _⟩
theorem frzC_keep (x : AV) {H : List AO} {o : Nat} {els : List PV} (h : Fz H o els) : Fz (frzC H x) o els := by
  unfold frzC
  split
  · rename_i o2 _ _
    split
    · rename_i els2 sz t fz ho
      obtain ⟨sz', t', h⟩ := h
      by_cases e : o = o2
      · subst e
        rw [ho] at h
        injection h with h
        injection h with h1
        subst h1
        exact ⟨sz, t, by simp [(List.getElem?_eq_some_iff.1 ho).1]⟩
      · exact ⟨sz', t', by rw [List.getElem?_set_ne (by omega)]; exact h⟩
    · exact h
  · exact h
theorem frzC_row (x : AV) {H : List AO} {o : Nat} {els : List PV} {sz : Nat} {t : TypeId} {fz : Bool} (h : H[o]? = some (.row els sz t fz)) : ∃ fz', (frzC H x)[o]? = some (.row els sz t fz') := by
  unfold frzC
  split
  · rename_i o2 _ _
    split
    · rename_i els2 sz2 t2 fz2 ho
      by_cases e : o = o2
      · subst e
        rw [ho] at h
        injection h with h
        injection h with h1 h2 h3
        subst h1 h2 h3
        exact ⟨true, by simp [(List.getElem?_eq_some_iff.1 ho).1]⟩
      · exact ⟨fz, by rw [List.getElem?_set_ne (by omega)]; exact h⟩
    · exact ⟨fz, h⟩
  · exact ⟨fz, h⟩
theorem foldC_ok (l : List AV) : ∀ {H : List AO}, MemOk ⟨M.w, H, M.φ, M.base, M.S⟩ → MemOk ⟨M.w, l.foldl frzC H, M.φ, M.base, M.S⟩ ∧ Le ⟨M.w, H, M.φ, M.base, M.S⟩ ⟨M.w, l.foldl frzC H, M.φ, M.base, M.S⟩ := by
  induction l with
  | nil => exact fun h => ⟨h, Le.refl _⟩
  | cons x l ih =>
    intro H h
    have h1 := frzC_ok (M := M) x h
    have h2 := ih h1.1
    exact ⟨h2.1, h1.2.trans h2.2⟩
theorem foldC_keep (l : List AV) : ∀ {H : List AO} {o : Nat} {els : List PV}, Fz H o els → Fz (l.foldl frzC H) o els := by
  induction l with
  | nil => exact fun h => h
  | cons x l ih => exact fun h => ih (frzC_keep x h)
theorem foldC_row (l : List AV) : ∀ {H : List AO} {o : Nat} {els : List PV} {sz : Nat} {t : TypeId} {fz : Bool}, H[o]? = some (.row els sz t fz) → ∃ fz', (l.foldl frzC H)[o]? = some (.row els sz t fz') := by
  induction l with
  | nil => exact fun h => ⟨_, h⟩
  | cons x l ih => exact fun h => let ⟨_, h1⟩ := frzC_row x h; ih h1
/-- One value's own rows are frozen. -/
def frzV (H : List AO) : AV → List AO
  | .agg m => m.foldl frzC H
  | x => frzC H x
theorem frzV_cases (x : AV) : (∃ m, x = .agg m) ∨ ∀ H, frzV H x = frzC H x := by
  cases x <;> first | exact .inl ⟨_, rfl⟩ | exact .inr fun _ => rfl
theorem frzL_cons (H : List AO) (x : AV) (l : List AV) : frzL H (x :: l) = frzL (frzV H x) l := by cases x <;> rfl
theorem frzV_ok (x : AV) {H : List AO} (hM : MemOk ⟨M.w, H, M.φ, M.base, M.S⟩) : MemOk ⟨M.w, frzV H x, M.φ, M.base, M.S⟩ ∧ Le ⟨M.w, H, M.φ, M.base, M.S⟩ ⟨M.w, frzV H x, M.φ, M.base, M.S⟩ := by
  rcases frzV_cases x with ⟨m, rfl⟩ | hx
  · exact foldC_ok m hM
  · rw [hx]; exact frzC_ok x hM
theorem frzV_keep (x : AV) {H : List AO} {o : Nat} {els : List PV} (h : Fz H o els) : Fz (frzV H x) o els := by
  rcases frzV_cases x with ⟨m, rfl⟩ | hx
  · exact foldC_keep m h
  · rw [hx]; exact frzC_keep x h
theorem frzV_row (x : AV) {H : List AO} {o : Nat} {els : List PV} {sz : Nat} {t : TypeId} {fz : Bool} (h : H[o]? = some (.row els sz t fz)) : ∃ fz', (frzV H x)[o]? = some (.row els sz t fz') := by
  rcases frzV_cases x with ⟨m, rfl⟩ | hx
  · exact foldC_row m h
  · rw [hx]; exact frzC_row x h
theorem frzL_ok (l : List AV) : ∀ {H : List AO}, MemOk ⟨M.w, H, M.φ, M.base, M.S⟩ → MemOk ⟨M.w, frzL H l, M.φ, M.base, M.S⟩ ∧ Le ⟨M.w, H, M.φ, M.base, M.S⟩ ⟨M.w, frzL H l, M.φ, M.base, M.S⟩ := by
  induction l with
  | nil => exact fun h => ⟨h, Le.refl _⟩
  | cons x l ih =>
    intro H h
    rw [frzL_cons]
    have h1 := frzV_ok (M := M) x h
    have h2 := ih h1.1
    exact ⟨h2.1, h1.2.trans h2.2⟩
theorem frzL_keep (l : List AV) : ∀ {H : List AO} {o : Nat} {els : List PV}, Fz H o els → Fz (frzL H l) o els := by
  induction l with
  | nil => exact fun h => h
  | cons x l ih => intro H o els h; rw [frzL_cons]; exact ih (frzV_keep x h)
theorem frzL_row (l : List AV) : ∀ {H : List AO} {o : Nat} {els : List PV} {sz : Nat} {t : TypeId} {fz : Bool}, H[o]? = some (.row els sz t fz) → ∃ fz', (frzL H l)[o]? = some (.row els sz t fz') := by
  induction l with
  | nil => exact fun h => ⟨_, h⟩
  | cons x l ih => intro H o els sz t fz h; rw [frzL_cons]; obtain ⟨_, h1⟩ := frzV_row x h; exact ih h1

/-- The rows that a value reads through its own slices are frozen in H'. -/
def FzC (H H' : List AO) : AV → Prop
  | .os o _ _ => ∀ els sz t fz, H[o]? = some (.row els sz t fz) → Fz H' o els
  | _ => True
def FzV (H H' : List AO) : AV → Prop
  | .agg m => ∀ x ∈ m, FzC H H' x
  | x => FzC H H' x
theorem FzV_cases (H H' : List AO) (x : AV) : (∃ m, x = .agg m) ∨ (FzV H H' x ↔ FzC H H' x) := by
  cases x <;> first | exact .inl ⟨_, rfl⟩ | exact .inr Iff.rfl
theorem frzC_self (H : List AO) (x : AV) : FzC H (frzC H x) x := by
  cases x <;> try trivial
  rename_i o off len
  intro els sz t fz h
  have e : frzC H (.os o off len) = H.set o (.row els sz t true) := by simp only [frzC, h]
  exact ⟨sz, t, by rw [e]; simp [(List.getElem?_eq_some_iff.1 h).1]⟩
theorem FzC.keep {H H' H'' : List AO} {x : AV} (h : FzC H H' x) (hk : ∀ {o : Nat} {els : List PV}, Fz H' o els → Fz H'' o els) : FzC H H'' x := by
  cases x <;> first | trivial | exact fun els sz t fz ho => hk (h els sz t fz ho)
theorem FzC.back {H0 H H' : List AO} {x : AV} (h : FzC H H' x) (hr : ∀ {o : Nat} {els : List PV} {sz : Nat} {t : TypeId} {fz : Bool}, H0[o]? = some (.row els sz t fz) → ∃ fz', H[o]? = some (.row els sz t fz')) : FzC H0 H' x := by
  cases x <;> first | trivial | exact fun els sz t fz ho => let ⟨_, h1⟩ := hr ho; h els sz t _ h1
theorem foldC_self : ∀ (l : List AV) (H : List AO), ∀ x ∈ l, FzC H (l.foldl frzC H) x
  | y :: l, H, x, hx => by
    rcases List.mem_cons.1 hx with rfl | hx
    · exact (frzC_self H x).keep (fun h => foldC_keep l h)
    · exact (foldC_self l (frzC H y) x hx).back (fun h => frzC_row y h)
theorem frzV_self (H : List AO) (x : AV) : FzV H (frzV H x) x := by
  rcases frzV_cases x with ⟨m, rfl⟩ | hx
  · exact foldC_self m H
  · rcases FzV_cases H (frzV H x) x with ⟨m, rfl⟩ | h2
    · exact foldC_self m H
    · rw [h2, hx]; exact frzC_self H x
theorem FzV.keep {H H' H'' : List AO} {x : AV} (h : FzV H H' x) (hk : ∀ {o : Nat} {els : List PV}, Fz H' o els → Fz H'' o els) : FzV H H'' x := by
  rcases FzV_cases H H' x with ⟨m, rfl⟩ | h1
  · exact fun y hy => FzC.keep (h y hy) hk
  · rcases FzV_cases H H'' x with ⟨m, rfl⟩ | h2
    · exact fun y hy => FzC.keep (h y hy) hk
    · exact h2.2 ((h1.1 h).keep hk)
theorem FzV.back {H0 H H' : List AO} {x : AV} (h : FzV H H' x) (hr : ∀ {o : Nat} {els : List PV} {sz : Nat} {t : TypeId} {fz : Bool}, H0[o]? = some (.row els sz t fz) → ∃ fz', H[o]? = some (.row els sz t fz')) : FzV H0 H' x := by
  rcases FzV_cases H H' x with ⟨m, rfl⟩ | h1
  · exact fun y hy => FzC.back (h y hy) hr
  · rcases FzV_cases H0 H' x with ⟨m, rfl⟩ | h2
    · exact fun y hy => FzC.back (h y hy) hr
    · exact h2.2 ((h1.1 h).back hr)
theorem frzL_self : ∀ (l : List AV) (H : List AO), ∀ x ∈ l, FzV H (frzL H l) x
  | y :: l, H, x, hx => by
    rw [frzL_cons]
    rcases List.mem_cons.1 hx with rfl | hx
    · exact (frzV_self H x).keep (fun h => frzL_keep l h)
    · exact (frzL_self l (frzV H y) x hx).back (fun h => frzV_row y h)

/-- What is frozen reads as a value. -/
theorem viewC_ok {M' : Mem} (hle : Le M M') (hM' : MemOk M') {x : AV} {v : Value} {q : PV} (hx : RA M x v) (hv : viewC M.H x = some q) (hf : FzC M.H M'.H x) : RP M'.shared M'.w q v := by
  unfold viewC at hv
  split at hv
  · injection hv with hv
    subst hv
    exact hx.toP.mono hle.sh
  · rename_i o off len
    split at hv
    · rename_i els sz t fz ho
      split at hv
      · rename_i hlen
        injection hv with hv
        subst hv
        obtain ⟨sz', t', hfz⟩ := hf els sz t fz ho
        have hx' := hx.mono hle
        obtain ⟨ob, h1, h2, h3⟩ := hx'.toOs
        rw [hfz] at h1
        injection h1 with h1
        subst h1
        have hll : (els.drop off).length = len := by simp; omega
        have hlo := (List.getElem?_eq_some_iff.1 hfz).1
        rcases h3 (by simpa [AO.len] using hlen) t' rfl with ⟨hn, hz, hl, hv⟩ | ⟨b, cap, hb, hv, hc1, hc2, hs⟩
        · have e0 : els.drop off = [] := List.length_eq_zero_iff.1 (by omega)
          rw [hv, e0]
          exact .sl [] none 0 0 (fun _ _ => undef) (by simp) (by simp) (fun i h => by simp at h) (.inl rfl) (fun i h => by simp at h)
        · obtain ⟨hfl, hrest⟩ := hM'.ok o _ hfz
          rcases hrest with ⟨hnone, _⟩ | ⟨b', cur, cap', hb1, hb2, hcs, hcap, hcells⟩
          · rw [hb] at hnone; cases hnone
          · rw [hb] at hb1
            injection hb1 with hb1
            subst hb1
            have hsh : M'.shared b := ⟨lt_of_block hb2, fun hlt => absurd (hM'.lo o b hlo hb) (by omega), fun o2 ob2 ho2 hf2 e => by
              have := hM'.inj o2 o b (List.getElem?_eq_some_iff.1 ho2).1 hlo e hb
              subst this
              rw [hfz] at ho2
              injection ho2 with ho2
              subst ho2
              cases hf2⟩
            rw [hv, ← hll]
            simp only [AO.sz]
            have hgetc : ∀ i j, (hi : i < els.length) → (hj : j < (els[i]).flat.length) → ∃ c, cur[i * sz' + j]? = some c ∧ RP M'.shared M'.w ((els[i]).flat[j]) c := fun i j hi hj => hcells i hi j hj
            refine .sl (els.drop off) _ cap sz' (fun i j => cur.getD ((off + i) * sz' + j) undef) (by omega) hc2 (fun i hi => ?_) (.inr ⟨b, off * sz', rfl, hsh, fun i j hi hj => ?_⟩) (fun i hi j hj => ?_)
            · rw [List.getElem_drop]; exact hfl _ (List.getElem_mem _)
            · rw [hll] at hi
              have hfe := (hfl _ (List.getElem_mem (by omega : off + i < els.length))).1
              obtain ⟨c, k1, _⟩ := hgetc (off + i) j (by omega) (by omega)
              rw [cell_of_row M'.w b _ cur t' (0, 0) hb2, show off * sz' + i * sz' + j = (off + i) * sz' + j by rw [Nat.add_mul], Array.getD_eq_getD_getElem?, k1]
              rfl
            · rw [hll] at hi
              simp only [List.getElem_drop] at hj ⊢
              obtain ⟨c, k1, k2⟩ := hgetc (off + i) j (by omega) hj
              rw [Array.getD_eq_getD_getElem?, k1]
              exact k2
      · cases hv
    · cases hv
  · cases hv
theorem viewL_get {H : List AO} : ∀ {l : List AV} {m : List PV}, viewL H l = some m → m.length = l.length ∧ ∀ i (h : i < l.length) (h' : i < m.length), viewC H l[i] = some m[i]
  | [], m, h => by simp [viewL] at h; subst h; exact ⟨rfl, fun i h => by simp at h⟩
  | x :: l, m, h => by
    unfold viewL at h
    split at h
    · rename_i y m' h1 h2
      injection h with h
      subst h
      obtain ⟨k1, k2⟩ := viewL_get h2
      refine ⟨by simp [k1], fun i hi hi' => ?_⟩
      cases i with
      | zero => exact h1
      | succ i => exact k2 i (by simpa using hi) (by simpa using hi')
    · cases h
theorem view_ok {M' : Mem} (hle : Le M M') (hM' : MemOk M') {x : AV} {v : Value} {q : PV} (hx : RA M x v) (hv : view M.H x = some q) (hf : FzV M.H M'.H x) : RP M'.shared M'.w q v := by
  have hC : viewC M.H x = some q → FzC M.H M'.H x → RP M'.shared M'.w q v := fun h1 h2 => viewC_ok hle hM' hx h1 h2
  cases x with
  | agg l =>
    simp only [view] at hv
    split at hv
    · rename_i m hm
      split at hv
      · rename_i hone
        injection hv with hv
        subst hv
        obtain ⟨k1, k2⟩ := viewL_get hm
        cases hx with
        | agg l cs hl ho hr =>
          refine .agg m cs (by omega) (fun e he => List.all_eq_true.1 hone e he) (fun i hi hi' => ?_)
          exact viewC_ok hle hM' (hr i (by omega) hi') (k2 i (by omega) hi) (hf _ (List.getElem_mem _))
      · cases hv
    · cases hv
  | _ => exact hC hv hf
theorem views_get {H : List AO} : ∀ {l : List AV} {m : List PV}, views H l = some m → m.length = l.length ∧ ∀ i (h : i < l.length) (h' : i < m.length), view H l[i] = some m[i]
  | [], m, h => by simp [views] at h; subst h; exact ⟨rfl, fun i h => by simp at h⟩
  | x :: l, m, h => by
    unfold views at h
    split at h
    · rename_i y m' h1 h2
      injection h with h
      subst h
      obtain ⟨k1, k2⟩ := views_get h2
      refine ⟨by simp [k1], fun i hi hi' => ?_⟩
      cases i with
      | zero => exact h1
      | succ i => exact k2 i (by simpa using hi) (by simpa using hi')
    · cases h
/-- A list of values stands for a list of values. -/
def RAs (M : Mem) (l : List AV) (vs : List Value) : Prop := vs.length = l.length ∧ ∀ i (h : i < l.length) (h' : i < vs.length), RA M l[i] vs[i]
def RPs (S : Nat → Prop) (w : World) (l : List PV) (vs : List Value) : Prop := vs.length = l.length ∧ ∀ i (h : i < l.length) (h' : i < vs.length), RP S w l[i] vs[i]
theorem aevs_ok {t : List (Nat × AV)} {a : Act} (hE : Env M t a) : ∀ {l : List Operand} {ys : List AV}, aevs t l = some ys → RAs M ys (l.map a.eval)
  | [], ys, h => by simp [aevs] at h; subst h; exact ⟨rfl, fun i h => by simp at h⟩
  | x :: l, ys, h => by
    unfold aevs at h
    split at h
    · rename_i y m h1 h2
      injection h with h
      subst h
      obtain ⟨k1, k2⟩ := aevs_ok hE h2
      refine ⟨by simpa using k1, fun i hi hi' => ?_⟩
      cases i with
      | zero => exact aev_ok hE h1
      | succ i => exact k2 i (by simpa using hi) (by simpa using hi')
    · cases h
theorem views_ok {M' : Mem} (hle : Le M M') (hM' : MemOk M') {ys : List AV} {vs : List Value} {xs : List PV} (hx : RAs M ys vs) (hv : views M.H ys = some xs) (hf : ∀ x ∈ ys, FzV M.H M'.H x) : RPs M'.shared M'.w xs vs := by
  obtain ⟨k1, k2⟩ := views_get hv
  refine ⟨by rw [hx.1, k1], fun i hi hi' => ?_⟩
  exact view_ok hle hM' (hx.2 i (by omega) hi') (k2 i (by omega) hi) (hf _ (List.getElem_mem _))
end
end Abs
end Go
