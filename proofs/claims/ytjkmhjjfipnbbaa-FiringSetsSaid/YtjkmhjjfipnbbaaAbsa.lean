/-
  AN ABSTRACT MACHINE, part 1: values without worlds, objects of one's own, and how they stand for what lies in memory.
-/
import Derived.Test.YtjkmhjjfipnbbaaApp
namespace Go
namespace Abs
open Go.RowKit

/-- A value that reads alone: a scalar, a readable slice, a struct or an array (its cells). -/
inductive PV where
  | v (x : Value)
  | sl (l : List PV)
  | agg (l : List PV)
  deriving Inhabited
def PV.flat : PV → List PV
  | .agg l => l
  | x => [x]
def PV.one : PV → Bool
  | .agg _ => false
  | _ => true
def scalar : Value → Bool
  | .bool _ | .int _ _ | .string _ | .nilFunc | .nilIface | .pointer none | .slice none 0 0 | .map none => true
  | _ => false
theorem scalar_one {x : Value} (h : scalar x = true) : x.oneCell' = true := by
  unfold scalar at h
  split at h <;> first | rfl | cases h

/-- How such a value stands in w; S: the blocks that it may read. -/
inductive RP (S : Nat → Prop) (w : World) : PV → Value → Prop
  | v (x : Value) (h : scalar x = true) : RP S w (.v x) x
  | sl (l : List PV) (A : Option Addr) (cap sz : Nat) (c : Nat → Nat → Value)
      (h1 : l.length ≤ cap) (h2 : cap ≤ 9223372036854775807)
      (hs : ∀ i (h : i < l.length), (l[i]).flat.length = sz ∧ ∀ e ∈ (l[i]).flat, e.one = true)
      (ha : l = [] ∨ ∃ b off, A = some ⟨b, off, none⟩ ∧ S b ∧ ∀ i j, i < l.length → j < sz → w.cell? ⟨b, off + i * sz + j, none⟩ = some (c i j))
      (hr : ∀ i (h : i < l.length) j (hj : j < (l[i]).flat.length), RP S w ((l[i]).flat[j]) (c i j)) : RP S w (.sl l) (.slice A l.length cap)
  | agg (l : List PV) (cs : Array Value) (hl : cs.size = l.length) (ho : ∀ e ∈ l, e.one = true)
      (hr : ∀ i (h : i < l.length) (h' : i < cs.size), RP S w l[i] cs[i]) : RP S w (.agg l) (.agg cs)

theorem RP.mono {S S' : Nat → Prop} {w w' : World} (hm : ∀ b, S b → S' b ∧ w'.heap[b]? = w.heap[b]?) {x : PV} {v : Value} (h : RP S w x v) : RP S' w' x v := by
  induction h with
  | v x h => exact .v x h
  | sl l A cap sz c h1 h2 hs ha hr ih =>
    refine .sl l A cap sz c h1 h2 hs ?_ ih
    rcases ha with ha | ⟨b, off, e, hb, hc⟩
    · exact .inl ha
    · refine .inr ⟨b, off, e, (hm b hb).1, fun i j hi hj => ?_⟩
      rw [World.cell?_of_block (w := w) (w' := w') (hm b hb).2]
      exact hc i j hi hj
  | agg l cs hl ho hr ih => exact .agg l cs hl ho ih
theorem RP.one {S : Nat → Prop} {w : World} {x : PV} {v : Value} (h : RP S w x v) (ho : x.one = true) : v.oneCell' = true := by
  cases h with
  | v x h => exact scalar_one h
  | sl => rfl
  | agg => cases ho

/-- A value of the abstract machine. -/
inductive AV where
  | p (x : PV)
  | os (o off len : Nat)
  | ptr (o n i j : Nat)
  | sp (e : PV) (j : Nat)
  | agg (l : List AV)
  | tup (l : List AV)
  | fn (f : Fn) (first cap : List AV)
  | dead
  deriving Inhabited
def AV.flat : AV → List AV
  | .p x => x.flat.map .p
  | .agg l => l
  | x => [x]
/-- An object of one's own: a row behind a slice, or a variable. -/
inductive AO where
  | row (els : List PV) (sz : Nat) (t : TypeId) (fz : Bool)
  | box (x : AV)
  deriving Inhabited
def AO.len : AO → Nat
  | .row els _ _ _ => els.length
  | .box _ => 1
def AO.sz : AO → Nat
  | .row _ sz _ _ => sz
  | .box _ => 0
def AO.fz : AO → Bool
  | .row _ _ _ fz => fz
  | .box _ => false
def AO.tag : AO → Option TypeId
  | .row _ _ t _ => some t
  | .box _ => none

structure Mem where
  w : World
  H : List AO
  φ : Nat → Option Nat
  base : Nat
  S : Nat → Prop
def Mem.shared (M : Mem) (b : Nat) : Prop := b < M.w.heap.size ∧ (b < M.base → M.S b) ∧ ∀ o ob, M.H[o]? = some ob → ob.fz = false → M.φ o ≠ some b

def OsOk (M : Mem) (o off len : Nat) (v : Value) : Prop :=
  ∃ ob, M.H[o]? = some ob ∧ off + len ≤ ob.len ∧ (off + len = ob.len → ∀ t, ob.tag = some t →
    (M.φ o = none ∧ off = 0 ∧ len = 0 ∧ v = .slice none 0 0) ∨ ∃ b cap, M.φ o = some b ∧ v = .slice (some ⟨b, off * ob.sz, none⟩) len cap ∧ len ≤ cap ∧ cap ≤ 9223372036854775807 ∧ M.w.shape? b = some (t, (off + cap) * ob.sz))
def PtrOk (M : Mem) (o n i j : Nat) (v : Value) : Prop :=
  ∃ ob, M.H[o]? = some ob ∧ n ≤ ob.len ∧ (n = ob.len → ∃ b, M.φ o = some b ∧ v = .pointer (some ⟨b, i * ob.sz + j, none⟩))

inductive RA (M : Mem) : AV → Value → Prop
  | p (x : PV) (v : Value) (h : RP M.shared M.w x v) : RA M (.p x) v
  | os (o off len : Nat) (v : Value) (h : OsOk M o off len v) : RA M (.os o off len) v
  | ptr (o n i j : Nat) (v : Value) (h : PtrOk M o n i j v) : RA M (.ptr o n i j) v
  | sp (e : PV) (j b off : Nat) (c : Nat → Value) (hb : M.shared b) (ho : ∀ x ∈ e.flat, x.one = true) (hc : ∀ k, k < e.flat.length → M.w.cell? ⟨b, off + k, none⟩ = some (c k))
      (hr : ∀ k (h : k < e.flat.length), RP M.shared M.w (e.flat[k]) (c k)) : RA M (.sp e j) (.pointer (some ⟨b, off + j, none⟩))
  | agg (l : List AV) (cs : Array Value) (hl : cs.size = l.length) (ho : ∀ c ∈ cs, c.oneCell' = true) (hr : ∀ i (h : i < l.length) (h' : i < cs.size), RA M l[i] cs[i]) : RA M (.agg l) (.agg cs)
  | tup (l : List AV) (cs : Array Value) (hl : cs.size = l.length) (hr : ∀ i (h : i < l.length) (h' : i < cs.size), RA M l[i] cs[i]) : RA M (.tup l) (.tuple cs)
  | fn (f : Fn) (first cap : List AV) (fs cs : Array Value) (hl : fs.size = first.length) (hl' : cs.size = cap.length) (hr : ∀ i (h : i < first.length) (h' : i < fs.size), RA M first[i] fs[i])
      (hr' : ∀ i (h : i < cap.length) (h' : i < cs.size), RA M cap[i] cs[i]) : RA M (.fn f first cap) (.func f fs cs)
  | dead (v : Value) : RA M .dead v

/-- What held of M holds of M'. -/
structure Le (M M' : Mem) : Prop where
  sh : ∀ b, M.shared b → M'.shared b ∧ M'.w.heap[b]? = M.w.heap[b]?
  ob : ∀ o ob, M.H[o]? = some ob → ∃ ob', M'.H[o]? = some ob' ∧ ob'.tag = ob.tag ∧ ob.len ≤ ob'.len ∧
    (ob'.len = ob.len → ob'.sz = ob.sz ∧ M'.φ o = M.φ o ∧ ∀ b, M.φ o = some b → M'.w.shape? b = M.w.shape? b)
theorem Le.refl (M : Mem) : Le M M := ⟨fun _ h => ⟨h, rfl⟩, fun _ ob h => ⟨ob, h, rfl, Nat.le_refl _, fun _ => ⟨rfl, rfl, fun _ _ => rfl⟩⟩⟩
theorem Le.trans {A B C : Mem} (h : Le A B) (k : Le B C) : Le A C where
  sh b hb := ⟨(k.sh b (h.sh b hb).1).1, (k.sh b (h.sh b hb).1).2.trans (h.sh b hb).2⟩
  ob o ob ho := by
    obtain ⟨ob1, h1, h2, h3, h4⟩ := h.ob o ob ho
    obtain ⟨ob2, k1, k2, k3, k4⟩ := k.ob o ob1 h1
    refine ⟨ob2, k1, k2.trans h2, Nat.le_trans h3 k3, fun e => ?_⟩
    have e1 : ob1.len = ob.len := by omega
    have e2 : ob2.len = ob1.len := by omega
    obtain ⟨a1, a2, a3⟩ := h4 e1
    obtain ⟨b1, b2, b3⟩ := k4 e2
    exact ⟨b1.trans a1, b2.trans a2, fun b hb => (b3 b (a2.trans hb)).trans (a3 b hb)⟩
theorem OsOk.mono {M M' : Mem} (hm : Le M M') {o off len : Nat} {v : Value} (h : OsOk M o off len v) : OsOk M' o off len v := by
  obtain ⟨ob, h1, h2, h3⟩ := h
  obtain ⟨ob', k1, k2, k3, k4⟩ := hm.ob o ob h1
  refine ⟨ob', k1, by omega, fun e t ht => ?_⟩
  have e1 : ob'.len = ob.len := by omega
  obtain ⟨a1, a2, a3⟩ := k4 e1
  rcases h3 (by omega) t (k2 ▸ ht) with ⟨hn, hz, hl, hv⟩ | ⟨b, cap, hb, hv, hc1, hc2, hs⟩
  · exact .inl ⟨a2.trans hn, hz, hl, hv⟩
  · exact .inr ⟨b, cap, a2.trans hb, by rw [a1]; exact hv, hc1, hc2, by rw [a1, a3 b hb]; exact hs⟩
theorem PtrOk.mono {M M' : Mem} (hm : Le M M') {o n i j : Nat} {v : Value} (h : PtrOk M o n i j v) : PtrOk M' o n i j v := by
  obtain ⟨ob, h1, h2, h3⟩ := h
  obtain ⟨ob', k1, k2, k3, k4⟩ := hm.ob o ob h1
  refine ⟨ob', k1, by omega, fun e => ?_⟩
  have e1 : ob'.len = ob.len := by omega
  obtain ⟨a1, a2, _⟩ := k4 e1
  obtain ⟨b, hb, hv⟩ := h3 (by omega)
  exact ⟨b, a2.trans hb, by rw [a1]; exact hv⟩
theorem RA.mono {M M' : Mem} (hm : Le M M') {x : AV} {v : Value} (h : RA M x v) : RA M' x v := by
  induction h with
  | p x v h => exact .p x v (h.mono hm.sh)
  | os o off len v h => exact .os o off len v (h.mono hm)
  | ptr o n i j v h => exact .ptr o n i j v (h.mono hm)
  | sp e j b off c hb ho hc hr =>
    refine .sp e j b off c (hm.sh b hb).1 ho (fun k hk => ?_) (fun k hk => (hr k hk).mono hm.sh)
    rw [World.cell?_of_block (w := M.w) (w' := M'.w) (hm.sh b hb).2]
    exact hc k hk
  | agg l cs hl ho hr ih => exact .agg l cs hl ho ih
  | tup l cs hl hr ih => exact .tup l cs hl ih
  | fn f first cap fs cs hl hl' hr hr' ih ih' => exact .fn f first cap fs cs hl hl' ih ih'
  | dead v => exact .dead v

def RowOk (M : Mem) (o : Nat) (els : List PV) (sz : Nat) (t : TypeId) : Prop :=
  (∀ e ∈ els, e.flat.length = sz ∧ ∀ c ∈ e.flat, c.one = true) ∧
  ((M.φ o = none ∧ els = []) ∨ ∃ b cur cap, M.φ o = some b ∧ M.w.heap[b]? = some (.cells cur t (0, 0)) ∧ cur.size = cap * sz ∧ els.length ≤ cap ∧
    ∀ i (h : i < els.length) j (hj : j < (els[i]).flat.length), ∃ c, cur[i * sz + j]? = some c ∧ RP M.shared M.w ((els[i]).flat[j]) c)
def CellsOk (M : Mem) (l : List AV) (cur : Array Value) : Prop := cur.size = l.length ∧ ∀ i (h : i < l.length), ∃ c, cur[i]? = some c ∧ RA M l[i] c ∧ c.oneCell' = true
def BoxOk (M : Mem) (o : Nat) (x : AV) : Prop := ∃ b cur t, M.φ o = some b ∧ M.w.heap[b]? = some (.cells cur t (0, 0)) ∧ CellsOk M x.flat cur
def ObOk (M : Mem) (o : Nat) : AO → Prop
  | .row els sz t _ => RowOk M o els sz t
  | .box x => BoxOk M o x
theorem CellsOk.mono {M M' : Mem} (hm : Le M M') {l : List AV} {cur : Array Value} (h : CellsOk M l cur) : CellsOk M' l cur :=
  ⟨h.1, fun i hi => let ⟨c, h1, h2, h3⟩ := h.2 i hi; ⟨c, h1, h2.mono hm, h3⟩⟩
theorem ObOk.mono {M M' : Mem} (hm : Le M M') {o : Nat} {ob : AO} (hφ : M'.φ o = M.φ o) (hh : ∀ b, M.φ o = some b → M'.w.heap[b]? = M.w.heap[b]?) (h : ObOk M o ob) : ObOk M' o ob := by
  cases ob with
  | row els sz t fz =>
    refine ⟨h.1, ?_⟩
    rcases h.2 with ⟨h1, h2⟩ | ⟨b, cur, cap, hb, hc, h1, h2, h3⟩
    · exact .inl ⟨hφ.trans h1, h2⟩
    · exact .inr ⟨b, cur, cap, hφ.trans hb, (hh b hb).trans hc, h1, h2, fun i hi j hj => let ⟨c, k1, k2⟩ := h3 i hi j hj; ⟨c, k1, k2.mono hm.sh⟩⟩
  | box x =>
    obtain ⟨b, cur, t, hb, hc, h1⟩ := h
    exact ⟨b, cur, t, hφ.trans hb, (hh b hb).trans hc, h1.mono hm⟩

structure MemOk (M : Mem) : Prop where
  ok : ∀ o ob, M.H[o]? = some ob → ObOk M o ob
  inj : ∀ o o' b, o < M.H.length → o' < M.H.length → M.φ o = some b → M.φ o' = some b → o = o'
  lo : ∀ o b, o < M.H.length → M.φ o = some b → M.base ≤ b
  bs : M.base ≤ M.w.heap.size
theorem MemOk.lt {M : Mem} (h : MemOk M) {o b : Nat} (ho : o < M.H.length) (hb : M.φ o = some b) : b < M.w.heap.size := by
  have hk := h.ok o M.H[o] (List.getElem?_eq_getElem ho)
  cases hob : M.H[o] with
  | row els sz t fz =>
    rw [hob] at hk
    rcases hk.2 with ⟨h1, _⟩ | ⟨b', cur, cap, h1, h2, _⟩
    · rw [hb] at h1; cases h1
    · rw [hb] at h1; injection h1 with h1; subst h1; exact lt_of_block h2
  | box x =>
    rw [hob] at hk
    obtain ⟨b', cur, t, h1, h2, _⟩ := hk
    rw [hb] at h1; injection h1 with h1; subst h1; exact lt_of_block h2

def upd (φ : Nat → Option Nat) (o : Nat) (b : Option Nat) : Nat → Option Nat := fun k => if k = o then b else φ k

/-- One object more, perhaps behind a new block. -/
theorem Le.grow {M : Mem} (hM : MemOk M) {w' : World} {ob : AO} {nb : Option Nat} (hsz : M.w.heap.size ≤ w'.heap.size) (hold : ∀ b, b < M.w.heap.size → w'.heap[b]? = M.w.heap[b]?)
    (hnb : ∀ b, nb = some b → M.w.heap.size ≤ b) : Le M ⟨w', M.H ++ [ob], upd M.φ M.H.length nb, M.base, M.S⟩ where
  sh b hb := by
    obtain ⟨h1, h2, h3⟩ := hb
    refine ⟨⟨Nat.lt_of_lt_of_le h1 hsz, h2, fun o ob' ho hf => ?_⟩, hold b h1⟩
    dsimp only at ho ⊢
    simp only [upd]
    by_cases hlt : o < M.H.length
    · rw [List.getElem?_append_left hlt] at ho
      rw [if_neg (by omega)]
      exact h3 o ob' ho hf
    · have : o = M.H.length := by
        have := (List.getElem?_eq_some_iff.1 ho).1
        simp at this; omega
      rw [if_pos this]
      intro e
      have := hnb b e
      omega
  ob o ob' ho := by
    have hlt := (List.getElem?_eq_some_iff.1 ho).1
    refine ⟨ob', by dsimp only; rw [List.getElem?_append_left hlt]; exact ho, rfl, Nat.le_refl _, fun _ => ⟨rfl, by simp only [upd]; rw [if_neg (by omega)], fun b hb => ?_⟩⟩
    have := hold b (hM.lt hlt hb)
    simp [World.shape?, this]
theorem MemOk.grow {M : Mem} (hM : MemOk M) {w' : World} {ob : AO} {nb : Option Nat} (hsz : M.w.heap.size ≤ w'.heap.size) (hold : ∀ b, b < M.w.heap.size → w'.heap[b]? = M.w.heap[b]?)
    (hnb : ∀ b, nb = some b → M.w.heap.size ≤ b) (hob : ObOk ⟨w', M.H ++ [ob], upd M.φ M.H.length nb, M.base, M.S⟩ M.H.length ob) : MemOk ⟨w', M.H ++ [ob], upd M.φ M.H.length nb, M.base, M.S⟩ where
  ok o ob' ho := by
    dsimp only at ho
    by_cases hlt : o < M.H.length
    · rw [List.getElem?_append_left hlt] at ho
      refine (hM.ok o ob' ho).mono (Le.grow hM hsz hold hnb) (by simp only [upd]; rw [if_neg (by omega)]) (fun b hb => hold b (hM.lt hlt hb))
    · have e : o = M.H.length := by
        have := (List.getElem?_eq_some_iff.1 ho).1
        simp at this; omega
      subst e
      simp at ho
      subst ho
      exact hob
  inj o o' b ho ho' hb hb' := by
    simp only [List.length_append, List.length_singleton] at ho ho'
    simp only [upd] at hb hb'
    by_cases e : o = M.H.length <;> by_cases e' : o' = M.H.length
    · omega
    · rw [if_pos e] at hb
      rw [if_neg e'] at hb'
      have := hM.lt (o := o') (by omega) hb'
      have := hnb b hb
      omega
    · rw [if_neg e] at hb
      rw [if_pos e'] at hb'
      have := hM.lt (o := o) (by omega) hb
      have := hnb b hb'
      omega
    · rw [if_neg e] at hb
      rw [if_neg e'] at hb'
      exact hM.inj o o' b (by omega) (by omega) hb hb'
  lo o b ho hb := by
    simp only [List.length_append, List.length_singleton] at ho
    simp only [upd] at hb
    by_cases e : o = M.H.length
    · rw [if_pos e] at hb
      have := hnb b hb
      have := hM.bs
      dsimp only
      omega
    · rw [if_neg e] at hb
      exact hM.lo o b (by omega) hb
  bs := Nat.le_trans hM.bs hsz

/-- Object o is turned: the block behind it, and no other block, is another one. -/
theorem Le.turn {M : Mem} (hM : MemOk M) {o : Nat} {ob ob' : AO} (ho : M.H[o]? = some ob) (hfz : ob.fz = false) {w' : World} {nb : Option Nat} (hsz : M.w.heap.size ≤ w'.heap.size)
    (hold : ∀ b, b < M.w.heap.size → M.φ o ≠ some b → w'.heap[b]? = M.w.heap[b]?) (hnb : nb = M.φ o ∨ ∀ b, nb = some b → M.w.heap.size ≤ b) (htag : ob'.tag = ob.tag) (hlen : ob.len ≤ ob'.len)
    (hsame : ob'.len = ob.len → ob'.sz = ob.sz ∧ nb = M.φ o ∧ ∀ b, M.φ o = some b → w'.shape? b = M.w.shape? b) :
    Le M ⟨w', M.H.set o ob', upd M.φ o nb, M.base, M.S⟩ where
  sh b hb := by
    obtain ⟨h1, h2, h3⟩ := hb
    refine ⟨⟨Nat.lt_of_lt_of_le h1 hsz, h2, fun o2 ob2 ho2 hf => ?_⟩, hold b h1 (h3 o ob ho hfz)⟩
    dsimp only at ho2 ⊢
    simp only [upd]
    by_cases e : o2 = o
    · rw [if_pos e]
      rcases hnb with hnb | hnb
      · rw [hnb]; exact h3 o ob ho hfz
      · intro e2
        have := hnb b e2
        omega
    · rw [if_neg e]
      rw [List.getElem?_set_ne (by omega)] at ho2
      exact h3 o2 ob2 ho2 hf
  ob o2 ob2 ho2 := by
    have hlt := (List.getElem?_eq_some_iff.1 ho2).1
    by_cases e : o2 = o
    · subst e
      rw [ho] at ho2
      injection ho2 with ho2
      subst ho2
      refine ⟨ob', by simp [hlt], htag, hlen, fun e => ?_⟩
      obtain ⟨a1, a2, a3⟩ := hsame e
      exact ⟨a1, by simp [upd, a2], a3⟩
    · refine ⟨ob2, by dsimp only; rw [List.getElem?_set_ne (by omega)]; exact ho2, rfl, Nat.le_refl _, fun _ => ⟨rfl, by simp only [upd]; rw [if_neg e], fun b hb => ?_⟩⟩
      have hne : M.φ o ≠ some b := fun h => e (hM.inj o2 o b hlt (List.getElem?_eq_some_iff.1 ho).1 hb h)
      have := hold b (hM.lt hlt hb) hne
      simp [World.shape?, this]
theorem MemOk.turn {M : Mem} (hM : MemOk M) {o : Nat} {ob ob' : AO} (ho : M.H[o]? = some ob) (hfz : ob.fz = false) {w' : World} {nb : Option Nat} (hsz : M.w.heap.size ≤ w'.heap.size)
    (hold : ∀ b, b < M.w.heap.size → M.φ o ≠ some b → w'.heap[b]? = M.w.heap[b]?) (hnb : nb = M.φ o ∨ ∀ b, nb = some b → M.w.heap.size ≤ b) (htag : ob'.tag = ob.tag) (hlen : ob.len ≤ ob'.len)
    (hsame : ob'.len = ob.len → ob'.sz = ob.sz ∧ nb = M.φ o ∧ ∀ b, M.φ o = some b → w'.shape? b = M.w.shape? b)
    (hob : ObOk ⟨w', M.H.set o ob', upd M.φ o nb, M.base, M.S⟩ o ob') : MemOk ⟨w', M.H.set o ob', upd M.φ o nb, M.base, M.S⟩ where
  ok o2 ob2 ho2 := by
    dsimp only at ho2
    have hlt := (List.getElem?_eq_some_iff.1 ho2).1
    by_cases e : o2 = o
    · subst e
      simp at hlt
      simp [hlt] at ho2
      subst ho2
      exact hob
    · rw [List.getElem?_set_ne (by omega)] at ho2
      have hlt2 := (List.getElem?_eq_some_iff.1 ho2).1
      refine (hM.ok o2 ob2 ho2).mono (Le.turn hM ho hfz hsz hold hnb htag hlen hsame) (by simp only [upd]; rw [if_neg e]) (fun b hb => hold b (hM.lt hlt2 hb) ?_)
      exact fun h => e (hM.inj o2 o b hlt2 (List.getElem?_eq_some_iff.1 ho).1 hb h)
  inj o1 o2 b h1 h2 hb hb' := by
    simp only [List.length_set] at h1 h2
    simp only [upd] at hb hb'
    have hlo := (List.getElem?_eq_some_iff.1 ho).1
    by_cases e : o1 = o <;> by_cases e' : o2 = o
    · omega
    · rw [if_pos e] at hb
      rw [if_neg e'] at hb'
      rcases hnb with hnb | hnb
      · rw [hnb] at hb; exact absurd (hM.inj o2 o b h2 hlo hb' hb) e'
      · have := hnb b hb; have := hM.lt h2 hb'; omega
    · rw [if_neg e] at hb
      rw [if_pos e'] at hb'
      rcases hnb with hnb | hnb
      · rw [hnb] at hb'; exact absurd (hM.inj o1 o b h1 hlo hb hb') e
      · have := hnb b hb'; have := hM.lt h1 hb; omega
    · rw [if_neg e] at hb
      rw [if_neg e'] at hb'
      exact hM.inj o1 o2 b h1 h2 hb hb'
  lo o1 b h1 hb := by
    simp only [List.length_set] at h1
    simp only [upd] at hb
    have hlo := (List.getElem?_eq_some_iff.1 ho).1
    by_cases e : o1 = o
    · rw [if_pos e] at hb
      rcases hnb with hnb | hnb
      · rw [hnb] at hb; exact hM.lo o b hlo hb
      · have := hnb b hb
        have := hM.bs
        dsimp only
        omega
    · rw [if_neg e] at hb
      exact hM.lo o1 b h1 hb
  bs := Nat.le_trans hM.bs hsz
theorem Le.heap {M : Mem} {w' : World} (hh : w'.heap = M.w.heap) : Le M ⟨w', M.H, M.φ, M.base, M.S⟩ where
  sh b hb := ⟨⟨by rw [hh]; exact hb.1, hb.2.1, hb.2.2⟩, by rw [hh]⟩
  ob o ob ho := ⟨ob, ho, rfl, Nat.le_refl _, fun _ => ⟨rfl, rfl, fun b _ => by simp [World.shape?, hh]⟩⟩
theorem MemOk.heap {M : Mem} (hM : MemOk M) {w' : World} (hh : w'.heap = M.w.heap) : MemOk ⟨w', M.H, M.φ, M.base, M.S⟩ where
  ok o ob ho := (hM.ok o ob ho).mono (Le.heap hh) rfl (fun b _ => by rw [hh])
  inj := hM.inj
  lo := hM.lo
  bs := by dsimp only; rw [hh]; exact hM.bs
end Abs
end Go
