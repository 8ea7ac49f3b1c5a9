/-
  Texts joined: Maa.
-/
import Derived.Test.YtekniokkmgencaaGreatKh3
import Derived.Lib.MinMax
import Derived.Great.BuildSlice
import Derived.Laws.CopyOwn
section
namespace Go
namespace Abs
open Go.RowKit
inductive PV where
  | v (x : Value)
  | sl (l : List PV)
  | agg (l : List PV)
  deriving Inhabited
def PV.flat : PV → List PV
  | .agg l => l
  | x => [x]
def PV.one : PV → Bool
  | .agg _ => false
  | _ => true
def scalar : Value → Bool
  | .bool _ | .int _ _ | .string _ | .nilFunc | .nilIface | .pointer none | .slice none 0 0 | .map none => true
  | _ => false
theorem scalar_one {x : Value} (h : scalar x = true) : x.oneCell' = true := by
  unfold scalar at h
  split at h <;> first | rfl | cases h
inductive RP (S : Nat → Prop) (w : World) : PV → Value → Prop
  | v (x : Value) (h : scalar x = true) : RP S w (.v x) x
  | sl (l : List PV) (A : Option Addr) (cap sz : Nat) (c : Nat → Nat → Value)
      (h1 : l.length ≤ cap) (h2 : cap ≤ 9223372036854775807)
      (hs : ∀ i (h : i < l.length), (l[i]).flat.length = sz ∧ ∀ e ∈ (l[i]).flat, e.one = true)
      (ha : l = [] ∨ ∃ b off, A = some ⟨b, off, none⟩ ∧ S b ∧ ∀ i j, i < l.length → j < sz → w.cell? ⟨b, off + i * sz + j, none⟩ = some (c i j))
      (hr : ∀ i (h : i < l.length) j (hj : j < (l[i]).flat.length), RP S w ((l[i]).flat[j]) (c i j)) : RP S w (.sl l) (.slice A l.length cap)
  | agg (l : List PV) (cs : Array Value) (hl : cs.size = l.length) (ho : ∀ e ∈ l, e.one = true)
      (hr : ∀ i (h : i < l.length) (h' : i < cs.size), RP S w l[i] cs[i]) : RP S w (.agg l) (.agg cs)
theorem RP.mono {S S' : Nat → Prop} {w w' : World} (hm : ∀ b, S b → S' b ∧ w'.heap[b]? = w.heap[b]?) {x : PV} {v : Value} (h : RP S w x v) : RP S' w' x v := by
  induction h with
  | v x h => exact .v x h
  | sl l A cap sz c h1 h2 hs ha hr ih =>
    refine .sl l A cap sz c h1 h2 hs ?_ ih
    rcases ha with ha | ⟨b, off, e, hb, hc⟩
    · exact .inl ha
    · refine .inr ⟨b, off, e, (hm b hb).1, fun i j hi hj => ?_⟩
      rw [World.cell?_of_block (w := w) (w' := w') (hm b hb).2]
      exact hc i j hi hj
  | agg l cs hl ho hr ih => exact .agg l cs hl ho ih
theorem RP.one {S : Nat → Prop} {w : World} {x : PV} {v : Value} (h : RP S w x v) (ho : x.one = true) : v.oneCell' = true := by
  cases h with
  | v x h => exact scalar_one h
  | sl => rfl
  | agg => cases ho
inductive AV where
  | p (x : PV)
  | os (o off len : Nat)
  | ptr (o n i j : Nat)
  | sp (e : PV) (j : Nat)
  | agg (l : List AV)
  | tup (l : List AV)
  | fn (f : Fn) (first cap : List AV)
  | dead
  | mp (o : Nat)
  | bs (o j len : Nat)
  | yl (o : Nat)
  | cut (o off len k : Nat)
  | bc (o len cap : Nat)
  | ifc (t : TypeId) (x : AV)
  deriving Inhabited
def AV.flat : AV → List AV
  | .p x => x.flat.map .p
  | .agg l => l
  | x => [x]
inductive KV where
  | ki (k : IntKind) (n : Int)
  | kb (t : Bool)
  | ks (l : List UInt8)
  | kl (ns : List Int)
  | kt (bs : List Bool)
  deriving DecidableEq, Inhabited
def KV.val : KV → Value
  | .ki k n => .int k n
  | .kb t => .bool t
  | .ks l => .string ⟨l.toArray⟩
  | .kl ns => .agg (ns.map fun n => Value.int .i64 n).toArray
  | .kt bs => .agg (bs.map fun b => Value.bool b).toArray
inductive KD where
  | int (k : IntKind)
  | bool
  | str
  | arr (len : Nat)
  | arrB (len : Nat)
  deriving DecidableEq, Inhabited
def KV.fit : KD → KV → Bool
  | .int q, .ki k n => decide (k = q) && (Lit.int k n).wf
  | .bool, .kb _ => true
  | .str, .ks l => decide (l.length ≤ maxLen)
  | .arr len, .kl ns => decide (ns.length = len) && ns.all fun n => (Lit.int .i64 n).wf
  | .arrB len, .kt bs => decide (bs.length = len) && decide (0 < len)
  | _, _ => false
inductive LSt where
  | ready
  | busy
  | done (j : Code)
  | over
def get : List (Nat × AV) → Nat → AV
  | [], _ => .dead
  | (j, x) :: t, i => if j = i then x else get t i
inductive AO where
  | row (els : List PV) (sz : Nat) (t : TypeId) (fz : Bool)
  | box (x : AV)
  | tab (els : List AV) (t : TypeId) (fz : Bool)
  | dict (kd : KD) (es : List (KV × AV))
  | fbx (x : AV)
  | lp (n : Nat) (t : List (Nat × AV)) (ps : List Nat) (a c : Code) (st : LSt)
  | arr (els : List AV) (sz : Nat) (t : TypeId)
  deriving Inhabited
def AO.len : AO → Nat
  | .row els _ _ _ => els.length
  | .tab els _ _ => els.length
  | .arr els _ _ => els.length
  | .box _ | .dict _ _ | .fbx _ | .lp .. => 1
def AO.sz : AO → Nat
  | .row _ sz _ _ => sz
  | .tab _ _ _ => 1
  | .arr _ sz _ => sz
  | .box _ | .dict _ _ | .fbx _ | .lp .. => 0
def AO.fz : AO → Bool
  | .row _ _ _ fz => fz
  | .tab _ _ fz => fz
  | .fbx _ => true
  | .box _ | .dict _ _ | .lp .. | .arr .. => false
def AO.tag : AO → Option TypeId
  | .row _ _ t _ => some t
  | .tab _ t _ => some t
  | .arr _ _ t => some t
  | .box _ | .dict _ _ | .fbx _ | .lp .. => none
structure Mem where
  w : World
  H : List AO
  φ : Nat → Option Nat
  base : Nat
  S : Nat → Prop
def Mem.shared (M : Mem) (b : Nat) : Prop := b < M.w.heap.size ∧ (b < M.base → M.S b) ∧ ∀ o ob, M.H[o]? = some ob → ob.fz = false → M.φ o ≠ some b
def OsOk (M : Mem) (o off len : Nat) (v : Value) : Prop :=
  ∃ ob, M.H[o]? = some ob ∧ off + len ≤ ob.len ∧ (off + len = ob.len → ∀ t, ob.tag = some t →
    ((M.φ o = none ∧ off = 0 ∧ len = 0 ∧ v = .slice none 0 0) ∨ ∃ b cap, M.φ o = some b ∧ v = .slice (some ⟨b, off * ob.sz, none⟩) len cap ∧ len ≤ cap ∧ cap ≤ 9223372036854775807 ∧ M.w.shape? b = some (t, (off + cap) * ob.sz)) ∨ (0 < off ∧ len = 0 ∧ ∃ A, v = .slice A 0 0))
def PtrOk (M : Mem) (o n i j : Nat) (v : Value) : Prop :=
  ∃ ob, M.H[o]? = some ob ∧ n ≤ ob.len ∧ (n = ob.len → ∃ b, M.φ o = some b ∧ v = .pointer (some ⟨b, i * ob.sz + j, none⟩))
def CutOk (M : Mem) (o off len k : Nat) (v : Value) : Prop :=
  ∃ ob, M.H[o]? = some ob ∧ k ≤ ob.len ∧ (ob.len = k → ∃ b cap, M.φ o = some b ∧ v = .slice (some ⟨b, off * ob.sz, none⟩) len cap ∧ len ≤ cap ∧ cap ≤ 9223372036854775807)
def BlkOk (M : Mem) (o : Nat) (f : Nat → Value) (v : Value) : Prop :=
  ∃ ob, M.H[o]? = some ob ∧ 1 ≤ ob.len ∧ (ob.len = 1 → ∃ b, M.φ o = some b ∧ v = f b)
def mapAt (b : Nat) : Value := .map (some b)
def yieldV (b : Nat) : Value := .func (.yield b) #[] #[]
def sliceAt (j len b : Nat) : Value := .slice (some ⟨b, j, none⟩) len len
def capAt (len cap b : Nat) : Value := .slice (some ⟨b, 0, none⟩) len cap
inductive RA (M : Mem) : AV → Value → Prop
  | p (x : PV) (v : Value) (h : RP M.shared M.w x v) : RA M (.p x) v
  | os (o off len : Nat) (v : Value) (h : OsOk M o off len v) : RA M (.os o off len) v
  | ptr (o n i j : Nat) (v : Value) (h : PtrOk M o n i j v) : RA M (.ptr o n i j) v
  | sp (e : PV) (j b off : Nat) (c : Nat → Value) (hb : M.shared b) (ho : ∀ x ∈ e.flat, x.one = true) (hc : ∀ k, k < e.flat.length → M.w.cell? ⟨b, off + k, none⟩ = some (c k))
      (hr : ∀ k (h : k < e.flat.length), RP M.shared M.w (e.flat[k]) (c k)) : RA M (.sp e j) (.pointer (some ⟨b, off + j, none⟩))
  | agg (l : List AV) (cs : Array Value) (hl : cs.size = l.length) (ho : ∀ c ∈ cs, c.oneCell' = true) (hr : ∀ i (h : i < l.length) (h' : i < cs.size), RA M l[i] cs[i]) : RA M (.agg l) (.agg cs)
  | tup (l : List AV) (cs : Array Value) (hl : cs.size = l.length) (hr : ∀ i (h : i < l.length) (h' : i < cs.size), RA M l[i] cs[i]) : RA M (.tup l) (.tuple cs)
  | fn (f : Fn) (first cap : List AV) (fs cs : Array Value) (hl : fs.size = first.length) (hl' : cs.size = cap.length) (hr : ∀ i (h : i < first.length) (h' : i < fs.size), RA M first[i] fs[i])
      (hr' : ∀ i (h : i < cap.length) (h' : i < cs.size), RA M cap[i] cs[i]) : RA M (.fn f first cap) (.func f fs cs)
  | dead (v : Value) : RA M .dead v
  | mp (o : Nat) (v : Value) (h : BlkOk M o mapAt v) : RA M (.mp o) v
  | bs (o j len : Nat) (v : Value) (hl : len ≤ 9223372036854775807) (h : BlkOk M o (sliceAt j len) v) : RA M (.bs o j len) v
  | yl (o : Nat) (v : Value) (h : BlkOk M o yieldV v) : RA M (.yl o) v
  | cut (o off len k : Nat) (v : Value) (h : CutOk M o off len k v) : RA M (.cut o off len k) v
  | bc (o len cap : Nat) (v : Value) (hl : len ≤ cap) (hc : cap ≤ 9223372036854775807) (h0 : cap = 0 → v = .slice none 0 0) (h : 0 < cap → BlkOk M o (capAt len cap) v) : RA M (.bc o len cap) v
  | ifc (t : TypeId) (x : AV) (v : Value) (h : RA M x v) : RA M (.ifc t x) (.iface t v)
structure Le (M M' : Mem) : Prop where
  sh : ∀ b, M.shared b → M'.shared b ∧ M'.w.heap[b]? = M.w.heap[b]?
  ob : ∀ o ob, M.H[o]? = some ob → ∃ ob', M'.H[o]? = some ob' ∧ ob'.tag = ob.tag ∧ ob.len ≤ ob'.len ∧
    (ob'.len = ob.len → ob'.sz = ob.sz ∧ M'.φ o = M.φ o ∧ ∀ b, M.φ o = some b → M'.w.shape? b = M.w.shape? b)
theorem Le.refl (M : Mem) : Le M M := ⟨fun _ h => ⟨h, rfl⟩, fun _ ob h => ⟨ob, h, rfl, Nat.le_refl _, fun _ => ⟨rfl, rfl, fun _ _ => rfl⟩⟩⟩
theorem Le.trans {A B C : Mem} (h : Le A B) (k : Le B C) : Le A C where
  sh b hb := ⟨(k.sh b (h.sh b hb).1).1, (k.sh b (h.sh b hb).1).2.trans (h.sh b hb).2⟩
  ob o ob ho := by
    obtain ⟨ob1, h1, h2, h3, h4⟩ := h.ob o ob ho
    obtain ⟨ob2, k1, k2, k3, k4⟩ := k.ob o ob1 h1
    refine ⟨ob2, k1, k2.trans h2, Nat.le_trans h3 k3, fun e => ?_⟩
    have e1 : ob1.len = ob.len := by omega
    have e2 : ob2.len = ob1.len := by omega
    obtain ⟨a1, a2, a3⟩ := h4 e1
    obtain ⟨b1, b2, b3⟩ := k4 e2
    exact ⟨b1.trans a1, b2.trans a2, fun b hb => (b3 b (a2.trans hb)).trans (a3 b hb)⟩
theorem OsOk.mono {M M' : Mem} (hm : Le M M') {o off len : Nat} {v : Value} (h : OsOk M o off len v) : OsOk M' o off len v := by
  obtain ⟨ob, h1, h2, h3⟩ := h
  obtain ⟨ob', k1, k2, k3, k4⟩ := hm.ob o ob h1
  refine ⟨ob', k1, by omega, fun e t ht => ?_⟩
  have e1 : ob'.len = ob.len := by omega
  obtain ⟨a1, a2, a3⟩ := k4 e1
  rcases h3 (by omega) t (k2 ▸ ht) with (⟨hn, hz, hl, hv⟩ | ⟨b, cap, hb, hv, hc1, hc2, hs⟩) | h3
  · exact .inl (.inl ⟨a2.trans hn, hz, hl, hv⟩)
  · exact .inl (.inr ⟨b, cap, a2.trans hb, by rw [a1]; exact hv, hc1, hc2, by rw [a1, a3 b hb]; exact hs⟩)
  · exact .inr h3
theorem PtrOk.mono {M M' : Mem} (hm : Le M M') {o n i j : Nat} {v : Value} (h : PtrOk M o n i j v) : PtrOk M' o n i j v := by
  obtain ⟨ob, h1, h2, h3⟩ := h
  obtain ⟨ob', k1, k2, k3, k4⟩ := hm.ob o ob h1
  refine ⟨ob', k1, by omega, fun e => ?_⟩
  have e1 : ob'.len = ob.len := by omega
  obtain ⟨a1, a2, _⟩ := k4 e1
  obtain ⟨b, hb, hv⟩ := h3 (by omega)
  exact ⟨b, a2.trans hb, by rw [a1]; exact hv⟩
theorem BlkOk.mono {M M' : Mem} (hm : Le M M') {o : Nat} {f : Nat → Value} {v : Value} (h : BlkOk M o f v) : BlkOk M' o f v := by
  obtain ⟨ob, h1, h2, h3⟩ := h
  obtain ⟨ob', k1, k2, k3, k4⟩ := hm.ob o ob h1
  refine ⟨ob', k1, by omega, fun e => ?_⟩
  obtain ⟨a1, a2, _⟩ := k4 (by omega)
  obtain ⟨b, hb, hv⟩ := h3 (by omega)
  exact ⟨b, a2.trans hb, hv⟩
theorem CutOk.mono {M M' : Mem} (hm : Le M M') {o off len k : Nat} {v : Value} (h : CutOk M o off len k v) : CutOk M' o off len k v := by
  obtain ⟨ob, h1, h2, h3⟩ := h
  obtain ⟨ob', k1, k2, k3, k4⟩ := hm.ob o ob h1
  refine ⟨ob', k1, by omega, fun e => ?_⟩
  obtain ⟨a1, a2, _⟩ := k4 (by omega)
  obtain ⟨b, cap, hb, hv, hc, hc'⟩ := h3 (by omega)
  exact ⟨b, cap, a2.trans hb, by rw [a1]; exact hv, hc, hc'⟩
theorem RA.mono {M M' : Mem} (hm : Le M M') {x : AV} {v : Value} (h : RA M x v) : RA M' x v := by
  induction h with
  | p x v h => exact .p x v (h.mono hm.sh)
  | os o off len v h => exact .os o off len v (h.mono hm)
  | ptr o n i j v h => exact .ptr o n i j v (h.mono hm)
  | sp e j b off c hb ho hc hr =>
    refine .sp e j b off c (hm.sh b hb).1 ho (fun k hk => ?_) (fun k hk => (hr k hk).mono hm.sh)
    rw [World.cell?_of_block (w := M.w) (w' := M'.w) (hm.sh b hb).2]
    exact hc k hk
  | agg l cs hl ho hr ih => exact .agg l cs hl ho ih
  | tup l cs hl hr ih => exact .tup l cs hl ih
  | fn f first cap fs cs hl hl' hr hr' ih ih' => exact .fn f first cap fs cs hl hl' ih ih'
  | dead v => exact .dead v
  | mp o v h => exact .mp o v (h.mono hm)
  | bs o j len v hl h => exact .bs o j len v hl (h.mono hm)
  | yl o v h => exact .yl o v (h.mono hm)
  | cut o off len k v h => exact .cut o off len k v (h.mono hm)
  | bc o len cap v hl hc h0 h => exact .bc o len cap v hl hc h0 fun c => (h c).mono hm
  | ifc t x v h ih => exact .ifc t x v ih
def RowOk (M : Mem) (o : Nat) (els : List PV) (sz : Nat) (t : TypeId) : Prop :=
  (∀ e ∈ els, e.flat.length = sz ∧ ∀ c ∈ e.flat, c.one = true) ∧
  ((M.φ o = none ∧ els = []) ∨ ∃ b cur cap, M.φ o = some b ∧ M.w.heap[b]? = some (.cells cur t (0, 0)) ∧ cur.size = cap * sz ∧ els.length ≤ cap ∧
    ∀ i (h : i < els.length) j (hj : j < (els[i]).flat.length), ∃ c, cur[i * sz + j]? = some c ∧ RP M.shared M.w ((els[i]).flat[j]) c)
def CellsOk (M : Mem) (l : List AV) (cur : Array Value) : Prop := cur.size = l.length ∧ ∀ i (h : i < l.length), ∃ c, cur[i]? = some c ∧ RA M l[i] c ∧ c.oneCell' = true
def BoxOk (M : Mem) (o : Nat) (x : AV) : Prop := ∃ b cur t, M.φ o = some b ∧ M.w.heap[b]? = some (.cells cur t (0, 0)) ∧ CellsOk M x.flat cur
def TabOk (M : Mem) (o : Nat) (els : List AV) (t : TypeId) : Prop :=
  (M.φ o = none ∧ els = []) ∨ ∃ b cur, M.φ o = some b ∧ M.w.heap[b]? = some (.cells cur t (0, 0)) ∧ els.length ≤ cur.size ∧
    ∀ i (h : i < els.length), ∃ c, cur[i]? = some c ∧ RA M els[i] c ∧ c.oneCell' = true
def ArrOk (M : Mem) (o : Nat) (els : List AV) (sz : Nat) (t : TypeId) : Prop :=
  (∀ e ∈ els, e.flat.length = sz) ∧ ((M.φ o = none ∧ els = []) ∨ ∃ b cur, M.φ o = some b ∧ M.w.heap[b]? = some (.cells cur t (0, 0)) ∧ els.length * sz ≤ cur.size ∧
    ∀ i (h : i < els.length) j (hj : j < (els[i]).flat.length), ∃ c, cur[i * sz + j]? = some c ∧ RA M ((els[i]).flat[j]) c ∧ c.oneCell' = true)
def DictOk (M : Mem) (o : Nat) (kd : KD) (es : List (KV × AV)) : Prop :=
  (es.map (·.1)).Nodup ∧ (∀ x ∈ es, x.1.fit kd = true) ∧ ∃ b cur, M.φ o = some b ∧ M.w.heap[b]? = some (.map cur es.length) ∧ cur.size = es.length ∧
    ∀ i (h : i < es.length), ∃ e, cur[i]? = some e ∧ e.key = (es[i]).1.val ∧ e.born = i ∧ RA M (es[i]).2 e.val
def LSt.state : LSt → LoopState
  | .ready => .ready
  | .busy => .busy
  | .done _ => .done
  | .over => .exhausted
def LSt.pend : LSt → Option Code
  | .done j => some j
  | _ => none
def LoopOk (M : Mem) (o n : Nat) (t : List (Nat × AV)) (ps : List Nat) (a c : Code) (st : LSt) : Prop :=
  ∃ b r, M.φ o = some b ∧ M.w.heap[b]? = some (.loop r) ∧ r.state = st.state ∧ (st = .over ∨ r.pending = st.pend) ∧ r.params = ps.toArray ∧ r.assign = a ∧ r.body = c ∧ r.tmps.size = n ∧ ∀ i, RA M (get t i) (r.tmps.getD i undef)
def ObOk (M : Mem) (o : Nat) : AO → Prop
  | .row els sz t _ => RowOk M o els sz t
  | .box x => BoxOk M o x
  | .tab els t _ => TabOk M o els t
  | .dict kd es => DictOk M o kd es
  | .fbx x => BoxOk M o x
  | .lp n t ps a c st => LoopOk M o n t ps a c st
  | .arr els sz t => ArrOk M o els sz t
theorem CellsOk.mono {M M' : Mem} (hm : Le M M') {l : List AV} {cur : Array Value} (h : CellsOk M l cur) : CellsOk M' l cur :=
  ⟨h.1, fun i hi => let ⟨c, h1, h2, h3⟩ := h.2 i hi; ⟨c, h1, h2.mono hm, h3⟩⟩
theorem ObOk.mono {M M' : Mem} (hm : Le M M') {o : Nat} {ob : AO} (hφ : M'.φ o = M.φ o) (hh : ∀ b, M.φ o = some b → M'.w.heap[b]? = M.w.heap[b]?) (h : ObOk M o ob) : ObOk M' o ob := by
  cases ob with
  | row els sz t fz =>
    refine ⟨h.1, ?_⟩
    rcases h.2 with ⟨h1, h2⟩ | ⟨b, cur, cap, hb, hc, h1, h2, h3⟩
    · exact .inl ⟨hφ.trans h1, h2⟩
    · exact .inr ⟨b, cur, cap, hφ.trans hb, (hh b hb).trans hc, h1, h2, fun i hi j hj => let ⟨c, k1, k2⟩ := h3 i hi j hj; ⟨c, k1, k2.mono hm.sh⟩⟩
  | box x =>
    obtain ⟨b, cur, t, hb, hc, h1⟩ := h
    exact ⟨b, cur, t, hφ.trans hb, (hh b hb).trans hc, h1.mono hm⟩
  | fbx x =>
    obtain ⟨b, cur, t, hb, hc, h1⟩ := h
    exact ⟨b, cur, t, hφ.trans hb, (hh b hb).trans hc, h1.mono hm⟩
  | tab els t fz =>
    rcases h with ⟨h1, h2⟩ | ⟨b, cur, hb, hc, h1, h2⟩
    · exact .inl ⟨hφ.trans h1, h2⟩
    · exact .inr ⟨b, cur, hφ.trans hb, (hh b hb).trans hc, h1, fun i hi => let ⟨c, k1, k2, k3⟩ := h2 i hi; ⟨c, k1, k2.mono hm, k3⟩⟩
  | dict kd es =>
    obtain ⟨hn, hf, b, cur, hb, hc, h1, h2⟩ := h
    exact ⟨hn, hf, b, cur, hφ.trans hb, (hh b hb).trans hc, h1, fun i hi => let ⟨e, k1, k2, k3, k4⟩ := h2 i hi; ⟨e, k1, k2, k3, k4.mono hm⟩⟩
  | lp n t ps a c st =>
    obtain ⟨b, r, hb, hc, k1, k2, k3, k4, k5, k6, k7⟩ := h
    exact ⟨b, r, hφ.trans hb, (hh b hb).trans hc, k1, k2, k3, k4, k5, k6, fun i => (k7 i).mono hm⟩
  | arr els sz t =>
    obtain ⟨hf, h⟩ := h
    rcases h with ⟨h1, h2⟩ | ⟨b, cur, hb, hc, h1, h2⟩
    · exact ⟨hf, .inl ⟨hφ.trans h1, h2⟩⟩
    · exact ⟨hf, .inr ⟨b, cur, hφ.trans hb, (hh b hb).trans hc, h1, fun i hi j hj => let ⟨c, k1, k2, k3⟩ := h2 i hi j hj; ⟨c, k1, k2.mono hm, k3⟩⟩⟩
structure MemOk (M : Mem) : Prop where
  ok : ∀ o ob, M.H[o]? = some ob → ObOk M o ob
  inj : ∀ o o' b, o < M.H.length → o' < M.H.length → M.φ o = some b → M.φ o' = some b → o = o'
  lo : ∀ o b, o < M.H.length → M.φ o = some b → M.base ≤ b
  bs : M.base ≤ M.w.heap.size
theorem MemOk.lt {M : Mem} (h : MemOk M) {o b : Nat} (ho : o < M.H.length) (hb : M.φ o = some b) : b < M.w.heap.size := by
  have hk := h.ok o M.H[o] (List.getElem?_eq_getElem ho)
  cases hob : M.H[o] with
  | row els sz t fz =>
    rw [hob] at hk
    rcases hk.2 with ⟨h1, _⟩ | ⟨b', cur, cap, h1, h2, _⟩
    · rw [hb] at h1; cases h1
    · rw [hb] at h1; injection h1 with h1; subst h1; exact lt_of_block h2
  | box x =>
    rw [hob] at hk
    obtain ⟨b', cur, t, h1, h2, _⟩ := hk
    rw [hb] at h1; injection h1 with h1; subst h1; exact lt_of_block h2
  | fbx x =>
    rw [hob] at hk
    obtain ⟨b', cur, t, h1, h2, _⟩ := hk
    rw [hb] at h1; injection h1 with h1; subst h1; exact lt_of_block h2
  | tab els t fz =>
    rw [hob] at hk
    rcases hk with ⟨h1, _⟩ | ⟨b', cur, h1, h2, _⟩
    · rw [hb] at h1; cases h1
    · rw [hb] at h1; injection h1 with h1; subst h1; exact lt_of_block h2
  | dict kd es =>
    rw [hob] at hk
    obtain ⟨_, _, b', cur, h1, h2, _⟩ := hk
    rw [hb] at h1; injection h1 with h1; subst h1; exact (Array.getElem?_eq_some_iff.1 h2).1
  | lp n t ps a c st =>
    rw [hob] at hk
    obtain ⟨b', r, h1, h2, _⟩ := hk
    rw [hb] at h1; injection h1 with h1; subst h1; exact (Array.getElem?_eq_some_iff.1 h2).1
  | arr els sz t =>
    rw [hob] at hk
    rcases hk.2 with ⟨h1, _⟩ | ⟨b', cur, h1, h2, _⟩
    · rw [hb] at h1; cases h1
    · rw [hb] at h1; injection h1 with h1; subst h1; exact lt_of_block h2
def upd (φ : Nat → Option Nat) (o : Nat) (b : Option Nat) : Nat → Option Nat := fun k => if k = o then b else φ k
theorem Le.grow {M : Mem} (hM : MemOk M) {w' : World} {ob : AO} {nb : Option Nat} (hsz : M.w.heap.size ≤ w'.heap.size) (hold : ∀ b, b < M.w.heap.size → w'.heap[b]? = M.w.heap[b]?)
    (hnb : ∀ b, nb = some b → M.w.heap.size ≤ b) : Le M ⟨w', M.H ++ [ob], upd M.φ M.H.length nb, M.base, M.S⟩ where
  sh b hb := by
    obtain ⟨h1, h2, h3⟩ := hb
    refine ⟨⟨Nat.lt_of_lt_of_le h1 hsz, h2, fun o ob' ho hf => ?_⟩, hold b h1⟩
    dsimp only at ho ⊢
    simp only [upd]
    by_cases hlt : o < M.H.length
    · rw [List.getElem?_append_left hlt] at ho
      rw [if_neg (by omega)]
      exact h3 o ob' ho hf
    · have : o = M.H.length := by
        have := (List.getElem?_eq_some_iff.1 ho).1
        simp at this; omega
      rw [if_pos this]
      intro e
      have := hnb b e
      omega
  ob o ob' ho := by
    have hlt := (List.getElem?_eq_some_iff.1 ho).1
    refine ⟨ob', by dsimp only; rw [List.getElem?_append_left hlt]; exact ho, rfl, Nat.le_refl _, fun _ => ⟨rfl, by simp only [upd]; rw [if_neg (by omega)], fun b hb => ?_⟩⟩
    have := hold b (hM.lt hlt hb)
    simp [World.shape?, this]
theorem MemOk.grow {M : Mem} (hM : MemOk M) {w' : World} {ob : AO} {nb : Option Nat} (hsz : M.w.heap.size ≤ w'.heap.size) (hold : ∀ b, b < M.w.heap.size → w'.heap[b]? = M.w.heap[b]?)
    (hnb : ∀ b, nb = some b → M.w.heap.size ≤ b) (hob : ObOk ⟨w', M.H ++ [ob], upd M.φ M.H.length nb, M.base, M.S⟩ M.H.length ob) : MemOk ⟨w', M.H ++ [ob], upd M.φ M.H.length nb, M.base, M.S⟩ where
  ok o ob' ho := by
    dsimp only at ho
    by_cases hlt : o < M.H.length
    · rw [List.getElem?_append_left hlt] at ho
      refine (hM.ok o ob' ho).mono (Le.grow hM hsz hold hnb) (by simp only [upd]; rw [if_neg (by omega)]) (fun b hb => hold b (hM.lt hlt hb))
    · have e : o = M.H.length := by
        have := (List.getElem?_eq_some_iff.1 ho).1
        simp at this; omega
      subst e
      simp at ho
      subst ho
      exact hob
  inj o o' b ho ho' hb hb' := by
    simp only [List.length_append, List.length_singleton] at ho ho'
    simp only [upd] at hb hb'
    by_cases e : o = M.H.length <;> by_cases e' : o' = M.H.length
    · omega
    · rw [if_pos e] at hb
      rw [if_neg e'] at hb'
      have := hM.lt (o := o') (by omega) hb'
      have := hnb b hb
      omega
    · rw [if_neg e] at hb
      rw [if_pos e'] at hb'
      have := hM.lt (o := o) (by omega) hb
      have := hnb b hb'
      omega
    · rw [if_neg e] at hb
      rw [if_neg e'] at hb'
      exact hM.inj o o' b (by omega) (by omega) hb hb'
  lo o b ho hb := by
    simp only [List.length_append, List.length_singleton] at ho
    simp only [upd] at hb
    by_cases e : o = M.H.length
    · rw [if_pos e] at hb
      have := hnb b hb
      have := hM.bs
      dsimp only
      omega
    · rw [if_neg e] at hb
      exact hM.lo o b (by omega) hb
  bs := Nat.le_trans hM.bs hsz
theorem Le.turn {M : Mem} (hM : MemOk M) {o : Nat} {ob ob' : AO} (ho : M.H[o]? = some ob) (hfz : ob.fz = false) {w' : World} {nb : Option Nat} (hsz : M.w.heap.size ≤ w'.heap.size)
    (hold : ∀ b, b < M.w.heap.size → M.φ o ≠ some b → w'.heap[b]? = M.w.heap[b]?) (hnb : nb = M.φ o ∨ ∀ b, nb = some b → M.w.heap.size ≤ b) (htag : ob'.tag = ob.tag) (hlen : ob.len ≤ ob'.len)
    (hsame : ob'.len = ob.len → ob'.sz = ob.sz ∧ nb = M.φ o ∧ ∀ b, M.φ o = some b → w'.shape? b = M.w.shape? b) :
    Le M ⟨w', M.H.set o ob', upd M.φ o nb, M.base, M.S⟩ where
  sh b hb := by
    obtain ⟨h1, h2, h3⟩ := hb
    refine ⟨⟨Nat.lt_of_lt_of_le h1 hsz, h2, fun o2 ob2 ho2 hf => ?_⟩, hold b h1 (h3 o ob ho hfz)⟩
    dsimp only at ho2 ⊢
    simp only [upd]
    by_cases e : o2 = o
    · rw [if_pos e]
      rcases hnb with hnb | hnb
      · rw [hnb]; exact h3 o ob ho hfz
      · intro e2
        have := hnb b e2
        omega
    · rw [if_neg e]
      rw [List.getElem?_set_ne (by omega)] at ho2
      exact h3 o2 ob2 ho2 hf
  ob o2 ob2 ho2 := by
    have hlt := (List.getElem?_eq_some_iff.1 ho2).1
    by_cases e : o2 = o
    · subst e
      rw [ho] at ho2
      injection ho2 with ho2
      subst ho2
      refine ⟨ob', by simp [hlt], htag, hlen, fun e => ?_⟩
      obtain ⟨a1, a2, a3⟩ := hsame e
      exact ⟨a1, by simp [upd, a2], a3⟩
    · refine ⟨ob2, by dsimp only; rw [List.getElem?_set_ne (by omega)]; exact ho2, rfl, Nat.le_refl _, fun _ => ⟨rfl, by simp only [upd]; rw [if_neg e], fun b hb => ?_⟩⟩
      have hne : M.φ o ≠ some b := fun h => e (hM.inj o2 o b hlt (List.getElem?_eq_some_iff.1 ho).1 hb h)
      have := hold b (hM.lt hlt hb) hne
      simp [World.shape?, this]
theorem MemOk.turn {M : Mem} (hM : MemOk M) {o : Nat} {ob ob' : AO} (ho : M.H[o]? = some ob) (hfz : ob.fz = false) {w' : World} {nb : Option Nat} (hsz : M.w.heap.size ≤ w'.heap.size)
    (hold : ∀ b, b < M.w.heap.size → M.φ o ≠ some b → w'.heap[b]? = M.w.heap[b]?) (hnb : nb = M.φ o ∨ ∀ b, nb = some b → M.w.heap.size ≤ b) (htag : ob'.tag = ob.tag) (hlen : ob.len ≤ ob'.len)
    (hsame : ob'.len = ob.len → ob'.sz = ob.sz ∧ nb = M.φ o ∧ ∀ b, M.φ o = some b → w'.shape? b = M.w.shape? b)
    (hob : ObOk ⟨w', M.H.set o ob', upd M.φ o nb, M.base, M.S⟩ o ob') : MemOk ⟨w', M.H.set o ob', upd M.φ o nb, M.base, M.S⟩ where
  ok o2 ob2 ho2 := by
    dsimp only at ho2
    have hlt := (List.getElem?_eq_some_iff.1 ho2).1
    by_cases e : o2 = o
    · subst e
      simp at hlt
      simp [hlt] at ho2
      subst ho2
      exact hob
    · rw [List.getElem?_set_ne (by omega)] at ho2
      have hlt2 := (List.getElem?_eq_some_iff.1 ho2).1
      refine (hM.ok o2 ob2 ho2).mono (Le.turn hM ho hfz hsz hold hnb htag hlen hsame) (by simp only [upd]; rw [if_neg e]) (fun b hb => hold b (hM.lt hlt2 hb) ?_)
      exact fun h => e (hM.inj o2 o b hlt2 (List.getElem?_eq_some_iff.1 ho).1 hb h)
  inj o1 o2 b h1 h2 hb hb' := by
    simp only [List.length_set] at h1 h2
    simp only [upd] at hb hb'
    have hlo := (List.getElem?_eq_some_iff.1 ho).1
    by_cases e : o1 = o <;> by_cases e' : o2 = o
    · omega
    · rw [if_pos e] at hb
      rw [if_neg e'] at hb'
      rcases hnb with hnb | hnb
      · rw [hnb] at hb; exact absurd (hM.inj o2 o b h2 hlo hb' hb) e'
      · have := hnb b hb; have := hM.lt h2 hb'; omega
    · rw [if_neg e] at hb
      rw [if_pos e'] at hb'
      rcases hnb with hnb | hnb
      · rw [hnb] at hb'; exact absurd (hM.inj o1 o b h1 hlo hb hb') e
      · have := hnb b hb'; have := hM.lt h1 hb; omega
    · rw [if_neg e] at hb
      rw [if_neg e'] at hb'
      exact hM.inj o1 o2 b h1 h2 hb hb'
  lo o1 b h1 hb := by
    simp only [List.length_set] at h1
    simp only [upd] at hb
    have hlo := (List.getElem?_eq_some_iff.1 ho).1
    by_cases e : o1 = o
    · rw [if_pos e] at hb
      rcases hnb with hnb | hnb
      · rw [hnb] at hb; exact hM.lo o b hlo hb
      · have := hnb b hb
        have := hM.bs
        dsimp only
        omega
    · rw [if_neg e] at hb
      exact hM.lo o1 b h1 hb
  bs := Nat.le_trans hM.bs hsz
theorem Le.ext {M : Mem} (hM : MemOk M) {w' : World} (hsz : M.w.heap.size ≤ w'.heap.size) (hold : ∀ b, b < M.w.heap.size → w'.heap[b]? = M.w.heap[b]?) : Le M ⟨w', M.H, M.φ, M.base, M.S⟩ where
  sh b hb := ⟨⟨Nat.lt_of_lt_of_le hb.1 hsz, hb.2.1, hb.2.2⟩, hold b hb.1⟩
  ob o ob ho := ⟨ob, ho, rfl, Nat.le_refl _, fun _ => ⟨rfl, rfl, fun b hb => by
    have := hold b (hM.lt (List.getElem?_eq_some_iff.1 ho).1 hb)
    simp [World.shape?, this]⟩⟩
theorem MemOk.ext {M : Mem} (hM : MemOk M) {w' : World} (hsz : M.w.heap.size ≤ w'.heap.size) (hold : ∀ b, b < M.w.heap.size → w'.heap[b]? = M.w.heap[b]?) : MemOk ⟨w', M.H, M.φ, M.base, M.S⟩ where
  ok o ob ho := (hM.ok o ob ho).mono (Le.ext hM hsz hold) rfl (fun b hb => hold b (hM.lt (List.getElem?_eq_some_iff.1 ho).1 hb))
  inj := hM.inj
  lo := hM.lo
  bs := Nat.le_trans hM.bs hsz
theorem Le.heap {M : Mem} {w' : World} (hh : w'.heap = M.w.heap) : Le M ⟨w', M.H, M.φ, M.base, M.S⟩ where
  sh b hb := ⟨⟨by rw [hh]; exact hb.1, hb.2.1, hb.2.2⟩, by rw [hh]⟩
  ob o ob ho := ⟨ob, ho, rfl, Nat.le_refl _, fun _ => ⟨rfl, rfl, fun b _ => by simp [World.shape?, hh]⟩⟩
theorem MemOk.heap {M : Mem} (hM : MemOk M) {w' : World} (hh : w'.heap = M.w.heap) : MemOk ⟨w', M.H, M.φ, M.base, M.S⟩ where
  ok o ob ho := (hM.ok o ob ho).mono (Le.heap hh) rfl (fun b _ => by rw [hh])
  inj := hM.inj
  lo := hM.lo
  bs := by dsimp only; rw [hh]; exact hM.bs
end Abs
end Go
/-
  AN ABSTRACT MACHINE, part 2: its state, its operations, and how a program's operations are read as such.
-/
namespace Go
namespace Abs
open Go.RowKit
structure St where
  t : List (Nat × AV)
  H : List AO
def put (t : List (Nat × AV)) (d : Nat) (x : AV) : List (Nat × AV) := (d, x) :: t
theorem get_put (t : List (Nat × AV)) (d i : Nat) (x : AV) : get (put t d x) i = if d = i then x else get t i := rfl
def ofVal (v : Value) : Option PV :=
  if scalar v then some (.v v) else match v with
    | .agg cs => if cs.toList.all scalar then some (.agg (cs.toList.map .v)) else none
    | _ => none
def aev (t : List (Nat × AV)) : Operand → Option AV
  | .tmp i => some (get t i)
  | .const v => (ofVal v).map .p
  | .func f => some (.fn (.func f) [] [])
  | .global _ => none
def solid (H : List AO) : AV → Bool
  | .p x => x.one
  | .os o off len => match H[o]? with
    | some (.row els _ _ _) => off + len == els.length
    | some (.tab els _ _) => off + len == els.length
    | some (.arr els _ _) => off + len == els.length
    | _ => false
  | .ptr o n _ _ => match H[o]? with
    | some ob => n == ob.len
    | none => false
  | .mp o | .bs o _ _ | .yl o => match H[o]? with
    | some ob => ob.len == 1
    | none => false
  | .sp _ _ | .fn _ _ _ | .ifc _ _ => true
  | _ => false
def boxable (H : List AO) : AV → Bool
  | .agg _ | .p _ => true
  | x => solid H x
def allP : List AV → Option (List PV)
  | [] => some []
  | .p x :: l => (allP l).map (x :: ·)
  | _ => none
def allOne (l : List AV) : Option (List PV) := match allP l with
  | some ps => if ps.all (·.one) then some ps else none
  | none => none
def mkAgg (l : List AV) : AV := match allP l with
  | some ps => if ps.all (·.one) then .p (.agg ps) else .agg l
  | none => .agg l
def isAgg : PV → Bool
  | .agg _ => true
  | _ => false
def partP (ag : Bool) (n : Nat) (e : PV) (j : Nat) : Option PV :=
  if ag then (if j = 0 ∧ n = e.flat.length ∧ isAgg e = true then some e else if j + n ≤ e.flat.length then some (.agg ((e.flat.drop j).take n)) else none)
  else e.flat[j]?
def partA (ag : Bool) (n : Nat) (x : AV) (j : Nat) : Option AV :=
  match x with
  | .p e => (partP ag n e j).map .p
  | .agg l => if ag then (if j = 0 ∧ n = l.length then some (.agg l) else if j + n ≤ l.length then some (mkAgg ((l.drop j).take n)) else none) else l[j]?
  | x => if ag = false ∧ j = 0 then some x else none
def putP (e : PV) (j : Nat) (x : PV) : Option PV :=
  if j = 0 ∧ e.flat.length = x.flat.length then some x
  else match e, x with
    | .agg l, x => if x.one ∧ j < l.length then some (.agg (l.set j x)) else none
    | _, _ => none
def putA (H : List AO) (x0 : AV) (j : Nat) (y : AV) : Option AV :=
  if j = 0 ∧ x0.flat.length = y.flat.length ∧ boxable H y = true then some y
  else if solid H y = true ∧ j < x0.flat.length then some (mkAgg (x0.flat.set j y)) else none
def isNil : AV → Bool
  | .p (.v (.slice none 0 0)) => true
  | _ => false
def ownEls (H : List AO) : AV → Option (List PV)
  | .os o off len => match H[o]? with
    | some (.row els _ _ _) => if off + len = els.length then some (els.drop off) else none
    | some (.tab els _ _) => if off + len = els.length then allOne (els.drop off) else none
    | _ => none
  | .bs o j len => match H[o]? with
    | some (.box y) => if j + len ≤ y.flat.length then allOne ((y.flat.drop j).take len) else none
    | some (.fbx y) => if j + len ≤ y.flat.length then allOne ((y.flat.drop j).take len) else none
    | _ => none
  | _ => none
def elems (H : List AO) : AV → Option (List PV)
  | .p (.sl l) => some l
  | .p (.v (.slice none 0 0)) => some []
  | .cut o off len k => match H[o]? with
    | some (.row els _ _ _) => if els.length = k ∧ off + len ≤ k then some ((els.drop off).take len) else none
    | _ => none
  | .bc o len cap => if cap = 0 then some [] else match H[o]? with
    | some (.box y) => if len ≤ y.flat.length then allOne (y.flat.take len) else none
    | _ => none
  | x => ownEls H x
def bcL (H : List AO) (o cap : Nat) : Option (List AV) := if cap = 0 then some [] else match H[o]? with
  | some (.box (.agg l)) => if l.length = cap then some l else none
  | _ => none
def lenA (H : List AO) : AV → Option Nat
  | .p (.sl l) => some l.length
  | .p (.v (.slice none 0 0)) => some 0
  | .os o off len => if solid H (.os o off len) then some len else none
  | .bs o j len => if solid H (.bs o j len) then some len else none
  | .bc o len cap => if cap = 0 then some 0 else match H[o]? with
    | some (.box _) => some len
    | _ => none
  | _ => none
def elemsT (H : List AO) : AV → Option (List AV)
  | .os o off len => match H[o]? with
    | some (.tab els _ _) => if off = 0 ∧ len = els.length then some els else none
    | _ => none
  | .p (.sl l) => if l.all (·.one) = true then some (l.map .p) else none
  | _ => none
def elemsR (H : List AO) : AV → Option (List AV)
  | .os o off len => match H[o]? with
    | some (.arr els _ _) => if off = 0 ∧ len = els.length then some els else none
    | _ => none
  | _ => none
def viewC (H : List AO) : AV → Option PV
  | .p x => some x
  | x => (ownEls H x).map .sl
def viewL (H : List AO) : List AV → Option (List PV)
  | [] => some []
  | x :: l => match viewC H x, viewL H l with
    | some y, some m => some (y :: m)
    | _, _ => none
def view (H : List AO) : AV → Option PV
  | .agg l => match viewL H l with
    | some m => if m.all (·.one) then some (.agg m) else none
    | none => none
  | x => viewC H x
def views (H : List AO) : List AV → Option (List PV)
  | [] => some []
  | x :: l => match view H x, views H l with
    | some y, some m => some (y :: m)
    | _, _ => none
def frzO : AO → AO
  | .row els sz t _ => .row els sz t true
  | .tab els t _ => .tab els t true
  | .box x => .fbx x
  | o => o
def frzC (H : List AO) : AV → List AO
  | .os o _ _ | .bs o _ _ => match H[o]? with
    | some ob => H.set o (frzO ob)
    | none => H
  | _ => H
def frzL (H : List AO) : List AV → List AO
  | [] => H
  | .agg m :: l => frzL (m.foldl frzC H) l
  | x :: l => frzL (frzC H x) l
def ints : List PV → Option (List Int)
  | [] => some []
  | .v (.int .i64 n) :: l => (ints l).map (n :: ·)
  | _ => none
def bools : List PV → Option (List Bool)
  | [] => some []
  | .v (.bool b) :: l => (bools l).map (b :: ·)
  | _ => none
def isB : List PV → Bool
  | .v (.bool _) :: _ => true
  | _ => false
def keyA : AV → Option KV
  | .p (.v (.int k n)) => some (.ki k n)
  | .p (.v (.bool t)) => some (.kb t)
  | .p (.v (.string s)) => some (.ks s.data.toList)
  | .p (.agg l) => if isB l then (bools l).map .kt else (ints l).map .kl
  | _ => none
inductive SV where
  | i (n : Int)
  | b (t : Bool)
  deriving DecidableEq
def SV.val : SV → Value
  | .i n => .int .i64 n
  | .b t => .bool t
def SV.lit : SV → Lit
  | .i n => .int .i64 n
  | .b t => .bool t
def sAll : List PV → Option (List SV)
  | [] => some []
  | .v (.int .i64 n) :: l => (sAll l).map (.i n :: ·)
  | .v (.bool t) :: l => (sAll l).map (.b t :: ·)
  | _ => none
def sOf : AV → Option (List SV)
  | .p (.agg l) => sAll l
  | .agg l => match allP l with
    | some ps => sAll ps
    | none => none
  | _ => none
def sFit : List Bool → List SV → Bool
  | [], [] => true
  | false :: ks, .i n :: l => decide (-9223372036854775808 ≤ n ∧ n ≤ 9223372036854775807) && sFit ks l
  | true :: ks, .b _ :: l => sFit ks l
  | _, _ => false
def bytesL : List PV → Option (List Int)
  | [] => some []
  | .v (.int .u8 n) :: l => (bytesL l).map (n :: ·)
  | _ => none
def strN (ns : List Int) : ByteArray := ⟨(ns.map fun n => UInt8.ofNat n.toNat).toArray⟩
def dIdx (kv : KV) : List (KV × AV) → Option Nat
  | [] => none
  | x :: l => if x.1 = kv then some 0 else (dIdx kv l).map (· + 1)
def litBin (bo : Bool) (op : BinOp) (x y : Value) : Option Value :=
  match x, y with
  | .int k a, .int k' b => if k = k' then
      match op with
      | .add => some (.int k (k.wrap (a + b)))
      | .sub => some (.int k (k.wrap (a - b)))
      | .mul => some (.int k (k.wrap (a * b)))
      | .quo => if b = 0 then none else some (.int k (k.wrap (a.tdiv b)))
      | .rem => if b = 0 then none else some (.int k (a.tmod b))
      | .eql => some (.bool (decide (a = b)))
      | .neq => some (.bool (!decide (a = b)))
      | .lss => some (.bool (a < b))
      | .leq => some (.bool (a ≤ b))
      | .gtr => some (.bool (a > b))
      | .geq => some (.bool (a ≥ b))
      | .and => some (.int k (k.wrap ((BitVec.ofInt k.bits a &&& BitVec.ofInt k.bits b).toNat : Int)))
      | .or => some (.int k (k.wrap ((BitVec.ofInt k.bits a ||| BitVec.ofInt k.bits b).toNat : Int)))
      | .shl => if b < 0 then none else some (.int k (k.wrap (a * 2 ^ (min b.toNat k.bits))))
      | .shr => if b < 0 then none else some (.int k (a.fdiv (2 ^ (min b.toNat k.bits))))
      | _ => none
    else none
  | .bool a, .bool b => if bo then
      match op with
      | .eql => some (.bool (a == b))
      | .neq => some (.bool (a != b))
      | _ => none
    else none
  | .string a, .string b => match op with
      | .eql => some (.bool (a.data.toList == b.data.toList))
      | .neq => some (.bool (!(a.data.toList == b.data.toList)))
      | _ => none
  | _, _ => none
def litUn (op : UnOp) (x : Value) : Option Value :=
  match op, x with
  | .not, .bool b => some (.bool (!b))
  | .neg, .int k n => some (.int k (k.wrap (0 - n)))
  | _, _ => none
inductive AOp where
  | mov (x : Operand)
  | pick (c x y : Operand)
  | box (t : TypeId) (x : Operand)
  | zro (t : TypeId) (z : PV)
  | load (ag : Bool) (n : Nat) (x : Operand)
  | store (n : Nat) (x y : Operand)
  | bin (bo : Bool) (op : BinOp) (x y : Operand)
  | un (op : UnOp) (x : Operand)
  | ext (x : Operand) (i : Nat)
  | fadr (off : Nat) (x : Operand)
  | iadr (sz : Nat) (x i : Operand)
  | iadrA (len sz : Nat) (x i : Operand)
  | fld (ag : Bool) (n off : Nat) (x : Operand)
  | idx (ag : Bool) (len sz : Nat) (x i : Operand)
  | len (x : Operand)
  | lenM (x : Operand)
  | app (e : TypeId) (sz : Nat) (s x : Operand)
  | mk (e : TypeId) (sz : Nat) (z : PV) (n c : Operand)
  | bsl (e : TypeId) (sz : Nat) (parts : List Operand)
  | bld (zero : List PV) (places : List (Nat × Nat)) (parts : List (Nat × Operand))
  | fn (f : Fn) (first cap : List Operand)
  | mm (mx : Bool) (x y : Operand)
  | mm4 (x y z u : Operand)
  | cvt (k : IntKind) (x : Operand)
  | nilc (x : Operand)
  | eqn (neg : Bool) (x : Operand)
  | eqA (kd : KD) (neg : Bool) (x y : Operand)
  | eqS (ks : List Bool) (neg : Bool) (x y : Operand)
  | mkT (e : TypeId) (z : PV) (n c : Operand)
  | bslT (e : TypeId) (parts : List Operand)
  | appT (e : TypeId) (s x : Operand)
  | slA (len : Nat) (x : Operand)
  | slS (sz : Nat) (x : Operand) (lo hi : Option Operand)
  | mkm (kd : KD)
  | look (kd : KD) (z : PV) (ok : Bool) (m k : Operand)
  | mset (kd : KD) (m k x : Operand)
  | ment (kd : KD) (z : PV) (m k : Operand)
  | eset (m i x : Operand)
  | str (x : Operand)
  | appQ (e : TypeId) (s x : Operand)
  | cpy (x y : Operand)
  | mkI (t : TypeId) (x : Operand)
  | tas (t : TypeId) (z : PV) (x : Operand)
  | callM (name : String) (args : List Operand)
  | bslR (e : TypeId) (sz : Nat) (parts : List Operand)
  | appR (e : TypeId) (sz : Nat) (s x : Operand)
  | cpyR (sz : Nat) (x y : Operand)
  | mkR (e : TypeId) (sz : Nat) (z : PV) (n c : Operand)
  | bad
  | call (f : FuncId) (args : List Operand)
  | callv (x : Operand) (args : List Operand)
  deriving Inhabited
def aevs (t : List (Nat × AV)) : List Operand → Option (List AV)
  | [] => some []
  | x :: l => match aev t x, aevs t l with
    | some y, some m => some (y :: m)
    | _, _ => none
def lay (t : List (Nat × AV)) (H : List AO) (places : List (Nat × Nat)) : List AV → List (Nat × Operand) → Option (List AV)
  | cs, [] => some cs
  | cs, (i, x) :: rest => match places[i]?, aev t x with
    | some (off, n), some y => if y.flat.length = n ∧ off + n ≤ cs.length ∧ boxable H y = true then lay t H places (cs.take off ++ y.flat ++ cs.drop (off + n)) rest else none
    | _, _ => none
def asNat : AV → Option Nat
  | .p (.v (.int _ n)) => if 0 ≤ n then some n.toNat else none
  | _ => none
def elOk (sz : Nat) (l : List PV) (k : Nat) : Bool := match l[k]? with
  | some e => e.flat.length == sz
  | none => true
def sbound (t : List (Nat × AV)) (d : Nat) : Option Operand → Option Nat
  | none => some d
  | some x => (aev t x).bind asNat
def astep (op : AOp) (s : St) : Option (AV × List AO) :=
  match op with
  | .mov x => (aev s.t x).map (·, s.H)
  | .pick c x y => match aev s.t c with
    | some (.p (.v (.bool b))) => if b then (aev s.t x).map (·, s.H) else (aev s.t y).map (·, s.H)
    | _ => none
  | .box _ x => match aev s.t x with
    | some y => if boxable s.H y then some (.ptr s.H.length 1 0 0, s.H ++ [.box y]) else none
    | none => none
  | .zro _ z => some (.ptr s.H.length 1 0 0, s.H ++ [.box (.p z)])
  | .load ag n x => match aev s.t x with
    | some (.ptr o m i j) => match s.H[o]? with
      | some (.row els _ _ _) => if m = els.length then (match els[i]? with | some e => (partP ag n e j).map fun y => (.p y, s.H) | none => none) else none
      | some (.box y) => if m = 1 ∧ i = 0 then (partA ag n y j).map (·, s.H) else none
      | some (.tab els _ _) => if m = els.length ∧ j = 0 ∧ ag = false then (els[i]?).map (·, s.H) else none
      | some (.arr els _ _) => if m = els.length then (match els[i]? with | some e => (partA ag n e j).map (·, s.H) | none => none) else none
      | _ => none
    | some (.sp e j) => (partP ag n e j).map fun y => (.p y, s.H)
    | _ => none
  | .store n x y => match aev s.t x, aev s.t y with
    | some (.ptr o m i j), some z => if z.flat.length = n then
        match s.H[o]? with
        | some (.row els sz t false) => if m = els.length then (match els[i]?, z with | some e, .p q => (putP e j q).map fun e' => (.tup [], s.H.set o (.row (els.set i e') sz t false)) | _, _ => none) else none
        | some (.box y0) => if m = 1 ∧ i = 0 then (putA s.H y0 j z).map fun y' => (.tup [], s.H.set o (.box y')) else none
        | some (.tab els t false) => if m = els.length ∧ j = 0 ∧ i < els.length ∧ solid s.H z = true then some (.tup [], s.H.set o (.tab (els.set i z) t false)) else none
        | _ => none
      else none
    | _, _ => none
  | .bin bo op x y => match aev s.t x, aev s.t y with
    | some (.p (.v a)), some (.p (.v b)) => (litBin bo op a b).map fun c => (.p (.v c), s.H)
    | _, _ => none
  | .un op x => match aev s.t x with
    | some (.p (.v a)) => (litUn op a).map fun c => (.p (.v c), s.H)
    | _ => none
  | .ext x i => match aev s.t x with
    | some (.tup l) => (l[i]?).map (·, s.H)
    | _ => none
  | .fadr off x => match aev s.t x with
    | some (.ptr o m i j) => if solid s.H (.ptr o m i j) then some (.ptr o m i (j + off), s.H) else none
    | some (.sp e j) => some (.sp e (j + off), s.H)
    | _ => none
  | .iadr sz x i => match aev s.t x, (aev s.t i).bind asNat with
    | some (.p (.sl l)), some k => match l[k]? with
      | some e => if e.flat.length = sz then some (.sp e 0, s.H) else none
      | none => none
    | some (.os o off len), some k => match s.H[o]? with
      | some (.row els z _ _) => if off + len = els.length ∧ k < len ∧ z = sz then some (.ptr o els.length (off + k) 0, s.H) else none
      | some (.tab els _ _) => if off + len = els.length ∧ k < len ∧ sz = 1 then some (.ptr o els.length (off + k) 0, s.H) else none
      | some (.arr els z _) => if off + len = els.length ∧ k < len ∧ z = sz then some (.ptr o els.length (off + k) 0, s.H) else none
      | _ => none
    | some (.bs o j len), some k => if k < len ∧ sz = 1 ∧ solid s.H (.bs o j len) = true then some (.ptr o 1 0 (j + k), s.H) else none
    | _, _ => none
  | .iadrA len sz x i => match aev s.t x, (aev s.t i).bind asNat with
    | some (.ptr o m a j), some k => if k < len ∧ solid s.H (.ptr o m a j) then some (.ptr o m a (j + k * sz), s.H) else none
    | some (.sp e j), some k => if k < len then some (.sp e (j + k * sz), s.H) else none
    | _, _ => none
  | .fld ag n off x => match aev s.t x with
    | some (.p (.agg l)) => (partP ag n (.agg l) off).map fun y => (.p y, s.H)
    | some (.agg l) => (partA ag n (.agg l) off).map (·, s.H)
    | _ => none
  | .idx ag len sz x i => match aev s.t x, (aev s.t i).bind asNat with
    | some (.p (.agg l)), some k => if k < len then (partP ag sz (.agg l) (k * sz)).map fun y => (.p y, s.H) else none
    | some (.agg l), some k => if k < len then (partA ag sz (.agg l) (k * sz)).map (·, s.H) else none
    | _, _ => none
  | .len x => match aev s.t x with
    | some y => (lenA s.H y).map fun (n : Nat) => (AV.p (.v (.int .i64 (n : Int))), s.H)
    | none => none
  | .lenM x => match aev s.t x with
    | some (.mp o) => match s.H[o]? with
      | some (.dict _ es) => some (AV.p (.v (.int .i64 (es.length : Int))), s.H)
      | _ => none
    | _ => none
  | .app e sz sx x => match aev s.t sx, (aev s.t x).bind (elems s.H) with
    | some y, some xs => if xs.all (fun q => decide (q.flat.length = sz) && q.flat.all (·.one)) = true then
        match y with
        | .p (.v (.slice none 0 0)) => if xs.length ≤ 1048576 then some (.os s.H.length 0 xs.length, s.H ++ [.row xs sz e false]) else none
        | .os o off len => match s.H[o]? with
          | some (.row els z t false) => if off = 0 ∧ len = els.length ∧ z = sz ∧ t = e ∧ els.length + xs.length ≤ 1048576 then some (.os o 0 (els.length + xs.length), s.H.set o (.row (els ++ xs) sz e false)) else none
          | _ => none
        | _ => none
      else none
    | _, _ => none
  | .mk e sz z n c => match (aev s.t n).bind asNat, (aev s.t c).bind asNat with
    | some a, some b => if a = b ∧ a ≤ 1048576 then some (.os s.H.length 0 a, s.H ++ [.row (List.replicate a z) sz e false]) else none
    | _, _ => none
  | .bsl e sz parts => match aevs s.t parts with
    | some ys => match views s.H ys with
      | some xs => if xs.all (fun q => decide (q.flat.length = sz) && q.flat.all (·.one)) = true then some (.os s.H.length 0 xs.length, frzL s.H ys ++ [.row xs sz e false]) else none
      | none => none
    | none => none
  | .bld zero places parts => (lay s.t s.H places (zero.map .p) parts).map fun cs => (mkAgg cs, s.H)
  | .fn f first cap => match aevs s.t first, aevs s.t cap with
    | some a, some b => some (.fn f a b, s.H)
    | _, _ => none
  | .mm mx x y => match aev s.t x, aev s.t y with
    | some (.p (.v (.int .i64 a))), some (.p (.v (.int .i64 b))) => some (.p (.v (.int .i64 (if mx then max a b else min a b))), s.H)
    | _, _ => none
  | .mm4 x y z u => match aev s.t x, aev s.t y, aev s.t z, aev s.t u with
    | some (.p (.v (.int .i64 a))), some (.p (.v (.int .i64 b))), some (.p (.v (.int .i64 c))), some (.p (.v (.int .i64 d))) => some (.p (.v (.int .i64 (max (max (max a b) c) d))), s.H)
    | _, _, _, _ => none
  | .cvt k x => match aev s.t x with
    | some (.p (.v (.int _ n))) => some (.p (.v (.int k (k.wrap n))), s.H)
    | _ => none
  | .eqA kd neg x y => match (aev s.t x).bind keyA, (aev s.t y).bind keyA with
    | some a, some b => if a.fit kd = true ∧ b.fit kd = true then some (.p (.v (.bool (decide (a = b) != neg))), s.H) else none
    | _, _ => none
  | .eqS ks neg x y => match (aev s.t x).bind sOf, (aev s.t y).bind sOf with
    | some a, some b => if sFit ks a = true ∧ sFit ks b = true then some (.p (.v (.bool (decide (a = b) != neg))), s.H) else none
    | _, _ => none
  | .mkT e z n c => match (aev s.t n).bind asNat, (aev s.t c).bind asNat with
    | some a, some b => if a = b ∧ a ≤ 1048576 then some (.os s.H.length 0 a, s.H ++ [.tab (List.replicate a (.p z)) e false]) else none
    | _, _ => none
  | .bslT e parts => match aevs s.t parts with
    | some ys => if ys.all (solid s.H) = true then some (.os s.H.length 0 ys.length, s.H ++ [.tab ys e false]) else none
    | none => none
  | .appT e sx x => match aev s.t sx, (aev s.t x).bind (elemsT s.H) with
    | some y, some xs =>
      match y with
      | .p (.v (.slice none 0 0)) => if xs.length ≤ 1048576 then some (.os s.H.length 0 xs.length, s.H ++ [.tab xs e false]) else none
      | .os o off len => match s.H[o]? with
        | some (.tab els t false) => if off = 0 ∧ len = els.length ∧ t = e ∧ els.length + xs.length ≤ 1048576 then some (.os o 0 (els.length + xs.length), s.H.set o (.tab (els ++ xs) e false)) else none
        | _ => none
      | _ => none
    | _, _ => none
  | .slA len x => match aev s.t x with
    | some (.sp e j) => if j + len ≤ e.flat.length ∧ len ≤ 9223372036854775807 then some (.p (.sl ((e.flat.drop j).take len)), s.H) else none
    | some (.ptr o m i j) => match s.H[o]? with
      | some (.box y) => if m = 1 ∧ i = 0 ∧ len ≤ 9223372036854775807 ∧ j + len ≤ y.flat.length then some (.bs o j len, s.H) else none
      | _ => none
    | _ => none
  | .slS sz x lo hi => match aev s.t x with
    | some (.p (.sl l)) => match sbound s.t 0 lo, sbound s.t l.length hi with
      | some a, some b => if a ≤ b ∧ b ≤ l.length ∧ elOk sz l a = true then some (.p (.sl ((l.drop a).take (b - a))), s.H) else none
      | _, _ => none
    | some (.os o off len) => match s.H[o]?, sbound s.t 0 lo, hi with
      | some (.row els z _ _), some a, none => if off + len = els.length ∧ a ≤ len ∧ z = sz then some (.os o (off + a) (len - a), s.H) else none
      | some (.row els z _ _), some a, some y => match sbound s.t len (some y) with
        | some b => if off + len = els.length ∧ a < b ∧ b ≤ len ∧ z = sz then some (.cut o (off + a) (b - a) els.length, s.H) else none
        | none => none
      | _, _, _ => none
    | _ => none
  | .mkm kd => some (.mp s.H.length, s.H ++ [.dict kd []])
  | .look kd z ok m k => match aev s.t m, (aev s.t k).bind keyA with
    | some (.mp o), some kv => match s.H[o]? with
      | some (.dict kd' es) => if kd' = kd ∧ kv.fit kd = true then
          match dIdx kv es with
          | some i => match es[i]? with
            | some x => some (if ok then .tup [x.2, .p (.v (.bool true))] else x.2, s.H)
            | none => none
          | none => some (if ok then .tup [.p z, .p (.v (.bool false))] else .p z, s.H)
        else none
      | _ => none
    | _, _ => none
  | .mset kd m k x => match aev s.t m, (aev s.t k).bind keyA, aev s.t x with
    | some (.mp o), some kv, some y => match s.H[o]? with
      | some (.dict kd' es) => if kd' = kd ∧ kv.fit kd = true then
          match dIdx kv es with
          | some i => some (.tup [], s.H.set o (.dict kd (es.set i (kv, y))))
          | none => some (.tup [], s.H.set o (.dict kd (es ++ [(kv, y)])))
        else none
      | _ => none
    | _, _, _ => none
  | .ment kd z m k => match aev s.t m, (aev s.t k).bind keyA with
    | some (.mp o), some kv => match s.H[o]? with
      | some (.dict kd' es) => if kd' = kd ∧ kv.fit kd = true then
          match dIdx kv es with
          | some i => match es[i]? with
            | some x => some (.tup [x.2, .p (.v (.int .i64 i))], s.H)
            | none => none
          | none => some (.tup [.p z, .p (.v (.int .i64 es.length))], s.H.set o (.dict kd (es ++ [(kv, .p z)])))
        else none
      | _ => none
    | _, _ => none
  | .eset m i x => match aev s.t m, (aev s.t i).bind asNat, aev s.t x with
    | some (.mp o), some i, some y => match s.H[o]? with
      | some (.dict kd es) => match es[i]? with
        | some e => some (.tup [], s.H.set o (.dict kd (es.set i (e.1, y))))
        | none => none
      | _ => none
    | _, _, _ => none
  | .str x => match (aev s.t x).bind (elems s.H) with
    | some l => (bytesL l).map fun ns => (.p (.v (.string (strN ns))), s.H)
    | none => none
  | .cpy x y => match aev s.t x, (aev s.t y).bind (elems s.H) with
    | some (.bs o j len), some xs => match s.H[o]? with
      | some (.box z) => if j + len ≤ z.flat.length ∧ xs.all (·.one) = true then
          some (.p (.v (.int .i64 (min xs.length len : Nat))), s.H.set o (.box (mkAgg (z.flat.take j ++ (xs.take len).map .p ++ z.flat.drop (j + min xs.length len)))))
        else none
      | _ => none
    | some (.os o off len), some xs => match s.H[o]? with
      | some (.row els sz t false) => if off + len = els.length ∧ 0 < len ∧ sz = 1 ∧ els.all (·.one) = true ∧ xs.all (·.one) = true then
          some (.p (.v (.int .i64 (min xs.length len : Nat))), s.H.set o (.row (els.take off ++ xs.take len ++ els.drop (off + min xs.length len)) 1 t false))
        else none
      | _ => none
    | _, _ => none
  | .mkI t x => (aev s.t x).map fun y => (.ifc t y, s.H)
  | .tas t z x => match aev s.t x with
    | some (.ifc t' y) => some (if t' = t then .tup [y, .p (.v (.bool true))] else .tup [.p z, .p (.v (.bool false))], s.H)
    | _ => none
  | .bslR e sz parts => match aevs s.t parts with
    | some ys => if ys.all (fun y => boxable s.H y && decide (y.flat.length = sz)) = true then some (.os s.H.length 0 ys.length, s.H ++ [.arr ys sz e]) else none
    | none => none
  | .appR e sz sx x => match aev s.t sx, (aev s.t x).bind (elemsR s.H) with
    | some y, some xs => if xs.all (fun q => decide (q.flat.length = sz)) = true then
        match y with
        | .p (.v (.slice none 0 0)) => if xs.length ≤ 1048576 then some (.os s.H.length 0 xs.length, s.H ++ [.arr xs sz e]) else none
        | .os o off len => match s.H[o]? with
          | some (.arr els z t) => if off = 0 ∧ len = els.length ∧ z = sz ∧ t = e ∧ els.length + xs.length ≤ 1048576 then some (.os o 0 (els.length + xs.length), s.H.set o (.arr (els ++ xs) sz e)) else none
          | _ => none
        | _ => none
      else none
    | _, _ => none
  | .cpyR sz x y => match aev s.t x, (aev s.t y).bind (elems s.H) with
    | some (.os o off len), some xs => match s.H[o]? with
      | some (.row els z t false) => if off + len = els.length ∧ 0 < len ∧ z = sz ∧ xs.all (fun q => decide (q.flat.length = sz) && q.flat.all (·.one)) = true then
          some (.p (.v (.int .i64 (min xs.length len : Nat))), s.H.set o (.row (els.take off ++ xs.take len ++ els.drop (off + min xs.length len)) sz t false))
        else if off + len = els.length ∧ off = 0 ∧ len = 0 ∧ z = sz then some (.p (.v (.int .i64 0)), s.H) else none
      | _ => none
    | _, _ => none
  | .mkR e sz z n c => match (aev s.t n).bind asNat, (aev s.t c).bind asNat with
    | some a, some b => if a = b ∧ a ≤ 1048576 then some (.os s.H.length 0 a, s.H ++ [.row (List.replicate a z) sz e false]) else none
    | _, _ => none
  | .nilc x => match aev s.t x with
    | some y => match y with
      | .ptr _ _ _ _ | .sp _ _ => if solid s.H y then some (y, s.H) else none
      | _ => none
    | none => none
  | _ => none
def grows : AOp → Bool
  | .store _ _ _ | .app _ _ _ _ | .appT _ _ _ | .mset _ _ _ _ | .ment _ _ _ _ | .eset _ _ _ | .callv _ _ | .appQ _ _ _ | .cpy _ _ | .callM _ _ | .appR _ _ _ _ | .cpyR _ _ _ => false
  | _ => true
section
variable (P : Program)
def szO (t : TypeId) : Option Nat := (P.info? t).map (·.size)
def agO (t : TypeId) : Option Bool := (P.underlying t).map fun d => match d with | .struct _ | .array _ _ => true | _ => false
def slO (t : TypeId) : Option TypeId := match P.underlying t with
  | some (.slice e) => some e
  | _ => none
def zeroO (t : TypeId) : Option PV := match P.info? t with
  | some i => match i.zero with | some v => ofVal v | none => none
  | none => none
def inOrder : Nat → List (Nat × Operand) → Bool
  | _, [] => true
  | k, (i, _) :: l => i == k && inOrder (k + 1) l
def deepO (e : TypeId) : Bool := match P.underlying e with
  | some (.slice _) | some (.pointer _) | some (.map _ _) => true
  | _ => false
def ifcO (e : TypeId) : Bool := match zeroO P e with
  | some (.agg l) => l.any fun
    | .v .nilIface => true
    | _ => false
  | _ => false
def methO (t : TypeId) (name : String) : Option FuncId := match P.info? t with
  | some i => match i.methods.find? (·.name == name) with
    | some m => if m.path.toList.isEmpty then match m.func with
        | some (f, false) => match P.underlying t with
          | some (.pointer _) => none
          | some _ => some f
          | none => none
        | _ => none
      else none
    | none => none
  | none => none
def strO (e : TypeId) : Bool := match P.underlying e with
  | some .string => true
  | _ => false
def kdO (t : TypeId) : Option KD := match P.underlying t with
  | some (.int k) => some (.int k)
  | some .bool => some .bool
  | some .string => some .str
  | some (.array len e) => match P.underlying e with
    | some (.int .i64) => if P.cellsOf t = len ∧ P.cellsOf e = 1 ∧ P.keyType t = true ∧ P.keyTypeAt 3 t = true ∧ P.eqGuardType P.depth t = false ∧ 0 < P.types.size ∧ 0 < len then some (.arr len) else none
    | some .bool => if P.cellsOf t = len ∧ P.cellsOf e = 1 ∧ P.keyType t = true ∧ P.keyTypeAt 3 t = true ∧ P.eqGuardType P.depth t = false ∧ 0 < P.types.size ∧ 0 < len then some (.arrB len) else none
    | _ => none
  | _ => none
def fieldsK : Nat → List Field → Option (List Bool)
  | _, [] => some []
  | k, f :: r => if f.offset = k ∧ P.cellsOf f.type = 1 ∧ (f.name != "_") = true then match P.underlying f.type with
      | some (.int .i64) => (fieldsK (k + 1) r).map (false :: ·)
      | some .bool => (fieldsK (k + 1) r).map (true :: ·)
      | _ => none
    else none
def stO (t : TypeId) : Option (List Bool) := match P.underlying t with
  | some (.struct fs) => match fieldsK P 0 fs.toList with
    | some ks => if P.cellsOf t = ks.length ∧ P.keyTypeAt 2 t = true ∧ P.eqGuardType P.depth t = false then some ks else none
    | none => none
  | _ => none
def kvO (t : TypeId) : Option (KD × PV) := match P.underlying t with
  | some (.map k e) => match kdO P k, zeroO P e with
    | some kd, some z => some (kd, z)
    | _, _ => none
  | _ => none
def cop (o : Oper) : Option AOp :=
  match o.op with
  | .move x | .assign x => some (.mov x)
  | .pick c x y => some (.pick c x y)
  | .box t x => some (.box t x)
  | .alloc t => (zeroO P t).map (.zro t)
  | .load t x => match agO P t, szO P t with
    | some ag, some n => some (.load ag n x)
    | _, _ => none
  | .store t x y => (szO P t).map fun n => .store n x y
  | .binOp op t x y _ => match P.underlying t with
    | some (.slice _) => match op, y with
      | .eql, .const (.slice none 0 0) => some (.eqn false x)
      | .neq, .const (.slice none 0 0) => some (.eqn true x)
      | _, _ => none
    | some (.int _) => some (.bin false op x y)
    | some .bool => some (.bin true op x y)
    | some .string => some (.bin false op x y)
    | some (.array _ _) => match kdO P t, op with
      | some kd, .eql => some (.eqA kd false x y)
      | some kd, .neq => some (.eqA kd true x y)
      | _, _ => none
    | some (.struct _) => match stO P t, op with
      | some ks, .eql => some (.eqS ks false x y)
      | some ks, .neq => some (.eqS ks true x y)
      | _, _ => none
    | _ => none
  | .unOp op _ x => some (.un op x)
  | .convert src dst x => match P.underlying src, P.underlying dst with
    | some _, some (.int k) => some (.cvt k x)
    | some (.slice e), some .string => match P.underlying e with
      | some (.int .u8) => some (.str x)
      | _ => none
    | _, _ => none
  | .extract x i => some (.ext x i)
  | .fieldAddr t x f => match P.underlying t with
    | some (.struct fs) => match fs[f]? with
      | some fd => match szO P fd.type with
        | some n => if n = 0 then none else some (.fadr fd.offset x)
        | none => none
      | none => none
    | _ => none
  | .indexAddr t x i => match P.underlying t with
    | some (.slice e) => (szO P e).map fun n => .iadr n x i
    | some (.array len e) => (szO P e).map fun n => .iadrA len n x i
    | _ => none
  | .field t x f => match P.underlying t with
    | some (.struct fs) => match fs[f]? with
      | some fd => match agO P fd.type, szO P fd.type with
        | some ag, some n => some (.fld ag n fd.offset x)
        | _, _ => none
      | none => none
    | _ => none
  | .index t x i => match P.underlying t with
    | some (.array len e) => match agO P e, szO P e with
      | some ag, some n => some (.idx ag len n x i)
      | _, _ => none
    | _ => none
  | .makeSlice t n c => match slO P t with
    | some e => match szO P e, zeroO P e, P.info? e with
      | some sz, some z, some i => if sz = z.flat.length ∧ i.bytes ≤ 1024 ∧ sz = 1 ∧ z.one = true then some (if deepO P e then .mkT e z n c else .mk e sz z n c) else if sz = z.flat.length ∧ i.bytes ≤ 1024 ∧ 0 < sz then some (.mkR e sz z n c) else none
      | _, _, _ => none
    | none => none
  | .buildSlice t n parts => match slO P t with
    | some e => match szO P e, zeroO P e with
      | some sz, some z => if parts.size = n ∧ inOrder 0 parts.toList = true ∧ sz = z.flat.length ∧ 0 < sz ∧ n * sz ≤ 65536 then some (if deepO P e && sz == 1 then .bslT e (parts.toList.map (·.2)) else if ifcO P e then .bslR e sz (parts.toList.map (·.2)) else .bsl e sz (parts.toList.map (·.2))) else none
      | _, _ => none
    | none => none
  | .build t parts => match P.underlying t, zeroO P t with
    | some (.struct fs), some (.agg z) => match fs.toList.mapM fun f => (szO P f.type).map fun n => (f.offset, n) with
      | some places => some (.bld z places parts.toList)
      | none => none
    | some (.array len e), some (.agg z) => match szO P e with
      | some n => if (parts.toList.map (·.1)).all (fun i => decide (i < len)) = true then some (.bld z ((List.range len).map fun i => (i * n, n)) parts.toList) else none
      | none => none
    | _, _ => none
  | .slice t x lo hi none => match P.underlying t with
    | some (.slice e) => (szO P e).map fun n => .slS n x lo hi
    | some (.array len e) => match lo, hi with
      | none, none => if szO P e = some 1 then some (.slA len x) else none
      | _, _ => none
    | _ => none
  | .makeMap t none => (kvO P t).map fun p => .mkm p.1
  | .lookup t m k ok => (kvO P t).map fun p => .look p.1 p.2 ok m k
  | .mapUpdate t m k x | .insert t m k x => (kvO P t).map fun p => .mset p.1 m k x
  | .mapEntry t m k => (kvO P t).map fun p => .ment p.1 p.2 m k
  | .entryStore t m i x => (kvO P t).map fun _ => .eset m i x
  | .makeFunc f first cap => some (.fn f first.toList cap.toList)
  | .nilCheck x => some (.nilc x)
  | .makeInterface t x => match P.underlying t with
    | some (.interface _) => none
    | some _ => some (.mkI t x)
    | none => none
  | .typeAssert x _ t true => match P.underlying t with
    | some (.interface _) => none
    | some _ => (zeroO P t).map fun z => .tas t z x
    | none => none
  | .call c => match c.callee with
    | .builtin .len => match c.args.toList, c.argTypes[0]? with
      | [x], some t => match P.underlying t with
        | some (.slice _) => if c.argTypes.size = 1 then some (.len x) else none
        | some (.map _ _) => if c.argTypes.size = 1 then some (.lenM x) else none
        | _ => none
      | _, _ => none
    | .builtin .append => match c.args.toList, c.argTypes.toList with
      | [x, y], [t, t'] => if t = t' then (match slO P t with
        | some e => match szO P e, zeroO P e, P.info? e with
          | some sz, some z, some i => if sz = z.flat.length ∧ i.bytes ≤ 1024 ∧ 0 < sz ∧ i.zero.isSome then some (if deepO P e && sz == 1 then .appT e x y else if strO P e && sz == 1 then .appQ e x y else if ifcO P e then .appR e sz x y else .app e sz x y) else none
          | _, _, _ => none
        | none => none) else none
      | _, _ => none
    | .builtin .min => match c.args.toList with
      | [x, y] => some (.mm false x y)
      | _ => none
    | .builtin .max => match c.args.toList with
      | [x, y] => some (.mm true x y)
      | [x, y, z, u] => some (.mm4 x y z u)
      | _ => none
    | .builtin .copy => match c.args.toList, c.argTypes.toList with
      | [x, y], [t, _] => match slO P t with
        | some e => if szO P e = some 1 then some (.cpy x y) else match szO P e with
          | some sz => if 0 < sz then some (.cpyR sz x y) else none
          | none => none
        | none => none
      | _, _ => none
    | .value (.func f) => match P.funcs[f]? with
      | some fn => if fn.name == "runtime.NumGoroutine" || fn.body.isNone then none else some (.call f c.args.toList)
      | none => none
    | .value (.tmp x) => some (.callv (.tmp x) c.args.toList)
    | .invoke recv name => some (.callM name (recv :: c.args.toList))
    | _ => none
  | _ => none
end
end Abs
end Go
/-
  AN ABSTRACT MACHINE, part 3: each operation that looks alone does in memory what the abstract one does.
-/
namespace Go
namespace Abs
open Go.RowKit
theorem ofVal_ok {S : Nat → Prop} {w : World} {v : Value} {q : PV} (h : ofVal v = some q) : RP S w q v := by
  unfold ofVal at h
  split at h
  · rename_i hs
    injection h with h
    subst h
    exact .v v hs
  · split at h
    · rename_i cs _
      split at h
      · rename_i hs
        injection h with h
        subst h
        refine .agg _ cs (by simp) (fun e he => ?_) (fun i hi hi' => ?_)
        · obtain ⟨x, _, rfl⟩ := List.mem_map.1 he
          rfl
        · simp only [List.getElem_map, Array.getElem_toList]
          exact .v _ (List.all_eq_true.1 hs _ (by simp))
      · cases h
    · cases h
def Env (M : Mem) (t : List (Nat × AV)) (a : Act) : Prop := ∀ i, RA M (get t i) (a.tmps.getD i undef)
theorem Env.mono {M M' : Mem} {t : List (Nat × AV)} {a : Act} (hm : Le M M') (h : Env M t a) : Env M' t a := fun i => (h i).mono hm
theorem aev_ok {M : Mem} {t : List (Nat × AV)} {a : Act} (hE : Env M t a) {x : Operand} {y : AV} (h : aev t x = some y) : RA M y (a.eval x) := by
  cases x with
  | tmp i => simp only [aev, Option.some.injEq] at h; subst h; exact hE i
  | const v =>
    simp only [aev, Option.map_eq_some_iff] at h
    obtain ⟨q, hq, rfl⟩ := h
    exact .p q v (ofVal_ok hq)
  | func f => simp only [aev, Option.some.injEq] at h; subst h; exact .fn (.func f) [] [] #[] #[] rfl rfl (fun i h => by simp at h) (fun i h => by simp at h)
  | global g => simp [aev] at h
def StepOk (P : Program) (M : Mem) (g : Bool) (e : Sem Next) (x : AV) (H' : List AO) : Prop :=
  ∃ v w' φ', (e.run P M.w = .ok (.value v) w' ∨ (e.run P M.w = .ok .skip w' ∧ v = undef)) ∧ MemOk ⟨w', H', φ', M.base, M.S⟩ ∧ Le M ⟨w', H', φ', M.base, M.S⟩ ∧ RA ⟨w', H', φ', M.base, M.S⟩ x v ∧
    Below M.base M.w w' ∧ (g = true → Early.Ext M.w w')
theorem StepOk.same {P : Program} {M : Mem} {g : Bool} {e : Sem Next} {x : AV} {v : Value} (hM : MemOk M) (hr : e.run P M.w = .ok (.value v) M.w) (hx : RA M x v) : StepOk P M g e x M.H :=
  ⟨v, M.w, M.φ, .inl hr, hM, Le.refl M, hx, Below.refl _ _, fun _ => Early.Ext.refl _⟩
theorem RP.int {S : Nat → Prop} {w : World} {k : IntKind} {n : Int} {v : Value} (h : RP S w (.v (.int k n)) v) : v = .int k n := by cases h; rfl
theorem RA.lit {M : Mem} {x : Value} {v : Value} (h : RA M (.p (.v x)) v) : v = x ∧ scalar x = true := by
  cases h with | p x v h => cases h with | v x h => exact ⟨rfl, h⟩
theorem RA.toP {M : Mem} {x : PV} {v : Value} (h : RA M (.p x) v) : RP M.shared M.w x v := by cases h; assumption
theorem RA.val {M : Mem} {x : Value} (h : scalar x = true) : RA M (.p (.v x)) x := .p _ _ (.v x h)
theorem RA.toPtr {M : Mem} {o n i j : Nat} {v : Value} (h : RA M (.ptr o n i j) v) : PtrOk M o n i j v := by cases h; assumption
theorem RA.toOs {M : Mem} {o off len : Nat} {v : Value} (h : RA M (.os o off len) v) : OsOk M o off len v := by cases h; assumption
theorem asNat_ok {M : Mem} {x : AV} {v : Value} {k : Nat} (h : RA M x v) (hk : asNat x = some k) : ∃ kd : IntKind, v = .int kd k := by
  unfold asNat at hk
  split at hk
  · rename_i kd n
    obtain ⟨rfl, _⟩ := h.lit
    split at hk
    · rename_i h0
      injection hk with hk
      subst hk
      exact ⟨kd, by rw [Int.toNat_of_nonneg h0]⟩
    · cases hk
  · cases hk
theorem asNat_bind {M : Mem} {t : List (Nat × AV)} {a : Act} (hE : Env M t a) {x : Operand} {k : Nat} (h : (aev t x).bind asNat = some k) : ∃ kd : IntKind, a.eval x = .int kd k := by
  obtain ⟨y, hy, hk⟩ := Option.bind_eq_some_iff.1 h
  exact asNat_ok (aev_ok hE hy) hk
theorem RP.one_of {S : Nat → Prop} {w : World} {x : PV} {v : Value} (h : RP S w x v) (ho : v.oneCell' = true) : x.one = true := by
  cases h with
  | v => rfl
  | sl => rfl
  | agg => cases ho
theorem allP_eq : ∀ {l : List AV} {ps : List PV}, allP l = some ps → l = ps.map .p
  | [], ps, h => by simp [allP] at h; subst h; rfl
  | x :: l, ps, h => by
    cases x <;> simp only [allP, Option.map_eq_some_iff, reduceCtorEq] at h
    obtain ⟨qs, hq, rfl⟩ := h
    rw [allP_eq hq]; rfl
theorem RA.mkAgg {M : Mem} {l : List AV} {v : Value} (h : RA M (.agg l) v) : RA M (Abs.mkAgg l) v := by
  unfold Abs.mkAgg
  split
  · rename_i ps hps
    split
    · rename_i hone
      have := allP_eq hps
      subst this
      cases h with
      | agg l cs hl ho hr =>
        refine .p _ _ (.agg ps cs (by simpa using hl) (fun e he => List.all_eq_true.1 hone e he) (fun i hi hi' => ?_))
        have := hr i (by simpa using hi) hi'
        simp only [List.getElem_map] at this
        exact this.toP
    · exact h
  · exact h
theorem solid_one {M : Mem} {x : AV} {v : Value} (h : RA M x v) (hs : solid M.H x = true) : v.oneCell' = true := by
  cases h with
  | p x v h => exact h.one hs
  | os o off len v h =>
    obtain ⟨ob, h1, h2, h3⟩ := h
    simp only [solid, h1] at hs
    cases ob with
    | row els sz t fz =>
      simp only [beq_iff_eq] at hs
      rcases h3 hs t rfl with (⟨_, _, _, rfl⟩ | ⟨b, cap, _, rfl, _⟩) | ⟨_, _, _, rfl⟩ <;> rfl
    | tab els t fz =>
      simp only [beq_iff_eq] at hs
      rcases h3 hs t rfl with (⟨_, _, _, rfl⟩ | ⟨b, cap, _, rfl, _⟩) | ⟨_, _, _, rfl⟩ <;> rfl
    | arr els sz t =>
      simp only [beq_iff_eq] at hs
      rcases h3 hs t rfl with (⟨_, _, _, rfl⟩ | ⟨b, cap, _, rfl, _⟩) | ⟨_, _, _, rfl⟩ <;> rfl
    | box y => simp at hs
    | dict kd es => simp at hs
    | fbx y => simp at hs
    | lp => simp at hs
  | ptr o n i j v h =>
    obtain ⟨ob, h1, h2, h3⟩ := h
    simp only [solid, h1, beq_iff_eq] at hs
    obtain ⟨b, _, rfl⟩ := h3 hs
    rfl
  | sp => rfl
  | agg => cases hs
  | tup => cases hs
  | fn => rfl
  | dead => cases hs
  | mp o v h =>
    obtain ⟨ob, h1, h2, h3⟩ := h
    simp only [solid, h1, beq_iff_eq] at hs
    obtain ⟨b, _, rfl⟩ := h3 hs
    rfl
  | bs o j len v hl h =>
    obtain ⟨ob, h1, h2, h3⟩ := h
    simp only [solid, h1, beq_iff_eq] at hs
    obtain ⟨b, _, rfl⟩ := h3 hs
    rfl
  | yl o v h =>
    obtain ⟨ob, h1, h2, h3⟩ := h
    simp only [solid, h1, beq_iff_eq] at hs
    obtain ⟨b, _, rfl⟩ := h3 hs
    rfl
  | cut => cases hs
  | bc => cases hs
  | ifc => rfl
theorem cells_one {v : Value} (h : v.oneCell' = true) : v.cells = #[v] := by
  cases v <;> first | rfl | cases h
theorem boxable_cells {M : Mem} {x : AV} {v : Value} (h : RA M x v) (hs : boxable M.H x = true) : CellsOk M x.flat v.cells := by
  cases h with
  | p x v h =>
    cases h with
    | v x h => exact ⟨by rw [cells_one (scalar_one h)]; rfl, fun i hi => by
        simp [AV.flat, PV.flat] at hi
        subst hi
        exact ⟨_, by rw [cells_one (scalar_one h)]; rfl, RA.val h, scalar_one h⟩⟩
    | sl l A cap sz c h1 h2 h3 ha hr =>
      exact ⟨rfl, fun i hi => by
        simp [AV.flat, PV.flat] at hi
        subst hi
        exact ⟨_, rfl, .p _ _ (.sl l A cap sz c h1 h2 h3 ha hr), rfl⟩⟩
    | agg l cs hl ho hr =>
      refine ⟨by simpa [AV.flat, PV.flat, Value.cells] using hl, fun i hi => ?_⟩
      simp only [AV.flat, PV.flat, List.length_map] at hi
      refine ⟨cs[i], by simp [Value.cells, Array.getElem?_eq_getElem (by omega : i < cs.size)], ?_, ?_⟩
      · simp only [AV.flat, PV.flat, List.getElem_map]; exact .p _ _ (hr i hi (by omega))
      · exact (hr i hi (by omega)).one (ho _ (List.getElem_mem hi))
  | agg l cs hl ho hr =>
    refine ⟨hl, fun i hi => ?_⟩
    have hi' : i < cs.size := by simp only [AV.flat] at hi; omega
    exact ⟨cs[i], by simp [Value.cells, Array.getElem?_eq_getElem hi'], hr i hi hi', ho _ (by simp)⟩
  | tup => cases hs
  | dead => cases hs
  | os o off len v h =>
    have h1 := solid_one (.os o off len v h) hs
    exact ⟨by rw [cells_one h1]; rfl, fun i hi => by
      simp [AV.flat] at hi
      subst hi
      exact ⟨v, by rw [cells_one h1]; rfl, .os o off len v h, h1⟩⟩
  | ptr o n i j v h =>
    have h1 := solid_one (.ptr o n i j v h) hs
    exact ⟨by rw [cells_one h1]; rfl, fun k hk => by
      simp [AV.flat] at hk
      subst hk
      exact ⟨v, by rw [cells_one h1]; rfl, .ptr o n i j v h, h1⟩⟩
  | mp o v h =>
    have h1 := solid_one (.mp o v h) hs
    exact ⟨by rw [cells_one h1]; rfl, fun k hk => by
      simp [AV.flat] at hk
      subst hk
      exact ⟨v, by rw [cells_one h1]; rfl, .mp o v h, h1⟩⟩
  | bs o j len v hl h =>
    have h1 := solid_one (.bs o j len v hl h) hs
    exact ⟨by rw [cells_one h1]; rfl, fun k hk => by
      simp [AV.flat] at hk
      subst hk
      exact ⟨v, by rw [cells_one h1]; rfl, .bs o j len v hl h, h1⟩⟩
  | yl o v h =>
    have h1 := solid_one (.yl o v h) hs
    exact ⟨by rw [cells_one h1]; rfl, fun k hk => by
      simp [AV.flat] at hk
      subst hk
      exact ⟨v, by rw [cells_one h1]; rfl, .yl o v h, h1⟩⟩
  | cut o off len k v h => cases hs
  | bc o len cap v hl hc h0 h => cases hs
  | ifc t x v h =>
    exact ⟨rfl, fun i hi => by
      simp [AV.flat] at hi
      subst hi
      exact ⟨_, rfl, .ifc t x v h, rfl⟩⟩
  | sp e j b off c hb ho hc hr =>
    exact ⟨rfl, fun i hi => by
      simp [AV.flat] at hi
      subst hi
      exact ⟨_, rfl, .sp e j b off c hb ho hc hr, rfl⟩⟩
  | fn f first cap fs cs hl hl' hr hr' =>
    exact ⟨rfl, fun i hi => by
      simp [AV.flat] at hi
      subst hi
      exact ⟨_, rfl, .fn f first cap fs cs hl hl' hr hr', rfl⟩⟩
section
variable {P : Program}
theorem agO_run {t : TypeId} {ag : Bool} (h : agO P t = some ag) (w : World) : (Go.isAgg t).run P w = .ok ag w := by
  unfold agO at h
  obtain ⟨d, hd, rfl⟩ := Option.map_eq_some_iff.1 h
  unfold Go.isAgg
  rw [Sem.run_bind, run_underlying hd, Result.andThen_ok]
  cases d <;> rfl
theorem szO_run {t : TypeId} {n : Nat} (h : szO P t = some n) (w : World) : (sizeOf t).run P w = .ok n w := by
  unfold szO at h
  obtain ⟨i, hi, rfl⟩ := Option.map_eq_some_iff.1 h
  simp [sizeOf, typeInfo, hi]
theorem addr_add (b o n : Nat) : (⟨b, o, none⟩ : Addr).add n = ⟨b, o + n, none⟩ := by
  unfold Addr.add; split <;> simp_all
theorem loadA {M : Mem} {x : AV} {b off : Nat} (c : Nat → Value) (hc : ∀ k (h : k < x.flat.length), M.w.cell? ⟨b, off + k, none⟩ = some (c k) ∧ RA M x.flat[k] (c k) ∧ (c k).oneCell' = true)
    {t : TypeId} {ag : Bool} {n j : Nat} {y : AV} (hag : agO P t = some ag) (hn : szO P t = some n) (h : partA ag n x j = some y) :
    ∃ v, (loadVar t ⟨b, off + j, none⟩).run P M.w = .ok v M.w ∧ RA M y v := by
  have many : ∀ (hj : j + n ≤ x.flat.length), ag = true → (loadVar t ⟨b, off + j, none⟩).run P M.w = .ok (.agg ((List.range n).map fun k => c (j + k)).toArray) M.w := by
    intro hj hat
    subst hat
    have hl : (loadCells ⟨b, off + j, none⟩ n).run P M.w = .ok ((List.range n).map fun k => c (j + k)).toArray M.w :=
      run_loadCells M.w ⟨b, off + j, none⟩ n (fun k => c (j + k)) (fun k hk => by
        rw [addr_add, Nat.add_assoc]
        exact (hc (j + k) (by omega)).1)
    unfold loadVar
    simp only [Sem.run_bind, agO_run hag, Result.andThen_ok, if_true, szO_run hn, hl, Sem.run_pure]
  have one : ∀ (hj : j < x.flat.length), ag = false → (loadVar t ⟨b, off + j, none⟩).run P M.w = .ok (c j) M.w := by
    intro hj haf
    subst haf
    unfold loadVar
    simp only [Sem.run_bind, agO_run hag, Result.andThen_ok, Bool.false_eq_true, if_false, run_load, (hc j hj).1]
  have aggL : ∀ (l : List AV) (hj : j + n ≤ x.flat.length), l = (x.flat.drop j).take n → RA M (.agg l) (.agg ((List.range n).map fun k => c (j + k)).toArray) := by
    intro l hj hl
    have hll : l.length = n := by rw [hl]; simp; omega
    refine .agg l _ (by simp [hll]) (fun v hv => ?_) (fun i hi hi' => ?_)
    · simp only [List.mem_toArray, List.mem_map, List.mem_range] at hv
      obtain ⟨k, hk, rfl⟩ := hv
      exact (hc (j + k) (by omega)).2.2
    · have := (hc (j + i) (by omega)).2.1
      simp only [List.getElem_toArray, List.getElem_map, List.getElem_range]
      have e : l[i] = x.flat[j + i]'(by omega) := by
        have : l[i]? = x.flat[j + i]? := by rw [hl, List.getElem?_take_of_lt (by omega), List.getElem?_drop]
        rw [List.getElem?_eq_getElem hi, List.getElem?_eq_getElem (by omega)] at this
        exact Option.some.inj this
      rw [e]
      exact this
  have cellv : ∀ (z : AV), x.flat[j]? = some z → ag = false → ∃ v, (loadVar t ⟨b, off + j, none⟩).run P M.w = .ok v M.w ∧ RA M z v := by
    intro z hz haf
    obtain ⟨hj, rfl⟩ := List.getElem?_eq_some_iff.1 hz
    exact ⟨c j, one hj haf, (hc j hj).2.1⟩
  have one1 : x.flat = [x] → (if ag = false ∧ j = 0 then some x else none) = some y → ∃ v, (loadVar t ⟨b, off + j, none⟩).run P M.w = .ok v M.w ∧ RA M y v := by
    intro hx hy
    split at hy
    · rename_i h0
      injection hy with hy
      subst hy
      exact cellv x (by rw [h0.2, hx]; rfl) h0.1
    · cases hy
  cases x with
  | p e =>
    simp only [partA, Option.map_eq_some_iff] at h
    obtain ⟨q, hq, rfl⟩ := h
    simp only [partP] at hq
    have hfl : (AV.p e).flat = e.flat.map .p := rfl
    cases ag with
    | true =>
      simp only [if_true] at hq
      split at hq
      · rename_i h0
        injection hq with hq
        subst hq
        obtain ⟨h1, h2, h3⟩ := h0
        subst h1
        cases e with
        | agg l =>
          refine ⟨_, many (by simp [hfl, PV.flat] at *; omega) rfl, ?_⟩
          have := aggL (l.map .p) (by simp [hfl, PV.flat] at *; omega) (by simp [hfl, PV.flat] at *; rw [List.take_of_length_le (by simp; omega)])
          cases this with
          | agg _ cs hl ho hr =>
            refine .p _ _ (.agg l _ (by simpa using hl) (fun e he => ?_) (fun i hi hi' => ?_))
            · obtain ⟨i, hi, rfl⟩ := List.mem_iff_getElem.1 he
              have h4 := hr i (by simpa using hi) (by simp at hl ⊢; omega)
              simp only [List.getElem_map] at h4
              exact h4.toP.one_of (ho _ (Array.getElem_mem _))
            · have h4 := hr i (by simpa using hi) hi'
              simp only [List.getElem_map] at h4
              exact h4.toP
        | v => cases h3
        | sl => cases h3
      · split at hq
        · rename_i hj
          injection hq with hq
          subst hq
          refine ⟨_, many (by simpa [hfl] using hj) rfl, ?_⟩
          have := aggL (((e.flat.drop j).take n).map .p) (by simpa [hfl] using hj) (by rw [hfl]; simp [List.map_drop, List.map_take])
          cases this with
          | agg _ cs hl ho hr =>
            refine .p _ _ (.agg _ _ (by simpa using hl) (fun e he => ?_) (fun i hi hi' => ?_))
            · obtain ⟨i, hi, rfl⟩ := List.mem_iff_getElem.1 he
              have h4 := hr i (by simpa using hi) (by simp at hl hi ⊢; omega)
              simp only [List.getElem_map] at h4
              exact h4.toP.one_of (ho _ (Array.getElem_mem _))
            · have h4 := hr i (by simpa using hi) hi'
              simp only [List.getElem_map] at h4
              exact h4.toP
        · cases hq
    | false =>
      simp only [Bool.false_eq_true, if_false] at hq
      exact cellv (.p q) (by rw [hfl, List.getElem?_map, hq]; rfl) rfl
  | agg l =>
    simp only [partA] at h
    cases ag with
    | true =>
      simp only [if_true] at h
      split at h
      · rename_i h0
        injection h with h
        subst h
        obtain ⟨h1, h2⟩ := h0
        subst h1 h2
        exact ⟨_, many (by simp [AV.flat]) rfl, aggL l (by simp [AV.flat]) (by simp [AV.flat])⟩
      · split at h
        · rename_i hj
          injection h with h
          subst h
          exact ⟨_, many hj rfl, (aggL _ hj rfl).mkAgg⟩
        · cases h
    | false =>
      simp only [Bool.false_eq_true, if_false] at h
      exact cellv y h rfl
  | os o off len => simp only [partA] at h; exact one1 rfl h
  | ptr o n i j => simp only [partA] at h; exact one1 rfl h
  | sp e j => simp only [partA] at h; exact one1 rfl h
  | tup l => simp only [partA] at h; exact one1 rfl h
  | fn f a c => simp only [partA] at h; exact one1 rfl h
  | dead => simp only [partA] at h; exact one1 rfl h
  | mp o => simp only [partA] at h; exact one1 rfl h
  | bs o j len => simp only [partA] at h; exact one1 rfl h
  | yl o => simp only [partA] at h; exact one1 rfl h
  | cut o off len k => simp only [partA] at h; exact one1 rfl h
  | bc o len cap => simp only [partA] at h; exact one1 rfl h
  | ifc t x => simp only [partA] at h; exact one1 rfl h
end
end Abs
end Go
/-
  AN ABSTRACT MACHINE, part 4: stores, appends, rows that are made.
-/
namespace Go
namespace Abs
open Go.RowKit
theorem idx_lt {i n sz j : Nat} (hi : i < n) (hj : j < sz) : i * sz + j < n * sz := by
  have : (i + 1) * sz ≤ n * sz := Nat.mul_le_mul_right _ hi
  rw [Nat.add_mul, Nat.one_mul] at this
  omega
theorem list_three {α : Type} (a b c : List α) (k : Nat) : (a ++ b ++ c)[k]? = if k < a.length then a[k]? else if k < a.length + b.length then b[k - a.length]? else c[k - a.length - b.length]? := by
  rw [List.append_assoc]
  split
  · rename_i h; rw [List.getElem?_append_left h]
  · rename_i h
    rw [List.getElem?_append_right (by omega)]
    split
    · rename_i h2; rw [List.getElem?_append_left (by omega)]
    · rename_i h2; rw [List.getElem?_append_right (by omega)]
theorem putP_flat {e x e' : PV} {j : Nat} (h : putP e j x = some e') : e'.flat = e.flat.take j ++ x.flat ++ e.flat.drop (j + x.flat.length) ∧ j + x.flat.length ≤ e.flat.length := by
  unfold putP at h
  split at h
  · rename_i h0
    injection h with h
    subst h
    obtain ⟨rfl, h1⟩ := h0
    refine ⟨?_, by omega⟩
    rw [List.drop_of_length_le (by omega)]
    simp
  · split at h
    · rename_i l _
      split at h
      · rename_i h0
        injection h with h
        subst h
        obtain ⟨h1, h2⟩ := h0
        have hx : x.flat = [x] := by cases x <;> first | rfl | cases h1
        rw [hx]
        refine ⟨?_, by simp only [PV.flat, List.length_singleton]; omega⟩
        simp only [PV.flat, List.length_singleton]
        rw [List.set_eq_take_append_cons_drop, if_pos h2]
        simp
      · cases h
    · cases h
theorem mkAgg_flat (l : List AV) : (mkAgg l).flat = l := by
  unfold mkAgg
  split
  · rename_i ps hps
    split
    · rw [allP_eq hps]; rfl
    · rfl
  · rfl
theorem putA_flat {H : List AO} {x y x' : AV} {j : Nat} (h : putA H x j y = some x') : x'.flat = x.flat.take j ++ y.flat ++ x.flat.drop (j + y.flat.length) ∧ j + y.flat.length ≤ x.flat.length ∧ boxable H y = true := by
  unfold putA at h
  split at h
  · rename_i h0
    injection h with h
    subst h
    obtain ⟨rfl, h1, h2⟩ := h0
    refine ⟨?_, by omega, h2⟩
    rw [List.drop_of_length_le (by omega)]
    simp
  · split at h
    · rename_i h0
      injection h with h
      subst h
      obtain ⟨h1, h2⟩ := h0
      have hx : y.flat = [y] := by
        cases y <;> first | rfl | (cases h1; done) | skip
        rename_i q _
        cases q <;> first | rfl | cases h1
      have hb : boxable H y = true := by cases y <;> first | exact h1 | rfl
      rw [hx]
      refine ⟨?_, by simp only [List.length_singleton]; omega, hb⟩
      rw [mkAgg_flat, List.set_eq_take_append_cons_drop, if_pos h2]
      simp
    · cases h
section
variable {P : Program} {M : Mem}
theorem storeVar_run {tt : TypeId} {n : Nat} (hn : szO P tt = some n) {b off : Nat} {v : Value} {w : World} {cur : Array Value} {ty : TypeId} (hb : w.heap[b]? = some (.cells cur ty (0, 0)))
    (hv : v.cells.size = n) (hone : ∀ c ∈ v.cells.toList, c.oneCell' = true) (hoff : off + v.cells.toList.length ≤ cur.size) :
    (storeVar tt ⟨b, off, none⟩ v).run P w = .ok () (w.setRow b (cur.toList.take off ++ v.cells.toList ++ cur.toList.drop (off + v.cells.toList.length)).toArray) := by
  unfold storeVar
  have := run_storeCells_at (P := P) b off ty v.cells.toList 0 cur w hb (by omega) hone
  simp only [Sem.run_bind, szO_run hn, Result.andThen_ok, hv]
  simpa using this
theorem shape_of {w : World} {b : Nat} {cur : Array Value} {t : TypeId} (h : w.heap[b]? = some (.cells cur t (0, 0))) : w.shape? b = some (t, cur.size) := by simp [World.shape?, h]
theorem set_same {α : Type} {l : List α} {o : Nat} {x : α} (h : l[o]? = some x) : l.set o x = l := by
  apply List.ext_getElem?
  intro i
  by_cases e : i = o
  · subst e
    have := (List.getElem?_eq_some_iff.1 h).1
    simp [this]
    exact (List.getElem?_eq_some_iff.1 h).2.symm
  · rw [List.getElem?_set_ne (by omega)]
theorem turn_here (hM : MemOk M) {o b : Nat} {ob ob' : AO} (ho : M.H[o]? = some ob) (hfz : ob.fz = false) (hφ : M.φ o = some b) {cur new : Array Value} {t : TypeId} (hb : M.w.heap[b]? = some (.cells cur t (0, 0)))
    (hsz : new.size = cur.size) (htag : ob'.tag = ob.tag) (hlen : ob'.len = ob.len) (hz : ob'.sz = ob.sz)
    (hob : ∀ M' : Mem, Le M M' → M'.φ o = some b → M'.w.heap[b]? = some (.cells new t (0, 0)) → ObOk M' o ob') :
    MemOk ⟨M.w.setRow b new, M.H.set o ob', upd M.φ o (M.φ o), M.base, M.S⟩ ∧ Le M ⟨M.w.setRow b new, M.H.set o ob', upd M.φ o (M.φ o), M.base, M.S⟩ ∧ Below M.base M.w (M.w.setRow b new) := by
  have h1 : M.w.heap.size ≤ (M.w.setRow b new).heap.size := by simp
  have h2 : ∀ b', b' < M.w.heap.size → M.φ o ≠ some b' → (M.w.setRow b new).heap[b']? = M.w.heap[b']? := fun b' _ hne => setRow_other M.w b b' new (fun e => hne (by rw [hφ, e]))
  have h3 : ob'.len = ob.len → ob'.sz = ob.sz ∧ M.φ o = M.φ o ∧ ∀ b', M.φ o = some b' → (M.w.setRow b new).shape? b' = M.w.shape? b' := fun _ => ⟨hz, rfl, fun b' hb' => by
    rw [hφ] at hb'
    injection hb' with hb'
    subst hb'
    rw [shape_of (setRow_heap M.w b cur new t (0, 0) hb), shape_of hb, hsz]⟩
  have hle := Le.turn hM ho hfz h1 h2 (.inl rfl) htag (by omega) h3
  refine ⟨MemOk.turn hM ho hfz h1 h2 (.inl rfl) htag (by omega) h3 ?_, hle, below_setRow (Below.refl _ _) (hM.lo o b (List.getElem?_eq_some_iff.1 ho).1 hφ) new⟩
  exact hob _ hle (by simp [upd, hφ]) (setRow_heap M.w b cur new t (0, 0) hb)
theorem step_store {o : Oper} {tt : TypeId} {x y : Operand} {n : Nat} (hop : o.op = .store tt x y) (hn : szO P tt = some n) {s : St} {a : Act} (hM : MemOk M) (hH : M.H = s.H) (hE : Env M s.t a) {r : AV} {H' : List AO}
    (h : astep (.store n x y) s = some (r, H')) : StepOk P M false (execOp a.eval o) r H' := by
  simp only [astep] at h
  split at h
  · rename_i ob m i j z hx hy
    rw [← hH] at h
    split at h
    · rename_i hzn
      have rx := (aev_ok hE hx).toPtr
      have ry := aev_ok hE hy
      obtain ⟨obj, h1, h2, h3⟩ := rx
      have run : ∀ {b off : Nat} {cur new : Array Value} {ty : TypeId}, a.eval x = .pointer (some ⟨b, off, none⟩) → M.w.heap[b]? = some (.cells cur ty (0, 0)) → CellsOk M z.flat (a.eval y).cells → off + (a.eval y).cells.toList.length ≤ cur.size →
          new = (cur.toList.take off ++ (a.eval y).cells.toList ++ cur.toList.drop (off + (a.eval y).cells.toList.length)).toArray → (execOp a.eval o).run P M.w = .ok .skip (M.w.setRow b new) := by
        intro b off cur new ty hp hb hc hoff hnew
        have := storeVar_run (P := P) hn hb (v := a.eval y) (off := off) (by rw [hc.1]; exact hzn) (fun c hcm => by
          obtain ⟨k, hk, rfl⟩ := List.mem_iff_getElem.1 hcm
          obtain ⟨c', e1, _, e3⟩ := hc.2 k (by have := hc.1; simp at hk; omega)
          simp at hk
          rw [Array.getElem?_eq_getElem hk] at e1
          injection e1 with e1
          simpa [e1] using e3) hoff
        unfold execOp
        rw [hop]
        simp only [Instr.storeAt, hp, Instr.sureAddr, Sem.run_bind, Sem.run_pure, Result.andThen_ok, this, hnew]
      split at h
      · rename_i els sz t hob
        rw [hob] at h1
        injection h1 with h1
        subst h1
        simp only [AO.len, AO.sz] at h2 h3
        split at h
        · rename_i hm
          obtain ⟨b, hφ, hv⟩ := h3 hm
          split at h
          · rename_i e q hei
            obtain ⟨e', he', hh⟩ := Option.map_eq_some_iff.1 h
            simp only [Prod.mk.injEq] at hh
            obtain ⟨rfl, rfl⟩ := hh
            obtain ⟨hi, hee⟩ := List.getElem?_eq_some_iff.1 hei
            have hok := hM.ok ob _ hob
            obtain ⟨hfl, hrest⟩ := hok
            rcases hrest with ⟨hnone, _⟩ | ⟨b', cur, cap, hb1, hb2, hcs, hcap, hcells⟩
            · rw [hφ] at hnone; cases hnone
            · rw [hφ] at hb1
              injection hb1 with hb1
              subst hb1
              have hc := boxable_cells ry rfl
              obtain ⟨hf1, hf2⟩ := putP_flat he'
              have hesz : e.flat.length = sz := by rw [← hee]; exact (hfl _ (List.getElem_mem hi)).1
              have hqs : (a.eval y).cells.size = q.flat.length := by have := hc.1; simpa [AV.flat] using this
              have hql : (a.eval y).cells.toList.length = q.flat.length := by simp [hqs]
              have hend : i * sz + sz ≤ cur.size := by
                have : (i + 1) * sz ≤ cap * sz := Nat.mul_le_mul_right _ (by omega)
                rw [Nat.add_mul, Nat.one_mul] at this
                omega
              have hrun := run hv hb2 hc (by omega) rfl
              refine ⟨undef, _, upd M.φ ob (M.φ ob), .inr ⟨hrun, rfl⟩, ?_⟩
              have hT := turn_here hM hob rfl hφ hb2 (new := (cur.toList.take (i * sz + j) ++ (a.eval y).cells.toList ++ cur.toList.drop (i * sz + j + (a.eval y).cells.toList.length)).toArray)
                (ob' := .row (els.set i e') sz t false) (by simp; omega) rfl (by simp [AO.len]) rfl (fun M' hle hφ' hb' => ?_)
              · exact ⟨hT.1, hT.2.1, .tup [] #[] rfl (fun k hk => by simp at hk), hT.2.2, fun h => by cases h⟩
              · have hqone : ∀ c ∈ q.flat, c.one = true := fun c hcm => by
                  obtain ⟨k, hk, rfl⟩ := List.mem_iff_getElem.1 hcm
                  obtain ⟨c', _, e2, e3⟩ := hc.2 k (by simpa [AV.flat] using hk)
                  simp only [AV.flat, List.getElem_map] at e2
                  exact e2.toP.one_of e3
                have hel : ∀ c ∈ e.flat, c.one = true := by rw [← hee]; exact (hfl _ (List.getElem_mem hi)).2
                refine ⟨fun e2 he2 => ?_, .inr ⟨b, _, cap, hφ', hb', by simp; omega, by simpa using hcap, fun i' hi' j' hj' => ?_⟩⟩
                · rcases List.mem_or_eq_of_mem_set he2 with h4 | h4
                  · exact hfl e2 h4
                  · subst h4
                    refine ⟨by rw [hf1]; simp; omega, fun c hcm => ?_⟩
                    rw [hf1] at hcm
                    simp only [List.mem_append] at hcm
                    rcases hcm with (h5 | h5) | h5
                    · exact hel c (List.mem_of_mem_take h5)
                    · exact hqone c h5
                    · exact hel c (List.mem_of_mem_drop h5)
                · rw [List.length_set] at hi'
                  have hnew : ∀ k, (cur.toList.take (i * sz + j) ++ (a.eval y).cells.toList ++ cur.toList.drop (i * sz + j + (a.eval y).cells.toList.length)).toArray[k]? =
                      if k < i * sz + j then cur[k]? else if k < i * sz + j + q.flat.length then (a.eval y).cells[k - (i * sz + j)]? else cur[k]? := by
                    intro k
                    rw [List.getElem?_toArray, list_three, List.length_take, Array.length_toList, Nat.min_eq_left (by omega), hql]
                    split
                    · rename_i h6; rw [List.getElem?_take_of_lt h6, Array.getElem?_toList]
                    · split
                      · rw [Array.getElem?_toList]
                      · rename_i h6 h7; rw [List.getElem?_drop, Array.getElem?_toList]; congr 1; omega
                  by_cases hii : i' = i
                  · subst hii
                    have hje : (els.set i' e')[i'] = e' := by simp
                    simp only [hje] at hj' ⊢
                    have hj2 : j' < sz := by rw [hf1] at hj'; simp at hj'; omega
                    have hget : e'.flat[j']? = some (e'.flat[j']) := List.getElem?_eq_getElem hj'
                    obtain ⟨u, hu⟩ : ∃ u, u = e'.flat[j'] := ⟨_, rfl⟩
                    rw [← hu] at hget ⊢
                    rw [hnew]
                    by_cases c1 : j' < j
                    · rw [if_pos (by omega)]
                      obtain ⟨c, k1, k2⟩ := hcells i' hi j' (by rw [hee]; omega)
                      refine ⟨c, k1, ?_⟩
                      have : u = els[i'].flat[j']'(by rw [hee]; omega) := by
                        rw [hf1, list_three, List.length_take, Nat.min_eq_left (by omega), if_pos c1, List.getElem?_take_of_lt c1] at hget
                        rw [List.getElem?_eq_getElem (by omega)] at hget
                        simp only [hee]
                        exact (Option.some.inj hget).symm
                      rw [this]
                      exact k2.mono hle.sh
                    · rw [if_neg (by omega)]
                      by_cases c2 : j' < j + q.flat.length
                      · rw [if_pos (by omega)]
                        obtain ⟨c, k1, k2, _⟩ := hc.2 (j' - j) (by simp [AV.flat]; omega)
                        refine ⟨c, by rw [← k1]; congr 1; omega, ?_⟩
                        simp only [AV.flat, List.getElem_map] at k2
                        have : u = q.flat[j' - j]'(by omega) := by
                          rw [hf1, list_three, List.length_take, Nat.min_eq_left (by omega), if_neg c1, if_pos c2, List.getElem?_eq_getElem (by omega)] at hget
                          exact (Option.some.inj hget).symm
                        rw [this]
                        exact k2.toP.mono hle.sh
                      · rw [if_neg (by omega)]
                        obtain ⟨c, k1, k2⟩ := hcells i' hi j' (by rw [hee]; omega)
                        refine ⟨c, k1, ?_⟩
                        have : u = els[i'].flat[j']'(by rw [hee]; omega) := by
                          rw [hf1, list_three, List.length_take, Nat.min_eq_left (by omega), if_neg c1, if_neg c2, List.getElem?_drop] at hget
                          rw [show j + q.flat.length + (j' - j - q.flat.length) = j' by omega, List.getElem?_eq_getElem (by omega)] at hget
                          simp only [hee]
                          exact (Option.some.inj hget).symm
                        rw [this]
                        exact k2.mono hle.sh
                  · have hje : (els.set i e')[i']'(by simpa using hi') = els[i'] := by simp [List.getElem_set_ne (by omega : i ≠ i')]
                    simp only [hje] at hj' ⊢
                    have hj2 : j' < sz := by have := (hfl _ (List.getElem_mem hi')).1; omega
                    obtain ⟨c, k1, k2⟩ := hcells i' hi' j' hj'
                    refine ⟨c, ?_, k2.mono hle.sh⟩
                    rw [hnew]
                    rcases Nat.lt_or_gt_of_ne hii with h6 | h6
                    · have := idx_lt h6 hj2
                      rw [if_pos (by omega)]
                      exact k1
                    · have : (i + 1) * sz ≤ i' * sz := Nat.mul_le_mul_right _ h6
                      rw [Nat.add_mul, Nat.one_mul] at this
                      rw [if_neg (by omega), if_neg (by omega)]
                      exact k1
          · cases h
        · cases h
      · rename_i y0 hob
        rw [hob] at h1
        injection h1 with h1
        subst h1
        simp only [AO.len, AO.sz] at h2 h3
        split at h
        · rename_i hm
          obtain ⟨hm, rfl⟩ := hm
          obtain ⟨b, hφ, hv⟩ := h3 hm
          obtain ⟨y', hy', hh⟩ := Option.map_eq_some_iff.1 h
          simp only [Prod.mk.injEq] at hh
          obtain ⟨rfl, rfl⟩ := hh
          obtain ⟨b', cur, t, hb1, hb2, hcs⟩ := hM.ok ob _ hob
          rw [hφ] at hb1
          injection hb1 with hb1
          subst hb1
          obtain ⟨hf1, hf2, hbx⟩ := putA_flat hy'
          have hc := boxable_cells ry hbx
          have hqs := hc.1
          have hql : (a.eval y).cells.toList.length = z.flat.length := by simp [hqs]
          rw [Nat.zero_mul, Nat.zero_add] at hv
          have hcsz := hcs.1
          have hrun := run hv hb2 hc (by omega) rfl
          refine ⟨undef, _, upd M.φ ob (M.φ ob), .inr ⟨hrun, rfl⟩, ?_⟩
          have hT := turn_here hM hob rfl hφ hb2 (new := (cur.toList.take j ++ (a.eval y).cells.toList ++ cur.toList.drop (j + (a.eval y).cells.toList.length)).toArray)
            (ob' := .box y') (by simp; omega) rfl rfl rfl (fun M' hle hφ' hb' => ?_)
          · exact ⟨hT.1, hT.2.1, .tup [] #[] rfl (fun k hk => by simp at hk), hT.2.2, fun h => by cases h⟩
          · refine ⟨b, _, t, hφ', hb', by rw [hf1]; simp; omega, fun k hk => ?_⟩
            have hnew : (cur.toList.take j ++ (a.eval y).cells.toList ++ cur.toList.drop (j + (a.eval y).cells.toList.length)).toArray[k]? =
                if k < j then cur[k]? else if k < j + z.flat.length then (a.eval y).cells[k - j]? else cur[k]? := by
              rw [List.getElem?_toArray, list_three, List.length_take, Array.length_toList, Nat.min_eq_left (by omega), hql]
              split
              · rename_i h6; rw [List.getElem?_take_of_lt h6, Array.getElem?_toList]
              · split
                · rw [Array.getElem?_toList]
                · rename_i h6 h7; rw [List.getElem?_drop, Array.getElem?_toList]; congr 1; omega
            rw [hnew]
            have hk2 : k < y0.flat.length := by rw [hf1] at hk; simp at hk; omega
            have hget : y'.flat[k]? = some (y'.flat[k]) := List.getElem?_eq_getElem hk
            obtain ⟨u, hu⟩ : ∃ u, u = y'.flat[k] := ⟨_, rfl⟩
            rw [← hu] at hget ⊢
            rw [hf1, list_three, List.length_take, Nat.min_eq_left (by omega)] at hget
            by_cases c1 : k < j
            · rw [if_pos c1]
              rw [if_pos c1, List.getElem?_take_of_lt c1, List.getElem?_eq_getElem hk2] at hget
              obtain ⟨c, k1, k2, k3⟩ := hcs.2 k hk2
              exact ⟨c, k1, by rw [← Option.some.inj hget]; exact k2.mono hle, k3⟩
            · rw [if_neg c1]
              rw [if_neg c1] at hget
              by_cases c2 : k < j + z.flat.length
              · rw [if_pos c2]
                rw [if_pos c2, List.getElem?_eq_getElem (by omega)] at hget
                obtain ⟨c, k1, k2, k3⟩ := hc.2 (k - j) (by omega)
                exact ⟨c, k1, by rw [← Option.some.inj hget]; exact k2.mono hle, k3⟩
              · rw [if_neg c2]
                rw [if_neg c2, List.getElem?_drop, show j + z.flat.length + (k - j - z.flat.length) = k by omega, List.getElem?_eq_getElem hk2] at hget
                obtain ⟨c, k1, k2, k3⟩ := hcs.2 k hk2
                exact ⟨c, k1, by rw [← Option.some.inj hget]; exact k2.mono hle, k3⟩
        · cases h
      · rename_i els t hob
        rw [hob] at h1
        injection h1 with h1
        subst h1
        simp only [AO.len, AO.sz] at h2 h3
        split at h
        · rename_i hm
          obtain ⟨hm, rfl, hil, hsol⟩ := hm
          obtain ⟨b, hφ, hv⟩ := h3 hm
          simp only [Option.some.injEq, Prod.mk.injEq] at h
          obtain ⟨rfl, rfl⟩ := h
          have hone := solid_one ry hsol
          have hcl : (a.eval y).cells = #[a.eval y] := cells_one hone
          rcases hM.ok ob _ hob with ⟨hnone, _⟩ | ⟨b', cur, hb1, hb2, hcs, hcells⟩
          · rw [hφ] at hnone; cases hnone
          · rw [hφ] at hb1
            injection hb1 with hb1
            subst hb1
            rw [Nat.mul_one, Nat.add_zero] at hv
            have hbx : boxable M.H z = true := by cases z <;> first | rfl | exact hsol
            have hc := boxable_cells ry hbx
            have hrun := run hv hb2 hc (by rw [hcl]; simp; omega) rfl
            refine ⟨undef, _, upd M.φ ob (M.φ ob), .inr ⟨hrun, rfl⟩, ?_⟩
            have hT := turn_here hM hob rfl hφ hb2 (new := (cur.toList.take i ++ (a.eval y).cells.toList ++ cur.toList.drop (i + (a.eval y).cells.toList.length)).toArray)
              (ob' := .tab (els.set i z) t false) (by rw [hcl]; simp; omega) rfl (by simp [AO.len]) rfl (fun M' hle hφ' hb' => ?_)
            · exact ⟨hT.1, hT.2.1, .tup [] #[] rfl (fun k hk => by simp at hk), hT.2.2, fun h => by cases h⟩
            · refine .inr ⟨b, _, hφ', hb', by rw [hcl]; simp; omega, fun k hk => ?_⟩
              have hnew : (cur.toList.take i ++ (a.eval y).cells.toList ++ cur.toList.drop (i + (a.eval y).cells.toList.length)).toArray[k]? =
                  if k < i then cur[k]? else if k < i + 1 then (#[a.eval y])[k - i]? else cur[k]? := by
                rw [hcl, List.getElem?_toArray, list_three, List.length_take, Array.length_toList, Nat.min_eq_left (by omega)]
                simp only [List.length_singleton]
                split
                · rename_i h6; rw [List.getElem?_take_of_lt h6, Array.getElem?_toList]
                · split
                  · rw [← Array.getElem?_toList]
                  · rename_i h6 h7; rw [List.getElem?_drop, Array.getElem?_toList]; congr 1; omega
              rw [hnew]
              rw [List.length_set] at hk
              by_cases e : k = i
              · subst e
                rw [if_neg (by omega), if_pos (by omega), Nat.sub_self]
                refine ⟨a.eval y, rfl, ?_, hone⟩
                simp only [List.getElem_set_self]
                exact ry.mono hle
              · obtain ⟨c, k1, k2, k3⟩ := hcells k hk
                refine ⟨c, ?_, ?_, k3⟩
                · split
                  · exact k1
                  · rw [if_neg (by omega)]; exact k1
                · rw [List.getElem_set_ne (by omega)]; exact k2.mono hle
        · cases h
      · cases h
    · cases h
  · cases h
end
end Abs
end Go
/-
  AN ABSTRACT MACHINE, part 5: what a slice holds; appends; freezing.
-/
namespace Go
namespace Abs
open Go.RowKit
section
variable {P : Program} {M : Mem}
def Behind (M : Mem) (xs : List PV) (v : Value) : Prop :=
  ∃ A cap, v = .slice A xs.length cap ∧ xs.length ≤ cap ∧ cap ≤ 9223372036854775807 ∧ (xs = [] ∨ ∃ b off sz, ∃ c : Nat → Nat → Value, A = some ⟨b, off, none⟩ ∧ b < M.w.heap.size ∧ (∀ i (h : i < xs.length), (xs[i]).flat.length = sz ∧ ∀ e ∈ (xs[i]).flat, e.one = true) ∧
    ∀ i (h : i < xs.length) j (hj : j < (xs[i]).flat.length), M.w.cell? ⟨b, off + i * sz + j, none⟩ = some (c i j) ∧ RP M.shared M.w ((xs[i]).flat[j]) (c i j))
theorem one_flat {x : PV} (h : x.one = true) : x.flat = [x] := by cases x <;> first | rfl | cases h
theorem allOne_ok {l : List AV} {ps : List PV} (h : allOne l = some ps) : l = ps.map .p ∧ ∀ e ∈ ps, e.one = true := by
  unfold allOne at h
  split at h
  · rename_i qs hqs
    split at h
    · rename_i hall
      injection h with h
      subst h
      exact ⟨allP_eq hqs, fun e he => List.all_eq_true.1 hall e he⟩
    · cases h
  · cases h
theorem behind_one {xs : List PV} (hone : ∀ e ∈ xs, e.one = true) {b off cap : Nat} (hcap : xs.length ≤ cap) (hmax : cap ≤ 9223372036854775807) (hb : b < M.w.heap.size) (c : Nat → Value)
    (hc : ∀ i (h : i < xs.length), M.w.cell? ⟨b, off + i, none⟩ = some (c i) ∧ RP M.shared M.w xs[i] (c i)) : Behind M xs (.slice (some ⟨b, off, none⟩) xs.length cap) := by
  refine ⟨_, cap, rfl, hcap, hmax, .inr ⟨b, off, 1, fun i _ => c i, rfl, hb, fun i hi => ?_, fun i hi j hj => ?_⟩⟩
  · rw [one_flat (hone _ (List.getElem_mem hi))]
    exact ⟨rfl, fun e he => by simp at he; subst he; exact hone _ (List.getElem_mem hi)⟩
  · have hf := one_flat (hone _ (List.getElem_mem hi))
    have hj0 : j = 0 := by rw [hf] at hj; simpa using hj
    subst hj0
    have h1 := hc i hi
    refine ⟨by rw [Nat.mul_one, Nat.add_zero]; exact h1.1, ?_⟩
    simp only [hf, List.getElem_cons_zero]
    exact h1.2
theorem elems_ok (hM : MemOk M) {y : AV} {v : Value} {xs : List PV} (hy : RA M y v) (h : elems M.H y = some xs) : Behind M xs v := by
  unfold elems at h
  split at h
  · injection h with h
    subst h
    have := hy.toP
    cases this with
    | sl l A cap sz c h1 h2 hs ha hr =>
      refine ⟨A, cap, rfl, h1, h2, ?_⟩
      rcases ha with ha | ⟨b, off, hA, hb, hc⟩
      · exact .inl ha
      · exact .inr ⟨b, off, sz, c, hA, hb.1, hs, fun i hi j hj => ⟨hc i j hi (by have := (hs i hi).1; omega), hr i hi j hj⟩⟩
  · injection h with h
    subst h
    obtain ⟨rfl, _⟩ := hy.lit
    exact ⟨none, 0, rfl, by simp, by simp, .inl rfl⟩
  · rename_i o off len k
    split at h
    · rename_i els sz t fz hob
      split at h
      · rename_i hc
        obtain ⟨hk, hl⟩ := hc
        injection h with h
        subst h
        have hy' : CutOk M o off len k v := by cases hy with | cut _ _ _ _ _ h => exact h
        obtain ⟨ob, h1, h2, h3⟩ := hy'
        rw [hob] at h1
        injection h1 with h1
        subst h1
        obtain ⟨b, cap, hb, hv, hc1, hc2⟩ := h3 hk
        have hll : ((els.drop off).take len).length = len := by simp; omega
        refine ⟨_, cap, by rw [hll]; exact hv, by omega, hc2, ?_⟩
        obtain ⟨hfl, hrest⟩ := hM.ok o _ hob
        rcases hrest with ⟨hnone, _⟩ | ⟨b', cur, cap', hb1, hb2, hcs, hcap, hcells⟩
        · rw [hb] at hnone; cases hnone
        · rw [hb] at hb1
          injection hb1 with hb1
          subst hb1
          simp only [AO.sz]
          refine .inr ⟨b, off * sz, sz, fun i j => cur.getD ((off + i) * sz + j) undef, rfl, lt_of_block hb2, fun i hi => ?_, fun i hi j hj => ?_⟩
          · simp only [List.getElem_take, List.getElem_drop]; exact hfl _ (List.getElem_mem _)
          · rw [hll] at hi
            simp only [List.getElem_take, List.getElem_drop] at hj ⊢
            obtain ⟨c, k1, k2⟩ := hcells (off + i) (by omega) j hj
            rw [cell_of_row M.w b _ cur t (0, 0) hb2, show off * sz + i * sz + j = (off + i) * sz + j by rw [Nat.add_mul], Array.getD_eq_getD_getElem?, k1]
            exact ⟨rfl, k2⟩
      · cases h
    · cases h
  · rename_i o len cap
    obtain ⟨hlc, hcm, hv0, hv1⟩ : ∃ (_ : len ≤ cap) (_ : cap ≤ 9223372036854775807), (cap = 0 → v = .slice none 0 0) ∧ (0 < cap → BlkOk M o (capAt len cap) v) := by cases hy with | bc _ _ _ _ hl hc h0 h => exact ⟨hl, hc, h0, h⟩
    split at h
    · rename_i hc0
      injection h with h
      subst h
      rw [hv0 hc0]
      exact ⟨none, 0, rfl, by simp, by simp, .inl rfl⟩
    split at h
    · rename_i hc0 _ y0 hob
      split at h
      · rename_i hlen
        obtain ⟨he, hone⟩ := allOne_ok h
        obtain ⟨ob, h1, h2, h3⟩ := hv1 (by omega)
        rw [hob] at h1
        injection h1 with h1
        subst h1
        obtain ⟨b', hb', rfl⟩ := h3 rfl
        obtain ⟨b, cur, t, hb, hb2, hcs⟩ := hM.ok o _ hob
        rw [hb] at hb'
        injection hb' with hb'
        subst hb'
        have hll : xs.length = len := by
          have := congrArg List.length he
          simp at this
          omega
        have := behind_one (M := M) hone (b := b) (off := 0) (cap := cap) (by omega) hcm (lt_of_block hb2) (fun i => cur.getD i undef) (fun i hi => by
          obtain ⟨c, k1, k2, _⟩ := hcs.2 i (by omega)
          have e1 : y0.flat[i]'(by omega) = .p xs[i] := by
            have : (y0.flat.take len)[i]? = some (.p xs[i]) := by rw [he, List.getElem?_map, List.getElem?_eq_getElem hi]; rfl
            rw [List.getElem?_take_of_lt (by omega), List.getElem?_eq_getElem (by omega)] at this
            exact Option.some.inj this
          rw [cell_of_row M.w b _ cur t (0, 0) hb2, Array.getD_eq_getD_getElem?, Nat.zero_add, k1]
          rw [e1] at k2
          exact ⟨rfl, k2.toP⟩)
        rw [hll] at this
        exact this
      · cases h
    · cases h
  · unfold ownEls at h
    split at h
    · rename_i o off len _ _ _ _
      split at h
      · rename_i els sz t fz hob
        split at h
        · rename_i hlen
          injection h with h
          subst h
          obtain ⟨ob, h1, h2, h3⟩ := hy.toOs
          rw [hob] at h1
          injection h1 with h1
          subst h1
          have hll : (els.drop off).length = len := by simp; omega
          rcases h3 (by simpa [AO.len] using hlen) t rfl with (⟨hn, hz, hl, hv⟩ | ⟨b, cap, hb, hv, hc1, hc2, hs⟩) | ⟨_, hl, A, hv⟩
          rotate_right
          · have : els.drop off = [] := List.length_eq_zero_iff.1 (by omega)
            exact ⟨A, 0, by rw [hll, hl]; exact hv, by omega, by simp, .inl this⟩
          · have : els.drop off = [] := List.length_eq_zero_iff.1 (by omega)
            exact ⟨none, 0, by rw [hll, hl]; exact hv, by omega, by simp, .inl this⟩
          · refine ⟨_, cap, by rw [hll]; exact hv, by omega, hc2, ?_⟩
            obtain ⟨hfl, hrest⟩ := hM.ok o _ hob
            rcases hrest with ⟨hnone, _⟩ | ⟨b', cur, cap', hb1, hb2, hcs, hcap, hcells⟩
            · rw [hb] at hnone; cases hnone
            · rw [hb] at hb1
              injection hb1 with hb1
              subst hb1
              simp only [AO.sz]
              refine .inr ⟨b, off * sz, sz, fun i j => cur.getD ((off + i) * sz + j) undef, rfl, lt_of_block hb2, fun i hi => ?_, fun i hi j hj => ?_⟩
              · rw [List.getElem_drop]; exact hfl _ (List.getElem_mem _)
              · rw [hll] at hi
                simp only [List.getElem_drop] at hj ⊢
                obtain ⟨c, k1, k2⟩ := hcells (off + i) (by omega) j hj
                rw [cell_of_row M.w b _ cur t (0, 0) hb2, show off * sz + i * sz + j = (off + i) * sz + j by rw [Nat.add_mul], Array.getD_eq_getD_getElem?, k1]
                exact ⟨rfl, k2⟩
        · cases h
      · rename_i els t fz hob
        split at h
        · rename_i hlen
          obtain ⟨he, hone⟩ := allOne_ok h
          obtain ⟨ob, h1, h2, h3⟩ := hy.toOs
          rw [hob] at h1
          injection h1 with h1
          subst h1
          have hll : xs.length = len := by
            have := congrArg List.length he
            simp at this
            omega
          rcases h3 (by simpa [AO.len] using hlen) t rfl with (⟨hn, hz, hl, hv⟩ | ⟨b, cap, hb, hv, hc1, hc2, hs⟩) | ⟨_, hl, A, hv⟩
          rotate_right
          · have : xs = [] := List.length_eq_zero_iff.1 (by omega)
            exact ⟨A, 0, by rw [hll, hl]; exact hv, by omega, by simp, .inl this⟩
          · have : xs = [] := List.length_eq_zero_iff.1 (by omega)
            exact ⟨none, 0, by rw [hll, hl]; exact hv, by omega, by simp, .inl this⟩
          · rcases hM.ok o _ hob with ⟨hnone, _⟩ | ⟨b', cur, hb1, hb2, hcs, hcells⟩
            · rw [hb] at hnone; cases hnone
            · rw [hb] at hb1
              injection hb1 with hb1
              subst hb1
              have := behind_one (M := M) hone (b := b) (off := off) (cap := cap) (by omega) hc2 (lt_of_block hb2) (fun i => cur.getD (off + i) undef) (fun i hi => by
                obtain ⟨c, k1, k2, _⟩ := hcells (off + i) (by omega)
                have e1 : els[off + i]'(by omega) = .p xs[i] := by
                  have : (els.drop off)[i]? = some (.p xs[i]) := by rw [he, List.getElem?_map, List.getElem?_eq_getElem hi]; rfl
                  rw [List.getElem?_drop, List.getElem?_eq_getElem (by omega)] at this
                  exact Option.some.inj this
                rw [cell_of_row M.w b _ cur t (0, 0) hb2, Array.getD_eq_getD_getElem?, k1]
                rw [e1] at k2
                exact ⟨rfl, k2.toP⟩)
              rw [hll] at this
              rw [hv]
              simp only [AO.sz, Nat.mul_one]
              exact this
        · cases h
      · cases h
    · rename_i o j len _ _ _ _
      have key : ∀ y0 : AV, BoxOk M o y0 → j + len ≤ y0.flat.length → allOne ((y0.flat.drop j).take len) = some xs → (∀ ob, M.H[o]? = some ob → ob.len = 1) → Behind M xs v := by
        intro y0 ⟨b, cur, t, hb, hb2, hcs⟩ hlen he hl1
        obtain ⟨he, hone⟩ := allOne_ok he
        have hbs : ∃ hl : len ≤ 9223372036854775807, BlkOk M o (sliceAt j len) v := by cases hy with | bs o j len v hl h => exact ⟨hl, h⟩
        obtain ⟨hl, ob, h1, h2, h3⟩ := hbs
        obtain ⟨b', hb', rfl⟩ := h3 (hl1 ob h1)
        rw [hb] at hb'
        injection hb' with hb'
        subst hb'
        have hll : xs.length = len := by
          have := congrArg List.length he
          simp at this
          omega
        have := behind_one (M := M) hone (b := b) (off := j) (cap := len) (by omega) hl (lt_of_block hb2) (fun i => cur.getD (j + i) undef) (fun i hi => by
          obtain ⟨c, k1, k2, _⟩ := hcs.2 (j + i) (by omega)
          have e1 : y0.flat[j + i]'(by omega) = .p xs[i] := by
            have : ((y0.flat.drop j).take len)[i]? = some (.p xs[i]) := by rw [he, List.getElem?_map, List.getElem?_eq_getElem hi]; rfl
            rw [List.getElem?_take_of_lt (by omega), List.getElem?_drop, List.getElem?_eq_getElem (by omega)] at this
            exact Option.some.inj this
          rw [cell_of_row M.w b _ cur t (0, 0) hb2, Array.getD_eq_getD_getElem?, k1]
          rw [e1] at k2
          exact ⟨rfl, k2.toP⟩)
        rw [hll] at this
        exact this
      split at h
      · rename_i y0 hob
        split at h
        · rename_i hlen
          exact key y0 (hM.ok o _ hob) hlen h (fun ob hob' => by rw [hob] at hob'; injection hob' with hob'; subst hob'; rfl)
        · cases h
      · rename_i y0 hob
        split at h
        · rename_i hlen
          exact key y0 (hM.ok o _ hob) hlen h (fun ob hob' => by rw [hob] at hob'; injection hob' with hob'; subst hob'; rfl)
        · cases h
      · cases h
    · cases h
def cellsF (c : Nat → Nat → Value) (n sz : Nat) : List Value := (List.range (n * sz)).map fun k => c (k / sz) (k % sz)
theorem cellsF_get {c : Nat → Nat → Value} {n sz i j : Nat} (hi : i < n) (hj : j < sz) : (cellsF c n sz)[i * sz + j]? = some (c i j) := by
  have hlt := idx_lt hi hj
  unfold cellsF
  rw [List.getElem?_map, List.getElem?_range hlt]
  have h1 : (i * sz + j) / sz = i := by
    rw [Nat.mul_comm, Nat.mul_add_div (by omega), Nat.div_eq_of_lt hj]; simp
  have h2 : (i * sz + j) % sz = j := by
    rw [Nat.mul_comm, Nat.mul_add_mod, Nat.mod_eq_of_lt hj]
  simp [h1, h2]
theorem cellsF_length (c : Nat → Nat → Value) (n sz : Nat) : (cellsF c n sz).length = n * sz := by simp [cellsF]
theorem cellsF_split {c : Nat → Nat → Value} {n sz k : Nat} {u : Value} (h : (cellsF c n sz)[k]? = some u) : ∃ i j, i < n ∧ j < sz ∧ k = i * sz + j ∧ u = c i j := by
  have hk : k < n * sz := by
    have := (List.getElem?_eq_some_iff.1 h).1
    rwa [cellsF_length] at this
  have hsz : 0 < sz := by
    rcases Nat.eq_zero_or_pos sz with h0 | h0
    · subst h0; simp at hk
    · exact h0
  have h1 : k / sz < n := (Nat.div_lt_iff_lt_mul hsz).2 hk
  have h2 : k % sz < sz := Nat.mod_lt _ hsz
  have h3 : k = (k / sz) * sz + k % sz := by rw [Nat.mul_comm]; exact (Nat.div_add_mod k sz).symm
  refine ⟨k / sz, k % sz, h1, h2, h3, ?_⟩
  have := cellsF_get (c := c) h1 h2
  rw [← h3, h] at this
  exact Option.some.inj this
theorem grownBy_below {w w' : World} {row : Option Nat} {B : Nat} (h : w.grownBy w' row) (hB : B ≤ w.heap.size) (hr : ∀ k, row = some k → B ≤ k) : Below B w w' :=
  ⟨h.os, h.tape, h.output, h.size, fun k hk => h.block k (by omega) (fun e => by have := hr k e.symm; omega)⟩
theorem row_at {els : List PV} {sz i j : Nat} (hfl : ∀ e ∈ els, e.flat.length = sz ∧ ∀ c ∈ e.flat, c.one = true) (hi : i < els.length) (hj : j < (els[i]).flat.length) : j < sz := by
  have := (hfl _ (List.getElem_mem hi)).1; omega
theorem owns_of (hM : MemOk M) {o : Nat} {els : List PV} {sz : Nat} {t : TypeId} {fz : Bool} (hob : M.H[o]? = some (.row els sz t fz)) {v : Value} (hv : OsOk M o 0 els.length v) :
    ∃ xs, M.w.ownsRow M.base t sz v els.length xs ∧ v.ownBlock = M.φ o ∧ ∀ i (h : i < els.length) j (hj : j < (els[i]).flat.length), ∃ c, xs[i * sz + j]? = some c ∧ RP M.shared M.w ((els[i]).flat[j]) c := by
  obtain ⟨ob, h1, h2, h3⟩ := hv
  rw [hob] at h1
  injection h1 with h1
  subst h1
  have hlo := (List.getElem?_eq_some_iff.1 hob).1
  obtain ⟨hfl, hrest⟩ := hM.ok o _ hob
  rcases h3 (by simp [AO.len]) t rfl with (⟨hn, _, hl, hv⟩ | ⟨b, cap, hb, hv, hc1, hc2, hs⟩) | ⟨h0, _⟩
  rotate_right
  · omega
  · refine ⟨[], ⟨by simp [hl], .inl ⟨hv, hl⟩⟩, by rw [hv, hn]; rfl, fun i hi => by omega⟩
  · rcases hrest with ⟨hnone, _⟩ | ⟨b', cur, cap', hb1, hb2, hcs, hcap, hcells⟩
    · rw [hb] at hnone; cases hnone
    · rw [hb] at hb1
      injection hb1 with hb1
      subst hb1
      rw [shape_of hb2] at hs
      simp only [Option.some.injEq, Prod.mk.injEq, true_and, Nat.zero_add, AO.sz] at hs
      rw [Nat.zero_mul] at hv
      have hle : els.length * sz ≤ cap * sz := Nat.mul_le_mul_right _ hc1
      refine ⟨cur.toList.take (els.length * sz), ⟨by simp; omega, .inr ⟨b, cap, cur, hv, hM.lo o b hlo hb, hb2, hc1, hc2, hs, rfl⟩⟩, by rw [hv, hb]; rfl, fun i hi j hj => ?_⟩
      obtain ⟨c, k1, k2⟩ := hcells i hi j hj
      refine ⟨c, ?_, k2⟩
      rw [List.getElem?_take_of_lt (idx_lt hi (row_at hfl hi hj)), Array.getElem?_toList]
      exact k1
theorem of_owns {M' : Mem} {o : Nat} {els : List PV} {sz : Nat} {t : TypeId} {v : Value} {xs : List Value} {B : Nat} (hown : M'.w.ownsRow B t sz v els.length xs) (hφ : M'.φ o = v.ownBlock)
    (hfl : ∀ e ∈ els, e.flat.length = sz ∧ ∀ c ∈ e.flat, c.one = true)
    (hc : ∀ i (h : i < els.length) j (hj : j < (els[i]).flat.length), ∃ c, xs[i * sz + j]? = some c ∧ RP M'.shared M'.w ((els[i]).flat[j]) c) (hH : M'.H[o]? = some (.row els sz t false)) :
    RowOk M' o els sz t ∧ OsOk M' o 0 els.length v := by
  obtain ⟨hl, hrest⟩ := hown
  rcases hrest with ⟨hv, hn⟩ | ⟨g, cap, cur, hv, hg, hh, hnc, hcm, hcs, htake⟩
  · refine ⟨⟨hfl, .inl ⟨by rw [hφ, hv]; rfl, List.length_eq_zero_iff.1 hn⟩⟩, _, hH, by simp [AO.len], fun _ t' ht => .inl (.inl ⟨by rw [hφ, hv]; rfl, rfl, hn, hv⟩)⟩
  · have hφ' : M'.φ o = some g := by rw [hφ, hv]; rfl
    refine ⟨⟨hfl, .inr ⟨g, cur, cap, hφ', hh, hcs, hnc, fun i hi j hj => ?_⟩⟩, _, hH, by simp [AO.len], fun _ t' ht => .inl (.inr ⟨g, cap, hφ', by rw [hv, Nat.zero_mul], hnc, hcm, ?_⟩)⟩
    · obtain ⟨c, k1, k2⟩ := hc i hi j hj
      refine ⟨c, ?_, k2⟩
      rw [← htake, List.getElem?_take_of_lt (idx_lt hi (row_at hfl hi hj)), Array.getElem?_toList] at k1
      exact k1
    · injection ht with ht
      subst ht
      rw [shape_of hh, hcs, Nat.zero_add]; rfl
theorem run_append_none (w : World) (t ty e : TypeId) (i : TypeInfo) (ht : P.underlying t = some (.slice e)) (hi : P.info? e = some i) (A B : Option Addr) (n c c' : Nat) (hn : n ≤ c) :
    (Builtin.append_ #[t, t] ty #[.slice A n c, .slice B 0 c']).run P w = .ok (.slice A n c) w := by
  rcases A with _ | a <;> rcases B with _ | b <;> simp [Builtin.append_, run_underlying ht, sizeOf, typeInfo, hi, Builtin.lenOf, Builtin.firstCells, hn, storeCells, loadCells, loadCellsFrom]
theorem app_run {t ty e : TypeId} {sz bytes : Nat} {i0 : TypeInfo} {z : Value} (ht : P.underlying t = some (.slice e)) (hi : P.info? e = some i0) (hz : i0.zero = some z) (hs : i0.size = sz) (hb : i0.bytes = bytes) (hb2 : bytes ≤ 1024)
    (hzs : z.cells.size = sz) (hsz : 0 < sz) {v u : Value} {n : Nat} {vs : List Value} {xs : List PV} (hown : M.w.ownsRow M.base e sz v n vs) (hx : Behind M xs u) (hne : xs ≠ []) (hxs : ∀ q ∈ xs, q.flat.length = sz) (hbig : n + xs.length ≤ 1048576)
    (hbs : M.base ≤ M.w.heap.size) :
    ∃ v' w' news, (Builtin.append_ #[t, t] ty #[v, u]).run P M.w = .ok v' w' ∧ w'.ownsRow M.base e sz v' (n + xs.length) (vs ++ news) ∧ M.w.grownBy w' v.ownBlock ∧ (v'.ownBlock = v.ownBlock ∨ v'.ownBlock = some M.w.heap.size) ∧
      ∀ i (h : i < xs.length) j (hj : j < (xs[i]).flat.length), ∃ c, news[i * sz + j]? = some c ∧ RP M.shared M.w ((xs[i]).flat[j]) c := by
  obtain ⟨A, cap, rfl, hlc, hm, hc⟩ := hx
  rcases hc with hc | ⟨b, off, sz', c, rfl, hbl, hfl, hcells⟩
  · exact absurd hc hne
  · have h0 : 0 < xs.length := List.length_pos_iff.2 hne
    have e1 : sz' = sz := by
      have h1 := (hfl 0 h0).1
      have h2 := hxs _ (List.getElem_mem h0)
      omega
    subst e1
    obtain ⟨v', w', hrun, h2, h3, _, h5⟩ := run_append_own_at (P := P) M.w M.base t ty e i0 z sz' bytes ht hi hz hs hb hzs hsz v n vs hown ⟨b, off, none⟩ xs.length cap (cellsF c xs.length sz') (cellsF_length _ _ _)
      (fun k u hu => by
        obtain ⟨i, j, hi', hj', rfl, rfl⟩ := cellsF_split hu
        rw [addr_add, ← Nat.add_assoc]
        exact (hcells i hi' j (by have := (hfl i hi').1; omega)).1)
      (fun u hu => by
        obtain ⟨k, hk, rfl⟩ := List.mem_iff_getElem.1 hu
        obtain ⟨i, j, hi', hj', _, e⟩ := cellsF_split (List.getElem?_eq_getElem hk)
        rw [e]
        have hj2 : j < (xs[i]).flat.length := by have := (hfl i hi').1; omega
        exact (hcells i hi' j hj2).2.one ((hfl i hi').2 _ (List.getElem_mem hj2)))
      (by unfold maxLen; omega) (by have := Nat.mul_le_mul hbig hb2; omega) hbs
    refine ⟨v', w', _, hrun, h2, h3, h5, fun i hi' j hj' => ⟨c i j, cellsF_get hi' (by have := (hfl i hi').1; omega), (hcells i hi' j hj').2⟩⟩
end
end Abs
end Go
/-
  AN ABSTRACT MACHINE, part 6: append, make, freezing and reading as a value.
-/
namespace Go
namespace Abs
open Go.RowKit
section
variable {P : Program} {M : Mem}
theorem ones_of {xs : List PV} {sz : Nat} (h : xs.all (fun q => decide (q.flat.length = sz) && q.flat.all (·.one)) = true) : ∀ e ∈ xs, e.flat.length = sz ∧ ∀ c ∈ e.flat, c.one = true := fun e he => by
  have := List.all_eq_true.1 h e he
  simp only [Bool.and_eq_true, decide_eq_true_eq] at this
  exact ⟨this.1, fun c hc => List.all_eq_true.1 this.2 c hc⟩
theorem upd_at (φ : Nat → Option Nat) (o : Nat) (b : Option Nat) : upd φ o b o = b := by simp [upd]
theorem step_app {o : Oper} {t e : TypeId} {x y : Operand} {sz : Nat} {z : Value} {i0 : TypeInfo} (hop : o.op = .call { callee := .builtin .append, args := #[x, y], argTypes := #[t, t] }) (ht : P.underlying t = some (.slice e)) (hi : P.info? e = some i0) (hz : i0.zero = some z)
    (hs : i0.size = sz) (hb2 : i0.bytes ≤ 1024) (hzs : z.cells.size = sz) (hsz : 0 < sz) {s : St} {a : Act} (hM : MemOk M) (hH : M.H = s.H) (hE : Env M s.t a) {r : AV} {H' : List AO}
    (h : astep (.app e sz x y) s = some (r, H')) : StepOk P M false (execOp a.eval o) r H' := by
  have run : ∀ {v' : Value} {w' : World}, (Builtin.append_ #[t, t] o.type #[a.eval x, a.eval y]).run P M.w = .ok v' w' → (execOp a.eval o).run P M.w = .ok (.value v') w' := by
    intro v' w' hr
    unfold execOp
    simp only [hop, resolve, invoke, builtin, Sem.run_bind, Sem.run_pure, Result.andThen_ok, List.map_toArray, List.map_cons, List.map_nil, hr]
  simp only [astep] at h
  split at h
  · rename_i q xs hq hxs
    obtain ⟨q2, hq2, hxs2⟩ := Option.bind_eq_some_iff.1 hxs
    have rq := aev_ok hE hq
    rw [← hH] at hxs2 h
    have bx := elems_ok hM (aev_ok hE hq2) hxs2
    split at h
    · rename_i hall
      have hones := ones_of hall
      split at h
      · split at h
        · rename_i hlen
          simp only [Option.some.injEq, Prod.mk.injEq] at h
          obtain ⟨rfl, rfl⟩ := h
          obtain ⟨hv, _⟩ := rq.lit
          by_cases hne : xs = []
          · subst hne
            obtain ⟨A, cap, hu, _⟩ := bx
            have hr := run_append_none (P := P) M.w t o.type e i0 ht hi none A 0 0 cap (by simp)
            rw [← hv] at hr
            simp only [List.length_nil] at hu ⊢
            rw [← hu] at hr
            have hM' : MemOk ⟨M.w, M.H ++ [.row [] sz e false], upd M.φ M.H.length none, M.base, M.S⟩ := MemOk.grow hM (Nat.le_refl _) (fun _ _ => rfl) (fun b h => by cases h) ⟨fun e he => (by cases he), .inl ⟨upd_at _ _ _, rfl⟩⟩
            refine ⟨_, M.w, upd M.φ M.H.length none, .inl (run hr), hM', Le.grow hM (Nat.le_refl _) (fun _ _ => rfl) (fun b h => by cases h), .os _ _ _ _ ⟨.row [] sz e false, by simp, by simp [AO.len], fun _ t' ht => .inl (.inl ⟨upd_at _ _ _, rfl, rfl, hv⟩)⟩, Below.refl _ _, fun h => by cases h⟩
          · obtain ⟨v', w', news, hr, hown, hg, hat, hc⟩ := app_run (ty := o.type) (M := M) ht hi hz hs rfl hb2 hzs hsz (World.ownsRow_nil M.w M.base e sz) bx hne (fun q hq => (hones q hq).1) (by omega) hM.bs
            rw [← hv] at hr
            have hnb : v'.ownBlock = some M.w.heap.size := by
              rcases hat with h1 | h1
              · rcases hown.2 with ⟨_, h2⟩ | ⟨g, cap, cur, hv', _⟩
                · have := List.length_pos_iff.2 hne; omega
                · rw [hv'] at h1; cases h1
              · exact h1
            have hold : ∀ b, b < M.w.heap.size → w'.heap[b]? = M.w.heap[b]? := fun b hb => hg.block b hb (by simp [Value.ownBlock])
            have hnb' : ∀ b, v'.ownBlock = some b → M.w.heap.size ≤ b := fun b hb => by rw [hnb] at hb; injection hb with hb; omega
            have hle : Le M ⟨w', M.H ++ [.row xs sz e false], upd M.φ M.H.length v'.ownBlock, M.base, M.S⟩ := Le.grow hM hg.size hold hnb'
            simp only [Nat.zero_add, List.nil_append] at hown
            have hR := of_owns (M' := ⟨w', M.H ++ [.row xs sz e false], upd M.φ M.H.length v'.ownBlock, M.base, M.S⟩) (o := M.H.length) hown (upd_at _ _ _) hones (fun i hi j hj => let ⟨c, k1, k2⟩ := hc i hi j hj; ⟨c, k1, k2.mono hle.sh⟩) (by simp)
            exact ⟨v', w', _, .inl (run hr), MemOk.grow hM hg.size hold hnb' hR.1, hle, .os _ _ _ _ hR.2, grownBy_below hg hM.bs (fun k hk => by simp [Value.ownBlock] at hk), fun h => by cases h⟩
        · cases h
      · rename_i ob off len
        split at h
        · rename_i els z' t' hob
          split at h
          · rename_i hcond
            obtain ⟨rfl, rfl, rfl, rfl, hbig⟩ := hcond
            simp only [Option.some.injEq, Prod.mk.injEq] at h
            obtain ⟨rfl, rfl⟩ := h
            have hlo := (List.getElem?_eq_some_iff.1 hob).1
            obtain ⟨vs, hown, hblk, hcv⟩ := owns_of hM hob rq.toOs
            have hfl := (hM.ok ob _ hob).1
            by_cases hne : xs = []
            · subst hne
              obtain ⟨A, cap, hu, _⟩ := bx
              have hvs : ∃ A' c, a.eval x = .slice A' els.length c ∧ els.length ≤ c := by
                rcases hown.2 with ⟨h1, h2⟩ | ⟨g, c, cur, h1, _, _, h2, _⟩
                · exact ⟨none, 0, by rw [h2]; exact h1, by omega⟩
                · exact ⟨_, c, h1, h2⟩
              obtain ⟨A', c, hv, hlc⟩ := hvs
              have hr := run_append_none (P := P) M.w t o.type t' i0 ht hi A' A els.length c cap hlc
              rw [← hv] at hr
              simp only [List.length_nil] at hu
              rw [← hu] at hr
              simp only [List.append_nil, List.length_nil, Nat.add_zero]
              rw [set_same hob]
              exact StepOk.same hM (run hr) rq
            · obtain ⟨v', w', news, hr, hown2, hg, hat, hc⟩ := app_run (ty := o.type) (M := M) ht hi hz hs rfl hb2 hzs hsz hown bx hne (fun q hq => (hones q hq).1) hbig hM.bs
              rw [hblk] at hg hat
              have hpos := List.length_pos_iff.2 hne
              have hold : ∀ b, b < M.w.heap.size → M.φ ob ≠ some b → w'.heap[b]? = M.w.heap[b]? := fun b hb hn => hg.block b hb (fun e => hn e.symm)
              have hnb : v'.ownBlock = M.φ ob ∨ ∀ b, v'.ownBlock = some b → M.w.heap.size ≤ b := by
                rcases hat with h1 | h1
                · exact .inl h1
                · exact .inr fun b hb => by rw [h1] at hb; injection hb with hb; omega
              have hlen : (AO.row els z' t' false).len ≤ (AO.row (els ++ xs) z' t' false).len := by simp [AO.len]
              have hsame : (AO.row (els ++ xs) z' t' false).len = (AO.row els z' t' false).len → (AO.row (els ++ xs) z' t' false).sz = (AO.row els z' t' false).sz ∧ v'.ownBlock = M.φ ob ∧ ∀ b, M.φ ob = some b → w'.shape? b = M.w.shape? b := fun h => by
                simp [AO.len] at h; exact absurd h hne
              have hle := Le.turn (ob' := .row (els ++ xs) z' t' false) hM hob rfl hg.size hold hnb rfl hlen hsame
              rw [← List.length_append] at hown2 ⊢
              have hR := of_owns (M' := ⟨w', M.H.set ob (.row (els ++ xs) z' t' false), upd M.φ ob v'.ownBlock, M.base, M.S⟩) (o := ob) hown2 (upd_at _ _ _)
                (fun e he => (List.mem_append.1 he).elim (hfl e) (hones e)) (fun i hi j hj => by
                  rw [List.length_append] at hi
                  have hvl := hown.1
                  by_cases hlt : i < els.length
                  · simp only [List.getElem_append_left hlt] at hj ⊢
                    obtain ⟨c, k1, k2⟩ := hcv i hlt j hj
                    refine ⟨c, ?_, k2.mono hle.sh⟩
                    rw [List.getElem?_append_left (by rw [hvl]; exact idx_lt hlt (row_at hfl hlt hj))]
                    exact k1
                  · have hge : els.length ≤ i := by omega
                    simp only [List.getElem_append_right hge] at hj ⊢
                    obtain ⟨c, k1, k2⟩ := hc (i - els.length) (by omega) j hj
                    refine ⟨c, ?_, k2.mono hle.sh⟩
                    have e2 : i * z' + j = els.length * z' + ((i - els.length) * z' + j) := by
                      rw [← Nat.add_assoc, ← Nat.add_mul]; congr 2; omega
                    rw [List.getElem?_append_right (by rw [hvl, e2]; omega), hvl, e2, Nat.add_sub_cancel_left]
                    exact k1) (by simp [hlo])
              exact ⟨v', w', _, .inl (run hr), MemOk.turn hM hob rfl hg.size hold hnb rfl hlen hsame hR.1, hle, .os _ _ _ _ hR.2, grownBy_below hg hM.bs (fun k hk => hM.lo ob k hlo hk), fun h => by cases h⟩
          · cases h
        · cases h
      · cases h
    · cases h
  · cases h
theorem below_alloc {B : Nat} {w : World} (hB : B ≤ w.heap.size) (o : Obj) : Below B w (w.alloc o) := (Below.refl B w).alloc hB o
theorem alloc_old (w : World) (o : Obj) : ∀ b, b < w.heap.size → (w.alloc o).heap[b]? = w.heap[b]? := fun _ hb => heap_alloc_old w o hb
theorem grow_new (hM : MemOk M) {cur : Array Value} {t : TypeId} {ob : AO}
    (hob : ∀ M' : Mem, Le M M' → M'.φ M.H.length = some M.w.heap.size → M'.w.heap[M.w.heap.size]? = some (.cells cur t (0, 0)) → ObOk M' M.H.length ob) :
    MemOk ⟨M.w.alloc (.cells cur t), M.H ++ [ob], upd M.φ M.H.length (some M.w.heap.size), M.base, M.S⟩ ∧ Le M ⟨M.w.alloc (.cells cur t), M.H ++ [ob], upd M.φ M.H.length (some M.w.heap.size), M.base, M.S⟩ ∧
      Below M.base M.w (M.w.alloc (.cells cur t)) ∧ Early.Ext M.w (M.w.alloc (.cells cur t)) := by
  have hsz : M.w.heap.size ≤ (M.w.alloc (.cells cur t)).heap.size := by simp
  have hnb : ∀ b, some M.w.heap.size = some b → M.w.heap.size ≤ b := fun b h => by injection h with h; omega
  have hle := Le.grow (ob := ob) hM hsz (alloc_old M.w (.cells cur t)) hnb
  exact ⟨MemOk.grow hM hsz (alloc_old M.w (.cells cur t)) hnb (hob _ hle (upd_at _ _ _) (Go.heap_alloc_new M.w _)), hle, below_alloc hM.bs _, Early.Ext.alloc _ _⟩
theorem solid_new {w : World} {H : List AO} {φ : Nat → Option Nat} {base : Nat} {S : Nat → Prop} {ob : AO} {b : Nat} {j : Nat} (h1 : ob.len = 1) : PtrOk ⟨w, H ++ [ob], upd φ H.length (some b), base, S⟩ H.length 1 0 j (.pointer (some ⟨b, j, none⟩)) :=
  ⟨ob, by simp, by omega, fun _ => ⟨b, upd_at _ _ _, by simp⟩⟩
theorem step_box {o : Oper} {t : TypeId} {x : Operand} (hop : o.op = .box t x) {s : St} {a : Act} (hM : MemOk M) (hH : M.H = s.H) (hE : Env M s.t a) {r : AV} {H' : List AO}
    (h : astep (.box t x) s = some (r, H')) : StepOk P M true (execOp a.eval o) r H' := by
  simp only [astep] at h
  split at h
  · rename_i y hy
    rw [← hH] at h
    split at h
    · rename_i hb
      simp only [Option.some.injEq, Prod.mk.injEq] at h
      obtain ⟨rfl, rfl⟩ := h
      have hc := boxable_cells (aev_ok hE hy) hb
      obtain ⟨h1, h2, h3, h4⟩ := grow_new hM (cur := (a.eval x).cells) (t := t) (ob := .box y) (fun M' hle hφ hh => ⟨_, _, _, hφ, hh, hc.mono hle⟩)
      refine ⟨.pointer (some ⟨M.w.heap.size, 0, none⟩), _, _, .inl ?_, h1, h2, .ptr _ _ _ _ _ (solid_new rfl), h3, fun _ => h4⟩
      unfold execOp
      simp [hop, Instr.box, newVar, newRow]
    · cases h
  · cases h
theorem zeroO_ok {t : TypeId} {z : PV} (h : zeroO P t = some z) : ∃ i v, P.info? t = some i ∧ i.zero = some v ∧ ofVal v = some z := by
  unfold zeroO at h
  split at h
  · rename_i i hi
    split at h
    · rename_i v hv; exact ⟨i, v, hi, hv, h⟩
    · cases h
  · cases h
theorem pcells {M : Mem} {z : PV} {v : Value} (h : RP M.shared M.w z v) : CellsOk M (z.flat.map .p) v.cells := boxable_cells (.p z v h) rfl
theorem step_zro {o : Oper} {t : TypeId} {z : PV} (hop : o.op = .alloc t) (hz : zeroO P t = some z) {s : St} {a : Act} (hM : MemOk M) (hH : M.H = s.H) {r : AV} {H' : List AO}
    (h : astep (.zro t z) s = some (r, H')) : StepOk P M true (execOp a.eval o) r H' := by
  simp only [astep, Option.some.injEq, Prod.mk.injEq] at h
  rw [← hH] at h
  obtain ⟨rfl, rfl⟩ := h
  obtain ⟨i, v, hi, hv, hov⟩ := zeroO_ok hz
  have hc := pcells (M := M) (ofVal_ok (S := M.shared) (w := M.w) hov)
  obtain ⟨h1, h2, h3, h4⟩ := grow_new hM (cur := v.cells) (t := t) (ob := .box (.p z)) (fun M' hle hφ hh => ⟨_, _, _, hφ, hh, hc.mono hle⟩)
  refine ⟨.pointer (some ⟨M.w.heap.size, 0, none⟩), _, _, .inl ?_, h1, h2, .ptr _ _ _ _ _ (solid_new rfl), h3, fun _ => h4⟩
  unfold execOp
  simp [hop, Instr.alloc, zeroValue, typeInfo, hi, hv, newVar, newRow]
theorem step_mk {o : Oper} {t e : TypeId} {n c : Operand} {sz : Nat} {z : PV} {i0 : TypeInfo} (hop : o.op = .makeSlice t n c) (ht : P.underlying t = some (.slice e)) (hi : P.info? e = some i0) (hz : zeroO P e = some z) (hs : i0.size = 1) (hsz : sz = 1) (hb2 : i0.bytes ≤ 1024)
    (hone : z.one = true) {s : St} {a : Act} (hM : MemOk M) (hH : M.H = s.H) (hE : Env M s.t a) {r : AV} {H' : List AO}
    (h : astep (.mk e sz z n c) s = some (r, H')) : StepOk P M true (execOp a.eval o) r H' := by
  simp only [astep] at h
  split at h
  · rename_i k k' hk hk'
    split at h
    · rename_i hcond
      obtain ⟨rfl, hbig⟩ := hcond
      simp only [Option.some.injEq, Prod.mk.injEq] at h
      rw [← hH] at h
      obtain ⟨rfl, rfl⟩ := h
      subst hsz
      obtain ⟨kd, hv⟩ := asNat_bind hE hk
      obtain ⟨kd', hv'⟩ := asNat_bind hE hk'
      obtain ⟨i, v, hi2, hv2, hov⟩ := zeroO_ok hz
      rw [hi] at hi2
      injection hi2 with hi2
      subst hi2
      have hrp := ofVal_ok (S := M.shared) (w := M.w) hov
      have hvo := hrp.one hone
      have hzf : z.flat = [z] := by cases z <;> first | rfl | cases hone
      have hrun := run_make_row' (P := P) t e v i0.bytes ht (by simp [hi, hv2, hs]) (cells_one hvo) kd kd' k (by have := Nat.mul_le_mul hb2 hbig; omega) (by omega) M.w
      have hml : (madeCells #[v] k).toList = List.replicate k v := toList_madeCells_one v k
      have hmsz : (madeCells #[v] k).size = k := by rw [← Array.length_toList, hml, List.length_replicate]
      have hget : ∀ i, i < k → (madeCells #[v] k)[i]? = some v := fun i hi => by rw [← Array.getElem?_toList, hml]; simp [hi]
      obtain ⟨h1, h2, h3, h4⟩ := grow_new hM (cur := madeCells #[v] k) (t := e) (ob := .row (List.replicate k z) 1 e false) (fun M' hle hφ hh => ⟨fun e he => by
        obtain ⟨_, rfl⟩ := List.mem_replicate.1 he
        rw [hzf]
        exact ⟨rfl, fun c hc => by simp at hc; subst hc; exact hone⟩, .inr ⟨_, _, k, hφ, hh, by omega, by simp, fun i hi j hj => by
          simp only [List.length_replicate] at hi
          simp only [List.getElem_replicate, hzf, List.length_singleton] at hj ⊢
          obtain rfl : j = 0 := by omega
          refine ⟨v, by rw [Nat.mul_one, Nat.add_zero]; exact hget i hi, ?_⟩
          exact hrp.mono hle.sh⟩⟩)
      refine ⟨.slice (some ⟨M.w.heap.size, 0, none⟩) k k, _, _, .inl ?_, h1, h2, .os _ _ _ _ ⟨.row (List.replicate k z) 1 e false, by simp, by simp [AO.len], fun _ t' ht' => .inl (.inr ⟨_, k, upd_at _ _ _, ?_, Nat.le_refl _, by omega, ?_⟩)⟩, h3, fun _ => h4⟩
      · unfold execOp
        simp only [hop, hv, hv', Sem.run_bind, hrun, Result.andThen_ok, Sem.run_pure]
      · simp
      · injection ht' with ht'
        subst ht'
        rw [shape_of (Go.heap_alloc_new M.w _), hmsz]
        simp [AO.sz]
    · cases h
  · cases h
end
end Abs
end Go
/-
  AN ABSTRACT MACHINE, part 7: freezing; literals of slices and structs; every operation.
-/
namespace Go
namespace Abs
open Go.RowKit
section
variable {P : Program} {M : Mem}
theorem frzO_same (ob : AO) : (frzO ob).len = ob.len ∧ (frzO ob).sz = ob.sz ∧ (frzO ob).tag = ob.tag ∧ frzO (frzO ob) = frzO ob := by cases ob <;> exact ⟨rfl, rfl, rfl, rfl⟩
theorem frzO_fz {ob : AO} (h : (frzO ob).fz = false) : ob.fz = false := by cases ob <;> first | rfl | cases h
theorem frzO_ok {M : Mem} {o : Nat} {ob : AO} (h : ObOk M o ob) : ObOk M o (frzO ob) := by cases ob <;> exact h
theorem frz_one (hM : MemOk M) {o : Nat} {ob : AO} (ho : M.H[o]? = some ob) :
    MemOk ⟨M.w, M.H.set o (frzO ob), M.φ, M.base, M.S⟩ ∧ Le M ⟨M.w, M.H.set o (frzO ob), M.φ, M.base, M.S⟩ := by
  have hlo := (List.getElem?_eq_some_iff.1 ho).1
  have hs := frzO_same ob
  have hle : Le M ⟨M.w, M.H.set o (frzO ob), M.φ, M.base, M.S⟩ := by
    refine ⟨fun b hb => ⟨⟨hb.1, hb.2.1, fun o2 ob2 ho2 hf => ?_⟩, rfl⟩, fun o2 ob2 ho2 => ?_⟩
    · dsimp only at ho2
      by_cases e : o2 = o
      · subst e
        simp [hlo] at ho2
        subst ho2
        exact hb.2.2 o2 ob ho (frzO_fz hf)
      · rw [List.getElem?_set_ne (by omega)] at ho2
        exact hb.2.2 o2 ob2 ho2 hf
    · by_cases e : o2 = o
      · subst e
        rw [ho] at ho2
        injection ho2 with ho2
        subst ho2
        exact ⟨frzO ob, by simp [hlo], hs.2.2.1, by omega, fun _ => ⟨hs.2.1, rfl, fun _ _ => rfl⟩⟩
      · exact ⟨ob2, by dsimp only; rw [List.getElem?_set_ne (by omega)]; exact ho2, rfl, Nat.le_refl _, fun _ => ⟨rfl, rfl, fun _ _ => rfl⟩⟩
  refine ⟨⟨fun o2 ob2 ho2 => ?_, ?_, ?_, hM.bs⟩, hle⟩
  · dsimp only at ho2
    by_cases e : o2 = o
    · subst e
      simp [hlo] at ho2
      subst ho2
      exact frzO_ok ((hM.ok o2 _ ho).mono hle rfl (fun _ _ => rfl))
    · rw [List.getElem?_set_ne (by omega)] at ho2
      exact (hM.ok o2 ob2 ho2).mono hle rfl (fun _ _ => rfl)
  · intro o1 o2 b h1 h2
    simp only [List.length_set] at h1 h2
    exact hM.inj o1 o2 b h1 h2
  · intro o1 b h1
    simp only [List.length_set] at h1
    exact hM.lo o1 b h1
def Fz (H : List AO) (o : Nat) (ob : AO) : Prop := H[o]? = some (frzO ob)
theorem frzC_cases (x : AV) : (∃ o, ∀ H, frzC H x = match H[o]? with
    | some ob => H.set o (frzO ob)
    | none => H) ∨ ∀ H, frzC H x = H := by
  cases x <;> first | exact .inl ⟨_, fun _ => rfl⟩ | exact .inr fun _ => rfl
theorem frzC_ok (x : AV) {H : List AO} (hM : MemOk ⟨M.w, H, M.φ, M.base, M.S⟩) : MemOk ⟨M.w, frzC H x, M.φ, M.base, M.S⟩ ∧ Le ⟨M.w, H, M.φ, M.base, M.S⟩ ⟨M.w, frzC H x, M.φ, M.base, M.S⟩ := by
  rcases frzC_cases x with ⟨o, hx⟩ | hx
  · rw [hx]
    split
    · rename_i ob ho
      exact frz_one (M := ⟨M.w, H, M.φ, M.base, M.S⟩) hM ho
    · exact ⟨hM, Le.refl _⟩
  · rw [hx]; exact ⟨hM, Le.refl _⟩
theorem frzC_keep (x : AV) {H : List AO} {o : Nat} {ob : AO} (h : Fz H o ob) : Fz (frzC H x) o ob := by
  unfold Fz at *
  rcases frzC_cases x with ⟨o2, hx⟩ | hx
  · rw [hx]
    split
    · rename_i ob2 ho
      by_cases e : o = o2
      · subst e
        rw [ho] at h
        injection h with h
        subst h
        simp [(List.getElem?_eq_some_iff.1 ho).1, (frzO_same ob).2.2.2]
      · rw [List.getElem?_set_ne (by omega)]; exact h
    · exact h
  · rw [hx]; exact h
theorem frzC_row (x : AV) {H : List AO} {o : Nat} {ob : AO} (h : H[o]? = some ob) : ∃ ob', (frzC H x)[o]? = some ob' ∧ frzO ob' = frzO ob := by
  rcases frzC_cases x with ⟨o2, hx⟩ | hx
  · rw [hx]
    split
    · rename_i ob2 ho
      by_cases e : o = o2
      · subst e
        rw [ho] at h
        injection h with h
        subst h
        exact ⟨frzO ob2, by simp [(List.getElem?_eq_some_iff.1 ho).1], (frzO_same ob2).2.2.2⟩
      · exact ⟨ob, by rw [List.getElem?_set_ne (by omega)]; exact h, rfl⟩
    · exact ⟨ob, h, rfl⟩
  · rw [hx]; exact ⟨ob, h, rfl⟩
theorem foldC_ok (l : List AV) : ∀ {H : List AO}, MemOk ⟨M.w, H, M.φ, M.base, M.S⟩ → MemOk ⟨M.w, l.foldl frzC H, M.φ, M.base, M.S⟩ ∧ Le ⟨M.w, H, M.φ, M.base, M.S⟩ ⟨M.w, l.foldl frzC H, M.φ, M.base, M.S⟩ := by
  induction l with
  | nil => exact fun h => ⟨h, Le.refl _⟩
  | cons x l ih =>
    intro H h
    have h1 := frzC_ok (M := M) x h
    have h2 := ih h1.1
    exact ⟨h2.1, h1.2.trans h2.2⟩
theorem foldC_keep (l : List AV) : ∀ {H : List AO} {o : Nat} {ob : AO}, Fz H o ob → Fz (l.foldl frzC H) o ob := by
  induction l with
  | nil => exact fun h => h
  | cons x l ih => exact fun h => ih (frzC_keep x h)
theorem foldC_row (l : List AV) : ∀ {H : List AO} {o : Nat} {ob : AO}, H[o]? = some ob → ∃ ob', (l.foldl frzC H)[o]? = some ob' ∧ frzO ob' = frzO ob := by
  induction l with
  | nil => exact fun h => ⟨_, h, rfl⟩
  | cons x l ih =>
    intro H o ob h
    obtain ⟨ob1, h1, e1⟩ := frzC_row x h
    obtain ⟨ob2, h2, e2⟩ := ih h1
    exact ⟨ob2, h2, e2.trans e1⟩
def frzV (H : List AO) : AV → List AO
  | .agg m => m.foldl frzC H
  | x => frzC H x
theorem frzV_cases (x : AV) : (∃ m, x = .agg m) ∨ ∀ H, frzV H x = frzC H x := by
  cases x <;> first | exact .inl ⟨_, rfl⟩ | exact .inr fun _ => rfl
theorem frzL_cons (H : List AO) (x : AV) (l : List AV) : frzL H (x :: l) = frzL (frzV H x) l := by cases x <;> rfl
theorem frzV_ok (x : AV) {H : List AO} (hM : MemOk ⟨M.w, H, M.φ, M.base, M.S⟩) : MemOk ⟨M.w, frzV H x, M.φ, M.base, M.S⟩ ∧ Le ⟨M.w, H, M.φ, M.base, M.S⟩ ⟨M.w, frzV H x, M.φ, M.base, M.S⟩ := by
  rcases frzV_cases x with ⟨m, rfl⟩ | hx
  · exact foldC_ok m hM
  · rw [hx]; exact frzC_ok x hM
theorem frzV_keep (x : AV) {H : List AO} {o : Nat} {ob : AO} (h : Fz H o ob) : Fz (frzV H x) o ob := by
  rcases frzV_cases x with ⟨m, rfl⟩ | hx
  · exact foldC_keep m h
  · rw [hx]; exact frzC_keep x h
theorem frzV_row (x : AV) {H : List AO} {o : Nat} {ob : AO} (h : H[o]? = some ob) : ∃ ob', (frzV H x)[o]? = some ob' ∧ frzO ob' = frzO ob := by
  rcases frzV_cases x with ⟨m, rfl⟩ | hx
  · exact foldC_row m h
  · rw [hx]; exact frzC_row x h
theorem frzL_ok (l : List AV) : ∀ {H : List AO}, MemOk ⟨M.w, H, M.φ, M.base, M.S⟩ → MemOk ⟨M.w, frzL H l, M.φ, M.base, M.S⟩ ∧ Le ⟨M.w, H, M.φ, M.base, M.S⟩ ⟨M.w, frzL H l, M.φ, M.base, M.S⟩ := by
  induction l with
  | nil => exact fun h => ⟨h, Le.refl _⟩
  | cons x l ih =>
    intro H h
    rw [frzL_cons]
    have h1 := frzV_ok (M := M) x h
    have h2 := ih h1.1
    exact ⟨h2.1, h1.2.trans h2.2⟩
theorem frzL_keep (l : List AV) : ∀ {H : List AO} {o : Nat} {ob : AO}, Fz H o ob → Fz (frzL H l) o ob := by
  induction l with
  | nil => exact fun h => h
  | cons x l ih => intro H o ob h; rw [frzL_cons]; exact ih (frzV_keep x h)
def FzC (H H' : List AO) : AV → Prop
  | .os o _ _ | .bs o _ _ => ∀ ob, H[o]? = some ob → Fz H' o ob
  | _ => True
def FzV (H H' : List AO) : AV → Prop
  | .agg m => ∀ x ∈ m, FzC H H' x
  | x => FzC H H' x
theorem FzV_cases (H H' : List AO) (x : AV) : (∃ m, x = .agg m) ∨ (FzV H H' x ↔ FzC H H' x) := by
  cases x <;> first | exact .inl ⟨_, rfl⟩ | exact .inr Iff.rfl
theorem frzC_self (H : List AO) (x : AV) : FzC H (frzC H x) x := by
  cases x <;> try trivial
  · rename_i o off len
    intro ob h
    have e : frzC H (.os o off len) = H.set o (frzO ob) := by simp only [frzC, h]
    rw [e]
    simp [Fz, (List.getElem?_eq_some_iff.1 h).1]
  · rename_i o j len
    intro ob h
    have e : frzC H (.bs o j len) = H.set o (frzO ob) := by simp only [frzC, h]
    rw [e]
    simp [Fz, (List.getElem?_eq_some_iff.1 h).1]
theorem FzC.keep {H H' H'' : List AO} {x : AV} (h : FzC H H' x) (hk : ∀ {o : Nat} {ob : AO}, Fz H' o ob → Fz H'' o ob) : FzC H H'' x := by
  cases x <;> first | trivial | exact fun ob ho => hk (h ob ho)
theorem FzC.back {H0 H H' : List AO} {x : AV} (h : FzC H H' x) (hr : ∀ {o : Nat} {ob : AO}, H0[o]? = some ob → ∃ ob', H[o]? = some ob' ∧ frzO ob' = frzO ob) : FzC H0 H' x := by
  cases x <;> first | trivial | exact fun ob ho => (by obtain ⟨ob', h1, e⟩ := hr ho; have := h ob' h1; unfold Fz at *; rw [this, e])
theorem foldC_self : ∀ (l : List AV) (H : List AO), ∀ x ∈ l, FzC H (l.foldl frzC H) x
  | y :: l, H, x, hx => by
    rcases List.mem_cons.1 hx with rfl | hx
    · exact (frzC_self H x).keep (fun h => foldC_keep l h)
    · exact (foldC_self l (frzC H y) x hx).back (fun h => frzC_row y h)
theorem frzV_self (H : List AO) (x : AV) : FzV H (frzV H x) x := by
  rcases frzV_cases x with ⟨m, rfl⟩ | hx
  · exact foldC_self m H
  · rcases FzV_cases H (frzV H x) x with ⟨m, rfl⟩ | h2
    · exact foldC_self m H
    · rw [h2, hx]; exact frzC_self H x
theorem FzV.keep {H H' H'' : List AO} {x : AV} (h : FzV H H' x) (hk : ∀ {o : Nat} {ob : AO}, Fz H' o ob → Fz H'' o ob) : FzV H H'' x := by
  rcases FzV_cases H H' x with ⟨m, rfl⟩ | h1
  · exact fun y hy => FzC.keep (h y hy) hk
  · rcases FzV_cases H H'' x with ⟨m, rfl⟩ | h2
    · exact fun y hy => FzC.keep (h y hy) hk
    · exact h2.2 ((h1.1 h).keep hk)
theorem FzV.back {H0 H H' : List AO} {x : AV} (h : FzV H H' x) (hr : ∀ {o : Nat} {ob : AO}, H0[o]? = some ob → ∃ ob', H[o]? = some ob' ∧ frzO ob' = frzO ob) : FzV H0 H' x := by
  rcases FzV_cases H H' x with ⟨m, rfl⟩ | h1
  · exact fun y hy => FzC.back (h y hy) hr
  · rcases FzV_cases H0 H' x with ⟨m, rfl⟩ | h2
    · exact fun y hy => FzC.back (h y hy) hr
    · exact h2.2 ((h1.1 h).back hr)
theorem frzL_self : ∀ (l : List AV) (H : List AO), ∀ x ∈ l, FzV H (frzL H l) x
  | y :: l, H, x, hx => by
    rw [frzL_cons]
    rcases List.mem_cons.1 hx with rfl | hx
    · exact (frzV_self H x).keep (fun h => frzL_keep l h)
    · exact (frzL_self l (frzV H y) x hx).back (fun h => frzV_row y h)
theorem shared_of {M : Mem} (hM : MemOk M) {o b : Nat} {ob : AO} (ho : M.H[o]? = some ob) (hf : ob.fz = true) (hb : M.φ o = some b) : M.shared b := by
  have hlo := (List.getElem?_eq_some_iff.1 ho).1
  refine ⟨hM.lt hlo hb, fun hlt => absurd (hM.lo o b hlo hb) (by omega), fun o2 ob2 ho2 hf2 e => ?_⟩
  have := hM.inj o2 o b (List.getElem?_eq_some_iff.1 ho2).1 hlo e hb
  subst this
  rw [ho] at ho2
  injection ho2 with ho2
  subst ho2
  rw [hf] at hf2
  cases hf2
theorem RP_behind {M : Mem} {xs : List PV} {v : Value} (h : Behind M xs v) (hs : ∀ b off n cap, v = .slice (some ⟨b, off, none⟩) n cap → xs ≠ [] → M.shared b) : RP M.shared M.w (.sl xs) v := by
  obtain ⟨A, cap, rfl, h1, h2, h3⟩ := h
  rcases h3 with h3 | ⟨b, off, sz, c, rfl, _, hfl, hc⟩
  · subst h3
    exact .sl [] A cap 0 (fun _ _ => undef) h1 h2 (fun i h => by simp at h) (.inl rfl) (fun i h => by simp at h)
  · by_cases hne : xs = []
    · subst hne
      exact .sl [] _ cap 0 (fun _ _ => undef) h1 h2 (fun i h => by simp at h) (.inl rfl) (fun i h => by simp at h)
    · exact .sl xs _ cap sz c h1 h2 hfl (.inr ⟨b, off, rfl, hs b off _ cap rfl hne, fun i j hi hj => (hc i hi j (by have := (hfl i hi).1; omega)).1⟩) (fun i hi j hj => (hc i hi j hj).2)
theorem ownEls_frz {H H' : List AO} {x : AV} (hf : FzC H H' x) {xs : List PV} (h : ownEls H x = some xs) : ownEls H' x = some xs := by
  cases x with
  | os o off len =>
    simp only [ownEls] at h ⊢
    cases ho : H[o]? with
    | none => rw [ho] at h; cases h
    | some ob =>
      rw [ho] at h
      have := hf ob ho
      unfold Fz at this
      rw [this]
      cases ob <;> first | exact h | cases h
  | bs o j len =>
    simp only [ownEls] at h ⊢
    cases ho : H[o]? with
    | none => rw [ho] at h; cases h
    | some ob =>
      rw [ho] at h
      have := hf ob ho
      unfold Fz at this
      rw [this]
      cases ob <;> first | exact h | cases h
  | _ => cases h
theorem elems_own {H : List AO} {x : AV} {xs : List PV} (h : ownEls H x = some xs) : elems H x = some xs := by
  cases x <;> first | exact h | cases h
theorem viewC_ok {M' : Mem} (hle : Le M M') (hM' : MemOk M') {x : AV} {v : Value} {q : PV} (hx : RA M x v) (hv : viewC M.H x = some q) (hf : FzC M.H M'.H x) : RP M'.shared M'.w q v := by
  unfold viewC at hv
  split at hv
  · injection hv with hv
    subst hv
    exact hx.toP.mono hle.sh
  · obtain ⟨xs, hxs, rfl⟩ := Option.map_eq_some_iff.1 hv
    have hx' := hx.mono hle
    have hb := elems_ok hM' hx' (elems_own (ownEls_frz hf hxs))
    clear hv
    refine RP_behind hb fun b off n cap hv hne => ?_
    cases x with
    | os o off' len' =>
      simp only [ownEls] at hxs
      cases ho : M.H[o]? with
      | none => rw [ho] at hxs; cases hxs
      | some ob =>
        rw [ho] at hxs
        have hfz := hf ob ho
        unfold Fz at hfz
        obtain ⟨ob', h1, h2, h3⟩ := hx'.toOs
        rw [hfz] at h1
        injection h1 with h1
        subst h1
        have hlen : off' + len' = ob.len ∧ (frzO ob).fz = true ∧ ∃ t, (frzO ob).tag = some t := by
          cases ob with
          | row els sz t fz => dsimp only at hxs; split at hxs <;> first | exact ⟨by assumption, rfl, _, rfl⟩ | cases hxs
          | tab els t fz => dsimp only at hxs; split at hxs <;> first | exact ⟨by assumption, rfl, _, rfl⟩ | cases hxs
          | _ => cases hxs
        obtain ⟨k1, k2, t, k3⟩ := hlen
        rcases h3 (by rw [(frzO_same ob).1]; exact k1) t k3 with (⟨_, _, _, hv'⟩ | ⟨b', cap', hb', hv', _⟩) | ⟨_, hl0, A, hv'⟩
        rotate_right
        · obtain ⟨A', cap', hv2, _⟩ := hb
          rw [hv'] at hv2
          injection hv2 with _ e2
          exact absurd (List.length_eq_zero_iff.1 e2.symm) hne
        · rw [hv'] at hv; cases hv
        · rw [hv'] at hv
          injection hv with e1
          injection e1 with e1
          injection e1 with e1
          subst e1
          exact shared_of hM' hfz k2 hb'
    | bs o j len' =>
      simp only [ownEls] at hxs
      cases ho : M.H[o]? with
      | none => rw [ho] at hxs; cases hxs
      | some ob =>
        rw [ho] at hxs
        have hfz := hf ob ho
        unfold Fz at hfz
        have hbs : BlkOk M' o (sliceAt j len') v := by cases hx' with | bs o j len v hl h => exact h
        obtain ⟨ob', h1, h2, h3⟩ := hbs
        rw [hfz] at h1
        injection h1 with h1
        subst h1
        have hlen : (frzO ob).len = 1 ∧ (frzO ob).fz = true := by
          cases ob <;> first | exact ⟨rfl, rfl⟩ | cases hxs
        obtain ⟨b', hb', hv'⟩ := h3 hlen.1
        rw [hv'] at hv
        injection hv with e1
        injection e1 with e1
        injection e1 with e1
        subst e1
        exact shared_of hM' hfz hlen.2 hb'
    | _ => cases hxs
theorem viewL_get {H : List AO} : ∀ {l : List AV} {m : List PV}, viewL H l = some m → m.length = l.length ∧ ∀ i (h : i < l.length) (h' : i < m.length), viewC H l[i] = some m[i]
  | [], m, h => by simp [viewL] at h; subst h; exact ⟨rfl, fun i h => by simp at h⟩
  | x :: l, m, h => by
    unfold viewL at h
    split at h
    · rename_i y m' h1 h2
      injection h with h
      subst h
      obtain ⟨k1, k2⟩ := viewL_get h2
      refine ⟨by simp [k1], fun i hi hi' => ?_⟩
      cases i with
      | zero => exact h1
      | succ i => exact k2 i (by simpa using hi) (by simpa using hi')
    · cases h
theorem view_ok {M' : Mem} (hle : Le M M') (hM' : MemOk M') {x : AV} {v : Value} {q : PV} (hx : RA M x v) (hv : view M.H x = some q) (hf : FzV M.H M'.H x) : RP M'.shared M'.w q v := by
  have hC : viewC M.H x = some q → FzC M.H M'.H x → RP M'.shared M'.w q v := fun h1 h2 => viewC_ok hle hM' hx h1 h2
  cases x with
  | agg l =>
    simp only [view] at hv
    split at hv
    · rename_i m hm
      split at hv
      · rename_i hone
        injection hv with hv
        subst hv
        obtain ⟨k1, k2⟩ := viewL_get hm
        cases hx with
        | agg l cs hl ho hr =>
          refine .agg m cs (by omega) (fun e he => List.all_eq_true.1 hone e he) (fun i hi hi' => ?_)
          exact viewC_ok hle hM' (hr i (by omega) hi') (k2 i (by omega) hi) (hf _ (List.getElem_mem _))
      · cases hv
    · cases hv
  | _ => exact hC hv hf
theorem views_get {H : List AO} : ∀ {l : List AV} {m : List PV}, views H l = some m → m.length = l.length ∧ ∀ i (h : i < l.length) (h' : i < m.length), view H l[i] = some m[i]
  | [], m, h => by simp [views] at h; subst h; exact ⟨rfl, fun i h => by simp at h⟩
  | x :: l, m, h => by
    unfold views at h
    split at h
    · rename_i y m' h1 h2
      injection h with h
      subst h
      obtain ⟨k1, k2⟩ := views_get h2
      refine ⟨by simp [k1], fun i hi hi' => ?_⟩
      cases i with
      | zero => exact h1
      | succ i => exact k2 i (by simpa using hi) (by simpa using hi')
    · cases h
def RAs (M : Mem) (l : List AV) (vs : List Value) : Prop := vs.length = l.length ∧ ∀ i (h : i < l.length) (h' : i < vs.length), RA M l[i] vs[i]
def RPs (S : Nat → Prop) (w : World) (l : List PV) (vs : List Value) : Prop := vs.length = l.length ∧ ∀ i (h : i < l.length) (h' : i < vs.length), RP S w l[i] vs[i]
theorem aevs_ok {t : List (Nat × AV)} {a : Act} (hE : Env M t a) : ∀ {l : List Operand} {ys : List AV}, aevs t l = some ys → RAs M ys (l.map a.eval)
  | [], ys, h => by simp [aevs] at h; subst h; exact ⟨rfl, fun i h => by simp at h⟩
  | x :: l, ys, h => by
    unfold aevs at h
    split at h
    · rename_i y m h1 h2
      injection h with h
      subst h
      obtain ⟨k1, k2⟩ := aevs_ok hE h2
      refine ⟨by simpa using k1, fun i hi hi' => ?_⟩
      cases i with
      | zero => exact aev_ok hE h1
      | succ i => exact k2 i (by simpa using hi) (by simpa using hi')
    · cases h
theorem views_ok {M' : Mem} (hle : Le M M') (hM' : MemOk M') {ys : List AV} {vs : List Value} {xs : List PV} (hx : RAs M ys vs) (hv : views M.H ys = some xs) (hf : ∀ x ∈ ys, FzV M.H M'.H x) : RPs M'.shared M'.w xs vs := by
  obtain ⟨k1, k2⟩ := views_get hv
  refine ⟨by rw [hx.1, k1], fun i hi hi' => ?_⟩
  exact view_ok hle hM' (hx.2 i (by omega) hi') (k2 i (by omega) hi) (hf _ (List.getElem_mem _))
end
end Abs
end Go
/-
  AN ABSTRACT MACHINE, part 8: literals of slices and structs.
-/
namespace Go
namespace Abs
open Go.RowKit
theorem setAll_get (off : Nat) : ∀ (l : List Value) (k : Nat) (cells : Array Value), off + k + l.length ≤ cells.size →
    ((l.zipIdx k).foldl (fun cs (x : Value × Nat) => cs.setIfInBounds (off + x.2) x.1) cells).size = cells.size ∧
    ∀ i, ((l.zipIdx k).foldl (fun cs (x : Value × Nat) => cs.setIfInBounds (off + x.2) x.1) cells)[i]? = if off + k ≤ i ∧ i < off + k + l.length then l[i - off - k]? else cells[i]?
  | [], k, cells, _ => ⟨rfl, fun i => by rw [if_neg (by simp)]; rfl⟩
  | v :: l, k, cells, h => by
    simp only [List.zipIdx_cons, List.foldl_cons]
    simp only [List.length_cons] at h
    have ih := setAll_get off l (k + 1) (cells.setIfInBounds (off + k) v) (by simp; omega)
    refine ⟨by rw [ih.1]; simp, fun i => ?_⟩
    rw [ih.2 i]
    simp only [List.length_cons]
    by_cases h1 : i = off + k
    · rw [if_neg (by omega), if_pos (by omega), h1]
      rw [Array.getElem?_setIfInBounds_self_of_lt (by omega)]
      simp
    · by_cases h2 : off + (k + 1) ≤ i ∧ i < off + (k + 1) + l.length
      · rw [if_pos h2, if_pos (by omega)]
        obtain ⟨m, hm⟩ : ∃ m, i - off - k = m + 1 := ⟨i - off - k - 1, by omega⟩
        rw [hm, List.getElem?_cons_succ]
        congr 1
        omega
      · rw [if_neg h2, if_neg (by omega), Array.getElem?_setIfInBounds_ne (by omega)]
theorem fill_cons (place : Nat → Option (Nat × Nat)) (cells : Array Value) (i : Nat) (v : Value) (rest : List (Nat × Value)) {off sz : Nat} (hp : place i = some (off, sz)) (h1 : v.cells.size = sz) (h2 : off + sz ≤ cells.size) :
    ∃ c', Instr.fill place cells ((i, v) :: rest) = Instr.fill place c' rest ∧ c'.size = cells.size ∧ ∀ k, c'[k]? = if off ≤ k ∧ k < off + sz then v.cells[k - off]? else cells[k]? := by
  have hs := setAll_get off v.cells.toList 0 cells (by simp; omega)
  refine ⟨_, ?_, hs.1, fun k => ?_⟩
  · rw [Instr.fill, hp]
    have hb : (decide (v.cells.size ≠ sz) || decide (off + v.cells.size > cells.size)) = false := by simp; omega
    simp only [hb, Bool.false_eq_true, if_false]
    rw [← Array.foldl_toList, Array.toList_zipIdx]
  · rw [hs.2 k]
    simp only [Array.length_toList, h1, Nat.add_zero, Nat.sub_zero, Array.getElem?_toList]
section
variable {P : Program} {M : Mem}
theorem lay_ok {t : List (Nat × AV)} {a : Act} (hE : Env M t a) {places : List (Nat × Nat)} {place : Nat → Option (Nat × Nat)} (hp : ∀ i, place i = places[i]?) : ∀ {parts : List (Nat × Operand)} {cs cs' : List AV} {cur : Array Value}, CellsOk M cs cur →
    lay t M.H places cs parts = some cs' → ∃ cur', Instr.fill place cur (parts.map fun p => (p.1, a.eval p.2)) = some cur' ∧ CellsOk M cs' cur'
  | [], cs, cs', cur, hc, h => by
    simp only [lay, Option.some.injEq] at h
    subst h
    exact ⟨cur, rfl, hc⟩
  | (i, x) :: rest, cs, cs', cur, hc, h => by
    unfold lay at h
    split at h
    · rename_i off n y hpl hy
      split at h
      · rename_i hcond
        obtain ⟨h1, h2, h3⟩ := hcond
        have hcy := boxable_cells (aev_ok hE hy) h3
        obtain ⟨c', e1, e2, e3⟩ := fill_cons place cur i (a.eval x) (rest.map fun p => (p.1, a.eval p.2)) ((hp i).trans hpl) (by rw [hcy.1, h1]) (by rw [hc.1]; exact h2)
        rw [List.map_cons, e1]
        refine lay_ok hE hp ⟨?_, fun k hk => ?_⟩ h
        · rw [e2, hc.1]; simp; omega
        · have hget : (cs.take off ++ y.flat ++ cs.drop (off + n))[k]? = some ((cs.take off ++ y.flat ++ cs.drop (off + n))[k]) := List.getElem?_eq_getElem hk
          obtain ⟨u, hu⟩ : ∃ u, u = (cs.take off ++ y.flat ++ cs.drop (off + n))[k] := ⟨_, rfl⟩
          rw [← hu] at hget ⊢
          rw [list_three, List.length_take, Nat.min_eq_left (by omega)] at hget
          have hk2 : k < cs.length := by simp at hk; omega
          rw [e3 k]
          by_cases c1 : k < off
          · rw [if_neg (by omega)]
            rw [if_pos c1, List.getElem?_take_of_lt c1, List.getElem?_eq_getElem hk2] at hget
            rw [← Option.some.inj hget]
            exact hc.2 k hk2
          · rw [if_neg c1] at hget
            by_cases c2 : k < off + n
            · rw [if_pos (by omega)]
              rw [if_pos (by omega), List.getElem?_eq_getElem (by omega)] at hget
              rw [← Option.some.inj hget]
              exact hcy.2 (k - off) (by omega)
            · rw [if_neg (by omega)]
              rw [if_neg (by omega), List.getElem?_drop, show off + n + (k - off - y.flat.length) = k by omega, List.getElem?_eq_getElem hk2] at hget
              rw [← Option.some.inj hget]
              exact hc.2 k hk2
      · cases h
    · cases h
theorem fill_seq (sz : Nat) : ∀ (vs : List Value) (k : Nat) (cells : Array Value), (∀ v ∈ vs, v.cells.size = sz) → (k + vs.length) * sz ≤ cells.size →
    ∃ c', Instr.fill (fun i => some (i * sz, sz)) cells ((vs.zipIdx k).map fun p => (p.2, p.1)) = some c' ∧ c'.size = cells.size ∧ (∀ m, m < k * sz → c'[m]? = cells[m]?) ∧ ∀ i (h : i < vs.length) j, j < sz → c'[(k + i) * sz + j]? = (vs[i]).cells[j]?
  | [], k, cells, _, _ => ⟨cells, rfl, rfl, fun _ _ => rfl, fun i h => by simp at h⟩
  | v :: vs, k, cells, hv, hsz => by
    simp only [List.length_cons] at hsz
    have hsz2 : (k + 1) * sz ≤ (k + (vs.length + 1)) * sz := Nat.mul_le_mul_right _ (by omega)
    rw [Nat.add_mul, Nat.one_mul] at hsz2
    obtain ⟨c1, e1, e2, e3⟩ := fill_cons (fun i => some (i * sz, sz)) cells k v ((vs.zipIdx (k + 1)).map fun p => (p.2, p.1)) rfl (hv v (by simp)) (by omega)
    obtain ⟨c2, f1, f2, f3, f4⟩ := fill_seq sz vs (k + 1) c1 (fun u hu => hv u (by simp [hu])) (by rw [e2, show k + 1 + vs.length = k + (vs.length + 1) by omega]; exact hsz)
    refine ⟨c2, ?_, by omega, fun m hm => ?_, fun i hi j hj => ?_⟩
    · rw [List.zipIdx_cons, List.map_cons, e1, f1]
    · rw [f3 m (by rw [Nat.add_mul]; omega), e3 m, if_neg (by omega)]
    · cases i with
      | zero =>
        rw [Nat.add_zero, f3 _ (by rw [Nat.add_mul, Nat.one_mul]; omega), e3, if_pos (by omega), Nat.add_sub_cancel_left]
        rfl
      | succ i =>
        have := f4 i (by simpa using hi) j hj
        rw [show k + (i + 1) = k + 1 + i by omega]
        exact this
theorem inOrder_map (ev : Operand → Value) : ∀ {l : List (Nat × Operand)} {k : Nat}, inOrder k l = true → l.map (fun p => (p.1, ev p.2)) = (((l.map (·.2)).map ev).zipIdx k).map fun p => (p.2, p.1)
  | [], _, _ => rfl
  | (i, x) :: l, k, h => by
    simp only [inOrder, Bool.and_eq_true, beq_iff_eq] at h
    simp only [List.map_cons, List.zipIdx_cons, h.1]
    rw [inOrder_map ev h.2]
theorem frzC_length (H : List AO) (x : AV) : (frzC H x).length = H.length := by
  rcases frzC_cases x with ⟨o, hx⟩ | hx
  · rw [hx]
    split
    · simp
    · rfl
  · rw [hx]
theorem foldC_length : ∀ (l : List AV) (H : List AO), (l.foldl frzC H).length = H.length
  | [], _ => rfl
  | x :: l, H => by rw [List.foldl_cons, foldC_length l, frzC_length]
theorem frzL_length : ∀ (l : List AV) (H : List AO), (frzL H l).length = H.length
  | [], _ => rfl
  | x :: l, H => by
    rw [frzL_cons, frzL_length l]
    rcases frzV_cases x with ⟨m, rfl⟩ | hx
    · exact foldC_length m H
    · rw [hx, frzC_length]
theorem step_bsl {o : Oper} {t e : TypeId} {n : Nat} {parts : Array (Nat × Operand)} {sz : Nat} {z : PV} {i0 : TypeInfo} (hop : o.op = .buildSlice t n parts) (ht : P.underlying t = some (.slice e)) (hi : P.info? e = some i0) (hz : zeroO P e = some z) (hs : i0.size = sz)
    (hzs : sz = z.flat.length) (hsz : 0 < sz) (hbig : n * sz ≤ 65536) (hn : parts.size = n) (hord : inOrder 0 parts.toList = true) {s : St} {a : Act} (hM : MemOk M) (hH : M.H = s.H) (hE : Env M s.t a) {r : AV} {H' : List AO}
    (h : astep (.bsl e sz (parts.toList.map (·.2))) s = some (r, H')) : StepOk P M true (execOp a.eval o) r H' := by
  simp only [astep] at h
  split at h
  · rename_i ys hys
    rw [← hH] at h
    split at h
    · rename_i xs hxs
      split at h
      · rename_i hall
        simp only [Option.some.injEq, Prod.mk.injEq] at h
        obtain ⟨rfl, rfl⟩ := h
        have hones := ones_of hall
        have hRA := aevs_ok hE hys
        obtain ⟨hf1, hf2⟩ := frzL_ok (M := M) ys (H := M.H) hM
        have hRP := views_ok (M := M) (M' := ⟨M.w, frzL M.H ys, M.φ, M.base, M.S⟩) hf2 hf1 hRA hxs (fun x hx => frzL_self ys M.H x hx)
        obtain ⟨vs, hvs⟩ : ∃ vs, vs = (parts.toList.map (·.2)).map a.eval := ⟨_, rfl⟩
        rw [← hvs] at hRP hRA
        have hlen : vs.length = xs.length := hRP.1
        have hlenn : xs.length = n := by rw [← hlen, hvs]; simp [hn]
        obtain ⟨i, v0, hi2, hv2, hov⟩ := zeroO_ok hz
        rw [hi] at hi2
        injection hi2 with hi2
        subst hi2
        have hrp0 := ofVal_ok (S := M.shared) (w := M.w) hov
        have hz0 := (pcells hrp0).1
        rw [List.length_map] at hz0
        have hvc : ∀ v ∈ vs, v.cells.size = sz := fun v hv => by
          obtain ⟨i, hi', rfl⟩ := List.mem_iff_getElem.1 hv
          have h1 := (pcells (M := ⟨M.w, frzL M.H ys, M.φ, M.base, M.S⟩) (hRP.2 i (by omega) hi')).1
          rw [List.length_map, (hones _ (List.getElem_mem _)).1] at h1
          exact h1
        have hcase : ∃ cells, (Instr.buildSlice t n (parts.map fun (i, x) => (i, a.eval x))).run P M.w = .ok (.slice (some ⟨M.w.heap.size, 0, none⟩) n n) (M.w.alloc (.cells cells e)) ∧ cells.size = n * sz ∧
            ∀ i (h : i < vs.length) j, j < sz → cells[i * sz + j]? = (vs[i]).cells[j]? := by
          have hparts : (parts.map fun (i, x) => (i, a.eval x)).toList = (vs.zipIdx 0).map fun p => (p.2, p.1) := by
            rw [Array.toList_map, hvs, ← inOrder_map a.eval hord]
          obtain ⟨c', e1, e2, _, e4⟩ := fill_seq sz vs 0 ((Array.range (n * sz)).map (v0.cells[· % v0.cells.size]!)) hvc (by simp; rw [hlen, hlenn]; exact Nat.le_refl _)
          rcases Nat.eq_zero_or_pos n with h0 | h0
          · subst h0
            refine ⟨#[], ?_, by simp, fun i hi' => by omega⟩
            have hp : parts = #[] := Array.eq_empty_of_size_eq_zero hn
            subst hp
            simp [Instr.buildSlice, run_underlying ht, sizeOf, typeInfo, hi, newRow, Instr.fill]
            rw [show Array.range 0 = #[] from Array.eq_empty_of_size_eq_zero Array.size_range, Array.map_empty]
          · have hpos : ¬ n * sz = 0 := by have := Nat.mul_pos h0 hsz; omega
            refine ⟨c', run_buildSlice (P := P) M.w t e n _ c' i0 v0 ht hi hv2 (by rw [hs]; omega) (by rw [hs]; exact hpos) (by rw [hparts, hs]; exact e1), by rw [e2]; simp, fun i hi' j hj => by simpa using e4 i hi' j hj⟩
        obtain ⟨cells, hrun, hcsz, hcget⟩ := hcase
        obtain ⟨h1, h2, h3, h4⟩ := grow_new (M := ⟨M.w, frzL M.H ys, M.φ, M.base, M.S⟩) hf1 (cur := cells) (t := e) (ob := .row xs sz e false) (fun M' hle hφ hh => ⟨hones, .inr ⟨_, cells, n, hφ, hh, hcsz, by omega, fun i hi' j hj => by
          have hc := pcells (hRP.2 i hi' (by omega))
          obtain ⟨c, k1, k2, _⟩ := hc.2 j (by simpa using hj)
          simp only [List.getElem_map] at k2
          exact ⟨c, by rw [hcget i (by omega) j (row_at hones hi' hj)]; exact k1, k2.toP.mono hle.sh⟩⟩⟩)
        refine ⟨.slice (some ⟨M.w.heap.size, 0, none⟩) n n, _, _, .inl ?_, h1, hf2.trans h2, .os _ _ _ _ ⟨.row xs sz e false, by rw [← frzL_length ys M.H]; simp, by simp [AO.len], fun _ t' ht' => .inl (.inr ⟨M.w.heap.size, n, by rw [← frzL_length ys M.H]; exact upd_at _ _ _, by simp [hlenn], by omega, ?_, ?_⟩)⟩, h3, fun _ => h4⟩
        · unfold execOp
          simp only [hop, Sem.run_bind, hrun, Result.andThen_ok, Sem.run_pure]
        · rcases Nat.eq_zero_or_pos sz with h0 | h0
          · omega
          · have := Nat.le_mul_of_pos_right n h0; omega
        · injection ht' with ht'
          subst ht'
          rw [shape_of (Go.heap_alloc_new M.w _), hcsz]
          simp [AO.sz]
      · cases h
    · cases h
  · cases h
theorem mapM_places : ∀ {fs : List Field} {places : List (Nat × Nat)}, (fs.mapM fun f => (szO P f.type).map fun n => (f.offset, n)) = some places → fs.mapM (fun f => (P.info? f.type).map fun i => (f.offset, i.size)) = some places := by
  intro fs
  have : (fun f : Field => (szO P f.type).map fun n => (f.offset, n)) = fun f => (P.info? f.type).map fun i => (f.offset, i.size) := by
    funext f
    simp [szO, Option.map_map, Function.comp_def]
  rw [this]
  exact fun _ h => h
theorem step_bld {o : Oper} {t : TypeId} {parts : Array (Nat × Operand)} {z : List PV} {places : List (Nat × Nat)} (hop : o.op = .build t parts) (hz : zeroO P t = some (.agg z)) {place : Nat → Option (Nat × Nat)} (hpl : ∀ i ∈ parts.toList.map (·.1), place i = places[i]?)
    (hbuilt : ∀ (v : Value) (i0 : TypeInfo), P.info? t = some i0 → i0.zero = some v → ∀ ps cells, Instr.fill place v.cells ps = some cells → P.built t ps = some cells) {s : St} {a : Act} (hM : MemOk M) (hH : M.H = s.H) (hE : Env M s.t a) {r : AV} {H' : List AO}
    (h : astep (.bld z places parts.toList) s = some (r, H')) : StepOk P M true (execOp a.eval o) r H' := by
  simp only [astep, Option.map_eq_some_iff, Prod.mk.injEq] at h
  obtain ⟨cs, hcs, rfl, rfl⟩ := h
  rw [← hH] at hcs ⊢
  obtain ⟨i0, v, hi, hv, hov⟩ := zeroO_ok hz
  have hc0 := pcells (M := M) (ofVal_ok (S := M.shared) (w := M.w) hov)
  obtain ⟨cur', e1, e2⟩ := lay_ok hE (place := fun i => places[i]?) (fun _ => rfl) hc0 hcs
  have same : ∀ (l : List (Nat × Value)) (c : Array Value), (∀ i ∈ l.map (·.1), place i = places[i]?) → Instr.fill place c l = Instr.fill (fun i => places[i]?) c l := by
    intro l
    induction l with
    | nil => intro c _; rfl
    | cons p l ih =>
      intro c hp
      obtain ⟨i, u⟩ := p
      have hpi := hp i (by simp)
      rw [Instr.fill, Instr.fill, hpi]
      cases places[i]? with
      | none => rfl
      | some q =>
        dsimp only
        split
        · rfl
        · exact ih _ (fun j hj => hp j (by simp at hj ⊢; exact .inr hj))
  have hrun := run_build (P := P) M.w t (parts.map fun (i, x) => (i, a.eval x)) cur' (hbuilt v i0 hi hv _ _ (by
    rw [same _ _ (by
      intro i hi'
      rw [Array.toList_map, List.map_map] at hi'
      exact hpl i hi'), Array.toList_map]
    exact e1))
  refine StepOk.same (v := .agg cur') hM ?_ (RA.mkAgg (.agg cs cur' e2.1 (fun c hc => ?_) (fun i hi' hi2 => ?_)))
  · unfold execOp
    simp only [hop, Sem.run_bind, hrun, Result.andThen_ok, Sem.run_pure]
  · obtain ⟨i, hi', rfl⟩ := Array.mem_iff_getElem.1 hc
    obtain ⟨c, k1, _, k3⟩ := e2.2 i (by have := e2.1; omega)
    rw [Array.getElem?_eq_getElem hi'] at k1
    rw [Option.some.inj k1]
    exact k3
  · obtain ⟨c, k1, k2, _⟩ := e2.2 i hi'
    rw [Array.getElem?_eq_getElem hi2] at k1
    rw [Option.some.inj k1]
    exact k2
end
end Abs
end Go
end
