/-
  AN ABSTRACT MACHINE, part 2: its state, its operations, and how a program's operations are read as such.
-/
import Derived.Test.YtjkmhjjfipnbbaaAbsa
namespace Go
namespace Abs
open Go.RowKit

structure St where
  t : List (Nat × AV)
  H : List AO
def get : List (Nat × AV) → Nat → AV
  | [], _ => .dead
  | (j, x) :: t, i => if j = i then x else get t i
def put (t : List (Nat × AV)) (d : Nat) (x : AV) : List (Nat × AV) := (d, x) :: t
theorem get_put (t : List (Nat × AV)) (d i : Nat) (x : AV) : get (put t d x) i = if d = i then x else get t i := rfl
/-- A closed value. -/
def ofVal (v : Value) : Option PV :=
  if scalar v then some (.v v) else match v with
    | .agg cs => if cs.toList.all scalar then some (.agg (cs.toList.map .v)) else none
    | _ => none
def aev (t : List (Nat × AV)) : Operand → Option AV
  | .tmp i => some (get t i)
  | .const v => (ofVal v).map .p
  | .func f => some (.fn (.func f) [] [])
  | .global _ => none

def solid (H : List AO) : AV → Bool
  | .p x => x.one
  | .os o off len => match H[o]? with
    | some (.row els _ _ _) => off + len == els.length
    | _ => false
  | .ptr o n _ _ => match H[o]? with
    | some ob => n == ob.len
    | none => false
  | .sp _ _ | .fn _ _ _ => true
  | _ => false
def boxable (H : List AO) : AV → Bool
  | .agg _ | .p _ => true
  | x => solid H x
def allP : List AV → Option (List PV)
  | [] => some []
  | .p x :: l => (allP l).map (x :: ·)
  | _ => none
def mkAgg (l : List AV) : AV := match allP l with
  | some ps => if ps.all (·.one) then .p (.agg ps) else .agg l
  | none => .agg l
def isAgg : PV → Bool
  | .agg _ => true
  | _ => false
/-- Cells j .. j+n of an element, as a struct or an array, or as a cell. -/
def partP (ag : Bool) (n : Nat) (e : PV) (j : Nat) : Option PV :=
  if ag then (if j = 0 ∧ n = e.flat.length ∧ isAgg e = true then some e else if j + n ≤ e.flat.length then some (.agg ((e.flat.drop j).take n)) else none)
  else e.flat[j]?
def partA (ag : Bool) (n : Nat) (x : AV) (j : Nat) : Option AV :=
  match x with
  | .p e => (partP ag n e j).map .p
  | .agg l => if ag then (if j = 0 ∧ n = l.length then some (.agg l) else if j + n ≤ l.length then some (mkAgg ((l.drop j).take n)) else none) else l[j]?
  | x => if ag = false ∧ j = 0 then some x else none
def putP (e : PV) (j : Nat) (x : PV) : Option PV :=
  if j = 0 ∧ e.flat.length = x.flat.length then some x
  else match e, x with
    | .agg l, x => if x.one ∧ j < l.length then some (.agg (l.set j x)) else none
    | _, _ => none
def putA (H : List AO) (x0 : AV) (j : Nat) (y : AV) : Option AV :=
  if j = 0 ∧ x0.flat.length = y.flat.length ∧ boxable H y = true then some y
  else if solid H y = true ∧ j < x0.flat.length then some (mkAgg (x0.flat.set j y)) else none
def isNil : AV → Bool
  | .p (.v (.slice none 0 0)) => true
  | _ => false
/-- What a slice holds. -/
def elems (H : List AO) : AV → Option (List PV)
  | .p (.sl l) => some l
  | .p (.v (.slice none 0 0)) => some []
  | .os o off len => match H[o]? with
    | some (.row els _ _ _) => if off + len = els.length then some (els.drop off) else none
    | _ => none
  | _ => none
/-- What a value reads as, while nobody writes. -/
def viewC (H : List AO) : AV → Option PV
  | .p x => some x
  | .os o off len => match H[o]? with
    | some (.row els _ _ _) => if off + len = els.length then some (.sl (els.drop off)) else none
    | _ => none
  | _ => none
def viewL (H : List AO) : List AV → Option (List PV)
  | [] => some []
  | x :: l => match viewC H x, viewL H l with
    | some y, some m => some (y :: m)
    | _, _ => none
def view (H : List AO) : AV → Option PV
  | .agg l => match viewL H l with
    | some m => if m.all (·.one) then some (.agg m) else none
    | none => none
  | x => viewC H x
def views (H : List AO) : List AV → Option (List PV)
  | [] => some []
  | x :: l => match view H x, views H l with
    | some y, some m => some (y :: m)
    | _, _ => none
def frzC (H : List AO) : AV → List AO
  | .os o _ _ => match H[o]? with
    | some (.row els sz t _) => H.set o (.row els sz t true)
    | _ => H
  | _ => H
def frzL (H : List AO) : List AV → List AO
  | [] => H
  | .agg m :: l => frzL (m.foldl frzC H) l
  | x :: l => frzL (frzC H x) l
def litBin (bo : Bool) (op : BinOp) (x y : Value) : Option Value :=
  match x, y with
  | .int k a, .int k' b => if k = k' then
      match op with
      | .add => some (.int k (k.wrap (a + b)))
      | .sub => some (.int k (k.wrap (a - b)))
      | .mul => some (.int k (k.wrap (a * b)))
      | .quo => if b = 0 then none else some (.int k (k.wrap (a.tdiv b)))
      | .rem => if b = 0 then none else some (.int k (a.tmod b))
      | .eql => some (.bool (decide (a = b)))
      | .neq => some (.bool (!decide (a = b)))
      | .lss => some (.bool (a < b))
      | .leq => some (.bool (a ≤ b))
      | .gtr => some (.bool (a > b))
      | .geq => some (.bool (a ≥ b))
      | _ => none
    else none
  | .bool a, .bool b => if bo then
      match op with
      | .eql => some (.bool (a == b))
      | .neq => some (.bool (a != b))
      | _ => none
    else none
  | _, _ => none
def litUn (op : UnOp) (x : Value) : Option Value :=
  match op, x with
  | .not, .bool b => some (.bool (!b))
  | .neg, .int k n => some (.int k (k.wrap (0 - n)))
  | _, _ => none

inductive AOp where
  | mov (x : Operand)
  | pick (c x y : Operand)
  | box (t : TypeId) (x : Operand)
  | zro (t : TypeId) (z : PV)
  | load (ag : Bool) (n : Nat) (x : Operand)
  | store (n : Nat) (x y : Operand)
  | bin (bo : Bool) (op : BinOp) (x y : Operand)
  | un (op : UnOp) (x : Operand)
  | ext (x : Operand) (i : Nat)
  | fadr (off : Nat) (x : Operand)
  | iadr (sz : Nat) (x i : Operand)
  | iadrA (len sz : Nat) (x i : Operand)
  | fld (ag : Bool) (n off : Nat) (x : Operand)
  | idx (ag : Bool) (len sz : Nat) (x i : Operand)
  | len (x : Operand)
  | app (e : TypeId) (sz : Nat) (s x : Operand)
  | mk (e : TypeId) (sz : Nat) (z : PV) (n c : Operand)
  | bsl (e : TypeId) (sz : Nat) (parts : List Operand)
  | bld (zero : List PV) (places : List (Nat × Nat)) (parts : List (Nat × Operand))
  | fn (f : Fn) (first cap : List Operand)
  | mm (mx : Bool) (x y : Operand)
  | nilc (x : Operand)
  | eqn (neg : Bool) (x : Operand)
  | bad
  | call (f : FuncId) (args : List Operand)
  | callv (x : Operand) (args : List Operand)
  deriving Inhabited

def aevs (t : List (Nat × AV)) : List Operand → Option (List AV)
  | [] => some []
  | x :: l => match aev t x, aevs t l with
    | some y, some m => some (y :: m)
    | _, _ => none
/-- Parts laid over cells. -/
def lay (t : List (Nat × AV)) (H : List AO) (places : List (Nat × Nat)) : List AV → List (Nat × Operand) → Option (List AV)
  | cs, [] => some cs
  | cs, (i, x) :: rest => match places[i]?, aev t x with
    | some (off, n), some y => if y.flat.length = n ∧ off + n ≤ cs.length ∧ boxable H y = true then lay t H places (cs.take off ++ y.flat ++ cs.drop (off + n)) rest else none
    | _, _ => none

def asNat : AV → Option Nat
  | .p (.v (.int _ n)) => if 0 ≤ n then some n.toNat else none
  | _ => none

/-- One operation that calls nothing: what it leaves, and the objects behind it. -/
def astep (op : AOp) (s : St) : Option (AV × List AO) :=
  match op with
  | .mov x => (aev s.t x).map (·, s.H)
  | .pick c x y => match aev s.t c with
    | some (.p (.v (.bool b))) => if b then (aev s.t x).map (·, s.H) else (aev s.t y).map (·, s.H)
    | _ => none
  | .box _ x => match aev s.t x with
    | some y => if boxable s.H y then some (.ptr s.H.length 1 0 0, s.H ++ [.box y]) else none
    | none => none
  | .zro _ z => some (.ptr s.H.length 1 0 0, s.H ++ [.box (.p z)])
  | .load ag n x => match aev s.t x with
    | some (.ptr o m i j) => match s.H[o]? with
      | some (.row els _ _ _) => if m = els.length then (match els[i]? with | some e => (partP ag n e j).map fun y => (.p y, s.H) | none => none) else none
      | some (.box y) => if m = 1 ∧ i = 0 then (partA ag n y j).map (·, s.H) else none
      | none => none
    | some (.sp e j) => (partP ag n e j).map fun y => (.p y, s.H)
    | _ => none
  | .store n x y => match aev s.t x, aev s.t y with
    | some (.ptr o m i j), some z => if z.flat.length = n then
        match s.H[o]? with
        | some (.row els sz t false) => if m = els.length then (match els[i]?, z with | some e, .p q => (putP e j q).map fun e' => (.tup [], s.H.set o (.row (els.set i e') sz t false)) | _, _ => none) else none
        | some (.box y0) => if m = 1 ∧ i = 0 then (putA s.H y0 j z).map fun y' => (.tup [], s.H.set o (.box y')) else none
        | _ => none
      else none
    | _, _ => none
  | .bin bo op x y => match aev s.t x, aev s.t y with
    | some (.p (.v a)), some (.p (.v b)) => (litBin bo op a b).map fun c => (.p (.v c), s.H)
    | _, _ => none
  | .un op x => match aev s.t x with
    | some (.p (.v a)) => (litUn op a).map fun c => (.p (.v c), s.H)
    | _ => none
  | .ext x i => match aev s.t x with
    | some (.tup l) => (l[i]?).map (·, s.H)
    | _ => none
  | .fadr off x => match aev s.t x with
    | some (.ptr o m i j) => if solid s.H (.ptr o m i j) then some (.ptr o m i (j + off), s.H) else none
    | some (.sp e j) => some (.sp e (j + off), s.H)
    | _ => none
  | .iadr sz x i => match aev s.t x, (aev s.t i).bind asNat with
    | some (.p (.sl l)), some k => match l[k]? with
      | some e => if e.flat.length = sz then some (.sp e 0, s.H) else none
      | none => none
    | some (.os o off len), some k => match s.H[o]? with
      | some (.row els z _ _) => if off + len = els.length ∧ k < len ∧ z = sz then some (.ptr o els.length (off + k) 0, s.H) else none
      | _ => none
    | _, _ => none
  | .iadrA len sz x i => match aev s.t x, (aev s.t i).bind asNat with
    | some (.ptr o m a j), some k => if k < len ∧ solid s.H (.ptr o m a j) then some (.ptr o m a (j + k * sz), s.H) else none
    | some (.sp e j), some k => if k < len then some (.sp e (j + k * sz), s.H) else none
    | _, _ => none
  | .fld ag n off x => match aev s.t x with
    | some (.p (.agg l)) => (partP ag n (.agg l) off).map fun y => (.p y, s.H)
    | some (.agg l) => (partA ag n (.agg l) off).map (·, s.H)
    | _ => none
  | .idx ag len sz x i => match aev s.t x, (aev s.t i).bind asNat with
    | some (.p (.agg l)), some k => if k < len then (partP ag sz (.agg l) (k * sz)).map fun y => (.p y, s.H) else none
    | some (.agg l), some k => if k < len then (partA ag sz (.agg l) (k * sz)).map (·, s.H) else none
    | _, _ => none
  | .len x => match aev s.t x with
    | some y => (elems s.H y).map fun l => (.p (.v (.int .i64 l.length)), s.H)
    | none => none
  | .app e sz sx x => match aev s.t sx, (aev s.t x).bind (elems s.H) with
    | some y, some xs => if xs.all (fun q => decide (q.flat.length = sz) && q.flat.all (·.one)) = true then
        match y with
        | .p (.v (.slice none 0 0)) => if xs.length ≤ 1048576 then some (.os s.H.length 0 xs.length, s.H ++ [.row xs sz e false]) else none
        | .os o off len => match s.H[o]? with
          | some (.row els z t false) => if off = 0 ∧ len = els.length ∧ z = sz ∧ t = e ∧ els.length + xs.length ≤ 1048576 then some (.os o 0 (els.length + xs.length), s.H.set o (.row (els ++ xs) sz e false)) else none
          | _ => none
        | _ => none
      else none
    | _, _ => none
  | .mk e sz z n c => match (aev s.t n).bind asNat, (aev s.t c).bind asNat with
    | some a, some b => if a = b ∧ a ≤ 1048576 then some (.os s.H.length 0 a, s.H ++ [.row (List.replicate a z) sz e false]) else none
    | _, _ => none
  | .bsl e sz parts => match aevs s.t parts with
    | some ys => match views s.H ys with
      | some xs => if xs.all (fun q => decide (q.flat.length = sz) && q.flat.all (·.one)) = true then some (.os s.H.length 0 xs.length, frzL s.H ys ++ [.row xs sz e false]) else none
      | none => none
    | none => none
  | .bld zero places parts => (lay s.t s.H places (zero.map .p) parts).map fun cs => (mkAgg cs, s.H)
  | .fn f first cap => match aevs s.t first, aevs s.t cap with
    | some a, some b => some (.fn f a b, s.H)
    | _, _ => none
  | .mm mx x y => match aev s.t x, aev s.t y with
    | some (.p (.v (.int .i64 a))), some (.p (.v (.int .i64 b))) => some (.p (.v (.int .i64 (if mx then max a b else min a b))), s.H)
    | _, _ => none
  | .nilc x => match aev s.t x with
    | some y => match y with
      | .ptr _ _ _ _ | .sp _ _ => if solid s.H y then some (y, s.H) else none
      | _ => none
    | none => none
  | _ => none
/-- Behind it every old block stands as it was. -/
def grows : AOp → Bool
  | .store _ _ _ | .app _ _ _ _ | .callv _ _ => false
  | _ => true

section
variable (P : Program)
def szO (t : TypeId) : Option Nat := (P.info? t).map (·.size)
def agO (t : TypeId) : Option Bool := (P.underlying t).map fun d => match d with | .struct _ | .array _ _ => true | _ => false
def slO (t : TypeId) : Option TypeId := match P.underlying t with
  | some (.slice e) => some e
  | _ => none
def zeroO (t : TypeId) : Option PV := match P.info? t with
  | some i => match i.zero with | some v => ofVal v | none => none
  | none => none
def inOrder : Nat → List (Nat × Operand) → Bool
  | _, [] => true
  | k, (i, _) :: l => i == k && inOrder (k + 1) l
def cop (o : Oper) : Option AOp :=
  match o.op with
  | .move x | .assign x => some (.mov x)
  | .pick c x y => some (.pick c x y)
  | .box t x => some (.box t x)
  | .alloc t => (zeroO P t).map (.zro t)
  | .load t x => match agO P t, szO P t with
    | some ag, some n => some (.load ag n x)
    | _, _ => none
  | .store t x y => (szO P t).map fun n => .store n x y
  | .binOp op t x y _ => match P.underlying t with
    | some (.slice _) => match op, y with
      | .eql, .const (.slice none 0 0) => some (.eqn false x)
      | .neq, .const (.slice none 0 0) => some (.eqn true x)
      | _, _ => none
    | some (.int _) => some (.bin false op x y)
    | some .bool => some (.bin true op x y)
    | _ => none
  | .unOp op _ x => some (.un op x)
  | .extract x i => some (.ext x i)
  | .fieldAddr t x f => match P.underlying t with
    | some (.struct fs) => match fs[f]? with
      | some fd => match szO P fd.type with
        | some n => if n = 0 then none else some (.fadr fd.offset x)
        | none => none
      | none => none
    | _ => none
  | .indexAddr t x i => match P.underlying t with
    | some (.slice e) => (szO P e).map fun n => .iadr n x i
    | some (.array len e) => (szO P e).map fun n => .iadrA len n x i
    | _ => none
  | .field t x f => match P.underlying t with
    | some (.struct fs) => match fs[f]? with
      | some fd => match agO P fd.type, szO P fd.type with
        | some ag, some n => some (.fld ag n fd.offset x)
        | _, _ => none
      | none => none
    | _ => none
  | .index t x i => match P.underlying t with
    | some (.array len e) => match agO P e, szO P e with
      | some ag, some n => some (.idx ag len n x i)
      | _, _ => none
    | _ => none
  | .makeSlice t n c => match slO P t with
    | some e => match szO P e, zeroO P e, P.info? e with
      | some sz, some z, some i => if sz = z.flat.length ∧ i.bytes ≤ 1024 ∧ sz = 1 ∧ z.one = true then some (.mk e sz z n c) else none
      | _, _, _ => none
    | none => none
  | .buildSlice t n parts => match slO P t with
    | some e => match szO P e, zeroO P e with
      | some sz, some z => if parts.size = n ∧ inOrder 0 parts.toList = true ∧ sz = z.flat.length ∧ 0 < sz ∧ n * sz ≤ 65536 then some (.bsl e sz (parts.toList.map (·.2))) else none
      | _, _ => none
    | none => none
  | .build t parts => match P.underlying t, zeroO P t with
    | some (.struct fs), some (.agg z) => match fs.toList.mapM fun f => (szO P f.type).map fun n => (f.offset, n) with
      | some places => some (.bld z places parts.toList)
      | none => none
    | some (.array len e), some (.agg z) => match szO P e with
      | some n => if (parts.toList.map (·.1)).all (fun i => decide (i < len)) = true then some (.bld z ((List.range len).map fun i => (i * n, n)) parts.toList) else none
      | none => none
    | _, _ => none
  | .makeFunc f first cap => some (.fn f first.toList cap.toList)
  | .nilCheck x => some (.nilc x)
  | .call c => match c.callee with
    | .builtin .len => match c.args.toList, c.argTypes[0]? with
      | [x], some t => match P.underlying t with
        | some (.slice _) => if c.argTypes.size = 1 then some (.len x) else none
        | _ => none
      | _, _ => none
    | .builtin .append => match c.args.toList, c.argTypes.toList with
      | [x, y], [t, t'] => if t = t' then (match slO P t with
        | some e => match szO P e, zeroO P e, P.info? e with
          | some sz, some z, some i => if sz = z.flat.length ∧ i.bytes ≤ 1024 ∧ 0 < sz ∧ i.zero.isSome then some (.app e sz x y) else none
          | _, _, _ => none
        | none => none) else none
      | _, _ => none
    | .builtin .min => match c.args.toList with
      | [x, y] => some (.mm false x y)
      | _ => none
    | .builtin .max => match c.args.toList with
      | [x, y] => some (.mm true x y)
      | _ => none
    | .value (.func f) => match P.funcs[f]? with
      | some fn => if fn.name == "runtime.NumGoroutine" || fn.body.isNone then none else some (.call f c.args.toList)
      | none => none
    | .value (.tmp x) => some (.callv (.tmp x) c.args.toList)
    | _ => none
  | _ => none
end
end Abs
end Go
