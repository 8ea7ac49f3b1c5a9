/-
  The compiled code of the functions (printed by a program of mine).
-/
import Derived.Test.YtheffllmccomiaaMad
import Derived.Test.YtheffllmccomiaaChecked
namespace Go.Proofs.Ytheffllmccomiaa
open Go.Abs
def c74 : AFn :=
  AFn.mk 4 (AC.seq (AC.ops [AOper.mk (some 1) (AOp.box 24 (Operand.tmp 0)) none, AOper.mk (some 2) (AOp.mov (Operand.const Value.nilFunc)) none]) (AC.seq
  (AC.ops [AOper.mk (some 3) (AOp.fn (Fn.func 81) [] [Operand.tmp 1]) none, AOper.mk (some 2) (AOp.mov (Operand.tmp 3)) none]) AC.ret)) [ARes.tmp 2]
theorem cfn74 : cfn Try.prog 74 1 = some c74 := by kernel_rfl
def c75 : AFn :=
  AFn.mk 19 (AC.seq (AC.ops [AOper.mk (some 4) (AOp.mov (Operand.const (Value.int IntKind.i64 0))) none]) (AC.seq (AC.seq (AC.ops [AOper.mk (some 6)
  (AOp.mov (Operand.tmp 0)) none, AOper.mk (some 7) (AOp.len (Operand.tmp 6)) none, AOper.mk (some 8) (AOp.mov (Operand.const (Value.int IntKind.i64 0)))
  none]) (AC.block 0 (AC.loop (AC.seq (AC.ops [AOper.mk (some 9) (AOp.bin false BinOp.lss (Operand.tmp 8) (Operand.tmp 7)) none]) (AC.seq (AC.cond
  (Operand.tmp 9) AC.skip (AC.exit 0)) (AC.seq (AC.block 1 (AC.seq (AC.ops [AOper.mk (some 10) (AOp.mov (Operand.tmp 8)) none, AOper.mk (some 5) (AOp.mov
  (Operand.tmp 10)) none]) (AC.seq (AC.ops [AOper.mk (some 11) (AOp.mov (Operand.tmp 1)) none, AOper.mk (some 12) (AOp.mov (Operand.tmp 0)) none,
  AOper.mk (some 13) (AOp.mov (Operand.tmp 5)) none, AOper.mk (some 14) (AOp.iadr 2 (Operand.tmp 12) (Operand.tmp 13)) none, AOper.mk (some 15) (AOp.load
  true 2 (Operand.tmp 14)) none, AOper.mk (some 16) (AOp.callv (Operand.tmp 11) [Operand.tmp 15]) none]) (AC.cond (Operand.tmp 16) (AC.seq (AC.ops
  [AOper.mk (some 17) (AOp.mov (Operand.tmp 5)) none, AOper.mk (some 4) (AOp.mov (Operand.tmp 17)) none]) AC.ret) AC.skip)))) (AC.ops [AOper.mk (some 18)
  (AOp.bin false BinOp.add (Operand.tmp 8) (Operand.const (Value.int IntKind.i64 1))) none, AOper.mk (some 8) (AOp.mov (Operand.tmp 18)) none])))))))
  (AC.seq (AC.ops [AOper.mk (some 4) (AOp.mov (Operand.const (Value.int IntKind.i64 (-1)))) none]) AC.ret))) [ARes.tmp 4]
theorem cfn75 : cfn Try.prog 75 2 = some c75 := by kernel_rfl
def c76 : AFn :=
  AFn.mk 46 (AC.seq (AC.ops [AOper.mk (some 1) (AOp.box 24 (Operand.tmp 0)) none, AOper.mk (some 2) (AOp.mov (Operand.const (Value.int IntKind.i64 0)))
  none]) (AC.seq (AC.ops [AOper.mk (some 3) (AOp.mov (Operand.const (Value.int IntKind.i64 0))) none]) (AC.seq (AC.ops [AOper.mk (some 8) (AOp.fadr 0
  (Operand.tmp 1)) none, AOper.mk (some 9) (AOp.load false 1 (Operand.tmp 8)) none, AOper.mk (some 10) (AOp.mk 4 1 (PV.v (Value.bool false)) (Operand.tmp
  9) (Operand.tmp 9)) none, AOper.mk (some 4) (AOp.mov (Operand.tmp 10)) none]) (AC.seq (AC.seq (AC.ops [AOper.mk (some 5) (AOp.mov (Operand.const
  (Value.int IntKind.i64 0))) none]) (AC.block 0 (AC.loop (AC.seq (AC.seq (AC.ops [AOper.mk (some 11) (AOp.mov (Operand.tmp 5)) none, AOper.mk (some 12)
  (AOp.fadr 0 (Operand.tmp 1)) none, AOper.mk (some 13) (AOp.load false 1 (Operand.tmp 12)) none, AOper.mk (some 14) (AOp.bin false BinOp.lss
  (Operand.tmp 11) (Operand.tmp 13)) none]) (AC.cond (Operand.tmp 14) AC.skip (AC.exit 0))) (AC.seq (AC.block 1 (AC.seq (AC.seq (AC.ops [AOper.mk (some
  17) (AOp.mov (Operand.tmp 4)) none, AOper.mk (some 18) (AOp.mov (Operand.tmp 5)) none, AOper.mk (some 19) (AOp.iadr 1 (Operand.tmp 17) (Operand.tmp
  18)) none, AOper.mk (some 20) (AOp.load false 1 (Operand.tmp 19)) none]) (AC.cond (Operand.tmp 20) (AC.exit 1) AC.skip)) (AC.seq (AC.ops [AOper.mk
  (some 21) (AOp.mov (Operand.tmp 3)) none, AOper.mk (some 22) (AOp.bin false BinOp.add (Operand.tmp 21) (Operand.const (Value.int IntKind.i64 1))) none,
  AOper.mk (some 3) (AOp.mov (Operand.tmp 22)) none]) (AC.seq (AC.ops [AOper.mk (some 23) (AOp.load true 2 (Operand.tmp 1)) none, AOper.mk (some 24)
  (AOp.mov (Operand.tmp 5)) none, AOper.mk (some 25) (AOp.call 82 [Operand.tmp 23, Operand.tmp 24]) none, AOper.mk (some 6) (AOp.mov (Operand.tmp 25))
  none]) (AC.seq (AC.ops [AOper.mk (some 7) (AOp.mov (Operand.const (Value.int IntKind.i64 0))) none]) (AC.block 2 (AC.loop (AC.seq (AC.seq (AC.ops
  [AOper.mk (some 26) (AOp.mov (Operand.tmp 7)) none, AOper.mk (some 27) (AOp.fadr 0 (Operand.tmp 1)) none, AOper.mk (some 28) (AOp.load false 1
  (Operand.tmp 27)) none, AOper.mk (some 29) (AOp.bin false BinOp.lss (Operand.tmp 26) (Operand.tmp 28)) none]) (AC.cond (Operand.tmp 29) AC.skip
  (AC.exit 2))) (AC.seq (AC.block 3 (AC.ops [AOper.mk (some 32) (AOp.mov (Operand.tmp 4)) none, AOper.mk (some 33) (AOp.mov (Operand.tmp 7)) none,
  AOper.mk (some 34) (AOp.mov (Operand.tmp 4)) none, AOper.mk (some 35) (AOp.mov (Operand.tmp 7)) none, AOper.mk (some 36) (AOp.iadr 1 (Operand.tmp 34)
  (Operand.tmp 35)) none, AOper.mk (some 37) (AOp.load false 1 (Operand.tmp 36)) none, AOper.mk (some 38) (AOp.mov (Operand.tmp 37)) none, AOper.mk (some
  39) (AOp.mov (Operand.tmp 6)) (some (38, false)), AOper.mk (some 40) (AOp.mov (Operand.tmp 7)) (some (38, false)), AOper.mk (some 41) (AOp.iadr 1
  (Operand.tmp 39) (Operand.tmp 40)) (some (38, false)), AOper.mk (some 42) (AOp.load false 1 (Operand.tmp 41)) (some (38, false)), AOper.mk (some 43)
  (AOp.pick (Operand.tmp 38) (Operand.const (Value.bool true)) (Operand.tmp 42)) none, AOper.mk (some 44) (AOp.iadr 1 (Operand.tmp 32) (Operand.tmp 33))
  none, AOper.mk none (AOp.store 1 (Operand.tmp 44) (Operand.tmp 43)) none])) (AC.ops [AOper.mk (some 30) (AOp.mov (Operand.tmp 7)) none, AOper.mk (some
  31) (AOp.bin false BinOp.add (Operand.tmp 30) (Operand.const (Value.int IntKind.i64 1))) none, AOper.mk (some 7) (AOp.mov (Operand.tmp 31))
  none])))))))))) (AC.ops [AOper.mk (some 15) (AOp.mov (Operand.tmp 5)) none, AOper.mk (some 16) (AOp.bin false BinOp.add (Operand.tmp 15) (Operand.const
  (Value.int IntKind.i64 1))) none, AOper.mk (some 5) (AOp.mov (Operand.tmp 16)) none])))))) (AC.seq (AC.ops [AOper.mk (some 45) (AOp.mov (Operand.tmp
  3)) none, AOper.mk (some 2) (AOp.mov (Operand.tmp 45)) none]) AC.ret))))) [ARes.tmp 2]
theorem cfn76 : cfn Try.prog 76 1 = some c76 := by kernel_rfl
def c77 : AFn :=
  AFn.mk 21 (AC.seq (AC.ops [AOper.mk (some 1) (AOp.box 24 (Operand.tmp 0)) none, AOper.mk (some 2) (AOp.zro 123 (PV.agg [PV.v (Value.int IntKind.i64 0),
  PV.v (Value.int IntKind.i64 0), PV.v (Value.int IntKind.i64 0), PV.v (Value.int IntKind.i64 0), PV.v (Value.int IntKind.i64 0), PV.v (Value.int
  IntKind.i64 0), PV.v (Value.int IntKind.i64 0), PV.v (Value.int IntKind.i64 0), PV.v (Value.int IntKind.i64 0), PV.v (Value.int IntKind.i64 0), PV.v
  (Value.int IntKind.i64 0), PV.v (Value.int IntKind.i64 0)])) none]) (AC.seq (AC.ops [AOper.mk (some 6) (AOp.call 83 []) none, AOper.mk (some 3)
  (AOp.zro 123 (PV.agg [PV.v (Value.int IntKind.i64 0), PV.v (Value.int IntKind.i64 0), PV.v (Value.int IntKind.i64 0), PV.v (Value.int IntKind.i64 0),
  PV.v (Value.int IntKind.i64 0), PV.v (Value.int IntKind.i64 0), PV.v (Value.int IntKind.i64 0), PV.v (Value.int IntKind.i64 0), PV.v (Value.int
  IntKind.i64 0), PV.v (Value.int IntKind.i64 0), PV.v (Value.int IntKind.i64 0), PV.v (Value.int IntKind.i64 0)])) none, AOper.mk none (AOp.store 12
  (Operand.tmp 3) (Operand.tmp 6)) none]) (AC.seq (AC.seq (AC.ops [AOper.mk (some 7) (AOp.fadr 1 (Operand.tmp 1)) none, AOper.mk (some 8) (AOp.load false
  1 (Operand.tmp 7)) none, AOper.mk (some 9) (AOp.len (Operand.tmp 8)) none, AOper.mk (some 10) (AOp.mov (Operand.const (Value.int IntKind.i64 0)))
  none]) (AC.block 0 (AC.loop (AC.seq (AC.ops [AOper.mk (some 11) (AOp.bin false BinOp.lss (Operand.tmp 10) (Operand.tmp 9)) none]) (AC.seq (AC.cond
  (Operand.tmp 11) AC.skip (AC.exit 0)) (AC.seq (AC.block 1 (AC.seq (AC.ops [AOper.mk (some 12) (AOp.iadr 3 (Operand.tmp 8) (Operand.tmp 10)) none,
  AOper.mk (some 13) (AOp.load true 3 (Operand.tmp 12)) none, AOper.mk (some 5) (AOp.zro 78 (PV.agg [PV.v (Value.int IntKind.i64 0), PV.v (Value.int
  IntKind.i64 0), PV.v (Value.int IntKind.i64 0)])) none, AOper.mk none (AOp.store 3 (Operand.tmp 5) (Operand.tmp 13)) none]) (AC.ops [AOper.mk (some 14)
  (AOp.fadr 0 (Operand.tmp 5)) none, AOper.mk (some 15) (AOp.load false 1 (Operand.tmp 14)) none, AOper.mk (some 16) (AOp.fadr 1 (Operand.tmp 5)) none,
  AOper.mk (some 17) (AOp.load false 1 (Operand.tmp 16)) none, AOper.mk (some 18) (AOp.call 84 [Operand.tmp 3, Operand.tmp 15, Operand.tmp 17]) none])))
  (AC.ops [AOper.mk (some 19) (AOp.bin false BinOp.add (Operand.tmp 10) (Operand.const (Value.int IntKind.i64 1))) none, AOper.mk (some 10) (AOp.mov
  (Operand.tmp 19)) none]))))))) (AC.seq (AC.ops [AOper.mk (some 20) (AOp.load true 12 (Operand.tmp 3)) none, AOper.mk none (AOp.store 12 (Operand.tmp 2)
  (Operand.tmp 20)) none]) AC.ret)))) [ARes.cell 2 true 12]
theorem cfn77 : cfn Try.prog 77 1 = some c77 := by kernel_rfl
def c78 : AFn :=
  AFn.mk 43 (AC.seq (AC.ops [AOper.mk (some 4) (AOp.mov (Operand.const (Value.slice none 0 0))) none]) (AC.seq (AC.ops [AOper.mk (some 5) (AOp.mov
  (Operand.const (Value.slice none 0 0))) none]) (AC.seq (AC.ops [AOper.mk (some 9) (AOp.mkm (KD.int IntKind.i64)) none, AOper.mk (some 6) (AOp.mov
  (Operand.tmp 9)) none]) (AC.seq (AC.seq (AC.ops [AOper.mk (some 10) (AOp.mov (Operand.tmp 1)) none, AOper.mk (some 11) (AOp.mov (Operand.const
  (Value.int IntKind.i64 0))) none]) (AC.block 0 (AC.loop (AC.seq (AC.ops [AOper.mk (some 12) (AOp.bin false BinOp.lss (Operand.tmp 11) (Operand.tmp 10))
  none]) (AC.seq (AC.cond (Operand.tmp 12) AC.skip (AC.exit 0)) (AC.seq (AC.block 1 (AC.seq (AC.ops [AOper.mk (some 13) (AOp.mov (Operand.tmp 11)) none,
  AOper.mk (some 7) (AOp.mov (Operand.tmp 13)) none]) (AC.seq (AC.ops [AOper.mk (some 14) (AOp.mov (Operand.tmp 0)) none, AOper.mk (some 15) (AOp.mov
  (Operand.tmp 7)) none, AOper.mk (some 16) (AOp.call 85 [Operand.tmp 14, Operand.tmp 15]) none, AOper.mk (some 8) (AOp.mov (Operand.tmp 16)) none])
  (AC.seq (AC.seq (AC.ops [AOper.mk (some 17) (AOp.mov (Operand.tmp 8)) none, AOper.mk (some 18) (AOp.mov (Operand.tmp 7)) none, AOper.mk (some 19)
  (AOp.bin false BinOp.eql (Operand.tmp 17) (Operand.tmp 18)) none]) (AC.cond (Operand.tmp 19) (AC.seq (AC.ops [AOper.mk (some 20) (AOp.mov (Operand.tmp
  6)) none, AOper.mk (some 21) (AOp.mov (Operand.tmp 7)) none, AOper.mk (some 22) (AOp.mov (Operand.tmp 5)) none, AOper.mk (some 23) (AOp.len
  (Operand.tmp 22)) none, AOper.mk none (AOp.mset (KD.int IntKind.i64) (Operand.tmp 20) (Operand.tmp 21) (Operand.tmp 23)) none]) (AC.ops [AOper.mk (some
  24) (AOp.mov (Operand.tmp 5)) none, AOper.mk (some 25) (AOp.bslT 27 [Operand.const (Value.slice none 0 0)]) none, AOper.mk (some 26) (AOp.appT 27
  (Operand.tmp 24) (Operand.tmp 25)) none, AOper.mk (some 5) (AOp.mov (Operand.tmp 26)) none])) AC.skip)) (AC.tree (AT.look [AOper.mk (some 27) (AOp.mov
  (Operand.tmp 5)) none, AOper.mk (some 28) (AOp.mov (Operand.tmp 6)) none, AOper.mk (some 29) (AOp.mov (Operand.tmp 8)) none, AOper.mk (some 31)
  (AOp.mov (Operand.tmp 5)) none, AOper.mk (some 32) (AOp.mov (Operand.tmp 6)) none, AOper.mk (some 33) (AOp.mov (Operand.tmp 8)) none, AOper.mk (some
  34) (AOp.look (KD.int IntKind.i64) (PV.v (Value.int IntKind.i64 0)) false (Operand.tmp 32) (Operand.tmp 33)) none, AOper.mk (some 35) (AOp.iadr 1
  (Operand.tmp 31) (Operand.tmp 34)) none, AOper.mk (some 36) (AOp.load false 1 (Operand.tmp 35)) none, AOper.mk (some 37) (AOp.mov (Operand.tmp 7))
  none] (AT.fork true (AOper.mk (some 30) (AOp.look (KD.int IntKind.i64) (PV.v (Value.int IntKind.i64 0)) false (Operand.tmp 28) (Operand.tmp 29)) none)
  (AT.act true (AOper.mk (some 38) (AOp.bsl 3 1 [Operand.tmp 37]) none) (AT.act false (AOper.mk (some 39) (AOp.app 3 1 (Operand.tmp 36) (Operand.tmp 38))
  none) (AT.look [AOper.mk (some 40) (AOp.iadr 1 (Operand.tmp 27) (Operand.tmp 30)) none] (AT.act false (AOper.mk none (AOp.store 1 (Operand.tmp 40)
  (Operand.tmp 39)) none) AT.done)))) true (AOper.mk (some 38) (AOp.bsl 3 1 [Operand.tmp 37]) none) (AT.fork true (AOper.mk (some 30) (AOp.look (KD.int
  IntKind.i64) (PV.v (Value.int IntKind.i64 0)) false (Operand.tmp 28) (Operand.tmp 29)) none) (AT.act false (AOper.mk (some 39) (AOp.app 3 1
  (Operand.tmp 36) (Operand.tmp 38)) none) (AT.look [AOper.mk (some 40) (AOp.iadr 1 (Operand.tmp 27) (Operand.tmp 30)) none] (AT.act false (AOper.mk none
  (AOp.store 1 (Operand.tmp 40) (Operand.tmp 39)) none) AT.done))) false (AOper.mk (some 39) (AOp.app 3 1 (Operand.tmp 36) (Operand.tmp 38)) none)
  (AT.look [AOper.mk (some 30) (AOp.look (KD.int IntKind.i64) (PV.v (Value.int IntKind.i64 0)) false (Operand.tmp 28) (Operand.tmp 29)) none, AOper.mk
  (some 40) (AOp.iadr 1 (Operand.tmp 27) (Operand.tmp 30)) none] (AT.act false (AOper.mk none (AOp.store 1 (Operand.tmp 40) (Operand.tmp 39)) none)
  AT.done)))))))))) (AC.ops [AOper.mk (some 41) (AOp.bin false BinOp.add (Operand.tmp 11) (Operand.const (Value.int IntKind.i64 1))) none, AOper.mk (some
  11) (AOp.mov (Operand.tmp 41)) none]))))))) (AC.seq (AC.ops [AOper.mk (some 42) (AOp.mov (Operand.tmp 5)) none, AOper.mk (some 4) (AOp.mov (Operand.tmp
  42)) none]) AC.ret))))) [ARes.tmp 4]
theorem cfn78 : cfn Try.prog 78 2 = some c78 := by kernel_rfl
def c79 : AFn :=
  AFn.mk 12 (AC.seq (AC.ops [AOper.mk (some 4) (AOp.mov (Operand.const (Value.bool false))) none]) (AC.seq (AC.ops [AOper.mk (some 5) (AOp.mov
  (Operand.tmp 1)) none, AOper.mk (some 6) (AOp.bin false BinOp.geq (Operand.tmp 5) (Operand.const (Value.int IntKind.i64 0))) none, AOper.mk (some 7)
  (AOp.mov (Operand.tmp 6)) none, AOper.mk (some 8) (AOp.mov (Operand.tmp 1)) (some (7, true)), AOper.mk (some 9) (AOp.mov (Operand.tmp 0)) (some (7,
  true)), AOper.mk (some 10) (AOp.bin false BinOp.lss (Operand.tmp 8) (Operand.tmp 9)) (some (7, true)), AOper.mk (some 11) (AOp.pick (Operand.tmp 7)
  (Operand.tmp 10) (Operand.const (Value.bool false))) none, AOper.mk (some 4) (AOp.mov (Operand.tmp 11)) none]) AC.ret)) [ARes.tmp 4]
theorem cfn79 : cfn Try.prog 79 2 = some c79 := by kernel_rfl
def c80 : AFn :=
  AFn.mk 17 (AC.seq (AC.ops [AOper.mk (some 2) (AOp.box 120 (Operand.tmp 0)) none, AOper.mk (some 3) (AOp.box 120 (Operand.tmp 1)) none, AOper.mk (some
  4) (AOp.mov (Operand.const (Value.int IntKind.i64 0))) none]) (AC.seq (AC.segs [([AOper.mk (some 5) (AOp.fadr 0 (Operand.tmp 2)) none, AOper.mk (some
  6) (AOp.load false 1 (Operand.tmp 5)) none, AOper.mk (some 7) (AOp.fadr 0 (Operand.tmp 3)) none, AOper.mk (some 8) (AOp.load false 1 (Operand.tmp 7))
  none, AOper.mk (some 10) (AOp.fadr 1 (Operand.tmp 2)) none, AOper.mk (some 11) (AOp.load false 1 (Operand.tmp 10)) none, AOper.mk (some 12) (AOp.fadr 1
  (Operand.tmp 3)) none, AOper.mk (some 13) (AOp.load false 1 (Operand.tmp 12)) none], some (true, AOper.mk (some 9) (AOp.call 87 [Operand.tmp 6,
  Operand.tmp 8]) none)), ([], some (true, AOper.mk (some 14) (AOp.call 87 [Operand.tmp 11, Operand.tmp 13]) none)), ([], some (true, AOper.mk (some 15)
  (AOp.bsl 3 1 [Operand.tmp 9, Operand.tmp 14]) none)), ([], some (true, AOper.mk (some 16) (AOp.call 86 [Operand.tmp 15]) none)), ([AOper.mk (some 4)
  (AOp.mov (Operand.tmp 16)) none], none)]) AC.ret)) [ARes.tmp 4]
theorem cfn80 : cfn Try.prog 80 2 = some c80 := by kernel_rfl
def c81 : AFn :=
  AFn.mk 30 (AC.seq (AC.ops [AOper.mk (some 3) (AOp.mov (Operand.const (Value.int IntKind.i64 0))) none]) (AC.seq (AC.ops [AOper.mk (some 6) (AOp.fadr 1
  (Operand.tmp 1)) none, AOper.mk (some 7) (AOp.load false 1 (Operand.tmp 6)) none, AOper.mk (some 8) (AOp.len (Operand.tmp 7)) none, AOper.mk (some 9)
  (AOp.mov (Operand.const (Value.int IntKind.i64 0))) none]) (AC.block 0 (AC.loop (AC.seq (AC.ops [AOper.mk (some 10) (AOp.bin false BinOp.lss
  (Operand.tmp 9) (Operand.tmp 8)) none]) (AC.seq (AC.cond (Operand.tmp 10) AC.skip (AC.exit 0)) (AC.seq (AC.block 1 (AC.seq (AC.ops [AOper.mk (some 11)
  (AOp.iadr 3 (Operand.tmp 7) (Operand.tmp 9)) none, AOper.mk (some 12) (AOp.load true 3 (Operand.tmp 11)) none, AOper.mk (some 5) (AOp.zro 78 (PV.agg
  [PV.v (Value.int IntKind.i64 0), PV.v (Value.int IntKind.i64 0), PV.v (Value.int IntKind.i64 0)])) none, AOper.mk none (AOp.store 3 (Operand.tmp 5)
  (Operand.tmp 12)) none]) (AC.seq (AC.ops [AOper.mk (some 13) (AOp.fadr 2 (Operand.tmp 5)) none, AOper.mk (some 14) (AOp.load false 1 (Operand.tmp 13))
  none, AOper.mk (some 15) (AOp.mov (Operand.const (Value.int IntKind.i64 0))) none]) (AC.block 2 (AC.loop (AC.seq (AC.ops [AOper.mk (some 16) (AOp.bin
  false BinOp.lss (Operand.tmp 15) (Operand.tmp 14)) none]) (AC.seq (AC.cond (Operand.tmp 16) AC.skip (AC.exit 2)) (AC.seq (AC.block 3 (AC.seq (AC.seq
  (AC.ops [AOper.mk (some 17) (AOp.mov (Operand.tmp 0)) none, AOper.mk (some 18) (AOp.mov (Operand.tmp 3)) none, AOper.mk (some 19) (AOp.fadr 0
  (Operand.tmp 5)) none, AOper.mk (some 20) (AOp.load false 1 (Operand.tmp 19)) none, AOper.mk (some 21) (AOp.fadr 1 (Operand.tmp 5)) none, AOper.mk
  (some 22) (AOp.load false 1 (Operand.tmp 21)) none, AOper.mk (some 23) (AOp.bld [PV.v (Value.int IntKind.i64 0), PV.v (Value.int IntKind.i64 0)] [(0,
  1), (1, 1)] [(0, Operand.tmp 20), (1, Operand.tmp 22)]) none, AOper.mk (some 24) (AOp.callv (Operand.tmp 17) [Operand.tmp 18, Operand.tmp 23]) none,
  AOper.mk (some 25) (AOp.un UnOp.not (Operand.tmp 24)) none]) (AC.cond (Operand.tmp 25) AC.ret AC.skip)) (AC.ops [AOper.mk (some 26) (AOp.mov
  (Operand.tmp 3)) none, AOper.mk (some 27) (AOp.bin false BinOp.add (Operand.tmp 26) (Operand.const (Value.int IntKind.i64 1))) none, AOper.mk (some 3)
  (AOp.mov (Operand.tmp 27)) none]))) (AC.ops [AOper.mk (some 28) (AOp.bin false BinOp.add (Operand.tmp 15) (Operand.const (Value.int IntKind.i64 1)))
  none, AOper.mk (some 15) (AOp.mov (Operand.tmp 28)) none]))))))))) (AC.ops [AOper.mk (some 29) (AOp.bin false BinOp.add (Operand.tmp 9) (Operand.const
  (Value.int IntKind.i64 1))) none, AOper.mk (some 9) (AOp.mov (Operand.tmp 29)) none])))))))) []
theorem cfn81 : cfn Try.prog 81 2 = some c81 := by kernel_rfl
def c82 : AFn :=
  AFn.mk 48 (AC.seq (AC.ops [AOper.mk (some 2) (AOp.box 24 (Operand.tmp 0)) none, AOper.mk (some 4) (AOp.mov (Operand.const (Value.slice none 0 0)))
  none]) (AC.seq (AC.ops [AOper.mk (some 9) (AOp.fadr 0 (Operand.tmp 2)) none, AOper.mk (some 10) (AOp.load false 1 (Operand.tmp 9)) none, AOper.mk (some
  11) (AOp.mk 4 1 (PV.v (Value.bool false)) (Operand.tmp 10) (Operand.tmp 10)) none, AOper.mk (some 5) (AOp.mov (Operand.tmp 11)) none]) (AC.seq (AC.ops
  [AOper.mk (some 12) (AOp.mov (Operand.tmp 5)) none, AOper.mk (some 13) (AOp.mov (Operand.tmp 1)) none, AOper.mk (some 14) (AOp.iadr 1 (Operand.tmp 12)
  (Operand.tmp 13)) none, AOper.mk none (AOp.store 1 (Operand.tmp 14) (Operand.const (Value.bool true))) none]) (AC.seq (AC.seq (AC.ops [AOper.mk (some
  6) (AOp.mov (Operand.const (Value.int IntKind.i64 0))) none]) (AC.block 0 (AC.loop (AC.seq (AC.seq (AC.ops [AOper.mk (some 15) (AOp.mov (Operand.tmp
  6)) none, AOper.mk (some 16) (AOp.fadr 0 (Operand.tmp 2)) none, AOper.mk (some 17) (AOp.load false 1 (Operand.tmp 16)) none, AOper.mk (some 18)
  (AOp.bin false BinOp.lss (Operand.tmp 15) (Operand.tmp 17)) none]) (AC.cond (Operand.tmp 18) AC.skip (AC.exit 0))) (AC.seq (AC.block 1 (AC.seq (AC.ops
  [AOper.mk (some 7) (AOp.mov (Operand.const (Value.int IntKind.i64 0))) none]) (AC.block 2 (AC.loop (AC.seq (AC.seq (AC.ops [AOper.mk (some 21) (AOp.mov
  (Operand.tmp 7)) none, AOper.mk (some 22) (AOp.fadr 0 (Operand.tmp 2)) none, AOper.mk (some 23) (AOp.load false 1 (Operand.tmp 22)) none, AOper.mk
  (some 24) (AOp.bin false BinOp.lss (Operand.tmp 21) (Operand.tmp 23)) none]) (AC.cond (Operand.tmp 24) AC.skip (AC.exit 2))) (AC.seq (AC.block 3
  (AC.seq (AC.ops [AOper.mk (some 8) (AOp.mov (Operand.const (Value.int IntKind.i64 0))) none]) (AC.block 4 (AC.loop (AC.seq (AC.seq (AC.ops [AOper.mk
  (some 27) (AOp.mov (Operand.tmp 8)) none, AOper.mk (some 28) (AOp.fadr 0 (Operand.tmp 2)) none, AOper.mk (some 29) (AOp.load false 1 (Operand.tmp 28))
  none, AOper.mk (some 30) (AOp.bin false BinOp.lss (Operand.tmp 27) (Operand.tmp 29)) none]) (AC.cond (Operand.tmp 30) AC.skip (AC.exit 4))) (AC.seq
  (AC.block 5 (AC.seq (AC.ops [AOper.mk (some 33) (AOp.mov (Operand.tmp 5)) none, AOper.mk (some 34) (AOp.mov (Operand.tmp 7)) none, AOper.mk (some 35)
  (AOp.iadr 1 (Operand.tmp 33) (Operand.tmp 34)) none, AOper.mk (some 36) (AOp.load false 1 (Operand.tmp 35)) none, AOper.mk (some 37) (AOp.mov
  (Operand.tmp 36)) none, AOper.mk (some 38) (AOp.load true 2 (Operand.tmp 2)) (some (37, true)), AOper.mk (some 39) (AOp.mov (Operand.tmp 7)) (some (37,
  true)), AOper.mk (some 40) (AOp.mov (Operand.tmp 8)) (some (37, true)), AOper.mk (some 41) (AOp.call 52 [Operand.tmp 38, Operand.tmp 39, Operand.tmp
  40]) (some (37, true)), AOper.mk (some 42) (AOp.bin false BinOp.gtr (Operand.tmp 41) (Operand.const (Value.int IntKind.i64 0))) (some (37, true)),
  AOper.mk (some 43) (AOp.pick (Operand.tmp 37) (Operand.tmp 42) (Operand.const (Value.bool false))) none]) (AC.cond (Operand.tmp 43) (AC.ops [AOper.mk
  (some 44) (AOp.mov (Operand.tmp 5)) none, AOper.mk (some 45) (AOp.mov (Operand.tmp 8)) none, AOper.mk (some 46) (AOp.iadr 1 (Operand.tmp 44)
  (Operand.tmp 45)) none, AOper.mk none (AOp.store 1 (Operand.tmp 46) (Operand.const (Value.bool true))) none]) AC.skip))) (AC.ops [AOper.mk (some 31)
  (AOp.mov (Operand.tmp 8)) none, AOper.mk (some 32) (AOp.bin false BinOp.add (Operand.tmp 31) (Operand.const (Value.int IntKind.i64 1))) none, AOper.mk
  (some 8) (AOp.mov (Operand.tmp 32)) none]))))))) (AC.ops [AOper.mk (some 25) (AOp.mov (Operand.tmp 7)) none, AOper.mk (some 26) (AOp.bin false
  BinOp.add (Operand.tmp 25) (Operand.const (Value.int IntKind.i64 1))) none, AOper.mk (some 7) (AOp.mov (Operand.tmp 26)) none]))))))) (AC.ops [AOper.mk
  (some 19) (AOp.mov (Operand.tmp 6)) none, AOper.mk (some 20) (AOp.bin false BinOp.add (Operand.tmp 19) (Operand.const (Value.int IntKind.i64 1))) none,
  AOper.mk (some 6) (AOp.mov (Operand.tmp 20)) none])))))) (AC.seq (AC.ops [AOper.mk (some 47) (AOp.mov (Operand.tmp 5)) none, AOper.mk (some 4) (AOp.mov
  (Operand.tmp 47)) none]) AC.ret))))) [ARes.tmp 4]
theorem cfn82 : cfn Try.prog 82 2 = some c82 := by kernel_rfl
def c83 : AFn :=
  AFn.mk 11 (AC.seq (AC.ops [AOper.mk (some 0) (AOp.zro 123 (PV.agg [PV.v (Value.int IntKind.i64 0), PV.v (Value.int IntKind.i64 0), PV.v (Value.int
  IntKind.i64 0), PV.v (Value.int IntKind.i64 0), PV.v (Value.int IntKind.i64 0), PV.v (Value.int IntKind.i64 0), PV.v (Value.int IntKind.i64 0), PV.v
  (Value.int IntKind.i64 0), PV.v (Value.int IntKind.i64 0), PV.v (Value.int IntKind.i64 0), PV.v (Value.int IntKind.i64 0), PV.v (Value.int IntKind.i64
  0)])) none]) (AC.seq (AC.ops [AOper.mk (some 1) (AOp.zro 123 (PV.agg [PV.v (Value.int IntKind.i64 0), PV.v (Value.int IntKind.i64 0), PV.v (Value.int
  IntKind.i64 0), PV.v (Value.int IntKind.i64 0), PV.v (Value.int IntKind.i64 0), PV.v (Value.int IntKind.i64 0), PV.v (Value.int IntKind.i64 0), PV.v
  (Value.int IntKind.i64 0), PV.v (Value.int IntKind.i64 0), PV.v (Value.int IntKind.i64 0), PV.v (Value.int IntKind.i64 0), PV.v (Value.int IntKind.i64
  0)])) none]) (AC.seq (AC.seq (AC.ops [AOper.mk (some 3) (AOp.mov (Operand.const (Value.int IntKind.i64 0))) none]) (AC.block 0 (AC.loop (AC.seq (AC.ops
  [AOper.mk (some 4) (AOp.bin false BinOp.lss (Operand.tmp 3) (Operand.const (Value.int IntKind.i64 12))) none]) (AC.seq (AC.cond (Operand.tmp 4) AC.skip
  (AC.exit 0)) (AC.seq (AC.block 1 (AC.seq (AC.ops [AOper.mk (some 5) (AOp.mov (Operand.tmp 3)) none, AOper.mk (some 2) (AOp.mov (Operand.tmp 5)) none])
  (AC.ops [AOper.mk (some 6) (AOp.mov (Operand.tmp 2)) none, AOper.mk (some 7) (AOp.mov (Operand.tmp 2)) none, AOper.mk (some 8) (AOp.iadrA 12 1
  (Operand.tmp 1) (Operand.tmp 6)) none, AOper.mk none (AOp.store 1 (Operand.tmp 8) (Operand.tmp 7)) none]))) (AC.ops [AOper.mk (some 9) (AOp.bin false
  BinOp.add (Operand.tmp 3) (Operand.const (Value.int IntKind.i64 1))) none, AOper.mk (some 3) (AOp.mov (Operand.tmp 9)) none]))))))) (AC.seq (AC.ops
  [AOper.mk (some 10) (AOp.load true 12 (Operand.tmp 1)) none, AOper.mk none (AOp.store 12 (Operand.tmp 0) (Operand.tmp 10)) none]) AC.ret)))) [ARes.cell
  0 true 12]
theorem cfn83 : cfn Try.prog 83 0 = some c83 := by kernel_rfl
def c84 : AFn :=
  AFn.mk 21 (AC.seq (AC.ops [AOper.mk (some 6) (AOp.mov (Operand.tmp 0)) none, AOper.mk (some 7) (AOp.mov (Operand.tmp 1)) none, AOper.mk (some 8)
  (AOp.call 85 [Operand.tmp 6, Operand.tmp 7]) none, AOper.mk (some 9) (AOp.mov (Operand.tmp 0)) none, AOper.mk (some 10) (AOp.mov (Operand.tmp 2)) none,
  AOper.mk (some 11) (AOp.call 85 [Operand.tmp 9, Operand.tmp 10]) none, AOper.mk (some 1) (AOp.mov (Operand.tmp 8)) none, AOper.mk (some 2) (AOp.mov
  (Operand.tmp 11)) none]) (AC.ops [AOper.mk (some 12) (AOp.mov (Operand.tmp 0)) none, AOper.mk (some 13) (AOp.mov (Operand.tmp 1)) none, AOper.mk (some
  14) (AOp.mov (Operand.tmp 2)) none, AOper.mk (some 15) (AOp.mm true (Operand.tmp 13) (Operand.tmp 14)) none, AOper.mk (some 16) (AOp.mov (Operand.tmp
  1)) none, AOper.mk (some 17) (AOp.mov (Operand.tmp 2)) none, AOper.mk (some 18) (AOp.mm false (Operand.tmp 16) (Operand.tmp 17)) none, AOper.mk (some
  19) (AOp.nilc (Operand.tmp 12)) none, AOper.mk (some 20) (AOp.iadrA 12 1 (Operand.tmp 19) (Operand.tmp 15)) none, AOper.mk none (AOp.store 1
  (Operand.tmp 20) (Operand.tmp 18)) none])) []
theorem cfn84 : cfn Try.prog 84 3 = some c84 := by kernel_rfl
def c85 : AFn :=
  AFn.mk 18 (AC.seq (AC.ops [AOper.mk (some 4) (AOp.mov (Operand.const (Value.int IntKind.i64 0))) none]) (AC.seq (AC.block 0 (AC.loop (AC.seq (AC.seq
  (AC.ops [AOper.mk (some 5) (AOp.mov (Operand.tmp 0)) none, AOper.mk (some 6) (AOp.mov (Operand.tmp 1)) none, AOper.mk (some 7) (AOp.nilc (Operand.tmp
  5)) none, AOper.mk (some 8) (AOp.iadrA 12 1 (Operand.tmp 7) (Operand.tmp 6)) none, AOper.mk (some 9) (AOp.load false 1 (Operand.tmp 8)) none, AOper.mk
  (some 10) (AOp.mov (Operand.tmp 1)) none, AOper.mk (some 11) (AOp.bin false BinOp.neq (Operand.tmp 9) (Operand.tmp 10)) none]) (AC.cond (Operand.tmp
  11) AC.skip (AC.exit 0))) (AC.block 1 (AC.ops [AOper.mk (some 12) (AOp.mov (Operand.tmp 0)) none, AOper.mk (some 13) (AOp.mov (Operand.tmp 1)) none,
  AOper.mk (some 14) (AOp.nilc (Operand.tmp 12)) none, AOper.mk (some 15) (AOp.iadrA 12 1 (Operand.tmp 14) (Operand.tmp 13)) none, AOper.mk (some 16)
  (AOp.load false 1 (Operand.tmp 15)) none, AOper.mk (some 1) (AOp.mov (Operand.tmp 16)) none]))))) (AC.seq (AC.ops [AOper.mk (some 17) (AOp.mov
  (Operand.tmp 1)) none, AOper.mk (some 4) (AOp.mov (Operand.tmp 17)) none]) AC.ret))) [ARes.tmp 4]
theorem cfn85 : cfn Try.prog 85 2 = some c85 := by kernel_rfl
def c86 : AFn :=
  AFn.mk 18 (AC.seq (AC.ops [AOper.mk (some 2) (AOp.mov (Operand.const (Value.int IntKind.i64 0))) none]) (AC.seq (AC.ops [AOper.mk (some 3) (AOp.mov
  (Operand.const (Value.int IntKind.i64 0))) none]) (AC.seq (AC.seq (AC.ops [AOper.mk (some 6) (AOp.mov (Operand.tmp 0)) none, AOper.mk (some 7) (AOp.len
  (Operand.tmp 6)) none, AOper.mk (some 8) (AOp.mov (Operand.const (Value.int IntKind.i64 0))) none]) (AC.block 0 (AC.loop (AC.seq (AC.ops [AOper.mk
  (some 9) (AOp.bin false BinOp.lss (Operand.tmp 8) (Operand.tmp 7)) none]) (AC.seq (AC.cond (Operand.tmp 9) AC.skip (AC.exit 0)) (AC.seq (AC.block 1
  (AC.seq (AC.ops [AOper.mk (some 10) (AOp.iadr 1 (Operand.tmp 6) (Operand.tmp 8)) none, AOper.mk (some 11) (AOp.load false 1 (Operand.tmp 10)) none,
  AOper.mk (some 5) (AOp.mov (Operand.tmp 11)) none]) (AC.seq (AC.ops [AOper.mk (some 12) (AOp.mov (Operand.tmp 5)) none, AOper.mk (some 13) (AOp.mov
  (Operand.tmp 3)) none, AOper.mk (some 14) (AOp.bin false BinOp.neq (Operand.tmp 12) (Operand.tmp 13)) none]) (AC.cond (Operand.tmp 14) (AC.seq (AC.ops
  [AOper.mk (some 15) (AOp.mov (Operand.tmp 5)) none, AOper.mk (some 2) (AOp.mov (Operand.tmp 15)) none]) AC.ret) AC.skip)))) (AC.ops [AOper.mk (some 16)
  (AOp.bin false BinOp.add (Operand.tmp 8) (Operand.const (Value.int IntKind.i64 1))) none, AOper.mk (some 8) (AOp.mov (Operand.tmp 16)) none])))))))
  (AC.seq (AC.ops [AOper.mk (some 17) (AOp.mov (Operand.tmp 3)) none, AOper.mk (some 2) (AOp.mov (Operand.tmp 17)) none]) AC.ret)))) [ARes.tmp 2]
theorem cfn86 : cfn Try.prog 86 1 = some c86 := by kernel_rfl
def c87 : AFn :=
  AFn.mk 20 (AC.seq (AC.ops [AOper.mk (some 4) (AOp.mov (Operand.const (Value.int IntKind.i64 0))) none]) (AC.seq (AC.ops [AOper.mk (some 7) (AOp.mov
  (Operand.tmp 0)) none, AOper.mk (some 8) (AOp.call 88 [Operand.tmp 7]) none, AOper.mk (some 5) (AOp.mov (Operand.tmp 8)) none]) (AC.seq (AC.ops
  [AOper.mk (some 9) (AOp.mov (Operand.tmp 1)) none, AOper.mk (some 10) (AOp.call 88 [Operand.tmp 9]) none, AOper.mk (some 6) (AOp.mov (Operand.tmp 10))
  none]) (AC.seq (AC.seq (AC.ops [AOper.mk (some 11) (AOp.mov (Operand.tmp 5)) none]) (AC.cond (Operand.tmp 11) (AC.seq (AC.seq (AC.ops [AOper.mk (some
  12) (AOp.mov (Operand.tmp 6)) none]) (AC.cond (Operand.tmp 12) (AC.seq (AC.ops [AOper.mk (some 4) (AOp.mov (Operand.const (Value.int IntKind.i64 0)))
  none]) AC.ret) AC.skip)) (AC.seq (AC.ops [AOper.mk (some 4) (AOp.mov (Operand.const (Value.int IntKind.i64 (-1)))) none]) AC.ret)) AC.skip)) (AC.seq
  (AC.seq (AC.ops [AOper.mk (some 13) (AOp.mov (Operand.tmp 6)) none]) (AC.cond (Operand.tmp 13) (AC.seq (AC.ops [AOper.mk (some 4) (AOp.mov
  (Operand.const (Value.int IntKind.i64 1))) none]) AC.ret) AC.skip)) (AC.seq (AC.seq (AC.ops [AOper.mk (some 14) (AOp.mov (Operand.tmp 0)) none,
  AOper.mk (some 15) (AOp.mov (Operand.tmp 1)) none, AOper.mk (some 16) (AOp.bin false BinOp.lss (Operand.tmp 14) (Operand.tmp 15)) none]) (AC.cond
  (Operand.tmp 16) (AC.seq (AC.ops [AOper.mk (some 4) (AOp.mov (Operand.const (Value.int IntKind.i64 (-1)))) none]) AC.ret) AC.skip)) (AC.seq (AC.seq
  (AC.ops [AOper.mk (some 17) (AOp.mov (Operand.tmp 0)) none, AOper.mk (some 18) (AOp.mov (Operand.tmp 1)) none, AOper.mk (some 19) (AOp.bin false
  BinOp.gtr (Operand.tmp 17) (Operand.tmp 18)) none]) (AC.cond (Operand.tmp 19) (AC.seq (AC.ops [AOper.mk (some 4) (AOp.mov (Operand.const (Value.int
  IntKind.i64 1))) none]) AC.ret) AC.skip)) (AC.seq (AC.ops [AOper.mk (some 4) (AOp.mov (Operand.const (Value.int IntKind.i64 0))) none]) AC.ret))))))))
  [ARes.tmp 4]
theorem cfn87 : cfn Try.prog 87 2 = some c87 := by kernel_rfl
def c88 : AFn :=
  AFn.mk 6 (AC.seq (AC.ops [AOper.mk (some 2) (AOp.mov (Operand.const (Value.bool false))) none]) (AC.seq (AC.ops [AOper.mk (some 3) (AOp.mov
  (Operand.tmp 0)) none, AOper.mk (some 4) (AOp.mov (Operand.tmp 0)) none, AOper.mk (some 5) (AOp.bin false BinOp.neq (Operand.tmp 3) (Operand.tmp 4))
  none, AOper.mk (some 2) (AOp.mov (Operand.tmp 5)) none]) AC.ret)) [ARes.tmp 2]
theorem cfn88 : cfn Try.prog 88 1 = some c88 := by kernel_rfl
end Go.Proofs.Ytheffllmccomiaa
