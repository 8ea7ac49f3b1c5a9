/-
  The compiled code of the functions (printed by a program of mine).
-/
import Derived.Test.YtddgepjmfnodhaaMad
import Derived.Test.YtddgepjmfnodhaaChecked
namespace Go.Proofs.Ytddgepjmfnodhaa
open Go.Abs
noncomputable def rc44_0a : Go.Code := rngA Try.prog 44 0
def ra44_0a : AC :=
  AC.ops [AOper.mk (some 9) (AOp.zro 123 (PV.agg [PV.v (Value.int IntKind.i64 0), PV.v (Value.int IntKind.i64 0)])) none, AOper.mk none (AOp.store 2
  (Operand.tmp 9) (Operand.tmp 27)) none]
theorem rcc44_0a : ccode Try.prog 47 rc44_0a = some ra44_0a := by kernel_rfl
noncomputable def rc44_0c : Go.Code := rngC Try.prog 44 0
def ra44_0c : AC :=
  AC.block 3 (AC.seq (AC.segs [([AOper.mk (some 28) (AOp.fadr 0 (Operand.tmp 9)) none, AOper.mk (some 29) (AOp.load false 1 (Operand.tmp 28)) none,
  AOper.mk (some 31) (AOp.fadr 1 (Operand.tmp 9)) none, AOper.mk (some 32) (AOp.load false 1 (Operand.tmp 31)) none], some (true, AOper.mk (some 30)
  (AOp.call 75 [Operand.tmp 5, Operand.tmp 29]) none)), ([], some (true, AOper.mk (some 33) (AOp.call 75 [Operand.tmp 5, Operand.tmp 32]) none)),
  ([AOper.mk (some 10) (AOp.mov (Operand.tmp 30)) none, AOper.mk (some 11) (AOp.mov (Operand.tmp 33)) none], none)]) (AC.seq (AC.seq (AC.ops [AOper.mk
  (some 34) (AOp.mov (Operand.tmp 10)) none, AOper.mk (some 35) (AOp.mov (Operand.tmp 11)) none, AOper.mk (some 36) (AOp.bin false BinOp.eql (Operand.tmp
  34) (Operand.tmp 35)) none]) (AC.cond (Operand.tmp 36) (AC.ops [AOper.mk (some 37) (AOp.load false 1 (Operand.tmp 7)) none, AOper.mk (some 38) (AOp.bin
  false BinOp.add (Operand.tmp 37) (Operand.const (Value.int IntKind.i64 1))) none, AOper.mk none (AOp.store 1 (Operand.tmp 7) (Operand.tmp 38)) none])
  AC.skip)) (AC.ops [AOper.mk (some 39) (AOp.mov (Operand.tmp 10)) none, AOper.mk (some 40) (AOp.mov (Operand.tmp 11)) none, AOper.mk (some 41) (AOp.mm
  true (Operand.tmp 39) (Operand.tmp 40)) none, AOper.mk (some 42) (AOp.mov (Operand.tmp 10)) none, AOper.mk (some 43) (AOp.mov (Operand.tmp 11)) none,
  AOper.mk (some 44) (AOp.mm false (Operand.tmp 42) (Operand.tmp 43)) none, AOper.mk (some 45) (AOp.iadrA 12 1 (Operand.tmp 5) (Operand.tmp 41)) none,
  AOper.mk none (AOp.store 1 (Operand.tmp 45) (Operand.tmp 44)) none])))
theorem rcc44_0c : ccode Try.prog 47 rc44_0c = some ra44_0c := by kernel_rfl
noncomputable def c44 : AFn :=
  AFn.mk 47 (AC.seq (AC.ops [AOper.mk (some 1) (AOp.box 24 (Operand.tmp 0)) none, AOper.mk (some 2) (AOp.mov (Operand.const (Value.int IntKind.i64 0)))
  none, AOper.mk (some 3) (AOp.mov (Operand.const (Value.int IntKind.i64 0))) none]) (AC.seq (AC.seq (AC.ops [AOper.mk (some 12) (AOp.load true 2
  (Operand.tmp 1)) none, AOper.mk (some 13) (AOp.call 73 [Operand.tmp 12]) none, AOper.mk (some 4) (AOp.mov (Operand.tmp 13)) none]) (AC.seq (AC.ops
  [AOper.mk (some 14) (AOp.mov (Operand.tmp 4)) none, AOper.mk (some 15) (AOp.bin false BinOp.neq (Operand.tmp 14) (Operand.const (Value.int IntKind.i64
  0))) none]) (AC.cond (Operand.tmp 15) (AC.seq (AC.ops [AOper.mk (some 16) (AOp.mov (Operand.tmp 4)) none, AOper.mk (some 2) (AOp.mov (Operand.const
  (Value.int IntKind.i64 0))) none, AOper.mk (some 3) (AOp.mov (Operand.tmp 16)) none]) AC.ret) AC.skip))) (AC.seq (AC.ops [AOper.mk (some 5) (AOp.zro
  118 (PV.agg [PV.v (Value.int IntKind.i64 0), PV.v (Value.int IntKind.i64 0), PV.v (Value.int IntKind.i64 0), PV.v (Value.int IntKind.i64 0), PV.v
  (Value.int IntKind.i64 0), PV.v (Value.int IntKind.i64 0), PV.v (Value.int IntKind.i64 0), PV.v (Value.int IntKind.i64 0), PV.v (Value.int IntKind.i64
  0), PV.v (Value.int IntKind.i64 0), PV.v (Value.int IntKind.i64 0), PV.v (Value.int IntKind.i64 0)])) none]) (AC.seq (AC.seq (AC.ops [AOper.mk (some
  17) (AOp.mov (Operand.const (Value.int IntKind.i64 0))) none]) (AC.block 0 (AC.loop (AC.seq (AC.ops [AOper.mk (some 18) (AOp.bin false BinOp.lss
  (Operand.tmp 17) (Operand.const (Value.int IntKind.i64 12))) none]) (AC.seq (AC.cond (Operand.tmp 18) AC.skip (AC.exit 0)) (AC.seq (AC.block 1 (AC.seq
  (AC.ops [AOper.mk (some 19) (AOp.mov (Operand.tmp 17)) none, AOper.mk (some 6) (AOp.mov (Operand.tmp 19)) none]) (AC.ops [AOper.mk (some 20) (AOp.mov
  (Operand.tmp 6)) none, AOper.mk (some 21) (AOp.mov (Operand.tmp 6)) none, AOper.mk (some 22) (AOp.iadrA 12 1 (Operand.tmp 5) (Operand.tmp 20)) none,
  AOper.mk none (AOp.store 1 (Operand.tmp 22) (Operand.tmp 21)) none]))) (AC.ops [AOper.mk (some 23) (AOp.bin false BinOp.add (Operand.tmp 17)
  (Operand.const (Value.int IntKind.i64 1))) none, AOper.mk (some 17) (AOp.mov (Operand.tmp 23)) none]))))))) (AC.seq (AC.ops [AOper.mk (some 7) (AOp.zro
  3 (PV.v (Value.int IntKind.i64 0))) none, AOper.mk none (AOp.store 1 (Operand.tmp 7) (Operand.const (Value.int IntKind.i64 0))) none]) (AC.seq (AC.seq
  (AC.ops [AOper.mk (some 24) (AOp.load true 2 (Operand.tmp 1)) none, AOper.mk (some 25) (AOp.call 74 [Operand.tmp 24]) none]) (AC.block 2 (AC.rangeF 47
  (Operand.tmp 25) [26, 27] rc44_0a rc44_0c))) (AC.seq (AC.ops [AOper.mk (some 46) (AOp.load false 1 (Operand.tmp 7)) none, AOper.mk (some 2) (AOp.mov
  (Operand.tmp 46)) none, AOper.mk (some 3) (AOp.mov (Operand.const (Value.int IntKind.i64 0))) none]) AC.ret))))))) [ARes.tmp 2, ARes.tmp 3]
theorem cfn44 : cfn Try.prog 44 1 = some c44 := by kernel_rfl
def c45 : AFn :=
  AFn.mk 25 (AC.seq (AC.ops [AOper.mk (some 2) (AOp.mov (Operand.const (Value.int IntKind.i64 0))) none, AOper.mk (some 3) (AOp.mov (Operand.const
  (Value.int IntKind.i64 0))) none]) (AC.seq (AC.seq (AC.ops [AOper.mk (some 8) (AOp.mov (Operand.tmp 0)) none, AOper.mk (some 9) (AOp.bslT 30
  [Operand.tmp 8]) none, AOper.mk (some 10) (AOp.call 76 [Operand.tmp 9]) none, AOper.mk (some 4) (AOp.mov (Operand.tmp 10)) none]) (AC.seq (AC.ops
  [AOper.mk (some 11) (AOp.mov (Operand.tmp 4)) none, AOper.mk (some 12) (AOp.bin false BinOp.neq (Operand.tmp 11) (Operand.const (Value.int IntKind.i64
  0))) none]) (AC.cond (Operand.tmp 12) (AC.seq (AC.ops [AOper.mk (some 13) (AOp.mov (Operand.tmp 4)) none, AOper.mk (some 2) (AOp.mov (Operand.const
  (Value.int IntKind.i64 0))) none, AOper.mk (some 3) (AOp.mov (Operand.tmp 13)) none]) AC.ret) AC.skip))) (AC.seq (AC.ops [AOper.mk (some 5) (AOp.mov
  (Operand.const (Value.int IntKind.i64 0))) none]) (AC.seq (AC.seq (AC.ops [AOper.mk (some 14) (AOp.mov (Operand.tmp 0)) none, AOper.mk (some 15)
  (AOp.len (Operand.tmp 14)) none, AOper.mk (some 16) (AOp.mov (Operand.const (Value.int IntKind.i64 0))) none]) (AC.block 0 (AC.loop (AC.seq (AC.ops
  [AOper.mk (some 17) (AOp.bin false BinOp.lss (Operand.tmp 16) (Operand.tmp 15)) none]) (AC.seq (AC.cond (Operand.tmp 17) AC.skip (AC.exit 0)) (AC.seq
  (AC.block 1 (AC.seq (AC.ops [AOper.mk (some 18) (AOp.iadr 1 (Operand.tmp 14) (Operand.tmp 16)) none, AOper.mk (some 19) (AOp.load false 1 (Operand.tmp
  18)) none, AOper.mk (some 7) (AOp.mov (Operand.tmp 19)) none]) (AC.ops [AOper.mk (some 20) (AOp.mov (Operand.tmp 5)) none, AOper.mk (some 21) (AOp.mov
  (Operand.tmp 7)) none, AOper.mk (some 22) (AOp.bin false BinOp.add (Operand.tmp 20) (Operand.tmp 21)) none, AOper.mk (some 5) (AOp.mov (Operand.tmp
  22)) none]))) (AC.ops [AOper.mk (some 23) (AOp.bin false BinOp.add (Operand.tmp 16) (Operand.const (Value.int IntKind.i64 1))) none, AOper.mk (some 16)
  (AOp.mov (Operand.tmp 23)) none]))))))) (AC.seq (AC.ops [AOper.mk (some 24) (AOp.mov (Operand.tmp 5)) none, AOper.mk (some 2) (AOp.mov (Operand.tmp
  24)) none, AOper.mk (some 3) (AOp.mov (Operand.const (Value.int IntKind.i64 0))) none]) AC.ret))))) [ARes.tmp 2, ARes.tmp 3]
theorem cfn45 : cfn Try.prog 45 1 = some c45 := by kernel_rfl
def c46 : AFn :=
  AFn.mk 26 (AC.seq (AC.ops [AOper.mk (some 3) (AOp.box 24 (Operand.tmp 0)) none, AOper.mk (some 4) (AOp.box 24 (Operand.tmp 1)) none, AOper.mk (some 5)
  (AOp.box 38 (Operand.tmp 2)) none, AOper.mk (some 6) (AOp.mov (Operand.const (Value.int IntKind.i64 0))) none, AOper.mk (some 7) (AOp.mov
  (Operand.const (Value.int IntKind.i64 0))) none]) (AC.seq (AC.seq (AC.ops [AOper.mk (some 9) (AOp.load true 2 (Operand.tmp 3)) none, AOper.mk (some 10)
  (AOp.load true 2 (Operand.tmp 4)) none, AOper.mk (some 11) (AOp.load true 2 (Operand.tmp 5)) none, AOper.mk (some 12) (AOp.call 48 [Operand.tmp 9,
  Operand.tmp 10, Operand.tmp 11]) none, AOper.mk (some 8) (AOp.mov (Operand.tmp 12)) none]) (AC.seq (AC.ops [AOper.mk (some 13) (AOp.mov (Operand.tmp
  8)) none, AOper.mk (some 14) (AOp.bin false BinOp.neq (Operand.tmp 13) (Operand.const (Value.int IntKind.i64 0))) none]) (AC.cond (Operand.tmp 14)
  (AC.seq (AC.ops [AOper.mk (some 15) (AOp.mov (Operand.tmp 8)) none, AOper.mk (some 6) (AOp.mov (Operand.const (Value.int IntKind.i64 0))) none,
  AOper.mk (some 7) (AOp.mov (Operand.tmp 15)) none]) AC.ret) AC.skip))) (AC.seq (AC.seq (AC.ops [AOper.mk (some 16) (AOp.load true 2 (Operand.tmp 3))
  none, AOper.mk (some 17) (AOp.load true 2 (Operand.tmp 4)) none, AOper.mk (some 18) (AOp.load true 2 (Operand.tmp 5)) none, AOper.mk (some 19)
  (AOp.call 49 [Operand.tmp 16, Operand.tmp 17, Operand.tmp 18]) none, AOper.mk (some 20) (AOp.un UnOp.not (Operand.tmp 19)) none]) (AC.cond (Operand.tmp
  20) (AC.seq (AC.ops [AOper.mk (some 6) (AOp.mov (Operand.const (Value.int IntKind.i64 0))) none, AOper.mk (some 7) (AOp.mov (Operand.const (Value.int
  IntKind.i64 15))) none]) AC.ret) AC.skip)) (AC.seq (AC.seq (AC.ops [AOper.mk (some 21) (AOp.fadr 0 (Operand.tmp 4)) none, AOper.mk (some 22) (AOp.load
  false 1 (Operand.tmp 21)) none, AOper.mk (some 23) (AOp.bin false BinOp.eql (Operand.tmp 22) (Operand.const (Value.int IntKind.i64 1))) none]) (AC.cond
  (Operand.tmp 23) (AC.seq (AC.ops [AOper.mk (some 6) (AOp.mov (Operand.const (Value.int IntKind.i64 0))) none, AOper.mk (some 7) (AOp.mov (Operand.const
  (Value.int IntKind.i64 0))) none]) AC.ret) AC.skip)) (AC.seq (AC.ops [AOper.mk (some 24) (AOp.load true 2 (Operand.tmp 5)) none, AOper.mk (some 25)
  (AOp.call 77 [Operand.tmp 24, Operand.const (Value.int IntKind.i64 0)]) none, AOper.mk (some 6) (AOp.mov (Operand.tmp 25)) none, AOper.mk (some 7)
  (AOp.mov (Operand.const (Value.int IntKind.i64 0))) none]) AC.ret))))) [ARes.tmp 6, ARes.tmp 7]
theorem cfn46 : cfn Try.prog 46 3 = some c46 := by kernel_rfl
def c47 : AFn :=
  AFn.mk 11 (AC.seq (AC.ops [AOper.mk (some 1) (AOp.box 24 (Operand.tmp 0)) none, AOper.mk (some 2) (AOp.mov (Operand.const (Value.int IntKind.i64 0)))
  none]) (AC.seq (AC.segs [([AOper.mk (some 3) (AOp.load true 2 (Operand.tmp 1)) none, AOper.mk (some 5) (AOp.fadr 0 (Operand.tmp 1)) none, AOper.mk
  (some 6) (AOp.load false 1 (Operand.tmp 5)) none, AOper.mk (some 8) (AOp.load true 2 (Operand.tmp 1)) none], some (true, AOper.mk (some 4) (AOp.call 78
  [Operand.tmp 3]) none)), ([AOper.mk (some 7) (AOp.bin false BinOp.sub (Operand.tmp 4) (Operand.tmp 6)) none], some (true, AOper.mk (some 9) (AOp.call
  79 [Operand.tmp 8]) none)), ([AOper.mk (some 10) (AOp.bin false BinOp.add (Operand.tmp 7) (Operand.tmp 9)) none, AOper.mk (some 2) (AOp.mov
  (Operand.tmp 10)) none], none)]) AC.ret)) [ARes.tmp 2]
theorem cfn47 : cfn Try.prog 47 1 = some c47 := by kernel_rfl
def c48 : AFn :=
  AFn.mk 95 (AC.seq (AC.ops [AOper.mk (some 3) (AOp.box 24 (Operand.tmp 0)) none, AOper.mk (some 4) (AOp.box 24 (Operand.tmp 1)) none, AOper.mk (some 5)
  (AOp.box 38 (Operand.tmp 2)) none, AOper.mk (some 6) (AOp.mov (Operand.const (Value.int IntKind.i64 0))) none]) (AC.seq (AC.seq (AC.ops [AOper.mk (some
  11) (AOp.load true 2 (Operand.tmp 3)) none, AOper.mk (some 12) (AOp.load true 2 (Operand.tmp 4)) none, AOper.mk (some 13) (AOp.call 80 [Operand.tmp 11,
  Operand.tmp 12]) none, AOper.mk (some 7) (AOp.mov (Operand.tmp 13)) none]) (AC.seq (AC.ops [AOper.mk (some 14) (AOp.mov (Operand.tmp 7)) none, AOper.mk
  (some 15) (AOp.bin false BinOp.neq (Operand.tmp 14) (Operand.const (Value.int IntKind.i64 0))) none]) (AC.cond (Operand.tmp 15) (AC.seq (AC.ops
  [AOper.mk (some 16) (AOp.mov (Operand.tmp 7)) none, AOper.mk (some 6) (AOp.mov (Operand.tmp 16)) none]) AC.ret) AC.skip))) (AC.seq (AC.ops [AOper.mk
  (some 17) (AOp.load true 2 (Operand.tmp 3)) none, AOper.mk (some 18) (AOp.call 81 [Operand.tmp 17]) none, AOper.mk (some 8) (AOp.mov (Operand.tmp 18))
  none]) (AC.seq (AC.seq (AC.ops [AOper.mk (some 19) (AOp.fadr 0 (Operand.tmp 5)) none, AOper.mk (some 20) (AOp.load false 1 (Operand.tmp 19)) none,
  AOper.mk (some 21) (AOp.len (Operand.tmp 20)) none, AOper.mk (some 22) (AOp.fadr 0 (Operand.tmp 3)) none, AOper.mk (some 23) (AOp.load false 1
  (Operand.tmp 22)) none, AOper.mk (some 24) (AOp.bin false BinOp.neq (Operand.tmp 21) (Operand.tmp 23)) none, AOper.mk (some 25) (AOp.mov (Operand.tmp
  24)) none, AOper.mk (some 26) (AOp.fadr 1 (Operand.tmp 5)) (some (25, false)), AOper.mk (some 27) (AOp.load false 1 (Operand.tmp 26)) (some (25,
  false)), AOper.mk (some 28) (AOp.len (Operand.tmp 27)) (some (25, false)), AOper.mk (some 29) (AOp.mov (Operand.tmp 8)) (some (25, false)), AOper.mk
  (some 30) (AOp.len (Operand.tmp 29)) (some (25, false)), AOper.mk (some 31) (AOp.bin false BinOp.neq (Operand.tmp 28) (Operand.tmp 30)) (some (25,
  false)), AOper.mk (some 32) (AOp.pick (Operand.tmp 25) (Operand.const (Value.bool true)) (Operand.tmp 31)) none]) (AC.cond (Operand.tmp 32) (AC.seq
  (AC.ops [AOper.mk (some 6) (AOp.mov (Operand.const (Value.int IntKind.i64 8))) none]) AC.ret) AC.skip)) (AC.seq (AC.seq (AC.ops [AOper.mk (some 9)
  (AOp.mov (Operand.const (Value.int IntKind.i64 0))) none]) (AC.block 0 (AC.loop (AC.seq (AC.seq (AC.ops [AOper.mk (some 33) (AOp.mov (Operand.tmp 9))
  none, AOper.mk (some 34) (AOp.fadr 0 (Operand.tmp 3)) none, AOper.mk (some 35) (AOp.load false 1 (Operand.tmp 34)) none, AOper.mk (some 36) (AOp.bin
  false BinOp.lss (Operand.tmp 33) (Operand.tmp 35)) none]) (AC.cond (Operand.tmp 36) AC.skip (AC.exit 0))) (AC.seq (AC.block 1 (AC.seq (AC.segs
  [([AOper.mk (some 39) (AOp.load true 2 (Operand.tmp 4)) none, AOper.mk (some 40) (AOp.fadr 0 (Operand.tmp 5)) none, AOper.mk (some 41) (AOp.load false
  1 (Operand.tmp 40)) none, AOper.mk (some 42) (AOp.mov (Operand.tmp 9)) none, AOper.mk (some 43) (AOp.iadr 1 (Operand.tmp 41) (Operand.tmp 42)) none,
  AOper.mk (some 44) (AOp.load false 1 (Operand.tmp 43)) none], some (true, AOper.mk (some 45) (AOp.call 82 [Operand.tmp 39, Operand.tmp 44]) none)),
  ([AOper.mk (some 46) (AOp.un UnOp.not (Operand.tmp 45)) none], none)]) (AC.cond (Operand.tmp 46) (AC.seq (AC.ops [AOper.mk (some 6) (AOp.mov
  (Operand.const (Value.int IntKind.i64 2))) none]) AC.ret) AC.skip))) (AC.ops [AOper.mk (some 37) (AOp.mov (Operand.tmp 9)) none, AOper.mk (some 38)
  (AOp.bin false BinOp.add (Operand.tmp 37) (Operand.const (Value.int IntKind.i64 1))) none, AOper.mk (some 9) (AOp.mov (Operand.tmp 38)) none]))))))
  (AC.seq (AC.seq (AC.ops [AOper.mk (some 10) (AOp.mov (Operand.const (Value.int IntKind.i64 0))) none]) (AC.block 2 (AC.loop (AC.seq (AC.seq (AC.ops
  [AOper.mk (some 47) (AOp.mov (Operand.tmp 10)) none, AOper.mk (some 48) (AOp.mov (Operand.tmp 8)) none, AOper.mk (some 49) (AOp.len (Operand.tmp 48))
  none, AOper.mk (some 50) (AOp.bin false BinOp.lss (Operand.tmp 47) (Operand.tmp 49)) none]) (AC.cond (Operand.tmp 50) AC.skip (AC.exit 2))) (AC.seq
  (AC.block 3 (AC.seq (AC.seq (AC.segs [([AOper.mk (some 53) (AOp.fadr 1 (Operand.tmp 5)) none, AOper.mk (some 54) (AOp.load false 1 (Operand.tmp 53))
  none, AOper.mk (some 55) (AOp.mov (Operand.tmp 10)) none, AOper.mk (some 56) (AOp.iadr 1 (Operand.tmp 54) (Operand.tmp 55)) none, AOper.mk (some 57)
  (AOp.load false 1 (Operand.tmp 56)) none, AOper.mk (some 58) (AOp.bin false BinOp.lss (Operand.tmp 57) (Operand.const (Value.int IntKind.i64 (-1))))
  none, AOper.mk (some 59) (AOp.mov (Operand.tmp 58)) none, AOper.mk (some 60) (AOp.fadr 1 (Operand.tmp 5)) (some (59, false)), AOper.mk (some 61)
  (AOp.load false 1 (Operand.tmp 60)) (some (59, false)), AOper.mk (some 62) (AOp.mov (Operand.tmp 10)) (some (59, false)), AOper.mk (some 63) (AOp.iadr
  1 (Operand.tmp 61) (Operand.tmp 62)) (some (59, false)), AOper.mk (some 64) (AOp.load false 1 (Operand.tmp 63)) (some (59, false)), AOper.mk (some 65)
  (AOp.load true 2 (Operand.tmp 4)) (some (59, false))], some (true, AOper.mk (some 66) (AOp.call 78 [Operand.tmp 65]) (some (59, false)))), ([AOper.mk
  (some 67) (AOp.bin false BinOp.geq (Operand.tmp 64) (Operand.tmp 66)) (some (59, false)), AOper.mk (some 68) (AOp.pick (Operand.tmp 59) (Operand.const
  (Value.bool true)) (Operand.tmp 67)) none], none)]) (AC.cond (Operand.tmp 68) (AC.seq (AC.ops [AOper.mk (some 6) (AOp.mov (Operand.const (Value.int
  IntKind.i64 2))) none]) AC.ret) AC.skip)) (AC.seq (AC.segs [([AOper.mk (some 69) (AOp.load true 2 (Operand.tmp 4)) none, AOper.mk (some 70) (AOp.fadr 0
  (Operand.tmp 5)) none, AOper.mk (some 71) (AOp.load false 1 (Operand.tmp 70)) none, AOper.mk (some 72) (AOp.mov (Operand.tmp 8)) none, AOper.mk (some
  73) (AOp.mov (Operand.tmp 10)) none, AOper.mk (some 74) (AOp.iadr 2 (Operand.tmp 72) (Operand.tmp 73)) none, AOper.mk (some 75) (AOp.iadrA 2 1
  (Operand.tmp 74) (Operand.const (Value.int IntKind.i64 0))) none, AOper.mk (some 76) (AOp.load false 1 (Operand.tmp 75)) none, AOper.mk (some 77)
  (AOp.iadr 1 (Operand.tmp 71) (Operand.tmp 76)) none, AOper.mk (some 78) (AOp.load false 1 (Operand.tmp 77)) none, AOper.mk (some 79) (AOp.fadr 0
  (Operand.tmp 5)) none, AOper.mk (some 80) (AOp.load false 1 (Operand.tmp 79)) none, AOper.mk (some 81) (AOp.mov (Operand.tmp 8)) none, AOper.mk (some
  82) (AOp.mov (Operand.tmp 10)) none, AOper.mk (some 83) (AOp.iadr 2 (Operand.tmp 81) (Operand.tmp 82)) none, AOper.mk (some 84) (AOp.iadrA 2 1
  (Operand.tmp 83) (Operand.const (Value.int IntKind.i64 1))) none, AOper.mk (some 85) (AOp.load false 1 (Operand.tmp 84)) none, AOper.mk (some 86)
  (AOp.iadr 1 (Operand.tmp 80) (Operand.tmp 85)) none, AOper.mk (some 87) (AOp.load false 1 (Operand.tmp 86)) none, AOper.mk (some 88) (AOp.fadr 1
  (Operand.tmp 5)) none, AOper.mk (some 89) (AOp.load false 1 (Operand.tmp 88)) none, AOper.mk (some 90) (AOp.mov (Operand.tmp 10)) none, AOper.mk (some
  91) (AOp.iadr 1 (Operand.tmp 89) (Operand.tmp 90)) none, AOper.mk (some 92) (AOp.load false 1 (Operand.tmp 91)) none], some (true, AOper.mk (some 93)
  (AOp.call 83 [Operand.tmp 69, Operand.tmp 78, Operand.tmp 87, Operand.tmp 92]) none)), ([AOper.mk (some 94) (AOp.un UnOp.not (Operand.tmp 93)) none],
  none)]) (AC.cond (Operand.tmp 94) (AC.seq (AC.ops [AOper.mk (some 6) (AOp.mov (Operand.const (Value.int IntKind.i64 15))) none]) AC.ret) AC.skip))))
  (AC.ops [AOper.mk (some 51) (AOp.mov (Operand.tmp 10)) none, AOper.mk (some 52) (AOp.bin false BinOp.add (Operand.tmp 51) (Operand.const (Value.int
  IntKind.i64 1))) none, AOper.mk (some 10) (AOp.mov (Operand.tmp 52)) none])))))) (AC.seq (AC.ops [AOper.mk (some 6) (AOp.mov (Operand.const (Value.int
  IntKind.i64 0))) none]) AC.ret))))))) [ARes.tmp 6]
theorem cfn48 : cfn Try.prog 48 3 = some c48 := by kernel_rfl
def c49 : AFn :=
  AFn.mk 26 (AC.seq (AC.ops [AOper.mk (some 3) (AOp.box 24 (Operand.tmp 0)) none, AOper.mk (some 4) (AOp.box 24 (Operand.tmp 1)) none, AOper.mk (some 5)
  (AOp.box 38 (Operand.tmp 2)) none, AOper.mk (some 6) (AOp.mov (Operand.const (Value.bool false))) none]) (AC.seq (AC.seq (AC.ops [AOper.mk (some 7)
  (AOp.mov (Operand.const (Value.int IntKind.i64 0))) none]) (AC.block 0 (AC.loop (AC.seq (AC.seq (AC.ops [AOper.mk (some 10) (AOp.mov (Operand.tmp 7))
  none, AOper.mk (some 11) (AOp.fadr 0 (Operand.tmp 3)) none, AOper.mk (some 12) (AOp.load false 1 (Operand.tmp 11)) none, AOper.mk (some 13) (AOp.bin
  false BinOp.lss (Operand.tmp 10) (Operand.tmp 12)) none]) (AC.cond (Operand.tmp 13) AC.skip (AC.exit 0))) (AC.seq (AC.block 1 (AC.seq (AC.ops [AOper.mk
  (some 17) (AOp.load true 2 (Operand.tmp 3)) none, AOper.mk (some 18) (AOp.load true 2 (Operand.tmp 4)) none, AOper.mk (some 19) (AOp.load true 2
  (Operand.tmp 5)) none, AOper.mk (some 20) (AOp.mov (Operand.tmp 7)) none, AOper.mk (some 21) (AOp.call 84 [Operand.tmp 17, Operand.tmp 18, Operand.tmp
  19, Operand.tmp 20]) none, AOper.mk (some 16) (AOp.mov (Operand.tmp 21)) none, AOper.mk (some 22) (AOp.ext (Operand.tmp 16) 0) none, AOper.mk (some 23)
  (AOp.ext (Operand.tmp 16) 1) none, AOper.mk (some 8) (AOp.mov (Operand.tmp 22)) none, AOper.mk (some 9) (AOp.mov (Operand.tmp 23)) none]) (AC.seq
  (AC.ops [AOper.mk (some 24) (AOp.mov (Operand.tmp 9)) none, AOper.mk (some 25) (AOp.un UnOp.not (Operand.tmp 24)) none]) (AC.cond (Operand.tmp 25)
  (AC.seq (AC.ops [AOper.mk (some 6) (AOp.mov (Operand.const (Value.bool false))) none]) AC.ret) AC.skip)))) (AC.ops [AOper.mk (some 14) (AOp.mov
  (Operand.tmp 7)) none, AOper.mk (some 15) (AOp.bin false BinOp.add (Operand.tmp 14) (Operand.const (Value.int IntKind.i64 1))) none, AOper.mk (some 7)
  (AOp.mov (Operand.tmp 15)) none])))))) (AC.seq (AC.ops [AOper.mk (some 6) (AOp.mov (Operand.const (Value.bool true))) none]) AC.ret))) [ARes.tmp 6]
theorem cfn49 : cfn Try.prog 49 3 = some c49 := by kernel_rfl
def c50 : AFn :=
  AFn.mk 40 (AC.seq (AC.ops [AOper.mk (some 3) (AOp.box 24 (Operand.tmp 0)) none, AOper.mk (some 4) (AOp.box 24 (Operand.tmp 1)) none, AOper.mk (some 5)
  (AOp.box 29 (Operand.tmp 2)) none, AOper.mk (some 6) (AOp.zro 89 (PV.agg [PV.v (Value.int IntKind.i64 0), PV.v (Value.slice none 0 0), PV.v (Value.int
  IntKind.i64 0), PV.v (Value.slice none 0 0), PV.v (Value.slice none 0 0), PV.v (Value.slice none 0 0), PV.v (Value.slice none 0 0), PV.v (Value.slice
  none 0 0)])) none, AOper.mk (some 7) (AOp.mov (Operand.const (Value.int IntKind.i64 0))) none]) (AC.seq (AC.ops [AOper.mk (some 13) (AOp.load true 2
  (Operand.tmp 3)) none, AOper.mk (some 14) (AOp.load true 2 (Operand.tmp 4)) none, AOper.mk (some 15) (AOp.bsl 24 2 [Operand.tmp 13, Operand.tmp 14])
  none, AOper.mk (some 16) (AOp.call 59 [Operand.tmp 15]) none, AOper.mk (some 12) (AOp.mov (Operand.tmp 16)) none, AOper.mk (some 17) (AOp.ext
  (Operand.tmp 12) 0) none, AOper.mk (some 18) (AOp.ext (Operand.tmp 12) 1) none, AOper.mk (some 8) (AOp.mov (Operand.tmp 17)) none, AOper.mk (some 9)
  (AOp.mov (Operand.tmp 18)) none]) (AC.seq (AC.seq (AC.ops [AOper.mk (some 19) (AOp.mov (Operand.tmp 9)) none, AOper.mk (some 20) (AOp.bin false
  BinOp.neq (Operand.tmp 19) (Operand.const (Value.int IntKind.i64 0))) none]) (AC.cond (Operand.tmp 20) (AC.seq (AC.ops [AOper.mk (some 21) (AOp.bld
  [PV.v (Value.int IntKind.i64 0), PV.v (Value.slice none 0 0), PV.v (Value.int IntKind.i64 0), PV.v (Value.slice none 0 0), PV.v (Value.slice none 0 0),
  PV.v (Value.slice none 0 0), PV.v (Value.slice none 0 0), PV.v (Value.slice none 0 0)] [(0, 2), (2, 2), (4, 1), (5, 1), (6, 2)] []) none, AOper.mk
  (some 22) (AOp.mov (Operand.tmp 9)) none, AOper.mk none (AOp.store 8 (Operand.tmp 6) (Operand.tmp 21)) none, AOper.mk (some 7) (AOp.mov (Operand.tmp
  22)) none]) AC.ret) AC.skip)) (AC.seq (AC.segs [([AOper.mk (some 23) (AOp.load true 2 (Operand.tmp 3)) none, AOper.mk (some 24) (AOp.load true 2
  (Operand.tmp 4)) none, AOper.mk (some 25) (AOp.mov (Operand.tmp 8)) none, AOper.mk (some 26) (AOp.iadr 1 (Operand.tmp 25) (Operand.const (Value.int
  IntKind.i64 0))) none, AOper.mk (some 27) (AOp.load false 1 (Operand.tmp 26)) none, AOper.mk (some 28) (AOp.mov (Operand.tmp 8)) none, AOper.mk (some
  29) (AOp.iadr 1 (Operand.tmp 28) (Operand.const (Value.int IntKind.i64 1))) none, AOper.mk (some 30) (AOp.load false 1 (Operand.tmp 29)) none, AOper.mk
  (some 31) (AOp.load true 2 (Operand.tmp 5)) none, AOper.mk (some 32) (AOp.bld [PV.v (Value.int IntKind.i64 0), PV.v (Value.slice none 0 0), PV.v
  (Value.int IntKind.i64 0), PV.v (Value.slice none 0 0), PV.v (Value.slice none 0 0), PV.v (Value.slice none 0 0), PV.v (Value.slice none 0 0), PV.v
  (Value.slice none 0 0)] [(0, 2), (2, 2), (4, 1), (5, 1), (6, 2)] [(0, Operand.tmp 23), (1, Operand.tmp 24), (2, Operand.tmp 27), (3, Operand.tmp 30),
  (4, Operand.tmp 31)]) none], some (true, AOper.mk (some 10) (AOp.zro 89 (PV.agg [PV.v (Value.int IntKind.i64 0), PV.v (Value.slice none 0 0), PV.v
  (Value.int IntKind.i64 0), PV.v (Value.slice none 0 0), PV.v (Value.slice none 0 0), PV.v (Value.slice none 0 0), PV.v (Value.slice none 0 0), PV.v
  (Value.slice none 0 0)])) none)), ([], some (false, AOper.mk none (AOp.store 8 (Operand.tmp 10) (Operand.tmp 32)) none))]) (AC.seq (AC.seq (AC.ops
  [AOper.mk (some 33) (AOp.load true 8 (Operand.tmp 10)) none, AOper.mk (some 34) (AOp.call 85 [Operand.tmp 33]) none, AOper.mk (some 11) (AOp.mov
  (Operand.tmp 34)) none]) (AC.seq (AC.ops [AOper.mk (some 35) (AOp.mov (Operand.tmp 11)) none, AOper.mk (some 36) (AOp.bin false BinOp.neq (Operand.tmp
  35) (Operand.const (Value.int IntKind.i64 0))) none]) (AC.cond (Operand.tmp 36) (AC.seq (AC.ops [AOper.mk (some 37) (AOp.bld [PV.v (Value.int
  IntKind.i64 0), PV.v (Value.slice none 0 0), PV.v (Value.int IntKind.i64 0), PV.v (Value.slice none 0 0), PV.v (Value.slice none 0 0), PV.v
  (Value.slice none 0 0), PV.v (Value.slice none 0 0), PV.v (Value.slice none 0 0)] [(0, 2), (2, 2), (4, 1), (5, 1), (6, 2)] []) none, AOper.mk (some 38)
  (AOp.mov (Operand.tmp 11)) none, AOper.mk none (AOp.store 8 (Operand.tmp 6) (Operand.tmp 37)) none, AOper.mk (some 7) (AOp.mov (Operand.tmp 38)) none])
  AC.ret) AC.skip))) (AC.seq (AC.ops [AOper.mk (some 39) (AOp.load true 8 (Operand.tmp 10)) none, AOper.mk none (AOp.store 8 (Operand.tmp 6) (Operand.tmp
  39)) none, AOper.mk (some 7) (AOp.mov (Operand.const (Value.int IntKind.i64 0))) none]) AC.ret)))))) [ARes.cell 6 true 8, ARes.tmp 7]
theorem cfn50 : cfn Try.prog 50 3 = some c50 := by kernel_rfl
def c51 : AFn :=
  AFn.mk 56 (AC.seq (AC.ops [AOper.mk (some 1) (AOp.box 89 (Operand.tmp 0)) none, AOper.mk (some 2) (AOp.mov (Operand.const (Value.slice none 0 0)))
  none, AOper.mk (some 3) (AOp.mov (Operand.const (Value.bool false))) none]) (AC.seq (AC.ops [AOper.mk (some 11) (AOp.load true 8 (Operand.tmp 1)) none,
  AOper.mk (some 12) (AOp.call 71 [Operand.tmp 11]) none, AOper.mk (some 4) (AOp.mov (Operand.tmp 12)) none]) (AC.seq (AC.ops [AOper.mk (some 13)
  (AOp.fadr 0 (Operand.tmp 1)) none, AOper.mk (some 14) (AOp.fadr 0 (Operand.tmp 13)) none, AOper.mk (some 15) (AOp.load false 1 (Operand.tmp 14)) none,
  AOper.mk (some 16) (AOp.mk 3 1 (PV.v (Value.int IntKind.i64 0)) (Operand.tmp 15) (Operand.tmp 15)) none, AOper.mk (some 5) (AOp.mov (Operand.tmp 16))
  none]) (AC.seq (AC.ops [AOper.mk (some 6) (AOp.mov (Operand.const (Value.bool true))) none]) (AC.seq AC.skip (AC.seq (AC.seq (AC.ops [AOper.mk (some
  17) (AOp.mov (Operand.tmp 5)) none, AOper.mk (some 18) (AOp.len (Operand.tmp 17)) none, AOper.mk (some 19) (AOp.mov (Operand.const (Value.int
  IntKind.i64 0))) none]) (AC.block 0 (AC.loop (AC.seq (AC.ops [AOper.mk (some 20) (AOp.bin false BinOp.lss (Operand.tmp 19) (Operand.tmp 18)) none])
  (AC.seq (AC.cond (Operand.tmp 20) AC.skip (AC.exit 0)) (AC.seq (AC.block 1 (AC.seq (AC.ops [AOper.mk (some 21) (AOp.mov (Operand.tmp 19)) none,
  AOper.mk (some 7) (AOp.mov (Operand.tmp 21)) none]) (AC.seq (AC.ops [AOper.mk (some 8) (AOp.mov (Operand.const (Value.bool true))) none]) (AC.seq
  (AC.ops [AOper.mk (some 22) (AOp.fadr 5 (Operand.tmp 1)) none, AOper.mk (some 23) (AOp.load false 1 (Operand.tmp 22)) none, AOper.mk (some 24) (AOp.len
  (Operand.tmp 23)) none, AOper.mk (some 25) (AOp.mov (Operand.const (Value.int IntKind.i64 0))) none]) (AC.block 2 (AC.loop (AC.seq (AC.ops [AOper.mk
  (some 26) (AOp.bin false BinOp.lss (Operand.tmp 25) (Operand.tmp 24)) none]) (AC.seq (AC.cond (Operand.tmp 26) AC.skip (AC.exit 2)) (AC.seq (AC.block 3
  (AC.seq (AC.ops [AOper.mk (some 27) (AOp.mov (Operand.tmp 25)) none, AOper.mk (some 9) (AOp.mov (Operand.tmp 27)) none]) (AC.seq (AC.seq (AC.ops
  [AOper.mk (some 28) (AOp.load true 8 (Operand.tmp 1)) none, AOper.mk (some 29) (AOp.mov (Operand.tmp 7)) none, AOper.mk (some 30) (AOp.mov (Operand.tmp
  9)) none, AOper.mk (some 31) (AOp.call 86 [Operand.tmp 28, Operand.tmp 29, Operand.tmp 30]) none, AOper.mk (some 32) (AOp.un UnOp.not (Operand.tmp 31))
  none]) (AC.cond (Operand.tmp 32) (AC.exit 3) AC.skip)) (AC.seq (AC.ops [AOper.mk (some 33) (AOp.mov (Operand.tmp 4)) none, AOper.mk (some 34) (AOp.mov
  (Operand.tmp 7)) none, AOper.mk (some 35) (AOp.mov (Operand.tmp 9)) none, AOper.mk (some 36) (AOp.bld [PV.v (Value.int IntKind.i64 0), PV.v (Value.int
  IntKind.i64 0)] [(0, 1), (1, 1)] [(0, Operand.tmp 34), (1, Operand.tmp 35)]) none, AOper.mk (some 37) (AOp.look (KD.arr 2) (PV.v (Value.int IntKind.i64
  0)) false (Operand.tmp 33) (Operand.tmp 36)) none, AOper.mk (some 10) (AOp.mov (Operand.tmp 37)) none]) (AC.seq (AC.seq (AC.ops [AOper.mk (some 38)
  (AOp.mov (Operand.tmp 8)) none, AOper.mk (some 39) (AOp.un UnOp.not (Operand.tmp 38)) none, AOper.mk (some 40) (AOp.mov (Operand.tmp 39)) none,
  AOper.mk (some 41) (AOp.mov (Operand.tmp 10)) (some (40, true)), AOper.mk (some 42) (AOp.mov (Operand.tmp 5)) (some (40, true)), AOper.mk (some 43)
  (AOp.mov (Operand.tmp 7)) (some (40, true)), AOper.mk (some 44) (AOp.iadr 1 (Operand.tmp 42) (Operand.tmp 43)) (some (40, true)), AOper.mk (some 45)
  (AOp.load false 1 (Operand.tmp 44)) (some (40, true)), AOper.mk (some 46) (AOp.bin false BinOp.neq (Operand.tmp 41) (Operand.tmp 45)) (some (40,
  true)), AOper.mk (some 47) (AOp.pick (Operand.tmp 40) (Operand.tmp 46) (Operand.const (Value.bool false))) none]) (AC.cond (Operand.tmp 47) (AC.seq
  (AC.ops [AOper.mk (some 6) (AOp.mov (Operand.const (Value.bool false))) none]) (AC.exit 0)) AC.skip)) (AC.ops [AOper.mk (some 48) (AOp.mov (Operand.tmp
  5)) none, AOper.mk (some 49) (AOp.mov (Operand.tmp 7)) none, AOper.mk (some 50) (AOp.mov (Operand.tmp 10)) none, AOper.mk (some 51) (AOp.iadr 1
  (Operand.tmp 48) (Operand.tmp 49)) none, AOper.mk none (AOp.store 1 (Operand.tmp 51) (Operand.tmp 50)) none, AOper.mk (some 8) (AOp.mov (Operand.const
  (Value.bool false))) none])))))) (AC.ops [AOper.mk (some 52) (AOp.bin false BinOp.add (Operand.tmp 25) (Operand.const (Value.int IntKind.i64 1))) none,
  AOper.mk (some 25) (AOp.mov (Operand.tmp 52)) none])))))))))) (AC.ops [AOper.mk (some 53) (AOp.bin false BinOp.add (Operand.tmp 19) (Operand.const
  (Value.int IntKind.i64 1))) none, AOper.mk (some 19) (AOp.mov (Operand.tmp 53)) none]))))))) (AC.seq (AC.ops [AOper.mk (some 54) (AOp.mov (Operand.tmp
  5)) none, AOper.mk (some 55) (AOp.mov (Operand.tmp 6)) none, AOper.mk (some 2) (AOp.mov (Operand.tmp 54)) none, AOper.mk (some 3) (AOp.mov (Operand.tmp
  55)) none]) AC.ret))))))) [ARes.tmp 2, ARes.tmp 3]
theorem cfn51 : cfn Try.prog 51 1 = some c51 := by kernel_rfl
def c52 : AFn :=
  AFn.mk 9 (AC.seq (AC.ops [AOper.mk (some 4) (AOp.mov (Operand.const (Value.bool false))) none]) (AC.seq (AC.ops [AOper.mk (some 5) (AOp.mov
  (Operand.tmp 0)) none, AOper.mk (some 6) (AOp.mov (Operand.tmp 1)) none, AOper.mk (some 7) (AOp.call 87 [Operand.tmp 5, Operand.tmp 6]) none, AOper.mk
  (some 8) (AOp.bin false BinOp.geq (Operand.tmp 7) (Operand.const (Value.int IntKind.i64 0))) none, AOper.mk (some 4) (AOp.mov (Operand.tmp 8)) none])
  AC.ret)) [ARes.tmp 4]
theorem cfn52 : cfn Try.prog 52 2 = some c52 := by kernel_rfl
def c53 : AFn :=
  AFn.mk 9 (AC.seq (AC.ops [AOper.mk (some 2) (AOp.mov (Operand.const (Value.bool false))) none]) (AC.seq (AC.ops [AOper.mk (some 3) (AOp.mov
  (Operand.tmp 0)) none, AOper.mk (some 4) (AOp.bin false BinOp.lss (Operand.tmp 3) (Operand.const (Value.int IntKind.i64 (-1000)))) none, AOper.mk (some
  5) (AOp.mov (Operand.tmp 4)) none, AOper.mk (some 6) (AOp.mov (Operand.tmp 0)) (some (5, false)), AOper.mk (some 7) (AOp.bin false BinOp.gtr
  (Operand.tmp 6) (Operand.const (Value.int IntKind.i64 1000))) (some (5, false)), AOper.mk (some 8) (AOp.pick (Operand.tmp 5) (Operand.const (Value.bool
  true)) (Operand.tmp 7)) none, AOper.mk (some 2) (AOp.mov (Operand.tmp 8)) none]) AC.ret)) [ARes.tmp 2]
theorem cfn53 : cfn Try.prog 53 1 = some c53 := by kernel_rfl
def c54 : AFn :=
  AFn.mk 37 (AC.seq (AC.ops [AOper.mk (some 3) (AOp.box 24 (Operand.tmp 0)) none, AOper.mk (some 6) (AOp.mov (Operand.const (Value.int IntKind.i64 0)))
  none]) (AC.seq (AC.seq (AC.ops [AOper.mk (some 7) (AOp.mov (Operand.const (Value.int IntKind.i64 0))) none]) (AC.block 0 (AC.loop (AC.seq (AC.seq
  (AC.ops [AOper.mk (some 9) (AOp.mov (Operand.tmp 7)) none, AOper.mk (some 10) (AOp.fadr 1 (Operand.tmp 3)) none, AOper.mk (some 11) (AOp.load false 1
  (Operand.tmp 10)) none, AOper.mk (some 12) (AOp.len (Operand.tmp 11)) none, AOper.mk (some 13) (AOp.bin false BinOp.lss (Operand.tmp 9) (Operand.tmp
  12)) none]) (AC.cond (Operand.tmp 13) AC.skip (AC.exit 0))) (AC.seq (AC.block 1 (AC.seq (AC.ops [AOper.mk (some 16) (AOp.fadr 1 (Operand.tmp 3)) none,
  AOper.mk (some 17) (AOp.load false 1 (Operand.tmp 16)) none, AOper.mk (some 18) (AOp.mov (Operand.tmp 7)) none, AOper.mk (some 19) (AOp.iadr 3
  (Operand.tmp 17) (Operand.tmp 18)) none, AOper.mk (some 20) (AOp.load true 3 (Operand.tmp 19)) none, AOper.mk (some 8) (AOp.zro 70 (PV.agg [PV.v
  (Value.int IntKind.i64 0), PV.v (Value.int IntKind.i64 0), PV.v (Value.int IntKind.i64 0)])) none, AOper.mk none (AOp.store 3 (Operand.tmp 8)
  (Operand.tmp 20)) none]) (AC.seq (AC.ops [AOper.mk (some 21) (AOp.fadr 0 (Operand.tmp 8)) none, AOper.mk (some 22) (AOp.load false 1 (Operand.tmp 21))
  none, AOper.mk (some 23) (AOp.mov (Operand.tmp 1)) none, AOper.mk (some 24) (AOp.mov (Operand.tmp 2)) none, AOper.mk (some 25) (AOp.mm false
  (Operand.tmp 23) (Operand.tmp 24)) none, AOper.mk (some 26) (AOp.bin false BinOp.eql (Operand.tmp 22) (Operand.tmp 25)) none, AOper.mk (some 27)
  (AOp.mov (Operand.tmp 26)) none, AOper.mk (some 28) (AOp.fadr 1 (Operand.tmp 8)) (some (27, true)), AOper.mk (some 29) (AOp.load false 1 (Operand.tmp
  28)) (some (27, true)), AOper.mk (some 30) (AOp.mov (Operand.tmp 1)) (some (27, true)), AOper.mk (some 31) (AOp.mov (Operand.tmp 2)) (some (27, true)),
  AOper.mk (some 32) (AOp.mm true (Operand.tmp 30) (Operand.tmp 31)) (some (27, true)), AOper.mk (some 33) (AOp.bin false BinOp.eql (Operand.tmp 29)
  (Operand.tmp 32)) (some (27, true)), AOper.mk (some 34) (AOp.pick (Operand.tmp 27) (Operand.tmp 33) (Operand.const (Value.bool false))) none]) (AC.cond
  (Operand.tmp 34) (AC.seq (AC.ops [AOper.mk (some 35) (AOp.fadr 2 (Operand.tmp 8)) none, AOper.mk (some 36) (AOp.load false 1 (Operand.tmp 35)) none,
  AOper.mk (some 6) (AOp.mov (Operand.tmp 36)) none]) AC.ret) AC.skip)))) (AC.ops [AOper.mk (some 14) (AOp.mov (Operand.tmp 7)) none, AOper.mk (some 15)
  (AOp.bin false BinOp.add (Operand.tmp 14) (Operand.const (Value.int IntKind.i64 1))) none, AOper.mk (some 7) (AOp.mov (Operand.tmp 15)) none]))))))
  (AC.seq (AC.ops [AOper.mk (some 6) (AOp.mov (Operand.const (Value.int IntKind.i64 0))) none]) AC.ret))) [ARes.tmp 6]
theorem cfn54 : cfn Try.prog 54 3 = some c54 := by kernel_rfl
def c55 : AFn :=
  AFn.mk 8 (AC.seq (AC.ops [AOper.mk (some 2) (AOp.box 24 (Operand.tmp 0)) none, AOper.mk (some 4) (AOp.mov (Operand.const (Value.int IntKind.i64 0)))
  none]) (AC.seq (AC.ops [AOper.mk (some 5) (AOp.load true 2 (Operand.tmp 2)) none, AOper.mk (some 6) (AOp.mov (Operand.tmp 1)) none, AOper.mk (some 7)
  (AOp.call 88 [Operand.tmp 5, Operand.tmp 6]) none, AOper.mk (some 4) (AOp.mov (Operand.tmp 7)) none]) AC.ret)) [ARes.tmp 4]
theorem cfn55 : cfn Try.prog 55 2 = some c55 := by kernel_rfl
def c56 : AFn :=
  AFn.mk 43 (AC.seq (AC.ops [AOper.mk (some 4) (AOp.box 24 (Operand.tmp 0)) none, AOper.mk (some 5) (AOp.box 29 (Operand.tmp 1)) none, AOper.mk (some 8)
  (AOp.mov (Operand.const (Value.slice none 0 0))) none, AOper.mk (some 9) (AOp.mov (Operand.const (Value.int IntKind.i64 0))) none]) (AC.seq (AC.ops
  [AOper.mk (some 13) (AOp.fadr 0 (Operand.tmp 4)) none, AOper.mk (some 14) (AOp.load false 1 (Operand.tmp 13)) none, AOper.mk (some 15) (AOp.mk 3 1
  (PV.v (Value.int IntKind.i64 0)) (Operand.tmp 14) (Operand.tmp 14)) none, AOper.mk (some 10) (AOp.mov (Operand.tmp 15)) none]) (AC.seq (AC.seq (AC.ops
  [AOper.mk (some 16) (AOp.mov (Operand.tmp 2)) none, AOper.mk (some 17) (AOp.len (Operand.tmp 16)) none, AOper.mk (some 18) (AOp.mov (Operand.const
  (Value.int IntKind.i64 0))) none]) (AC.block 0 (AC.loop (AC.seq (AC.ops [AOper.mk (some 19) (AOp.bin false BinOp.lss (Operand.tmp 18) (Operand.tmp 17))
  none]) (AC.seq (AC.cond (Operand.tmp 19) AC.skip (AC.exit 0)) (AC.seq (AC.block 1 (AC.seq (AC.ops [AOper.mk (some 20) (AOp.mov (Operand.tmp 18)) none,
  AOper.mk (some 21) (AOp.iadr 1 (Operand.tmp 16) (Operand.tmp 18)) none, AOper.mk (some 22) (AOp.load false 1 (Operand.tmp 21)) none, AOper.mk (some 11)
  (AOp.mov (Operand.tmp 20)) none, AOper.mk (some 12) (AOp.mov (Operand.tmp 22)) none]) (AC.tree (AT.look [AOper.mk (some 23) (AOp.mov (Operand.tmp 10))
  none, AOper.mk (some 26) (AOp.mov (Operand.tmp 11)) none, AOper.mk (some 31) (AOp.mov (Operand.tmp 12)) none, AOper.mk (some 32) (AOp.mov (Operand.tmp
  3)) none, AOper.mk (some 33) (AOp.mov (Operand.tmp 11)) none] (AT.fork true (AOper.mk (some 24) (AOp.fadr 0 (Operand.tmp 5)) none) (AT.fork true
  (AOper.mk (some 25) (AOp.load false 1 (Operand.tmp 24)) none) (AT.fork true (AOper.mk (some 27) (AOp.iadr 1 (Operand.tmp 25) (Operand.tmp 26)) none)
  (AT.fork true (AOper.mk (some 28) (AOp.load false 1 (Operand.tmp 27)) none) (AT.fork true (AOper.mk (some 29) (AOp.iadr 1 (Operand.tmp 23) (Operand.tmp
  28)) none) (AT.fork true (AOper.mk (some 30) (AOp.load false 1 (Operand.tmp 29)) none) (AT.act false (AOper.mk (some 34) (AOp.callv (Operand.tmp 32)
  [Operand.tmp 33]) none) (AT.look [AOper.mk (some 35) (AOp.bin false BinOp.mul (Operand.tmp 31) (Operand.tmp 34)) none, AOper.mk (some 36) (AOp.bin
  false BinOp.add (Operand.tmp 30) (Operand.tmp 35)) none, AOper.mk (some 37) (AOp.iadr 1 (Operand.tmp 23) (Operand.tmp 28)) none] (AT.act false
  (AOper.mk none (AOp.store 1 (Operand.tmp 37) (Operand.tmp 36)) none) AT.done))) (AT.act false (AOper.mk (some 34) (AOp.callv (Operand.tmp 32)
  [Operand.tmp 33]) none) (AT.look [AOper.mk (some 30) (AOp.load false 1 (Operand.tmp 29)) none, AOper.mk (some 35) (AOp.bin false BinOp.mul (Operand.tmp
  31) (Operand.tmp 34)) none, AOper.mk (some 36) (AOp.bin false BinOp.add (Operand.tmp 30) (Operand.tmp 35)) none, AOper.mk (some 37) (AOp.iadr 1
  (Operand.tmp 23) (Operand.tmp 28)) none] (AT.act false (AOper.mk none (AOp.store 1 (Operand.tmp 37) (Operand.tmp 36)) none) AT.done)))) (AT.act false
  (AOper.mk (some 34) (AOp.callv (Operand.tmp 32) [Operand.tmp 33]) none) (AT.look [AOper.mk (some 29) (AOp.iadr 1 (Operand.tmp 23) (Operand.tmp 28))
  none, AOper.mk (some 30) (AOp.load false 1 (Operand.tmp 29)) none, AOper.mk (some 35) (AOp.bin false BinOp.mul (Operand.tmp 31) (Operand.tmp 34)) none,
  AOper.mk (some 36) (AOp.bin false BinOp.add (Operand.tmp 30) (Operand.tmp 35)) none, AOper.mk (some 37) (AOp.iadr 1 (Operand.tmp 23) (Operand.tmp 28))
  none] (AT.act false (AOper.mk none (AOp.store 1 (Operand.tmp 37) (Operand.tmp 36)) none) AT.done)))) (AT.act false (AOper.mk (some 34) (AOp.callv
  (Operand.tmp 32) [Operand.tmp 33]) none) (AT.look [AOper.mk (some 28) (AOp.load false 1 (Operand.tmp 27)) none, AOper.mk (some 29) (AOp.iadr 1
  (Operand.tmp 23) (Operand.tmp 28)) none, AOper.mk (some 30) (AOp.load false 1 (Operand.tmp 29)) none, AOper.mk (some 35) (AOp.bin false BinOp.mul
  (Operand.tmp 31) (Operand.tmp 34)) none, AOper.mk (some 36) (AOp.bin false BinOp.add (Operand.tmp 30) (Operand.tmp 35)) none, AOper.mk (some 37)
  (AOp.iadr 1 (Operand.tmp 23) (Operand.tmp 28)) none] (AT.act false (AOper.mk none (AOp.store 1 (Operand.tmp 37) (Operand.tmp 36)) none) AT.done))))
  (AT.act false (AOper.mk (some 34) (AOp.callv (Operand.tmp 32) [Operand.tmp 33]) none) (AT.look [AOper.mk (some 27) (AOp.iadr 1 (Operand.tmp 25)
  (Operand.tmp 26)) none, AOper.mk (some 28) (AOp.load false 1 (Operand.tmp 27)) none, AOper.mk (some 29) (AOp.iadr 1 (Operand.tmp 23) (Operand.tmp 28))
  none, AOper.mk (some 30) (AOp.load false 1 (Operand.tmp 29)) none, AOper.mk (some 35) (AOp.bin false BinOp.mul (Operand.tmp 31) (Operand.tmp 34)) none,
  AOper.mk (some 36) (AOp.bin false BinOp.add (Operand.tmp 30) (Operand.tmp 35)) none, AOper.mk (some 37) (AOp.iadr 1 (Operand.tmp 23) (Operand.tmp 28))
  none] (AT.act false (AOper.mk none (AOp.store 1 (Operand.tmp 37) (Operand.tmp 36)) none) AT.done)))) (AT.act false (AOper.mk (some 34) (AOp.callv
  (Operand.tmp 32) [Operand.tmp 33]) none) (AT.look [AOper.mk (some 25) (AOp.load false 1 (Operand.tmp 24)) none, AOper.mk (some 27) (AOp.iadr 1
  (Operand.tmp 25) (Operand.tmp 26)) none, AOper.mk (some 28) (AOp.load false 1 (Operand.tmp 27)) none, AOper.mk (some 29) (AOp.iadr 1 (Operand.tmp 23)
  (Operand.tmp 28)) none, AOper.mk (some 30) (AOp.load false 1 (Operand.tmp 29)) none, AOper.mk (some 35) (AOp.bin false BinOp.mul (Operand.tmp 31)
  (Operand.tmp 34)) none, AOper.mk (some 36) (AOp.bin false BinOp.add (Operand.tmp 30) (Operand.tmp 35)) none, AOper.mk (some 37) (AOp.iadr 1
  (Operand.tmp 23) (Operand.tmp 28)) none] (AT.act false (AOper.mk none (AOp.store 1 (Operand.tmp 37) (Operand.tmp 36)) none) AT.done)))) (AT.act false
  (AOper.mk (some 34) (AOp.callv (Operand.tmp 32) [Operand.tmp 33]) none) (AT.look [AOper.mk (some 24) (AOp.fadr 0 (Operand.tmp 5)) none, AOper.mk (some
  25) (AOp.load false 1 (Operand.tmp 24)) none, AOper.mk (some 27) (AOp.iadr 1 (Operand.tmp 25) (Operand.tmp 26)) none, AOper.mk (some 28) (AOp.load
  false 1 (Operand.tmp 27)) none, AOper.mk (some 29) (AOp.iadr 1 (Operand.tmp 23) (Operand.tmp 28)) none, AOper.mk (some 30) (AOp.load false 1
  (Operand.tmp 29)) none, AOper.mk (some 35) (AOp.bin false BinOp.mul (Operand.tmp 31) (Operand.tmp 34)) none, AOper.mk (some 36) (AOp.bin false
  BinOp.add (Operand.tmp 30) (Operand.tmp 35)) none, AOper.mk (some 37) (AOp.iadr 1 (Operand.tmp 23) (Operand.tmp 28)) none] (AT.act false (AOper.mk none
  (AOp.store 1 (Operand.tmp 37) (Operand.tmp 36)) none) AT.done)))))))) (AC.ops [AOper.mk (some 38) (AOp.bin false BinOp.add (Operand.tmp 18)
  (Operand.const (Value.int IntKind.i64 1))) none, AOper.mk (some 18) (AOp.mov (Operand.tmp 38)) none]))))))) (AC.seq (AC.ops [AOper.mk (some 39)
  (AOp.mov (Operand.tmp 10)) none, AOper.mk (some 40) (AOp.call 89 [Operand.tmp 39]) none, AOper.mk (some 41) (AOp.ext (Operand.tmp 40) 0) none, AOper.mk
  (some 42) (AOp.ext (Operand.tmp 40) 1) none, AOper.mk (some 8) (AOp.mov (Operand.tmp 41)) none, AOper.mk (some 9) (AOp.mov (Operand.tmp 42)) none])
  AC.ret)))) [ARes.tmp 8, ARes.tmp 9]
theorem cfn56 : cfn Try.prog 56 4 = some c56 := by kernel_rfl
def c57 : AFn :=
  AFn.mk 8 (AC.seq (AC.ops [AOper.mk (some 3) (AOp.mov (Operand.const (Value.int IntKind.i64 0))) none]) (AC.seq (AC.ops [AOper.mk (some 4) (AOp.load
  false 1 (Operand.tmp 1)) none, AOper.mk (some 5) (AOp.mov (Operand.tmp 0)) none, AOper.mk (some 6) (AOp.iadr 1 (Operand.tmp 4) (Operand.tmp 5)) none,
  AOper.mk (some 7) (AOp.load false 1 (Operand.tmp 6)) none, AOper.mk (some 3) (AOp.mov (Operand.tmp 7)) none]) AC.ret)) [ARes.tmp 3]
theorem cfn57 : cfn Try.prog 57 2 = some c57 := by kernel_rfl
def c58 : AFn :=
  AFn.mk 39 (AC.seq (AC.ops [AOper.mk (some 3) (AOp.box 29 (Operand.tmp 0)) none, AOper.mk (some 6) (AOp.mov (Operand.const (Value.slice none 0 0)))
  none, AOper.mk (some 7) (AOp.mov (Operand.const (Value.int IntKind.i64 0))) none]) (AC.seq (AC.ops [AOper.mk (some 11) (AOp.fadr 0 (Operand.tmp 3))
  none, AOper.mk (some 12) (AOp.load false 1 (Operand.tmp 11)) none, AOper.mk (some 13) (AOp.len (Operand.tmp 12)) none, AOper.mk (some 14) (AOp.mk 3 1
  (PV.v (Value.int IntKind.i64 0)) (Operand.tmp 13) (Operand.tmp 13)) none, AOper.mk (some 8) (AOp.mov (Operand.tmp 14)) none]) (AC.seq (AC.seq (AC.ops
  [AOper.mk (some 15) (AOp.fadr 0 (Operand.tmp 3)) none, AOper.mk (some 16) (AOp.load false 1 (Operand.tmp 15)) none, AOper.mk (some 17) (AOp.len
  (Operand.tmp 16)) none, AOper.mk (some 18) (AOp.mov (Operand.const (Value.int IntKind.i64 0))) none]) (AC.block 0 (AC.loop (AC.seq (AC.ops [AOper.mk
  (some 19) (AOp.bin false BinOp.lss (Operand.tmp 18) (Operand.tmp 17)) none]) (AC.seq (AC.cond (Operand.tmp 19) AC.skip (AC.exit 0)) (AC.seq (AC.block 1
  (AC.seq (AC.ops [AOper.mk (some 20) (AOp.mov (Operand.tmp 18)) none, AOper.mk (some 21) (AOp.iadr 1 (Operand.tmp 16) (Operand.tmp 18)) none, AOper.mk
  (some 22) (AOp.load false 1 (Operand.tmp 21)) none, AOper.mk (some 9) (AOp.mov (Operand.tmp 20)) none, AOper.mk (some 10) (AOp.mov (Operand.tmp 22))
  none]) (AC.tree (AT.look [AOper.mk (some 23) (AOp.mov (Operand.tmp 8)) none, AOper.mk (some 24) (AOp.mov (Operand.tmp 9)) none, AOper.mk (some 25)
  (AOp.mov (Operand.tmp 1)) none, AOper.mk (some 26) (AOp.mov (Operand.tmp 10)) none, AOper.mk (some 29) (AOp.mov (Operand.tmp 2)) none, AOper.mk (some
  30) (AOp.mov (Operand.tmp 9)) none] (AT.fork true (AOper.mk (some 27) (AOp.iadr 1 (Operand.tmp 25) (Operand.tmp 26)) none) (AT.fork true (AOper.mk
  (some 28) (AOp.load false 1 (Operand.tmp 27)) none) (AT.act false (AOper.mk (some 31) (AOp.callv (Operand.tmp 29) [Operand.tmp 30]) none) (AT.look
  [AOper.mk (some 32) (AOp.bin false BinOp.mul (Operand.tmp 28) (Operand.tmp 31)) none, AOper.mk (some 33) (AOp.iadr 1 (Operand.tmp 23) (Operand.tmp 24))
  none] (AT.act false (AOper.mk none (AOp.store 1 (Operand.tmp 33) (Operand.tmp 32)) none) AT.done))) (AT.act false (AOper.mk (some 31) (AOp.callv
  (Operand.tmp 29) [Operand.tmp 30]) none) (AT.look [AOper.mk (some 28) (AOp.load false 1 (Operand.tmp 27)) none, AOper.mk (some 32) (AOp.bin false
  BinOp.mul (Operand.tmp 28) (Operand.tmp 31)) none, AOper.mk (some 33) (AOp.iadr 1 (Operand.tmp 23) (Operand.tmp 24)) none] (AT.act false (AOper.mk none
  (AOp.store 1 (Operand.tmp 33) (Operand.tmp 32)) none) AT.done)))) (AT.act false (AOper.mk (some 31) (AOp.callv (Operand.tmp 29) [Operand.tmp 30]) none)
  (AT.look [AOper.mk (some 27) (AOp.iadr 1 (Operand.tmp 25) (Operand.tmp 26)) none, AOper.mk (some 28) (AOp.load false 1 (Operand.tmp 27)) none, AOper.mk
  (some 32) (AOp.bin false BinOp.mul (Operand.tmp 28) (Operand.tmp 31)) none, AOper.mk (some 33) (AOp.iadr 1 (Operand.tmp 23) (Operand.tmp 24)) none]
  (AT.act false (AOper.mk none (AOp.store 1 (Operand.tmp 33) (Operand.tmp 32)) none) AT.done)))))))) (AC.ops [AOper.mk (some 34) (AOp.bin false BinOp.add
  (Operand.tmp 18) (Operand.const (Value.int IntKind.i64 1))) none, AOper.mk (some 18) (AOp.mov (Operand.tmp 34)) none]))))))) (AC.seq (AC.ops [AOper.mk
  (some 35) (AOp.mov (Operand.tmp 8)) none, AOper.mk (some 36) (AOp.call 89 [Operand.tmp 35]) none, AOper.mk (some 37) (AOp.ext (Operand.tmp 36) 0) none,
  AOper.mk (some 38) (AOp.ext (Operand.tmp 36) 1) none, AOper.mk (some 6) (AOp.mov (Operand.tmp 37)) none, AOper.mk (some 7) (AOp.mov (Operand.tmp 38))
  none]) AC.ret)))) [ARes.tmp 6, ARes.tmp 7]
theorem cfn58 : cfn Try.prog 58 3 = some c58 := by kernel_rfl
def c59 : AFn :=
  AFn.mk 29 (AC.seq (AC.ops [AOper.mk (some 2) (AOp.mov (Operand.const (Value.slice none 0 0))) none, AOper.mk (some 3) (AOp.mov (Operand.const
  (Value.int IntKind.i64 0))) none]) (AC.seq (AC.ops [AOper.mk (some 4) (AOp.mov (Operand.const (Value.slice none 0 0))) none]) (AC.seq (AC.seq (AC.ops
  [AOper.mk (some 9) (AOp.mov (Operand.tmp 0)) none, AOper.mk (some 10) (AOp.len (Operand.tmp 9)) none, AOper.mk (some 11) (AOp.mov (Operand.const
  (Value.int IntKind.i64 0))) none]) (AC.block 0 (AC.loop (AC.seq (AC.ops [AOper.mk (some 12) (AOp.bin false BinOp.lss (Operand.tmp 11) (Operand.tmp 10))
  none]) (AC.seq (AC.cond (Operand.tmp 12) AC.skip (AC.exit 0)) (AC.seq (AC.block 1 (AC.seq (AC.ops [AOper.mk (some 13) (AOp.iadr 2 (Operand.tmp 9)
  (Operand.tmp 11)) none, AOper.mk (some 14) (AOp.load true 2 (Operand.tmp 13)) none, AOper.mk (some 6) (AOp.zro 24 (PV.agg [PV.v (Value.int IntKind.i64
  0), PV.v (Value.slice none 0 0)])) none, AOper.mk none (AOp.store 2 (Operand.tmp 6) (Operand.tmp 14)) none]) (AC.seq (AC.ops [AOper.mk (some 16)
  (AOp.load true 2 (Operand.tmp 6)) none, AOper.mk (some 17) (AOp.call 90 [Operand.tmp 16]) none, AOper.mk (some 15) (AOp.mov (Operand.tmp 17)) none,
  AOper.mk (some 18) (AOp.ext (Operand.tmp 15) 0) none, AOper.mk (some 19) (AOp.ext (Operand.tmp 15) 1) none, AOper.mk (some 7) (AOp.mov (Operand.tmp
  18)) none, AOper.mk (some 8) (AOp.mov (Operand.tmp 19)) none]) (AC.seq (AC.seq (AC.ops [AOper.mk (some 20) (AOp.mov (Operand.tmp 8)) none, AOper.mk
  (some 21) (AOp.bin false BinOp.neq (Operand.tmp 20) (Operand.const (Value.int IntKind.i64 0))) none]) (AC.cond (Operand.tmp 21) (AC.seq (AC.ops
  [AOper.mk (some 22) (AOp.mov (Operand.tmp 8)) none, AOper.mk (some 2) (AOp.mov (Operand.const (Value.slice none 0 0))) none, AOper.mk (some 3) (AOp.mov
  (Operand.tmp 22)) none]) AC.ret) AC.skip)) (AC.ops [AOper.mk (some 23) (AOp.mov (Operand.tmp 4)) none, AOper.mk (some 24) (AOp.mov (Operand.tmp 7))
  none, AOper.mk (some 25) (AOp.bslT 87 [Operand.tmp 24]) none, AOper.mk (some 26) (AOp.appT 87 (Operand.tmp 23) (Operand.tmp 25)) none, AOper.mk (some
  4) (AOp.mov (Operand.tmp 26)) none]))))) (AC.ops [AOper.mk (some 27) (AOp.bin false BinOp.add (Operand.tmp 11) (Operand.const (Value.int IntKind.i64
  1))) none, AOper.mk (some 11) (AOp.mov (Operand.tmp 27)) none]))))))) (AC.seq (AC.ops [AOper.mk (some 28) (AOp.mov (Operand.tmp 4)) none, AOper.mk
  (some 2) (AOp.mov (Operand.tmp 28)) none, AOper.mk (some 3) (AOp.mov (Operand.const (Value.int IntKind.i64 0))) none]) AC.ret)))) [ARes.tmp 2, ARes.tmp
  3]
theorem cfn59 : cfn Try.prog 59 1 = some c59 := by kernel_rfl
def c60 : AFn :=
  AFn.mk 17 (AC.seq (AC.ops [AOper.mk (some 3) (AOp.box 24 (Operand.tmp 0)) none, AOper.mk (some 4) (AOp.box 24 (Operand.tmp 1)) none, AOper.mk (some 5)
  (AOp.box 29 (Operand.tmp 2)) none, AOper.mk (some 6) (AOp.mov (Operand.const (Value.int IntKind.i64 0))) none]) (AC.seq (AC.ops [AOper.mk (some 10)
  (AOp.load true 2 (Operand.tmp 3)) none, AOper.mk (some 11) (AOp.load true 2 (Operand.tmp 4)) none, AOper.mk (some 12) (AOp.load true 2 (Operand.tmp 5))
  none, AOper.mk (some 13) (AOp.call 50 [Operand.tmp 10, Operand.tmp 11, Operand.tmp 12]) none, AOper.mk (some 9) (AOp.mov (Operand.tmp 13)) none,
  AOper.mk (some 14) (AOp.ext (Operand.tmp 9) 0) none, AOper.mk (some 15) (AOp.ext (Operand.tmp 9) 1) none, AOper.mk (some 7) (AOp.zro 89 (PV.agg [PV.v
  (Value.int IntKind.i64 0), PV.v (Value.slice none 0 0), PV.v (Value.int IntKind.i64 0), PV.v (Value.slice none 0 0), PV.v (Value.slice none 0 0), PV.v
  (Value.slice none 0 0), PV.v (Value.slice none 0 0), PV.v (Value.slice none 0 0)])) none, AOper.mk none (AOp.store 8 (Operand.tmp 7) (Operand.tmp 14))
  none, AOper.mk (some 8) (AOp.mov (Operand.tmp 15)) none]) (AC.seq (AC.ops [AOper.mk (some 16) (AOp.mov (Operand.tmp 8)) none, AOper.mk (some 6)
  (AOp.mov (Operand.tmp 16)) none]) AC.ret))) [ARes.tmp 6]
theorem cfn60 : cfn Try.prog 60 3 = some c60 := by kernel_rfl
def c61 : AFn :=
  AFn.mk 7 (AC.seq (AC.ops [AOper.mk (some 2) (AOp.mov (Operand.const (Value.slice none 0 0))) none, AOper.mk (some 3) (AOp.mov (Operand.const (Value.int
  IntKind.i64 0))) none]) (AC.seq (AC.seq (AC.ops [AOper.mk (some 4) (AOp.mov (Operand.tmp 0)) none, AOper.mk (some 5) (AOp.call 91 [Operand.tmp 4,
  Operand.func 92]) none]) (AC.cond (Operand.tmp 5) (AC.seq (AC.ops [AOper.mk (some 2) (AOp.mov (Operand.const (Value.slice none 0 0))) none, AOper.mk
  (some 3) (AOp.mov (Operand.const (Value.int IntKind.i64 11))) none]) AC.ret) AC.skip)) (AC.seq (AC.ops [AOper.mk (some 6) (AOp.mov (Operand.tmp 0))
  none, AOper.mk (some 2) (AOp.mov (Operand.tmp 6)) none, AOper.mk (some 3) (AOp.mov (Operand.const (Value.int IntKind.i64 0))) none]) AC.ret)))
  [ARes.tmp 2, ARes.tmp 3]
theorem cfn61 : cfn Try.prog 61 1 = some c61 := by kernel_rfl
def c62 : AFn :=
  AFn.mk 26 (AC.seq (AC.ops [AOper.mk (some 3) (AOp.box 24 (Operand.tmp 0)) none, AOper.mk (some 5) (AOp.box 54 (Operand.tmp 2)) none, AOper.mk (some 6)
  (AOp.mov (Operand.const (Value.slice none 0 0))) none]) (AC.seq (AC.ops [AOper.mk (some 11) (AOp.mov (Operand.tmp 1)) none, AOper.mk (some 12)
  (AOp.call 93 [Operand.tmp 11]) none, AOper.mk (some 7) (AOp.zro 30 (PV.v (Value.slice none 0 0))) none, AOper.mk none (AOp.store 1 (Operand.tmp 7)
  (Operand.tmp 12)) none]) (AC.seq (AC.ops [AOper.mk (some 13) (AOp.fn (Fn.func 94) [] [Operand.tmp 5, Operand.tmp 7]) none, AOper.mk (some 8) (AOp.mov
  (Operand.tmp 13)) none]) (AC.seq (AC.seq (AC.ops [AOper.mk (some 14) (AOp.fadr 1 (Operand.tmp 3)) none, AOper.mk (some 15) (AOp.load false 1
  (Operand.tmp 14)) none, AOper.mk (some 16) (AOp.len (Operand.tmp 15)) none, AOper.mk (some 17) (AOp.mov (Operand.const (Value.int IntKind.i64 0)))
  none]) (AC.block 0 (AC.loop (AC.seq (AC.ops [AOper.mk (some 18) (AOp.bin false BinOp.lss (Operand.tmp 17) (Operand.tmp 16)) none]) (AC.seq (AC.cond
  (Operand.tmp 18) AC.skip (AC.exit 0)) (AC.seq (AC.block 1 (AC.seq (AC.ops [AOper.mk (some 19) (AOp.iadr 3 (Operand.tmp 15) (Operand.tmp 17)) none,
  AOper.mk (some 20) (AOp.load true 3 (Operand.tmp 19)) none, AOper.mk (some 10) (AOp.zro 70 (PV.agg [PV.v (Value.int IntKind.i64 0), PV.v (Value.int
  IntKind.i64 0), PV.v (Value.int IntKind.i64 0)])) none, AOper.mk none (AOp.store 3 (Operand.tmp 10) (Operand.tmp 20)) none]) (AC.ops [AOper.mk (some
  21) (AOp.mov (Operand.tmp 8)) none, AOper.mk (some 22) (AOp.load true 3 (Operand.tmp 10)) none, AOper.mk (some 23) (AOp.callv (Operand.tmp 21)
  [Operand.tmp 22]) none]))) (AC.ops [AOper.mk (some 24) (AOp.bin false BinOp.add (Operand.tmp 17) (Operand.const (Value.int IntKind.i64 1))) none,
  AOper.mk (some 17) (AOp.mov (Operand.tmp 24)) none]))))))) (AC.seq (AC.ops [AOper.mk (some 25) (AOp.load false 1 (Operand.tmp 7)) none, AOper.mk (some
  6) (AOp.mov (Operand.tmp 25)) none]) AC.ret))))) [ARes.tmp 6]
theorem cfn62 : cfn Try.prog 62 3 = some c62 := by kernel_rfl
def c63 : AFn :=
  AFn.mk 17 (AC.seq (AC.ops [AOper.mk (some 1) (AOp.box 24 (Operand.tmp 0)) none, AOper.mk (some 2) (AOp.mov (Operand.const (Value.bool false))) none])
  (AC.seq (AC.ops [AOper.mk (some 3) (AOp.fadr 1 (Operand.tmp 1)) none, AOper.mk (some 4) (AOp.load false 1 (Operand.tmp 3)) none, AOper.mk (some 5)
  (AOp.len (Operand.tmp 4)) none, AOper.mk (some 6) (AOp.bin false BinOp.leq (Operand.tmp 5) (Operand.const (Value.int IntKind.i64 40))) none, AOper.mk
  (some 7) (AOp.mov (Operand.tmp 6)) none, AOper.mk (some 8) (AOp.load true 2 (Operand.tmp 1)) (some (7, true)), AOper.mk (some 9) (AOp.call 95
  [Operand.tmp 8]) (some (7, true)), AOper.mk (some 10) (AOp.bin false BinOp.neq (Operand.tmp 9) (Operand.const (Value.int IntKind.i64 0))) (some (7,
  true)), AOper.mk (some 11) (AOp.mov (Operand.tmp 10)) (some (7, true)), AOper.mk (some 12) (AOp.load true 2 (Operand.tmp 1)) (some (11, false)),
  AOper.mk (some 13) (AOp.call 78 [Operand.tmp 12]) (some (11, false)), AOper.mk (some 14) (AOp.bin false BinOp.leq (Operand.tmp 13) (Operand.const
  (Value.int IntKind.i64 24))) (some (11, false)), AOper.mk (some 15) (AOp.pick (Operand.tmp 11) (Operand.const (Value.bool true)) (Operand.tmp 14))
  (some (7, true)), AOper.mk (some 16) (AOp.pick (Operand.tmp 7) (Operand.tmp 15) (Operand.const (Value.bool false))) none, AOper.mk (some 2) (AOp.mov
  (Operand.tmp 16)) none]) AC.ret)) [ARes.tmp 2]
theorem cfn63 : cfn Try.prog 63 1 = some c63 := by kernel_rfl
def c64 : AFn :=
  AFn.mk 28 (AC.seq (AC.ops [AOper.mk (some 3) (AOp.box 24 (Operand.tmp 0)) none, AOper.mk (some 4) (AOp.box 24 (Operand.tmp 1)) none, AOper.mk (some 5)
  (AOp.box 29 (Operand.tmp 2)) none, AOper.mk (some 6) (AOp.mov (Operand.const (Value.bool false))) none, AOper.mk (some 7) (AOp.mov (Operand.const
  (Value.int IntKind.i64 0))) none]) (AC.seq (AC.ops [AOper.mk (some 13) (AOp.load true 2 (Operand.tmp 3)) none, AOper.mk (some 14) (AOp.load true 2
  (Operand.tmp 4)) none, AOper.mk (some 15) (AOp.load true 2 (Operand.tmp 5)) none, AOper.mk (some 16) (AOp.call 50 [Operand.tmp 13, Operand.tmp 14,
  Operand.tmp 15]) none, AOper.mk (some 12) (AOp.mov (Operand.tmp 16)) none, AOper.mk (some 17) (AOp.ext (Operand.tmp 12) 0) none, AOper.mk (some 18)
  (AOp.ext (Operand.tmp 12) 1) none, AOper.mk (some 8) (AOp.zro 89 (PV.agg [PV.v (Value.int IntKind.i64 0), PV.v (Value.slice none 0 0), PV.v (Value.int
  IntKind.i64 0), PV.v (Value.slice none 0 0), PV.v (Value.slice none 0 0), PV.v (Value.slice none 0 0), PV.v (Value.slice none 0 0), PV.v (Value.slice
  none 0 0)])) none, AOper.mk none (AOp.store 8 (Operand.tmp 8) (Operand.tmp 17)) none, AOper.mk (some 9) (AOp.mov (Operand.tmp 18)) none]) (AC.seq
  (AC.seq (AC.ops [AOper.mk (some 19) (AOp.mov (Operand.tmp 9)) none, AOper.mk (some 20) (AOp.bin false BinOp.neq (Operand.tmp 19) (Operand.const
  (Value.int IntKind.i64 0))) none]) (AC.cond (Operand.tmp 20) (AC.seq (AC.ops [AOper.mk (some 21) (AOp.mov (Operand.tmp 9)) none, AOper.mk (some 6)
  (AOp.mov (Operand.const (Value.bool false))) none, AOper.mk (some 7) (AOp.mov (Operand.tmp 21)) none]) AC.ret) AC.skip)) (AC.seq (AC.ops [AOper.mk
  (some 23) (AOp.load true 8 (Operand.tmp 8)) none, AOper.mk (some 24) (AOp.call 51 [Operand.tmp 23]) none, AOper.mk (some 22) (AOp.mov (Operand.tmp 24))
  none, AOper.mk (some 25) (AOp.ext (Operand.tmp 22) 0) none, AOper.mk (some 26) (AOp.ext (Operand.tmp 22) 1) none, AOper.mk (some 10) (AOp.mov
  (Operand.tmp 25)) none, AOper.mk (some 11) (AOp.mov (Operand.tmp 26)) none]) (AC.seq (AC.ops [AOper.mk (some 27) (AOp.mov (Operand.tmp 11)) none,
  AOper.mk (some 6) (AOp.mov (Operand.tmp 27)) none, AOper.mk (some 7) (AOp.mov (Operand.const (Value.int IntKind.i64 0))) none]) AC.ret))))) [ARes.tmp
  6, ARes.tmp 7]
theorem cfn64 : cfn Try.prog 64 3 = some c64 := by kernel_rfl
def c65 : AFn :=
  AFn.mk 43 (AC.seq (AC.ops [AOper.mk (some 4) (AOp.box 24 (Operand.tmp 0)) none, AOper.mk (some 5) (AOp.box 24 (Operand.tmp 1)) none, AOper.mk (some 6)
  (AOp.box 29 (Operand.tmp 2)) none, AOper.mk (some 8) (AOp.mov (Operand.const (Value.int IntKind.i64 0))) none, AOper.mk (some 9) (AOp.mov
  (Operand.const (Value.int IntKind.i64 0))) none]) (AC.seq (AC.ops [AOper.mk (some 15) (AOp.load true 2 (Operand.tmp 4)) none, AOper.mk (some 16)
  (AOp.load true 2 (Operand.tmp 5)) none, AOper.mk (some 17) (AOp.load true 2 (Operand.tmp 6)) none, AOper.mk (some 18) (AOp.call 50 [Operand.tmp 15,
  Operand.tmp 16, Operand.tmp 17]) none, AOper.mk (some 14) (AOp.mov (Operand.tmp 18)) none, AOper.mk (some 19) (AOp.ext (Operand.tmp 14) 0) none,
  AOper.mk (some 20) (AOp.ext (Operand.tmp 14) 1) none, AOper.mk (some 10) (AOp.zro 89 (PV.agg [PV.v (Value.int IntKind.i64 0), PV.v (Value.slice none 0
  0), PV.v (Value.int IntKind.i64 0), PV.v (Value.slice none 0 0), PV.v (Value.slice none 0 0), PV.v (Value.slice none 0 0), PV.v (Value.slice none 0 0),
  PV.v (Value.slice none 0 0)])) none, AOper.mk none (AOp.store 8 (Operand.tmp 10) (Operand.tmp 19)) none, AOper.mk (some 11) (AOp.mov (Operand.tmp 20))
  none]) (AC.seq (AC.seq (AC.ops [AOper.mk (some 21) (AOp.mov (Operand.tmp 11)) none, AOper.mk (some 22) (AOp.bin false BinOp.neq (Operand.tmp 21)
  (Operand.const (Value.int IntKind.i64 0))) none]) (AC.cond (Operand.tmp 22) (AC.seq (AC.ops [AOper.mk (some 23) (AOp.mov (Operand.tmp 11)) none,
  AOper.mk (some 8) (AOp.mov (Operand.const (Value.int IntKind.i64 0))) none, AOper.mk (some 9) (AOp.mov (Operand.tmp 23)) none]) AC.ret) AC.skip))
  (AC.seq (AC.seq (AC.ops [AOper.mk (some 24) (AOp.mov (Operand.tmp 3)) none, AOper.mk (some 25) (AOp.bin false BinOp.lss (Operand.tmp 24) (Operand.const
  (Value.int IntKind.i64 0))) none, AOper.mk (some 26) (AOp.mov (Operand.tmp 25)) none, AOper.mk (some 27) (AOp.mov (Operand.tmp 3)) (some (26, false)),
  AOper.mk (some 28) (AOp.fadr 0 (Operand.tmp 4)) (some (26, false)), AOper.mk (some 29) (AOp.load false 1 (Operand.tmp 28)) (some (26, false)), AOper.mk
  (some 30) (AOp.bin false BinOp.geq (Operand.tmp 27) (Operand.tmp 29)) (some (26, false)), AOper.mk (some 31) (AOp.pick (Operand.tmp 26) (Operand.const
  (Value.bool true)) (Operand.tmp 30)) none]) (AC.cond (Operand.tmp 31) (AC.seq (AC.ops [AOper.mk (some 8) (AOp.mov (Operand.const (Value.int IntKind.i64
  0))) none, AOper.mk (some 9) (AOp.mov (Operand.const (Value.int IntKind.i64 2))) none]) AC.ret) AC.skip)) (AC.seq (AC.ops [AOper.mk (some 33) (AOp.load
  true 8 (Operand.tmp 10)) none, AOper.mk (some 34) (AOp.call 51 [Operand.tmp 33]) none, AOper.mk (some 32) (AOp.mov (Operand.tmp 34)) none, AOper.mk
  (some 35) (AOp.ext (Operand.tmp 32) 0) none, AOper.mk (some 36) (AOp.ext (Operand.tmp 32) 1) none, AOper.mk (some 12) (AOp.mov (Operand.tmp 35)) none,
  AOper.mk (some 13) (AOp.mov (Operand.tmp 36)) none]) (AC.seq (AC.seq (AC.ops [AOper.mk (some 37) (AOp.mov (Operand.tmp 13)) none, AOper.mk (some 38)
  (AOp.un UnOp.not (Operand.tmp 37)) none]) (AC.cond (Operand.tmp 38) (AC.seq (AC.ops [AOper.mk (some 8) (AOp.mov (Operand.const (Value.int IntKind.i64
  0))) none, AOper.mk (some 9) (AOp.mov (Operand.const (Value.int IntKind.i64 15))) none]) AC.ret) AC.skip)) (AC.seq (AC.ops [AOper.mk (some 39) (AOp.mov
  (Operand.tmp 12)) none, AOper.mk (some 40) (AOp.mov (Operand.tmp 3)) none, AOper.mk (some 41) (AOp.iadr 1 (Operand.tmp 39) (Operand.tmp 40)) none,
  AOper.mk (some 42) (AOp.load false 1 (Operand.tmp 41)) none, AOper.mk (some 8) (AOp.mov (Operand.tmp 42)) none, AOper.mk (some 9) (AOp.mov
  (Operand.const (Value.int IntKind.i64 0))) none]) AC.ret))))))) [ARes.tmp 8, ARes.tmp 9]
theorem cfn65 : cfn Try.prog 65 4 = some c65 := by kernel_rfl
def c66 : AFn :=
  AFn.mk 9 (AC.seq (AC.ops [AOper.mk (some 2) (AOp.mov (Operand.const (Value.int IntKind.i64 0))) none]) (AC.seq (AC.seq (AC.ops [AOper.mk (some 3)
  (AOp.mov (Operand.tmp 0)) none, AOper.mk (some 4) (AOp.bin false BinOp.lss (Operand.tmp 3) (Operand.const (Value.int IntKind.i64 1))) none, AOper.mk
  (some 5) (AOp.mov (Operand.tmp 4)) none, AOper.mk (some 6) (AOp.mov (Operand.tmp 0)) (some (5, false)), AOper.mk (some 7) (AOp.bin false BinOp.gtr
  (Operand.tmp 6) (Operand.const (Value.int IntKind.i64 12))) (some (5, false)), AOper.mk (some 8) (AOp.pick (Operand.tmp 5) (Operand.const (Value.bool
  true)) (Operand.tmp 7)) none]) (AC.cond (Operand.tmp 8) (AC.seq (AC.ops [AOper.mk (some 2) (AOp.mov (Operand.const (Value.int IntKind.i64 2))) none])
  AC.ret) AC.skip)) (AC.seq (AC.ops [AOper.mk (some 2) (AOp.mov (Operand.const (Value.int IntKind.i64 0))) none]) AC.ret))) [ARes.tmp 2]
theorem cfn66 : cfn Try.prog 66 1 = some c66 := by kernel_rfl
def c67 : AFn :=
  AFn.mk 9 (AC.seq (AC.ops [AOper.mk (some 2) (AOp.mov (Operand.const (Value.bool false))) none]) (AC.seq (AC.ops [AOper.mk (some 3) (AOp.mov
  (Operand.tmp 0)) none, AOper.mk (some 4) (AOp.bin false BinOp.geq (Operand.tmp 3) (Operand.const (Value.int IntKind.i64 (-1048576)))) none, AOper.mk
  (some 5) (AOp.mov (Operand.tmp 4)) none, AOper.mk (some 6) (AOp.mov (Operand.tmp 0)) (some (5, true)), AOper.mk (some 7) (AOp.bin false BinOp.leq
  (Operand.tmp 6) (Operand.const (Value.int IntKind.i64 1048576))) (some (5, true)), AOper.mk (some 8) (AOp.pick (Operand.tmp 5) (Operand.tmp 7)
  (Operand.const (Value.bool false))) none, AOper.mk (some 2) (AOp.mov (Operand.tmp 8)) none]) AC.ret)) [ARes.tmp 2]
theorem cfn67 : cfn Try.prog 67 1 = some c67 := by kernel_rfl
def c68 : AFn :=
  AFn.mk 20 (AC.seq (AC.ops [AOper.mk (some 2) (AOp.mov (Operand.const (Value.slice none 0 0))) none, AOper.mk (some 3) (AOp.mov (Operand.const
  (Value.int IntKind.i64 0))) none]) (AC.seq (AC.seq (AC.ops [AOper.mk (some 6) (AOp.mov (Operand.tmp 0)) none, AOper.mk (some 7) (AOp.len (Operand.tmp
  6)) none, AOper.mk (some 8) (AOp.mov (Operand.const (Value.int IntKind.i64 0))) none]) (AC.block 0 (AC.loop (AC.seq (AC.ops [AOper.mk (some 9) (AOp.bin
  false BinOp.lss (Operand.tmp 8) (Operand.tmp 7)) none]) (AC.seq (AC.cond (Operand.tmp 9) AC.skip (AC.exit 0)) (AC.seq (AC.block 1 (AC.seq (AC.ops
  [AOper.mk (some 10) (AOp.iadr 1 (Operand.tmp 6) (Operand.tmp 8)) none, AOper.mk (some 11) (AOp.load false 1 (Operand.tmp 10)) none, AOper.mk (some 5)
  (AOp.mov (Operand.tmp 11)) none]) (AC.seq (AC.ops [AOper.mk (some 12) (AOp.mov (Operand.tmp 5)) none, AOper.mk (some 13) (AOp.bin false BinOp.lss
  (Operand.tmp 12) (Operand.const (Value.int IntKind.i64 (-1048576)))) none, AOper.mk (some 14) (AOp.mov (Operand.tmp 13)) none, AOper.mk (some 15)
  (AOp.mov (Operand.tmp 5)) (some (14, false)), AOper.mk (some 16) (AOp.bin false BinOp.gtr (Operand.tmp 15) (Operand.const (Value.int IntKind.i64
  1048576))) (some (14, false)), AOper.mk (some 17) (AOp.pick (Operand.tmp 14) (Operand.const (Value.bool true)) (Operand.tmp 16)) none]) (AC.cond
  (Operand.tmp 17) (AC.seq (AC.ops [AOper.mk (some 2) (AOp.mov (Operand.const (Value.slice none 0 0))) none, AOper.mk (some 3) (AOp.mov (Operand.const
  (Value.int IntKind.i64 11))) none]) AC.ret) AC.skip)))) (AC.ops [AOper.mk (some 18) (AOp.bin false BinOp.add (Operand.tmp 8) (Operand.const (Value.int
  IntKind.i64 1))) none, AOper.mk (some 8) (AOp.mov (Operand.tmp 18)) none]))))))) (AC.seq (AC.ops [AOper.mk (some 19) (AOp.mov (Operand.tmp 0)) none,
  AOper.mk (some 2) (AOp.mov (Operand.tmp 19)) none, AOper.mk (some 3) (AOp.mov (Operand.const (Value.int IntKind.i64 0))) none]) AC.ret))) [ARes.tmp 2,
  ARes.tmp 3]
theorem cfn68 : cfn Try.prog 68 1 = some c68 := by kernel_rfl
def c69 : AFn :=
  AFn.mk 9 (AC.seq (AC.ops [AOper.mk (some 2) (AOp.mov (Operand.const (Value.bool false))) none]) (AC.seq (AC.ops [AOper.mk (some 3) (AOp.mov
  (Operand.tmp 0)) none, AOper.mk (some 4) (AOp.bin false BinOp.geq (Operand.tmp 3) (Operand.const (Value.int IntKind.i64 (-1048576)))) none, AOper.mk
  (some 5) (AOp.mov (Operand.tmp 4)) none, AOper.mk (some 6) (AOp.mov (Operand.tmp 0)) (some (5, true)), AOper.mk (some 7) (AOp.bin false BinOp.leq
  (Operand.tmp 6) (Operand.const (Value.int IntKind.i64 1048576))) (some (5, true)), AOper.mk (some 8) (AOp.pick (Operand.tmp 5) (Operand.tmp 7)
  (Operand.const (Value.bool false))) none, AOper.mk (some 2) (AOp.mov (Operand.tmp 8)) none]) AC.ret)) [ARes.tmp 2]
theorem cfn69 : cfn Try.prog 69 1 = some c69 := by kernel_rfl
def c70 : AFn :=
  AFn.mk 20 (AC.seq (AC.ops [AOper.mk (some 4) (AOp.box 24 (Operand.tmp 0)) none, AOper.mk (some 5) (AOp.box 24 (Operand.tmp 1)) none, AOper.mk (some 6)
  (AOp.box 38 (Operand.tmp 2)) none, AOper.mk (some 8) (AOp.mov (Operand.const (Value.int IntKind.i64 0))) none]) (AC.seq (AC.ops [AOper.mk (some 12)
  (AOp.load true 2 (Operand.tmp 4)) none, AOper.mk (some 13) (AOp.load true 2 (Operand.tmp 5)) none, AOper.mk (some 14) (AOp.load true 2 (Operand.tmp 6))
  none, AOper.mk (some 15) (AOp.mov (Operand.tmp 3)) none, AOper.mk (some 16) (AOp.call 84 [Operand.tmp 12, Operand.tmp 13, Operand.tmp 14, Operand.tmp
  15]) none, AOper.mk (some 11) (AOp.mov (Operand.tmp 16)) none, AOper.mk (some 17) (AOp.ext (Operand.tmp 11) 0) none, AOper.mk (some 18) (AOp.ext
  (Operand.tmp 11) 1) none, AOper.mk (some 9) (AOp.mov (Operand.tmp 17)) none, AOper.mk (some 10) (AOp.mov (Operand.tmp 18)) none]) (AC.seq (AC.ops
  [AOper.mk (some 19) (AOp.mov (Operand.tmp 9)) none, AOper.mk (some 8) (AOp.mov (Operand.tmp 19)) none]) AC.ret))) [ARes.tmp 8]
theorem cfn70 : cfn Try.prog 70 4 = some c70 := by kernel_rfl
def c71 : AFn :=
  AFn.mk 37 (AC.seq (AC.ops [AOper.mk (some 1) (AOp.box 89 (Operand.tmp 0)) none, AOper.mk (some 2) (AOp.mov (Operand.const (Value.map none))) none])
  (AC.seq (AC.ops [AOper.mk (some 8) (AOp.mkm (KD.arr 2)) none, AOper.mk (some 3) (AOp.mov (Operand.tmp 8)) none]) (AC.seq (AC.seq (AC.ops [AOper.mk
  (some 9) (AOp.fadr 6 (Operand.tmp 1)) none, AOper.mk (some 10) (AOp.fadr 1 (Operand.tmp 9)) none, AOper.mk (some 11) (AOp.load false 1 (Operand.tmp
  10)) none, AOper.mk (some 12) (AOp.len (Operand.tmp 11)) none, AOper.mk (some 13) (AOp.mov (Operand.const (Value.int IntKind.i64 0))) none]) (AC.block
  0 (AC.loop (AC.seq (AC.ops [AOper.mk (some 14) (AOp.bin false BinOp.lss (Operand.tmp 13) (Operand.tmp 12)) none]) (AC.seq (AC.cond (Operand.tmp 14)
  AC.skip (AC.exit 0)) (AC.seq (AC.block 1 (AC.seq (AC.ops [AOper.mk (some 15) (AOp.mov (Operand.tmp 13)) none, AOper.mk (some 16) (AOp.iadr 1
  (Operand.tmp 11) (Operand.tmp 13)) none, AOper.mk (some 17) (AOp.load false 1 (Operand.tmp 16)) none, AOper.mk (some 4) (AOp.mov (Operand.tmp 15))
  none, AOper.mk (some 5) (AOp.mov (Operand.tmp 17)) none]) (AC.seq (AC.ops [AOper.mk (some 18) (AOp.fadr 4 (Operand.tmp 1)) none, AOper.mk (some 19)
  (AOp.load false 1 (Operand.tmp 18)) none, AOper.mk (some 20) (AOp.mov (Operand.tmp 4)) none, AOper.mk (some 21) (AOp.iadr 2 (Operand.tmp 19)
  (Operand.tmp 20)) none, AOper.mk (some 22) (AOp.load true 2 (Operand.tmp 21)) none, AOper.mk (some 23) (AOp.mov (Operand.const (Value.int IntKind.i64
  0))) none]) (AC.block 2 (AC.loop (AC.seq (AC.ops [AOper.mk (some 24) (AOp.bin false BinOp.lss (Operand.tmp 23) (Operand.const (Value.int IntKind.i64
  2))) none]) (AC.seq (AC.cond (Operand.tmp 24) AC.skip (AC.exit 2)) (AC.seq (AC.block 3 (AC.seq (AC.ops [AOper.mk (some 25) (AOp.idx false 2 1
  (Operand.tmp 22) (Operand.tmp 23)) none, AOper.mk (some 7) (AOp.mov (Operand.tmp 25)) none]) (AC.tree (AT.look [AOper.mk (some 26) (AOp.mov
  (Operand.tmp 3)) none, AOper.mk (some 27) (AOp.mov (Operand.tmp 7)) none, AOper.mk (some 28) (AOp.mov (Operand.tmp 5)) none, AOper.mk (some 29)
  (AOp.bld [PV.v (Value.int IntKind.i64 0), PV.v (Value.int IntKind.i64 0)] [(0, 1), (1, 1)] [(0, Operand.tmp 27), (1, Operand.tmp 28)]) none] (AT.fork
  true (AOper.mk (some 30) (AOp.look (KD.arr 2) (PV.v (Value.int IntKind.i64 0)) false (Operand.tmp 26) (Operand.tmp 29)) none) (AT.fork true (AOper.mk
  (some 31) (AOp.bin false BinOp.add (Operand.tmp 30) (Operand.const (Value.int IntKind.i64 1))) none) (AT.act false (AOper.mk (some 32) (AOp.ment
  (KD.arr 2) (PV.v (Value.int IntKind.i64 0)) (Operand.tmp 26) (Operand.tmp 29)) none) (AT.look [AOper.mk (some 33) (AOp.ext (Operand.tmp 32) 1) none]
  (AT.act false (AOper.mk none (AOp.eset (Operand.tmp 26) (Operand.tmp 33) (Operand.tmp 31)) none) AT.done))) (AT.act false (AOper.mk (some 32) (AOp.ment
  (KD.arr 2) (PV.v (Value.int IntKind.i64 0)) (Operand.tmp 26) (Operand.tmp 29)) none) (AT.look [AOper.mk (some 31) (AOp.bin false BinOp.add (Operand.tmp
  30) (Operand.const (Value.int IntKind.i64 1))) none, AOper.mk (some 33) (AOp.ext (Operand.tmp 32) 1) none] (AT.act false (AOper.mk none (AOp.eset
  (Operand.tmp 26) (Operand.tmp 33) (Operand.tmp 31)) none) AT.done)))) (AT.act false (AOper.mk (some 32) (AOp.ment (KD.arr 2) (PV.v (Value.int
  IntKind.i64 0)) (Operand.tmp 26) (Operand.tmp 29)) none) (AT.look [AOper.mk (some 33) (AOp.ext (Operand.tmp 32) 1) none] (AT.act true (AOper.mk (some
  30) (AOp.look (KD.arr 2) (PV.v (Value.int IntKind.i64 0)) false (Operand.tmp 26) (Operand.tmp 29)) none) (AT.look [AOper.mk (some 31) (AOp.bin false
  BinOp.add (Operand.tmp 30) (Operand.const (Value.int IntKind.i64 1))) none] (AT.act false (AOper.mk none (AOp.eset (Operand.tmp 26) (Operand.tmp 33)
  (Operand.tmp 31)) none) AT.done)))))))))) (AC.ops [AOper.mk (some 34) (AOp.bin false BinOp.add (Operand.tmp 23) (Operand.const (Value.int IntKind.i64
  1))) none, AOper.mk (some 23) (AOp.mov (Operand.tmp 34)) none]))))))))) (AC.ops [AOper.mk (some 35) (AOp.bin false BinOp.add (Operand.tmp 13)
  (Operand.const (Value.int IntKind.i64 1))) none, AOper.mk (some 13) (AOp.mov (Operand.tmp 35)) none]))))))) (AC.seq (AC.ops [AOper.mk (some 36)
  (AOp.mov (Operand.tmp 3)) none, AOper.mk (some 2) (AOp.mov (Operand.tmp 36)) none]) AC.ret)))) [ARes.tmp 2]
theorem cfn71 : cfn Try.prog 71 1 = some c71 := by kernel_rfl
def c72 : AFn :=
  AFn.mk 48 (AC.seq (AC.ops [AOper.mk (some 4) (AOp.box 24 (Operand.tmp 0)) none, AOper.mk (some 5) (AOp.box 38 (Operand.tmp 1)) none, AOper.mk (some 8)
  (AOp.mov (Operand.const (Value.int IntKind.i64 0))) none]) (AC.seq (AC.ops [AOper.mk (some 12) (AOp.load true 2 (Operand.tmp 4)) none, AOper.mk (some
  13) (AOp.call 81 [Operand.tmp 12]) none, AOper.mk (some 9) (AOp.mov (Operand.tmp 13)) none]) (AC.seq (AC.ops [AOper.mk (some 10) (AOp.mov
  (Operand.const (Value.int IntKind.i64 0))) none]) (AC.seq (AC.seq (AC.ops [AOper.mk (some 11) (AOp.mov (Operand.const (Value.int IntKind.i64 0)))
  none]) (AC.block 0 (AC.loop (AC.seq (AC.seq (AC.ops [AOper.mk (some 14) (AOp.mov (Operand.tmp 11)) none, AOper.mk (some 15) (AOp.mov (Operand.tmp 9))
  none, AOper.mk (some 16) (AOp.len (Operand.tmp 15)) none, AOper.mk (some 17) (AOp.bin false BinOp.lss (Operand.tmp 14) (Operand.tmp 16)) none])
  (AC.cond (Operand.tmp 17) AC.skip (AC.exit 0))) (AC.seq (AC.block 1 (AC.seq (AC.ops [AOper.mk (some 20) (AOp.fadr 1 (Operand.tmp 5)) none, AOper.mk
  (some 21) (AOp.load false 1 (Operand.tmp 20)) none, AOper.mk (some 22) (AOp.mov (Operand.tmp 11)) none, AOper.mk (some 23) (AOp.iadr 1 (Operand.tmp 21)
  (Operand.tmp 22)) none, AOper.mk (some 24) (AOp.load false 1 (Operand.tmp 23)) none, AOper.mk (some 25) (AOp.mov (Operand.tmp 3)) none, AOper.mk (some
  26) (AOp.bin false BinOp.eql (Operand.tmp 24) (Operand.tmp 25)) none, AOper.mk (some 27) (AOp.mov (Operand.tmp 26)) none, AOper.mk (some 28) (AOp.mov
  (Operand.tmp 9)) (some (27, true)), AOper.mk (some 29) (AOp.mov (Operand.tmp 11)) (some (27, true)), AOper.mk (some 30) (AOp.iadr 2 (Operand.tmp 28)
  (Operand.tmp 29)) (some (27, true)), AOper.mk (some 31) (AOp.iadrA 2 1 (Operand.tmp 30) (Operand.const (Value.int IntKind.i64 0))) (some (27, true)),
  AOper.mk (some 32) (AOp.load false 1 (Operand.tmp 31)) (some (27, true)), AOper.mk (some 33) (AOp.mov (Operand.tmp 2)) (some (27, true)), AOper.mk
  (some 34) (AOp.bin false BinOp.eql (Operand.tmp 32) (Operand.tmp 33)) (some (27, true)), AOper.mk (some 35) (AOp.mov (Operand.tmp 34)) (some (27,
  true)), AOper.mk (some 36) (AOp.mov (Operand.tmp 9)) (some (35, false)), AOper.mk (some 37) (AOp.mov (Operand.tmp 11)) (some (35, false)), AOper.mk
  (some 38) (AOp.iadr 2 (Operand.tmp 36) (Operand.tmp 37)) (some (35, false)), AOper.mk (some 39) (AOp.iadrA 2 1 (Operand.tmp 38) (Operand.const
  (Value.int IntKind.i64 1))) (some (35, false)), AOper.mk (some 40) (AOp.load false 1 (Operand.tmp 39)) (some (35, false)), AOper.mk (some 41) (AOp.mov
  (Operand.tmp 2)) (some (35, false)), AOper.mk (some 42) (AOp.bin false BinOp.eql (Operand.tmp 40) (Operand.tmp 41)) (some (35, false)), AOper.mk (some
  43) (AOp.pick (Operand.tmp 35) (Operand.const (Value.bool true)) (Operand.tmp 42)) (some (27, true)), AOper.mk (some 44) (AOp.pick (Operand.tmp 27)
  (Operand.tmp 43) (Operand.const (Value.bool false))) none]) (AC.cond (Operand.tmp 44) (AC.ops [AOper.mk (some 45) (AOp.mov (Operand.tmp 10)) none,
  AOper.mk (some 46) (AOp.bin false BinOp.add (Operand.tmp 45) (Operand.const (Value.int IntKind.i64 1))) none, AOper.mk (some 10) (AOp.mov (Operand.tmp
  46)) none]) AC.skip))) (AC.ops [AOper.mk (some 18) (AOp.mov (Operand.tmp 11)) none, AOper.mk (some 19) (AOp.bin false BinOp.add (Operand.tmp 18)
  (Operand.const (Value.int IntKind.i64 1))) none, AOper.mk (some 11) (AOp.mov (Operand.tmp 19)) none])))))) (AC.seq (AC.ops [AOper.mk (some 47) (AOp.mov
  (Operand.tmp 10)) none, AOper.mk (some 8) (AOp.mov (Operand.tmp 47)) none]) AC.ret))))) [ARes.tmp 8]
theorem cfn72 : cfn Try.prog 72 4 = some c72 := by kernel_rfl
def c73 : AFn :=
  AFn.mk 67 (AC.seq (AC.ops [AOper.mk (some 1) (AOp.box 24 (Operand.tmp 0)) none, AOper.mk (some 2) (AOp.mov (Operand.const (Value.int IntKind.i64 0)))
  none]) (AC.seq (AC.seq (AC.ops [AOper.mk (some 7) (AOp.fadr 0 (Operand.tmp 1)) none, AOper.mk (some 8) (AOp.load false 1 (Operand.tmp 7)) none,
  AOper.mk (some 9) (AOp.bin false BinOp.lss (Operand.tmp 8) (Operand.const (Value.int IntKind.i64 1))) none, AOper.mk (some 10) (AOp.mov (Operand.tmp
  9)) none, AOper.mk (some 11) (AOp.fadr 0 (Operand.tmp 1)) (some (10, false)), AOper.mk (some 12) (AOp.load false 1 (Operand.tmp 11)) (some (10,
  false)), AOper.mk (some 13) (AOp.bin false BinOp.gtr (Operand.tmp 12) (Operand.const (Value.int IntKind.i64 12))) (some (10, false)), AOper.mk (some
  14) (AOp.pick (Operand.tmp 10) (Operand.const (Value.bool true)) (Operand.tmp 13)) none]) (AC.cond (Operand.tmp 14) (AC.seq (AC.ops [AOper.mk (some 2)
  (AOp.mov (Operand.const (Value.int IntKind.i64 2))) none]) AC.ret) AC.skip)) (AC.seq (AC.ops [AOper.mk (some 15) (AOp.bld [PV.v (Value.int IntKind.i64
  0), PV.v (Value.int IntKind.i64 0)] [(0, 1), (1, 1)] [(0, Operand.const (Value.int IntKind.i64 (-1))), (1, Operand.const (Value.int IntKind.i64
  (-1)))]) none, AOper.mk (some 3) (AOp.zro 123 (PV.agg [PV.v (Value.int IntKind.i64 0), PV.v (Value.int IntKind.i64 0)])) none, AOper.mk none (AOp.store
  2 (Operand.tmp 3) (Operand.tmp 15)) none]) (AC.seq (AC.seq (AC.ops [AOper.mk (some 16) (AOp.fadr 1 (Operand.tmp 1)) none, AOper.mk (some 17) (AOp.load
  false 1 (Operand.tmp 16)) none, AOper.mk (some 18) (AOp.len (Operand.tmp 17)) none, AOper.mk (some 19) (AOp.mov (Operand.const (Value.int IntKind.i64
  0))) none]) (AC.block 0 (AC.loop (AC.seq (AC.ops [AOper.mk (some 20) (AOp.bin false BinOp.lss (Operand.tmp 19) (Operand.tmp 18)) none]) (AC.seq
  (AC.cond (Operand.tmp 20) AC.skip (AC.exit 0)) (AC.seq (AC.block 1 (AC.seq (AC.ops [AOper.mk (some 21) (AOp.iadr 3 (Operand.tmp 17) (Operand.tmp 19))
  none, AOper.mk (some 22) (AOp.load true 3 (Operand.tmp 21)) none, AOper.mk (some 5) (AOp.zro 70 (PV.agg [PV.v (Value.int IntKind.i64 0), PV.v
  (Value.int IntKind.i64 0), PV.v (Value.int IntKind.i64 0)])) none, AOper.mk none (AOp.store 3 (Operand.tmp 5) (Operand.tmp 22)) none]) (AC.seq (AC.ops
  [AOper.mk (some 23) (AOp.fadr 0 (Operand.tmp 5)) none, AOper.mk (some 24) (AOp.load false 1 (Operand.tmp 23)) none, AOper.mk (some 25) (AOp.fadr 1
  (Operand.tmp 5)) none, AOper.mk (some 26) (AOp.load false 1 (Operand.tmp 25)) none, AOper.mk (some 27) (AOp.bld [PV.v (Value.int IntKind.i64 0), PV.v
  (Value.int IntKind.i64 0)] [(0, 1), (1, 1)] [(0, Operand.tmp 24), (1, Operand.tmp 26)]) none, AOper.mk (some 6) (AOp.zro 123 (PV.agg [PV.v (Value.int
  IntKind.i64 0), PV.v (Value.int IntKind.i64 0)])) none, AOper.mk none (AOp.store 2 (Operand.tmp 6) (Operand.tmp 27)) none]) (AC.seq (AC.block 2 (AC.seq
  (AC.ops [AOper.mk (some 29) (AOp.fadr 0 (Operand.tmp 1)) none, AOper.mk (some 30) (AOp.load false 1 (Operand.tmp 29)) none, AOper.mk (some 31)
  (AOp.fadr 0 (Operand.tmp 5)) none, AOper.mk (some 32) (AOp.load false 1 (Operand.tmp 31)) none, AOper.mk (some 33) (AOp.call 96 [Operand.tmp 30,
  Operand.tmp 32]) none, AOper.mk (some 34) (AOp.un UnOp.not (Operand.tmp 33)) none, AOper.mk (some 35) (AOp.mov (Operand.tmp 34)) none, AOper.mk (some
  36) (AOp.fadr 0 (Operand.tmp 1)) (some (35, false)), AOper.mk (some 37) (AOp.load false 1 (Operand.tmp 36)) (some (35, false)), AOper.mk (some 38)
  (AOp.fadr 1 (Operand.tmp 5)) (some (35, false)), AOper.mk (some 39) (AOp.load false 1 (Operand.tmp 38)) (some (35, false)), AOper.mk (some 40)
  (AOp.call 96 [Operand.tmp 37, Operand.tmp 39]) (some (35, false)), AOper.mk (some 41) (AOp.un UnOp.not (Operand.tmp 40)) (some (35, false)), AOper.mk
  (some 42) (AOp.pick (Operand.tmp 35) (Operand.const (Value.bool true)) (Operand.tmp 41)) none, AOper.mk (some 43) (AOp.mov (Operand.tmp 42)) none,
  AOper.mk (some 44) (AOp.fadr 2 (Operand.tmp 5)) (some (43, false)), AOper.mk (some 45) (AOp.load false 1 (Operand.tmp 44)) (some (43, false)), AOper.mk
  (some 46) (AOp.bin false BinOp.lss (Operand.tmp 45) (Operand.const (Value.int IntKind.i64 1))) (some (43, false)), AOper.mk (some 47) (AOp.pick
  (Operand.tmp 43) (Operand.const (Value.bool true)) (Operand.tmp 46)) none, AOper.mk (some 48) (AOp.mov (Operand.tmp 47)) none, AOper.mk (some 49)
  (AOp.fadr 2 (Operand.tmp 5)) (some (48, false)), AOper.mk (some 50) (AOp.load false 1 (Operand.tmp 49)) (some (48, false)), AOper.mk (some 51) (AOp.bin
  false BinOp.gtr (Operand.tmp 50) (Operand.const (Value.int IntKind.i64 50))) (some (48, false)), AOper.mk (some 52) (AOp.pick (Operand.tmp 48)
  (Operand.const (Value.bool true)) (Operand.tmp 51)) none, AOper.mk (some 28) (AOp.mov (Operand.tmp 52)) none]) (AC.cond (Operand.tmp 28) (AC.seq
  (AC.ops [AOper.mk (some 2) (AOp.mov (Operand.const (Value.int IntKind.i64 2))) none]) AC.ret) (AC.seq (AC.ops [AOper.mk (some 54) (AOp.fadr 0
  (Operand.tmp 5)) none, AOper.mk (some 55) (AOp.load false 1 (Operand.tmp 54)) none, AOper.mk (some 56) (AOp.fadr 1 (Operand.tmp 5)) none, AOper.mk
  (some 57) (AOp.load false 1 (Operand.tmp 56)) none, AOper.mk (some 58) (AOp.bin false BinOp.gtr (Operand.tmp 55) (Operand.tmp 57)) none, AOper.mk (some
  59) (AOp.mov (Operand.tmp 58)) none, AOper.mk (some 60) (AOp.load true 2 (Operand.tmp 3)) (some (59, false)), AOper.mk (some 61) (AOp.load true 2
  (Operand.tmp 6)) (some (59, false)), AOper.mk (some 62) (AOp.call 97 [Operand.tmp 60, Operand.tmp 61]) (some (59, false)), AOper.mk (some 63) (AOp.bin
  false BinOp.geq (Operand.tmp 62) (Operand.const (Value.int IntKind.i64 0))) (some (59, false)), AOper.mk (some 64) (AOp.pick (Operand.tmp 59)
  (Operand.const (Value.bool true)) (Operand.tmp 63)) none, AOper.mk (some 53) (AOp.mov (Operand.tmp 64)) none]) (AC.cond (Operand.tmp 53) (AC.seq
  (AC.ops [AOper.mk (some 2) (AOp.mov (Operand.const (Value.int IntKind.i64 9))) none]) AC.ret) AC.skip))))) (AC.ops [AOper.mk (some 65) (AOp.load true 2
  (Operand.tmp 6)) none, AOper.mk none (AOp.store 2 (Operand.tmp 3) (Operand.tmp 65)) none]))))) (AC.ops [AOper.mk (some 66) (AOp.bin false BinOp.add
  (Operand.tmp 19) (Operand.const (Value.int IntKind.i64 1))) none, AOper.mk (some 19) (AOp.mov (Operand.tmp 66)) none]))))))) (AC.seq (AC.ops [AOper.mk
  (some 2) (AOp.mov (Operand.const (Value.int IntKind.i64 0))) none]) AC.ret))))) [ARes.tmp 2]
theorem cfn73 : cfn Try.prog 73 1 = some c73 := by kernel_rfl
def c74 : AFn :=
  AFn.mk 4 (AC.seq (AC.ops [AOper.mk (some 1) (AOp.box 24 (Operand.tmp 0)) none, AOper.mk (some 2) (AOp.mov (Operand.const Value.nilFunc)) none]) (AC.seq
  (AC.ops [AOper.mk (some 3) (AOp.fn (Fn.func 98) [] [Operand.tmp 1]) none, AOper.mk (some 2) (AOp.mov (Operand.tmp 3)) none]) AC.ret)) [ARes.tmp 2]
theorem cfn74 : cfn Try.prog 74 1 = some c74 := by kernel_rfl
def c75 : AFn :=
  AFn.mk 18 (AC.seq (AC.ops [AOper.mk (some 4) (AOp.mov (Operand.const (Value.int IntKind.i64 0))) none]) (AC.seq (AC.block 0 (AC.loop (AC.seq (AC.seq
  (AC.ops [AOper.mk (some 5) (AOp.mov (Operand.tmp 0)) none, AOper.mk (some 6) (AOp.mov (Operand.tmp 1)) none, AOper.mk (some 7) (AOp.nilc (Operand.tmp
  5)) none, AOper.mk (some 8) (AOp.iadrA 12 1 (Operand.tmp 7) (Operand.tmp 6)) none, AOper.mk (some 9) (AOp.load false 1 (Operand.tmp 8)) none, AOper.mk
  (some 10) (AOp.mov (Operand.tmp 1)) none, AOper.mk (some 11) (AOp.bin false BinOp.neq (Operand.tmp 9) (Operand.tmp 10)) none]) (AC.cond (Operand.tmp
  11) AC.skip (AC.exit 0))) (AC.block 1 (AC.ops [AOper.mk (some 12) (AOp.mov (Operand.tmp 0)) none, AOper.mk (some 13) (AOp.mov (Operand.tmp 1)) none,
  AOper.mk (some 14) (AOp.nilc (Operand.tmp 12)) none, AOper.mk (some 15) (AOp.iadrA 12 1 (Operand.tmp 14) (Operand.tmp 13)) none, AOper.mk (some 16)
  (AOp.load false 1 (Operand.tmp 15)) none, AOper.mk (some 1) (AOp.mov (Operand.tmp 16)) none]))))) (AC.seq (AC.ops [AOper.mk (some 17) (AOp.mov
  (Operand.tmp 1)) none, AOper.mk (some 4) (AOp.mov (Operand.tmp 17)) none]) AC.ret))) [ARes.tmp 4]
theorem cfn75 : cfn Try.prog 75 2 = some c75 := by kernel_rfl
def c76 : AFn :=
  AFn.mk 36 (AC.seq (AC.ops [AOper.mk (some 2) (AOp.mov (Operand.const (Value.int IntKind.i64 0))) none]) (AC.seq (AC.seq (AC.ops [AOper.mk (some 8)
  (AOp.mov (Operand.tmp 0)) none, AOper.mk (some 9) (AOp.len (Operand.tmp 8)) none, AOper.mk (some 10) (AOp.mov (Operand.const (Value.int IntKind.i64
  0))) none]) (AC.block 0 (AC.loop (AC.seq (AC.ops [AOper.mk (some 11) (AOp.bin false BinOp.lss (Operand.tmp 10) (Operand.tmp 9)) none]) (AC.seq (AC.cond
  (Operand.tmp 11) AC.skip (AC.exit 0)) (AC.seq (AC.block 1 (AC.seq (AC.ops [AOper.mk (some 12) (AOp.iadr 1 (Operand.tmp 8) (Operand.tmp 10)) none,
  AOper.mk (some 13) (AOp.load false 1 (Operand.tmp 12)) none, AOper.mk (some 4) (AOp.mov (Operand.tmp 13)) none]) (AC.seq (AC.ops [AOper.mk (some 14)
  (AOp.mov (Operand.tmp 4)) none, AOper.mk (some 15) (AOp.mov (Operand.tmp 4)) none, AOper.mk (some 16) (AOp.len (Operand.tmp 15)) none, AOper.mk (some
  17) (AOp.call 33 [Operand.tmp 14, Operand.tmp 16]) none, AOper.mk (some 5) (AOp.mov (Operand.tmp 17)) none]) (AC.seq (AC.ops [AOper.mk (some 18)
  (AOp.mov (Operand.tmp 5)) none, AOper.mk (some 19) (AOp.bin false BinOp.neq (Operand.tmp 18) (Operand.const (Value.int IntKind.i64 0))) none]) (AC.cond
  (Operand.tmp 19) (AC.seq (AC.ops [AOper.mk (some 20) (AOp.mov (Operand.tmp 5)) none, AOper.mk (some 2) (AOp.mov (Operand.tmp 20)) none]) AC.ret)
  AC.skip))))) (AC.ops [AOper.mk (some 21) (AOp.bin false BinOp.add (Operand.tmp 10) (Operand.const (Value.int IntKind.i64 1))) none, AOper.mk (some 10)
  (AOp.mov (Operand.tmp 21)) none]))))))) (AC.seq (AC.seq (AC.ops [AOper.mk (some 22) (AOp.mov (Operand.tmp 0)) none, AOper.mk (some 23) (AOp.len
  (Operand.tmp 22)) none, AOper.mk (some 24) (AOp.mov (Operand.const (Value.int IntKind.i64 0))) none]) (AC.block 2 (AC.loop (AC.seq (AC.ops [AOper.mk
  (some 25) (AOp.bin false BinOp.lss (Operand.tmp 24) (Operand.tmp 23)) none]) (AC.seq (AC.cond (Operand.tmp 25) AC.skip (AC.exit 2)) (AC.seq (AC.block 3
  (AC.seq (AC.ops [AOper.mk (some 26) (AOp.iadr 1 (Operand.tmp 22) (Operand.tmp 24)) none, AOper.mk (some 27) (AOp.load false 1 (Operand.tmp 26)) none,
  AOper.mk (some 7) (AOp.mov (Operand.tmp 27)) none]) (AC.seq (AC.ops [AOper.mk (some 28) (AOp.mov (Operand.tmp 7)) none, AOper.mk (some 29) (AOp.len
  (Operand.tmp 28)) none, AOper.mk (some 30) (AOp.mov (Operand.tmp 0)) none, AOper.mk (some 31) (AOp.iadr 1 (Operand.tmp 30) (Operand.const (Value.int
  IntKind.i64 0))) none, AOper.mk (some 32) (AOp.load false 1 (Operand.tmp 31)) none, AOper.mk (some 33) (AOp.len (Operand.tmp 32)) none, AOper.mk (some
  34) (AOp.bin false BinOp.neq (Operand.tmp 29) (Operand.tmp 33)) none]) (AC.cond (Operand.tmp 34) (AC.seq (AC.ops [AOper.mk (some 2) (AOp.mov
  (Operand.const (Value.int IntKind.i64 8))) none]) AC.ret) AC.skip)))) (AC.ops [AOper.mk (some 35) (AOp.bin false BinOp.add (Operand.tmp 24)
  (Operand.const (Value.int IntKind.i64 1))) none, AOper.mk (some 24) (AOp.mov (Operand.tmp 35)) none]))))))) (AC.seq (AC.ops [AOper.mk (some 2) (AOp.mov
  (Operand.const (Value.int IntKind.i64 0))) none]) AC.ret)))) [ARes.tmp 2]
theorem cfn76 : cfn Try.prog 76 1 = some c76 := by kernel_rfl
def c77 : AFn :=
  AFn.mk 24 (AC.seq (AC.ops [AOper.mk (some 2) (AOp.box 38 (Operand.tmp 0)) none, AOper.mk (some 4) (AOp.mov (Operand.const (Value.int IntKind.i64 0)))
  none]) (AC.seq (AC.ops [AOper.mk (some 5) (AOp.mov (Operand.const (Value.int IntKind.i64 0))) none]) (AC.seq (AC.seq (AC.ops [AOper.mk (some 6)
  (AOp.mov (Operand.const (Value.int IntKind.i64 0))) none]) (AC.block 0 (AC.loop (AC.seq (AC.seq (AC.ops [AOper.mk (some 7) (AOp.mov (Operand.tmp 6))
  none, AOper.mk (some 8) (AOp.fadr 1 (Operand.tmp 2)) none, AOper.mk (some 9) (AOp.load false 1 (Operand.tmp 8)) none, AOper.mk (some 10) (AOp.len
  (Operand.tmp 9)) none, AOper.mk (some 11) (AOp.bin false BinOp.lss (Operand.tmp 7) (Operand.tmp 10)) none]) (AC.cond (Operand.tmp 11) AC.skip (AC.exit
  0))) (AC.seq (AC.block 1 (AC.seq (AC.ops [AOper.mk (some 14) (AOp.fadr 1 (Operand.tmp 2)) none, AOper.mk (some 15) (AOp.load false 1 (Operand.tmp 14))
  none, AOper.mk (some 16) (AOp.mov (Operand.tmp 6)) none, AOper.mk (some 17) (AOp.iadr 1 (Operand.tmp 15) (Operand.tmp 16)) none, AOper.mk (some 18)
  (AOp.load false 1 (Operand.tmp 17)) none, AOper.mk (some 19) (AOp.mov (Operand.tmp 1)) none, AOper.mk (some 20) (AOp.bin false BinOp.eql (Operand.tmp
  18) (Operand.tmp 19)) none]) (AC.cond (Operand.tmp 20) (AC.ops [AOper.mk (some 21) (AOp.mov (Operand.tmp 5)) none, AOper.mk (some 22) (AOp.bin false
  BinOp.add (Operand.tmp 21) (Operand.const (Value.int IntKind.i64 1))) none, AOper.mk (some 5) (AOp.mov (Operand.tmp 22)) none]) AC.skip))) (AC.ops
  [AOper.mk (some 12) (AOp.mov (Operand.tmp 6)) none, AOper.mk (some 13) (AOp.bin false BinOp.add (Operand.tmp 12) (Operand.const (Value.int IntKind.i64
  1))) none, AOper.mk (some 6) (AOp.mov (Operand.tmp 13)) none])))))) (AC.seq (AC.ops [AOper.mk (some 23) (AOp.mov (Operand.tmp 5)) none, AOper.mk (some
  4) (AOp.mov (Operand.tmp 23)) none]) AC.ret)))) [ARes.tmp 4]
theorem cfn77 : cfn Try.prog 77 2 = some c77 := by kernel_rfl
def c78 : AFn :=
  AFn.mk 6 (AC.seq (AC.ops [AOper.mk (some 1) (AOp.box 24 (Operand.tmp 0)) none, AOper.mk (some 2) (AOp.mov (Operand.const (Value.int IntKind.i64 0)))
  none]) (AC.seq (AC.ops [AOper.mk (some 3) (AOp.load true 2 (Operand.tmp 1)) none, AOper.mk (some 4) (AOp.call 81 [Operand.tmp 3]) none, AOper.mk (some
  5) (AOp.len (Operand.tmp 4)) none, AOper.mk (some 2) (AOp.mov (Operand.tmp 5)) none]) AC.ret)) [ARes.tmp 2]
theorem cfn78 : cfn Try.prog 78 1 = some c78 := by kernel_rfl
def c79 : AFn :=
  AFn.mk 46 (AC.seq (AC.ops [AOper.mk (some 1) (AOp.box 24 (Operand.tmp 0)) none, AOper.mk (some 2) (AOp.mov (Operand.const (Value.int IntKind.i64 0)))
  none]) (AC.seq (AC.ops [AOper.mk (some 3) (AOp.mov (Operand.const (Value.int IntKind.i64 0))) none]) (AC.seq (AC.ops [AOper.mk (some 8) (AOp.fadr 0
  (Operand.tmp 1)) none, AOper.mk (some 9) (AOp.load false 1 (Operand.tmp 8)) none, AOper.mk (some 10) (AOp.mk 4 1 (PV.v (Value.bool false)) (Operand.tmp
  9) (Operand.tmp 9)) none, AOper.mk (some 4) (AOp.mov (Operand.tmp 10)) none]) (AC.seq (AC.seq (AC.ops [AOper.mk (some 5) (AOp.mov (Operand.const
  (Value.int IntKind.i64 0))) none]) (AC.block 0 (AC.loop (AC.seq (AC.seq (AC.ops [AOper.mk (some 11) (AOp.mov (Operand.tmp 5)) none, AOper.mk (some 12)
  (AOp.fadr 0 (Operand.tmp 1)) none, AOper.mk (some 13) (AOp.load false 1 (Operand.tmp 12)) none, AOper.mk (some 14) (AOp.bin false BinOp.lss
  (Operand.tmp 11) (Operand.tmp 13)) none]) (AC.cond (Operand.tmp 14) AC.skip (AC.exit 0))) (AC.seq (AC.block 1 (AC.seq (AC.seq (AC.ops [AOper.mk (some
  17) (AOp.mov (Operand.tmp 4)) none, AOper.mk (some 18) (AOp.mov (Operand.tmp 5)) none, AOper.mk (some 19) (AOp.iadr 1 (Operand.tmp 17) (Operand.tmp
  18)) none, AOper.mk (some 20) (AOp.load false 1 (Operand.tmp 19)) none]) (AC.cond (Operand.tmp 20) (AC.exit 1) AC.skip)) (AC.seq (AC.ops [AOper.mk
  (some 21) (AOp.mov (Operand.tmp 3)) none, AOper.mk (some 22) (AOp.bin false BinOp.add (Operand.tmp 21) (Operand.const (Value.int IntKind.i64 1))) none,
  AOper.mk (some 3) (AOp.mov (Operand.tmp 22)) none]) (AC.seq (AC.ops [AOper.mk (some 23) (AOp.load true 2 (Operand.tmp 1)) none, AOper.mk (some 24)
  (AOp.mov (Operand.tmp 5)) none, AOper.mk (some 25) (AOp.call 99 [Operand.tmp 23, Operand.tmp 24]) none, AOper.mk (some 6) (AOp.mov (Operand.tmp 25))
  none]) (AC.seq (AC.ops [AOper.mk (some 7) (AOp.mov (Operand.const (Value.int IntKind.i64 0))) none]) (AC.block 2 (AC.loop (AC.seq (AC.seq (AC.ops
  [AOper.mk (some 26) (AOp.mov (Operand.tmp 7)) none, AOper.mk (some 27) (AOp.fadr 0 (Operand.tmp 1)) none, AOper.mk (some 28) (AOp.load false 1
  (Operand.tmp 27)) none, AOper.mk (some 29) (AOp.bin false BinOp.lss (Operand.tmp 26) (Operand.tmp 28)) none]) (AC.cond (Operand.tmp 29) AC.skip
  (AC.exit 2))) (AC.seq (AC.block 3 (AC.ops [AOper.mk (some 32) (AOp.mov (Operand.tmp 4)) none, AOper.mk (some 33) (AOp.mov (Operand.tmp 7)) none,
  AOper.mk (some 34) (AOp.mov (Operand.tmp 4)) none, AOper.mk (some 35) (AOp.mov (Operand.tmp 7)) none, AOper.mk (some 36) (AOp.iadr 1 (Operand.tmp 34)
  (Operand.tmp 35)) none, AOper.mk (some 37) (AOp.load false 1 (Operand.tmp 36)) none, AOper.mk (some 38) (AOp.mov (Operand.tmp 37)) none, AOper.mk (some
  39) (AOp.mov (Operand.tmp 6)) (some (38, false)), AOper.mk (some 40) (AOp.mov (Operand.tmp 7)) (some (38, false)), AOper.mk (some 41) (AOp.iadr 1
  (Operand.tmp 39) (Operand.tmp 40)) (some (38, false)), AOper.mk (some 42) (AOp.load false 1 (Operand.tmp 41)) (some (38, false)), AOper.mk (some 43)
  (AOp.pick (Operand.tmp 38) (Operand.const (Value.bool true)) (Operand.tmp 42)) none, AOper.mk (some 44) (AOp.iadr 1 (Operand.tmp 32) (Operand.tmp 33))
  none, AOper.mk none (AOp.store 1 (Operand.tmp 44) (Operand.tmp 43)) none])) (AC.ops [AOper.mk (some 30) (AOp.mov (Operand.tmp 7)) none, AOper.mk (some
  31) (AOp.bin false BinOp.add (Operand.tmp 30) (Operand.const (Value.int IntKind.i64 1))) none, AOper.mk (some 7) (AOp.mov (Operand.tmp 31))
  none])))))))))) (AC.ops [AOper.mk (some 15) (AOp.mov (Operand.tmp 5)) none, AOper.mk (some 16) (AOp.bin false BinOp.add (Operand.tmp 15) (Operand.const
  (Value.int IntKind.i64 1))) none, AOper.mk (some 5) (AOp.mov (Operand.tmp 16)) none])))))) (AC.seq (AC.ops [AOper.mk (some 45) (AOp.mov (Operand.tmp
  3)) none, AOper.mk (some 2) (AOp.mov (Operand.tmp 45)) none]) AC.ret))))) [ARes.tmp 2]
theorem cfn79 : cfn Try.prog 79 1 = some c79 := by kernel_rfl
def c80 : AFn :=
  AFn.mk 13 (AC.seq (AC.ops [AOper.mk (some 2) (AOp.box 24 (Operand.tmp 0)) none, AOper.mk (some 3) (AOp.box 24 (Operand.tmp 1)) none, AOper.mk (some 4)
  (AOp.mov (Operand.const (Value.int IntKind.i64 0))) none]) (AC.seq (AC.seq (AC.ops [AOper.mk (some 6) (AOp.load true 2 (Operand.tmp 2)) none, AOper.mk
  (some 7) (AOp.call 100 [Operand.tmp 6]) none, AOper.mk (some 5) (AOp.mov (Operand.tmp 7)) none]) (AC.seq (AC.ops [AOper.mk (some 8) (AOp.mov
  (Operand.tmp 5)) none, AOper.mk (some 9) (AOp.bin false BinOp.neq (Operand.tmp 8) (Operand.const (Value.int IntKind.i64 0))) none]) (AC.cond
  (Operand.tmp 9) (AC.seq (AC.ops [AOper.mk (some 10) (AOp.mov (Operand.tmp 5)) none, AOper.mk (some 4) (AOp.mov (Operand.tmp 10)) none]) AC.ret)
  AC.skip))) (AC.seq (AC.ops [AOper.mk (some 11) (AOp.load true 2 (Operand.tmp 3)) none, AOper.mk (some 12) (AOp.call 100 [Operand.tmp 11]) none,
  AOper.mk (some 4) (AOp.mov (Operand.tmp 12)) none]) AC.ret))) [ARes.tmp 4]
theorem cfn80 : cfn Try.prog 80 2 = some c80 := by kernel_rfl
def c81 : AFn :=
  AFn.mk 40 (AC.seq (AC.ops [AOper.mk (some 1) (AOp.box 24 (Operand.tmp 0)) none, AOper.mk (some 2) (AOp.mov (Operand.const (Value.slice none 0 0)))
  none]) (AC.seq (AC.ops [AOper.mk (some 3) (AOp.mov (Operand.const (Value.slice none 0 0))) none]) (AC.seq (AC.seq (AC.ops [AOper.mk (some 4) (AOp.mov
  (Operand.const (Value.int IntKind.i64 0))) none]) (AC.block 0 (AC.loop (AC.seq (AC.seq (AC.ops [AOper.mk (some 6) (AOp.mov (Operand.tmp 4)) none,
  AOper.mk (some 7) (AOp.fadr 1 (Operand.tmp 1)) none, AOper.mk (some 8) (AOp.load false 1 (Operand.tmp 7)) none, AOper.mk (some 9) (AOp.len (Operand.tmp
  8)) none, AOper.mk (some 10) (AOp.bin false BinOp.lss (Operand.tmp 6) (Operand.tmp 9)) none]) (AC.cond (Operand.tmp 10) AC.skip (AC.exit 0))) (AC.seq
  (AC.block 1 (AC.seq (AC.ops [AOper.mk (some 5) (AOp.mov (Operand.const (Value.int IntKind.i64 0))) none]) (AC.block 2 (AC.loop (AC.seq (AC.seq (AC.ops
  [AOper.mk (some 13) (AOp.mov (Operand.tmp 5)) none, AOper.mk (some 14) (AOp.fadr 1 (Operand.tmp 1)) none, AOper.mk (some 15) (AOp.load false 1
  (Operand.tmp 14)) none, AOper.mk (some 16) (AOp.mov (Operand.tmp 4)) none, AOper.mk (some 17) (AOp.iadr 3 (Operand.tmp 15) (Operand.tmp 16)) none,
  AOper.mk (some 18) (AOp.fadr 2 (Operand.tmp 17)) none, AOper.mk (some 19) (AOp.load false 1 (Operand.tmp 18)) none, AOper.mk (some 20) (AOp.bin false
  BinOp.lss (Operand.tmp 13) (Operand.tmp 19)) none]) (AC.cond (Operand.tmp 20) AC.skip (AC.exit 2))) (AC.seq (AC.block 3 (AC.segs [([AOper.mk (some 23)
  (AOp.mov (Operand.tmp 3)) none, AOper.mk (some 24) (AOp.fadr 1 (Operand.tmp 1)) none, AOper.mk (some 25) (AOp.load false 1 (Operand.tmp 24)) none,
  AOper.mk (some 26) (AOp.mov (Operand.tmp 4)) none, AOper.mk (some 27) (AOp.iadr 3 (Operand.tmp 25) (Operand.tmp 26)) none, AOper.mk (some 28) (AOp.fadr
  0 (Operand.tmp 27)) none, AOper.mk (some 29) (AOp.load false 1 (Operand.tmp 28)) none, AOper.mk (some 30) (AOp.fadr 1 (Operand.tmp 1)) none, AOper.mk
  (some 31) (AOp.load false 1 (Operand.tmp 30)) none, AOper.mk (some 32) (AOp.mov (Operand.tmp 4)) none, AOper.mk (some 33) (AOp.iadr 3 (Operand.tmp 31)
  (Operand.tmp 32)) none, AOper.mk (some 34) (AOp.fadr 1 (Operand.tmp 33)) none, AOper.mk (some 35) (AOp.load false 1 (Operand.tmp 34)) none, AOper.mk
  (some 36) (AOp.bld [PV.v (Value.int IntKind.i64 0), PV.v (Value.int IntKind.i64 0)] [(0, 1), (1, 1)] [(0, Operand.tmp 29), (1, Operand.tmp 35)]) none],
  some (true, AOper.mk (some 37) (AOp.bsl 114 2 [Operand.tmp 36]) none)), ([], some (false, AOper.mk (some 38) (AOp.app 114 2 (Operand.tmp 23)
  (Operand.tmp 37)) none)), ([AOper.mk (some 3) (AOp.mov (Operand.tmp 38)) none], none)])) (AC.ops [AOper.mk (some 21) (AOp.mov (Operand.tmp 5)) none,
  AOper.mk (some 22) (AOp.bin false BinOp.add (Operand.tmp 21) (Operand.const (Value.int IntKind.i64 1))) none, AOper.mk (some 5) (AOp.mov (Operand.tmp
  22)) none]))))))) (AC.ops [AOper.mk (some 11) (AOp.mov (Operand.tmp 4)) none, AOper.mk (some 12) (AOp.bin false BinOp.add (Operand.tmp 11)
  (Operand.const (Value.int IntKind.i64 1))) none, AOper.mk (some 4) (AOp.mov (Operand.tmp 12)) none])))))) (AC.seq (AC.ops [AOper.mk (some 39) (AOp.mov
  (Operand.tmp 3)) none, AOper.mk (some 2) (AOp.mov (Operand.tmp 39)) none]) AC.ret)))) [ARes.tmp 2]
theorem cfn81 : cfn Try.prog 81 1 = some c81 := by kernel_rfl
def c82 : AFn :=
  AFn.mk 13 (AC.seq (AC.ops [AOper.mk (some 2) (AOp.box 24 (Operand.tmp 0)) none, AOper.mk (some 4) (AOp.mov (Operand.const (Value.bool false))) none])
  (AC.seq (AC.ops [AOper.mk (some 5) (AOp.mov (Operand.tmp 1)) none, AOper.mk (some 6) (AOp.bin false BinOp.geq (Operand.tmp 5) (Operand.const (Value.int
  IntKind.i64 0))) none, AOper.mk (some 7) (AOp.mov (Operand.tmp 6)) none, AOper.mk (some 8) (AOp.mov (Operand.tmp 1)) (some (7, true)), AOper.mk (some
  9) (AOp.fadr 0 (Operand.tmp 2)) (some (7, true)), AOper.mk (some 10) (AOp.load false 1 (Operand.tmp 9)) (some (7, true)), AOper.mk (some 11) (AOp.bin
  false BinOp.lss (Operand.tmp 8) (Operand.tmp 10)) (some (7, true)), AOper.mk (some 12) (AOp.pick (Operand.tmp 7) (Operand.tmp 11) (Operand.const
  (Value.bool false))) none, AOper.mk (some 4) (AOp.mov (Operand.tmp 12)) none]) AC.ret)) [ARes.tmp 4]
theorem cfn82 : cfn Try.prog 82 2 = some c82 := by kernel_rfl
def c83 : AFn :=
  AFn.mk 32 (AC.seq (AC.ops [AOper.mk (some 4) (AOp.box 24 (Operand.tmp 0)) none, AOper.mk (some 8) (AOp.mov (Operand.const (Value.bool false))) none])
  (AC.seq (AC.seq (AC.ops [AOper.mk (some 10) (AOp.mov (Operand.tmp 3)) none, AOper.mk (some 11) (AOp.bin false BinOp.eql (Operand.tmp 10) (Operand.const
  (Value.int IntKind.i64 (-1)))) none]) (AC.cond (Operand.tmp 11) (AC.seq (AC.ops [AOper.mk (some 12) (AOp.mov (Operand.tmp 1)) none, AOper.mk (some 13)
  (AOp.mov (Operand.tmp 2)) none, AOper.mk (some 14) (AOp.bin false BinOp.eql (Operand.tmp 12) (Operand.tmp 13)) none, AOper.mk (some 8) (AOp.mov
  (Operand.tmp 14)) none]) AC.ret) AC.skip)) (AC.seq (AC.ops [AOper.mk (some 15) (AOp.load true 2 (Operand.tmp 4)) none, AOper.mk (some 16) (AOp.call 81
  [Operand.tmp 15]) none, AOper.mk (some 17) (AOp.mov (Operand.tmp 3)) none, AOper.mk (some 18) (AOp.iadr 2 (Operand.tmp 16) (Operand.tmp 17)) none,
  AOper.mk (some 19) (AOp.load true 2 (Operand.tmp 18)) none, AOper.mk (some 9) (AOp.zro 114 (PV.agg [PV.v (Value.int IntKind.i64 0), PV.v (Value.int
  IntKind.i64 0)])) none, AOper.mk none (AOp.store 2 (Operand.tmp 9) (Operand.tmp 19)) none]) (AC.seq (AC.ops [AOper.mk (some 20) (AOp.load true 2
  (Operand.tmp 9)) none, AOper.mk (some 21) (AOp.mov (Operand.tmp 1)) none, AOper.mk (some 22) (AOp.mov (Operand.tmp 2)) none, AOper.mk (some 23)
  (AOp.bld [PV.v (Value.int IntKind.i64 0), PV.v (Value.int IntKind.i64 0)] [(0, 1), (1, 1)] [(0, Operand.tmp 21), (1, Operand.tmp 22)]) none, AOper.mk
  (some 24) (AOp.eqA (KD.arr 2) false (Operand.tmp 20) (Operand.tmp 23)) none, AOper.mk (some 25) (AOp.mov (Operand.tmp 24)) none, AOper.mk (some 26)
  (AOp.load true 2 (Operand.tmp 9)) (some (25, false)), AOper.mk (some 27) (AOp.mov (Operand.tmp 2)) (some (25, false)), AOper.mk (some 28) (AOp.mov
  (Operand.tmp 1)) (some (25, false)), AOper.mk (some 29) (AOp.bld [PV.v (Value.int IntKind.i64 0), PV.v (Value.int IntKind.i64 0)] [(0, 1), (1, 1)] [(0,
  Operand.tmp 27), (1, Operand.tmp 28)]) (some (25, false)), AOper.mk (some 30) (AOp.eqA (KD.arr 2) false (Operand.tmp 26) (Operand.tmp 29)) (some (25,
  false)), AOper.mk (some 31) (AOp.pick (Operand.tmp 25) (Operand.const (Value.bool true)) (Operand.tmp 30)) none, AOper.mk (some 8) (AOp.mov
  (Operand.tmp 31)) none]) AC.ret)))) [ARes.tmp 8]
theorem cfn83 : cfn Try.prog 83 4 = some c83 := by kernel_rfl
def c84 : AFn :=
  AFn.mk 42 (AC.seq (AC.ops [AOper.mk (some 4) (AOp.box 24 (Operand.tmp 0)) none, AOper.mk (some 5) (AOp.box 24 (Operand.tmp 1)) none, AOper.mk (some 6)
  (AOp.box 38 (Operand.tmp 2)) none, AOper.mk (some 8) (AOp.mov (Operand.const (Value.int IntKind.i64 0))) none, AOper.mk (some 9) (AOp.mov
  (Operand.const (Value.bool false))) none]) (AC.seq (AC.ops [AOper.mk (some 10) (AOp.mov (Operand.const (Value.int IntKind.i64 0))) none, AOper.mk (some
  11) (AOp.mov (Operand.const (Value.bool false))) none]) (AC.seq (AC.seq (AC.ops [AOper.mk (some 12) (AOp.mov (Operand.const (Value.int IntKind.i64 0)))
  none]) (AC.block 0 (AC.loop (AC.seq (AC.seq (AC.ops [AOper.mk (some 14) (AOp.mov (Operand.tmp 12)) none, AOper.mk (some 15) (AOp.load true 2
  (Operand.tmp 5)) none, AOper.mk (some 16) (AOp.call 78 [Operand.tmp 15]) none, AOper.mk (some 17) (AOp.bin false BinOp.lss (Operand.tmp 14)
  (Operand.tmp 16)) none]) (AC.cond (Operand.tmp 17) AC.skip (AC.exit 0))) (AC.seq (AC.block 1 (AC.seq (AC.seq (AC.segs [([AOper.mk (some 20) (AOp.load
  true 2 (Operand.tmp 5)) none, AOper.mk (some 21) (AOp.mov (Operand.tmp 12)) none, AOper.mk (some 22) (AOp.fadr 0 (Operand.tmp 6)) none, AOper.mk (some
  23) (AOp.load false 1 (Operand.tmp 22)) none, AOper.mk (some 24) (AOp.mov (Operand.tmp 3)) none, AOper.mk (some 25) (AOp.iadr 1 (Operand.tmp 23)
  (Operand.tmp 24)) none, AOper.mk (some 26) (AOp.load false 1 (Operand.tmp 25)) none], some (true, AOper.mk (some 27) (AOp.call 101 [Operand.tmp 20,
  Operand.tmp 21, Operand.tmp 26]) none)), ([AOper.mk (some 28) (AOp.un UnOp.not (Operand.tmp 27)) none], none)]) (AC.cond (Operand.tmp 28) (AC.exit 1)
  AC.skip)) (AC.seq (AC.ops [AOper.mk (some 29) (AOp.load true 2 (Operand.tmp 4)) none, AOper.mk (some 30) (AOp.load true 2 (Operand.tmp 6)) none,
  AOper.mk (some 31) (AOp.mov (Operand.tmp 3)) none, AOper.mk (some 32) (AOp.mov (Operand.tmp 12)) none, AOper.mk (some 33) (AOp.call 72 [Operand.tmp 29,
  Operand.tmp 30, Operand.tmp 31, Operand.tmp 32]) none, AOper.mk (some 13) (AOp.mov (Operand.tmp 33)) none]) (AC.seq (AC.seq (AC.ops [AOper.mk (some 34)
  (AOp.mov (Operand.tmp 11)) none, AOper.mk (some 35) (AOp.mov (Operand.tmp 34)) none, AOper.mk (some 36) (AOp.mov (Operand.tmp 13)) (some (35, true)),
  AOper.mk (some 37) (AOp.mov (Operand.tmp 10)) (some (35, true)), AOper.mk (some 38) (AOp.bin false BinOp.neq (Operand.tmp 36) (Operand.tmp 37)) (some
  (35, true)), AOper.mk (some 39) (AOp.pick (Operand.tmp 35) (Operand.tmp 38) (Operand.const (Value.bool false))) none]) (AC.cond (Operand.tmp 39)
  (AC.seq (AC.ops [AOper.mk (some 8) (AOp.mov (Operand.const (Value.int IntKind.i64 0))) none, AOper.mk (some 9) (AOp.mov (Operand.const (Value.bool
  false))) none]) AC.ret) AC.skip)) (AC.ops [AOper.mk (some 40) (AOp.mov (Operand.tmp 13)) none, AOper.mk (some 10) (AOp.mov (Operand.tmp 40)) none,
  AOper.mk (some 11) (AOp.mov (Operand.const (Value.bool true))) none]))))) (AC.ops [AOper.mk (some 18) (AOp.mov (Operand.tmp 12)) none, AOper.mk (some
  19) (AOp.bin false BinOp.add (Operand.tmp 18) (Operand.const (Value.int IntKind.i64 1))) none, AOper.mk (some 12) (AOp.mov (Operand.tmp 19))
  none])))))) (AC.seq (AC.ops [AOper.mk (some 41) (AOp.mov (Operand.tmp 10)) none, AOper.mk (some 8) (AOp.mov (Operand.tmp 41)) none, AOper.mk (some 9)
  (AOp.mov (Operand.const (Value.bool true))) none]) AC.ret)))) [ARes.tmp 8, ARes.tmp 9]
theorem cfn84 : cfn Try.prog 84 4 = some c84 := by kernel_rfl
def c85 : AFn :=
  AFn.mk 112 (AC.seq (AC.ops [AOper.mk (some 1) (AOp.box 89 (Operand.tmp 0)) none, AOper.mk (some 2) (AOp.mov (Operand.const (Value.int IntKind.i64 0)))
  none]) (AC.seq (AC.seq (AC.ops [AOper.mk (some 9) (AOp.fadr 6 (Operand.tmp 1)) none, AOper.mk (some 10) (AOp.fadr 0 (Operand.tmp 9)) none, AOper.mk
  (some 11) (AOp.load false 1 (Operand.tmp 10)) none, AOper.mk (some 12) (AOp.len (Operand.tmp 11)) none, AOper.mk (some 13) (AOp.fadr 0 (Operand.tmp 1))
  none, AOper.mk (some 14) (AOp.fadr 0 (Operand.tmp 13)) none, AOper.mk (some 15) (AOp.load false 1 (Operand.tmp 14)) none, AOper.mk (some 16) (AOp.bin
  false BinOp.neq (Operand.tmp 12) (Operand.tmp 15)) none, AOper.mk (some 17) (AOp.mov (Operand.tmp 16)) none, AOper.mk (some 18) (AOp.fadr 6
  (Operand.tmp 1)) (some (17, false)), AOper.mk (some 19) (AOp.fadr 1 (Operand.tmp 18)) (some (17, false)), AOper.mk (some 20) (AOp.load false 1
  (Operand.tmp 19)) (some (17, false)), AOper.mk (some 21) (AOp.len (Operand.tmp 20)) (some (17, false)), AOper.mk (some 22) (AOp.fadr 4 (Operand.tmp 1))
  (some (17, false)), AOper.mk (some 23) (AOp.load false 1 (Operand.tmp 22)) (some (17, false)), AOper.mk (some 24) (AOp.len (Operand.tmp 23)) (some (17,
  false)), AOper.mk (some 25) (AOp.bin false BinOp.neq (Operand.tmp 21) (Operand.tmp 24)) (some (17, false)), AOper.mk (some 26) (AOp.pick (Operand.tmp
  17) (Operand.const (Value.bool true)) (Operand.tmp 25)) none]) (AC.cond (Operand.tmp 26) (AC.seq (AC.ops [AOper.mk (some 2) (AOp.mov (Operand.const
  (Value.int IntKind.i64 8))) none]) AC.ret) AC.skip)) (AC.seq (AC.seq (AC.ops [AOper.mk (some 27) (AOp.fadr 6 (Operand.tmp 1)) none, AOper.mk (some 28)
  (AOp.fadr 0 (Operand.tmp 27)) none, AOper.mk (some 29) (AOp.load false 1 (Operand.tmp 28)) none, AOper.mk (some 30) (AOp.len (Operand.tmp 29)) none,
  AOper.mk (some 31) (AOp.mov (Operand.const (Value.int IntKind.i64 0))) none]) (AC.block 0 (AC.loop (AC.seq (AC.ops [AOper.mk (some 32) (AOp.bin false
  BinOp.lss (Operand.tmp 31) (Operand.tmp 30)) none]) (AC.seq (AC.cond (Operand.tmp 32) AC.skip (AC.exit 0)) (AC.seq (AC.block 1 (AC.seq (AC.ops
  [AOper.mk (some 33) (AOp.iadr 1 (Operand.tmp 29) (Operand.tmp 31)) none, AOper.mk (some 34) (AOp.load false 1 (Operand.tmp 33)) none, AOper.mk (some 4)
  (AOp.mov (Operand.tmp 34)) none]) (AC.seq (AC.ops [AOper.mk (some 35) (AOp.mov (Operand.tmp 4)) none, AOper.mk (some 36) (AOp.bin false BinOp.lss
  (Operand.tmp 35) (Operand.const (Value.int IntKind.i64 0))) none, AOper.mk (some 37) (AOp.mov (Operand.tmp 36)) none, AOper.mk (some 38) (AOp.mov
  (Operand.tmp 4)) (some (37, false)), AOper.mk (some 39) (AOp.fadr 2 (Operand.tmp 1)) (some (37, false)), AOper.mk (some 40) (AOp.fadr 0 (Operand.tmp
  39)) (some (37, false)), AOper.mk (some 41) (AOp.load false 1 (Operand.tmp 40)) (some (37, false)), AOper.mk (some 42) (AOp.bin false BinOp.geq
  (Operand.tmp 38) (Operand.tmp 41)) (some (37, false)), AOper.mk (some 43) (AOp.pick (Operand.tmp 37) (Operand.const (Value.bool true)) (Operand.tmp
  42)) none]) (AC.cond (Operand.tmp 43) (AC.seq (AC.ops [AOper.mk (some 2) (AOp.mov (Operand.const (Value.int IntKind.i64 2))) none]) AC.ret) AC.skip))))
  (AC.ops [AOper.mk (some 44) (AOp.bin false BinOp.add (Operand.tmp 31) (Operand.const (Value.int IntKind.i64 1))) none, AOper.mk (some 31) (AOp.mov
  (Operand.tmp 44)) none]))))))) (AC.seq (AC.seq (AC.ops [AOper.mk (some 45) (AOp.fadr 6 (Operand.tmp 1)) none, AOper.mk (some 46) (AOp.fadr 1
  (Operand.tmp 45)) none, AOper.mk (some 47) (AOp.load false 1 (Operand.tmp 46)) none, AOper.mk (some 48) (AOp.len (Operand.tmp 47)) none, AOper.mk (some
  49) (AOp.mov (Operand.const (Value.int IntKind.i64 0))) none]) (AC.block 2 (AC.loop (AC.seq (AC.ops [AOper.mk (some 50) (AOp.bin false BinOp.lss
  (Operand.tmp 49) (Operand.tmp 48)) none]) (AC.seq (AC.cond (Operand.tmp 50) AC.skip (AC.exit 2)) (AC.seq (AC.block 3 (AC.seq (AC.ops [AOper.mk (some
  51) (AOp.mov (Operand.tmp 49)) none, AOper.mk (some 52) (AOp.iadr 1 (Operand.tmp 47) (Operand.tmp 49)) none, AOper.mk (some 53) (AOp.load false 1
  (Operand.tmp 52)) none, AOper.mk (some 5) (AOp.mov (Operand.tmp 51)) none, AOper.mk (some 6) (AOp.mov (Operand.tmp 53)) none]) (AC.seq (AC.segs
  [([AOper.mk (some 54) (AOp.fadr 6 (Operand.tmp 1)) none, AOper.mk (some 55) (AOp.fadr 0 (Operand.tmp 54)) none, AOper.mk (some 56) (AOp.load false 1
  (Operand.tmp 55)) none, AOper.mk (some 57) (AOp.fadr 4 (Operand.tmp 1)) none, AOper.mk (some 58) (AOp.load false 1 (Operand.tmp 57)) none, AOper.mk
  (some 59) (AOp.mov (Operand.tmp 5)) none, AOper.mk (some 60) (AOp.iadr 2 (Operand.tmp 58) (Operand.tmp 59)) none, AOper.mk (some 61) (AOp.iadrA 2 1
  (Operand.tmp 60) (Operand.const (Value.int IntKind.i64 0))) none, AOper.mk (some 62) (AOp.load false 1 (Operand.tmp 61)) none, AOper.mk (some 63)
  (AOp.iadr 1 (Operand.tmp 56) (Operand.tmp 62)) none, AOper.mk (some 64) (AOp.load false 1 (Operand.tmp 63)) none, AOper.mk (some 65) (AOp.fadr 6
  (Operand.tmp 1)) none, AOper.mk (some 66) (AOp.fadr 0 (Operand.tmp 65)) none, AOper.mk (some 67) (AOp.load false 1 (Operand.tmp 66)) none, AOper.mk
  (some 68) (AOp.fadr 4 (Operand.tmp 1)) none, AOper.mk (some 69) (AOp.load false 1 (Operand.tmp 68)) none, AOper.mk (some 70) (AOp.mov (Operand.tmp 5))
  none, AOper.mk (some 71) (AOp.iadr 2 (Operand.tmp 69) (Operand.tmp 70)) none, AOper.mk (some 72) (AOp.iadrA 2 1 (Operand.tmp 71) (Operand.const
  (Value.int IntKind.i64 1))) none, AOper.mk (some 73) (AOp.load false 1 (Operand.tmp 72)) none, AOper.mk (some 74) (AOp.iadr 1 (Operand.tmp 67)
  (Operand.tmp 73)) none, AOper.mk (some 75) (AOp.load false 1 (Operand.tmp 74)) none, AOper.mk (some 7) (AOp.mov (Operand.tmp 64)) none, AOper.mk (some
  8) (AOp.mov (Operand.tmp 75)) none], none)]) (AC.block 4 (AC.seq (AC.ops [AOper.mk (some 77) (AOp.mov (Operand.tmp 6)) none, AOper.mk (some 78)
  (AOp.bin false BinOp.lss (Operand.tmp 77) (Operand.const (Value.int IntKind.i64 (-1)))) none, AOper.mk (some 79) (AOp.mov (Operand.tmp 78)) none,
  AOper.mk (some 80) (AOp.mov (Operand.tmp 6)) (some (79, false)), AOper.mk (some 81) (AOp.fadr 5 (Operand.tmp 1)) (some (79, false)), AOper.mk (some 82)
  (AOp.load false 1 (Operand.tmp 81)) (some (79, false)), AOper.mk (some 83) (AOp.len (Operand.tmp 82)) (some (79, false)), AOper.mk (some 84) (AOp.bin
  false BinOp.geq (Operand.tmp 80) (Operand.tmp 83)) (some (79, false)), AOper.mk (some 85) (AOp.pick (Operand.tmp 79) (Operand.const (Value.bool true))
  (Operand.tmp 84)) none, AOper.mk (some 76) (AOp.mov (Operand.tmp 85)) none]) (AC.cond (Operand.tmp 76) (AC.seq (AC.ops [AOper.mk (some 2) (AOp.mov
  (Operand.const (Value.int IntKind.i64 2))) none]) AC.ret) (AC.seq (AC.seq (AC.ops [AOper.mk (some 87) (AOp.mov (Operand.tmp 6)) none, AOper.mk (some
  88) (AOp.bin false BinOp.eql (Operand.tmp 87) (Operand.const (Value.int IntKind.i64 (-1)))) none, AOper.mk (some 89) (AOp.mov (Operand.tmp 88)) none,
  AOper.mk (some 90) (AOp.mov (Operand.tmp 7)) (some (89, true)), AOper.mk (some 91) (AOp.mov (Operand.tmp 8)) (some (89, true)), AOper.mk (some 92)
  (AOp.bin false BinOp.neq (Operand.tmp 90) (Operand.tmp 91)) (some (89, true)), AOper.mk (some 93) (AOp.pick (Operand.tmp 89) (Operand.tmp 92)
  (Operand.const (Value.bool false))) none, AOper.mk (some 86) (AOp.mov (Operand.tmp 93)) none]) (AC.cond (Operand.tmp 86) AC.skip (AC.ops [AOper.mk
  (some 94) (AOp.mov (Operand.tmp 6)) none, AOper.mk (some 95) (AOp.bin false BinOp.geq (Operand.tmp 94) (Operand.const (Value.int IntKind.i64 0))) none,
  AOper.mk (some 96) (AOp.mov (Operand.tmp 95)) none, AOper.mk (some 97) (AOp.fadr 5 (Operand.tmp 1)) (some (96, true)), AOper.mk (some 98) (AOp.load
  false 1 (Operand.tmp 97)) (some (96, true)), AOper.mk (some 99) (AOp.mov (Operand.tmp 6)) (some (96, true)), AOper.mk (some 100) (AOp.iadr 2
  (Operand.tmp 98) (Operand.tmp 99)) (some (96, true)), AOper.mk (some 101) (AOp.load true 2 (Operand.tmp 100)) (some (96, true)), AOper.mk (some 102)
  (AOp.mov (Operand.tmp 7)) (some (96, true)), AOper.mk (some 103) (AOp.mov (Operand.tmp 8)) (some (96, true)), AOper.mk (some 104) (AOp.mm false
  (Operand.tmp 102) (Operand.tmp 103)) (some (96, true)), AOper.mk (some 105) (AOp.mov (Operand.tmp 7)) (some (96, true)), AOper.mk (some 106) (AOp.mov
  (Operand.tmp 8)) (some (96, true)), AOper.mk (some 107) (AOp.mm true (Operand.tmp 105) (Operand.tmp 106)) (some (96, true)), AOper.mk (some 108)
  (AOp.bld [PV.v (Value.int IntKind.i64 0), PV.v (Value.int IntKind.i64 0)] [(0, 1), (1, 1)] [(0, Operand.tmp 104), (1, Operand.tmp 107)]) (some (96,
  true)), AOper.mk (some 109) (AOp.eqA (KD.arr 2) true (Operand.tmp 101) (Operand.tmp 108)) (some (96, true)), AOper.mk (some 110) (AOp.pick (Operand.tmp
  96) (Operand.tmp 109) (Operand.const (Value.bool false))) none, AOper.mk (some 86) (AOp.mov (Operand.tmp 110)) none]))) (AC.cond (Operand.tmp 86)
  (AC.seq (AC.ops [AOper.mk (some 2) (AOp.mov (Operand.const (Value.int IntKind.i64 15))) none]) AC.ret) AC.skip)))))))) (AC.ops [AOper.mk (some 111)
  (AOp.bin false BinOp.add (Operand.tmp 49) (Operand.const (Value.int IntKind.i64 1))) none, AOper.mk (some 49) (AOp.mov (Operand.tmp 111)) none])))))))
  (AC.seq (AC.ops [AOper.mk (some 2) (AOp.mov (Operand.const (Value.int IntKind.i64 0))) none]) AC.ret))))) [ARes.tmp 2]
theorem cfn85 : cfn Try.prog 85 1 = some c85 := by kernel_rfl
def c86 : AFn :=
  AFn.mk 19 (AC.seq (AC.ops [AOper.mk (some 3) (AOp.box 89 (Operand.tmp 0)) none, AOper.mk (some 6) (AOp.mov (Operand.const (Value.bool false))) none])
  (AC.seq (AC.segs [([AOper.mk (some 7) (AOp.fadr 5 (Operand.tmp 3)) none, AOper.mk (some 8) (AOp.load false 1 (Operand.tmp 7)) none, AOper.mk (some 9)
  (AOp.mov (Operand.tmp 2)) none, AOper.mk (some 10) (AOp.iadr 2 (Operand.tmp 8) (Operand.tmp 9)) none, AOper.mk (some 11) (AOp.slA 2 (Operand.tmp 10))
  none, AOper.mk (some 12) (AOp.fadr 6 (Operand.tmp 3)) none, AOper.mk (some 13) (AOp.fadr 0 (Operand.tmp 12)) none, AOper.mk (some 14) (AOp.load false 1
  (Operand.tmp 13)) none, AOper.mk (some 15) (AOp.mov (Operand.tmp 1)) none, AOper.mk (some 16) (AOp.iadr 1 (Operand.tmp 14) (Operand.tmp 15)) none,
  AOper.mk (some 17) (AOp.load false 1 (Operand.tmp 16)) none], some (true, AOper.mk (some 18) (AOp.call 102 [Operand.tmp 11, Operand.tmp 17]) none)),
  ([AOper.mk (some 6) (AOp.mov (Operand.tmp 18)) none], none)]) AC.ret)) [ARes.tmp 6]
theorem cfn86 : cfn Try.prog 86 3 = some c86 := by kernel_rfl
def c87 : AFn :=
  AFn.mk 19 (AC.seq (AC.ops [AOper.mk (some 4) (AOp.mov (Operand.const (Value.int IntKind.i64 0))) none]) (AC.seq (AC.seq (AC.ops [AOper.mk (some 6)
  (AOp.mov (Operand.tmp 0)) none, AOper.mk (some 7) (AOp.len (Operand.tmp 6)) none, AOper.mk (some 8) (AOp.mov (Operand.const (Value.int IntKind.i64 0)))
  none]) (AC.block 0 (AC.loop (AC.seq (AC.ops [AOper.mk (some 9) (AOp.bin false BinOp.lss (Operand.tmp 8) (Operand.tmp 7)) none]) (AC.seq (AC.cond
  (Operand.tmp 9) AC.skip (AC.exit 0)) (AC.seq (AC.block 1 (AC.seq (AC.ops [AOper.mk (some 10) (AOp.mov (Operand.tmp 8)) none, AOper.mk (some 5) (AOp.mov
  (Operand.tmp 10)) none]) (AC.seq (AC.ops [AOper.mk (some 11) (AOp.mov (Operand.tmp 1)) none, AOper.mk (some 12) (AOp.mov (Operand.tmp 0)) none,
  AOper.mk (some 13) (AOp.mov (Operand.tmp 5)) none, AOper.mk (some 14) (AOp.iadr 1 (Operand.tmp 12) (Operand.tmp 13)) none, AOper.mk (some 15) (AOp.load
  false 1 (Operand.tmp 14)) none, AOper.mk (some 16) (AOp.callv (Operand.tmp 11) [Operand.tmp 15]) none]) (AC.cond (Operand.tmp 16) (AC.seq (AC.ops
  [AOper.mk (some 17) (AOp.mov (Operand.tmp 5)) none, AOper.mk (some 4) (AOp.mov (Operand.tmp 17)) none]) AC.ret) AC.skip)))) (AC.ops [AOper.mk (some 18)
  (AOp.bin false BinOp.add (Operand.tmp 8) (Operand.const (Value.int IntKind.i64 1))) none, AOper.mk (some 8) (AOp.mov (Operand.tmp 18)) none])))))))
  (AC.seq (AC.ops [AOper.mk (some 4) (AOp.mov (Operand.const (Value.int IntKind.i64 (-1)))) none]) AC.ret))) [ARes.tmp 4]
theorem cfn87 : cfn Try.prog 87 2 = some c87 := by kernel_rfl
def c88 : AFn :=
  AFn.mk 15 (AC.seq (AC.ops [AOper.mk (some 2) (AOp.box 24 (Operand.tmp 0)) none, AOper.mk (some 4) (AOp.mov (Operand.const (Value.int IntKind.i64 0)))
  none]) (AC.seq (AC.seq (AC.ops [AOper.mk (some 6) (AOp.load true 2 (Operand.tmp 2)) none, AOper.mk (some 7) (AOp.call 73 [Operand.tmp 6]) none,
  AOper.mk (some 5) (AOp.mov (Operand.tmp 7)) none]) (AC.seq (AC.ops [AOper.mk (some 8) (AOp.mov (Operand.tmp 5)) none, AOper.mk (some 9) (AOp.bin false
  BinOp.neq (Operand.tmp 8) (Operand.const (Value.int IntKind.i64 0))) none]) (AC.cond (Operand.tmp 9) (AC.seq (AC.ops [AOper.mk (some 10) (AOp.mov
  (Operand.tmp 5)) none, AOper.mk (some 4) (AOp.mov (Operand.tmp 10)) none]) AC.ret) AC.skip))) (AC.seq (AC.ops [AOper.mk (some 11) (AOp.mov (Operand.tmp
  1)) none, AOper.mk (some 12) (AOp.fadr 0 (Operand.tmp 2)) none, AOper.mk (some 13) (AOp.load false 1 (Operand.tmp 12)) none, AOper.mk (some 14)
  (AOp.call 33 [Operand.tmp 11, Operand.tmp 13]) none, AOper.mk (some 4) (AOp.mov (Operand.tmp 14)) none]) AC.ret))) [ARes.tmp 4]
theorem cfn88 : cfn Try.prog 88 2 = some c88 := by kernel_rfl
def c89 : AFn :=
  AFn.mk 20 (AC.seq (AC.ops [AOper.mk (some 2) (AOp.mov (Operand.const (Value.slice none 0 0))) none, AOper.mk (some 3) (AOp.mov (Operand.const
  (Value.int IntKind.i64 0))) none]) (AC.seq (AC.seq (AC.ops [AOper.mk (some 6) (AOp.mov (Operand.tmp 0)) none, AOper.mk (some 7) (AOp.len (Operand.tmp
  6)) none, AOper.mk (some 8) (AOp.mov (Operand.const (Value.int IntKind.i64 0))) none]) (AC.block 0 (AC.loop (AC.seq (AC.ops [AOper.mk (some 9) (AOp.bin
  false BinOp.lss (Operand.tmp 8) (Operand.tmp 7)) none]) (AC.seq (AC.cond (Operand.tmp 9) AC.skip (AC.exit 0)) (AC.seq (AC.block 1 (AC.seq (AC.ops
  [AOper.mk (some 10) (AOp.iadr 1 (Operand.tmp 6) (Operand.tmp 8)) none, AOper.mk (some 11) (AOp.load false 1 (Operand.tmp 10)) none, AOper.mk (some 5)
  (AOp.mov (Operand.tmp 11)) none]) (AC.seq (AC.ops [AOper.mk (some 12) (AOp.mov (Operand.tmp 5)) none, AOper.mk (some 13) (AOp.bin false BinOp.lss
  (Operand.tmp 12) (Operand.const (Value.int IntKind.i64 (-1048576)))) none, AOper.mk (some 14) (AOp.mov (Operand.tmp 13)) none, AOper.mk (some 15)
  (AOp.mov (Operand.tmp 5)) (some (14, false)), AOper.mk (some 16) (AOp.bin false BinOp.gtr (Operand.tmp 15) (Operand.const (Value.int IntKind.i64
  1048576))) (some (14, false)), AOper.mk (some 17) (AOp.pick (Operand.tmp 14) (Operand.const (Value.bool true)) (Operand.tmp 16)) none]) (AC.cond
  (Operand.tmp 17) (AC.seq (AC.ops [AOper.mk (some 2) (AOp.mov (Operand.const (Value.slice none 0 0))) none, AOper.mk (some 3) (AOp.mov (Operand.const
  (Value.int IntKind.i64 11))) none]) AC.ret) AC.skip)))) (AC.ops [AOper.mk (some 18) (AOp.bin false BinOp.add (Operand.tmp 8) (Operand.const (Value.int
  IntKind.i64 1))) none, AOper.mk (some 8) (AOp.mov (Operand.tmp 18)) none]))))))) (AC.seq (AC.ops [AOper.mk (some 19) (AOp.mov (Operand.tmp 0)) none,
  AOper.mk (some 2) (AOp.mov (Operand.tmp 19)) none, AOper.mk (some 3) (AOp.mov (Operand.const (Value.int IntKind.i64 0))) none]) AC.ret))) [ARes.tmp 2,
  ARes.tmp 3]
theorem cfn89 : cfn Try.prog 89 1 = some c89 := by kernel_rfl
def c90 : AFn :=
  AFn.mk 30 (AC.seq (AC.ops [AOper.mk (some 1) (AOp.box 24 (Operand.tmp 0)) none, AOper.mk (some 2) (AOp.mov (Operand.const (Value.slice none 0 0)))
  none, AOper.mk (some 3) (AOp.mov (Operand.const (Value.int IntKind.i64 0))) none]) (AC.seq (AC.ops [AOper.mk (some 8) (AOp.load true 2 (Operand.tmp 1))
  none, AOper.mk (some 9) (AOp.call 103 [Operand.tmp 8]) none, AOper.mk (some 7) (AOp.mov (Operand.tmp 9)) none, AOper.mk (some 10) (AOp.ext (Operand.tmp
  7) 0) none, AOper.mk (some 11) (AOp.ext (Operand.tmp 7) 1) none, AOper.mk (some 4) (AOp.mov (Operand.tmp 10)) none, AOper.mk (some 5) (AOp.mov
  (Operand.tmp 11)) none]) (AC.seq (AC.block 0 (AC.seq (AC.ops [AOper.mk (some 13) (AOp.mov (Operand.tmp 5)) none, AOper.mk (some 14) (AOp.bin false
  BinOp.neq (Operand.tmp 13) (Operand.const (Value.int IntKind.i64 0))) none, AOper.mk (some 12) (AOp.mov (Operand.tmp 14)) none]) (AC.cond (Operand.tmp
  12) (AC.seq (AC.ops [AOper.mk (some 15) (AOp.mov (Operand.tmp 5)) none, AOper.mk (some 2) (AOp.mov (Operand.const (Value.slice none 0 0))) none,
  AOper.mk (some 3) (AOp.mov (Operand.tmp 15)) none]) AC.ret) (AC.seq (AC.ops [AOper.mk (some 17) (AOp.mov (Operand.tmp 4)) none, AOper.mk (some 18)
  (AOp.un UnOp.not (Operand.tmp 17)) none, AOper.mk (some 16) (AOp.mov (Operand.tmp 18)) none]) (AC.cond (Operand.tmp 16) (AC.seq (AC.ops [AOper.mk (some
  2) (AOp.mov (Operand.const (Value.slice none 0 0))) none, AOper.mk (some 3) (AOp.mov (Operand.const (Value.int IntKind.i64 13))) none]) AC.ret)
  AC.skip))))) (AC.seq (AC.ops [AOper.mk (some 20) (AOp.load true 2 (Operand.tmp 1)) none, AOper.mk (some 21) (AOp.call 104 [Operand.tmp 20]) none,
  AOper.mk (some 19) (AOp.mov (Operand.tmp 21)) none, AOper.mk (some 22) (AOp.ext (Operand.tmp 19) 0) none, AOper.mk (some 23) (AOp.ext (Operand.tmp 19)
  1) none, AOper.mk (some 6) (AOp.mov (Operand.tmp 22)) none, AOper.mk (some 5) (AOp.mov (Operand.tmp 23)) none]) (AC.seq (AC.seq (AC.ops [AOper.mk (some
  24) (AOp.mov (Operand.tmp 5)) none, AOper.mk (some 25) (AOp.bin false BinOp.neq (Operand.tmp 24) (Operand.const (Value.int IntKind.i64 0))) none])
  (AC.cond (Operand.tmp 25) (AC.seq (AC.ops [AOper.mk (some 26) (AOp.mov (Operand.tmp 5)) none, AOper.mk (some 2) (AOp.mov (Operand.const (Value.slice
  none 0 0))) none, AOper.mk (some 3) (AOp.mov (Operand.tmp 26)) none]) AC.ret) AC.skip)) (AC.seq (AC.seq (AC.ops [AOper.mk (some 27) (AOp.mov
  (Operand.tmp 6)) none, AOper.mk (some 28) (AOp.call 105 [Operand.tmp 27, Operand.func 106]) none]) (AC.cond (Operand.tmp 28) (AC.seq (AC.ops [AOper.mk
  (some 2) (AOp.mov (Operand.const (Value.slice none 0 0))) none, AOper.mk (some 3) (AOp.mov (Operand.const (Value.int IntKind.i64 3))) none]) AC.ret)
  AC.skip)) (AC.seq (AC.ops [AOper.mk (some 29) (AOp.mov (Operand.tmp 6)) none, AOper.mk (some 2) (AOp.mov (Operand.tmp 29)) none, AOper.mk (some 3)
  (AOp.mov (Operand.const (Value.int IntKind.i64 0))) none]) AC.ret))))))) [ARes.tmp 2, ARes.tmp 3]
theorem cfn90 : cfn Try.prog 90 1 = some c90 := by kernel_rfl
end Go.Proofs.Ytddgepjmfnodhaa
