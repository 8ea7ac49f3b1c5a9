/-
  The compiled code of the functions (printed by a program of mine).
-/
import Derived.Test.YthdbmoflbnggpaaMad
import Derived.Test.YthdbmoflbnggpaaChecked
namespace Go.Proofs.Ythdbmoflbnggpaa
open Go.Abs
def c32 : AFn :=
  AFn.mk 21 (AC.seq (AC.ops [AOper.mk (some 3) (AOp.box 24 (Operand.tmp 0)) none, AOper.mk (some 6) (AOp.mov (Operand.const (Value.bool false))) none])
  (AC.seq (AC.ops [AOper.mk (some 7) (AOp.load true 2 (Operand.tmp 3)) none, AOper.mk (some 8) (AOp.mov (Operand.tmp 2)) none, AOper.mk (some 9)
  (AOp.call 11 [Operand.tmp 7, Operand.tmp 8]) none, AOper.mk (some 10) (AOp.mov (Operand.tmp 9)) none, AOper.mk (some 11) (AOp.load true 2 (Operand.tmp
  3)) (some (10, true)), AOper.mk (some 12) (AOp.mov (Operand.tmp 1)) (some (10, true)), AOper.mk (some 13) (AOp.mov (Operand.tmp 2)) (some (10, true)),
  AOper.mk (some 14) (AOp.call 31 [Operand.tmp 11, Operand.tmp 12, Operand.tmp 13]) (some (10, true)), AOper.mk (some 15) (AOp.bin false BinOp.eql
  (Operand.tmp 14) (Operand.const (Value.int IntKind.i64 0))) (some (10, true)), AOper.mk (some 16) (AOp.pick (Operand.tmp 10) (Operand.tmp 15)
  (Operand.const (Value.bool false))) none, AOper.mk (some 17) (AOp.mov (Operand.tmp 16)) none, AOper.mk (some 18) (AOp.mov (Operand.tmp 2)) (some (17,
  true)), AOper.mk (some 19) (AOp.call 63 [Operand.tmp 18]) (some (17, true)), AOper.mk (some 20) (AOp.pick (Operand.tmp 17) (Operand.tmp 19)
  (Operand.const (Value.bool false))) none, AOper.mk (some 6) (AOp.mov (Operand.tmp 20)) none]) AC.ret)) [ARes.tmp 6]
theorem cfn32 : cfn Try.prog 32 3 = some c32 := by kernel_rfl
def c33 : AFn :=
  AFn.mk 11 (AC.seq (AC.ops [AOper.mk (some 4) (AOp.mov (Operand.const (Value.slice none 0 0))) none, AOper.mk (some 5) (AOp.mov (Operand.const
  (Value.int IntKind.i64 0))) none]) (AC.seq (AC.ops [AOper.mk (some 6) (AOp.mov (Operand.tmp 0)) none, AOper.mk (some 7) (AOp.mov (Operand.tmp 1)) none,
  AOper.mk (some 8) (AOp.call 64 [Operand.tmp 6, Operand.tmp 7, Operand.func 65]) none, AOper.mk (some 9) (AOp.ext (Operand.tmp 8) 0) none, AOper.mk
  (some 10) (AOp.ext (Operand.tmp 8) 1) none, AOper.mk (some 4) (AOp.mov (Operand.tmp 9)) none, AOper.mk (some 5) (AOp.mov (Operand.tmp 10)) none])
  AC.ret)) [ARes.tmp 4, ARes.tmp 5]
theorem cfn33 : cfn Try.prog 33 2 = some c33 := by kernel_rfl
def c34 : AFn :=
  AFn.mk 27 (AC.seq (AC.ops [AOper.mk (some 4) (AOp.mov (Operand.const (Value.int IntKind.i64 0))) none]) (AC.seq (AC.seq (AC.ops [AOper.mk (some 6)
  (AOp.mov (Operand.tmp 1)) none, AOper.mk (some 7) (AOp.bin false BinOp.lss (Operand.tmp 6) (Operand.const (Value.int IntKind.i64 1))) none, AOper.mk
  (some 8) (AOp.mov (Operand.tmp 7)) none, AOper.mk (some 9) (AOp.mov (Operand.tmp 1)) (some (8, false)), AOper.mk (some 10) (AOp.bin false BinOp.gtr
  (Operand.tmp 9) (Operand.const (Value.int IntKind.i64 12))) (some (8, false)), AOper.mk (some 11) (AOp.pick (Operand.tmp 8) (Operand.const (Value.bool
  true)) (Operand.tmp 10)) none]) (AC.cond (Operand.tmp 11) (AC.seq (AC.ops [AOper.mk (some 4) (AOp.mov (Operand.const (Value.int IntKind.i64 2))) none])
  AC.ret) AC.skip)) (AC.seq (AC.seq (AC.ops [AOper.mk (some 12) (AOp.mov (Operand.tmp 0)) none, AOper.mk (some 13) (AOp.len (Operand.tmp 12)) none,
  AOper.mk (some 14) (AOp.mov (Operand.tmp 1)) none, AOper.mk (some 15) (AOp.bin false BinOp.neq (Operand.tmp 13) (Operand.tmp 14)) none]) (AC.cond
  (Operand.tmp 15) (AC.seq (AC.ops [AOper.mk (some 4) (AOp.mov (Operand.const (Value.int IntKind.i64 8))) none]) AC.ret) AC.skip)) (AC.seq (AC.seq
  (AC.ops [AOper.mk (some 5) (AOp.mov (Operand.const (Value.int IntKind.i64 0))) none]) (AC.block 0 (AC.loop (AC.seq (AC.seq (AC.ops [AOper.mk (some 16)
  (AOp.mov (Operand.tmp 5)) none, AOper.mk (some 17) (AOp.mov (Operand.tmp 1)) none, AOper.mk (some 18) (AOp.bin false BinOp.lss (Operand.tmp 16)
  (Operand.tmp 17)) none]) (AC.cond (Operand.tmp 18) AC.skip (AC.exit 0))) (AC.seq (AC.block 1 (AC.seq (AC.ops [AOper.mk (some 21) (AOp.mov (Operand.tmp
  0)) none, AOper.mk (some 22) (AOp.mov (Operand.tmp 5)) none, AOper.mk (some 23) (AOp.iadr 1 (Operand.tmp 21) (Operand.tmp 22)) none, AOper.mk (some 24)
  (AOp.load false 1 (Operand.tmp 23)) none, AOper.mk (some 25) (AOp.call 66 [Operand.tmp 24]) none, AOper.mk (some 26) (AOp.un UnOp.not (Operand.tmp 25))
  none]) (AC.cond (Operand.tmp 26) (AC.seq (AC.ops [AOper.mk (some 4) (AOp.mov (Operand.const (Value.int IntKind.i64 2))) none]) AC.ret) AC.skip)))
  (AC.ops [AOper.mk (some 19) (AOp.mov (Operand.tmp 5)) none, AOper.mk (some 20) (AOp.bin false BinOp.add (Operand.tmp 19) (Operand.const (Value.int
  IntKind.i64 1))) none, AOper.mk (some 5) (AOp.mov (Operand.tmp 20)) none])))))) (AC.seq (AC.ops [AOper.mk (some 4) (AOp.mov (Operand.const (Value.int
  IntKind.i64 0))) none]) AC.ret))))) [ARes.tmp 4]
theorem cfn34 : cfn Try.prog 34 2 = some c34 := by kernel_rfl
def c35 : AFn :=
  AFn.mk 8 (AC.seq (AC.ops [AOper.mk (some 4) (AOp.mov (Operand.const (Value.bool false))) none]) (AC.seq (AC.ops [AOper.mk (some 5) (AOp.mov
  (Operand.tmp 0)) none, AOper.mk (some 6) (AOp.mov (Operand.tmp 1)) none, AOper.mk (some 7) (AOp.call 21 [Operand.tmp 5, Operand.tmp 6]) none, AOper.mk
  (some 4) (AOp.mov (Operand.tmp 7)) none]) AC.ret)) [ARes.tmp 4]
theorem cfn35 : cfn Try.prog 35 2 = some c35 := by kernel_rfl
def c36 : AFn :=
  AFn.mk 29 (AC.seq (AC.ops [AOper.mk (some 3) (AOp.box 24 (Operand.tmp 0)) none, AOper.mk (some 6) (AOp.mov (Operand.const (Value.slice none 0 0)))
  none, AOper.mk (some 7) (AOp.mov (Operand.const (Value.int IntKind.i64 0))) none]) (AC.seq (AC.seq (AC.ops [AOper.mk (some 10) (AOp.load true 2
  (Operand.tmp 3)) none, AOper.mk (some 11) (AOp.mov (Operand.tmp 1)) none, AOper.mk (some 12) (AOp.call 67 [Operand.tmp 10, Operand.tmp 11]) none,
  AOper.mk (some 8) (AOp.mov (Operand.tmp 12)) none]) (AC.seq (AC.ops [AOper.mk (some 13) (AOp.mov (Operand.tmp 8)) none, AOper.mk (some 14) (AOp.bin
  false BinOp.neq (Operand.tmp 13) (Operand.const (Value.int IntKind.i64 0))) none]) (AC.cond (Operand.tmp 14) (AC.seq (AC.ops [AOper.mk (some 15)
  (AOp.mov (Operand.tmp 8)) none, AOper.mk (some 6) (AOp.mov (Operand.const (Value.slice none 0 0))) none, AOper.mk (some 7) (AOp.mov (Operand.tmp 15))
  none]) AC.ret) AC.skip))) (AC.seq (AC.seq (AC.ops [AOper.mk (some 16) (AOp.load true 2 (Operand.tmp 3)) none, AOper.mk (some 17) (AOp.mov (Operand.tmp
  2)) none, AOper.mk (some 18) (AOp.call 68 [Operand.tmp 16, Operand.tmp 17]) none, AOper.mk (some 9) (AOp.mov (Operand.tmp 18)) none]) (AC.seq (AC.ops
  [AOper.mk (some 19) (AOp.mov (Operand.tmp 9)) none, AOper.mk (some 20) (AOp.bin false BinOp.neq (Operand.tmp 19) (Operand.const (Value.int IntKind.i64
  0))) none]) (AC.cond (Operand.tmp 20) (AC.seq (AC.ops [AOper.mk (some 21) (AOp.mov (Operand.tmp 9)) none, AOper.mk (some 6) (AOp.mov (Operand.const
  (Value.slice none 0 0))) none, AOper.mk (some 7) (AOp.mov (Operand.tmp 21)) none]) AC.ret) AC.skip))) (AC.seq (AC.ops [AOper.mk (some 22) (AOp.load
  true 2 (Operand.tmp 3)) none, AOper.mk (some 23) (AOp.mov (Operand.tmp 1)) none, AOper.mk (some 24) (AOp.mov (Operand.tmp 2)) none, AOper.mk (some 25)
  (AOp.call 70 [Operand.tmp 22, Operand.tmp 23, Operand.tmp 24]) none, AOper.mk (some 26) (AOp.call 69 [Operand.tmp 25]) none, AOper.mk (some 27)
  (AOp.ext (Operand.tmp 26) 0) none, AOper.mk (some 28) (AOp.ext (Operand.tmp 26) 1) none, AOper.mk (some 6) (AOp.mov (Operand.tmp 27)) none, AOper.mk
  (some 7) (AOp.mov (Operand.tmp 28)) none]) AC.ret)))) [ARes.tmp 6, ARes.tmp 7]
theorem cfn36 : cfn Try.prog 36 3 = some c36 := by kernel_rfl
def c37 : AFn :=
  AFn.mk 23 (AC.seq (AC.ops [AOper.mk (some 2) (AOp.box 24 (Operand.tmp 0)) none, AOper.mk (some 4) (AOp.mov (Operand.const (Value.int IntKind.i64 0)))
  none]) (AC.seq (AC.ops [AOper.mk (some 5) (AOp.mov (Operand.const (Value.int IntKind.i64 0))) none]) (AC.seq (AC.seq (AC.ops [AOper.mk (some 6)
  (AOp.mov (Operand.const (Value.int IntKind.i64 0))) none]) (AC.block 0 (AC.loop (AC.seq (AC.seq (AC.ops [AOper.mk (some 7) (AOp.mov (Operand.tmp 6))
  none, AOper.mk (some 8) (AOp.fadr 0 (Operand.tmp 2)) none, AOper.mk (some 9) (AOp.load false 1 (Operand.tmp 8)) none, AOper.mk (some 10) (AOp.bin false
  BinOp.lss (Operand.tmp 7) (Operand.tmp 9)) none]) (AC.cond (Operand.tmp 10) AC.skip (AC.exit 0))) (AC.seq (AC.block 1 (AC.seq (AC.ops [AOper.mk (some
  13) (AOp.mov (Operand.tmp 6)) none, AOper.mk (some 14) (AOp.mov (Operand.tmp 1)) none, AOper.mk (some 15) (AOp.bin false BinOp.neq (Operand.tmp 13)
  (Operand.tmp 14)) none]) (AC.cond (Operand.tmp 15) (AC.ops [AOper.mk (some 16) (AOp.mov (Operand.tmp 5)) none, AOper.mk (some 17) (AOp.load true 2
  (Operand.tmp 2)) none, AOper.mk (some 18) (AOp.mov (Operand.tmp 6)) none, AOper.mk (some 19) (AOp.mov (Operand.tmp 1)) none, AOper.mk (some 20)
  (AOp.call 71 [Operand.tmp 17, Operand.tmp 18, Operand.tmp 19]) none, AOper.mk (some 21) (AOp.bin false BinOp.add (Operand.tmp 16) (Operand.tmp 20))
  none, AOper.mk (some 5) (AOp.mov (Operand.tmp 21)) none]) AC.skip))) (AC.ops [AOper.mk (some 11) (AOp.mov (Operand.tmp 6)) none, AOper.mk (some 12)
  (AOp.bin false BinOp.add (Operand.tmp 11) (Operand.const (Value.int IntKind.i64 1))) none, AOper.mk (some 6) (AOp.mov (Operand.tmp 12)) none]))))))
  (AC.seq (AC.ops [AOper.mk (some 22) (AOp.mov (Operand.tmp 5)) none, AOper.mk (some 4) (AOp.mov (Operand.tmp 22)) none]) AC.ret)))) [ARes.tmp 4]
theorem cfn37 : cfn Try.prog 37 2 = some c37 := by kernel_rfl
def c38 : AFn :=
  AFn.mk 70 (AC.seq (AC.ops [AOper.mk (some 3) (AOp.box 24 (Operand.tmp 0)) none, AOper.mk (some 6) (AOp.mov (Operand.const (Value.slice none 0 0)))
  none, AOper.mk (some 7) (AOp.mov (Operand.const (Value.int IntKind.i64 0))) none, AOper.mk (some 8) (AOp.mov (Operand.const (Value.int IntKind.i64 0)))
  none]) (AC.seq (AC.seq (AC.ops [AOper.mk (some 17) (AOp.load true 2 (Operand.tmp 3)) none, AOper.mk (some 18) (AOp.mov (Operand.tmp 1)) none, AOper.mk
  (some 19) (AOp.call 67 [Operand.tmp 17, Operand.tmp 18]) none, AOper.mk (some 9) (AOp.mov (Operand.tmp 19)) none]) (AC.seq (AC.ops [AOper.mk (some 20)
  (AOp.mov (Operand.tmp 9)) none, AOper.mk (some 21) (AOp.bin false BinOp.neq (Operand.tmp 20) (Operand.const (Value.int IntKind.i64 0))) none]) (AC.cond
  (Operand.tmp 21) (AC.seq (AC.ops [AOper.mk (some 22) (AOp.mov (Operand.tmp 9)) none, AOper.mk (some 6) (AOp.mov (Operand.const (Value.slice none 0 0)))
  none, AOper.mk (some 7) (AOp.mov (Operand.const (Value.int IntKind.i64 0))) none, AOper.mk (some 8) (AOp.mov (Operand.tmp 22)) none]) AC.ret)
  AC.skip))) (AC.seq (AC.seq (AC.ops [AOper.mk (some 23) (AOp.load true 2 (Operand.tmp 3)) none, AOper.mk (some 24) (AOp.mov (Operand.tmp 2)) none,
  AOper.mk (some 25) (AOp.call 72 [Operand.tmp 23, Operand.tmp 24]) none, AOper.mk (some 10) (AOp.mov (Operand.tmp 25)) none]) (AC.seq (AC.ops [AOper.mk
  (some 26) (AOp.mov (Operand.tmp 10)) none, AOper.mk (some 27) (AOp.bin false BinOp.neq (Operand.tmp 26) (Operand.const (Value.int IntKind.i64 0)))
  none]) (AC.cond (Operand.tmp 27) (AC.seq (AC.ops [AOper.mk (some 28) (AOp.mov (Operand.tmp 10)) none, AOper.mk (some 6) (AOp.mov (Operand.const
  (Value.slice none 0 0))) none, AOper.mk (some 7) (AOp.mov (Operand.const (Value.int IntKind.i64 0))) none, AOper.mk (some 8) (AOp.mov (Operand.tmp 28))
  none]) AC.ret) AC.skip))) (AC.seq (AC.segs [([AOper.mk (some 29) (AOp.load true 2 (Operand.tmp 3)) none, AOper.mk (some 30) (AOp.mov (Operand.tmp 1))
  none], some (true, AOper.mk (some 31) (AOp.call 73 [Operand.tmp 30]) none)), ([AOper.mk (some 32) (AOp.bld [PV.v (Value.int IntKind.i64 0), PV.v
  (Value.slice none 0 0), PV.v (Value.slice none 0 0)] [(0, 2), (2, 1)] [(0, Operand.tmp 29), (1, Operand.tmp 31)]) none], some (true, AOper.mk (some 33)
  (AOp.box 114 (Operand.tmp 32)) none)), ([AOper.mk (some 11) (AOp.mov (Operand.tmp 33)) none], none)]) (AC.seq (AC.ops [AOper.mk (some 34) (AOp.mov
  (Operand.tmp 11)) none, AOper.mk (some 35) (AOp.fn (Fn.func 74) [Operand.tmp 34] []) none, AOper.mk (some 12) (AOp.mov (Operand.tmp 35)) none]) (AC.seq
  (AC.seq (AC.ops [AOper.mk (some 36) (AOp.mov (Operand.tmp 2)) none, AOper.mk (some 37) (AOp.len (Operand.tmp 36)) none, AOper.mk (some 38) (AOp.mov
  (Operand.const (Value.int IntKind.i64 0))) none]) (AC.block 0 (AC.loop (AC.seq (AC.ops [AOper.mk (some 39) (AOp.bin false BinOp.lss (Operand.tmp 38)
  (Operand.tmp 37)) none]) (AC.seq (AC.cond (Operand.tmp 39) AC.skip (AC.exit 0)) (AC.seq (AC.block 1 (AC.seq (AC.ops [AOper.mk (some 40) (AOp.mov
  (Operand.tmp 38)) none, AOper.mk (some 41) (AOp.iadr 1 (Operand.tmp 36) (Operand.tmp 38)) none, AOper.mk (some 42) (AOp.load false 1 (Operand.tmp 41))
  none, AOper.mk (some 13) (AOp.mov (Operand.tmp 40)) none, AOper.mk (some 14) (AOp.mov (Operand.tmp 42)) none]) (AC.seq (AC.seq (AC.ops [AOper.mk (some
  43) (AOp.mov (Operand.tmp 12)) none, AOper.mk (some 44) (AOp.mov (Operand.tmp 14)) none, AOper.mk (some 45) (AOp.callv (Operand.tmp 43) [Operand.tmp
  44]) none, AOper.mk (some 46) (AOp.un UnOp.not (Operand.tmp 45)) none]) (AC.cond (Operand.tmp 46) (AC.seq (AC.ops [AOper.mk (some 47) (AOp.mov
  (Operand.tmp 13)) none, AOper.mk (some 6) (AOp.mov (Operand.const (Value.slice none 0 0))) none, AOper.mk (some 7) (AOp.mov (Operand.tmp 47)) none,
  AOper.mk (some 8) (AOp.mov (Operand.const (Value.int IntKind.i64 18))) none]) AC.ret) AC.skip)) (AC.seq (AC.ops [AOper.mk (some 48) (AOp.mov
  (Operand.tmp 11)) none, AOper.mk (some 49) (AOp.mov (Operand.tmp 14)) none, AOper.mk (some 50) (AOp.call 75 [Operand.tmp 48, Operand.tmp 49]) none])
  (AC.seq (AC.ops [AOper.mk (some 52) (AOp.mov (Operand.tmp 11)) none, AOper.mk (some 53) (AOp.nilc (Operand.tmp 52)) none, AOper.mk (some 54) (AOp.fadr
  2 (Operand.tmp 53)) none, AOper.mk (some 55) (AOp.load false 1 (Operand.tmp 54)) none, AOper.mk (some 56) (AOp.call 69 [Operand.tmp 55]) none, AOper.mk
  (some 51) (AOp.mov (Operand.tmp 56)) none, AOper.mk (some 57) (AOp.ext (Operand.tmp 51) 0) none, AOper.mk (some 58) (AOp.ext (Operand.tmp 51) 1) none,
  AOper.mk (some 15) (AOp.mov (Operand.tmp 57)) none, AOper.mk (some 16) (AOp.mov (Operand.tmp 58)) none]) (AC.seq (AC.ops [AOper.mk (some 59) (AOp.mov
  (Operand.tmp 16)) none, AOper.mk (some 60) (AOp.bin false BinOp.neq (Operand.tmp 59) (Operand.const (Value.int IntKind.i64 0))) none]) (AC.cond
  (Operand.tmp 60) (AC.seq (AC.ops [AOper.mk (some 61) (AOp.mov (Operand.tmp 13)) none, AOper.mk (some 62) (AOp.mov (Operand.tmp 16)) none, AOper.mk
  (some 6) (AOp.mov (Operand.const (Value.slice none 0 0))) none, AOper.mk (some 7) (AOp.mov (Operand.tmp 61)) none, AOper.mk (some 8) (AOp.mov
  (Operand.tmp 62)) none]) AC.ret) AC.skip))))))) (AC.ops [AOper.mk (some 63) (AOp.bin false BinOp.add (Operand.tmp 38) (Operand.const (Value.int
  IntKind.i64 1))) none, AOper.mk (some 38) (AOp.mov (Operand.tmp 63)) none]))))))) (AC.seq (AC.ops [AOper.mk (some 64) (AOp.mov (Operand.tmp 11)) none,
  AOper.mk (some 65) (AOp.nilc (Operand.tmp 64)) none, AOper.mk (some 66) (AOp.fadr 2 (Operand.tmp 65)) none, AOper.mk (some 67) (AOp.load false 1
  (Operand.tmp 66)) none, AOper.mk (some 68) (AOp.mov (Operand.tmp 2)) none, AOper.mk (some 69) (AOp.len (Operand.tmp 68)) none, AOper.mk (some 6)
  (AOp.mov (Operand.tmp 67)) none, AOper.mk (some 7) (AOp.mov (Operand.tmp 69)) none, AOper.mk (some 8) (AOp.mov (Operand.const (Value.int IntKind.i64
  0))) none]) AC.ret))))))) [ARes.tmp 6, ARes.tmp 7, ARes.tmp 8]
theorem cfn38 : cfn Try.prog 38 3 = some c38 := by kernel_rfl
def c39 : AFn :=
  AFn.mk 39 (AC.seq (AC.ops [AOper.mk (some 2) (AOp.box 24 (Operand.tmp 0)) none, AOper.mk (some 4) (AOp.mov (Operand.const (Value.slice none 0 0)))
  none, AOper.mk (some 5) (AOp.mov (Operand.const (Value.int IntKind.i64 0))) none]) (AC.seq (AC.seq (AC.ops [AOper.mk (some 11) (AOp.load true 2
  (Operand.tmp 2)) none, AOper.mk (some 12) (AOp.call 76 [Operand.tmp 11]) none, AOper.mk (some 6) (AOp.mov (Operand.tmp 12)) none]) (AC.seq (AC.ops
  [AOper.mk (some 13) (AOp.mov (Operand.tmp 6)) none, AOper.mk (some 14) (AOp.bin false BinOp.neq (Operand.tmp 13) (Operand.const (Value.int IntKind.i64
  0))) none]) (AC.cond (Operand.tmp 14) (AC.seq (AC.ops [AOper.mk (some 15) (AOp.mov (Operand.tmp 6)) none, AOper.mk (some 4) (AOp.mov (Operand.const
  (Value.slice none 0 0))) none, AOper.mk (some 5) (AOp.mov (Operand.tmp 15)) none]) AC.ret) AC.skip))) (AC.seq (AC.seq (AC.ops [AOper.mk (some 16)
  (AOp.load true 2 (Operand.tmp 2)) none, AOper.mk (some 17) (AOp.mov (Operand.tmp 1)) none, AOper.mk (some 18) (AOp.call 72 [Operand.tmp 16, Operand.tmp
  17]) none, AOper.mk (some 7) (AOp.mov (Operand.tmp 18)) none]) (AC.seq (AC.ops [AOper.mk (some 19) (AOp.mov (Operand.tmp 7)) none, AOper.mk (some 20)
  (AOp.bin false BinOp.neq (Operand.tmp 19) (Operand.const (Value.int IntKind.i64 0))) none]) (AC.cond (Operand.tmp 20) (AC.seq (AC.ops [AOper.mk (some
  21) (AOp.mov (Operand.tmp 7)) none, AOper.mk (some 4) (AOp.mov (Operand.const (Value.slice none 0 0))) none, AOper.mk (some 5) (AOp.mov (Operand.tmp
  21)) none]) AC.ret) AC.skip))) (AC.seq (AC.ops [AOper.mk (some 22) (AOp.fadr 0 (Operand.tmp 2)) none, AOper.mk (some 23) (AOp.load false 1 (Operand.tmp
  22)) none, AOper.mk (some 24) (AOp.mk 3 1 (PV.v (Value.int IntKind.i64 0)) (Operand.tmp 23) (Operand.tmp 23)) none, AOper.mk (some 8) (AOp.mov
  (Operand.tmp 24)) none]) (AC.seq (AC.seq (AC.ops [AOper.mk (some 25) (AOp.mov (Operand.tmp 1)) none, AOper.mk (some 26) (AOp.len (Operand.tmp 25))
  none, AOper.mk (some 27) (AOp.mov (Operand.const (Value.int IntKind.i64 0))) none]) (AC.block 0 (AC.loop (AC.seq (AC.ops [AOper.mk (some 28) (AOp.bin
  false BinOp.lss (Operand.tmp 27) (Operand.tmp 26)) none]) (AC.seq (AC.cond (Operand.tmp 28) AC.skip (AC.exit 0)) (AC.seq (AC.block 1 (AC.seq (AC.ops
  [AOper.mk (some 29) (AOp.iadr 1 (Operand.tmp 25) (Operand.tmp 27)) none, AOper.mk (some 30) (AOp.load false 1 (Operand.tmp 29)) none, AOper.mk (some
  10) (AOp.mov (Operand.tmp 30)) none]) (AC.ops [AOper.mk (some 31) (AOp.mov (Operand.tmp 8)) none, AOper.mk (some 32) (AOp.mov (Operand.tmp 10)) none,
  AOper.mk (some 33) (AOp.iadr 1 (Operand.tmp 31) (Operand.tmp 32)) none, AOper.mk (some 34) (AOp.load false 1 (Operand.tmp 33)) none, AOper.mk (some 35)
  (AOp.bin false BinOp.add (Operand.tmp 34) (Operand.const (Value.int IntKind.i64 1))) none, AOper.mk (some 36) (AOp.iadr 1 (Operand.tmp 31) (Operand.tmp
  32)) none, AOper.mk none (AOp.store 1 (Operand.tmp 36) (Operand.tmp 35)) none]))) (AC.ops [AOper.mk (some 37) (AOp.bin false BinOp.add (Operand.tmp 27)
  (Operand.const (Value.int IntKind.i64 1))) none, AOper.mk (some 27) (AOp.mov (Operand.tmp 37)) none]))))))) (AC.seq (AC.ops [AOper.mk (some 38)
  (AOp.mov (Operand.tmp 8)) none, AOper.mk (some 4) (AOp.mov (Operand.tmp 38)) none, AOper.mk (some 5) (AOp.mov (Operand.const (Value.int IntKind.i64
  0))) none]) AC.ret)))))) [ARes.tmp 4, ARes.tmp 5]
theorem cfn39 : cfn Try.prog 39 2 = some c39 := by kernel_rfl
def c40 : AFn :=
  AFn.mk 9 (AC.seq (AC.ops [AOper.mk (some 4) (AOp.mov (Operand.const (Value.bool false))) none]) (AC.seq (AC.ops [AOper.mk (some 5) (AOp.mov
  (Operand.tmp 0)) none, AOper.mk (some 6) (AOp.mov (Operand.tmp 1)) none, AOper.mk (some 7) (AOp.call 77 [Operand.tmp 5, Operand.tmp 6]) none, AOper.mk
  (some 8) (AOp.bin false BinOp.geq (Operand.tmp 7) (Operand.const (Value.int IntKind.i64 0))) none, AOper.mk (some 4) (AOp.mov (Operand.tmp 8)) none])
  AC.ret)) [ARes.tmp 4]
theorem cfn40 : cfn Try.prog 40 2 = some c40 := by kernel_rfl
def c41 : AFn :=
  AFn.mk 5 (AC.seq (AC.ops [AOper.mk (some 1) (AOp.box 24 (Operand.tmp 0)) none, AOper.mk (some 2) (AOp.mov (Operand.const (Value.bool false))) none])
  (AC.seq (AC.ops [AOper.mk (some 3) (AOp.load true 2 (Operand.tmp 1)) none, AOper.mk (some 4) (AOp.call 78 [Operand.tmp 3, Operand.const (Value.int
  IntKind.i64 6), Operand.const (Value.int IntKind.i64 9)]) none, AOper.mk (some 2) (AOp.mov (Operand.tmp 4)) none]) AC.ret)) [ARes.tmp 2]
theorem cfn41 : cfn Try.prog 41 1 = some c41 := by kernel_rfl
def c42 : AFn :=
  AFn.mk 6 (AC.seq (AC.ops [AOper.mk (some 2) (AOp.mov (Operand.const (Value.bool false))) none]) (AC.seq (AC.ops [AOper.mk (some 3) (AOp.mov
  (Operand.tmp 0)) none, AOper.mk (some 4) (AOp.len (Operand.tmp 3)) none, AOper.mk (some 5) (AOp.bin false BinOp.leq (Operand.tmp 4) (Operand.const
  (Value.int IntKind.i64 24))) none, AOper.mk (some 2) (AOp.mov (Operand.tmp 5)) none]) AC.ret)) [ARes.tmp 2]
theorem cfn42 : cfn Try.prog 42 1 = some c42 := by kernel_rfl
def c43 : AFn :=
  AFn.mk 6 (AC.seq (AC.ops [AOper.mk (some 0) (AOp.zro 24 (PV.agg [PV.v (Value.int IntKind.i64 0), PV.v (Value.slice none 0 0)])) none]) (AC.seq (AC.ops
  [AOper.mk (some 1) (AOp.bld [PV.v (Value.int IntKind.i64 0), PV.v (Value.int IntKind.i64 0), PV.v (Value.int IntKind.i64 0)] [(0, 1), (1, 1), (2, 1)]
  [(0, Operand.const (Value.int IntKind.i64 0)), (1, Operand.const (Value.int IntKind.i64 1)), (2, Operand.const (Value.int IntKind.i64 1))]) none,
  AOper.mk (some 2) (AOp.bld [PV.v (Value.int IntKind.i64 0), PV.v (Value.int IntKind.i64 0), PV.v (Value.int IntKind.i64 0)] [(0, 1), (1, 1), (2, 1)]
  [(0, Operand.const (Value.int IntKind.i64 0)), (1, Operand.const (Value.int IntKind.i64 2)), (2, Operand.const (Value.int IntKind.i64 1))]) none,
  AOper.mk (some 3) (AOp.bld [PV.v (Value.int IntKind.i64 0), PV.v (Value.int IntKind.i64 0), PV.v (Value.int IntKind.i64 0)] [(0, 1), (1, 1), (2, 1)]
  [(0, Operand.const (Value.int IntKind.i64 1)), (1, Operand.const (Value.int IntKind.i64 2)), (2, Operand.const (Value.int IntKind.i64 1))]) none,
  AOper.mk (some 4) (AOp.bsl 120 3 [Operand.tmp 1, Operand.tmp 2, Operand.tmp 3]) none, AOper.mk (some 5) (AOp.bld [PV.v (Value.int IntKind.i64 0), PV.v
  (Value.slice none 0 0)] [(0, 1), (1, 1)] [(0, Operand.const (Value.int IntKind.i64 3)), (1, Operand.tmp 4)]) none, AOper.mk none (AOp.store 2
  (Operand.tmp 0) (Operand.tmp 5)) none]) AC.ret)) [ARes.cell 0 true 2]
theorem cfn43 : cfn Try.prog 43 0 = some c43 := by kernel_rfl
def c44 : AFn :=
  AFn.mk 22 (AC.seq (AC.ops [AOper.mk (some 3) (AOp.box 24 (Operand.tmp 0)) none, AOper.mk (some 6) (AOp.mov (Operand.const (Value.pointer none))) none,
  AOper.mk (some 7) (AOp.mov (Operand.const (Value.int IntKind.i64 0))) none]) (AC.seq (AC.seq (AC.ops [AOper.mk (some 9) (AOp.load true 2 (Operand.tmp
  3)) none, AOper.mk (some 10) (AOp.mov (Operand.tmp 1)) none, AOper.mk (some 11) (AOp.mov (Operand.tmp 2)) none, AOper.mk (some 12) (AOp.call 30
  [Operand.tmp 9, Operand.tmp 10, Operand.tmp 11]) none, AOper.mk (some 8) (AOp.mov (Operand.tmp 12)) none]) (AC.seq (AC.ops [AOper.mk (some 13) (AOp.mov
  (Operand.tmp 8)) none, AOper.mk (some 14) (AOp.bin false BinOp.neq (Operand.tmp 13) (Operand.const (Value.int IntKind.i64 0))) none]) (AC.cond
  (Operand.tmp 14) (AC.seq (AC.ops [AOper.mk (some 15) (AOp.mov (Operand.tmp 8)) none, AOper.mk (some 6) (AOp.mov (Operand.const (Value.pointer none)))
  none, AOper.mk (some 7) (AOp.mov (Operand.tmp 15)) none]) AC.ret) AC.skip))) (AC.seq (AC.ops [AOper.mk (some 16) (AOp.load true 2 (Operand.tmp 3))
  none, AOper.mk (some 17) (AOp.mov (Operand.tmp 1)) none, AOper.mk (some 18) (AOp.mov (Operand.tmp 2)) none, AOper.mk (some 19) (AOp.call 51
  [Operand.tmp 16, Operand.tmp 17, Operand.tmp 18]) none, AOper.mk (some 20) (AOp.ext (Operand.tmp 19) 0) none, AOper.mk (some 21) (AOp.ext (Operand.tmp
  19) 1) none, AOper.mk (some 6) (AOp.mov (Operand.tmp 20)) none, AOper.mk (some 7) (AOp.mov (Operand.tmp 21)) none]) AC.ret))) [ARes.tmp 6, ARes.tmp 7]
theorem cfn44 : cfn Try.prog 44 3 = some c44 := by kernel_rfl
def c45 : AFn :=
  AFn.mk 20 (AC.seq (AC.ops [AOper.mk (some 2) (AOp.mov (Operand.const (Value.int IntKind.i64 0))) none]) (AC.seq (AC.seq (AC.ops [AOper.mk (some 4)
  (AOp.mov (Operand.tmp 0)) none, AOper.mk (some 5) (AOp.call 60 [Operand.tmp 4]) none, AOper.mk (some 3) (AOp.mov (Operand.tmp 5)) none]) (AC.seq
  (AC.ops [AOper.mk (some 6) (AOp.mov (Operand.tmp 3)) none, AOper.mk (some 7) (AOp.bin false BinOp.neq (Operand.tmp 6) (Operand.const (Value.int
  IntKind.i64 0))) none]) (AC.cond (Operand.tmp 7) (AC.seq (AC.ops [AOper.mk (some 8) (AOp.mov (Operand.tmp 3)) none, AOper.mk (some 2) (AOp.mov
  (Operand.tmp 8)) none]) AC.ret) AC.skip))) (AC.seq (AC.seq (AC.segs [([AOper.mk (some 9) (AOp.mov (Operand.tmp 0)) none, AOper.mk (some 10) (AOp.nilc
  (Operand.tmp 9)) none, AOper.mk (some 11) (AOp.fadr 0 (Operand.tmp 10)) none, AOper.mk (some 12) (AOp.load false 1 (Operand.tmp 11)) none, AOper.mk
  (some 13) (AOp.mov (Operand.tmp 0)) none, AOper.mk (some 14) (AOp.nilc (Operand.tmp 13)) none, AOper.mk (some 15) (AOp.fadr 1 (Operand.tmp 14)) none,
  AOper.mk (some 16) (AOp.load false 1 (Operand.tmp 15)) none, AOper.mk (some 17) (AOp.iadr 1 (Operand.tmp 12) (Operand.tmp 16)) none, AOper.mk (some 18)
  (AOp.load false 1 (Operand.tmp 17)) none, AOper.mk (some 19) (AOp.bin false BinOp.gtr (Operand.tmp 18) (Operand.const (Value.int IntKind.i64 1048576)))
  none], none)]) (AC.cond (Operand.tmp 19) (AC.seq (AC.ops [AOper.mk (some 2) (AOp.mov (Operand.const (Value.int IntKind.i64 11))) none]) AC.ret)
  AC.skip)) (AC.seq (AC.ops [AOper.mk (some 2) (AOp.mov (Operand.const (Value.int IntKind.i64 0))) none]) AC.ret)))) [ARes.tmp 2]
theorem cfn45 : cfn Try.prog 45 1 = some c45 := by kernel_rfl
def c46 : AFn :=
  AFn.mk 92 (AC.seq (AC.ops [AOper.mk (some 3) (AOp.box 24 (Operand.tmp 0)) none, AOper.mk (some 6) (AOp.zro 88 (PV.agg [PV.v (Value.slice none 0 0),
  PV.v (Value.slice none 0 0), PV.v (Value.slice none 0 0), PV.v (Value.int IntKind.i64 0), PV.v (Value.bool false)])) none]) (AC.seq (AC.segs
  [([AOper.mk (some 12) (AOp.load true 2 (Operand.tmp 3)) none, AOper.mk (some 14) (AOp.load true 2 (Operand.tmp 3)) none], some (true, AOper.mk (some
  13) (AOp.call 79 [Operand.tmp 12]) none)), ([], some (true, AOper.mk (some 15) (AOp.call 80 [Operand.tmp 14]) none)), ([AOper.mk (some 7) (AOp.mov
  (Operand.tmp 13)) none, AOper.mk (some 8) (AOp.mov (Operand.tmp 15)) none], none)]) (AC.seq (AC.tree (AT.look [AOper.mk (some 17) (AOp.mov (Operand.tmp
  2)) none] (AT.fork true (AOper.mk (some 16) (AOp.bsl 3 1 []) none) (AT.fork false (AOper.mk (some 18) (AOp.app 3 1 (Operand.tmp 16) (Operand.tmp 17))
  none) (AT.look [AOper.mk (some 19) (AOp.fadr 0 (Operand.tmp 3)) none, AOper.mk (some 20) (AOp.load false 1 (Operand.tmp 19)) none] (AT.fork true
  (AOper.mk (some 21) (AOp.mk 3 1 (PV.v (Value.int IntKind.i64 0)) (Operand.tmp 20) (Operand.tmp 20)) none) (AT.look [AOper.mk (some 22) (AOp.bld [PV.v
  (Value.slice none 0 0), PV.v (Value.slice none 0 0), PV.v (Value.slice none 0 0), PV.v (Value.int IntKind.i64 0), PV.v (Value.bool false)] [(0, 1), (1,
  1), (2, 1), (3, 1), (4, 1)] [(0, Operand.tmp 18), (1, Operand.tmp 21)]) none] (AT.act true (AOper.mk (some 9) (AOp.zro 88 (PV.agg [PV.v (Value.slice
  none 0 0), PV.v (Value.slice none 0 0), PV.v (Value.slice none 0 0), PV.v (Value.int IntKind.i64 0), PV.v (Value.bool false)])) none) (AT.act false
  (AOper.mk none (AOp.store 5 (Operand.tmp 9) (Operand.tmp 22)) none) AT.done))) (AT.act true (AOper.mk (some 9) (AOp.zro 88 (PV.agg [PV.v (Value.slice
  none 0 0), PV.v (Value.slice none 0 0), PV.v (Value.slice none 0 0), PV.v (Value.int IntKind.i64 0), PV.v (Value.bool false)])) none) (AT.act true
  (AOper.mk (some 21) (AOp.mk 3 1 (PV.v (Value.int IntKind.i64 0)) (Operand.tmp 20) (Operand.tmp 20)) none) (AT.look [AOper.mk (some 22) (AOp.bld [PV.v
  (Value.slice none 0 0), PV.v (Value.slice none 0 0), PV.v (Value.slice none 0 0), PV.v (Value.int IntKind.i64 0), PV.v (Value.bool false)] [(0, 1), (1,
  1), (2, 1), (3, 1), (4, 1)] [(0, Operand.tmp 18), (1, Operand.tmp 21)]) none] (AT.act false (AOper.mk none (AOp.store 5 (Operand.tmp 9) (Operand.tmp
  22)) none) AT.done)))))) (AT.fork true (AOper.mk (some 19) (AOp.fadr 0 (Operand.tmp 3)) none) (AT.fork false (AOper.mk (some 18) (AOp.app 3 1
  (Operand.tmp 16) (Operand.tmp 17)) none) (AT.look [AOper.mk (some 20) (AOp.load false 1 (Operand.tmp 19)) none] (AT.fork true (AOper.mk (some 21)
  (AOp.mk 3 1 (PV.v (Value.int IntKind.i64 0)) (Operand.tmp 20) (Operand.tmp 20)) none) (AT.look [AOper.mk (some 22) (AOp.bld [PV.v (Value.slice none 0
  0), PV.v (Value.slice none 0 0), PV.v (Value.slice none 0 0), PV.v (Value.int IntKind.i64 0), PV.v (Value.bool false)] [(0, 1), (1, 1), (2, 1), (3, 1),
  (4, 1)] [(0, Operand.tmp 18), (1, Operand.tmp 21)]) none] (AT.act true (AOper.mk (some 9) (AOp.zro 88 (PV.agg [PV.v (Value.slice none 0 0), PV.v
  (Value.slice none 0 0), PV.v (Value.slice none 0 0), PV.v (Value.int IntKind.i64 0), PV.v (Value.bool false)])) none) (AT.act false (AOper.mk none
  (AOp.store 5 (Operand.tmp 9) (Operand.tmp 22)) none) AT.done))) (AT.act true (AOper.mk (some 9) (AOp.zro 88 (PV.agg [PV.v (Value.slice none 0 0), PV.v
  (Value.slice none 0 0), PV.v (Value.slice none 0 0), PV.v (Value.int IntKind.i64 0), PV.v (Value.bool false)])) none) (AT.act true (AOper.mk (some 21)
  (AOp.mk 3 1 (PV.v (Value.int IntKind.i64 0)) (Operand.tmp 20) (Operand.tmp 20)) none) (AT.look [AOper.mk (some 22) (AOp.bld [PV.v (Value.slice none 0
  0), PV.v (Value.slice none 0 0), PV.v (Value.slice none 0 0), PV.v (Value.int IntKind.i64 0), PV.v (Value.bool false)] [(0, 1), (1, 1), (2, 1), (3, 1),
  (4, 1)] [(0, Operand.tmp 18), (1, Operand.tmp 21)]) none] (AT.act false (AOper.mk none (AOp.store 5 (Operand.tmp 9) (Operand.tmp 22)) none)
  AT.done)))))) (AT.fork true (AOper.mk (some 20) (AOp.load false 1 (Operand.tmp 19)) none) (AT.fork false (AOper.mk (some 18) (AOp.app 3 1 (Operand.tmp
  16) (Operand.tmp 17)) none) (AT.fork true (AOper.mk (some 21) (AOp.mk 3 1 (PV.v (Value.int IntKind.i64 0)) (Operand.tmp 20) (Operand.tmp 20)) none)
  (AT.look [AOper.mk (some 22) (AOp.bld [PV.v (Value.slice none 0 0), PV.v (Value.slice none 0 0), PV.v (Value.slice none 0 0), PV.v (Value.int
  IntKind.i64 0), PV.v (Value.bool false)] [(0, 1), (1, 1), (2, 1), (3, 1), (4, 1)] [(0, Operand.tmp 18), (1, Operand.tmp 21)]) none] (AT.act true
  (AOper.mk (some 9) (AOp.zro 88 (PV.agg [PV.v (Value.slice none 0 0), PV.v (Value.slice none 0 0), PV.v (Value.slice none 0 0), PV.v (Value.int
  IntKind.i64 0), PV.v (Value.bool false)])) none) (AT.act false (AOper.mk none (AOp.store 5 (Operand.tmp 9) (Operand.tmp 22)) none) AT.done))) (AT.act
  true (AOper.mk (some 9) (AOp.zro 88 (PV.agg [PV.v (Value.slice none 0 0), PV.v (Value.slice none 0 0), PV.v (Value.slice none 0 0), PV.v (Value.int
  IntKind.i64 0), PV.v (Value.bool false)])) none) (AT.act true (AOper.mk (some 21) (AOp.mk 3 1 (PV.v (Value.int IntKind.i64 0)) (Operand.tmp 20)
  (Operand.tmp 20)) none) (AT.look [AOper.mk (some 22) (AOp.bld [PV.v (Value.slice none 0 0), PV.v (Value.slice none 0 0), PV.v (Value.slice none 0 0),
  PV.v (Value.int IntKind.i64 0), PV.v (Value.bool false)] [(0, 1), (1, 1), (2, 1), (3, 1), (4, 1)] [(0, Operand.tmp 18), (1, Operand.tmp 21)]) none]
  (AT.act false (AOper.mk none (AOp.store 5 (Operand.tmp 9) (Operand.tmp 22)) none) AT.done))))) (AT.fork true (AOper.mk (some 21) (AOp.mk 3 1 (PV.v
  (Value.int IntKind.i64 0)) (Operand.tmp 20) (Operand.tmp 20)) none) (AT.fork false (AOper.mk (some 18) (AOp.app 3 1 (Operand.tmp 16) (Operand.tmp 17))
  none) (AT.look [AOper.mk (some 22) (AOp.bld [PV.v (Value.slice none 0 0), PV.v (Value.slice none 0 0), PV.v (Value.slice none 0 0), PV.v (Value.int
  IntKind.i64 0), PV.v (Value.bool false)] [(0, 1), (1, 1), (2, 1), (3, 1), (4, 1)] [(0, Operand.tmp 18), (1, Operand.tmp 21)]) none] (AT.act true
  (AOper.mk (some 9) (AOp.zro 88 (PV.agg [PV.v (Value.slice none 0 0), PV.v (Value.slice none 0 0), PV.v (Value.slice none 0 0), PV.v (Value.int
  IntKind.i64 0), PV.v (Value.bool false)])) none) (AT.act false (AOper.mk none (AOp.store 5 (Operand.tmp 9) (Operand.tmp 22)) none) AT.done))) (AT.act
  true (AOper.mk (some 9) (AOp.zro 88 (PV.agg [PV.v (Value.slice none 0 0), PV.v (Value.slice none 0 0), PV.v (Value.slice none 0 0), PV.v (Value.int
  IntKind.i64 0), PV.v (Value.bool false)])) none) (AT.act false (AOper.mk (some 18) (AOp.app 3 1 (Operand.tmp 16) (Operand.tmp 17)) none) (AT.look
  [AOper.mk (some 22) (AOp.bld [PV.v (Value.slice none 0 0), PV.v (Value.slice none 0 0), PV.v (Value.slice none 0 0), PV.v (Value.int IntKind.i64 0),
  PV.v (Value.bool false)] [(0, 1), (1, 1), (2, 1), (3, 1), (4, 1)] [(0, Operand.tmp 18), (1, Operand.tmp 21)]) none] (AT.act false (AOper.mk none
  (AOp.store 5 (Operand.tmp 9) (Operand.tmp 22)) none) AT.done))))) (AT.act true (AOper.mk (some 9) (AOp.zro 88 (PV.agg [PV.v (Value.slice none 0 0),
  PV.v (Value.slice none 0 0), PV.v (Value.slice none 0 0), PV.v (Value.int IntKind.i64 0), PV.v (Value.bool false)])) none) (AT.fork false (AOper.mk
  (some 18) (AOp.app 3 1 (Operand.tmp 16) (Operand.tmp 17)) none) (AT.act true (AOper.mk (some 21) (AOp.mk 3 1 (PV.v (Value.int IntKind.i64 0))
  (Operand.tmp 20) (Operand.tmp 20)) none) (AT.look [AOper.mk (some 22) (AOp.bld [PV.v (Value.slice none 0 0), PV.v (Value.slice none 0 0), PV.v
  (Value.slice none 0 0), PV.v (Value.int IntKind.i64 0), PV.v (Value.bool false)] [(0, 1), (1, 1), (2, 1), (3, 1), (4, 1)] [(0, Operand.tmp 18), (1,
  Operand.tmp 21)]) none] (AT.act false (AOper.mk none (AOp.store 5 (Operand.tmp 9) (Operand.tmp 22)) none) AT.done))) (AT.act true (AOper.mk (some 21)
  (AOp.mk 3 1 (PV.v (Value.int IntKind.i64 0)) (Operand.tmp 20) (Operand.tmp 20)) none) (AT.act false (AOper.mk (some 18) (AOp.app 3 1 (Operand.tmp 16)
  (Operand.tmp 17)) none) (AT.look [AOper.mk (some 22) (AOp.bld [PV.v (Value.slice none 0 0), PV.v (Value.slice none 0 0), PV.v (Value.slice none 0 0),
  PV.v (Value.int IntKind.i64 0), PV.v (Value.bool false)] [(0, 1), (1, 1), (2, 1), (3, 1), (4, 1)] [(0, Operand.tmp 18), (1, Operand.tmp 21)]) none]
  (AT.act false (AOper.mk none (AOp.store 5 (Operand.tmp 9) (Operand.tmp 22)) none) AT.done)))))))) (AT.act true (AOper.mk (some 9) (AOp.zro 88 (PV.agg
  [PV.v (Value.slice none 0 0), PV.v (Value.slice none 0 0), PV.v (Value.slice none 0 0), PV.v (Value.int IntKind.i64 0), PV.v (Value.bool false)]))
  none) (AT.fork false (AOper.mk (some 18) (AOp.app 3 1 (Operand.tmp 16) (Operand.tmp 17)) none) (AT.look [AOper.mk (some 20) (AOp.load false 1
  (Operand.tmp 19)) none] (AT.act true (AOper.mk (some 21) (AOp.mk 3 1 (PV.v (Value.int IntKind.i64 0)) (Operand.tmp 20) (Operand.tmp 20)) none) (AT.look
  [AOper.mk (some 22) (AOp.bld [PV.v (Value.slice none 0 0), PV.v (Value.slice none 0 0), PV.v (Value.slice none 0 0), PV.v (Value.int IntKind.i64 0),
  PV.v (Value.bool false)] [(0, 1), (1, 1), (2, 1), (3, 1), (4, 1)] [(0, Operand.tmp 18), (1, Operand.tmp 21)]) none] (AT.act false (AOper.mk none
  (AOp.store 5 (Operand.tmp 9) (Operand.tmp 22)) none) AT.done)))) (AT.act true (AOper.mk (some 20) (AOp.load false 1 (Operand.tmp 19)) none) (AT.fork
  false (AOper.mk (some 18) (AOp.app 3 1 (Operand.tmp 16) (Operand.tmp 17)) none) (AT.act true (AOper.mk (some 21) (AOp.mk 3 1 (PV.v (Value.int
  IntKind.i64 0)) (Operand.tmp 20) (Operand.tmp 20)) none) (AT.look [AOper.mk (some 22) (AOp.bld [PV.v (Value.slice none 0 0), PV.v (Value.slice none 0
  0), PV.v (Value.slice none 0 0), PV.v (Value.int IntKind.i64 0), PV.v (Value.bool false)] [(0, 1), (1, 1), (2, 1), (3, 1), (4, 1)] [(0, Operand.tmp
  18), (1, Operand.tmp 21)]) none] (AT.act false (AOper.mk none (AOp.store 5 (Operand.tmp 9) (Operand.tmp 22)) none) AT.done))) (AT.act true (AOper.mk
  (some 21) (AOp.mk 3 1 (PV.v (Value.int IntKind.i64 0)) (Operand.tmp 20) (Operand.tmp 20)) none) (AT.act false (AOper.mk (some 18) (AOp.app 3 1
  (Operand.tmp 16) (Operand.tmp 17)) none) (AT.look [AOper.mk (some 22) (AOp.bld [PV.v (Value.slice none 0 0), PV.v (Value.slice none 0 0), PV.v
  (Value.slice none 0 0), PV.v (Value.int IntKind.i64 0), PV.v (Value.bool false)] [(0, 1), (1, 1), (2, 1), (3, 1), (4, 1)] [(0, Operand.tmp 18), (1,
  Operand.tmp 21)]) none] (AT.act false (AOper.mk none (AOp.store 5 (Operand.tmp 9) (Operand.tmp 22)) none) AT.done)))))))))) (AT.act true (AOper.mk
  (some 9) (AOp.zro 88 (PV.agg [PV.v (Value.slice none 0 0), PV.v (Value.slice none 0 0), PV.v (Value.slice none 0 0), PV.v (Value.int IntKind.i64 0),
  PV.v (Value.bool false)])) none) (AT.fork false (AOper.mk (some 18) (AOp.app 3 1 (Operand.tmp 16) (Operand.tmp 17)) none) (AT.look [AOper.mk (some 19)
  (AOp.fadr 0 (Operand.tmp 3)) none, AOper.mk (some 20) (AOp.load false 1 (Operand.tmp 19)) none] (AT.act true (AOper.mk (some 21) (AOp.mk 3 1 (PV.v
  (Value.int IntKind.i64 0)) (Operand.tmp 20) (Operand.tmp 20)) none) (AT.look [AOper.mk (some 22) (AOp.bld [PV.v (Value.slice none 0 0), PV.v
  (Value.slice none 0 0), PV.v (Value.slice none 0 0), PV.v (Value.int IntKind.i64 0), PV.v (Value.bool false)] [(0, 1), (1, 1), (2, 1), (3, 1), (4, 1)]
  [(0, Operand.tmp 18), (1, Operand.tmp 21)]) none] (AT.act false (AOper.mk none (AOp.store 5 (Operand.tmp 9) (Operand.tmp 22)) none) AT.done)))) (AT.act
  true (AOper.mk (some 19) (AOp.fadr 0 (Operand.tmp 3)) none) (AT.fork false (AOper.mk (some 18) (AOp.app 3 1 (Operand.tmp 16) (Operand.tmp 17)) none)
  (AT.look [AOper.mk (some 20) (AOp.load false 1 (Operand.tmp 19)) none] (AT.act true (AOper.mk (some 21) (AOp.mk 3 1 (PV.v (Value.int IntKind.i64 0))
  (Operand.tmp 20) (Operand.tmp 20)) none) (AT.look [AOper.mk (some 22) (AOp.bld [PV.v (Value.slice none 0 0), PV.v (Value.slice none 0 0), PV.v
  (Value.slice none 0 0), PV.v (Value.int IntKind.i64 0), PV.v (Value.bool false)] [(0, 1), (1, 1), (2, 1), (3, 1), (4, 1)] [(0, Operand.tmp 18), (1,
  Operand.tmp 21)]) none] (AT.act false (AOper.mk none (AOp.store 5 (Operand.tmp 9) (Operand.tmp 22)) none) AT.done)))) (AT.act true (AOper.mk (some 20)
  (AOp.load false 1 (Operand.tmp 19)) none) (AT.fork false (AOper.mk (some 18) (AOp.app 3 1 (Operand.tmp 16) (Operand.tmp 17)) none) (AT.act true
  (AOper.mk (some 21) (AOp.mk 3 1 (PV.v (Value.int IntKind.i64 0)) (Operand.tmp 20) (Operand.tmp 20)) none) (AT.look [AOper.mk (some 22) (AOp.bld [PV.v
  (Value.slice none 0 0), PV.v (Value.slice none 0 0), PV.v (Value.slice none 0 0), PV.v (Value.int IntKind.i64 0), PV.v (Value.bool false)] [(0, 1), (1,
  1), (2, 1), (3, 1), (4, 1)] [(0, Operand.tmp 18), (1, Operand.tmp 21)]) none] (AT.act false (AOper.mk none (AOp.store 5 (Operand.tmp 9) (Operand.tmp
  22)) none) AT.done))) (AT.act true (AOper.mk (some 21) (AOp.mk 3 1 (PV.v (Value.int IntKind.i64 0)) (Operand.tmp 20) (Operand.tmp 20)) none) (AT.act
  false (AOper.mk (some 18) (AOp.app 3 1 (Operand.tmp 16) (Operand.tmp 17)) none) (AT.look [AOper.mk (some 22) (AOp.bld [PV.v (Value.slice none 0 0),
  PV.v (Value.slice none 0 0), PV.v (Value.slice none 0 0), PV.v (Value.int IntKind.i64 0), PV.v (Value.bool false)] [(0, 1), (1, 1), (2, 1), (3, 1), (4,
  1)] [(0, Operand.tmp 18), (1, Operand.tmp 21)]) none] (AT.act false (AOper.mk none (AOp.store 5 (Operand.tmp 9) (Operand.tmp 22)) none)
  AT.done)))))))))))) (AT.fork true (AOper.mk (some 19) (AOp.fadr 0 (Operand.tmp 3)) none) (AT.fork true (AOper.mk (some 16) (AOp.bsl 3 1 []) none)
  (AT.fork false (AOper.mk (some 18) (AOp.app 3 1 (Operand.tmp 16) (Operand.tmp 17)) none) (AT.look [AOper.mk (some 20) (AOp.load false 1 (Operand.tmp
  19)) none] (AT.fork true (AOper.mk (some 21) (AOp.mk 3 1 (PV.v (Value.int IntKind.i64 0)) (Operand.tmp 20) (Operand.tmp 20)) none) (AT.look [AOper.mk
  (some 22) (AOp.bld [PV.v (Value.slice none 0 0), PV.v (Value.slice none 0 0), PV.v (Value.slice none 0 0), PV.v (Value.int IntKind.i64 0), PV.v
  (Value.bool false)] [(0, 1), (1, 1), (2, 1), (3, 1), (4, 1)] [(0, Operand.tmp 18), (1, Operand.tmp 21)]) none] (AT.act true (AOper.mk (some 9) (AOp.zro
  88 (PV.agg [PV.v (Value.slice none 0 0), PV.v (Value.slice none 0 0), PV.v (Value.slice none 0 0), PV.v (Value.int IntKind.i64 0), PV.v (Value.bool
  false)])) none) (AT.act false (AOper.mk none (AOp.store 5 (Operand.tmp 9) (Operand.tmp 22)) none) AT.done))) (AT.act true (AOper.mk (some 9) (AOp.zro
  88 (PV.agg [PV.v (Value.slice none 0 0), PV.v (Value.slice none 0 0), PV.v (Value.slice none 0 0), PV.v (Value.int IntKind.i64 0), PV.v (Value.bool
  false)])) none) (AT.act true (AOper.mk (some 21) (AOp.mk 3 1 (PV.v (Value.int IntKind.i64 0)) (Operand.tmp 20) (Operand.tmp 20)) none) (AT.look
  [AOper.mk (some 22) (AOp.bld [PV.v (Value.slice none 0 0), PV.v (Value.slice none 0 0), PV.v (Value.slice none 0 0), PV.v (Value.int IntKind.i64 0),
  PV.v (Value.bool false)] [(0, 1), (1, 1), (2, 1), (3, 1), (4, 1)] [(0, Operand.tmp 18), (1, Operand.tmp 21)]) none] (AT.act false (AOper.mk none
  (AOp.store 5 (Operand.tmp 9) (Operand.tmp 22)) none) AT.done)))))) (AT.fork true (AOper.mk (some 20) (AOp.load false 1 (Operand.tmp 19)) none) (AT.fork
  false (AOper.mk (some 18) (AOp.app 3 1 (Operand.tmp 16) (Operand.tmp 17)) none) (AT.fork true (AOper.mk (some 21) (AOp.mk 3 1 (PV.v (Value.int
  IntKind.i64 0)) (Operand.tmp 20) (Operand.tmp 20)) none) (AT.look [AOper.mk (some 22) (AOp.bld [PV.v (Value.slice none 0 0), PV.v (Value.slice none 0
  0), PV.v (Value.slice none 0 0), PV.v (Value.int IntKind.i64 0), PV.v (Value.bool false)] [(0, 1), (1, 1), (2, 1), (3, 1), (4, 1)] [(0, Operand.tmp
  18), (1, Operand.tmp 21)]) none] (AT.act true (AOper.mk (some 9) (AOp.zro 88 (PV.agg [PV.v (Value.slice none 0 0), PV.v (Value.slice none 0 0), PV.v
  (Value.slice none 0 0), PV.v (Value.int IntKind.i64 0), PV.v (Value.bool false)])) none) (AT.act false (AOper.mk none (AOp.store 5 (Operand.tmp 9)
  (Operand.tmp 22)) none) AT.done))) (AT.act true (AOper.mk (some 9) (AOp.zro 88 (PV.agg [PV.v (Value.slice none 0 0), PV.v (Value.slice none 0 0), PV.v
  (Value.slice none 0 0), PV.v (Value.int IntKind.i64 0), PV.v (Value.bool false)])) none) (AT.act true (AOper.mk (some 21) (AOp.mk 3 1 (PV.v (Value.int
  IntKind.i64 0)) (Operand.tmp 20) (Operand.tmp 20)) none) (AT.look [AOper.mk (some 22) (AOp.bld [PV.v (Value.slice none 0 0), PV.v (Value.slice none 0
  0), PV.v (Value.slice none 0 0), PV.v (Value.int IntKind.i64 0), PV.v (Value.bool false)] [(0, 1), (1, 1), (2, 1), (3, 1), (4, 1)] [(0, Operand.tmp
  18), (1, Operand.tmp 21)]) none] (AT.act false (AOper.mk none (AOp.store 5 (Operand.tmp 9) (Operand.tmp 22)) none) AT.done))))) (AT.fork true (AOper.mk
  (some 21) (AOp.mk 3 1 (PV.v (Value.int IntKind.i64 0)) (Operand.tmp 20) (Operand.tmp 20)) none) (AT.fork false (AOper.mk (some 18) (AOp.app 3 1
  (Operand.tmp 16) (Operand.tmp 17)) none) (AT.look [AOper.mk (some 22) (AOp.bld [PV.v (Value.slice none 0 0), PV.v (Value.slice none 0 0), PV.v
  (Value.slice none 0 0), PV.v (Value.int IntKind.i64 0), PV.v (Value.bool false)] [(0, 1), (1, 1), (2, 1), (3, 1), (4, 1)] [(0, Operand.tmp 18), (1,
  Operand.tmp 21)]) none] (AT.act true (AOper.mk (some 9) (AOp.zro 88 (PV.agg [PV.v (Value.slice none 0 0), PV.v (Value.slice none 0 0), PV.v
  (Value.slice none 0 0), PV.v (Value.int IntKind.i64 0), PV.v (Value.bool false)])) none) (AT.act false (AOper.mk none (AOp.store 5 (Operand.tmp 9)
  (Operand.tmp 22)) none) AT.done))) (AT.act true (AOper.mk (some 9) (AOp.zro 88 (PV.agg [PV.v (Value.slice none 0 0), PV.v (Value.slice none 0 0), PV.v
  (Value.slice none 0 0), PV.v (Value.int IntKind.i64 0), PV.v (Value.bool false)])) none) (AT.act false (AOper.mk (some 18) (AOp.app 3 1 (Operand.tmp
  16) (Operand.tmp 17)) none) (AT.look [AOper.mk (some 22) (AOp.bld [PV.v (Value.slice none 0 0), PV.v (Value.slice none 0 0), PV.v (Value.slice none 0
  0), PV.v (Value.int IntKind.i64 0), PV.v (Value.bool false)] [(0, 1), (1, 1), (2, 1), (3, 1), (4, 1)] [(0, Operand.tmp 18), (1, Operand.tmp 21)]) none]
  (AT.act false (AOper.mk none (AOp.store 5 (Operand.tmp 9) (Operand.tmp 22)) none) AT.done))))) (AT.act true (AOper.mk (some 9) (AOp.zro 88 (PV.agg
  [PV.v (Value.slice none 0 0), PV.v (Value.slice none 0 0), PV.v (Value.slice none 0 0), PV.v (Value.int IntKind.i64 0), PV.v (Value.bool false)]))
  none) (AT.fork false (AOper.mk (some 18) (AOp.app 3 1 (Operand.tmp 16) (Operand.tmp 17)) none) (AT.act true (AOper.mk (some 21) (AOp.mk 3 1 (PV.v
  (Value.int IntKind.i64 0)) (Operand.tmp 20) (Operand.tmp 20)) none) (AT.look [AOper.mk (some 22) (AOp.bld [PV.v (Value.slice none 0 0), PV.v
  (Value.slice none 0 0), PV.v (Value.slice none 0 0), PV.v (Value.int IntKind.i64 0), PV.v (Value.bool false)] [(0, 1), (1, 1), (2, 1), (3, 1), (4, 1)]
  [(0, Operand.tmp 18), (1, Operand.tmp 21)]) none] (AT.act false (AOper.mk none (AOp.store 5 (Operand.tmp 9) (Operand.tmp 22)) none) AT.done))) (AT.act
  true (AOper.mk (some 21) (AOp.mk 3 1 (PV.v (Value.int IntKind.i64 0)) (Operand.tmp 20) (Operand.tmp 20)) none) (AT.act false (AOper.mk (some 18)
  (AOp.app 3 1 (Operand.tmp 16) (Operand.tmp 17)) none) (AT.look [AOper.mk (some 22) (AOp.bld [PV.v (Value.slice none 0 0), PV.v (Value.slice none 0 0),
  PV.v (Value.slice none 0 0), PV.v (Value.int IntKind.i64 0), PV.v (Value.bool false)] [(0, 1), (1, 1), (2, 1), (3, 1), (4, 1)] [(0, Operand.tmp 18),
  (1, Operand.tmp 21)]) none] (AT.act false (AOper.mk none (AOp.store 5 (Operand.tmp 9) (Operand.tmp 22)) none) AT.done)))))))) (AT.act true (AOper.mk
  (some 9) (AOp.zro 88 (PV.agg [PV.v (Value.slice none 0 0), PV.v (Value.slice none 0 0), PV.v (Value.slice none 0 0), PV.v (Value.int IntKind.i64 0),
  PV.v (Value.bool false)])) none) (AT.fork false (AOper.mk (some 18) (AOp.app 3 1 (Operand.tmp 16) (Operand.tmp 17)) none) (AT.look [AOper.mk (some 20)
  (AOp.load false 1 (Operand.tmp 19)) none] (AT.act true (AOper.mk (some 21) (AOp.mk 3 1 (PV.v (Value.int IntKind.i64 0)) (Operand.tmp 20) (Operand.tmp
  20)) none) (AT.look [AOper.mk (some 22) (AOp.bld [PV.v (Value.slice none 0 0), PV.v (Value.slice none 0 0), PV.v (Value.slice none 0 0), PV.v
  (Value.int IntKind.i64 0), PV.v (Value.bool false)] [(0, 1), (1, 1), (2, 1), (3, 1), (4, 1)] [(0, Operand.tmp 18), (1, Operand.tmp 21)]) none] (AT.act
  false (AOper.mk none (AOp.store 5 (Operand.tmp 9) (Operand.tmp 22)) none) AT.done)))) (AT.act true (AOper.mk (some 20) (AOp.load false 1 (Operand.tmp
  19)) none) (AT.fork false (AOper.mk (some 18) (AOp.app 3 1 (Operand.tmp 16) (Operand.tmp 17)) none) (AT.act true (AOper.mk (some 21) (AOp.mk 3 1 (PV.v
  (Value.int IntKind.i64 0)) (Operand.tmp 20) (Operand.tmp 20)) none) (AT.look [AOper.mk (some 22) (AOp.bld [PV.v (Value.slice none 0 0), PV.v
  (Value.slice none 0 0), PV.v (Value.slice none 0 0), PV.v (Value.int IntKind.i64 0), PV.v (Value.bool false)] [(0, 1), (1, 1), (2, 1), (3, 1), (4, 1)]
  [(0, Operand.tmp 18), (1, Operand.tmp 21)]) none] (AT.act false (AOper.mk none (AOp.store 5 (Operand.tmp 9) (Operand.tmp 22)) none) AT.done))) (AT.act
  true (AOper.mk (some 21) (AOp.mk 3 1 (PV.v (Value.int IntKind.i64 0)) (Operand.tmp 20) (Operand.tmp 20)) none) (AT.act false (AOper.mk (some 18)
  (AOp.app 3 1 (Operand.tmp 16) (Operand.tmp 17)) none) (AT.look [AOper.mk (some 22) (AOp.bld [PV.v (Value.slice none 0 0), PV.v (Value.slice none 0 0),
  PV.v (Value.slice none 0 0), PV.v (Value.int IntKind.i64 0), PV.v (Value.bool false)] [(0, 1), (1, 1), (2, 1), (3, 1), (4, 1)] [(0, Operand.tmp 18),
  (1, Operand.tmp 21)]) none] (AT.act false (AOper.mk none (AOp.store 5 (Operand.tmp 9) (Operand.tmp 22)) none) AT.done)))))))))) (AT.fork true (AOper.mk
  (some 20) (AOp.load false 1 (Operand.tmp 19)) none) (AT.fork true (AOper.mk (some 16) (AOp.bsl 3 1 []) none) (AT.fork false (AOper.mk (some 18)
  (AOp.app 3 1 (Operand.tmp 16) (Operand.tmp 17)) none) (AT.fork true (AOper.mk (some 21) (AOp.mk 3 1 (PV.v (Value.int IntKind.i64 0)) (Operand.tmp 20)
  (Operand.tmp 20)) none) (AT.look [AOper.mk (some 22) (AOp.bld [PV.v (Value.slice none 0 0), PV.v (Value.slice none 0 0), PV.v (Value.slice none 0 0),
  PV.v (Value.int IntKind.i64 0), PV.v (Value.bool false)] [(0, 1), (1, 1), (2, 1), (3, 1), (4, 1)] [(0, Operand.tmp 18), (1, Operand.tmp 21)]) none]
  (AT.act true (AOper.mk (some 9) (AOp.zro 88 (PV.agg [PV.v (Value.slice none 0 0), PV.v (Value.slice none 0 0), PV.v (Value.slice none 0 0), PV.v
  (Value.int IntKind.i64 0), PV.v (Value.bool false)])) none) (AT.act false (AOper.mk none (AOp.store 5 (Operand.tmp 9) (Operand.tmp 22)) none)
  AT.done))) (AT.act true (AOper.mk (some 9) (AOp.zro 88 (PV.agg [PV.v (Value.slice none 0 0), PV.v (Value.slice none 0 0), PV.v (Value.slice none 0 0),
  PV.v (Value.int IntKind.i64 0), PV.v (Value.bool false)])) none) (AT.act true (AOper.mk (some 21) (AOp.mk 3 1 (PV.v (Value.int IntKind.i64 0))
  (Operand.tmp 20) (Operand.tmp 20)) none) (AT.look [AOper.mk (some 22) (AOp.bld [PV.v (Value.slice none 0 0), PV.v (Value.slice none 0 0), PV.v
  (Value.slice none 0 0), PV.v (Value.int IntKind.i64 0), PV.v (Value.bool false)] [(0, 1), (1, 1), (2, 1), (3, 1), (4, 1)] [(0, Operand.tmp 18), (1,
  Operand.tmp 21)]) none] (AT.act false (AOper.mk none (AOp.store 5 (Operand.tmp 9) (Operand.tmp 22)) none) AT.done))))) (AT.fork true (AOper.mk (some
  21) (AOp.mk 3 1 (PV.v (Value.int IntKind.i64 0)) (Operand.tmp 20) (Operand.tmp 20)) none) (AT.fork false (AOper.mk (some 18) (AOp.app 3 1 (Operand.tmp
  16) (Operand.tmp 17)) none) (AT.look [AOper.mk (some 22) (AOp.bld [PV.v (Value.slice none 0 0), PV.v (Value.slice none 0 0), PV.v (Value.slice none 0
  0), PV.v (Value.int IntKind.i64 0), PV.v (Value.bool false)] [(0, 1), (1, 1), (2, 1), (3, 1), (4, 1)] [(0, Operand.tmp 18), (1, Operand.tmp 21)]) none]
  (AT.act true (AOper.mk (some 9) (AOp.zro 88 (PV.agg [PV.v (Value.slice none 0 0), PV.v (Value.slice none 0 0), PV.v (Value.slice none 0 0), PV.v
  (Value.int IntKind.i64 0), PV.v (Value.bool false)])) none) (AT.act false (AOper.mk none (AOp.store 5 (Operand.tmp 9) (Operand.tmp 22)) none)
  AT.done))) (AT.act true (AOper.mk (some 9) (AOp.zro 88 (PV.agg [PV.v (Value.slice none 0 0), PV.v (Value.slice none 0 0), PV.v (Value.slice none 0 0),
  PV.v (Value.int IntKind.i64 0), PV.v (Value.bool false)])) none) (AT.act false (AOper.mk (some 18) (AOp.app 3 1 (Operand.tmp 16) (Operand.tmp 17))
  none) (AT.look [AOper.mk (some 22) (AOp.bld [PV.v (Value.slice none 0 0), PV.v (Value.slice none 0 0), PV.v (Value.slice none 0 0), PV.v (Value.int
  IntKind.i64 0), PV.v (Value.bool false)] [(0, 1), (1, 1), (2, 1), (3, 1), (4, 1)] [(0, Operand.tmp 18), (1, Operand.tmp 21)]) none] (AT.act false
  (AOper.mk none (AOp.store 5 (Operand.tmp 9) (Operand.tmp 22)) none) AT.done))))) (AT.act true (AOper.mk (some 9) (AOp.zro 88 (PV.agg [PV.v (Value.slice
  none 0 0), PV.v (Value.slice none 0 0), PV.v (Value.slice none 0 0), PV.v (Value.int IntKind.i64 0), PV.v (Value.bool false)])) none) (AT.fork false
  (AOper.mk (some 18) (AOp.app 3 1 (Operand.tmp 16) (Operand.tmp 17)) none) (AT.act true (AOper.mk (some 21) (AOp.mk 3 1 (PV.v (Value.int IntKind.i64 0))
  (Operand.tmp 20) (Operand.tmp 20)) none) (AT.look [AOper.mk (some 22) (AOp.bld [PV.v (Value.slice none 0 0), PV.v (Value.slice none 0 0), PV.v
  (Value.slice none 0 0), PV.v (Value.int IntKind.i64 0), PV.v (Value.bool false)] [(0, 1), (1, 1), (2, 1), (3, 1), (4, 1)] [(0, Operand.tmp 18), (1,
  Operand.tmp 21)]) none] (AT.act false (AOper.mk none (AOp.store 5 (Operand.tmp 9) (Operand.tmp 22)) none) AT.done))) (AT.act true (AOper.mk (some 21)
  (AOp.mk 3 1 (PV.v (Value.int IntKind.i64 0)) (Operand.tmp 20) (Operand.tmp 20)) none) (AT.act false (AOper.mk (some 18) (AOp.app 3 1 (Operand.tmp 16)
  (Operand.tmp 17)) none) (AT.look [AOper.mk (some 22) (AOp.bld [PV.v (Value.slice none 0 0), PV.v (Value.slice none 0 0), PV.v (Value.slice none 0 0),
  PV.v (Value.int IntKind.i64 0), PV.v (Value.bool false)] [(0, 1), (1, 1), (2, 1), (3, 1), (4, 1)] [(0, Operand.tmp 18), (1, Operand.tmp 21)]) none]
  (AT.act false (AOper.mk none (AOp.store 5 (Operand.tmp 9) (Operand.tmp 22)) none) AT.done)))))))) (AT.fork true (AOper.mk (some 21) (AOp.mk 3 1 (PV.v
  (Value.int IntKind.i64 0)) (Operand.tmp 20) (Operand.tmp 20)) none) (AT.fork true (AOper.mk (some 16) (AOp.bsl 3 1 []) none) (AT.fork false (AOper.mk
  (some 18) (AOp.app 3 1 (Operand.tmp 16) (Operand.tmp 17)) none) (AT.look [AOper.mk (some 22) (AOp.bld [PV.v (Value.slice none 0 0), PV.v (Value.slice
  none 0 0), PV.v (Value.slice none 0 0), PV.v (Value.int IntKind.i64 0), PV.v (Value.bool false)] [(0, 1), (1, 1), (2, 1), (3, 1), (4, 1)] [(0,
  Operand.tmp 18), (1, Operand.tmp 21)]) none] (AT.act true (AOper.mk (some 9) (AOp.zro 88 (PV.agg [PV.v (Value.slice none 0 0), PV.v (Value.slice none 0
  0), PV.v (Value.slice none 0 0), PV.v (Value.int IntKind.i64 0), PV.v (Value.bool false)])) none) (AT.act false (AOper.mk none (AOp.store 5
  (Operand.tmp 9) (Operand.tmp 22)) none) AT.done))) (AT.act true (AOper.mk (some 9) (AOp.zro 88 (PV.agg [PV.v (Value.slice none 0 0), PV.v (Value.slice
  none 0 0), PV.v (Value.slice none 0 0), PV.v (Value.int IntKind.i64 0), PV.v (Value.bool false)])) none) (AT.act false (AOper.mk (some 18) (AOp.app 3 1
  (Operand.tmp 16) (Operand.tmp 17)) none) (AT.look [AOper.mk (some 22) (AOp.bld [PV.v (Value.slice none 0 0), PV.v (Value.slice none 0 0), PV.v
  (Value.slice none 0 0), PV.v (Value.int IntKind.i64 0), PV.v (Value.bool false)] [(0, 1), (1, 1), (2, 1), (3, 1), (4, 1)] [(0, Operand.tmp 18), (1,
  Operand.tmp 21)]) none] (AT.act false (AOper.mk none (AOp.store 5 (Operand.tmp 9) (Operand.tmp 22)) none) AT.done))))) (AT.act true (AOper.mk (some 9)
  (AOp.zro 88 (PV.agg [PV.v (Value.slice none 0 0), PV.v (Value.slice none 0 0), PV.v (Value.slice none 0 0), PV.v (Value.int IntKind.i64 0), PV.v
  (Value.bool false)])) none) (AT.act true (AOper.mk (some 16) (AOp.bsl 3 1 []) none) (AT.act false (AOper.mk (some 18) (AOp.app 3 1 (Operand.tmp 16)
  (Operand.tmp 17)) none) (AT.look [AOper.mk (some 22) (AOp.bld [PV.v (Value.slice none 0 0), PV.v (Value.slice none 0 0), PV.v (Value.slice none 0 0),
  PV.v (Value.int IntKind.i64 0), PV.v (Value.bool false)] [(0, 1), (1, 1), (2, 1), (3, 1), (4, 1)] [(0, Operand.tmp 18), (1, Operand.tmp 21)]) none]
  (AT.act false (AOper.mk none (AOp.store 5 (Operand.tmp 9) (Operand.tmp 22)) none) AT.done)))))) (AT.act true (AOper.mk (some 9) (AOp.zro 88 (PV.agg
  [PV.v (Value.slice none 0 0), PV.v (Value.slice none 0 0), PV.v (Value.slice none 0 0), PV.v (Value.int IntKind.i64 0), PV.v (Value.bool false)]))
  none) (AT.fork true (AOper.mk (some 16) (AOp.bsl 3 1 []) none) (AT.fork false (AOper.mk (some 18) (AOp.app 3 1 (Operand.tmp 16) (Operand.tmp 17)) none)
  (AT.act true (AOper.mk (some 21) (AOp.mk 3 1 (PV.v (Value.int IntKind.i64 0)) (Operand.tmp 20) (Operand.tmp 20)) none) (AT.look [AOper.mk (some 22)
  (AOp.bld [PV.v (Value.slice none 0 0), PV.v (Value.slice none 0 0), PV.v (Value.slice none 0 0), PV.v (Value.int IntKind.i64 0), PV.v (Value.bool
  false)] [(0, 1), (1, 1), (2, 1), (3, 1), (4, 1)] [(0, Operand.tmp 18), (1, Operand.tmp 21)]) none] (AT.act false (AOper.mk none (AOp.store 5
  (Operand.tmp 9) (Operand.tmp 22)) none) AT.done))) (AT.act true (AOper.mk (some 21) (AOp.mk 3 1 (PV.v (Value.int IntKind.i64 0)) (Operand.tmp 20)
  (Operand.tmp 20)) none) (AT.act false (AOper.mk (some 18) (AOp.app 3 1 (Operand.tmp 16) (Operand.tmp 17)) none) (AT.look [AOper.mk (some 22) (AOp.bld
  [PV.v (Value.slice none 0 0), PV.v (Value.slice none 0 0), PV.v (Value.slice none 0 0), PV.v (Value.int IntKind.i64 0), PV.v (Value.bool false)] [(0,
  1), (1, 1), (2, 1), (3, 1), (4, 1)] [(0, Operand.tmp 18), (1, Operand.tmp 21)]) none] (AT.act false (AOper.mk none (AOp.store 5 (Operand.tmp 9)
  (Operand.tmp 22)) none) AT.done))))) (AT.act true (AOper.mk (some 21) (AOp.mk 3 1 (PV.v (Value.int IntKind.i64 0)) (Operand.tmp 20) (Operand.tmp 20))
  none) (AT.act true (AOper.mk (some 16) (AOp.bsl 3 1 []) none) (AT.act false (AOper.mk (some 18) (AOp.app 3 1 (Operand.tmp 16) (Operand.tmp 17)) none)
  (AT.look [AOper.mk (some 22) (AOp.bld [PV.v (Value.slice none 0 0), PV.v (Value.slice none 0 0), PV.v (Value.slice none 0 0), PV.v (Value.int
  IntKind.i64 0), PV.v (Value.bool false)] [(0, 1), (1, 1), (2, 1), (3, 1), (4, 1)] [(0, Operand.tmp 18), (1, Operand.tmp 21)]) none] (AT.act false
  (AOper.mk none (AOp.store 5 (Operand.tmp 9) (Operand.tmp 22)) none) AT.done))))))))) (AT.act true (AOper.mk (some 9) (AOp.zro 88 (PV.agg [PV.v
  (Value.slice none 0 0), PV.v (Value.slice none 0 0), PV.v (Value.slice none 0 0), PV.v (Value.int IntKind.i64 0), PV.v (Value.bool false)])) none)
  (AT.fork true (AOper.mk (some 16) (AOp.bsl 3 1 []) none) (AT.fork false (AOper.mk (some 18) (AOp.app 3 1 (Operand.tmp 16) (Operand.tmp 17)) none)
  (AT.look [AOper.mk (some 20) (AOp.load false 1 (Operand.tmp 19)) none] (AT.act true (AOper.mk (some 21) (AOp.mk 3 1 (PV.v (Value.int IntKind.i64 0))
  (Operand.tmp 20) (Operand.tmp 20)) none) (AT.look [AOper.mk (some 22) (AOp.bld [PV.v (Value.slice none 0 0), PV.v (Value.slice none 0 0), PV.v
  (Value.slice none 0 0), PV.v (Value.int IntKind.i64 0), PV.v (Value.bool false)] [(0, 1), (1, 1), (2, 1), (3, 1), (4, 1)] [(0, Operand.tmp 18), (1,
  Operand.tmp 21)]) none] (AT.act false (AOper.mk none (AOp.store 5 (Operand.tmp 9) (Operand.tmp 22)) none) AT.done)))) (AT.act true (AOper.mk (some 20)
  (AOp.load false 1 (Operand.tmp 19)) none) (AT.fork false (AOper.mk (some 18) (AOp.app 3 1 (Operand.tmp 16) (Operand.tmp 17)) none) (AT.act true
  (AOper.mk (some 21) (AOp.mk 3 1 (PV.v (Value.int IntKind.i64 0)) (Operand.tmp 20) (Operand.tmp 20)) none) (AT.look [AOper.mk (some 22) (AOp.bld [PV.v
  (Value.slice none 0 0), PV.v (Value.slice none 0 0), PV.v (Value.slice none 0 0), PV.v (Value.int IntKind.i64 0), PV.v (Value.bool false)] [(0, 1), (1,
  1), (2, 1), (3, 1), (4, 1)] [(0, Operand.tmp 18), (1, Operand.tmp 21)]) none] (AT.act false (AOper.mk none (AOp.store 5 (Operand.tmp 9) (Operand.tmp
  22)) none) AT.done))) (AT.act true (AOper.mk (some 21) (AOp.mk 3 1 (PV.v (Value.int IntKind.i64 0)) (Operand.tmp 20) (Operand.tmp 20)) none) (AT.act
  false (AOper.mk (some 18) (AOp.app 3 1 (Operand.tmp 16) (Operand.tmp 17)) none) (AT.look [AOper.mk (some 22) (AOp.bld [PV.v (Value.slice none 0 0),
  PV.v (Value.slice none 0 0), PV.v (Value.slice none 0 0), PV.v (Value.int IntKind.i64 0), PV.v (Value.bool false)] [(0, 1), (1, 1), (2, 1), (3, 1), (4,
  1)] [(0, Operand.tmp 18), (1, Operand.tmp 21)]) none] (AT.act false (AOper.mk none (AOp.store 5 (Operand.tmp 9) (Operand.tmp 22)) none) AT.done)))))))
  (AT.act true (AOper.mk (some 20) (AOp.load false 1 (Operand.tmp 19)) none) (AT.fork true (AOper.mk (some 16) (AOp.bsl 3 1 []) none) (AT.fork false
  (AOper.mk (some 18) (AOp.app 3 1 (Operand.tmp 16) (Operand.tmp 17)) none) (AT.act true (AOper.mk (some 21) (AOp.mk 3 1 (PV.v (Value.int IntKind.i64 0))
  (Operand.tmp 20) (Operand.tmp 20)) none) (AT.look [AOper.mk (some 22) (AOp.bld [PV.v (Value.slice none 0 0), PV.v (Value.slice none 0 0), PV.v
  (Value.slice none 0 0), PV.v (Value.int IntKind.i64 0), PV.v (Value.bool false)] [(0, 1), (1, 1), (2, 1), (3, 1), (4, 1)] [(0, Operand.tmp 18), (1,
  Operand.tmp 21)]) none] (AT.act false (AOper.mk none (AOp.store 5 (Operand.tmp 9) (Operand.tmp 22)) none) AT.done))) (AT.act true (AOper.mk (some 21)
  (AOp.mk 3 1 (PV.v (Value.int IntKind.i64 0)) (Operand.tmp 20) (Operand.tmp 20)) none) (AT.act false (AOper.mk (some 18) (AOp.app 3 1 (Operand.tmp 16)
  (Operand.tmp 17)) none) (AT.look [AOper.mk (some 22) (AOp.bld [PV.v (Value.slice none 0 0), PV.v (Value.slice none 0 0), PV.v (Value.slice none 0 0),
  PV.v (Value.int IntKind.i64 0), PV.v (Value.bool false)] [(0, 1), (1, 1), (2, 1), (3, 1), (4, 1)] [(0, Operand.tmp 18), (1, Operand.tmp 21)]) none]
  (AT.act false (AOper.mk none (AOp.store 5 (Operand.tmp 9) (Operand.tmp 22)) none) AT.done))))) (AT.act true (AOper.mk (some 21) (AOp.mk 3 1 (PV.v
  (Value.int IntKind.i64 0)) (Operand.tmp 20) (Operand.tmp 20)) none) (AT.act true (AOper.mk (some 16) (AOp.bsl 3 1 []) none) (AT.act false (AOper.mk
  (some 18) (AOp.app 3 1 (Operand.tmp 16) (Operand.tmp 17)) none) (AT.look [AOper.mk (some 22) (AOp.bld [PV.v (Value.slice none 0 0), PV.v (Value.slice
  none 0 0), PV.v (Value.slice none 0 0), PV.v (Value.int IntKind.i64 0), PV.v (Value.bool false)] [(0, 1), (1, 1), (2, 1), (3, 1), (4, 1)] [(0,
  Operand.tmp 18), (1, Operand.tmp 21)]) none] (AT.act false (AOper.mk none (AOp.store 5 (Operand.tmp 9) (Operand.tmp 22)) none) AT.done)))))))))))
  (AT.act true (AOper.mk (some 9) (AOp.zro 88 (PV.agg [PV.v (Value.slice none 0 0), PV.v (Value.slice none 0 0), PV.v (Value.slice none 0 0), PV.v
  (Value.int IntKind.i64 0), PV.v (Value.bool false)])) none) (AT.fork true (AOper.mk (some 16) (AOp.bsl 3 1 []) none) (AT.fork false (AOper.mk (some 18)
  (AOp.app 3 1 (Operand.tmp 16) (Operand.tmp 17)) none) (AT.look [AOper.mk (some 19) (AOp.fadr 0 (Operand.tmp 3)) none, AOper.mk (some 20) (AOp.load
  false 1 (Operand.tmp 19)) none] (AT.act true (AOper.mk (some 21) (AOp.mk 3 1 (PV.v (Value.int IntKind.i64 0)) (Operand.tmp 20) (Operand.tmp 20)) none)
  (AT.look [AOper.mk (some 22) (AOp.bld [PV.v (Value.slice none 0 0), PV.v (Value.slice none 0 0), PV.v (Value.slice none 0 0), PV.v (Value.int
  IntKind.i64 0), PV.v (Value.bool false)] [(0, 1), (1, 1), (2, 1), (3, 1), (4, 1)] [(0, Operand.tmp 18), (1, Operand.tmp 21)]) none] (AT.act false
  (AOper.mk none (AOp.store 5 (Operand.tmp 9) (Operand.tmp 22)) none) AT.done)))) (AT.act true (AOper.mk (some 19) (AOp.fadr 0 (Operand.tmp 3)) none)
  (AT.fork false (AOper.mk (some 18) (AOp.app 3 1 (Operand.tmp 16) (Operand.tmp 17)) none) (AT.look [AOper.mk (some 20) (AOp.load false 1 (Operand.tmp
  19)) none] (AT.act true (AOper.mk (some 21) (AOp.mk 3 1 (PV.v (Value.int IntKind.i64 0)) (Operand.tmp 20) (Operand.tmp 20)) none) (AT.look [AOper.mk
  (some 22) (AOp.bld [PV.v (Value.slice none 0 0), PV.v (Value.slice none 0 0), PV.v (Value.slice none 0 0), PV.v (Value.int IntKind.i64 0), PV.v
  (Value.bool false)] [(0, 1), (1, 1), (2, 1), (3, 1), (4, 1)] [(0, Operand.tmp 18), (1, Operand.tmp 21)]) none] (AT.act false (AOper.mk none (AOp.store
  5 (Operand.tmp 9) (Operand.tmp 22)) none) AT.done)))) (AT.act true (AOper.mk (some 20) (AOp.load false 1 (Operand.tmp 19)) none) (AT.fork false
  (AOper.mk (some 18) (AOp.app 3 1 (Operand.tmp 16) (Operand.tmp 17)) none) (AT.act true (AOper.mk (some 21) (AOp.mk 3 1 (PV.v (Value.int IntKind.i64 0))
  (Operand.tmp 20) (Operand.tmp 20)) none) (AT.look [AOper.mk (some 22) (AOp.bld [PV.v (Value.slice none 0 0), PV.v (Value.slice none 0 0), PV.v
  (Value.slice none 0 0), PV.v (Value.int IntKind.i64 0), PV.v (Value.bool false)] [(0, 1), (1, 1), (2, 1), (3, 1), (4, 1)] [(0, Operand.tmp 18), (1,
  Operand.tmp 21)]) none] (AT.act false (AOper.mk none (AOp.store 5 (Operand.tmp 9) (Operand.tmp 22)) none) AT.done))) (AT.act true (AOper.mk (some 21)
  (AOp.mk 3 1 (PV.v (Value.int IntKind.i64 0)) (Operand.tmp 20) (Operand.tmp 20)) none) (AT.act false (AOper.mk (some 18) (AOp.app 3 1 (Operand.tmp 16)
  (Operand.tmp 17)) none) (AT.look [AOper.mk (some 22) (AOp.bld [PV.v (Value.slice none 0 0), PV.v (Value.slice none 0 0), PV.v (Value.slice none 0 0),
  PV.v (Value.int IntKind.i64 0), PV.v (Value.bool false)] [(0, 1), (1, 1), (2, 1), (3, 1), (4, 1)] [(0, Operand.tmp 18), (1, Operand.tmp 21)]) none]
  (AT.act false (AOper.mk none (AOp.store 5 (Operand.tmp 9) (Operand.tmp 22)) none) AT.done))))))))) (AT.act true (AOper.mk (some 19) (AOp.fadr 0
  (Operand.tmp 3)) none) (AT.fork true (AOper.mk (some 16) (AOp.bsl 3 1 []) none) (AT.fork false (AOper.mk (some 18) (AOp.app 3 1 (Operand.tmp 16)
  (Operand.tmp 17)) none) (AT.look [AOper.mk (some 20) (AOp.load false 1 (Operand.tmp 19)) none] (AT.act true (AOper.mk (some 21) (AOp.mk 3 1 (PV.v
  (Value.int IntKind.i64 0)) (Operand.tmp 20) (Operand.tmp 20)) none) (AT.look [AOper.mk (some 22) (AOp.bld [PV.v (Value.slice none 0 0), PV.v
  (Value.slice none 0 0), PV.v (Value.slice none 0 0), PV.v (Value.int IntKind.i64 0), PV.v (Value.bool false)] [(0, 1), (1, 1), (2, 1), (3, 1), (4, 1)]
  [(0, Operand.tmp 18), (1, Operand.tmp 21)]) none] (AT.act false (AOper.mk none (AOp.store 5 (Operand.tmp 9) (Operand.tmp 22)) none) AT.done)))) (AT.act
  true (AOper.mk (some 20) (AOp.load false 1 (Operand.tmp 19)) none) (AT.fork false (AOper.mk (some 18) (AOp.app 3 1 (Operand.tmp 16) (Operand.tmp 17))
  none) (AT.act true (AOper.mk (some 21) (AOp.mk 3 1 (PV.v (Value.int IntKind.i64 0)) (Operand.tmp 20) (Operand.tmp 20)) none) (AT.look [AOper.mk (some
  22) (AOp.bld [PV.v (Value.slice none 0 0), PV.v (Value.slice none 0 0), PV.v (Value.slice none 0 0), PV.v (Value.int IntKind.i64 0), PV.v (Value.bool
  false)] [(0, 1), (1, 1), (2, 1), (3, 1), (4, 1)] [(0, Operand.tmp 18), (1, Operand.tmp 21)]) none] (AT.act false (AOper.mk none (AOp.store 5
  (Operand.tmp 9) (Operand.tmp 22)) none) AT.done))) (AT.act true (AOper.mk (some 21) (AOp.mk 3 1 (PV.v (Value.int IntKind.i64 0)) (Operand.tmp 20)
  (Operand.tmp 20)) none) (AT.act false (AOper.mk (some 18) (AOp.app 3 1 (Operand.tmp 16) (Operand.tmp 17)) none) (AT.look [AOper.mk (some 22) (AOp.bld
  [PV.v (Value.slice none 0 0), PV.v (Value.slice none 0 0), PV.v (Value.slice none 0 0), PV.v (Value.int IntKind.i64 0), PV.v (Value.bool false)] [(0,
  1), (1, 1), (2, 1), (3, 1), (4, 1)] [(0, Operand.tmp 18), (1, Operand.tmp 21)]) none] (AT.act false (AOper.mk none (AOp.store 5 (Operand.tmp 9)
  (Operand.tmp 22)) none) AT.done))))))) (AT.act true (AOper.mk (some 20) (AOp.load false 1 (Operand.tmp 19)) none) (AT.fork true (AOper.mk (some 16)
  (AOp.bsl 3 1 []) none) (AT.fork false (AOper.mk (some 18) (AOp.app 3 1 (Operand.tmp 16) (Operand.tmp 17)) none) (AT.act true (AOper.mk (some 21)
  (AOp.mk 3 1 (PV.v (Value.int IntKind.i64 0)) (Operand.tmp 20) (Operand.tmp 20)) none) (AT.look [AOper.mk (some 22) (AOp.bld [PV.v (Value.slice none 0
  0), PV.v (Value.slice none 0 0), PV.v (Value.slice none 0 0), PV.v (Value.int IntKind.i64 0), PV.v (Value.bool false)] [(0, 1), (1, 1), (2, 1), (3, 1),
  (4, 1)] [(0, Operand.tmp 18), (1, Operand.tmp 21)]) none] (AT.act false (AOper.mk none (AOp.store 5 (Operand.tmp 9) (Operand.tmp 22)) none) AT.done)))
  (AT.act true (AOper.mk (some 21) (AOp.mk 3 1 (PV.v (Value.int IntKind.i64 0)) (Operand.tmp 20) (Operand.tmp 20)) none) (AT.act false (AOper.mk (some
  18) (AOp.app 3 1 (Operand.tmp 16) (Operand.tmp 17)) none) (AT.look [AOper.mk (some 22) (AOp.bld [PV.v (Value.slice none 0 0), PV.v (Value.slice none 0
  0), PV.v (Value.slice none 0 0), PV.v (Value.int IntKind.i64 0), PV.v (Value.bool false)] [(0, 1), (1, 1), (2, 1), (3, 1), (4, 1)] [(0, Operand.tmp
  18), (1, Operand.tmp 21)]) none] (AT.act false (AOper.mk none (AOp.store 5 (Operand.tmp 9) (Operand.tmp 22)) none) AT.done))))) (AT.act true (AOper.mk
  (some 21) (AOp.mk 3 1 (PV.v (Value.int IntKind.i64 0)) (Operand.tmp 20) (Operand.tmp 20)) none) (AT.act true (AOper.mk (some 16) (AOp.bsl 3 1 []) none)
  (AT.act false (AOper.mk (some 18) (AOp.app 3 1 (Operand.tmp 16) (Operand.tmp 17)) none) (AT.look [AOper.mk (some 22) (AOp.bld [PV.v (Value.slice none 0
  0), PV.v (Value.slice none 0 0), PV.v (Value.slice none 0 0), PV.v (Value.int IntKind.i64 0), PV.v (Value.bool false)] [(0, 1), (1, 1), (2, 1), (3, 1),
  (4, 1)] [(0, Operand.tmp 18), (1, Operand.tmp 21)]) none] (AT.act false (AOper.mk none (AOp.store 5 (Operand.tmp 9) (Operand.tmp 22)) none)
  AT.done))))))))))))))) (AC.seq (AC.seq (AC.ops [AOper.mk (some 23) (AOp.fadr 0 (Operand.tmp 9)) none, AOper.mk (some 24) (AOp.load false 1 (Operand.tmp
  23)) none, AOper.mk (some 25) (AOp.mov (Operand.tmp 1)) none, AOper.mk (some 26) (AOp.mov (Operand.tmp 8)) none, AOper.mk (some 27) (AOp.call 81
  [Operand.tmp 24, Operand.tmp 25, Operand.tmp 26]) none, AOper.mk (some 10) (AOp.mov (Operand.tmp 27)) none]) (AC.block 0 (AC.loop (AC.seq (AC.seq
  (AC.ops [AOper.mk (some 28) (AOp.mov (Operand.tmp 10)) none, AOper.mk (some 29) (AOp.bin false BinOp.geq (Operand.tmp 28) (Operand.const (Value.int
  IntKind.i64 0))) none]) (AC.cond (Operand.tmp 29) AC.skip (AC.exit 0))) (AC.seq (AC.block 1 (AC.seq (AC.seq (AC.ops [AOper.mk (some 35) (AOp.fadr 3
  (Operand.tmp 9)) none, AOper.mk (some 36) (AOp.load false 1 (Operand.tmp 35)) none, AOper.mk (some 37) (AOp.bin false BinOp.eql (Operand.tmp 36)
  (Operand.const (Value.int IntKind.i64 1048576))) none]) (AC.cond (Operand.tmp 37) (AC.seq (AC.ops [AOper.mk (some 38) (AOp.fadr 4 (Operand.tmp 9))
  none, AOper.mk none (AOp.store 1 (Operand.tmp 38) (Operand.const (Value.bool true))) none]) (AC.seq (AC.ops [AOper.mk (some 39) (AOp.load true 5
  (Operand.tmp 9)) none, AOper.mk none (AOp.store 5 (Operand.tmp 6) (Operand.tmp 39)) none]) AC.ret)) AC.skip)) (AC.seq (AC.segs [([AOper.mk (some 40)
  (AOp.fadr 0 (Operand.tmp 9)) none, AOper.mk (some 41) (AOp.load false 1 (Operand.tmp 40)) none, AOper.mk (some 42) (AOp.mov (Operand.tmp 10)) none,
  AOper.mk (some 43) (AOp.iadr 1 (Operand.tmp 41) (Operand.tmp 42)) none, AOper.mk (some 44) (AOp.load false 1 (Operand.tmp 43)) none, AOper.mk (some 45)
  (AOp.mov (Operand.tmp 8)) none, AOper.mk (some 46) (AOp.mov (Operand.tmp 10)) none, AOper.mk (some 47) (AOp.iadr 1 (Operand.tmp 45) (Operand.tmp 46))
  none, AOper.mk (some 48) (AOp.load false 1 (Operand.tmp 47)) none, AOper.mk (some 49) (AOp.bin false BinOp.sub (Operand.tmp 44) (Operand.tmp 48)) none,
  AOper.mk (some 50) (AOp.iadr 1 (Operand.tmp 41) (Operand.tmp 42)) none], some (false, AOper.mk none (AOp.store 1 (Operand.tmp 50) (Operand.tmp 49))
  none))]) (AC.seq (AC.seq (AC.ops [AOper.mk (some 11) (AOp.mov (Operand.const (Value.int IntKind.i64 0))) none]) (AC.block 2 (AC.loop (AC.seq (AC.seq
  (AC.ops [AOper.mk (some 51) (AOp.mov (Operand.tmp 11)) none, AOper.mk (some 52) (AOp.fadr 0 (Operand.tmp 3)) none, AOper.mk (some 53) (AOp.load false 1
  (Operand.tmp 52)) none, AOper.mk (some 54) (AOp.bin false BinOp.lss (Operand.tmp 51) (Operand.tmp 53)) none]) (AC.cond (Operand.tmp 54) AC.skip
  (AC.exit 2))) (AC.seq (AC.block 3 (AC.segs [([AOper.mk (some 57) (AOp.fadr 0 (Operand.tmp 9)) none, AOper.mk (some 58) (AOp.load false 1 (Operand.tmp
  57)) none, AOper.mk (some 59) (AOp.mov (Operand.tmp 11)) none, AOper.mk (some 60) (AOp.iadr 1 (Operand.tmp 58) (Operand.tmp 59)) none, AOper.mk (some
  61) (AOp.load false 1 (Operand.tmp 60)) none, AOper.mk (some 62) (AOp.mov (Operand.tmp 7)) none, AOper.mk (some 63) (AOp.mov (Operand.tmp 10)) none,
  AOper.mk (some 64) (AOp.iadr 1 (Operand.tmp 62) (Operand.tmp 63)) none, AOper.mk (some 65) (AOp.load false 1 (Operand.tmp 64)) none, AOper.mk (some 66)
  (AOp.mov (Operand.tmp 11)) none, AOper.mk (some 67) (AOp.iadr 1 (Operand.tmp 65) (Operand.tmp 66)) none, AOper.mk (some 68) (AOp.load false 1
  (Operand.tmp 67)) none, AOper.mk (some 69) (AOp.bin false BinOp.add (Operand.tmp 61) (Operand.tmp 68)) none, AOper.mk (some 70) (AOp.iadr 1
  (Operand.tmp 58) (Operand.tmp 59)) none], some (false, AOper.mk none (AOp.store 1 (Operand.tmp 70) (Operand.tmp 69)) none))])) (AC.ops [AOper.mk (some
  55) (AOp.mov (Operand.tmp 11)) none, AOper.mk (some 56) (AOp.bin false BinOp.add (Operand.tmp 55) (Operand.const (Value.int IntKind.i64 1))) none,
  AOper.mk (some 11) (AOp.mov (Operand.tmp 56)) none])))))) (AC.seq (AC.ops [AOper.mk (some 71) (AOp.fadr 1 (Operand.tmp 9)) none, AOper.mk (some 72)
  (AOp.load false 1 (Operand.tmp 71)) none, AOper.mk (some 73) (AOp.mov (Operand.tmp 10)) none, AOper.mk (some 74) (AOp.iadr 1 (Operand.tmp 72)
  (Operand.tmp 73)) none, AOper.mk (some 75) (AOp.load false 1 (Operand.tmp 74)) none, AOper.mk (some 76) (AOp.bin false BinOp.add (Operand.tmp 75)
  (Operand.const (Value.int IntKind.i64 1))) none, AOper.mk (some 77) (AOp.iadr 1 (Operand.tmp 72) (Operand.tmp 73)) none, AOper.mk none (AOp.store 1
  (Operand.tmp 77) (Operand.tmp 76)) none]) (AC.seq (AC.seq (AC.ops [AOper.mk (some 78) (AOp.fadr 3 (Operand.tmp 9)) none, AOper.mk (some 79) (AOp.load
  false 1 (Operand.tmp 78)) none, AOper.mk (some 80) (AOp.bin false BinOp.lss (Operand.tmp 79) (Operand.const (Value.int IntKind.i64 4096))) none])
  (AC.cond (Operand.tmp 80) (AC.ops [AOper.mk (some 81) (AOp.fadr 2 (Operand.tmp 9)) none, AOper.mk (some 82) (AOp.load false 1 (Operand.tmp 81)) none,
  AOper.mk (some 83) (AOp.mov (Operand.tmp 10)) none, AOper.mk (some 84) (AOp.bsl 3 1 [Operand.tmp 83]) none, AOper.mk (some 85) (AOp.app 3 1
  (Operand.tmp 82) (Operand.tmp 84)) none, AOper.mk (some 86) (AOp.fadr 2 (Operand.tmp 9)) none, AOper.mk none (AOp.store 1 (Operand.tmp 86) (Operand.tmp
  85)) none]) AC.skip)) (AC.ops [AOper.mk (some 87) (AOp.fadr 3 (Operand.tmp 9)) none, AOper.mk (some 88) (AOp.load false 1 (Operand.tmp 87)) none,
  AOper.mk (some 89) (AOp.bin false BinOp.add (Operand.tmp 88) (Operand.const (Value.int IntKind.i64 1))) none, AOper.mk (some 90) (AOp.fadr 3
  (Operand.tmp 9)) none, AOper.mk none (AOp.store 1 (Operand.tmp 90) (Operand.tmp 89)) none]))))))) (AC.ops [AOper.mk (some 30) (AOp.fadr 0 (Operand.tmp
  9)) none, AOper.mk (some 31) (AOp.load false 1 (Operand.tmp 30)) none, AOper.mk (some 32) (AOp.mov (Operand.tmp 1)) none, AOper.mk (some 33) (AOp.mov
  (Operand.tmp 8)) none, AOper.mk (some 34) (AOp.call 81 [Operand.tmp 31, Operand.tmp 32, Operand.tmp 33]) none, AOper.mk (some 10) (AOp.mov (Operand.tmp
  34)) none])))))) (AC.seq (AC.ops [AOper.mk (some 91) (AOp.load true 5 (Operand.tmp 9)) none, AOper.mk none (AOp.store 5 (Operand.tmp 6) (Operand.tmp
  91)) none]) AC.ret))))) [ARes.cell 6 true 5]
theorem cfn46 : cfn Try.prog 46 3 = some c46 := by kernel_rfl
def c47 : AFn :=
  AFn.mk 14 (AC.seq (AC.ops [AOper.mk (some 2) (AOp.box 88 (Operand.tmp 0)) none, AOper.mk (some 4) (AOp.mov (Operand.const (Value.int IntKind.i64 0)))
  none]) (AC.seq (AC.seq (AC.ops [AOper.mk (some 5) (AOp.fadr 4 (Operand.tmp 2)) none, AOper.mk (some 6) (AOp.load false 1 (Operand.tmp 5)) none])
  (AC.cond (Operand.tmp 6) (AC.seq (AC.ops [AOper.mk (some 4) (AOp.mov (Operand.const (Value.int IntKind.i64 12))) none]) AC.ret) AC.skip)) (AC.seq
  (AC.seq (AC.ops [AOper.mk (some 7) (AOp.fadr 0 (Operand.tmp 2)) none, AOper.mk (some 8) (AOp.load false 1 (Operand.tmp 7)) none, AOper.mk (some 9)
  (AOp.mov (Operand.tmp 1)) none, AOper.mk (some 10) (AOp.iadr 1 (Operand.tmp 8) (Operand.tmp 9)) none, AOper.mk (some 11) (AOp.load false 1 (Operand.tmp
  10)) none, AOper.mk (some 12) (AOp.call 66 [Operand.tmp 11]) none, AOper.mk (some 13) (AOp.un UnOp.not (Operand.tmp 12)) none]) (AC.cond (Operand.tmp
  13) (AC.seq (AC.ops [AOper.mk (some 4) (AOp.mov (Operand.const (Value.int IntKind.i64 11))) none]) AC.ret) AC.skip)) (AC.seq (AC.ops [AOper.mk (some 4)
  (AOp.mov (Operand.const (Value.int IntKind.i64 0))) none]) AC.ret)))) [ARes.tmp 4]
theorem cfn47 : cfn Try.prog 47 2 = some c47 := by kernel_rfl
def c48 : AFn :=
  AFn.mk 8 (AC.seq (AC.ops [AOper.mk (some 2) (AOp.mov (Operand.const (Value.int IntKind.i64 0))) none]) (AC.seq (AC.ops [AOper.mk (some 3) (AOp.mov
  (Operand.tmp 0)) none, AOper.mk (some 4) (AOp.nilc (Operand.tmp 3)) none, AOper.mk (some 5) (AOp.fadr 6 (Operand.tmp 4)) none, AOper.mk (some 6)
  (AOp.slA 12 (Operand.tmp 5)) none, AOper.mk (some 7) (AOp.call 82 [Operand.tmp 6, Operand.const (Value.bool true)]) none, AOper.mk (some 2) (AOp.mov
  (Operand.tmp 7)) none]) AC.ret)) [ARes.tmp 2]
theorem cfn48 : cfn Try.prog 48 1 = some c48 := by kernel_rfl
def c49 : AFn :=
  AFn.mk 76 (AC.seq (AC.segs [([AOper.mk (some 8) (AOp.mov (Operand.tmp 0)) none, AOper.mk (some 9) (AOp.nilc (Operand.tmp 8)) none, AOper.mk (some 10)
  (AOp.fadr 0 (Operand.tmp 9)) none, AOper.mk (some 11) (AOp.load false 1 (Operand.tmp 10)) none, AOper.mk (some 12) (AOp.mov (Operand.tmp 1)) none,
  AOper.mk (some 13) (AOp.iadr 1 (Operand.tmp 11) (Operand.tmp 12)) none, AOper.mk (some 14) (AOp.load false 1 (Operand.tmp 13)) none, AOper.mk (some 15)
  (AOp.mov (Operand.tmp 2)) none, AOper.mk (some 16) (AOp.mov (Operand.tmp 0)) none, AOper.mk (some 17) (AOp.nilc (Operand.tmp 16)) none, AOper.mk (some
  18) (AOp.fadr 3 (Operand.tmp 17)) none, AOper.mk (some 19) (AOp.load false 1 (Operand.tmp 18)) none, AOper.mk (some 20) (AOp.mov (Operand.tmp 1)) none,
  AOper.mk (some 21) (AOp.iadr 1 (Operand.tmp 19) (Operand.tmp 20)) none, AOper.mk (some 22) (AOp.load false 1 (Operand.tmp 21)) none, AOper.mk (some 23)
  (AOp.bin false BinOp.mul (Operand.tmp 15) (Operand.tmp 22)) none, AOper.mk (some 24) (AOp.bin false BinOp.sub (Operand.tmp 14) (Operand.tmp 23)) none,
  AOper.mk (some 25) (AOp.iadr 1 (Operand.tmp 11) (Operand.tmp 12)) none], some (false, AOper.mk none (AOp.store 1 (Operand.tmp 25) (Operand.tmp 24))
  none))]) (AC.seq (AC.seq (AC.ops [AOper.mk (some 26) (AOp.mov (Operand.tmp 0)) none, AOper.mk (some 27) (AOp.nilc (Operand.tmp 26)) none, AOper.mk
  (some 28) (AOp.fadr 2 (Operand.tmp 27)) none, AOper.mk (some 29) (AOp.load false 1 (Operand.tmp 28)) none, AOper.mk (some 30) (AOp.mov (Operand.tmp 1))
  none, AOper.mk (some 31) (AOp.iadr 1 (Operand.tmp 29) (Operand.tmp 30)) none, AOper.mk (some 32) (AOp.load false 1 (Operand.tmp 31)) none, AOper.mk
  (some 33) (AOp.len (Operand.tmp 32)) none, AOper.mk (some 34) (AOp.mov (Operand.const (Value.int IntKind.i64 0))) none]) (AC.block 0 (AC.loop (AC.seq
  (AC.ops [AOper.mk (some 35) (AOp.bin false BinOp.lss (Operand.tmp 34) (Operand.tmp 33)) none]) (AC.seq (AC.cond (Operand.tmp 35) AC.skip (AC.exit 0))
  (AC.seq (AC.block 1 (AC.seq (AC.ops [AOper.mk (some 36) (AOp.mov (Operand.tmp 34)) none, AOper.mk (some 37) (AOp.iadr 1 (Operand.tmp 32) (Operand.tmp
  34)) none, AOper.mk (some 38) (AOp.load false 1 (Operand.tmp 37)) none, AOper.mk (some 6) (AOp.mov (Operand.tmp 36)) none, AOper.mk (some 7) (AOp.mov
  (Operand.tmp 38)) none]) (AC.seq (AC.ops [AOper.mk (some 39) (AOp.mov (Operand.tmp 0)) none, AOper.mk (some 40) (AOp.nilc (Operand.tmp 39)) none,
  AOper.mk (some 41) (AOp.fadr 0 (Operand.tmp 40)) none, AOper.mk (some 42) (AOp.load false 1 (Operand.tmp 41)) none, AOper.mk (some 43) (AOp.mov
  (Operand.tmp 6)) none, AOper.mk (some 44) (AOp.iadr 1 (Operand.tmp 42) (Operand.tmp 43)) none, AOper.mk (some 45) (AOp.load false 1 (Operand.tmp 44))
  none, AOper.mk (some 46) (AOp.mov (Operand.tmp 2)) none, AOper.mk (some 47) (AOp.mov (Operand.tmp 7)) none, AOper.mk (some 48) (AOp.bin false BinOp.mul
  (Operand.tmp 46) (Operand.tmp 47)) none, AOper.mk (some 49) (AOp.bin false BinOp.add (Operand.tmp 45) (Operand.tmp 48)) none, AOper.mk (some 50)
  (AOp.iadr 1 (Operand.tmp 42) (Operand.tmp 43)) none, AOper.mk none (AOp.store 1 (Operand.tmp 50) (Operand.tmp 49)) none]) (AC.ops [AOper.mk (some 51)
  (AOp.mov (Operand.tmp 0)) none, AOper.mk (some 52) (AOp.mov (Operand.tmp 6)) none, AOper.mk (some 53) (AOp.call 83 [Operand.tmp 51, Operand.tmp 52])
  none])))) (AC.ops [AOper.mk (some 54) (AOp.bin false BinOp.add (Operand.tmp 34) (Operand.const (Value.int IntKind.i64 1))) none, AOper.mk (some 34)
  (AOp.mov (Operand.tmp 54)) none]))))))) (AC.seq (AC.ops [AOper.mk (some 55) (AOp.mov (Operand.tmp 0)) none, AOper.mk (some 56) (AOp.mov (Operand.tmp
  1)) none, AOper.mk (some 57) (AOp.call 83 [Operand.tmp 55, Operand.tmp 56]) none]) (AC.seq (AC.ops [AOper.mk (some 58) (AOp.mov (Operand.tmp 0)) none,
  AOper.mk (some 59) (AOp.nilc (Operand.tmp 58)) none, AOper.mk (some 60) (AOp.fadr 4 (Operand.tmp 59)) none, AOper.mk (some 61) (AOp.load false 1
  (Operand.tmp 60)) none, AOper.mk (some 62) (AOp.mov (Operand.tmp 1)) none, AOper.mk (some 63) (AOp.iadr 1 (Operand.tmp 61) (Operand.tmp 62)) none,
  AOper.mk (some 64) (AOp.load false 1 (Operand.tmp 63)) none, AOper.mk (some 65) (AOp.mov (Operand.tmp 2)) none, AOper.mk (some 66) (AOp.bin false
  BinOp.add (Operand.tmp 64) (Operand.tmp 65)) none, AOper.mk (some 67) (AOp.iadr 1 (Operand.tmp 61) (Operand.tmp 62)) none, AOper.mk none (AOp.store 1
  (Operand.tmp 67) (Operand.tmp 66)) none]) (AC.ops [AOper.mk (some 68) (AOp.mov (Operand.tmp 0)) none, AOper.mk (some 69) (AOp.nilc (Operand.tmp 68))
  none, AOper.mk (some 70) (AOp.fadr 5 (Operand.tmp 69)) none, AOper.mk (some 71) (AOp.load false 1 (Operand.tmp 70)) none, AOper.mk (some 72) (AOp.mov
  (Operand.tmp 2)) none, AOper.mk (some 73) (AOp.bin false BinOp.add (Operand.tmp 71) (Operand.tmp 72)) none, AOper.mk (some 74) (AOp.nilc (Operand.tmp
  68)) none, AOper.mk (some 75) (AOp.fadr 5 (Operand.tmp 74)) none, AOper.mk none (AOp.store 1 (Operand.tmp 75) (Operand.tmp 73)) none]))))) []
theorem cfn49 : cfn Try.prog 49 3 = some c49 := by kernel_rfl
def c50 : AFn :=
  AFn.mk 28 (AC.seq (AC.ops [AOper.mk (some 2) (AOp.box 24 (Operand.tmp 0)) none, AOper.mk (some 4) (AOp.mov (Operand.const (Value.int IntKind.i64 0)))
  none]) (AC.seq (AC.ops [AOper.mk (some 8) (AOp.load true 2 (Operand.tmp 2)) none, AOper.mk (some 9) (AOp.call 84 [Operand.tmp 8]) none, AOper.mk (some
  7) (AOp.mov (Operand.tmp 9)) none, AOper.mk (some 10) (AOp.ext (Operand.tmp 7) 0) none, AOper.mk (some 11) (AOp.ext (Operand.tmp 7) 1) none, AOper.mk
  (some 5) (AOp.mov (Operand.tmp 10)) none, AOper.mk (some 6) (AOp.mov (Operand.tmp 11)) none]) (AC.seq (AC.block 0 (AC.seq (AC.ops [AOper.mk (some 13)
  (AOp.mov (Operand.tmp 6)) none, AOper.mk (some 14) (AOp.bin false BinOp.neq (Operand.tmp 13) (Operand.const (Value.int IntKind.i64 0))) none, AOper.mk
  (some 12) (AOp.mov (Operand.tmp 14)) none]) (AC.cond (Operand.tmp 12) (AC.seq (AC.ops [AOper.mk (some 15) (AOp.mov (Operand.tmp 6)) none, AOper.mk
  (some 4) (AOp.mov (Operand.tmp 15)) none]) AC.ret) (AC.seq (AC.ops [AOper.mk (some 17) (AOp.mov (Operand.tmp 5)) none, AOper.mk (some 18) (AOp.un
  UnOp.not (Operand.tmp 17)) none, AOper.mk (some 16) (AOp.mov (Operand.tmp 18)) none]) (AC.cond (Operand.tmp 16) (AC.seq (AC.ops [AOper.mk (some 4)
  (AOp.mov (Operand.const (Value.int IntKind.i64 13))) none]) AC.ret) (AC.seq (AC.ops [AOper.mk (some 20) (AOp.mov (Operand.tmp 1)) none, AOper.mk (some
  21) (AOp.bin false BinOp.lss (Operand.tmp 20) (Operand.const (Value.int IntKind.i64 0))) none, AOper.mk (some 22) (AOp.mov (Operand.tmp 21)) none,
  AOper.mk (some 23) (AOp.mov (Operand.tmp 1)) (some (22, false)), AOper.mk (some 24) (AOp.fadr 0 (Operand.tmp 2)) (some (22, false)), AOper.mk (some 25)
  (AOp.load false 1 (Operand.tmp 24)) (some (22, false)), AOper.mk (some 26) (AOp.bin false BinOp.geq (Operand.tmp 23) (Operand.tmp 25)) (some (22,
  false)), AOper.mk (some 27) (AOp.pick (Operand.tmp 22) (Operand.const (Value.bool true)) (Operand.tmp 26)) none, AOper.mk (some 19) (AOp.mov
  (Operand.tmp 27)) none]) (AC.cond (Operand.tmp 19) (AC.seq (AC.ops [AOper.mk (some 4) (AOp.mov (Operand.const (Value.int IntKind.i64 2))) none])
  AC.ret) AC.skip))))))) (AC.seq (AC.ops [AOper.mk (some 4) (AOp.mov (Operand.const (Value.int IntKind.i64 0))) none]) AC.ret)))) [ARes.tmp 4]
theorem cfn50 : cfn Try.prog 50 2 = some c50 := by kernel_rfl
def c51 : AFn :=
  AFn.mk 121 (AC.seq (AC.ops [AOper.mk (some 3) (AOp.box 24 (Operand.tmp 0)) none, AOper.mk (some 6) (AOp.mov (Operand.const (Value.pointer none))) none,
  AOper.mk (some 7) (AOp.mov (Operand.const (Value.int IntKind.i64 0))) none]) (AC.seq (AC.tree (AT.look [AOper.mk (some 16) (AOp.mov (Operand.tmp 2))
  none, AOper.mk (some 18) (AOp.mov (Operand.tmp 1)) none, AOper.mk (some 19) (AOp.fadr 0 (Operand.tmp 3)) none, AOper.mk (some 20) (AOp.load false 1
  (Operand.tmp 19)) none, AOper.mk (some 22) (AOp.fadr 0 (Operand.tmp 3)) none, AOper.mk (some 23) (AOp.load false 1 (Operand.tmp 22)) none] (AT.fork
  true (AOper.mk (some 17) (AOp.call 85 [Operand.tmp 16]) none) (AT.fork true (AOper.mk (some 21) (AOp.mk 3 1 (PV.v (Value.int IntKind.i64 0))
  (Operand.tmp 20) (Operand.tmp 20)) none) (AT.act true (AOper.mk (some 24) (AOp.mk 3 1 (PV.v (Value.int IntKind.i64 0)) (Operand.tmp 23) (Operand.tmp
  23)) none) (AT.look [AOper.mk (some 25) (AOp.bld [PV.v (Value.slice none 0 0), PV.v (Value.int IntKind.i64 0), PV.v (Value.slice none 0 0), PV.v
  (Value.slice none 0 0), PV.v (Value.slice none 0 0), PV.v (Value.int IntKind.i64 0), PV.v (Value.bool false), PV.v (Value.bool false), PV.v (Value.bool
  false), PV.v (Value.bool false), PV.v (Value.bool false), PV.v (Value.bool false), PV.v (Value.bool false), PV.v (Value.bool false), PV.v (Value.bool
  false), PV.v (Value.bool false), PV.v (Value.bool false), PV.v (Value.bool false)] [(0, 1), (1, 1), (2, 1), (3, 1), (4, 1), (5, 1), (6, 12)] [(0,
  Operand.tmp 17), (1, Operand.tmp 18), (3, Operand.tmp 21), (4, Operand.tmp 24)]) none] (AT.act true (AOper.mk (some 26) (AOp.box 86 (Operand.tmp 25))
  none) (AT.look [AOper.mk (some 8) (AOp.mov (Operand.tmp 26)) none] AT.done)))) (AT.act true (AOper.mk (some 24) (AOp.mk 3 1 (PV.v (Value.int
  IntKind.i64 0)) (Operand.tmp 23) (Operand.tmp 23)) none) (AT.act true (AOper.mk (some 21) (AOp.mk 3 1 (PV.v (Value.int IntKind.i64 0)) (Operand.tmp 20)
  (Operand.tmp 20)) none) (AT.look [AOper.mk (some 25) (AOp.bld [PV.v (Value.slice none 0 0), PV.v (Value.int IntKind.i64 0), PV.v (Value.slice none 0
  0), PV.v (Value.slice none 0 0), PV.v (Value.slice none 0 0), PV.v (Value.int IntKind.i64 0), PV.v (Value.bool false), PV.v (Value.bool false), PV.v
  (Value.bool false), PV.v (Value.bool false), PV.v (Value.bool false), PV.v (Value.bool false), PV.v (Value.bool false), PV.v (Value.bool false), PV.v
  (Value.bool false), PV.v (Value.bool false), PV.v (Value.bool false), PV.v (Value.bool false)] [(0, 1), (1, 1), (2, 1), (3, 1), (4, 1), (5, 1), (6,
  12)] [(0, Operand.tmp 17), (1, Operand.tmp 18), (3, Operand.tmp 21), (4, Operand.tmp 24)]) none] (AT.act true (AOper.mk (some 26) (AOp.box 86
  (Operand.tmp 25)) none) (AT.look [AOper.mk (some 8) (AOp.mov (Operand.tmp 26)) none] AT.done)))))) (AT.fork true (AOper.mk (some 21) (AOp.mk 3 1 (PV.v
  (Value.int IntKind.i64 0)) (Operand.tmp 20) (Operand.tmp 20)) none) (AT.fork true (AOper.mk (some 17) (AOp.call 85 [Operand.tmp 16]) none) (AT.act true
  (AOper.mk (some 24) (AOp.mk 3 1 (PV.v (Value.int IntKind.i64 0)) (Operand.tmp 23) (Operand.tmp 23)) none) (AT.look [AOper.mk (some 25) (AOp.bld [PV.v
  (Value.slice none 0 0), PV.v (Value.int IntKind.i64 0), PV.v (Value.slice none 0 0), PV.v (Value.slice none 0 0), PV.v (Value.slice none 0 0), PV.v
  (Value.int IntKind.i64 0), PV.v (Value.bool false), PV.v (Value.bool false), PV.v (Value.bool false), PV.v (Value.bool false), PV.v (Value.bool false),
  PV.v (Value.bool false), PV.v (Value.bool false), PV.v (Value.bool false), PV.v (Value.bool false), PV.v (Value.bool false), PV.v (Value.bool false),
  PV.v (Value.bool false)] [(0, 1), (1, 1), (2, 1), (3, 1), (4, 1), (5, 1), (6, 12)] [(0, Operand.tmp 17), (1, Operand.tmp 18), (3, Operand.tmp 21), (4,
  Operand.tmp 24)]) none] (AT.act true (AOper.mk (some 26) (AOp.box 86 (Operand.tmp 25)) none) (AT.look [AOper.mk (some 8) (AOp.mov (Operand.tmp 26))
  none] AT.done)))) (AT.act true (AOper.mk (some 24) (AOp.mk 3 1 (PV.v (Value.int IntKind.i64 0)) (Operand.tmp 23) (Operand.tmp 23)) none) (AT.act true
  (AOper.mk (some 17) (AOp.call 85 [Operand.tmp 16]) none) (AT.look [AOper.mk (some 25) (AOp.bld [PV.v (Value.slice none 0 0), PV.v (Value.int
  IntKind.i64 0), PV.v (Value.slice none 0 0), PV.v (Value.slice none 0 0), PV.v (Value.slice none 0 0), PV.v (Value.int IntKind.i64 0), PV.v (Value.bool
  false), PV.v (Value.bool false), PV.v (Value.bool false), PV.v (Value.bool false), PV.v (Value.bool false), PV.v (Value.bool false), PV.v (Value.bool
  false), PV.v (Value.bool false), PV.v (Value.bool false), PV.v (Value.bool false), PV.v (Value.bool false), PV.v (Value.bool false)] [(0, 1), (1, 1),
  (2, 1), (3, 1), (4, 1), (5, 1), (6, 12)] [(0, Operand.tmp 17), (1, Operand.tmp 18), (3, Operand.tmp 21), (4, Operand.tmp 24)]) none] (AT.act true
  (AOper.mk (some 26) (AOp.box 86 (Operand.tmp 25)) none) (AT.look [AOper.mk (some 8) (AOp.mov (Operand.tmp 26)) none] AT.done)))))) (AT.act true
  (AOper.mk (some 24) (AOp.mk 3 1 (PV.v (Value.int IntKind.i64 0)) (Operand.tmp 23) (Operand.tmp 23)) none) (AT.fork true (AOper.mk (some 17) (AOp.call
  85 [Operand.tmp 16]) none) (AT.act true (AOper.mk (some 21) (AOp.mk 3 1 (PV.v (Value.int IntKind.i64 0)) (Operand.tmp 20) (Operand.tmp 20)) none)
  (AT.look [AOper.mk (some 25) (AOp.bld [PV.v (Value.slice none 0 0), PV.v (Value.int IntKind.i64 0), PV.v (Value.slice none 0 0), PV.v (Value.slice none
  0 0), PV.v (Value.slice none 0 0), PV.v (Value.int IntKind.i64 0), PV.v (Value.bool false), PV.v (Value.bool false), PV.v (Value.bool false), PV.v
  (Value.bool false), PV.v (Value.bool false), PV.v (Value.bool false), PV.v (Value.bool false), PV.v (Value.bool false), PV.v (Value.bool false), PV.v
  (Value.bool false), PV.v (Value.bool false), PV.v (Value.bool false)] [(0, 1), (1, 1), (2, 1), (3, 1), (4, 1), (5, 1), (6, 12)] [(0, Operand.tmp 17),
  (1, Operand.tmp 18), (3, Operand.tmp 21), (4, Operand.tmp 24)]) none] (AT.act true (AOper.mk (some 26) (AOp.box 86 (Operand.tmp 25)) none) (AT.look
  [AOper.mk (some 8) (AOp.mov (Operand.tmp 26)) none] AT.done)))) (AT.act true (AOper.mk (some 21) (AOp.mk 3 1 (PV.v (Value.int IntKind.i64 0))
  (Operand.tmp 20) (Operand.tmp 20)) none) (AT.act true (AOper.mk (some 17) (AOp.call 85 [Operand.tmp 16]) none) (AT.look [AOper.mk (some 25) (AOp.bld
  [PV.v (Value.slice none 0 0), PV.v (Value.int IntKind.i64 0), PV.v (Value.slice none 0 0), PV.v (Value.slice none 0 0), PV.v (Value.slice none 0 0),
  PV.v (Value.int IntKind.i64 0), PV.v (Value.bool false), PV.v (Value.bool false), PV.v (Value.bool false), PV.v (Value.bool false), PV.v (Value.bool
  false), PV.v (Value.bool false), PV.v (Value.bool false), PV.v (Value.bool false), PV.v (Value.bool false), PV.v (Value.bool false), PV.v (Value.bool
  false), PV.v (Value.bool false)] [(0, 1), (1, 1), (2, 1), (3, 1), (4, 1), (5, 1), (6, 12)] [(0, Operand.tmp 17), (1, Operand.tmp 18), (3, Operand.tmp
  21), (4, Operand.tmp 24)]) none] (AT.act true (AOper.mk (some 26) (AOp.box 86 (Operand.tmp 25)) none) (AT.look [AOper.mk (some 8) (AOp.mov (Operand.tmp
  26)) none] AT.done))))))))))) (AC.seq (AC.seq (AC.ops [AOper.mk (some 27) (AOp.fadr 0 (Operand.tmp 3)) none, AOper.mk (some 28) (AOp.load false 1
  (Operand.tmp 27)) none, AOper.mk (some 29) (AOp.mov (Operand.const (Value.int IntKind.i64 0))) none]) (AC.block 0 (AC.loop (AC.seq (AC.ops [AOper.mk
  (some 30) (AOp.bin false BinOp.lss (Operand.tmp 29) (Operand.tmp 28)) none]) (AC.seq (AC.cond (Operand.tmp 30) AC.skip (AC.exit 0)) (AC.seq (AC.block 1
  (AC.segs [([AOper.mk (some 31) (AOp.mov (Operand.tmp 8)) none, AOper.mk (some 32) (AOp.mov (Operand.tmp 8)) none, AOper.mk (some 33) (AOp.nilc
  (Operand.tmp 32)) none, AOper.mk (some 34) (AOp.fadr 2 (Operand.tmp 33)) none, AOper.mk (some 35) (AOp.load false 1 (Operand.tmp 34)) none, AOper.mk
  (some 36) (AOp.fadr 0 (Operand.tmp 3)) none, AOper.mk (some 37) (AOp.load false 1 (Operand.tmp 36)) none], some (true, AOper.mk (some 38) (AOp.mk 3 1
  (PV.v (Value.int IntKind.i64 0)) (Operand.tmp 37) (Operand.tmp 37)) none)), ([], some (true, AOper.mk (some 39) (AOp.bslT 25 [Operand.tmp 38]) none)),
  ([], some (false, AOper.mk (some 40) (AOp.appT 25 (Operand.tmp 35) (Operand.tmp 39)) none)), ([AOper.mk (some 41) (AOp.nilc (Operand.tmp 31)) none,
  AOper.mk (some 42) (AOp.fadr 2 (Operand.tmp 41)) none], some (false, AOper.mk none (AOp.store 1 (Operand.tmp 42) (Operand.tmp 40)) none))])) (AC.ops
  [AOper.mk (some 43) (AOp.bin false BinOp.add (Operand.tmp 29) (Operand.const (Value.int IntKind.i64 1))) none, AOper.mk (some 29) (AOp.mov (Operand.tmp
  43)) none]))))))) (AC.seq (AC.ops [AOper.mk (some 45) (AOp.load true 2 (Operand.tmp 3)) none, AOper.mk (some 46) (AOp.call 86 [Operand.tmp 45]) none,
  AOper.mk (some 44) (AOp.mov (Operand.tmp 46)) none, AOper.mk (some 47) (AOp.ext (Operand.tmp 44) 0) none, AOper.mk (some 48) (AOp.ext (Operand.tmp 44)
  1) none, AOper.mk (some 9) (AOp.mov (Operand.tmp 47)) none, AOper.mk (some 10) (AOp.mov (Operand.tmp 48)) none]) (AC.seq (AC.seq (AC.ops [AOper.mk
  (some 49) (AOp.mov (Operand.tmp 10)) none, AOper.mk (some 50) (AOp.bin false BinOp.neq (Operand.tmp 49) (Operand.const (Value.int IntKind.i64 0)))
  none]) (AC.cond (Operand.tmp 50) (AC.seq (AC.ops [AOper.mk (some 51) (AOp.mov (Operand.tmp 10)) none, AOper.mk (some 6) (AOp.mov (Operand.const
  (Value.pointer none))) none, AOper.mk (some 7) (AOp.mov (Operand.tmp 51)) none]) AC.ret) AC.skip)) (AC.seq (AC.seq (AC.ops [AOper.mk (some 52) (AOp.mov
  (Operand.tmp 9)) none, AOper.mk (some 53) (AOp.len (Operand.tmp 52)) none, AOper.mk (some 54) (AOp.mov (Operand.const (Value.int IntKind.i64 0)))
  none]) (AC.block 2 (AC.loop (AC.seq (AC.ops [AOper.mk (some 55) (AOp.bin false BinOp.lss (Operand.tmp 54) (Operand.tmp 53)) none]) (AC.seq (AC.cond
  (Operand.tmp 55) AC.skip (AC.exit 2)) (AC.seq (AC.block 3 (AC.seq (AC.ops [AOper.mk (some 56) (AOp.iadr 2 (Operand.tmp 52) (Operand.tmp 54)) none,
  AOper.mk (some 57) (AOp.load true 2 (Operand.tmp 56)) none, AOper.mk (some 12) (AOp.zro 131 (PV.agg [PV.v (Value.int IntKind.i64 0), PV.v (Value.int
  IntKind.i64 0)])) none, AOper.mk none (AOp.store 2 (Operand.tmp 12) (Operand.tmp 57)) none]) (AC.seq (AC.segs [([AOper.mk (some 58) (AOp.iadrA 2 1
  (Operand.tmp 12) (Operand.const (Value.int IntKind.i64 0))) none, AOper.mk (some 59) (AOp.load false 1 (Operand.tmp 58)) none, AOper.mk (some 60)
  (AOp.iadrA 2 1 (Operand.tmp 12) (Operand.const (Value.int IntKind.i64 1))) none, AOper.mk (some 61) (AOp.load false 1 (Operand.tmp 60)) none, AOper.mk
  (some 13) (AOp.mov (Operand.tmp 59)) none, AOper.mk (some 14) (AOp.mov (Operand.tmp 61)) none], none)]) (AC.seq (AC.ops [AOper.mk (some 62) (AOp.mov
  (Operand.tmp 13)) none, AOper.mk (some 63) (AOp.mov (Operand.tmp 14)) none, AOper.mk (some 64) (AOp.bin false BinOp.neq (Operand.tmp 62) (Operand.tmp
  63)) none]) (AC.cond (Operand.tmp 64) (AC.seq (AC.ops [AOper.mk (some 65) (AOp.mov (Operand.tmp 8)) none, AOper.mk (some 66) (AOp.nilc (Operand.tmp
  65)) none, AOper.mk (some 67) (AOp.fadr 2 (Operand.tmp 66)) none, AOper.mk (some 68) (AOp.load false 1 (Operand.tmp 67)) none, AOper.mk (some 69)
  (AOp.mov (Operand.tmp 13)) none, AOper.mk (some 70) (AOp.iadr 1 (Operand.tmp 68) (Operand.tmp 69)) none, AOper.mk (some 71) (AOp.load false 1
  (Operand.tmp 70)) none, AOper.mk (some 72) (AOp.mov (Operand.tmp 14)) none, AOper.mk (some 73) (AOp.iadr 1 (Operand.tmp 71) (Operand.tmp 72)) none,
  AOper.mk (some 74) (AOp.load false 1 (Operand.tmp 73)) none, AOper.mk (some 75) (AOp.bin false BinOp.add (Operand.tmp 74) (Operand.const (Value.int
  IntKind.i64 1))) none, AOper.mk (some 76) (AOp.iadr 1 (Operand.tmp 71) (Operand.tmp 72)) none, AOper.mk none (AOp.store 1 (Operand.tmp 76) (Operand.tmp
  75)) none]) (AC.seq (AC.ops [AOper.mk (some 77) (AOp.mov (Operand.tmp 8)) none, AOper.mk (some 78) (AOp.nilc (Operand.tmp 77)) none, AOper.mk (some 79)
  (AOp.fadr 2 (Operand.tmp 78)) none, AOper.mk (some 80) (AOp.load false 1 (Operand.tmp 79)) none, AOper.mk (some 81) (AOp.mov (Operand.tmp 14)) none,
  AOper.mk (some 82) (AOp.iadr 1 (Operand.tmp 80) (Operand.tmp 81)) none, AOper.mk (some 83) (AOp.load false 1 (Operand.tmp 82)) none, AOper.mk (some 84)
  (AOp.mov (Operand.tmp 13)) none, AOper.mk (some 85) (AOp.iadr 1 (Operand.tmp 83) (Operand.tmp 84)) none, AOper.mk (some 86) (AOp.load false 1
  (Operand.tmp 85)) none, AOper.mk (some 87) (AOp.bin false BinOp.add (Operand.tmp 86) (Operand.const (Value.int IntKind.i64 1))) none, AOper.mk (some
  88) (AOp.iadr 1 (Operand.tmp 83) (Operand.tmp 84)) none, AOper.mk none (AOp.store 1 (Operand.tmp 88) (Operand.tmp 87)) none]) (AC.seq (AC.ops [AOper.mk
  (some 89) (AOp.mov (Operand.tmp 8)) none, AOper.mk (some 90) (AOp.nilc (Operand.tmp 89)) none, AOper.mk (some 91) (AOp.fadr 3 (Operand.tmp 90)) none,
  AOper.mk (some 92) (AOp.load false 1 (Operand.tmp 91)) none, AOper.mk (some 93) (AOp.mov (Operand.tmp 13)) none, AOper.mk (some 94) (AOp.iadr 1
  (Operand.tmp 92) (Operand.tmp 93)) none, AOper.mk (some 95) (AOp.load false 1 (Operand.tmp 94)) none, AOper.mk (some 96) (AOp.bin false BinOp.add
  (Operand.tmp 95) (Operand.const (Value.int IntKind.i64 1))) none, AOper.mk (some 97) (AOp.iadr 1 (Operand.tmp 92) (Operand.tmp 93)) none, AOper.mk none
  (AOp.store 1 (Operand.tmp 97) (Operand.tmp 96)) none]) (AC.ops [AOper.mk (some 98) (AOp.mov (Operand.tmp 8)) none, AOper.mk (some 99) (AOp.nilc
  (Operand.tmp 98)) none, AOper.mk (some 100) (AOp.fadr 3 (Operand.tmp 99)) none, AOper.mk (some 101) (AOp.load false 1 (Operand.tmp 100)) none, AOper.mk
  (some 102) (AOp.mov (Operand.tmp 14)) none, AOper.mk (some 103) (AOp.iadr 1 (Operand.tmp 101) (Operand.tmp 102)) none, AOper.mk (some 104) (AOp.load
  false 1 (Operand.tmp 103)) none, AOper.mk (some 105) (AOp.bin false BinOp.add (Operand.tmp 104) (Operand.const (Value.int IntKind.i64 1))) none,
  AOper.mk (some 106) (AOp.iadr 1 (Operand.tmp 101) (Operand.tmp 102)) none, AOper.mk none (AOp.store 1 (Operand.tmp 106) (Operand.tmp 105)) none]))))
  AC.skip))))) (AC.ops [AOper.mk (some 107) (AOp.bin false BinOp.add (Operand.tmp 54) (Operand.const (Value.int IntKind.i64 1))) none, AOper.mk (some 54)
  (AOp.mov (Operand.tmp 107)) none]))))))) (AC.seq (AC.seq (AC.ops [AOper.mk (some 108) (AOp.mov (Operand.tmp 8)) none, AOper.mk (some 109) (AOp.nilc
  (Operand.tmp 108)) none, AOper.mk (some 110) (AOp.fadr 0 (Operand.tmp 109)) none, AOper.mk (some 111) (AOp.load false 1 (Operand.tmp 110)) none,
  AOper.mk (some 112) (AOp.len (Operand.tmp 111)) none, AOper.mk (some 113) (AOp.mov (Operand.const (Value.int IntKind.i64 0))) none]) (AC.block 4
  (AC.loop (AC.seq (AC.ops [AOper.mk (some 114) (AOp.bin false BinOp.lss (Operand.tmp 113) (Operand.tmp 112)) none]) (AC.seq (AC.cond (Operand.tmp 114)
  AC.skip (AC.exit 4)) (AC.seq (AC.block 5 (AC.seq (AC.ops [AOper.mk (some 115) (AOp.mov (Operand.tmp 113)) none, AOper.mk (some 15) (AOp.mov
  (Operand.tmp 115)) none]) (AC.ops [AOper.mk (some 116) (AOp.mov (Operand.tmp 8)) none, AOper.mk (some 117) (AOp.mov (Operand.tmp 15)) none, AOper.mk
  (some 118) (AOp.call 83 [Operand.tmp 116, Operand.tmp 117]) none]))) (AC.ops [AOper.mk (some 119) (AOp.bin false BinOp.add (Operand.tmp 113)
  (Operand.const (Value.int IntKind.i64 1))) none, AOper.mk (some 113) (AOp.mov (Operand.tmp 119)) none]))))))) (AC.seq (AC.ops [AOper.mk (some 120)
  (AOp.mov (Operand.tmp 8)) none, AOper.mk (some 6) (AOp.mov (Operand.tmp 120)) none, AOper.mk (some 7) (AOp.mov (Operand.const (Value.int IntKind.i64
  0))) none]) AC.ret)))))))) [ARes.tmp 6, ARes.tmp 7]
theorem cfn51 : cfn Try.prog 51 3 = some c51 := by kernel_rfl
def c52 : AFn :=
  AFn.mk 18 (AC.seq (AC.ops [AOper.mk (some 2) (AOp.box 24 (Operand.tmp 0)) none, AOper.mk (some 4) (AOp.mov (Operand.const (Value.int IntKind.i64 0)))
  none]) (AC.seq (AC.seq (AC.ops [AOper.mk (some 6) (AOp.load true 2 (Operand.tmp 2)) none, AOper.mk (some 7) (AOp.call 87 [Operand.tmp 6]) none,
  AOper.mk (some 5) (AOp.mov (Operand.tmp 7)) none]) (AC.seq (AC.ops [AOper.mk (some 8) (AOp.mov (Operand.tmp 5)) none, AOper.mk (some 9) (AOp.bin false
  BinOp.neq (Operand.tmp 8) (Operand.const (Value.int IntKind.i64 0))) none]) (AC.cond (Operand.tmp 9) (AC.seq (AC.ops [AOper.mk (some 10) (AOp.mov
  (Operand.tmp 5)) none, AOper.mk (some 4) (AOp.mov (Operand.tmp 10)) none]) AC.ret) AC.skip))) (AC.seq (AC.seq (AC.ops [AOper.mk (some 11) (AOp.load
  true 2 (Operand.tmp 2)) none, AOper.mk (some 12) (AOp.call 88 [Operand.tmp 11]) none, AOper.mk (some 13) (AOp.un UnOp.not (Operand.tmp 12)) none])
  (AC.cond (Operand.tmp 13) (AC.seq (AC.ops [AOper.mk (some 4) (AOp.mov (Operand.const (Value.int IntKind.i64 13))) none]) AC.ret) AC.skip)) (AC.seq
  (AC.seq (AC.ops [AOper.mk (some 14) (AOp.load true 2 (Operand.tmp 2)) none, AOper.mk (some 15) (AOp.mov (Operand.tmp 1)) none, AOper.mk (some 16)
  (AOp.call 57 [Operand.tmp 14, Operand.tmp 15]) none, AOper.mk (some 17) (AOp.un UnOp.not (Operand.tmp 16)) none]) (AC.cond (Operand.tmp 17) (AC.seq
  (AC.ops [AOper.mk (some 4) (AOp.mov (Operand.const (Value.int IntKind.i64 2))) none]) AC.ret) AC.skip)) (AC.seq (AC.ops [AOper.mk (some 4) (AOp.mov
  (Operand.const (Value.int IntKind.i64 0))) none]) AC.ret))))) [ARes.tmp 4]
theorem cfn52 : cfn Try.prog 52 2 = some c52 := by kernel_rfl
def c53 : AFn :=
  AFn.mk 27 (AC.seq (AC.ops [AOper.mk (some 2) (AOp.box 24 (Operand.tmp 0)) none, AOper.mk (some 4) (AOp.mov (Operand.const (Value.slice none 0 0)))
  none]) (AC.seq (AC.ops [AOper.mk (some 7) (AOp.fadr 0 (Operand.tmp 2)) none, AOper.mk (some 8) (AOp.load false 1 (Operand.tmp 7)) none, AOper.mk (some
  9) (AOp.mk 3 1 (PV.v (Value.int IntKind.i64 0)) (Operand.tmp 8) (Operand.tmp 8)) none, AOper.mk (some 5) (AOp.mov (Operand.tmp 9)) none]) (AC.seq
  (AC.seq (AC.ops [AOper.mk (some 6) (AOp.mov (Operand.const (Value.int IntKind.i64 0))) none]) (AC.block 0 (AC.loop (AC.seq (AC.seq (AC.ops [AOper.mk
  (some 10) (AOp.mov (Operand.tmp 6)) none, AOper.mk (some 11) (AOp.fadr 0 (Operand.tmp 2)) none, AOper.mk (some 12) (AOp.load false 1 (Operand.tmp 11))
  none, AOper.mk (some 13) (AOp.bin false BinOp.lss (Operand.tmp 10) (Operand.tmp 12)) none]) (AC.cond (Operand.tmp 13) AC.skip (AC.exit 0))) (AC.seq
  (AC.block 1 (AC.seq (AC.ops [AOper.mk (some 16) (AOp.mov (Operand.tmp 6)) none, AOper.mk (some 17) (AOp.mov (Operand.tmp 1)) none, AOper.mk (some 18)
  (AOp.bin false BinOp.neq (Operand.tmp 16) (Operand.tmp 17)) none]) (AC.cond (Operand.tmp 18) (AC.ops [AOper.mk (some 19) (AOp.mov (Operand.tmp 5))
  none, AOper.mk (some 20) (AOp.mov (Operand.tmp 6)) none, AOper.mk (some 21) (AOp.load true 2 (Operand.tmp 2)) none, AOper.mk (some 22) (AOp.mov
  (Operand.tmp 6)) none, AOper.mk (some 23) (AOp.call 37 [Operand.tmp 21, Operand.tmp 22]) none, AOper.mk (some 24) (AOp.bin false BinOp.sub (Operand.tmp
  23) (Operand.const (Value.int IntKind.i64 1))) none, AOper.mk (some 25) (AOp.iadr 1 (Operand.tmp 19) (Operand.tmp 20)) none, AOper.mk none (AOp.store 1
  (Operand.tmp 25) (Operand.tmp 24)) none]) AC.skip))) (AC.ops [AOper.mk (some 14) (AOp.mov (Operand.tmp 6)) none, AOper.mk (some 15) (AOp.bin false
  BinOp.add (Operand.tmp 14) (Operand.const (Value.int IntKind.i64 1))) none, AOper.mk (some 6) (AOp.mov (Operand.tmp 15)) none])))))) (AC.seq (AC.ops
  [AOper.mk (some 26) (AOp.mov (Operand.tmp 5)) none, AOper.mk (some 4) (AOp.mov (Operand.tmp 26)) none]) AC.ret)))) [ARes.tmp 4]
theorem cfn53 : cfn Try.prog 53 2 = some c53 := by kernel_rfl
def c54 : AFn :=
  AFn.mk 30 (AC.seq (AC.ops [AOper.mk (some 4) (AOp.mov (Operand.const (Value.int IntKind.i64 0))) none]) (AC.seq (AC.seq (AC.ops [AOper.mk (some 5)
  (AOp.mov (Operand.const (Value.int IntKind.i64 0))) none]) (AC.block 0 (AC.loop (AC.seq (AC.seq (AC.ops [AOper.mk (some 6) (AOp.mov (Operand.tmp 5))
  none, AOper.mk (some 7) (AOp.mov (Operand.tmp 0)) none, AOper.mk (some 8) (AOp.len (Operand.tmp 7)) none, AOper.mk (some 9) (AOp.bin false BinOp.lss
  (Operand.tmp 6) (Operand.tmp 8)) none]) (AC.cond (Operand.tmp 9) AC.skip (AC.exit 0))) (AC.seq (AC.block 1 (AC.seq (AC.seq (AC.segs [([AOper.mk (some
  12) (AOp.mov (Operand.tmp 0)) none, AOper.mk (some 13) (AOp.mov (Operand.tmp 5)) none, AOper.mk (some 14) (AOp.iadr 1 (Operand.tmp 12) (Operand.tmp
  13)) none, AOper.mk (some 15) (AOp.load false 1 (Operand.tmp 14)) none, AOper.mk (some 16) (AOp.mov (Operand.tmp 1)) none, AOper.mk (some 17) (AOp.mov
  (Operand.tmp 5)) none, AOper.mk (some 18) (AOp.iadr 1 (Operand.tmp 16) (Operand.tmp 17)) none, AOper.mk (some 19) (AOp.load false 1 (Operand.tmp 18))
  none, AOper.mk (some 20) (AOp.bin false BinOp.lss (Operand.tmp 15) (Operand.tmp 19)) none], none)]) (AC.cond (Operand.tmp 20) (AC.seq (AC.ops [AOper.mk
  (some 4) (AOp.mov (Operand.const (Value.int IntKind.i64 (-1)))) none]) AC.ret) AC.skip)) (AC.seq (AC.segs [([AOper.mk (some 21) (AOp.mov (Operand.tmp
  0)) none, AOper.mk (some 22) (AOp.mov (Operand.tmp 5)) none, AOper.mk (some 23) (AOp.iadr 1 (Operand.tmp 21) (Operand.tmp 22)) none, AOper.mk (some 24)
  (AOp.load false 1 (Operand.tmp 23)) none, AOper.mk (some 25) (AOp.mov (Operand.tmp 1)) none, AOper.mk (some 26) (AOp.mov (Operand.tmp 5)) none,
  AOper.mk (some 27) (AOp.iadr 1 (Operand.tmp 25) (Operand.tmp 26)) none, AOper.mk (some 28) (AOp.load false 1 (Operand.tmp 27)) none, AOper.mk (some 29)
  (AOp.bin false BinOp.gtr (Operand.tmp 24) (Operand.tmp 28)) none], none)]) (AC.cond (Operand.tmp 29) (AC.seq (AC.ops [AOper.mk (some 4) (AOp.mov
  (Operand.const (Value.int IntKind.i64 1))) none]) AC.ret) AC.skip)))) (AC.ops [AOper.mk (some 10) (AOp.mov (Operand.tmp 5)) none, AOper.mk (some 11)
  (AOp.bin false BinOp.add (Operand.tmp 10) (Operand.const (Value.int IntKind.i64 1))) none, AOper.mk (some 5) (AOp.mov (Operand.tmp 11)) none]))))))
  (AC.seq (AC.ops [AOper.mk (some 4) (AOp.mov (Operand.const (Value.int IntKind.i64 0))) none]) AC.ret))) [ARes.tmp 4]
theorem cfn54 : cfn Try.prog 54 2 = some c54 := by kernel_rfl
def c55 : AFn :=
  AFn.mk 24 (AC.seq (AC.ops [AOper.mk (some 3) (AOp.box 24 (Operand.tmp 0)) none, AOper.mk (some 6) (AOp.mov (Operand.const (Value.pointer none))) none,
  AOper.mk (some 7) (AOp.mov (Operand.const (Value.int IntKind.i64 0))) none]) (AC.seq (AC.ops [AOper.mk (some 11) (AOp.load true 2 (Operand.tmp 3))
  none, AOper.mk (some 12) (AOp.mov (Operand.tmp 1)) none, AOper.mk (some 13) (AOp.mov (Operand.tmp 2)) none, AOper.mk (some 14) (AOp.call 44
  [Operand.tmp 11, Operand.tmp 12, Operand.tmp 13]) none, AOper.mk (some 10) (AOp.mov (Operand.tmp 14)) none, AOper.mk (some 15) (AOp.ext (Operand.tmp
  10) 0) none, AOper.mk (some 16) (AOp.ext (Operand.tmp 10) 1) none, AOper.mk (some 8) (AOp.mov (Operand.tmp 15)) none, AOper.mk (some 9) (AOp.mov
  (Operand.tmp 16)) none]) (AC.seq (AC.seq (AC.ops [AOper.mk (some 17) (AOp.mov (Operand.tmp 9)) none, AOper.mk (some 18) (AOp.bin false BinOp.neq
  (Operand.tmp 17) (Operand.const (Value.int IntKind.i64 0))) none]) (AC.cond (Operand.tmp 18) (AC.seq (AC.ops [AOper.mk (some 19) (AOp.mov (Operand.tmp
  9)) none, AOper.mk (some 6) (AOp.mov (Operand.const (Value.pointer none))) none, AOper.mk (some 7) (AOp.mov (Operand.tmp 19)) none]) AC.ret) AC.skip))
  (AC.seq (AC.seq (AC.ops [AOper.mk (some 20) (AOp.mov (Operand.tmp 8)) none, AOper.mk (some 21) (AOp.call 48 [Operand.tmp 20]) none, AOper.mk (some 22)
  (AOp.bin false BinOp.geq (Operand.tmp 21) (Operand.const (Value.int IntKind.i64 0))) none]) (AC.cond (Operand.tmp 22) (AC.seq (AC.ops [AOper.mk (some
  6) (AOp.mov (Operand.const (Value.pointer none))) none, AOper.mk (some 7) (AOp.mov (Operand.const (Value.int IntKind.i64 15))) none]) AC.ret) AC.skip))
  (AC.seq (AC.ops [AOper.mk (some 23) (AOp.mov (Operand.tmp 8)) none, AOper.mk (some 6) (AOp.mov (Operand.tmp 23)) none, AOper.mk (some 7) (AOp.mov
  (Operand.const (Value.int IntKind.i64 0))) none]) AC.ret))))) [ARes.tmp 6, ARes.tmp 7]
theorem cfn55 : cfn Try.prog 55 3 = some c55 := by kernel_rfl
def c56 : AFn :=
  AFn.mk 24 (AC.seq (AC.ops [AOper.mk (some 4) (AOp.box 24 (Operand.tmp 0)) none, AOper.mk (some 8) (AOp.mov (Operand.const (Value.pointer none))) none,
  AOper.mk (some 9) (AOp.mov (Operand.const (Value.int IntKind.i64 0))) none]) (AC.seq (AC.ops [AOper.mk (some 10) (AOp.mov (Operand.tmp 2)) none,
  AOper.mk (some 11) (AOp.call 73 [Operand.tmp 10]) none, AOper.mk (some 2) (AOp.mov (Operand.tmp 11)) none]) (AC.seq (AC.ops [AOper.mk (some 12)
  (AOp.mov (Operand.tmp 2)) none, AOper.mk (some 13) (AOp.mov (Operand.tmp 3)) none, AOper.mk (some 14) (AOp.iadr 1 (Operand.tmp 12) (Operand.tmp 13))
  none, AOper.mk (some 15) (AOp.load false 1 (Operand.tmp 14)) none, AOper.mk (some 16) (AOp.bin false BinOp.add (Operand.tmp 15) (Operand.const
  (Value.int IntKind.i64 1))) none, AOper.mk (some 17) (AOp.iadr 1 (Operand.tmp 12) (Operand.tmp 13)) none, AOper.mk none (AOp.store 1 (Operand.tmp 17)
  (Operand.tmp 16)) none]) (AC.seq (AC.ops [AOper.mk (some 18) (AOp.load true 2 (Operand.tmp 4)) none, AOper.mk (some 19) (AOp.mov (Operand.tmp 1)) none,
  AOper.mk (some 20) (AOp.mov (Operand.tmp 2)) none, AOper.mk (some 21) (AOp.call 51 [Operand.tmp 18, Operand.tmp 19, Operand.tmp 20]) none, AOper.mk
  (some 22) (AOp.ext (Operand.tmp 21) 0) none, AOper.mk (some 23) (AOp.ext (Operand.tmp 21) 1) none, AOper.mk (some 8) (AOp.mov (Operand.tmp 22)) none,
  AOper.mk (some 9) (AOp.mov (Operand.tmp 23)) none]) AC.ret)))) [ARes.tmp 8, ARes.tmp 9]
theorem cfn56 : cfn Try.prog 56 4 = some c56 := by kernel_rfl
def c57 : AFn :=
  AFn.mk 13 (AC.seq (AC.ops [AOper.mk (some 2) (AOp.box 24 (Operand.tmp 0)) none, AOper.mk (some 4) (AOp.mov (Operand.const (Value.bool false))) none])
  (AC.seq (AC.ops [AOper.mk (some 5) (AOp.mov (Operand.tmp 1)) none, AOper.mk (some 6) (AOp.bin false BinOp.geq (Operand.tmp 5) (Operand.const (Value.int
  IntKind.i64 0))) none, AOper.mk (some 7) (AOp.mov (Operand.tmp 6)) none, AOper.mk (some 8) (AOp.mov (Operand.tmp 1)) (some (7, true)), AOper.mk (some
  9) (AOp.fadr 0 (Operand.tmp 2)) (some (7, true)), AOper.mk (some 10) (AOp.load false 1 (Operand.tmp 9)) (some (7, true)), AOper.mk (some 11) (AOp.bin
  false BinOp.lss (Operand.tmp 8) (Operand.tmp 10)) (some (7, true)), AOper.mk (some 12) (AOp.pick (Operand.tmp 7) (Operand.tmp 11) (Operand.const
  (Value.bool false))) none, AOper.mk (some 4) (AOp.mov (Operand.tmp 12)) none]) AC.ret)) [ARes.tmp 4]
theorem cfn57 : cfn Try.prog 57 2 = some c57 := by kernel_rfl
def c58 : AFn :=
  AFn.mk 13 (AC.seq (AC.ops [AOper.mk (some 3) (AOp.box 24 (Operand.tmp 0)) none, AOper.mk (some 6) (AOp.mov (Operand.const (Value.bool false))) none])
  (AC.seq (AC.ops [AOper.mk (some 7) (AOp.load true 2 (Operand.tmp 3)) none, AOper.mk (some 8) (AOp.mov (Operand.tmp 1)) none, AOper.mk (some 9) (AOp.mov
  (Operand.tmp 2)) none, AOper.mk (some 10) (AOp.call 61 [Operand.tmp 7, Operand.tmp 8, Operand.tmp 9]) none, AOper.mk (some 11) (AOp.len (Operand.tmp
  10)) none, AOper.mk (some 12) (AOp.bin false BinOp.eql (Operand.tmp 11) (Operand.const (Value.int IntKind.i64 0))) none, AOper.mk (some 6) (AOp.mov
  (Operand.tmp 12)) none]) AC.ret)) [ARes.tmp 6]
theorem cfn58 : cfn Try.prog 58 3 = some c58 := by kernel_rfl
def c59 : AFn :=
  AFn.mk 16 (AC.seq (AC.ops [AOper.mk (some 4) (AOp.mov (Operand.const (Value.slice none 0 0))) none]) (AC.seq (AC.ops [AOper.mk (some 6) (AOp.bsl 3 1
  []) none, AOper.mk (some 7) (AOp.mov (Operand.tmp 0)) none, AOper.mk (some 8) (AOp.app 3 1 (Operand.tmp 6) (Operand.tmp 7)) none, AOper.mk (some 5)
  (AOp.mov (Operand.tmp 8)) none]) (AC.seq (AC.ops [AOper.mk (some 9) (AOp.mov (Operand.tmp 5)) none, AOper.mk (some 10) (AOp.mov (Operand.tmp 1)) none,
  AOper.mk (some 11) (AOp.iadr 1 (Operand.tmp 9) (Operand.tmp 10)) none, AOper.mk (some 12) (AOp.load false 1 (Operand.tmp 11)) none, AOper.mk (some 13)
  (AOp.bin false BinOp.add (Operand.tmp 12) (Operand.const (Value.int IntKind.i64 1))) none, AOper.mk (some 14) (AOp.iadr 1 (Operand.tmp 9) (Operand.tmp
  10)) none, AOper.mk none (AOp.store 1 (Operand.tmp 14) (Operand.tmp 13)) none]) (AC.seq (AC.ops [AOper.mk (some 15) (AOp.mov (Operand.tmp 5)) none,
  AOper.mk (some 4) (AOp.mov (Operand.tmp 15)) none]) AC.ret)))) [ARes.tmp 4]
theorem cfn59 : cfn Try.prog 59 2 = some c59 := by kernel_rfl
def c60 : AFn :=
  AFn.mk 36 (AC.seq (AC.ops [AOper.mk (some 2) (AOp.mov (Operand.const (Value.int IntKind.i64 0))) none]) (AC.seq (AC.ops [AOper.mk (some 5) (AOp.mov
  (Operand.tmp 0)) none, AOper.mk (some 6) (AOp.fn (Fn.func 49) [Operand.tmp 5] []) none, AOper.mk (some 3) (AOp.mov (Operand.tmp 6)) none]) (AC.seq
  (AC.seq (AC.ops [AOper.mk (some 7) (AOp.mov (Operand.tmp 0)) none, AOper.mk (some 8) (AOp.call 48 [Operand.tmp 7]) none, AOper.mk (some 4) (AOp.mov
  (Operand.tmp 8)) none]) (AC.block 0 (AC.loop (AC.seq (AC.seq (AC.ops [AOper.mk (some 9) (AOp.mov (Operand.tmp 4)) none, AOper.mk (some 10) (AOp.bin
  false BinOp.geq (Operand.tmp 9) (Operand.const (Value.int IntKind.i64 0))) none]) (AC.cond (Operand.tmp 10) AC.skip (AC.exit 0))) (AC.seq (AC.block 1
  (AC.seq (AC.segs [([AOper.mk (some 13) (AOp.mov (Operand.tmp 3)) none, AOper.mk (some 14) (AOp.mov (Operand.tmp 4)) none, AOper.mk (some 15) (AOp.mov
  (Operand.tmp 0)) none, AOper.mk (some 16) (AOp.nilc (Operand.tmp 15)) none, AOper.mk (some 17) (AOp.fadr 0 (Operand.tmp 16)) none, AOper.mk (some 18)
  (AOp.load false 1 (Operand.tmp 17)) none, AOper.mk (some 19) (AOp.mov (Operand.tmp 4)) none, AOper.mk (some 20) (AOp.iadr 1 (Operand.tmp 18)
  (Operand.tmp 19)) none, AOper.mk (some 21) (AOp.load false 1 (Operand.tmp 20)) none, AOper.mk (some 22) (AOp.mov (Operand.tmp 0)) none, AOper.mk (some
  23) (AOp.nilc (Operand.tmp 22)) none, AOper.mk (some 24) (AOp.fadr 3 (Operand.tmp 23)) none, AOper.mk (some 25) (AOp.load false 1 (Operand.tmp 24))
  none, AOper.mk (some 26) (AOp.mov (Operand.tmp 4)) none, AOper.mk (some 27) (AOp.iadr 1 (Operand.tmp 25) (Operand.tmp 26)) none, AOper.mk (some 28)
  (AOp.load false 1 (Operand.tmp 27)) none, AOper.mk (some 29) (AOp.bin false BinOp.quo (Operand.tmp 21) (Operand.tmp 28)) none], some (false, AOper.mk
  (some 30) (AOp.callv (Operand.tmp 13) [Operand.tmp 14, Operand.tmp 29]) none))]) (AC.seq (AC.ops [AOper.mk (some 31) (AOp.mov (Operand.tmp 0)) none,
  AOper.mk (some 32) (AOp.nilc (Operand.tmp 31)) none, AOper.mk (some 33) (AOp.fadr 5 (Operand.tmp 32)) none, AOper.mk (some 34) (AOp.load false 1
  (Operand.tmp 33)) none, AOper.mk (some 35) (AOp.bin false BinOp.gtr (Operand.tmp 34) (Operand.const (Value.int IntKind.i64 1048576))) none]) (AC.cond
  (Operand.tmp 35) (AC.seq (AC.ops [AOper.mk (some 2) (AOp.mov (Operand.const (Value.int IntKind.i64 12))) none]) AC.ret) AC.skip)))) (AC.ops [AOper.mk
  (some 11) (AOp.mov (Operand.tmp 0)) none, AOper.mk (some 12) (AOp.call 48 [Operand.tmp 11]) none, AOper.mk (some 4) (AOp.mov (Operand.tmp 12))
  none])))))) (AC.seq (AC.ops [AOper.mk (some 2) (AOp.mov (Operand.const (Value.int IntKind.i64 0))) none]) AC.ret)))) [ARes.tmp 2]
theorem cfn60 : cfn Try.prog 60 1 = some c60 := by kernel_rfl
def c61 : AFn :=
  AFn.mk 33 (AC.seq (AC.ops [AOper.mk (some 3) (AOp.box 24 (Operand.tmp 0)) none, AOper.mk (some 6) (AOp.mov (Operand.const (Value.slice none 0 0)))
  none]) (AC.seq (AC.ops [AOper.mk (some 7) (AOp.mov (Operand.const (Value.slice none 0 0))) none]) (AC.seq (AC.seq (AC.ops [AOper.mk (some 8) (AOp.mov
  (Operand.const (Value.int IntKind.i64 0))) none]) (AC.block 0 (AC.loop (AC.seq (AC.seq (AC.ops [AOper.mk (some 9) (AOp.mov (Operand.tmp 8)) none,
  AOper.mk (some 10) (AOp.fadr 0 (Operand.tmp 3)) none, AOper.mk (some 11) (AOp.load false 1 (Operand.tmp 10)) none, AOper.mk (some 12) (AOp.bin false
  BinOp.lss (Operand.tmp 9) (Operand.tmp 11)) none]) (AC.cond (Operand.tmp 12) AC.skip (AC.exit 0))) (AC.seq (AC.block 1 (AC.seq (AC.segs [([AOper.mk
  (some 15) (AOp.mov (Operand.tmp 8)) none, AOper.mk (some 16) (AOp.mov (Operand.tmp 1)) none, AOper.mk (some 17) (AOp.bin false BinOp.neq (Operand.tmp
  15) (Operand.tmp 16)) none, AOper.mk (some 18) (AOp.mov (Operand.tmp 17)) none, AOper.mk (some 19) (AOp.mov (Operand.tmp 2)) (some (18, true)),
  AOper.mk (some 20) (AOp.mov (Operand.tmp 8)) (some (18, true)), AOper.mk (some 21) (AOp.iadr 1 (Operand.tmp 19) (Operand.tmp 20)) (some (18, true)),
  AOper.mk (some 22) (AOp.load false 1 (Operand.tmp 21)) (some (18, true)), AOper.mk (some 23) (AOp.load true 2 (Operand.tmp 3)) (some (18, true)),
  AOper.mk (some 24) (AOp.mov (Operand.tmp 8)) (some (18, true))], some (true, AOper.mk (some 25) (AOp.call 37 [Operand.tmp 23, Operand.tmp 24]) (some
  (18, true)))), ([AOper.mk (some 26) (AOp.bin false BinOp.geq (Operand.tmp 22) (Operand.tmp 25)) (some (18, true)), AOper.mk (some 27) (AOp.pick
  (Operand.tmp 18) (Operand.tmp 26) (Operand.const (Value.bool false))) none], none)]) (AC.cond (Operand.tmp 27) (AC.ops [AOper.mk (some 28) (AOp.mov
  (Operand.tmp 7)) none, AOper.mk (some 29) (AOp.mov (Operand.tmp 8)) none, AOper.mk (some 30) (AOp.bsl 3 1 [Operand.tmp 29]) none, AOper.mk (some 31)
  (AOp.app 3 1 (Operand.tmp 28) (Operand.tmp 30)) none, AOper.mk (some 7) (AOp.mov (Operand.tmp 31)) none]) AC.skip))) (AC.ops [AOper.mk (some 13)
  (AOp.mov (Operand.tmp 8)) none, AOper.mk (some 14) (AOp.bin false BinOp.add (Operand.tmp 13) (Operand.const (Value.int IntKind.i64 1))) none, AOper.mk
  (some 8) (AOp.mov (Operand.tmp 14)) none])))))) (AC.seq (AC.ops [AOper.mk (some 32) (AOp.mov (Operand.tmp 7)) none, AOper.mk (some 6) (AOp.mov
  (Operand.tmp 32)) none]) AC.ret)))) [ARes.tmp 6]
theorem cfn61 : cfn Try.prog 61 3 = some c61 := by kernel_rfl
def c62 : AFn :=
  AFn.mk 27 (AC.seq (AC.ops [AOper.mk (some 4) (AOp.mov (Operand.const (Value.int IntKind.i64 0))) none]) (AC.seq (AC.seq (AC.ops [AOper.mk (some 8)
  (AOp.mov (Operand.tmp 1)) none, AOper.mk (some 9) (AOp.call 89 [Operand.tmp 8]) none, AOper.mk (some 5) (AOp.mov (Operand.tmp 9)) none]) (AC.seq
  (AC.ops [AOper.mk (some 10) (AOp.mov (Operand.tmp 5)) none, AOper.mk (some 11) (AOp.bin false BinOp.neq (Operand.tmp 10) (Operand.const (Value.int
  IntKind.i64 0))) none]) (AC.cond (Operand.tmp 11) (AC.seq (AC.ops [AOper.mk (some 12) (AOp.mov (Operand.tmp 5)) none, AOper.mk (some 4) (AOp.mov
  (Operand.tmp 12)) none]) AC.ret) AC.skip))) (AC.seq (AC.seq (AC.ops [AOper.mk (some 13) (AOp.mov (Operand.tmp 0)) none, AOper.mk (some 14) (AOp.len
  (Operand.tmp 13)) none, AOper.mk (some 15) (AOp.mov (Operand.tmp 1)) none, AOper.mk (some 16) (AOp.bin false BinOp.neq (Operand.tmp 14) (Operand.tmp
  15)) none]) (AC.cond (Operand.tmp 16) (AC.seq (AC.ops [AOper.mk (some 4) (AOp.mov (Operand.const (Value.int IntKind.i64 8))) none]) AC.ret) AC.skip))
  (AC.seq (AC.seq (AC.ops [AOper.mk (some 17) (AOp.mov (Operand.tmp 0)) none, AOper.mk (some 18) (AOp.len (Operand.tmp 17)) none, AOper.mk (some 19)
  (AOp.mov (Operand.const (Value.int IntKind.i64 0))) none]) (AC.block 0 (AC.loop (AC.seq (AC.ops [AOper.mk (some 20) (AOp.bin false BinOp.lss
  (Operand.tmp 19) (Operand.tmp 18)) none]) (AC.seq (AC.cond (Operand.tmp 20) AC.skip (AC.exit 0)) (AC.seq (AC.block 1 (AC.seq (AC.ops [AOper.mk (some
  21) (AOp.iadr 1 (Operand.tmp 17) (Operand.tmp 19)) none, AOper.mk (some 22) (AOp.load false 1 (Operand.tmp 21)) none, AOper.mk (some 7) (AOp.mov
  (Operand.tmp 22)) none]) (AC.seq (AC.ops [AOper.mk (some 23) (AOp.mov (Operand.tmp 7)) none, AOper.mk (some 24) (AOp.call 90 [Operand.tmp 23]) none,
  AOper.mk (some 25) (AOp.un UnOp.not (Operand.tmp 24)) none]) (AC.cond (Operand.tmp 25) (AC.seq (AC.ops [AOper.mk (some 4) (AOp.mov (Operand.const
  (Value.int IntKind.i64 2))) none]) AC.ret) AC.skip)))) (AC.ops [AOper.mk (some 26) (AOp.bin false BinOp.add (Operand.tmp 19) (Operand.const (Value.int
  IntKind.i64 1))) none, AOper.mk (some 19) (AOp.mov (Operand.tmp 26)) none]))))))) (AC.seq (AC.ops [AOper.mk (some 4) (AOp.mov (Operand.const (Value.int
  IntKind.i64 0))) none]) AC.ret))))) [ARes.tmp 4]
theorem cfn62 : cfn Try.prog 62 2 = some c62 := by kernel_rfl
def c63 : AFn :=
  AFn.mk 22 (AC.seq (AC.ops [AOper.mk (some 2) (AOp.mov (Operand.const (Value.bool false))) none]) (AC.seq (AC.seq (AC.ops [AOper.mk (some 3) (AOp.mov
  (Operand.const (Value.int IntKind.i64 0))) none]) (AC.block 0 (AC.loop (AC.seq (AC.seq (AC.ops [AOper.mk (some 4) (AOp.mov (Operand.tmp 3)) none,
  AOper.mk (some 5) (AOp.mov (Operand.tmp 0)) none, AOper.mk (some 6) (AOp.len (Operand.tmp 5)) none, AOper.mk (some 7) (AOp.bin false BinOp.lss
  (Operand.tmp 4) (Operand.tmp 6)) none]) (AC.cond (Operand.tmp 7) AC.skip (AC.exit 0))) (AC.seq (AC.block 1 (AC.seq (AC.ops [AOper.mk (some 10) (AOp.mov
  (Operand.tmp 0)) none, AOper.mk (some 11) (AOp.mov (Operand.tmp 3)) none, AOper.mk (some 12) (AOp.iadr 1 (Operand.tmp 10) (Operand.tmp 11)) none,
  AOper.mk (some 13) (AOp.load false 1 (Operand.tmp 12)) none, AOper.mk (some 14) (AOp.bin false BinOp.lss (Operand.tmp 13) (Operand.const (Value.int
  IntKind.i64 (-60)))) none, AOper.mk (some 15) (AOp.mov (Operand.tmp 14)) none, AOper.mk (some 16) (AOp.mov (Operand.tmp 0)) (some (15, false)),
  AOper.mk (some 17) (AOp.mov (Operand.tmp 3)) (some (15, false)), AOper.mk (some 18) (AOp.iadr 1 (Operand.tmp 16) (Operand.tmp 17)) (some (15, false)),
  AOper.mk (some 19) (AOp.load false 1 (Operand.tmp 18)) (some (15, false)), AOper.mk (some 20) (AOp.bin false BinOp.gtr (Operand.tmp 19) (Operand.const
  (Value.int IntKind.i64 60))) (some (15, false)), AOper.mk (some 21) (AOp.pick (Operand.tmp 15) (Operand.const (Value.bool true)) (Operand.tmp 20))
  none]) (AC.cond (Operand.tmp 21) (AC.seq (AC.ops [AOper.mk (some 2) (AOp.mov (Operand.const (Value.bool false))) none]) AC.ret) AC.skip))) (AC.ops
  [AOper.mk (some 8) (AOp.mov (Operand.tmp 3)) none, AOper.mk (some 9) (AOp.bin false BinOp.add (Operand.tmp 8) (Operand.const (Value.int IntKind.i64
  1))) none, AOper.mk (some 3) (AOp.mov (Operand.tmp 9)) none])))))) (AC.seq (AC.ops [AOper.mk (some 2) (AOp.mov (Operand.const (Value.bool true)))
  none]) AC.ret))) [ARes.tmp 2]
theorem cfn63 : cfn Try.prog 63 1 = some c63 := by kernel_rfl
def c64 : AFn :=
  AFn.mk 47 (AC.seq (AC.ops [AOper.mk (some 6) (AOp.mov (Operand.const (Value.slice none 0 0))) none, AOper.mk (some 7) (AOp.mov (Operand.const
  (Value.int IntKind.i64 0))) none]) (AC.seq (AC.seq (AC.ops [AOper.mk (some 11) (AOp.mov (Operand.tmp 0)) none, AOper.mk (some 12) (AOp.mov (Operand.tmp
  1)) none, AOper.mk (some 13) (AOp.bslT 26 [Operand.tmp 11, Operand.tmp 12]) none, AOper.mk (some 14) (AOp.call 91 [Operand.tmp 13]) none, AOper.mk
  (some 8) (AOp.mov (Operand.tmp 14)) none]) (AC.seq (AC.ops [AOper.mk (some 15) (AOp.mov (Operand.tmp 8)) none, AOper.mk (some 16) (AOp.bin false
  BinOp.neq (Operand.tmp 15) (Operand.const (Value.int IntKind.i64 0))) none]) (AC.cond (Operand.tmp 16) (AC.seq (AC.ops [AOper.mk (some 17) (AOp.mov
  (Operand.tmp 8)) none, AOper.mk (some 6) (AOp.mov (Operand.const (Value.slice none 0 0))) none, AOper.mk (some 7) (AOp.mov (Operand.tmp 17)) none])
  AC.ret) AC.skip))) (AC.seq (AC.ops [AOper.mk (some 18) (AOp.mov (Operand.tmp 0)) none, AOper.mk (some 19) (AOp.len (Operand.tmp 18)) none, AOper.mk
  (some 20) (AOp.mk 3 1 (PV.v (Value.int IntKind.i64 0)) (Operand.tmp 19) (Operand.tmp 19)) none, AOper.mk (some 9) (AOp.mov (Operand.tmp 20)) none])
  (AC.seq (AC.seq (AC.ops [AOper.mk (some 21) (AOp.mov (Operand.tmp 9)) none, AOper.mk (some 22) (AOp.len (Operand.tmp 21)) none, AOper.mk (some 23)
  (AOp.mov (Operand.const (Value.int IntKind.i64 0))) none]) (AC.block 0 (AC.loop (AC.seq (AC.ops [AOper.mk (some 24) (AOp.bin false BinOp.lss
  (Operand.tmp 23) (Operand.tmp 22)) none]) (AC.seq (AC.cond (Operand.tmp 24) AC.skip (AC.exit 0)) (AC.seq (AC.block 1 (AC.seq (AC.ops [AOper.mk (some
  25) (AOp.mov (Operand.tmp 23)) none, AOper.mk (some 10) (AOp.mov (Operand.tmp 25)) none]) (AC.seq (AC.segs [([AOper.mk (some 26) (AOp.mov (Operand.tmp
  9)) none, AOper.mk (some 27) (AOp.mov (Operand.tmp 10)) none, AOper.mk (some 28) (AOp.mov (Operand.tmp 2)) none, AOper.mk (some 29) (AOp.mov
  (Operand.tmp 0)) none, AOper.mk (some 30) (AOp.mov (Operand.tmp 10)) none, AOper.mk (some 31) (AOp.iadr 1 (Operand.tmp 29) (Operand.tmp 30)) none,
  AOper.mk (some 32) (AOp.load false 1 (Operand.tmp 31)) none, AOper.mk (some 33) (AOp.mov (Operand.tmp 1)) none, AOper.mk (some 34) (AOp.mov
  (Operand.tmp 10)) none, AOper.mk (some 35) (AOp.iadr 1 (Operand.tmp 33) (Operand.tmp 34)) none, AOper.mk (some 36) (AOp.load false 1 (Operand.tmp 35))
  none], some (false, AOper.mk (some 37) (AOp.callv (Operand.tmp 28) [Operand.tmp 32, Operand.tmp 36]) none)), ([AOper.mk (some 38) (AOp.iadr 1
  (Operand.tmp 26) (Operand.tmp 27)) none], some (false, AOper.mk none (AOp.store 1 (Operand.tmp 38) (Operand.tmp 37)) none))]) (AC.seq (AC.ops [AOper.mk
  (some 39) (AOp.mov (Operand.tmp 9)) none, AOper.mk (some 40) (AOp.mov (Operand.tmp 10)) none, AOper.mk (some 41) (AOp.iadr 1 (Operand.tmp 39)
  (Operand.tmp 40)) none, AOper.mk (some 42) (AOp.load false 1 (Operand.tmp 41)) none, AOper.mk (some 43) (AOp.call 90 [Operand.tmp 42]) none, AOper.mk
  (some 44) (AOp.un UnOp.not (Operand.tmp 43)) none]) (AC.cond (Operand.tmp 44) (AC.seq (AC.ops [AOper.mk (some 6) (AOp.mov (Operand.const (Value.slice
  none 0 0))) none, AOper.mk (some 7) (AOp.mov (Operand.const (Value.int IntKind.i64 11))) none]) AC.ret) AC.skip))))) (AC.ops [AOper.mk (some 45)
  (AOp.bin false BinOp.add (Operand.tmp 23) (Operand.const (Value.int IntKind.i64 1))) none, AOper.mk (some 23) (AOp.mov (Operand.tmp 45)) none])))))))
  (AC.seq (AC.ops [AOper.mk (some 46) (AOp.mov (Operand.tmp 9)) none, AOper.mk (some 6) (AOp.mov (Operand.tmp 46)) none, AOper.mk (some 7) (AOp.mov
  (Operand.const (Value.int IntKind.i64 0))) none]) AC.ret))))) [ARes.tmp 6, ARes.tmp 7]
theorem cfn64 : cfn Try.prog 64 3 = some c64 := by kernel_rfl
end Go.Proofs.Ythdbmoflbnggpaa
