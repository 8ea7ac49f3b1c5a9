/-
  The compiled code of the functions (printed by a program of mine).
-/
import Derived.Test.YtjkmhjjfipnbbaaMad
import Derived.Test.YtjkmhjjfipnbbaaChecked
namespace Go.Proofs.Ytjkmhjjfipnbbaa
open Go.Abs
def c36 : AFn :=
  AFn.mk 6 (AC.seq (AC.ops [AOper.mk (some 2) (AOp.mov (Operand.const (Value.bool false))) none]) (AC.seq (AC.ops [AOper.mk (some 3) (AOp.mov
  (Operand.tmp 0)) none, AOper.mk (some 4) (AOp.len (Operand.tmp 3)) none, AOper.mk (some 5) (AOp.bin false BinOp.leq (Operand.tmp 4) (Operand.const
  (Value.int IntKind.i64 24))) none, AOper.mk (some 2) (AOp.mov (Operand.tmp 5)) none]) AC.ret)) [ARes.tmp 2]
theorem cfn36 : cfn Try.prog 36 1 = some c36 := by kernel_rfl
def c37 : AFn :=
  AFn.mk 29 (AC.seq (AC.ops [AOper.mk (some 3) (AOp.box 24 (Operand.tmp 0)) none, AOper.mk (some 6) (AOp.mov (Operand.const (Value.slice none 0 0)))
  none, AOper.mk (some 7) (AOp.mov (Operand.const (Value.int IntKind.i64 0))) none]) (AC.seq (AC.seq (AC.ops [AOper.mk (some 10) (AOp.load true 2
  (Operand.tmp 3)) none, AOper.mk (some 11) (AOp.mov (Operand.tmp 1)) none, AOper.mk (some 12) (AOp.call 54 [Operand.tmp 10, Operand.tmp 11]) none,
  AOper.mk (some 8) (AOp.mov (Operand.tmp 12)) none]) (AC.seq (AC.ops [AOper.mk (some 13) (AOp.mov (Operand.tmp 8)) none, AOper.mk (some 14) (AOp.bin
  false BinOp.neq (Operand.tmp 13) (Operand.const (Value.int IntKind.i64 0))) none]) (AC.cond (Operand.tmp 14) (AC.seq (AC.ops [AOper.mk (some 15)
  (AOp.mov (Operand.tmp 8)) none, AOper.mk (some 6) (AOp.mov (Operand.const (Value.slice none 0 0))) none, AOper.mk (some 7) (AOp.mov (Operand.tmp 15))
  none]) AC.ret) AC.skip))) (AC.seq (AC.seq (AC.ops [AOper.mk (some 16) (AOp.load true 2 (Operand.tmp 3)) none, AOper.mk (some 17) (AOp.mov (Operand.tmp
  2)) none, AOper.mk (some 18) (AOp.call 16 [Operand.tmp 16, Operand.tmp 17]) none, AOper.mk (some 9) (AOp.mov (Operand.tmp 18)) none]) (AC.seq (AC.ops
  [AOper.mk (some 19) (AOp.mov (Operand.tmp 9)) none, AOper.mk (some 20) (AOp.bin false BinOp.neq (Operand.tmp 19) (Operand.const (Value.int IntKind.i64
  0))) none]) (AC.cond (Operand.tmp 20) (AC.seq (AC.ops [AOper.mk (some 21) (AOp.mov (Operand.tmp 9)) none, AOper.mk (some 6) (AOp.mov (Operand.const
  (Value.slice none 0 0))) none, AOper.mk (some 7) (AOp.mov (Operand.tmp 21)) none]) AC.ret) AC.skip))) (AC.seq (AC.ops [AOper.mk (some 22) (AOp.load
  true 2 (Operand.tmp 3)) none, AOper.mk (some 23) (AOp.mov (Operand.tmp 1)) none, AOper.mk (some 24) (AOp.mov (Operand.tmp 2)) none, AOper.mk (some 25)
  (AOp.call 51 [Operand.tmp 22, Operand.tmp 23, Operand.tmp 24]) none, AOper.mk (some 26) (AOp.call 50 [Operand.tmp 25]) none, AOper.mk (some 27)
  (AOp.ext (Operand.tmp 26) 0) none, AOper.mk (some 28) (AOp.ext (Operand.tmp 26) 1) none, AOper.mk (some 6) (AOp.mov (Operand.tmp 27)) none, AOper.mk
  (some 7) (AOp.mov (Operand.tmp 28)) none]) AC.ret)))) [ARes.tmp 6, ARes.tmp 7]
theorem cfn37 : cfn Try.prog 37 3 = some c37 := by kernel_rfl
def c38 : AFn :=
  AFn.mk 29 (AC.seq (AC.ops [AOper.mk (some 3) (AOp.box 24 (Operand.tmp 0)) none, AOper.mk (some 6) (AOp.mov (Operand.const (Value.slice none 0 0)))
  none, AOper.mk (some 7) (AOp.mov (Operand.const (Value.int IntKind.i64 0))) none]) (AC.seq (AC.seq (AC.ops [AOper.mk (some 10) (AOp.load true 2
  (Operand.tmp 3)) none, AOper.mk (some 11) (AOp.mov (Operand.tmp 1)) none, AOper.mk (some 12) (AOp.call 60 [Operand.tmp 10, Operand.tmp 11]) none,
  AOper.mk (some 8) (AOp.mov (Operand.tmp 12)) none]) (AC.seq (AC.ops [AOper.mk (some 13) (AOp.mov (Operand.tmp 8)) none, AOper.mk (some 14) (AOp.bin
  false BinOp.neq (Operand.tmp 13) (Operand.const (Value.int IntKind.i64 0))) none]) (AC.cond (Operand.tmp 14) (AC.seq (AC.ops [AOper.mk (some 15)
  (AOp.mov (Operand.tmp 8)) none, AOper.mk (some 6) (AOp.mov (Operand.const (Value.slice none 0 0))) none, AOper.mk (some 7) (AOp.mov (Operand.tmp 15))
  none]) AC.ret) AC.skip))) (AC.seq (AC.seq (AC.ops [AOper.mk (some 16) (AOp.load true 2 (Operand.tmp 3)) none, AOper.mk (some 17) (AOp.mov (Operand.tmp
  2)) none, AOper.mk (some 18) (AOp.call 17 [Operand.tmp 16, Operand.tmp 17]) none, AOper.mk (some 9) (AOp.mov (Operand.tmp 18)) none]) (AC.seq (AC.ops
  [AOper.mk (some 19) (AOp.mov (Operand.tmp 9)) none, AOper.mk (some 20) (AOp.bin false BinOp.neq (Operand.tmp 19) (Operand.const (Value.int IntKind.i64
  0))) none]) (AC.cond (Operand.tmp 20) (AC.seq (AC.ops [AOper.mk (some 21) (AOp.mov (Operand.tmp 9)) none, AOper.mk (some 6) (AOp.mov (Operand.const
  (Value.slice none 0 0))) none, AOper.mk (some 7) (AOp.mov (Operand.tmp 21)) none]) AC.ret) AC.skip))) (AC.seq (AC.ops [AOper.mk (some 22) (AOp.load
  true 2 (Operand.tmp 3)) none, AOper.mk (some 23) (AOp.mov (Operand.tmp 1)) none, AOper.mk (some 24) (AOp.mov (Operand.tmp 2)) none, AOper.mk (some 25)
  (AOp.call 53 [Operand.tmp 22, Operand.tmp 23, Operand.tmp 24]) none, AOper.mk (some 26) (AOp.call 52 [Operand.tmp 25]) none, AOper.mk (some 27)
  (AOp.ext (Operand.tmp 26) 0) none, AOper.mk (some 28) (AOp.ext (Operand.tmp 26) 1) none, AOper.mk (some 6) (AOp.mov (Operand.tmp 27)) none, AOper.mk
  (some 7) (AOp.mov (Operand.tmp 28)) none]) AC.ret)))) [ARes.tmp 6, ARes.tmp 7]
theorem cfn38 : cfn Try.prog 38 3 = some c38 := by kernel_rfl
def c39 : AFn :=
  AFn.mk 18 (AC.seq (AC.ops [AOper.mk (some 2) (AOp.mov (Operand.const (Value.int IntKind.i64 0))) none]) (AC.seq (AC.ops [AOper.mk (some 3) (AOp.mov
  (Operand.const (Value.int IntKind.i64 0))) none]) (AC.seq (AC.seq (AC.ops [AOper.mk (some 4) (AOp.mov (Operand.const (Value.int IntKind.i64 0))) none])
  (AC.block 0 (AC.loop (AC.seq (AC.seq (AC.ops [AOper.mk (some 5) (AOp.mov (Operand.tmp 4)) none, AOper.mk (some 6) (AOp.mov (Operand.tmp 0)) none,
  AOper.mk (some 7) (AOp.len (Operand.tmp 6)) none, AOper.mk (some 8) (AOp.bin false BinOp.lss (Operand.tmp 5) (Operand.tmp 7)) none]) (AC.cond
  (Operand.tmp 8) AC.skip (AC.exit 0))) (AC.seq (AC.block 1 (AC.ops [AOper.mk (some 11) (AOp.mov (Operand.tmp 3)) none, AOper.mk (some 12) (AOp.mov
  (Operand.tmp 0)) none, AOper.mk (some 13) (AOp.mov (Operand.tmp 4)) none, AOper.mk (some 14) (AOp.iadr 1 (Operand.tmp 12) (Operand.tmp 13)) none,
  AOper.mk (some 15) (AOp.load false 1 (Operand.tmp 14)) none, AOper.mk (some 16) (AOp.bin false BinOp.add (Operand.tmp 11) (Operand.tmp 15)) none,
  AOper.mk (some 3) (AOp.mov (Operand.tmp 16)) none])) (AC.ops [AOper.mk (some 9) (AOp.mov (Operand.tmp 4)) none, AOper.mk (some 10) (AOp.bin false
  BinOp.add (Operand.tmp 9) (Operand.const (Value.int IntKind.i64 1))) none, AOper.mk (some 4) (AOp.mov (Operand.tmp 10)) none])))))) (AC.seq (AC.ops
  [AOper.mk (some 17) (AOp.mov (Operand.tmp 3)) none, AOper.mk (some 2) (AOp.mov (Operand.tmp 17)) none]) AC.ret)))) [ARes.tmp 2]
theorem cfn39 : cfn Try.prog 39 1 = some c39 := by kernel_rfl
def c40 : AFn :=
  AFn.mk 16 (AC.seq (AC.ops [AOper.mk (some 2) (AOp.mov (Operand.const (Value.bool false))) none]) (AC.seq (AC.ops [AOper.mk (some 3) (AOp.mov
  (Operand.tmp 0)) none, AOper.mk (some 4) (AOp.len (Operand.tmp 3)) none, AOper.mk (some 5) (AOp.bin false BinOp.leq (Operand.tmp 4) (Operand.const
  (Value.int IntKind.i64 80))) none, AOper.mk (some 6) (AOp.mov (Operand.tmp 5)) none, AOper.mk (some 7) (AOp.mov (Operand.tmp 0)) (some (6, false)),
  AOper.mk (some 8) (AOp.len (Operand.tmp 7)) (some (6, false)), AOper.mk (some 9) (AOp.bin false BinOp.gtr (Operand.tmp 8) (Operand.const (Value.int
  IntKind.i64 4096))) (some (6, false)), AOper.mk (some 10) (AOp.mov (Operand.tmp 9)) (some (6, false)), AOper.mk (some 11) (AOp.mov (Operand.tmp 0))
  (some (10, true)), AOper.mk (some 12) (AOp.len (Operand.tmp 11)) (some (10, true)), AOper.mk (some 13) (AOp.bin false BinOp.leq (Operand.tmp 12)
  (Operand.const (Value.int IntKind.i64 8192))) (some (10, true)), AOper.mk (some 14) (AOp.pick (Operand.tmp 10) (Operand.tmp 13) (Operand.const
  (Value.bool false))) (some (6, false)), AOper.mk (some 15) (AOp.pick (Operand.tmp 6) (Operand.const (Value.bool true)) (Operand.tmp 14)) none, AOper.mk
  (some 2) (AOp.mov (Operand.tmp 15)) none]) AC.ret)) [ARes.tmp 2]
theorem cfn40 : cfn Try.prog 40 1 = some c40 := by kernel_rfl
def c41 : AFn :=
  AFn.mk 70 (AC.seq (AC.ops [AOper.mk (some 3) (AOp.box 24 (Operand.tmp 0)) none, AOper.mk (some 6) (AOp.mov (Operand.const (Value.slice none 0 0)))
  none, AOper.mk (some 7) (AOp.mov (Operand.const (Value.int IntKind.i64 0))) none, AOper.mk (some 8) (AOp.mov (Operand.const (Value.int IntKind.i64 0)))
  none]) (AC.seq (AC.seq (AC.ops [AOper.mk (some 17) (AOp.load true 2 (Operand.tmp 3)) none, AOper.mk (some 18) (AOp.mov (Operand.tmp 1)) none, AOper.mk
  (some 19) (AOp.call 54 [Operand.tmp 17, Operand.tmp 18]) none, AOper.mk (some 9) (AOp.mov (Operand.tmp 19)) none]) (AC.seq (AC.ops [AOper.mk (some 20)
  (AOp.mov (Operand.tmp 9)) none, AOper.mk (some 21) (AOp.bin false BinOp.neq (Operand.tmp 20) (Operand.const (Value.int IntKind.i64 0))) none]) (AC.cond
  (Operand.tmp 21) (AC.seq (AC.ops [AOper.mk (some 22) (AOp.mov (Operand.tmp 9)) none, AOper.mk (some 6) (AOp.mov (Operand.const (Value.slice none 0 0)))
  none, AOper.mk (some 7) (AOp.mov (Operand.const (Value.int IntKind.i64 0))) none, AOper.mk (some 8) (AOp.mov (Operand.tmp 22)) none]) AC.ret)
  AC.skip))) (AC.seq (AC.seq (AC.ops [AOper.mk (some 23) (AOp.load true 2 (Operand.tmp 3)) none, AOper.mk (some 24) (AOp.mov (Operand.tmp 2)) none,
  AOper.mk (some 25) (AOp.call 76 [Operand.tmp 23, Operand.tmp 24]) none, AOper.mk (some 10) (AOp.mov (Operand.tmp 25)) none]) (AC.seq (AC.ops [AOper.mk
  (some 26) (AOp.mov (Operand.tmp 10)) none, AOper.mk (some 27) (AOp.bin false BinOp.neq (Operand.tmp 26) (Operand.const (Value.int IntKind.i64 0)))
  none]) (AC.cond (Operand.tmp 27) (AC.seq (AC.ops [AOper.mk (some 28) (AOp.mov (Operand.tmp 10)) none, AOper.mk (some 6) (AOp.mov (Operand.const
  (Value.slice none 0 0))) none, AOper.mk (some 7) (AOp.mov (Operand.const (Value.int IntKind.i64 0))) none, AOper.mk (some 8) (AOp.mov (Operand.tmp 28))
  none]) AC.ret) AC.skip))) (AC.seq (AC.segs [([AOper.mk (some 29) (AOp.load true 2 (Operand.tmp 3)) none, AOper.mk (some 30) (AOp.mov (Operand.tmp 1))
  none], some (true, AOper.mk (some 31) (AOp.call 77 [Operand.tmp 30]) none)), ([AOper.mk (some 32) (AOp.bld [PV.v (Value.int IntKind.i64 0), PV.v
  (Value.slice none 0 0), PV.v (Value.slice none 0 0)] [(0, 2), (2, 1)] [(0, Operand.tmp 29), (1, Operand.tmp 31)]) none], some (true, AOper.mk (some 33)
  (AOp.box 104 (Operand.tmp 32)) none)), ([AOper.mk (some 11) (AOp.mov (Operand.tmp 33)) none], none)]) (AC.seq (AC.ops [AOper.mk (some 34) (AOp.mov
  (Operand.tmp 11)) none, AOper.mk (some 35) (AOp.fn (Fn.func 73) [Operand.tmp 34] []) none, AOper.mk (some 12) (AOp.mov (Operand.tmp 35)) none]) (AC.seq
  (AC.seq (AC.ops [AOper.mk (some 36) (AOp.mov (Operand.tmp 2)) none, AOper.mk (some 37) (AOp.len (Operand.tmp 36)) none, AOper.mk (some 38) (AOp.mov
  (Operand.const (Value.int IntKind.i64 0))) none]) (AC.block 0 (AC.loop (AC.seq (AC.ops [AOper.mk (some 39) (AOp.bin false BinOp.lss (Operand.tmp 38)
  (Operand.tmp 37)) none]) (AC.seq (AC.cond (Operand.tmp 39) AC.skip (AC.exit 0)) (AC.seq (AC.block 1 (AC.seq (AC.ops [AOper.mk (some 40) (AOp.mov
  (Operand.tmp 38)) none, AOper.mk (some 41) (AOp.iadr 1 (Operand.tmp 36) (Operand.tmp 38)) none, AOper.mk (some 42) (AOp.load false 1 (Operand.tmp 41))
  none, AOper.mk (some 13) (AOp.mov (Operand.tmp 40)) none, AOper.mk (some 14) (AOp.mov (Operand.tmp 42)) none]) (AC.seq (AC.seq (AC.ops [AOper.mk (some
  43) (AOp.mov (Operand.tmp 12)) none, AOper.mk (some 44) (AOp.mov (Operand.tmp 14)) none, AOper.mk (some 45) (AOp.callv (Operand.tmp 43) [Operand.tmp
  44]) none, AOper.mk (some 46) (AOp.un UnOp.not (Operand.tmp 45)) none]) (AC.cond (Operand.tmp 46) (AC.seq (AC.ops [AOper.mk (some 47) (AOp.mov
  (Operand.tmp 13)) none, AOper.mk (some 6) (AOp.mov (Operand.const (Value.slice none 0 0))) none, AOper.mk (some 7) (AOp.mov (Operand.tmp 47)) none,
  AOper.mk (some 8) (AOp.mov (Operand.const (Value.int IntKind.i64 18))) none]) AC.ret) AC.skip)) (AC.seq (AC.ops [AOper.mk (some 48) (AOp.mov
  (Operand.tmp 11)) none, AOper.mk (some 49) (AOp.mov (Operand.tmp 14)) none, AOper.mk (some 50) (AOp.call 78 [Operand.tmp 48, Operand.tmp 49]) none])
  (AC.seq (AC.ops [AOper.mk (some 52) (AOp.mov (Operand.tmp 11)) none, AOper.mk (some 53) (AOp.nilc (Operand.tmp 52)) none, AOper.mk (some 54) (AOp.fadr
  2 (Operand.tmp 53)) none, AOper.mk (some 55) (AOp.load false 1 (Operand.tmp 54)) none, AOper.mk (some 56) (AOp.call 50 [Operand.tmp 55]) none, AOper.mk
  (some 51) (AOp.mov (Operand.tmp 56)) none, AOper.mk (some 57) (AOp.ext (Operand.tmp 51) 0) none, AOper.mk (some 58) (AOp.ext (Operand.tmp 51) 1) none,
  AOper.mk (some 15) (AOp.mov (Operand.tmp 57)) none, AOper.mk (some 16) (AOp.mov (Operand.tmp 58)) none]) (AC.seq (AC.ops [AOper.mk (some 59) (AOp.mov
  (Operand.tmp 16)) none, AOper.mk (some 60) (AOp.bin false BinOp.neq (Operand.tmp 59) (Operand.const (Value.int IntKind.i64 0))) none]) (AC.cond
  (Operand.tmp 60) (AC.seq (AC.ops [AOper.mk (some 61) (AOp.mov (Operand.tmp 13)) none, AOper.mk (some 62) (AOp.mov (Operand.tmp 16)) none, AOper.mk
  (some 6) (AOp.mov (Operand.const (Value.slice none 0 0))) none, AOper.mk (some 7) (AOp.mov (Operand.tmp 61)) none, AOper.mk (some 8) (AOp.mov
  (Operand.tmp 62)) none]) AC.ret) AC.skip))))))) (AC.ops [AOper.mk (some 63) (AOp.bin false BinOp.add (Operand.tmp 38) (Operand.const (Value.int
  IntKind.i64 1))) none, AOper.mk (some 38) (AOp.mov (Operand.tmp 63)) none]))))))) (AC.seq (AC.ops [AOper.mk (some 64) (AOp.mov (Operand.tmp 11)) none,
  AOper.mk (some 65) (AOp.nilc (Operand.tmp 64)) none, AOper.mk (some 66) (AOp.fadr 2 (Operand.tmp 65)) none, AOper.mk (some 67) (AOp.load false 1
  (Operand.tmp 66)) none, AOper.mk (some 68) (AOp.mov (Operand.tmp 2)) none, AOper.mk (some 69) (AOp.len (Operand.tmp 68)) none, AOper.mk (some 6)
  (AOp.mov (Operand.tmp 67)) none, AOper.mk (some 7) (AOp.mov (Operand.tmp 69)) none, AOper.mk (some 8) (AOp.mov (Operand.const (Value.int IntKind.i64
  0))) none]) AC.ret))))))) [ARes.tmp 6, ARes.tmp 7, ARes.tmp 8]
theorem cfn41 : cfn Try.prog 41 3 = some c41 := by kernel_rfl
def c42 : AFn :=
  AFn.mk 66 (AC.seq (AC.ops [AOper.mk (some 3) (AOp.box 24 (Operand.tmp 0)) none, AOper.mk (some 6) (AOp.mov (Operand.const (Value.slice none 0 0)))
  none, AOper.mk (some 7) (AOp.mov (Operand.const (Value.int IntKind.i64 0))) none, AOper.mk (some 8) (AOp.mov (Operand.const (Value.int IntKind.i64 0)))
  none]) (AC.seq (AC.seq (AC.ops [AOper.mk (some 15) (AOp.load true 2 (Operand.tmp 3)) none, AOper.mk (some 16) (AOp.mov (Operand.tmp 1)) none, AOper.mk
  (some 17) (AOp.call 60 [Operand.tmp 15, Operand.tmp 16]) none, AOper.mk (some 9) (AOp.mov (Operand.tmp 17)) none]) (AC.seq (AC.ops [AOper.mk (some 18)
  (AOp.mov (Operand.tmp 9)) none, AOper.mk (some 19) (AOp.bin false BinOp.neq (Operand.tmp 18) (Operand.const (Value.int IntKind.i64 0))) none]) (AC.cond
  (Operand.tmp 19) (AC.seq (AC.ops [AOper.mk (some 20) (AOp.mov (Operand.tmp 9)) none, AOper.mk (some 6) (AOp.mov (Operand.const (Value.slice none 0 0)))
  none, AOper.mk (some 7) (AOp.mov (Operand.const (Value.int IntKind.i64 0))) none, AOper.mk (some 8) (AOp.mov (Operand.tmp 20)) none]) AC.ret)
  AC.skip))) (AC.seq (AC.seq (AC.ops [AOper.mk (some 21) (AOp.load true 2 (Operand.tmp 3)) none, AOper.mk (some 22) (AOp.mov (Operand.tmp 2)) none,
  AOper.mk (some 23) (AOp.call 79 [Operand.tmp 21, Operand.tmp 22]) none, AOper.mk (some 10) (AOp.mov (Operand.tmp 23)) none]) (AC.seq (AC.ops [AOper.mk
  (some 24) (AOp.mov (Operand.tmp 10)) none, AOper.mk (some 25) (AOp.bin false BinOp.neq (Operand.tmp 24) (Operand.const (Value.int IntKind.i64 0)))
  none]) (AC.cond (Operand.tmp 25) (AC.seq (AC.ops [AOper.mk (some 26) (AOp.mov (Operand.tmp 10)) none, AOper.mk (some 6) (AOp.mov (Operand.const
  (Value.slice none 0 0))) none, AOper.mk (some 7) (AOp.mov (Operand.const (Value.int IntKind.i64 0))) none, AOper.mk (some 8) (AOp.mov (Operand.tmp 26))
  none]) AC.ret) AC.skip))) (AC.seq (AC.ops [AOper.mk (some 27) (AOp.bsl 3 1 []) none, AOper.mk (some 28) (AOp.mov (Operand.tmp 1)) none, AOper.mk (some
  29) (AOp.app 3 1 (Operand.tmp 27) (Operand.tmp 28)) none, AOper.mk (some 11) (AOp.mov (Operand.tmp 29)) none]) (AC.seq (AC.seq (AC.ops [AOper.mk (some
  12) (AOp.mov (Operand.const (Value.int IntKind.i64 0))) none]) (AC.block 0 (AC.loop (AC.seq (AC.seq (AC.ops [AOper.mk (some 30) (AOp.mov (Operand.tmp
  12)) none, AOper.mk (some 31) (AOp.mov (Operand.tmp 2)) none, AOper.mk (some 32) (AOp.len (Operand.tmp 31)) none, AOper.mk (some 33) (AOp.bin false
  BinOp.lss (Operand.tmp 30) (Operand.tmp 32)) none]) (AC.cond (Operand.tmp 33) AC.skip (AC.exit 0))) (AC.seq (AC.block 1 (AC.seq (AC.seq (AC.segs
  [([AOper.mk (some 36) (AOp.load true 2 (Operand.tmp 3)) none, AOper.mk (some 37) (AOp.mov (Operand.tmp 11)) none, AOper.mk (some 38) (AOp.mov
  (Operand.tmp 2)) none, AOper.mk (some 39) (AOp.mov (Operand.tmp 12)) none, AOper.mk (some 40) (AOp.iadr 1 (Operand.tmp 38) (Operand.tmp 39)) none,
  AOper.mk (some 41) (AOp.load false 1 (Operand.tmp 40)) none], some (true, AOper.mk (some 42) (AOp.call 74 [Operand.tmp 36, Operand.tmp 37, Operand.tmp
  41]) none)), ([AOper.mk (some 43) (AOp.un UnOp.not (Operand.tmp 42)) none], none)]) (AC.cond (Operand.tmp 43) (AC.seq (AC.ops [AOper.mk (some 44)
  (AOp.mov (Operand.tmp 12)) none, AOper.mk (some 6) (AOp.mov (Operand.const (Value.slice none 0 0))) none, AOper.mk (some 7) (AOp.mov (Operand.tmp 44))
  none, AOper.mk (some 8) (AOp.mov (Operand.const (Value.int IntKind.i64 18))) none]) AC.ret) AC.skip)) (AC.seq (AC.segs [([AOper.mk (some 46) (AOp.load
  true 2 (Operand.tmp 3)) none, AOper.mk (some 47) (AOp.mov (Operand.tmp 11)) none, AOper.mk (some 48) (AOp.load true 2 (Operand.tmp 3)) none, AOper.mk
  (some 49) (AOp.mov (Operand.tmp 2)) none, AOper.mk (some 50) (AOp.mov (Operand.tmp 12)) none, AOper.mk (some 51) (AOp.iadr 1 (Operand.tmp 49)
  (Operand.tmp 50)) none, AOper.mk (some 52) (AOp.load false 1 (Operand.tmp 51)) none], some (true, AOper.mk (some 53) (AOp.call 62 [Operand.tmp 48,
  Operand.tmp 52, Operand.const (Value.int IntKind.i64 1)]) none)), ([], some (true, AOper.mk (some 54) (AOp.call 53 [Operand.tmp 46, Operand.tmp 47,
  Operand.tmp 53]) none)), ([], some (true, AOper.mk (some 55) (AOp.call 52 [Operand.tmp 54]) none)), ([AOper.mk (some 45) (AOp.mov (Operand.tmp 55))
  none, AOper.mk (some 56) (AOp.ext (Operand.tmp 45) 0) none, AOper.mk (some 57) (AOp.ext (Operand.tmp 45) 1) none, AOper.mk (some 13) (AOp.mov
  (Operand.tmp 56)) none, AOper.mk (some 14) (AOp.mov (Operand.tmp 57)) none], none)]) (AC.seq (AC.seq (AC.ops [AOper.mk (some 58) (AOp.mov (Operand.tmp
  14)) none, AOper.mk (some 59) (AOp.bin false BinOp.neq (Operand.tmp 58) (Operand.const (Value.int IntKind.i64 0))) none]) (AC.cond (Operand.tmp 59)
  (AC.seq (AC.ops [AOper.mk (some 60) (AOp.mov (Operand.tmp 12)) none, AOper.mk (some 61) (AOp.mov (Operand.tmp 14)) none, AOper.mk (some 6) (AOp.mov
  (Operand.const (Value.slice none 0 0))) none, AOper.mk (some 7) (AOp.mov (Operand.tmp 60)) none, AOper.mk (some 8) (AOp.mov (Operand.tmp 61)) none])
  AC.ret) AC.skip)) (AC.ops [AOper.mk (some 62) (AOp.mov (Operand.tmp 13)) none, AOper.mk (some 11) (AOp.mov (Operand.tmp 62)) none]))))) (AC.ops
  [AOper.mk (some 34) (AOp.mov (Operand.tmp 12)) none, AOper.mk (some 35) (AOp.bin false BinOp.add (Operand.tmp 34) (Operand.const (Value.int IntKind.i64
  1))) none, AOper.mk (some 12) (AOp.mov (Operand.tmp 35)) none])))))) (AC.seq (AC.ops [AOper.mk (some 63) (AOp.mov (Operand.tmp 11)) none, AOper.mk
  (some 64) (AOp.mov (Operand.tmp 2)) none, AOper.mk (some 65) (AOp.len (Operand.tmp 64)) none, AOper.mk (some 6) (AOp.mov (Operand.tmp 63)) none,
  AOper.mk (some 7) (AOp.mov (Operand.tmp 65)) none, AOper.mk (some 8) (AOp.mov (Operand.const (Value.int IntKind.i64 0))) none]) AC.ret)))))) [ARes.tmp
  6, ARes.tmp 7, ARes.tmp 8]
theorem cfn42 : cfn Try.prog 42 3 = some c42 := by kernel_rfl
def c43 : AFn :=
  AFn.mk 39 (AC.seq (AC.ops [AOper.mk (some 2) (AOp.box 24 (Operand.tmp 0)) none, AOper.mk (some 4) (AOp.mov (Operand.const (Value.slice none 0 0)))
  none, AOper.mk (some 5) (AOp.mov (Operand.const (Value.int IntKind.i64 0))) none]) (AC.seq (AC.seq (AC.ops [AOper.mk (some 11) (AOp.load true 2
  (Operand.tmp 2)) none, AOper.mk (some 12) (AOp.call 80 [Operand.tmp 11]) none, AOper.mk (some 6) (AOp.mov (Operand.tmp 12)) none]) (AC.seq (AC.ops
  [AOper.mk (some 13) (AOp.mov (Operand.tmp 6)) none, AOper.mk (some 14) (AOp.bin false BinOp.neq (Operand.tmp 13) (Operand.const (Value.int IntKind.i64
  0))) none]) (AC.cond (Operand.tmp 14) (AC.seq (AC.ops [AOper.mk (some 15) (AOp.mov (Operand.tmp 6)) none, AOper.mk (some 4) (AOp.mov (Operand.const
  (Value.slice none 0 0))) none, AOper.mk (some 5) (AOp.mov (Operand.tmp 15)) none]) AC.ret) AC.skip))) (AC.seq (AC.seq (AC.ops [AOper.mk (some 16)
  (AOp.load true 2 (Operand.tmp 2)) none, AOper.mk (some 17) (AOp.mov (Operand.tmp 1)) none, AOper.mk (some 18) (AOp.call 76 [Operand.tmp 16, Operand.tmp
  17]) none, AOper.mk (some 7) (AOp.mov (Operand.tmp 18)) none]) (AC.seq (AC.ops [AOper.mk (some 19) (AOp.mov (Operand.tmp 7)) none, AOper.mk (some 20)
  (AOp.bin false BinOp.neq (Operand.tmp 19) (Operand.const (Value.int IntKind.i64 0))) none]) (AC.cond (Operand.tmp 20) (AC.seq (AC.ops [AOper.mk (some
  21) (AOp.mov (Operand.tmp 7)) none, AOper.mk (some 4) (AOp.mov (Operand.const (Value.slice none 0 0))) none, AOper.mk (some 5) (AOp.mov (Operand.tmp
  21)) none]) AC.ret) AC.skip))) (AC.seq (AC.ops [AOper.mk (some 22) (AOp.fadr 0 (Operand.tmp 2)) none, AOper.mk (some 23) (AOp.load false 1 (Operand.tmp
  22)) none, AOper.mk (some 24) (AOp.mk 3 1 (PV.v (Value.int IntKind.i64 0)) (Operand.tmp 23) (Operand.tmp 23)) none, AOper.mk (some 8) (AOp.mov
  (Operand.tmp 24)) none]) (AC.seq (AC.seq (AC.ops [AOper.mk (some 25) (AOp.mov (Operand.tmp 1)) none, AOper.mk (some 26) (AOp.len (Operand.tmp 25))
  none, AOper.mk (some 27) (AOp.mov (Operand.const (Value.int IntKind.i64 0))) none]) (AC.block 0 (AC.loop (AC.seq (AC.ops [AOper.mk (some 28) (AOp.bin
  false BinOp.lss (Operand.tmp 27) (Operand.tmp 26)) none]) (AC.seq (AC.cond (Operand.tmp 28) AC.skip (AC.exit 0)) (AC.seq (AC.block 1 (AC.seq (AC.ops
  [AOper.mk (some 29) (AOp.iadr 1 (Operand.tmp 25) (Operand.tmp 27)) none, AOper.mk (some 30) (AOp.load false 1 (Operand.tmp 29)) none, AOper.mk (some
  10) (AOp.mov (Operand.tmp 30)) none]) (AC.ops [AOper.mk (some 31) (AOp.mov (Operand.tmp 8)) none, AOper.mk (some 32) (AOp.mov (Operand.tmp 10)) none,
  AOper.mk (some 33) (AOp.iadr 1 (Operand.tmp 31) (Operand.tmp 32)) none, AOper.mk (some 34) (AOp.load false 1 (Operand.tmp 33)) none, AOper.mk (some 35)
  (AOp.bin false BinOp.add (Operand.tmp 34) (Operand.const (Value.int IntKind.i64 1))) none, AOper.mk (some 36) (AOp.iadr 1 (Operand.tmp 31) (Operand.tmp
  32)) none, AOper.mk none (AOp.store 1 (Operand.tmp 36) (Operand.tmp 35)) none]))) (AC.ops [AOper.mk (some 37) (AOp.bin false BinOp.add (Operand.tmp 27)
  (Operand.const (Value.int IntKind.i64 1))) none, AOper.mk (some 27) (AOp.mov (Operand.tmp 37)) none]))))))) (AC.seq (AC.ops [AOper.mk (some 38)
  (AOp.mov (Operand.tmp 8)) none, AOper.mk (some 4) (AOp.mov (Operand.tmp 38)) none, AOper.mk (some 5) (AOp.mov (Operand.const (Value.int IntKind.i64
  0))) none]) AC.ret)))))) [ARes.tmp 4, ARes.tmp 5]
theorem cfn43 : cfn Try.prog 43 2 = some c43 := by kernel_rfl
def c44 : AFn :=
  AFn.mk 22 (AC.seq (AC.ops [AOper.mk (some 2) (AOp.box 24 (Operand.tmp 0)) none, AOper.mk (some 4) (AOp.mov (Operand.const (Value.slice none 0 0)))
  none, AOper.mk (some 5) (AOp.mov (Operand.const (Value.int IntKind.i64 0))) none]) (AC.seq (AC.seq (AC.ops [AOper.mk (some 8) (AOp.load true 2
  (Operand.tmp 2)) none, AOper.mk (some 9) (AOp.call 55 [Operand.tmp 8]) none, AOper.mk (some 6) (AOp.mov (Operand.tmp 9)) none]) (AC.seq (AC.ops
  [AOper.mk (some 10) (AOp.mov (Operand.tmp 6)) none, AOper.mk (some 11) (AOp.bin false BinOp.neq (Operand.tmp 10) (Operand.const (Value.int IntKind.i64
  0))) none]) (AC.cond (Operand.tmp 11) (AC.seq (AC.ops [AOper.mk (some 12) (AOp.mov (Operand.tmp 6)) none, AOper.mk (some 4) (AOp.mov (Operand.const
  (Value.slice none 0 0))) none, AOper.mk (some 5) (AOp.mov (Operand.tmp 12)) none]) AC.ret) AC.skip))) (AC.seq (AC.seq (AC.ops [AOper.mk (some 13)
  (AOp.load true 2 (Operand.tmp 2)) none, AOper.mk (some 14) (AOp.mov (Operand.tmp 1)) none, AOper.mk (some 15) (AOp.call 79 [Operand.tmp 13, Operand.tmp
  14]) none, AOper.mk (some 7) (AOp.mov (Operand.tmp 15)) none]) (AC.seq (AC.ops [AOper.mk (some 16) (AOp.mov (Operand.tmp 7)) none, AOper.mk (some 17)
  (AOp.bin false BinOp.neq (Operand.tmp 16) (Operand.const (Value.int IntKind.i64 0))) none]) (AC.cond (Operand.tmp 17) (AC.seq (AC.ops [AOper.mk (some
  18) (AOp.mov (Operand.tmp 7)) none, AOper.mk (some 4) (AOp.mov (Operand.const (Value.slice none 0 0))) none, AOper.mk (some 5) (AOp.mov (Operand.tmp
  18)) none]) AC.ret) AC.skip))) (AC.seq (AC.ops [AOper.mk (some 19) (AOp.load true 2 (Operand.tmp 2)) none, AOper.mk (some 20) (AOp.mov (Operand.tmp 1))
  none, AOper.mk (some 21) (AOp.call 81 [Operand.tmp 19, Operand.tmp 20]) none, AOper.mk (some 4) (AOp.mov (Operand.tmp 21)) none, AOper.mk (some 5)
  (AOp.mov (Operand.const (Value.int IntKind.i64 0))) none]) AC.ret)))) [ARes.tmp 4, ARes.tmp 5]
theorem cfn44 : cfn Try.prog 44 2 = some c44 := by kernel_rfl
def c45 : AFn :=
  AFn.mk 8 (AC.seq (AC.ops [AOper.mk (some 4) (AOp.mov (Operand.const (Value.bool false))) none]) (AC.seq (AC.ops [AOper.mk (some 5) (AOp.mov
  (Operand.tmp 0)) none, AOper.mk (some 6) (AOp.mov (Operand.tmp 1)) none, AOper.mk (some 7) (AOp.call 18 [Operand.tmp 5, Operand.tmp 6]) none, AOper.mk
  (some 4) (AOp.mov (Operand.tmp 7)) none]) AC.ret)) [ARes.tmp 4]
theorem cfn45 : cfn Try.prog 45 2 = some c45 := by kernel_rfl
def c46 : AFn :=
  AFn.mk 8 (AC.seq (AC.ops [AOper.mk (some 2) (AOp.mov (Operand.const (Value.slice none 0 0))) none]) (AC.seq (AC.seq (AC.ops [AOper.mk (some 3) (AOp.mov
  (Operand.tmp 0)) none, AOper.mk (some 4) (AOp.eqn false (Operand.tmp 3)) none]) (AC.cond (Operand.tmp 4) (AC.seq (AC.ops [AOper.mk (some 2) (AOp.mov
  (Operand.const (Value.slice none 0 0))) none]) AC.ret) AC.skip)) (AC.seq (AC.ops [AOper.mk (some 5) (AOp.bsl 3 1 []) none, AOper.mk (some 6) (AOp.mov
  (Operand.tmp 0)) none, AOper.mk (some 7) (AOp.app 3 1 (Operand.tmp 5) (Operand.tmp 6)) none, AOper.mk (some 2) (AOp.mov (Operand.tmp 7)) none])
  AC.ret))) [ARes.tmp 2]
theorem cfn46 : cfn Try.prog 46 1 = some c46 := by kernel_rfl
def c47 : AFn :=
  AFn.mk 28 (AC.seq (AC.ops [AOper.mk (some 4) (AOp.mov (Operand.tmp 0)) none, AOper.mk (some 5) (AOp.len (Operand.tmp 4)) none, AOper.mk (some 6)
  (AOp.bin false BinOp.sub (Operand.tmp 5) (Operand.const (Value.int IntKind.i64 1))) none, AOper.mk (some 2) (AOp.mov (Operand.const (Value.int
  IntKind.i64 0))) none, AOper.mk (some 3) (AOp.mov (Operand.tmp 6)) none]) (AC.block 0 (AC.loop (AC.seq (AC.seq (AC.ops [AOper.mk (some 7) (AOp.mov
  (Operand.tmp 2)) none, AOper.mk (some 8) (AOp.mov (Operand.tmp 3)) none, AOper.mk (some 9) (AOp.bin false BinOp.lss (Operand.tmp 7) (Operand.tmp 8))
  none]) (AC.cond (Operand.tmp 9) AC.skip (AC.exit 0))) (AC.seq (AC.block 1 (AC.segs [([AOper.mk (some 14) (AOp.mov (Operand.tmp 0)) none, AOper.mk (some
  15) (AOp.mov (Operand.tmp 2)) none, AOper.mk (some 16) (AOp.mov (Operand.tmp 0)) none, AOper.mk (some 17) (AOp.mov (Operand.tmp 3)) none, AOper.mk
  (some 18) (AOp.mov (Operand.tmp 0)) none, AOper.mk (some 19) (AOp.mov (Operand.tmp 3)) none, AOper.mk (some 20) (AOp.iadr 1 (Operand.tmp 18)
  (Operand.tmp 19)) none, AOper.mk (some 21) (AOp.load false 1 (Operand.tmp 20)) none, AOper.mk (some 22) (AOp.mov (Operand.tmp 0)) none, AOper.mk (some
  23) (AOp.mov (Operand.tmp 2)) none, AOper.mk (some 24) (AOp.iadr 1 (Operand.tmp 22) (Operand.tmp 23)) none, AOper.mk (some 25) (AOp.load false 1
  (Operand.tmp 24)) none, AOper.mk (some 26) (AOp.iadr 1 (Operand.tmp 14) (Operand.tmp 15)) none], some (false, AOper.mk none (AOp.store 1 (Operand.tmp
  26) (Operand.tmp 21)) none)), ([AOper.mk (some 27) (AOp.iadr 1 (Operand.tmp 16) (Operand.tmp 17)) none], some (false, AOper.mk none (AOp.store 1
  (Operand.tmp 27) (Operand.tmp 25)) none))])) (AC.ops [AOper.mk (some 10) (AOp.mov (Operand.tmp 2)) none, AOper.mk (some 11) (AOp.bin false BinOp.add
  (Operand.tmp 10) (Operand.const (Value.int IntKind.i64 1))) none, AOper.mk (some 12) (AOp.mov (Operand.tmp 3)) none, AOper.mk (some 13) (AOp.bin false
  BinOp.sub (Operand.tmp 12) (Operand.const (Value.int IntKind.i64 1))) none, AOper.mk (some 2) (AOp.mov (Operand.tmp 11)) none, AOper.mk (some 3)
  (AOp.mov (Operand.tmp 13)) none])))))) []
theorem cfn47 : cfn Try.prog 47 1 = some c47 := by kernel_rfl
def c48 : AFn :=
  AFn.mk 5 (AC.seq (AC.ops [AOper.mk (some 1) (AOp.box 24 (Operand.tmp 0)) none, AOper.mk (some 2) (AOp.mov (Operand.const (Value.bool false))) none])
  (AC.seq (AC.ops [AOper.mk (some 3) (AOp.load true 2 (Operand.tmp 1)) none, AOper.mk (some 4) (AOp.call 82 [Operand.tmp 3, Operand.const (Value.int
  IntKind.i64 6), Operand.const (Value.int IntKind.i64 9)]) none, AOper.mk (some 2) (AOp.mov (Operand.tmp 4)) none]) AC.ret)) [ARes.tmp 2]
theorem cfn48 : cfn Try.prog 48 1 = some c48 := by kernel_rfl
def c49 : AFn :=
  AFn.mk 6 (AC.seq (AC.ops [AOper.mk (some 0) (AOp.zro 24 (PV.agg [PV.v (Value.int IntKind.i64 0), PV.v (Value.slice none 0 0)])) none]) (AC.seq (AC.ops
  [AOper.mk (some 1) (AOp.bld [PV.v (Value.int IntKind.i64 0), PV.v (Value.int IntKind.i64 0), PV.v (Value.int IntKind.i64 0)] [(0, 1), (1, 1), (2, 1)]
  [(0, Operand.const (Value.int IntKind.i64 0)), (1, Operand.const (Value.int IntKind.i64 1)), (2, Operand.const (Value.int IntKind.i64 1))]) none,
  AOper.mk (some 2) (AOp.bld [PV.v (Value.int IntKind.i64 0), PV.v (Value.int IntKind.i64 0), PV.v (Value.int IntKind.i64 0)] [(0, 1), (1, 1), (2, 1)]
  [(0, Operand.const (Value.int IntKind.i64 0)), (1, Operand.const (Value.int IntKind.i64 2)), (2, Operand.const (Value.int IntKind.i64 1))]) none,
  AOper.mk (some 3) (AOp.bld [PV.v (Value.int IntKind.i64 0), PV.v (Value.int IntKind.i64 0), PV.v (Value.int IntKind.i64 0)] [(0, 1), (1, 1), (2, 1)]
  [(0, Operand.const (Value.int IntKind.i64 1)), (1, Operand.const (Value.int IntKind.i64 2)), (2, Operand.const (Value.int IntKind.i64 1))]) none,
  AOper.mk (some 4) (AOp.bsl 99 3 [Operand.tmp 1, Operand.tmp 2, Operand.tmp 3]) none, AOper.mk (some 5) (AOp.bld [PV.v (Value.int IntKind.i64 0), PV.v
  (Value.slice none 0 0)] [(0, 1), (1, 1)] [(0, Operand.const (Value.int IntKind.i64 3)), (1, Operand.tmp 4)]) none, AOper.mk none (AOp.store 2
  (Operand.tmp 0) (Operand.tmp 5)) none]) AC.ret)) [ARes.cell 0 true 2]
theorem cfn49 : cfn Try.prog 49 0 = some c49 := by kernel_rfl
def c50 : AFn :=
  AFn.mk 7 (AC.seq (AC.ops [AOper.mk (some 2) (AOp.mov (Operand.const (Value.slice none 0 0))) none, AOper.mk (some 3) (AOp.mov (Operand.const (Value.int
  IntKind.i64 0))) none]) (AC.seq (AC.seq (AC.ops [AOper.mk (some 4) (AOp.mov (Operand.tmp 0)) none, AOper.mk (some 5) (AOp.call 83 [Operand.tmp 4,
  Operand.func 84]) none]) (AC.cond (Operand.tmp 5) (AC.seq (AC.ops [AOper.mk (some 2) (AOp.mov (Operand.const (Value.slice none 0 0))) none, AOper.mk
  (some 3) (AOp.mov (Operand.const (Value.int IntKind.i64 11))) none]) AC.ret) AC.skip)) (AC.seq (AC.ops [AOper.mk (some 6) (AOp.mov (Operand.tmp 0))
  none, AOper.mk (some 2) (AOp.mov (Operand.tmp 6)) none, AOper.mk (some 3) (AOp.mov (Operand.const (Value.int IntKind.i64 0))) none]) AC.ret)))
  [ARes.tmp 2, ARes.tmp 3]
theorem cfn50 : cfn Try.prog 50 1 = some c50 := by kernel_rfl
def c51 : AFn :=
  AFn.mk 26 (AC.seq (AC.ops [AOper.mk (some 3) (AOp.box 24 (Operand.tmp 0)) none, AOper.mk (some 5) (AOp.box 26 (Operand.tmp 2)) none, AOper.mk (some 6)
  (AOp.mov (Operand.const (Value.slice none 0 0))) none]) (AC.seq (AC.ops [AOper.mk (some 11) (AOp.mov (Operand.tmp 1)) none, AOper.mk (some 12)
  (AOp.call 77 [Operand.tmp 11]) none, AOper.mk (some 7) (AOp.zro 28 (PV.v (Value.slice none 0 0))) none, AOper.mk none (AOp.store 1 (Operand.tmp 7)
  (Operand.tmp 12)) none]) (AC.seq (AC.ops [AOper.mk (some 13) (AOp.fn (Fn.func 85) [] [Operand.tmp 5, Operand.tmp 7]) none, AOper.mk (some 8) (AOp.mov
  (Operand.tmp 13)) none]) (AC.seq (AC.seq (AC.ops [AOper.mk (some 14) (AOp.fadr 1 (Operand.tmp 3)) none, AOper.mk (some 15) (AOp.load false 1
  (Operand.tmp 14)) none, AOper.mk (some 16) (AOp.len (Operand.tmp 15)) none, AOper.mk (some 17) (AOp.mov (Operand.const (Value.int IntKind.i64 0)))
  none]) (AC.block 0 (AC.loop (AC.seq (AC.ops [AOper.mk (some 18) (AOp.bin false BinOp.lss (Operand.tmp 17) (Operand.tmp 16)) none]) (AC.seq (AC.cond
  (Operand.tmp 18) AC.skip (AC.exit 0)) (AC.seq (AC.block 1 (AC.seq (AC.ops [AOper.mk (some 19) (AOp.iadr 3 (Operand.tmp 15) (Operand.tmp 17)) none,
  AOper.mk (some 20) (AOp.load true 3 (Operand.tmp 19)) none, AOper.mk (some 10) (AOp.zro 99 (PV.agg [PV.v (Value.int IntKind.i64 0), PV.v (Value.int
  IntKind.i64 0), PV.v (Value.int IntKind.i64 0)])) none, AOper.mk none (AOp.store 3 (Operand.tmp 10) (Operand.tmp 20)) none]) (AC.ops [AOper.mk (some
  21) (AOp.mov (Operand.tmp 8)) none, AOper.mk (some 22) (AOp.load true 3 (Operand.tmp 10)) none, AOper.mk (some 23) (AOp.callv (Operand.tmp 21)
  [Operand.tmp 22]) none]))) (AC.ops [AOper.mk (some 24) (AOp.bin false BinOp.add (Operand.tmp 17) (Operand.const (Value.int IntKind.i64 1))) none,
  AOper.mk (some 17) (AOp.mov (Operand.tmp 24)) none]))))))) (AC.seq (AC.ops [AOper.mk (some 25) (AOp.load false 1 (Operand.tmp 7)) none, AOper.mk (some
  6) (AOp.mov (Operand.tmp 25)) none]) AC.ret))))) [ARes.tmp 6]
theorem cfn51 : cfn Try.prog 51 3 = some c51 := by kernel_rfl
def c52 : AFn :=
  AFn.mk 18 (AC.seq (AC.ops [AOper.mk (some 2) (AOp.mov (Operand.const (Value.slice none 0 0))) none, AOper.mk (some 3) (AOp.mov (Operand.const
  (Value.int IntKind.i64 0))) none]) (AC.seq (AC.seq (AC.ops [AOper.mk (some 4) (AOp.mov (Operand.const (Value.int IntKind.i64 0))) none]) (AC.block 0
  (AC.loop (AC.seq (AC.seq (AC.ops [AOper.mk (some 5) (AOp.mov (Operand.tmp 4)) none, AOper.mk (some 6) (AOp.mov (Operand.tmp 0)) none, AOper.mk (some 7)
  (AOp.len (Operand.tmp 6)) none, AOper.mk (some 8) (AOp.bin false BinOp.lss (Operand.tmp 5) (Operand.tmp 7)) none]) (AC.cond (Operand.tmp 8) AC.skip
  (AC.exit 0))) (AC.seq (AC.block 1 (AC.seq (AC.ops [AOper.mk (some 11) (AOp.mov (Operand.tmp 0)) none, AOper.mk (some 12) (AOp.mov (Operand.tmp 4))
  none, AOper.mk (some 13) (AOp.iadr 1 (Operand.tmp 11) (Operand.tmp 12)) none, AOper.mk (some 14) (AOp.load false 1 (Operand.tmp 13)) none, AOper.mk
  (some 15) (AOp.call 86 [Operand.tmp 14]) none, AOper.mk (some 16) (AOp.un UnOp.not (Operand.tmp 15)) none]) (AC.cond (Operand.tmp 16) (AC.seq (AC.ops
  [AOper.mk (some 2) (AOp.mov (Operand.const (Value.slice none 0 0))) none, AOper.mk (some 3) (AOp.mov (Operand.const (Value.int IntKind.i64 11))) none])
  AC.ret) AC.skip))) (AC.ops [AOper.mk (some 9) (AOp.mov (Operand.tmp 4)) none, AOper.mk (some 10) (AOp.bin false BinOp.add (Operand.tmp 9)
  (Operand.const (Value.int IntKind.i64 1))) none, AOper.mk (some 4) (AOp.mov (Operand.tmp 10)) none])))))) (AC.seq (AC.ops [AOper.mk (some 17) (AOp.mov
  (Operand.tmp 0)) none, AOper.mk (some 2) (AOp.mov (Operand.tmp 17)) none, AOper.mk (some 3) (AOp.mov (Operand.const (Value.int IntKind.i64 0))) none])
  AC.ret))) [ARes.tmp 2, ARes.tmp 3]
theorem cfn52 : cfn Try.prog 52 1 = some c52 := by kernel_rfl
def c53 : AFn :=
  AFn.mk 49 (AC.seq (AC.ops [AOper.mk (some 3) (AOp.box 24 (Operand.tmp 0)) none, AOper.mk (some 6) (AOp.mov (Operand.const (Value.slice none 0 0)))
  none]) (AC.seq (AC.ops [AOper.mk (some 10) (AOp.bsl 3 1 []) none, AOper.mk (some 11) (AOp.mov (Operand.tmp 1)) none, AOper.mk (some 12) (AOp.app 3 1
  (Operand.tmp 10) (Operand.tmp 11)) none, AOper.mk (some 7) (AOp.mov (Operand.tmp 12)) none]) (AC.seq (AC.seq (AC.ops [AOper.mk (some 8) (AOp.mov
  (Operand.const (Value.int IntKind.i64 0))) none]) (AC.block 0 (AC.loop (AC.seq (AC.seq (AC.ops [AOper.mk (some 13) (AOp.mov (Operand.tmp 8)) none,
  AOper.mk (some 14) (AOp.fadr 0 (Operand.tmp 3)) none, AOper.mk (some 15) (AOp.load false 1 (Operand.tmp 14)) none, AOper.mk (some 16) (AOp.bin false
  BinOp.lss (Operand.tmp 13) (Operand.tmp 15)) none]) (AC.cond (Operand.tmp 16) AC.skip (AC.exit 0))) (AC.seq (AC.block 1 (AC.seq (AC.ops [AOper.mk (some
  9) (AOp.mov (Operand.const (Value.int IntKind.i64 0))) none]) (AC.block 2 (AC.loop (AC.seq (AC.seq (AC.ops [AOper.mk (some 19) (AOp.mov (Operand.tmp
  9)) none, AOper.mk (some 20) (AOp.fadr 0 (Operand.tmp 3)) none, AOper.mk (some 21) (AOp.load false 1 (Operand.tmp 20)) none, AOper.mk (some 22)
  (AOp.bin false BinOp.lss (Operand.tmp 19) (Operand.tmp 21)) none]) (AC.cond (Operand.tmp 22) AC.skip (AC.exit 2))) (AC.seq (AC.block 3 (AC.seq (AC.ops
  [AOper.mk (some 25) (AOp.mov (Operand.tmp 8)) none, AOper.mk (some 26) (AOp.mov (Operand.tmp 9)) none, AOper.mk (some 27) (AOp.bin false BinOp.neq
  (Operand.tmp 25) (Operand.tmp 26)) none]) (AC.cond (Operand.tmp 27) (AC.segs [([AOper.mk (some 28) (AOp.mov (Operand.tmp 7)) none, AOper.mk (some 29)
  (AOp.mov (Operand.tmp 8)) none, AOper.mk (some 30) (AOp.iadr 1 (Operand.tmp 28) (Operand.tmp 29)) none, AOper.mk (some 31) (AOp.load false 1
  (Operand.tmp 30)) none, AOper.mk (some 32) (AOp.load true 2 (Operand.tmp 3)) none, AOper.mk (some 33) (AOp.mov (Operand.tmp 8)) none, AOper.mk (some
  34) (AOp.mov (Operand.tmp 9)) none, AOper.mk (some 36) (AOp.mov (Operand.tmp 2)) none, AOper.mk (some 37) (AOp.mov (Operand.tmp 9)) none, AOper.mk
  (some 38) (AOp.iadr 1 (Operand.tmp 36) (Operand.tmp 37)) none, AOper.mk (some 39) (AOp.load false 1 (Operand.tmp 38)) none, AOper.mk (some 40) (AOp.mov
  (Operand.tmp 2)) none, AOper.mk (some 41) (AOp.mov (Operand.tmp 8)) none, AOper.mk (some 42) (AOp.iadr 1 (Operand.tmp 40) (Operand.tmp 41)) none,
  AOper.mk (some 43) (AOp.load false 1 (Operand.tmp 42)) none, AOper.mk (some 44) (AOp.bin false BinOp.sub (Operand.tmp 39) (Operand.tmp 43)) none], some
  (true, AOper.mk (some 35) (AOp.call 87 [Operand.tmp 32, Operand.tmp 33, Operand.tmp 34]) none)), ([AOper.mk (some 45) (AOp.bin false BinOp.mul
  (Operand.tmp 35) (Operand.tmp 44)) none, AOper.mk (some 46) (AOp.bin false BinOp.add (Operand.tmp 31) (Operand.tmp 45)) none, AOper.mk (some 47)
  (AOp.iadr 1 (Operand.tmp 28) (Operand.tmp 29)) none], some (false, AOper.mk none (AOp.store 1 (Operand.tmp 47) (Operand.tmp 46)) none))]) AC.skip)))
  (AC.ops [AOper.mk (some 23) (AOp.mov (Operand.tmp 9)) none, AOper.mk (some 24) (AOp.bin false BinOp.add (Operand.tmp 23) (Operand.const (Value.int
  IntKind.i64 1))) none, AOper.mk (some 9) (AOp.mov (Operand.tmp 24)) none]))))))) (AC.ops [AOper.mk (some 17) (AOp.mov (Operand.tmp 8)) none, AOper.mk
  (some 18) (AOp.bin false BinOp.add (Operand.tmp 17) (Operand.const (Value.int IntKind.i64 1))) none, AOper.mk (some 8) (AOp.mov (Operand.tmp 18))
  none])))))) (AC.seq (AC.ops [AOper.mk (some 48) (AOp.mov (Operand.tmp 7)) none, AOper.mk (some 6) (AOp.mov (Operand.tmp 48)) none]) AC.ret))))
  [ARes.tmp 6]
theorem cfn53 : cfn Try.prog 53 3 = some c53 := by kernel_rfl
def c54 : AFn :=
  AFn.mk 15 (AC.seq (AC.ops [AOper.mk (some 2) (AOp.box 24 (Operand.tmp 0)) none, AOper.mk (some 4) (AOp.mov (Operand.const (Value.int IntKind.i64 0)))
  none]) (AC.seq (AC.seq (AC.ops [AOper.mk (some 6) (AOp.load true 2 (Operand.tmp 2)) none, AOper.mk (some 7) (AOp.call 80 [Operand.tmp 6]) none,
  AOper.mk (some 5) (AOp.mov (Operand.tmp 7)) none]) (AC.seq (AC.ops [AOper.mk (some 8) (AOp.mov (Operand.tmp 5)) none, AOper.mk (some 9) (AOp.bin false
  BinOp.neq (Operand.tmp 8) (Operand.const (Value.int IntKind.i64 0))) none]) (AC.cond (Operand.tmp 9) (AC.seq (AC.ops [AOper.mk (some 10) (AOp.mov
  (Operand.tmp 5)) none, AOper.mk (some 4) (AOp.mov (Operand.tmp 10)) none]) AC.ret) AC.skip))) (AC.seq (AC.ops [AOper.mk (some 11) (AOp.mov (Operand.tmp
  1)) none, AOper.mk (some 12) (AOp.fadr 0 (Operand.tmp 2)) none, AOper.mk (some 13) (AOp.load false 1 (Operand.tmp 12)) none, AOper.mk (some 14)
  (AOp.call 88 [Operand.tmp 11, Operand.tmp 13]) none, AOper.mk (some 4) (AOp.mov (Operand.tmp 14)) none]) AC.ret))) [ARes.tmp 4]
theorem cfn54 : cfn Try.prog 54 2 = some c54 := by kernel_rfl
def c55 : AFn :=
  AFn.mk 26 (AC.seq (AC.ops [AOper.mk (some 1) (AOp.box 24 (Operand.tmp 0)) none, AOper.mk (some 2) (AOp.mov (Operand.const (Value.int IntKind.i64 0)))
  none]) (AC.seq (AC.seq (AC.ops [AOper.mk (some 5) (AOp.fadr 0 (Operand.tmp 1)) none, AOper.mk (some 6) (AOp.load false 1 (Operand.tmp 5)) none,
  AOper.mk (some 7) (AOp.bin false BinOp.lss (Operand.tmp 6) (Operand.const (Value.int IntKind.i64 1))) none, AOper.mk (some 8) (AOp.mov (Operand.tmp 7))
  none, AOper.mk (some 9) (AOp.fadr 0 (Operand.tmp 1)) (some (8, false)), AOper.mk (some 10) (AOp.load false 1 (Operand.tmp 9)) (some (8, false)),
  AOper.mk (some 11) (AOp.bin false BinOp.gtr (Operand.tmp 10) (Operand.const (Value.int IntKind.i64 12))) (some (8, false)), AOper.mk (some 12)
  (AOp.pick (Operand.tmp 8) (Operand.const (Value.bool true)) (Operand.tmp 11)) none]) (AC.cond (Operand.tmp 12) (AC.seq (AC.ops [AOper.mk (some 2)
  (AOp.mov (Operand.const (Value.int IntKind.i64 2))) none]) AC.ret) AC.skip)) (AC.seq (AC.seq (AC.ops [AOper.mk (some 3) (AOp.mov (Operand.const
  (Value.int IntKind.i64 0))) none]) (AC.block 0 (AC.loop (AC.seq (AC.seq (AC.ops [AOper.mk (some 13) (AOp.mov (Operand.tmp 3)) none, AOper.mk (some 14)
  (AOp.fadr 1 (Operand.tmp 1)) none, AOper.mk (some 15) (AOp.load false 1 (Operand.tmp 14)) none, AOper.mk (some 16) (AOp.len (Operand.tmp 15)) none,
  AOper.mk (some 17) (AOp.bin false BinOp.lss (Operand.tmp 13) (Operand.tmp 16)) none]) (AC.cond (Operand.tmp 17) AC.skip (AC.exit 0))) (AC.seq (AC.block
  1 (AC.seq (AC.ops [AOper.mk (some 20) (AOp.load true 2 (Operand.tmp 1)) none, AOper.mk (some 21) (AOp.mov (Operand.tmp 3)) none, AOper.mk (some 22)
  (AOp.call 89 [Operand.tmp 20, Operand.tmp 21]) none, AOper.mk (some 4) (AOp.mov (Operand.tmp 22)) none]) (AC.seq (AC.ops [AOper.mk (some 23) (AOp.mov
  (Operand.tmp 4)) none, AOper.mk (some 24) (AOp.bin false BinOp.neq (Operand.tmp 23) (Operand.const (Value.int IntKind.i64 0))) none]) (AC.cond
  (Operand.tmp 24) (AC.seq (AC.ops [AOper.mk (some 25) (AOp.mov (Operand.tmp 4)) none, AOper.mk (some 2) (AOp.mov (Operand.tmp 25)) none]) AC.ret)
  AC.skip)))) (AC.ops [AOper.mk (some 18) (AOp.mov (Operand.tmp 3)) none, AOper.mk (some 19) (AOp.bin false BinOp.add (Operand.tmp 18) (Operand.const
  (Value.int IntKind.i64 1))) none, AOper.mk (some 3) (AOp.mov (Operand.tmp 19)) none])))))) (AC.seq (AC.ops [AOper.mk (some 2) (AOp.mov (Operand.const
  (Value.int IntKind.i64 0))) none]) AC.ret)))) [ARes.tmp 2]
theorem cfn55 : cfn Try.prog 55 1 = some c55 := by kernel_rfl
def c56 : AFn :=
  AFn.mk 27 (AC.seq (AC.ops [AOper.mk (some 4) (AOp.mov (Operand.const (Value.int IntKind.i64 0))) none]) (AC.seq (AC.seq (AC.ops [AOper.mk (some 6)
  (AOp.mov (Operand.tmp 1)) none, AOper.mk (some 7) (AOp.bin false BinOp.lss (Operand.tmp 6) (Operand.const (Value.int IntKind.i64 1))) none, AOper.mk
  (some 8) (AOp.mov (Operand.tmp 7)) none, AOper.mk (some 9) (AOp.mov (Operand.tmp 1)) (some (8, false)), AOper.mk (some 10) (AOp.bin false BinOp.gtr
  (Operand.tmp 9) (Operand.const (Value.int IntKind.i64 12))) (some (8, false)), AOper.mk (some 11) (AOp.pick (Operand.tmp 8) (Operand.const (Value.bool
  true)) (Operand.tmp 10)) none]) (AC.cond (Operand.tmp 11) (AC.seq (AC.ops [AOper.mk (some 4) (AOp.mov (Operand.const (Value.int IntKind.i64 2))) none])
  AC.ret) AC.skip)) (AC.seq (AC.seq (AC.ops [AOper.mk (some 12) (AOp.mov (Operand.tmp 0)) none, AOper.mk (some 13) (AOp.len (Operand.tmp 12)) none,
  AOper.mk (some 14) (AOp.mov (Operand.tmp 1)) none, AOper.mk (some 15) (AOp.bin false BinOp.neq (Operand.tmp 13) (Operand.tmp 14)) none]) (AC.cond
  (Operand.tmp 15) (AC.seq (AC.ops [AOper.mk (some 4) (AOp.mov (Operand.const (Value.int IntKind.i64 8))) none]) AC.ret) AC.skip)) (AC.seq (AC.seq
  (AC.ops [AOper.mk (some 5) (AOp.mov (Operand.const (Value.int IntKind.i64 0))) none]) (AC.block 0 (AC.loop (AC.seq (AC.seq (AC.ops [AOper.mk (some 16)
  (AOp.mov (Operand.tmp 5)) none, AOper.mk (some 17) (AOp.mov (Operand.tmp 1)) none, AOper.mk (some 18) (AOp.bin false BinOp.lss (Operand.tmp 16)
  (Operand.tmp 17)) none]) (AC.cond (Operand.tmp 18) AC.skip (AC.exit 0))) (AC.seq (AC.block 1 (AC.seq (AC.ops [AOper.mk (some 21) (AOp.mov (Operand.tmp
  0)) none, AOper.mk (some 22) (AOp.mov (Operand.tmp 5)) none, AOper.mk (some 23) (AOp.iadr 1 (Operand.tmp 21) (Operand.tmp 22)) none, AOper.mk (some 24)
  (AOp.load false 1 (Operand.tmp 23)) none, AOper.mk (some 25) (AOp.call 86 [Operand.tmp 24]) none, AOper.mk (some 26) (AOp.un UnOp.not (Operand.tmp 25))
  none]) (AC.cond (Operand.tmp 26) (AC.seq (AC.ops [AOper.mk (some 4) (AOp.mov (Operand.const (Value.int IntKind.i64 2))) none]) AC.ret) AC.skip)))
  (AC.ops [AOper.mk (some 19) (AOp.mov (Operand.tmp 5)) none, AOper.mk (some 20) (AOp.bin false BinOp.add (Operand.tmp 19) (Operand.const (Value.int
  IntKind.i64 1))) none, AOper.mk (some 5) (AOp.mov (Operand.tmp 20)) none])))))) (AC.seq (AC.ops [AOper.mk (some 4) (AOp.mov (Operand.const (Value.int
  IntKind.i64 0))) none]) AC.ret))))) [ARes.tmp 4]
theorem cfn56 : cfn Try.prog 56 2 = some c56 := by kernel_rfl
def c57 : AFn :=
  AFn.mk 30 (AC.seq (AC.ops [AOper.mk (some 4) (AOp.mov (Operand.const (Value.int IntKind.i64 0))) none]) (AC.seq (AC.seq (AC.ops [AOper.mk (some 5)
  (AOp.mov (Operand.const (Value.int IntKind.i64 0))) none]) (AC.block 0 (AC.loop (AC.seq (AC.seq (AC.ops [AOper.mk (some 6) (AOp.mov (Operand.tmp 5))
  none, AOper.mk (some 7) (AOp.mov (Operand.tmp 0)) none, AOper.mk (some 8) (AOp.len (Operand.tmp 7)) none, AOper.mk (some 9) (AOp.bin false BinOp.lss
  (Operand.tmp 6) (Operand.tmp 8)) none]) (AC.cond (Operand.tmp 9) AC.skip (AC.exit 0))) (AC.seq (AC.block 1 (AC.seq (AC.seq (AC.segs [([AOper.mk (some
  12) (AOp.mov (Operand.tmp 0)) none, AOper.mk (some 13) (AOp.mov (Operand.tmp 5)) none, AOper.mk (some 14) (AOp.iadr 1 (Operand.tmp 12) (Operand.tmp
  13)) none, AOper.mk (some 15) (AOp.load false 1 (Operand.tmp 14)) none, AOper.mk (some 16) (AOp.mov (Operand.tmp 1)) none, AOper.mk (some 17) (AOp.mov
  (Operand.tmp 5)) none, AOper.mk (some 18) (AOp.iadr 1 (Operand.tmp 16) (Operand.tmp 17)) none, AOper.mk (some 19) (AOp.load false 1 (Operand.tmp 18))
  none, AOper.mk (some 20) (AOp.bin false BinOp.lss (Operand.tmp 15) (Operand.tmp 19)) none], none)]) (AC.cond (Operand.tmp 20) (AC.seq (AC.ops [AOper.mk
  (some 4) (AOp.mov (Operand.const (Value.int IntKind.i64 (-1)))) none]) AC.ret) AC.skip)) (AC.seq (AC.segs [([AOper.mk (some 21) (AOp.mov (Operand.tmp
  0)) none, AOper.mk (some 22) (AOp.mov (Operand.tmp 5)) none, AOper.mk (some 23) (AOp.iadr 1 (Operand.tmp 21) (Operand.tmp 22)) none, AOper.mk (some 24)
  (AOp.load false 1 (Operand.tmp 23)) none, AOper.mk (some 25) (AOp.mov (Operand.tmp 1)) none, AOper.mk (some 26) (AOp.mov (Operand.tmp 5)) none,
  AOper.mk (some 27) (AOp.iadr 1 (Operand.tmp 25) (Operand.tmp 26)) none, AOper.mk (some 28) (AOp.load false 1 (Operand.tmp 27)) none, AOper.mk (some 29)
  (AOp.bin false BinOp.gtr (Operand.tmp 24) (Operand.tmp 28)) none], none)]) (AC.cond (Operand.tmp 29) (AC.seq (AC.ops [AOper.mk (some 4) (AOp.mov
  (Operand.const (Value.int IntKind.i64 1))) none]) AC.ret) AC.skip)))) (AC.ops [AOper.mk (some 10) (AOp.mov (Operand.tmp 5)) none, AOper.mk (some 11)
  (AOp.bin false BinOp.add (Operand.tmp 10) (Operand.const (Value.int IntKind.i64 1))) none, AOper.mk (some 5) (AOp.mov (Operand.tmp 11)) none]))))))
  (AC.seq (AC.ops [AOper.mk (some 4) (AOp.mov (Operand.const (Value.int IntKind.i64 0))) none]) AC.ret))) [ARes.tmp 4]
theorem cfn57 : cfn Try.prog 57 2 = some c57 := by kernel_rfl
def c58 : AFn :=
  AFn.mk 22 (AC.seq (AC.ops [AOper.mk (some 3) (AOp.box 24 (Operand.tmp 0)) none, AOper.mk (some 6) (AOp.mov (Operand.const (Value.int IntKind.i64 0)))
  none]) (AC.seq (AC.seq (AC.ops [AOper.mk (some 8) (AOp.load true 2 (Operand.tmp 3)) none, AOper.mk (some 9) (AOp.mov (Operand.tmp 1)) none, AOper.mk
  (some 10) (AOp.call 54 [Operand.tmp 8, Operand.tmp 9]) none, AOper.mk (some 7) (AOp.mov (Operand.tmp 10)) none]) (AC.seq (AC.ops [AOper.mk (some 11)
  (AOp.mov (Operand.tmp 7)) none, AOper.mk (some 12) (AOp.bin false BinOp.neq (Operand.tmp 11) (Operand.const (Value.int IntKind.i64 0))) none]) (AC.cond
  (Operand.tmp 12) (AC.seq (AC.ops [AOper.mk (some 13) (AOp.mov (Operand.tmp 7)) none, AOper.mk (some 6) (AOp.mov (Operand.tmp 13)) none]) AC.ret)
  AC.skip))) (AC.seq (AC.seq (AC.ops [AOper.mk (some 14) (AOp.mov (Operand.tmp 2)) none, AOper.mk (some 15) (AOp.bin false BinOp.lss (Operand.tmp 14)
  (Operand.const (Value.int IntKind.i64 0))) none, AOper.mk (some 16) (AOp.mov (Operand.tmp 15)) none, AOper.mk (some 17) (AOp.mov (Operand.tmp 2)) (some
  (16, false)), AOper.mk (some 18) (AOp.fadr 0 (Operand.tmp 3)) (some (16, false)), AOper.mk (some 19) (AOp.load false 1 (Operand.tmp 18)) (some (16,
  false)), AOper.mk (some 20) (AOp.bin false BinOp.geq (Operand.tmp 17) (Operand.tmp 19)) (some (16, false)), AOper.mk (some 21) (AOp.pick (Operand.tmp
  16) (Operand.const (Value.bool true)) (Operand.tmp 20)) none]) (AC.cond (Operand.tmp 21) (AC.seq (AC.ops [AOper.mk (some 6) (AOp.mov (Operand.const
  (Value.int IntKind.i64 2))) none]) AC.ret) AC.skip)) (AC.seq (AC.ops [AOper.mk (some 6) (AOp.mov (Operand.const (Value.int IntKind.i64 0))) none])
  AC.ret)))) [ARes.tmp 6]
theorem cfn58 : cfn Try.prog 58 3 = some c58 := by kernel_rfl
def c59 : AFn :=
  AFn.mk 25 (AC.seq (AC.ops [AOper.mk (some 3) (AOp.box 24 (Operand.tmp 0)) none, AOper.mk (some 6) (AOp.mov (Operand.const (Value.slice none 0 0)))
  none]) (AC.seq (AC.ops [AOper.mk (some 10) (AOp.fadr 0 (Operand.tmp 3)) none, AOper.mk (some 11) (AOp.load false 1 (Operand.tmp 10)) none, AOper.mk
  (some 12) (AOp.mk 3 1 (PV.v (Value.int IntKind.i64 0)) (Operand.tmp 11) (Operand.tmp 11)) none, AOper.mk (some 7) (AOp.mov (Operand.tmp 12)) none])
  (AC.seq (AC.seq (AC.ops [AOper.mk (some 13) (AOp.mov (Operand.tmp 1)) none, AOper.mk (some 14) (AOp.len (Operand.tmp 13)) none, AOper.mk (some 15)
  (AOp.mov (Operand.const (Value.int IntKind.i64 0))) none]) (AC.block 0 (AC.loop (AC.seq (AC.ops [AOper.mk (some 16) (AOp.bin false BinOp.lss
  (Operand.tmp 15) (Operand.tmp 14)) none]) (AC.seq (AC.cond (Operand.tmp 16) AC.skip (AC.exit 0)) (AC.seq (AC.block 1 (AC.seq (AC.ops [AOper.mk (some
  17) (AOp.iadr 1 (Operand.tmp 13) (Operand.tmp 15)) none, AOper.mk (some 18) (AOp.load false 1 (Operand.tmp 17)) none, AOper.mk (some 9) (AOp.mov
  (Operand.tmp 18)) none]) (AC.ops [AOper.mk (some 19) (AOp.mov (Operand.tmp 7)) none, AOper.mk (some 20) (AOp.mov (Operand.tmp 9)) none, AOper.mk (some
  21) (AOp.mov (Operand.tmp 2)) none, AOper.mk (some 22) (AOp.iadr 1 (Operand.tmp 19) (Operand.tmp 20)) none, AOper.mk none (AOp.store 1 (Operand.tmp 22)
  (Operand.tmp 21)) none]))) (AC.ops [AOper.mk (some 23) (AOp.bin false BinOp.add (Operand.tmp 15) (Operand.const (Value.int IntKind.i64 1))) none,
  AOper.mk (some 15) (AOp.mov (Operand.tmp 23)) none]))))))) (AC.seq (AC.ops [AOper.mk (some 24) (AOp.mov (Operand.tmp 7)) none, AOper.mk (some 6)
  (AOp.mov (Operand.tmp 24)) none]) AC.ret)))) [ARes.tmp 6]
theorem cfn59 : cfn Try.prog 59 3 = some c59 := by kernel_rfl
def c60 : AFn :=
  AFn.mk 15 (AC.seq (AC.ops [AOper.mk (some 2) (AOp.box 24 (Operand.tmp 0)) none, AOper.mk (some 4) (AOp.mov (Operand.const (Value.int IntKind.i64 0)))
  none]) (AC.seq (AC.seq (AC.ops [AOper.mk (some 6) (AOp.load true 2 (Operand.tmp 2)) none, AOper.mk (some 7) (AOp.call 55 [Operand.tmp 6]) none,
  AOper.mk (some 5) (AOp.mov (Operand.tmp 7)) none]) (AC.seq (AC.ops [AOper.mk (some 8) (AOp.mov (Operand.tmp 5)) none, AOper.mk (some 9) (AOp.bin false
  BinOp.neq (Operand.tmp 8) (Operand.const (Value.int IntKind.i64 0))) none]) (AC.cond (Operand.tmp 9) (AC.seq (AC.ops [AOper.mk (some 10) (AOp.mov
  (Operand.tmp 5)) none, AOper.mk (some 4) (AOp.mov (Operand.tmp 10)) none]) AC.ret) AC.skip))) (AC.seq (AC.ops [AOper.mk (some 11) (AOp.mov (Operand.tmp
  1)) none, AOper.mk (some 12) (AOp.fadr 0 (Operand.tmp 2)) none, AOper.mk (some 13) (AOp.load false 1 (Operand.tmp 12)) none, AOper.mk (some 14)
  (AOp.call 56 [Operand.tmp 11, Operand.tmp 13]) none, AOper.mk (some 4) (AOp.mov (Operand.tmp 14)) none]) AC.ret))) [ARes.tmp 4]
theorem cfn60 : cfn Try.prog 60 2 = some c60 := by kernel_rfl
def c61 : AFn :=
  AFn.mk 13 (AC.seq (AC.ops [AOper.mk (some 2) (AOp.box 24 (Operand.tmp 0)) none, AOper.mk (some 4) (AOp.mov (Operand.const (Value.bool false))) none])
  (AC.seq (AC.ops [AOper.mk (some 5) (AOp.mov (Operand.tmp 1)) none, AOper.mk (some 6) (AOp.bin false BinOp.geq (Operand.tmp 5) (Operand.const (Value.int
  IntKind.i64 0))) none, AOper.mk (some 7) (AOp.mov (Operand.tmp 6)) none, AOper.mk (some 8) (AOp.mov (Operand.tmp 1)) (some (7, true)), AOper.mk (some
  9) (AOp.fadr 0 (Operand.tmp 2)) (some (7, true)), AOper.mk (some 10) (AOp.load false 1 (Operand.tmp 9)) (some (7, true)), AOper.mk (some 11) (AOp.bin
  false BinOp.lss (Operand.tmp 8) (Operand.tmp 10)) (some (7, true)), AOper.mk (some 12) (AOp.pick (Operand.tmp 7) (Operand.tmp 11) (Operand.const
  (Value.bool false))) none, AOper.mk (some 4) (AOp.mov (Operand.tmp 12)) none]) AC.ret)) [ARes.tmp 4]
theorem cfn61 : cfn Try.prog 61 2 = some c61 := by kernel_rfl
def c62 : AFn :=
  AFn.mk 16 (AC.seq (AC.ops [AOper.mk (some 3) (AOp.box 24 (Operand.tmp 0)) none, AOper.mk (some 6) (AOp.mov (Operand.const (Value.slice none 0 0)))
  none]) (AC.seq (AC.ops [AOper.mk (some 8) (AOp.fadr 0 (Operand.tmp 3)) none, AOper.mk (some 9) (AOp.load false 1 (Operand.tmp 8)) none, AOper.mk (some
  10) (AOp.mk 3 1 (PV.v (Value.int IntKind.i64 0)) (Operand.tmp 9) (Operand.tmp 9)) none, AOper.mk (some 7) (AOp.mov (Operand.tmp 10)) none]) (AC.seq
  (AC.ops [AOper.mk (some 11) (AOp.mov (Operand.tmp 7)) none, AOper.mk (some 12) (AOp.mov (Operand.tmp 1)) none, AOper.mk (some 13) (AOp.mov (Operand.tmp
  2)) none, AOper.mk (some 14) (AOp.iadr 1 (Operand.tmp 11) (Operand.tmp 12)) none, AOper.mk none (AOp.store 1 (Operand.tmp 14) (Operand.tmp 13)) none])
  (AC.seq (AC.ops [AOper.mk (some 15) (AOp.mov (Operand.tmp 7)) none, AOper.mk (some 6) (AOp.mov (Operand.tmp 15)) none]) AC.ret)))) [ARes.tmp 6]
theorem cfn62 : cfn Try.prog 62 3 = some c62 := by kernel_rfl
def c63 : AFn :=
  AFn.mk 17 (AC.seq (AC.ops [AOper.mk (some 3) (AOp.box 24 (Operand.tmp 0)) none, AOper.mk (some 6) (AOp.mov (Operand.const (Value.int IntKind.i64 0)))
  none]) (AC.seq (AC.seq (AC.ops [AOper.mk (some 8) (AOp.load true 2 (Operand.tmp 3)) none, AOper.mk (some 9) (AOp.mov (Operand.tmp 1)) none, AOper.mk
  (some 10) (AOp.call 54 [Operand.tmp 8, Operand.tmp 9]) none, AOper.mk (some 7) (AOp.mov (Operand.tmp 10)) none]) (AC.seq (AC.ops [AOper.mk (some 11)
  (AOp.mov (Operand.tmp 7)) none, AOper.mk (some 12) (AOp.bin false BinOp.neq (Operand.tmp 11) (Operand.const (Value.int IntKind.i64 0))) none]) (AC.cond
  (Operand.tmp 12) (AC.seq (AC.ops [AOper.mk (some 13) (AOp.mov (Operand.tmp 7)) none, AOper.mk (some 6) (AOp.mov (Operand.tmp 13)) none]) AC.ret)
  AC.skip))) (AC.seq (AC.ops [AOper.mk (some 14) (AOp.load true 2 (Operand.tmp 3)) none, AOper.mk (some 15) (AOp.mov (Operand.tmp 2)) none, AOper.mk
  (some 16) (AOp.call 90 [Operand.tmp 14, Operand.tmp 15]) none, AOper.mk (some 6) (AOp.mov (Operand.tmp 16)) none]) AC.ret))) [ARes.tmp 6]
theorem cfn63 : cfn Try.prog 63 3 = some c63 := by kernel_rfl
def c64 : AFn :=
  AFn.mk 23 (AC.seq (AC.ops [AOper.mk (some 2) (AOp.box 24 (Operand.tmp 0)) none, AOper.mk (some 4) (AOp.mov (Operand.const (Value.slice none 0 0)))
  none]) (AC.seq (AC.ops [AOper.mk (some 7) (AOp.fadr 0 (Operand.tmp 2)) none, AOper.mk (some 8) (AOp.load false 1 (Operand.tmp 7)) none, AOper.mk (some
  9) (AOp.mk 3 1 (PV.v (Value.int IntKind.i64 0)) (Operand.tmp 8) (Operand.tmp 8)) none, AOper.mk (some 5) (AOp.mov (Operand.tmp 9)) none]) (AC.seq
  (AC.seq (AC.ops [AOper.mk (some 6) (AOp.mov (Operand.const (Value.int IntKind.i64 0))) none]) (AC.block 0 (AC.loop (AC.seq (AC.seq (AC.ops [AOper.mk
  (some 10) (AOp.mov (Operand.tmp 6)) none, AOper.mk (some 11) (AOp.mov (Operand.tmp 1)) none, AOper.mk (some 12) (AOp.len (Operand.tmp 11)) none,
  AOper.mk (some 13) (AOp.bin false BinOp.lss (Operand.tmp 10) (Operand.tmp 12)) none]) (AC.cond (Operand.tmp 13) AC.skip (AC.exit 0))) (AC.seq (AC.block
  1 (AC.ops [AOper.mk (some 16) (AOp.mov (Operand.tmp 5)) none, AOper.mk (some 17) (AOp.mov (Operand.tmp 1)) none, AOper.mk (some 18) (AOp.mov
  (Operand.tmp 6)) none, AOper.mk (some 19) (AOp.iadr 1 (Operand.tmp 17) (Operand.tmp 18)) none, AOper.mk (some 20) (AOp.load false 1 (Operand.tmp 19))
  none, AOper.mk (some 21) (AOp.iadr 1 (Operand.tmp 16) (Operand.tmp 20)) none, AOper.mk none (AOp.store 1 (Operand.tmp 21) (Operand.const (Value.int
  IntKind.i64 1))) none])) (AC.ops [AOper.mk (some 14) (AOp.mov (Operand.tmp 6)) none, AOper.mk (some 15) (AOp.bin false BinOp.add (Operand.tmp 14)
  (Operand.const (Value.int IntKind.i64 1))) none, AOper.mk (some 6) (AOp.mov (Operand.tmp 15)) none])))))) (AC.seq (AC.ops [AOper.mk (some 22) (AOp.mov
  (Operand.tmp 5)) none, AOper.mk (some 4) (AOp.mov (Operand.tmp 22)) none]) AC.ret)))) [ARes.tmp 4]
theorem cfn64 : cfn Try.prog 64 2 = some c64 := by kernel_rfl
def c65 : AFn :=
  AFn.mk 25 (AC.seq (AC.ops [AOper.mk (some 2) (AOp.mov (Operand.const (Value.int IntKind.i64 0))) none]) (AC.seq (AC.seq (AC.ops [AOper.mk (some 5)
  (AOp.mov (Operand.tmp 0)) none, AOper.mk (some 6) (AOp.len (Operand.tmp 5)) none, AOper.mk (some 7) (AOp.bin false BinOp.lss (Operand.tmp 6)
  (Operand.const (Value.int IntKind.i64 1))) none]) (AC.cond (Operand.tmp 7) (AC.ops [AOper.mk (some 8) AOp.bad none, AOper.mk none AOp.bad none])
  AC.skip)) (AC.seq (AC.ops [AOper.mk (some 9) (AOp.mov (Operand.tmp 0)) none, AOper.mk (some 10) (AOp.iadr 1 (Operand.tmp 9) (Operand.const (Value.int
  IntKind.i64 0))) none, AOper.mk (some 11) (AOp.load false 1 (Operand.tmp 10)) none, AOper.mk (some 3) (AOp.mov (Operand.tmp 11)) none]) (AC.seq (AC.seq
  (AC.ops [AOper.mk (some 4) (AOp.mov (Operand.const (Value.int IntKind.i64 1))) none]) (AC.block 0 (AC.loop (AC.seq (AC.seq (AC.ops [AOper.mk (some 12)
  (AOp.mov (Operand.tmp 4)) none, AOper.mk (some 13) (AOp.mov (Operand.tmp 0)) none, AOper.mk (some 14) (AOp.len (Operand.tmp 13)) none, AOper.mk (some
  15) (AOp.bin false BinOp.lss (Operand.tmp 12) (Operand.tmp 14)) none]) (AC.cond (Operand.tmp 15) AC.skip (AC.exit 0))) (AC.seq (AC.block 1 (AC.ops
  [AOper.mk (some 18) (AOp.mov (Operand.tmp 3)) none, AOper.mk (some 19) (AOp.mov (Operand.tmp 0)) none, AOper.mk (some 20) (AOp.mov (Operand.tmp 4))
  none, AOper.mk (some 21) (AOp.iadr 1 (Operand.tmp 19) (Operand.tmp 20)) none, AOper.mk (some 22) (AOp.load false 1 (Operand.tmp 21)) none, AOper.mk
  (some 23) (AOp.mm false (Operand.tmp 18) (Operand.tmp 22)) none, AOper.mk (some 3) (AOp.mov (Operand.tmp 23)) none])) (AC.ops [AOper.mk (some 16)
  (AOp.mov (Operand.tmp 4)) none, AOper.mk (some 17) (AOp.bin false BinOp.add (Operand.tmp 16) (Operand.const (Value.int IntKind.i64 1))) none, AOper.mk
  (some 4) (AOp.mov (Operand.tmp 17)) none])))))) (AC.seq (AC.ops [AOper.mk (some 24) (AOp.mov (Operand.tmp 3)) none, AOper.mk (some 2) (AOp.mov
  (Operand.tmp 24)) none]) AC.ret))))) [ARes.tmp 2]
theorem cfn65 : cfn Try.prog 65 1 = some c65 := by kernel_rfl
def c66 : AFn :=
  AFn.mk 25 (AC.seq (AC.ops [AOper.mk (some 2) (AOp.mov (Operand.const (Value.int IntKind.i64 0))) none]) (AC.seq (AC.seq (AC.ops [AOper.mk (some 5)
  (AOp.mov (Operand.tmp 0)) none, AOper.mk (some 6) (AOp.len (Operand.tmp 5)) none, AOper.mk (some 7) (AOp.bin false BinOp.lss (Operand.tmp 6)
  (Operand.const (Value.int IntKind.i64 1))) none]) (AC.cond (Operand.tmp 7) (AC.ops [AOper.mk (some 8) AOp.bad none, AOper.mk none AOp.bad none])
  AC.skip)) (AC.seq (AC.ops [AOper.mk (some 9) (AOp.mov (Operand.tmp 0)) none, AOper.mk (some 10) (AOp.iadr 1 (Operand.tmp 9) (Operand.const (Value.int
  IntKind.i64 0))) none, AOper.mk (some 11) (AOp.load false 1 (Operand.tmp 10)) none, AOper.mk (some 3) (AOp.mov (Operand.tmp 11)) none]) (AC.seq (AC.seq
  (AC.ops [AOper.mk (some 4) (AOp.mov (Operand.const (Value.int IntKind.i64 1))) none]) (AC.block 0 (AC.loop (AC.seq (AC.seq (AC.ops [AOper.mk (some 12)
  (AOp.mov (Operand.tmp 4)) none, AOper.mk (some 13) (AOp.mov (Operand.tmp 0)) none, AOper.mk (some 14) (AOp.len (Operand.tmp 13)) none, AOper.mk (some
  15) (AOp.bin false BinOp.lss (Operand.tmp 12) (Operand.tmp 14)) none]) (AC.cond (Operand.tmp 15) AC.skip (AC.exit 0))) (AC.seq (AC.block 1 (AC.ops
  [AOper.mk (some 18) (AOp.mov (Operand.tmp 3)) none, AOper.mk (some 19) (AOp.mov (Operand.tmp 0)) none, AOper.mk (some 20) (AOp.mov (Operand.tmp 4))
  none, AOper.mk (some 21) (AOp.iadr 1 (Operand.tmp 19) (Operand.tmp 20)) none, AOper.mk (some 22) (AOp.load false 1 (Operand.tmp 21)) none, AOper.mk
  (some 23) (AOp.mm true (Operand.tmp 18) (Operand.tmp 22)) none, AOper.mk (some 3) (AOp.mov (Operand.tmp 23)) none])) (AC.ops [AOper.mk (some 16)
  (AOp.mov (Operand.tmp 4)) none, AOper.mk (some 17) (AOp.bin false BinOp.add (Operand.tmp 16) (Operand.const (Value.int IntKind.i64 1))) none, AOper.mk
  (some 4) (AOp.mov (Operand.tmp 17)) none])))))) (AC.seq (AC.ops [AOper.mk (some 24) (AOp.mov (Operand.tmp 3)) none, AOper.mk (some 2) (AOp.mov
  (Operand.tmp 24)) none]) AC.ret))))) [ARes.tmp 2]
theorem cfn66 : cfn Try.prog 66 1 = some c66 := by kernel_rfl
def c67 : AFn :=
  AFn.mk 33 (AC.seq (AC.ops [AOper.mk (some 2) (AOp.mov (Operand.const (Value.int IntKind.i64 0))) none, AOper.mk (some 3) (AOp.mov (Operand.const
  (Value.int IntKind.i64 0))) none]) (AC.seq (AC.segs [([AOper.mk (some 7) (AOp.mov (Operand.tmp 0)) none, AOper.mk (some 8) (AOp.iadr 1 (Operand.tmp 7)
  (Operand.const (Value.int IntKind.i64 0))) none, AOper.mk (some 9) (AOp.load false 1 (Operand.tmp 8)) none, AOper.mk (some 10) (AOp.mov (Operand.tmp
  0)) none, AOper.mk (some 11) (AOp.iadr 1 (Operand.tmp 10) (Operand.const (Value.int IntKind.i64 0))) none, AOper.mk (some 12) (AOp.load false 1
  (Operand.tmp 11)) none, AOper.mk (some 4) (AOp.mov (Operand.tmp 9)) none, AOper.mk (some 5) (AOp.mov (Operand.tmp 12)) none], none)]) (AC.seq (AC.seq
  (AC.ops [AOper.mk (some 6) (AOp.mov (Operand.const (Value.int IntKind.i64 0))) none]) (AC.block 0 (AC.loop (AC.seq (AC.seq (AC.ops [AOper.mk (some 13)
  (AOp.mov (Operand.tmp 6)) none, AOper.mk (some 14) (AOp.mov (Operand.tmp 0)) none, AOper.mk (some 15) (AOp.len (Operand.tmp 14)) none, AOper.mk (some
  16) (AOp.bin false BinOp.lss (Operand.tmp 13) (Operand.tmp 15)) none]) (AC.cond (Operand.tmp 16) AC.skip (AC.exit 0))) (AC.seq (AC.block 1 (AC.segs
  [([AOper.mk (some 19) (AOp.mov (Operand.tmp 4)) none, AOper.mk (some 20) (AOp.mov (Operand.tmp 0)) none, AOper.mk (some 21) (AOp.mov (Operand.tmp 6))
  none, AOper.mk (some 22) (AOp.iadr 1 (Operand.tmp 20) (Operand.tmp 21)) none, AOper.mk (some 23) (AOp.load false 1 (Operand.tmp 22)) none, AOper.mk
  (some 24) (AOp.mm false (Operand.tmp 19) (Operand.tmp 23)) none, AOper.mk (some 25) (AOp.mov (Operand.tmp 5)) none, AOper.mk (some 26) (AOp.mov
  (Operand.tmp 0)) none, AOper.mk (some 27) (AOp.mov (Operand.tmp 6)) none, AOper.mk (some 28) (AOp.iadr 1 (Operand.tmp 26) (Operand.tmp 27)) none,
  AOper.mk (some 29) (AOp.load false 1 (Operand.tmp 28)) none, AOper.mk (some 30) (AOp.mm true (Operand.tmp 25) (Operand.tmp 29)) none], none),
  ([AOper.mk (some 4) (AOp.mov (Operand.tmp 24)) none, AOper.mk (some 5) (AOp.mov (Operand.tmp 30)) none], none)])) (AC.ops [AOper.mk (some 17) (AOp.mov
  (Operand.tmp 6)) none, AOper.mk (some 18) (AOp.bin false BinOp.add (Operand.tmp 17) (Operand.const (Value.int IntKind.i64 1))) none, AOper.mk (some 6)
  (AOp.mov (Operand.tmp 18)) none])))))) (AC.seq (AC.ops [AOper.mk (some 31) (AOp.mov (Operand.tmp 4)) none, AOper.mk (some 32) (AOp.mov (Operand.tmp 5))
  none, AOper.mk (some 2) (AOp.mov (Operand.tmp 31)) none, AOper.mk (some 3) (AOp.mov (Operand.tmp 32)) none]) AC.ret)))) [ARes.tmp 2, ARes.tmp 3]
theorem cfn67 : cfn Try.prog 67 1 = some c67 := by kernel_rfl
def c68 : AFn :=
  AFn.mk 26 (AC.seq (AC.ops [AOper.mk (some 4) (AOp.mov (Operand.const (Value.bool false))) none]) (AC.seq (AC.seq (AC.ops [AOper.mk (some 6) (AOp.mov
  (Operand.tmp 0)) none, AOper.mk (some 7) (AOp.len (Operand.tmp 6)) none, AOper.mk (some 8) (AOp.mov (Operand.tmp 1)) none, AOper.mk (some 9) (AOp.len
  (Operand.tmp 8)) none, AOper.mk (some 10) (AOp.bin false BinOp.neq (Operand.tmp 7) (Operand.tmp 9)) none]) (AC.cond (Operand.tmp 10) (AC.seq (AC.ops
  [AOper.mk (some 4) (AOp.mov (Operand.const (Value.bool false))) none]) AC.ret) AC.skip)) (AC.seq (AC.seq (AC.ops [AOper.mk (some 5) (AOp.mov
  (Operand.const (Value.int IntKind.i64 0))) none]) (AC.block 0 (AC.loop (AC.seq (AC.seq (AC.ops [AOper.mk (some 11) (AOp.mov (Operand.tmp 5)) none,
  AOper.mk (some 12) (AOp.mov (Operand.tmp 0)) none, AOper.mk (some 13) (AOp.len (Operand.tmp 12)) none, AOper.mk (some 14) (AOp.bin false BinOp.lss
  (Operand.tmp 11) (Operand.tmp 13)) none]) (AC.cond (Operand.tmp 14) AC.skip (AC.exit 0))) (AC.seq (AC.block 1 (AC.seq (AC.segs [([AOper.mk (some 17)
  (AOp.mov (Operand.tmp 0)) none, AOper.mk (some 18) (AOp.mov (Operand.tmp 5)) none, AOper.mk (some 19) (AOp.iadr 1 (Operand.tmp 17) (Operand.tmp 18))
  none, AOper.mk (some 20) (AOp.load false 1 (Operand.tmp 19)) none, AOper.mk (some 21) (AOp.mov (Operand.tmp 1)) none, AOper.mk (some 22) (AOp.mov
  (Operand.tmp 5)) none, AOper.mk (some 23) (AOp.iadr 1 (Operand.tmp 21) (Operand.tmp 22)) none, AOper.mk (some 24) (AOp.load false 1 (Operand.tmp 23))
  none, AOper.mk (some 25) (AOp.bin false BinOp.neq (Operand.tmp 20) (Operand.tmp 24)) none], none)]) (AC.cond (Operand.tmp 25) (AC.seq (AC.ops [AOper.mk
  (some 4) (AOp.mov (Operand.const (Value.bool false))) none]) AC.ret) AC.skip))) (AC.ops [AOper.mk (some 15) (AOp.mov (Operand.tmp 5)) none, AOper.mk
  (some 16) (AOp.bin false BinOp.add (Operand.tmp 15) (Operand.const (Value.int IntKind.i64 1))) none, AOper.mk (some 5) (AOp.mov (Operand.tmp 16))
  none])))))) (AC.seq (AC.ops [AOper.mk (some 4) (AOp.mov (Operand.const (Value.bool true))) none]) AC.ret)))) [ARes.tmp 4]
theorem cfn68 : cfn Try.prog 68 2 = some c68 := by kernel_rfl
def c69 : AFn :=
  AFn.mk 19 (AC.seq (AC.ops [AOper.mk (some 4) (AOp.mov (Operand.const (Value.int IntKind.i64 0))) none]) (AC.seq (AC.seq (AC.ops [AOper.mk (some 6)
  (AOp.mov (Operand.tmp 0)) none, AOper.mk (some 7) (AOp.len (Operand.tmp 6)) none, AOper.mk (some 8) (AOp.mov (Operand.const (Value.int IntKind.i64 0)))
  none]) (AC.block 0 (AC.loop (AC.seq (AC.ops [AOper.mk (some 9) (AOp.bin false BinOp.lss (Operand.tmp 8) (Operand.tmp 7)) none]) (AC.seq (AC.cond
  (Operand.tmp 9) AC.skip (AC.exit 0)) (AC.seq (AC.block 1 (AC.seq (AC.ops [AOper.mk (some 10) (AOp.mov (Operand.tmp 8)) none, AOper.mk (some 5) (AOp.mov
  (Operand.tmp 10)) none]) (AC.seq (AC.ops [AOper.mk (some 11) (AOp.mov (Operand.tmp 1)) none, AOper.mk (some 12) (AOp.mov (Operand.tmp 0)) none,
  AOper.mk (some 13) (AOp.mov (Operand.tmp 5)) none, AOper.mk (some 14) (AOp.iadr 1 (Operand.tmp 12) (Operand.tmp 13)) none, AOper.mk (some 15) (AOp.load
  false 1 (Operand.tmp 14)) none, AOper.mk (some 16) (AOp.bin false BinOp.eql (Operand.tmp 11) (Operand.tmp 15)) none]) (AC.cond (Operand.tmp 16) (AC.seq
  (AC.ops [AOper.mk (some 17) (AOp.mov (Operand.tmp 5)) none, AOper.mk (some 4) (AOp.mov (Operand.tmp 17)) none]) AC.ret) AC.skip)))) (AC.ops [AOper.mk
  (some 18) (AOp.bin false BinOp.add (Operand.tmp 8) (Operand.const (Value.int IntKind.i64 1))) none, AOper.mk (some 8) (AOp.mov (Operand.tmp 18))
  none]))))))) (AC.seq (AC.ops [AOper.mk (some 4) (AOp.mov (Operand.const (Value.int IntKind.i64 (-1)))) none]) AC.ret))) [ARes.tmp 4]
theorem cfn69 : cfn Try.prog 69 2 = some c69 := by kernel_rfl
def c70 : AFn :=
  AFn.mk 14 (AC.seq (AC.ops [AOper.mk (some 4) (AOp.mov (Operand.const (Value.bool false))) none]) (AC.seq (AC.segs [([AOper.mk (some 5) (AOp.load false
  1 (Operand.tmp 1)) none, AOper.mk (some 6) (AOp.mov (Operand.tmp 0)) none, AOper.mk (some 7) (AOp.iadr 1 (Operand.tmp 5) (Operand.tmp 6)) none,
  AOper.mk (some 8) (AOp.load false 1 (Operand.tmp 7)) none, AOper.mk (some 9) (AOp.load false 1 (Operand.tmp 2)) none, AOper.mk (some 10) (AOp.mov
  (Operand.tmp 0)) none, AOper.mk (some 11) (AOp.iadr 1 (Operand.tmp 9) (Operand.tmp 10)) none, AOper.mk (some 12) (AOp.load false 1 (Operand.tmp 11))
  none, AOper.mk (some 13) (AOp.bin false BinOp.geq (Operand.tmp 8) (Operand.tmp 12)) none, AOper.mk (some 4) (AOp.mov (Operand.tmp 13)) none], none)])
  AC.ret)) [ARes.tmp 4]
theorem cfn70 : cfn Try.prog 70 3 = some c70 := by kernel_rfl
def c71 : AFn :=
  AFn.mk 9 (AC.seq (AC.ops [AOper.mk (some 4) (AOp.mov (Operand.const (Value.bool false))) none]) (AC.seq (AC.ops [AOper.mk (some 5) (AOp.mov
  (Operand.tmp 0)) none, AOper.mk (some 6) (AOp.mov (Operand.tmp 1)) none, AOper.mk (some 7) (AOp.call 91 [Operand.tmp 5, Operand.tmp 6]) none, AOper.mk
  (some 8) (AOp.bin false BinOp.geq (Operand.tmp 7) (Operand.const (Value.int IntKind.i64 0))) none, AOper.mk (some 4) (AOp.mov (Operand.tmp 8)) none])
  AC.ret)) [ARes.tmp 4]
theorem cfn71 : cfn Try.prog 71 2 = some c71 := by kernel_rfl
def c72 : AFn :=
  AFn.mk 8 (AC.seq (AC.ops [AOper.mk (some 3) (AOp.mov (Operand.const (Value.bool false))) none]) (AC.seq (AC.ops [AOper.mk (some 4) (AOp.load false 1
  (Operand.tmp 1)) none, AOper.mk (some 5) (AOp.mov (Operand.tmp 0)) none, AOper.mk (some 6) (AOp.callv (Operand.tmp 4) [Operand.tmp 5]) none, AOper.mk
  (some 7) (AOp.un UnOp.not (Operand.tmp 6)) none, AOper.mk (some 3) (AOp.mov (Operand.tmp 7)) none]) AC.ret)) [ARes.tmp 3]
theorem cfn72 : cfn Try.prog 72 2 = some c72 := by kernel_rfl
def c73 : AFn :=
  AFn.mk 33 (AC.seq (AC.ops [AOper.mk (some 4) (AOp.mov (Operand.const (Value.bool false))) none]) (AC.seq (AC.ops [AOper.mk (some 8) (AOp.mov
  (Operand.tmp 0)) none, AOper.mk (some 9) (AOp.nilc (Operand.tmp 8)) none, AOper.mk (some 10) (AOp.fadr 0 (Operand.tmp 9)) none, AOper.mk (some 11)
  (AOp.load true 2 (Operand.tmp 10)) none, AOper.mk (some 12) (AOp.mov (Operand.tmp 1)) none, AOper.mk (some 13) (AOp.call 92 [Operand.tmp 11,
  Operand.tmp 12]) none, AOper.mk (some 7) (AOp.mov (Operand.tmp 13)) none, AOper.mk (some 14) (AOp.ext (Operand.tmp 7) 0) none, AOper.mk (some 15)
  (AOp.ext (Operand.tmp 7) 1) none, AOper.mk (some 5) (AOp.mov (Operand.tmp 14)) none, AOper.mk (some 6) (AOp.mov (Operand.tmp 15)) none]) (AC.seq
  (AC.ops [AOper.mk (some 16) (AOp.mov (Operand.tmp 6)) none, AOper.mk (some 17) (AOp.bin false BinOp.eql (Operand.tmp 16) (Operand.const (Value.int
  IntKind.i64 0))) none, AOper.mk (some 18) (AOp.mov (Operand.tmp 17)) none, AOper.mk (some 19) (AOp.mov (Operand.tmp 5)) (some (18, true)), AOper.mk
  (some 20) (AOp.bin false BinOp.gtr (Operand.tmp 19) (Operand.const (Value.int IntKind.i64 0))) (some (18, true)), AOper.mk (some 21) (AOp.pick
  (Operand.tmp 18) (Operand.tmp 20) (Operand.const (Value.bool false))) none, AOper.mk (some 22) (AOp.mov (Operand.tmp 21)) none, AOper.mk (some 23)
  (AOp.mov (Operand.tmp 0)) (some (22, true)), AOper.mk (some 24) (AOp.nilc (Operand.tmp 23)) (some (22, true)), AOper.mk (some 25) (AOp.fadr 2
  (Operand.tmp 24)) (some (22, true)), AOper.mk (some 26) (AOp.load false 1 (Operand.tmp 25)) (some (22, true)), AOper.mk (some 27) (AOp.mov (Operand.tmp
  1)) (some (22, true)), AOper.mk (some 28) (AOp.iadr 1 (Operand.tmp 26) (Operand.tmp 27)) (some (22, true)), AOper.mk (some 29) (AOp.load false 1
  (Operand.tmp 28)) (some (22, true)), AOper.mk (some 30) (AOp.mov (Operand.tmp 5)) (some (22, true)), AOper.mk (some 31) (AOp.bin false BinOp.geq
  (Operand.tmp 29) (Operand.tmp 30)) (some (22, true)), AOper.mk (some 32) (AOp.pick (Operand.tmp 22) (Operand.tmp 31) (Operand.const (Value.bool
  false))) none, AOper.mk (some 4) (AOp.mov (Operand.tmp 32)) none]) AC.ret))) [ARes.tmp 4]
theorem cfn73 : cfn Try.prog 73 2 = some c73 := by kernel_rfl
def c74 : AFn :=
  AFn.mk 21 (AC.seq (AC.ops [AOper.mk (some 3) (AOp.box 24 (Operand.tmp 0)) none, AOper.mk (some 6) (AOp.mov (Operand.const (Value.bool false))) none])
  (AC.seq (AC.ops [AOper.mk (some 8) (AOp.load true 2 (Operand.tmp 3)) none, AOper.mk (some 9) (AOp.mov (Operand.tmp 2)) none, AOper.mk (some 10)
  (AOp.call 93 [Operand.tmp 8, Operand.tmp 9]) none, AOper.mk (some 7) (AOp.mov (Operand.tmp 10)) none]) (AC.seq (AC.ops [AOper.mk (some 11) (AOp.mov
  (Operand.tmp 7)) none, AOper.mk (some 12) (AOp.bin false BinOp.gtr (Operand.tmp 11) (Operand.const (Value.int IntKind.i64 0))) none, AOper.mk (some 13)
  (AOp.mov (Operand.tmp 12)) none, AOper.mk (some 14) (AOp.mov (Operand.tmp 1)) (some (13, true)), AOper.mk (some 15) (AOp.mov (Operand.tmp 2)) (some
  (13, true)), AOper.mk (some 16) (AOp.iadr 1 (Operand.tmp 14) (Operand.tmp 15)) (some (13, true)), AOper.mk (some 17) (AOp.load false 1 (Operand.tmp
  16)) (some (13, true)), AOper.mk (some 18) (AOp.mov (Operand.tmp 7)) (some (13, true)), AOper.mk (some 19) (AOp.bin false BinOp.geq (Operand.tmp 17)
  (Operand.tmp 18)) (some (13, true)), AOper.mk (some 20) (AOp.pick (Operand.tmp 13) (Operand.tmp 19) (Operand.const (Value.bool false))) none, AOper.mk
  (some 6) (AOp.mov (Operand.tmp 20)) none]) AC.ret))) [ARes.tmp 6]
theorem cfn74 : cfn Try.prog 74 3 = some c74 := by kernel_rfl
def c75 : AFn :=
  AFn.mk 37 (AC.seq (AC.ops [AOper.mk (some 3) (AOp.box 24 (Operand.tmp 0)) none, AOper.mk (some 6) (AOp.mov (Operand.const (Value.bool false))) none])
  (AC.seq (AC.ops [AOper.mk (some 7) (AOp.mov (Operand.const (Value.int IntKind.i64 0))) none]) (AC.seq (AC.seq (AC.ops [AOper.mk (some 8) (AOp.mov
  (Operand.const (Value.int IntKind.i64 0))) none]) (AC.block 0 (AC.loop (AC.seq (AC.seq (AC.ops [AOper.mk (some 10) (AOp.mov (Operand.tmp 8)) none,
  AOper.mk (some 11) (AOp.mov (Operand.tmp 2)) none, AOper.mk (some 12) (AOp.len (Operand.tmp 11)) none, AOper.mk (some 13) (AOp.bin false BinOp.lss
  (Operand.tmp 10) (Operand.tmp 12)) none]) (AC.cond (Operand.tmp 13) AC.skip (AC.exit 0))) (AC.seq (AC.block 1 (AC.seq (AC.segs [([AOper.mk (some 16)
  (AOp.load true 2 (Operand.tmp 3)) none, AOper.mk (some 17) (AOp.mov (Operand.tmp 2)) none, AOper.mk (some 18) (AOp.mov (Operand.tmp 2)) none, AOper.mk
  (some 19) (AOp.mov (Operand.tmp 8)) none, AOper.mk (some 20) (AOp.iadr 1 (Operand.tmp 18) (Operand.tmp 19)) none, AOper.mk (some 21) (AOp.load false 1
  (Operand.tmp 20)) none], some (true, AOper.mk (some 22) (AOp.call 94 [Operand.tmp 16, Operand.tmp 17, Operand.tmp 21]) none)), ([AOper.mk (some 9)
  (AOp.mov (Operand.tmp 22)) none], none)]) (AC.seq (AC.seq (AC.ops [AOper.mk (some 23) (AOp.mov (Operand.tmp 1)) none, AOper.mk (some 24) (AOp.mov
  (Operand.tmp 2)) none, AOper.mk (some 25) (AOp.mov (Operand.tmp 8)) none, AOper.mk (some 26) (AOp.iadr 1 (Operand.tmp 24) (Operand.tmp 25)) none,
  AOper.mk (some 27) (AOp.load false 1 (Operand.tmp 26)) none, AOper.mk (some 28) (AOp.iadr 1 (Operand.tmp 23) (Operand.tmp 27)) none, AOper.mk (some 29)
  (AOp.load false 1 (Operand.tmp 28)) none, AOper.mk (some 30) (AOp.mov (Operand.tmp 9)) none, AOper.mk (some 31) (AOp.bin false BinOp.lss (Operand.tmp
  29) (Operand.tmp 30)) none]) (AC.cond (Operand.tmp 31) (AC.seq (AC.ops [AOper.mk (some 6) (AOp.mov (Operand.const (Value.bool false))) none]) AC.ret)
  AC.skip)) (AC.ops [AOper.mk (some 32) (AOp.mov (Operand.tmp 7)) none, AOper.mk (some 33) (AOp.mov (Operand.tmp 9)) none, AOper.mk (some 34) (AOp.bin
  false BinOp.add (Operand.tmp 32) (Operand.tmp 33)) none, AOper.mk (some 7) (AOp.mov (Operand.tmp 34)) none])))) (AC.ops [AOper.mk (some 14) (AOp.mov
  (Operand.tmp 8)) none, AOper.mk (some 15) (AOp.bin false BinOp.add (Operand.tmp 14) (Operand.const (Value.int IntKind.i64 1))) none, AOper.mk (some 8)
  (AOp.mov (Operand.tmp 15)) none])))))) (AC.seq (AC.ops [AOper.mk (some 35) (AOp.mov (Operand.tmp 7)) none, AOper.mk (some 36) (AOp.bin false BinOp.gtr
  (Operand.tmp 35) (Operand.const (Value.int IntKind.i64 0))) none, AOper.mk (some 6) (AOp.mov (Operand.tmp 36)) none]) AC.ret)))) [ARes.tmp 6]
theorem cfn75 : cfn Try.prog 75 3 = some c75 := by kernel_rfl
def c76 : AFn :=
  AFn.mk 11 (AC.seq (AC.ops [AOper.mk (some 2) (AOp.box 24 (Operand.tmp 0)) none, AOper.mk (some 4) (AOp.mov (Operand.const (Value.int IntKind.i64 0)))
  none]) (AC.seq (AC.seq (AC.ops [AOper.mk (some 5) (AOp.mov (Operand.tmp 1)) none, AOper.mk (some 6) (AOp.len (Operand.tmp 5)) none, AOper.mk (some 7)
  (AOp.bin false BinOp.gtr (Operand.tmp 6) (Operand.const (Value.int IntKind.i64 4096))) none]) (AC.cond (Operand.tmp 7) (AC.seq (AC.ops [AOper.mk (some
  4) (AOp.mov (Operand.const (Value.int IntKind.i64 5))) none]) AC.ret) AC.skip)) (AC.seq (AC.seq (AC.ops [AOper.mk (some 8) (AOp.mov (Operand.tmp 1))
  none, AOper.mk (some 9) (AOp.fn (Fn.func 95) [] [Operand.tmp 2]) none, AOper.mk (some 10) (AOp.call 71 [Operand.tmp 8, Operand.tmp 9]) none]) (AC.cond
  (Operand.tmp 10) (AC.seq (AC.ops [AOper.mk (some 4) (AOp.mov (Operand.const (Value.int IntKind.i64 2))) none]) AC.ret) AC.skip)) (AC.seq (AC.ops
  [AOper.mk (some 4) (AOp.mov (Operand.const (Value.int IntKind.i64 0))) none]) AC.ret)))) [ARes.tmp 4]
theorem cfn76 : cfn Try.prog 76 2 = some c76 := by kernel_rfl
def c77 : AFn :=
  AFn.mk 8 (AC.seq (AC.ops [AOper.mk (some 2) (AOp.mov (Operand.const (Value.slice none 0 0))) none]) (AC.seq (AC.seq (AC.ops [AOper.mk (some 3) (AOp.mov
  (Operand.tmp 0)) none, AOper.mk (some 4) (AOp.eqn false (Operand.tmp 3)) none]) (AC.cond (Operand.tmp 4) (AC.seq (AC.ops [AOper.mk (some 2) (AOp.mov
  (Operand.const (Value.slice none 0 0))) none]) AC.ret) AC.skip)) (AC.seq (AC.ops [AOper.mk (some 5) (AOp.bsl 3 1 []) none, AOper.mk (some 6) (AOp.mov
  (Operand.tmp 0)) none, AOper.mk (some 7) (AOp.app 3 1 (Operand.tmp 5) (Operand.tmp 6)) none, AOper.mk (some 2) (AOp.mov (Operand.tmp 7)) none])
  AC.ret))) [ARes.tmp 2]
theorem cfn77 : cfn Try.prog 77 1 = some c77 := by kernel_rfl
def c78 : AFn :=
  AFn.mk 23 (AC.segs [([AOper.mk (some 4) (AOp.mov (Operand.tmp 0)) none, AOper.mk (some 5) (AOp.mov (Operand.tmp 0)) none, AOper.mk (some 6) (AOp.nilc
  (Operand.tmp 5)) none, AOper.mk (some 7) (AOp.fadr 0 (Operand.tmp 6)) none, AOper.mk (some 8) (AOp.load true 2 (Operand.tmp 7)) none, AOper.mk (some 9)
  (AOp.mov (Operand.tmp 0)) none, AOper.mk (some 10) (AOp.nilc (Operand.tmp 9)) none, AOper.mk (some 11) (AOp.fadr 2 (Operand.tmp 10)) none, AOper.mk
  (some 12) (AOp.load false 1 (Operand.tmp 11)) none, AOper.mk (some 13) (AOp.mov (Operand.tmp 0)) none, AOper.mk (some 14) (AOp.nilc (Operand.tmp 13))
  none, AOper.mk (some 15) (AOp.fadr 0 (Operand.tmp 14)) none, AOper.mk (some 16) (AOp.load true 2 (Operand.tmp 15)) none, AOper.mk (some 17) (AOp.mov
  (Operand.tmp 1)) none], some (true, AOper.mk (some 18) (AOp.bsl 3 1 [Operand.tmp 17]) none)), ([], some (true, AOper.mk (some 19) (AOp.call 59
  [Operand.tmp 16, Operand.tmp 18, Operand.const (Value.int IntKind.i64 1)]) none)), ([], some (true, AOper.mk (some 20) (AOp.call 51 [Operand.tmp 8,
  Operand.tmp 12, Operand.tmp 19]) none)), ([AOper.mk (some 21) (AOp.nilc (Operand.tmp 4)) none, AOper.mk (some 22) (AOp.fadr 2 (Operand.tmp 21)) none],
  some (false, AOper.mk none (AOp.store 1 (Operand.tmp 22) (Operand.tmp 20)) none))]) []
theorem cfn78 : cfn Try.prog 78 2 = some c78 := by kernel_rfl
def c79 : AFn :=
  AFn.mk 22 (AC.seq (AC.ops [AOper.mk (some 2) (AOp.box 24 (Operand.tmp 0)) none, AOper.mk (some 4) (AOp.mov (Operand.const (Value.int IntKind.i64 0)))
  none]) (AC.seq (AC.seq (AC.ops [AOper.mk (some 6) (AOp.mov (Operand.tmp 1)) none, AOper.mk (some 7) (AOp.len (Operand.tmp 6)) none, AOper.mk (some 8)
  (AOp.bin false BinOp.gtr (Operand.tmp 7) (Operand.const (Value.int IntKind.i64 4096))) none]) (AC.cond (Operand.tmp 8) (AC.seq (AC.ops [AOper.mk (some
  4) (AOp.mov (Operand.const (Value.int IntKind.i64 5))) none]) AC.ret) AC.skip)) (AC.seq (AC.seq (AC.ops [AOper.mk (some 5) (AOp.mov (Operand.const
  (Value.int IntKind.i64 0))) none]) (AC.block 0 (AC.loop (AC.seq (AC.seq (AC.ops [AOper.mk (some 9) (AOp.mov (Operand.tmp 5)) none, AOper.mk (some 10)
  (AOp.mov (Operand.tmp 1)) none, AOper.mk (some 11) (AOp.len (Operand.tmp 10)) none, AOper.mk (some 12) (AOp.bin false BinOp.lss (Operand.tmp 9)
  (Operand.tmp 11)) none]) (AC.cond (Operand.tmp 12) AC.skip (AC.exit 0))) (AC.seq (AC.block 1 (AC.seq (AC.segs [([AOper.mk (some 15) (AOp.load true 2
  (Operand.tmp 2)) none, AOper.mk (some 16) (AOp.mov (Operand.tmp 1)) none, AOper.mk (some 17) (AOp.mov (Operand.tmp 5)) none, AOper.mk (some 18)
  (AOp.iadr 1 (Operand.tmp 16) (Operand.tmp 17)) none, AOper.mk (some 19) (AOp.load false 1 (Operand.tmp 18)) none], some (true, AOper.mk (some 20)
  (AOp.call 61 [Operand.tmp 15, Operand.tmp 19]) none)), ([AOper.mk (some 21) (AOp.un UnOp.not (Operand.tmp 20)) none], none)]) (AC.cond (Operand.tmp 21)
  (AC.seq (AC.ops [AOper.mk (some 4) (AOp.mov (Operand.const (Value.int IntKind.i64 2))) none]) AC.ret) AC.skip))) (AC.ops [AOper.mk (some 13) (AOp.mov
  (Operand.tmp 5)) none, AOper.mk (some 14) (AOp.bin false BinOp.add (Operand.tmp 13) (Operand.const (Value.int IntKind.i64 1))) none, AOper.mk (some 5)
  (AOp.mov (Operand.tmp 14)) none])))))) (AC.seq (AC.ops [AOper.mk (some 4) (AOp.mov (Operand.const (Value.int IntKind.i64 0))) none]) AC.ret))))
  [ARes.tmp 4]
theorem cfn79 : cfn Try.prog 79 2 = some c79 := by kernel_rfl
def c80 : AFn :=
  AFn.mk 67 (AC.seq (AC.ops [AOper.mk (some 1) (AOp.box 24 (Operand.tmp 0)) none, AOper.mk (some 2) (AOp.mov (Operand.const (Value.int IntKind.i64 0)))
  none]) (AC.seq (AC.seq (AC.ops [AOper.mk (some 7) (AOp.fadr 0 (Operand.tmp 1)) none, AOper.mk (some 8) (AOp.load false 1 (Operand.tmp 7)) none,
  AOper.mk (some 9) (AOp.bin false BinOp.lss (Operand.tmp 8) (Operand.const (Value.int IntKind.i64 1))) none, AOper.mk (some 10) (AOp.mov (Operand.tmp
  9)) none, AOper.mk (some 11) (AOp.fadr 0 (Operand.tmp 1)) (some (10, false)), AOper.mk (some 12) (AOp.load false 1 (Operand.tmp 11)) (some (10,
  false)), AOper.mk (some 13) (AOp.bin false BinOp.gtr (Operand.tmp 12) (Operand.const (Value.int IntKind.i64 12))) (some (10, false)), AOper.mk (some
  14) (AOp.pick (Operand.tmp 10) (Operand.const (Value.bool true)) (Operand.tmp 13)) none]) (AC.cond (Operand.tmp 14) (AC.seq (AC.ops [AOper.mk (some 2)
  (AOp.mov (Operand.const (Value.int IntKind.i64 2))) none]) AC.ret) AC.skip)) (AC.seq (AC.ops [AOper.mk (some 15) (AOp.bld [PV.v (Value.int IntKind.i64
  0), PV.v (Value.int IntKind.i64 0)] [(0, 1), (1, 1)] [(0, Operand.const (Value.int IntKind.i64 (-1))), (1, Operand.const (Value.int IntKind.i64
  (-1)))]) none, AOper.mk (some 3) (AOp.zro 121 (PV.agg [PV.v (Value.int IntKind.i64 0), PV.v (Value.int IntKind.i64 0)])) none, AOper.mk none (AOp.store
  2 (Operand.tmp 3) (Operand.tmp 15)) none]) (AC.seq (AC.seq (AC.ops [AOper.mk (some 16) (AOp.fadr 1 (Operand.tmp 1)) none, AOper.mk (some 17) (AOp.load
  false 1 (Operand.tmp 16)) none, AOper.mk (some 18) (AOp.len (Operand.tmp 17)) none, AOper.mk (some 19) (AOp.mov (Operand.const (Value.int IntKind.i64
  0))) none]) (AC.block 0 (AC.loop (AC.seq (AC.ops [AOper.mk (some 20) (AOp.bin false BinOp.lss (Operand.tmp 19) (Operand.tmp 18)) none]) (AC.seq
  (AC.cond (Operand.tmp 20) AC.skip (AC.exit 0)) (AC.seq (AC.block 1 (AC.seq (AC.ops [AOper.mk (some 21) (AOp.iadr 3 (Operand.tmp 17) (Operand.tmp 19))
  none, AOper.mk (some 22) (AOp.load true 3 (Operand.tmp 21)) none, AOper.mk (some 5) (AOp.zro 99 (PV.agg [PV.v (Value.int IntKind.i64 0), PV.v
  (Value.int IntKind.i64 0), PV.v (Value.int IntKind.i64 0)])) none, AOper.mk none (AOp.store 3 (Operand.tmp 5) (Operand.tmp 22)) none]) (AC.seq (AC.ops
  [AOper.mk (some 23) (AOp.fadr 0 (Operand.tmp 5)) none, AOper.mk (some 24) (AOp.load false 1 (Operand.tmp 23)) none, AOper.mk (some 25) (AOp.fadr 1
  (Operand.tmp 5)) none, AOper.mk (some 26) (AOp.load false 1 (Operand.tmp 25)) none, AOper.mk (some 27) (AOp.bld [PV.v (Value.int IntKind.i64 0), PV.v
  (Value.int IntKind.i64 0)] [(0, 1), (1, 1)] [(0, Operand.tmp 24), (1, Operand.tmp 26)]) none, AOper.mk (some 6) (AOp.zro 121 (PV.agg [PV.v (Value.int
  IntKind.i64 0), PV.v (Value.int IntKind.i64 0)])) none, AOper.mk none (AOp.store 2 (Operand.tmp 6) (Operand.tmp 27)) none]) (AC.seq (AC.block 2 (AC.seq
  (AC.ops [AOper.mk (some 29) (AOp.fadr 0 (Operand.tmp 1)) none, AOper.mk (some 30) (AOp.load false 1 (Operand.tmp 29)) none, AOper.mk (some 31)
  (AOp.fadr 0 (Operand.tmp 5)) none, AOper.mk (some 32) (AOp.load false 1 (Operand.tmp 31)) none, AOper.mk (some 33) (AOp.call 96 [Operand.tmp 30,
  Operand.tmp 32]) none, AOper.mk (some 34) (AOp.un UnOp.not (Operand.tmp 33)) none, AOper.mk (some 35) (AOp.mov (Operand.tmp 34)) none, AOper.mk (some
  36) (AOp.fadr 0 (Operand.tmp 1)) (some (35, false)), AOper.mk (some 37) (AOp.load false 1 (Operand.tmp 36)) (some (35, false)), AOper.mk (some 38)
  (AOp.fadr 1 (Operand.tmp 5)) (some (35, false)), AOper.mk (some 39) (AOp.load false 1 (Operand.tmp 38)) (some (35, false)), AOper.mk (some 40)
  (AOp.call 96 [Operand.tmp 37, Operand.tmp 39]) (some (35, false)), AOper.mk (some 41) (AOp.un UnOp.not (Operand.tmp 40)) (some (35, false)), AOper.mk
  (some 42) (AOp.pick (Operand.tmp 35) (Operand.const (Value.bool true)) (Operand.tmp 41)) none, AOper.mk (some 43) (AOp.mov (Operand.tmp 42)) none,
  AOper.mk (some 44) (AOp.fadr 2 (Operand.tmp 5)) (some (43, false)), AOper.mk (some 45) (AOp.load false 1 (Operand.tmp 44)) (some (43, false)), AOper.mk
  (some 46) (AOp.bin false BinOp.lss (Operand.tmp 45) (Operand.const (Value.int IntKind.i64 1))) (some (43, false)), AOper.mk (some 47) (AOp.pick
  (Operand.tmp 43) (Operand.const (Value.bool true)) (Operand.tmp 46)) none, AOper.mk (some 48) (AOp.mov (Operand.tmp 47)) none, AOper.mk (some 49)
  (AOp.fadr 2 (Operand.tmp 5)) (some (48, false)), AOper.mk (some 50) (AOp.load false 1 (Operand.tmp 49)) (some (48, false)), AOper.mk (some 51) (AOp.bin
  false BinOp.gtr (Operand.tmp 50) (Operand.const (Value.int IntKind.i64 50))) (some (48, false)), AOper.mk (some 52) (AOp.pick (Operand.tmp 48)
  (Operand.const (Value.bool true)) (Operand.tmp 51)) none, AOper.mk (some 28) (AOp.mov (Operand.tmp 52)) none]) (AC.cond (Operand.tmp 28) (AC.seq
  (AC.ops [AOper.mk (some 2) (AOp.mov (Operand.const (Value.int IntKind.i64 2))) none]) AC.ret) (AC.seq (AC.ops [AOper.mk (some 54) (AOp.fadr 0
  (Operand.tmp 5)) none, AOper.mk (some 55) (AOp.load false 1 (Operand.tmp 54)) none, AOper.mk (some 56) (AOp.fadr 1 (Operand.tmp 5)) none, AOper.mk
  (some 57) (AOp.load false 1 (Operand.tmp 56)) none, AOper.mk (some 58) (AOp.bin false BinOp.gtr (Operand.tmp 55) (Operand.tmp 57)) none, AOper.mk (some
  59) (AOp.mov (Operand.tmp 58)) none, AOper.mk (some 60) (AOp.load true 2 (Operand.tmp 3)) (some (59, false)), AOper.mk (some 61) (AOp.load true 2
  (Operand.tmp 6)) (some (59, false)), AOper.mk (some 62) (AOp.call 97 [Operand.tmp 60, Operand.tmp 61]) (some (59, false)), AOper.mk (some 63) (AOp.bin
  false BinOp.geq (Operand.tmp 62) (Operand.const (Value.int IntKind.i64 0))) (some (59, false)), AOper.mk (some 64) (AOp.pick (Operand.tmp 59)
  (Operand.const (Value.bool true)) (Operand.tmp 63)) none, AOper.mk (some 53) (AOp.mov (Operand.tmp 64)) none]) (AC.cond (Operand.tmp 53) (AC.seq
  (AC.ops [AOper.mk (some 2) (AOp.mov (Operand.const (Value.int IntKind.i64 9))) none]) AC.ret) AC.skip))))) (AC.ops [AOper.mk (some 65) (AOp.load true 2
  (Operand.tmp 6)) none, AOper.mk none (AOp.store 2 (Operand.tmp 3) (Operand.tmp 65)) none]))))) (AC.ops [AOper.mk (some 66) (AOp.bin false BinOp.add
  (Operand.tmp 19) (Operand.const (Value.int IntKind.i64 1))) none, AOper.mk (some 19) (AOp.mov (Operand.tmp 66)) none]))))))) (AC.seq (AC.ops [AOper.mk
  (some 2) (AOp.mov (Operand.const (Value.int IntKind.i64 0))) none]) AC.ret))))) [ARes.tmp 2]
theorem cfn80 : cfn Try.prog 80 1 = some c80 := by kernel_rfl
def c81 : AFn :=
  AFn.mk 26 (AC.seq (AC.ops [AOper.mk (some 2) (AOp.box 24 (Operand.tmp 0)) none, AOper.mk (some 4) (AOp.mov (Operand.const (Value.slice none 0 0)))
  none]) (AC.seq (AC.ops [AOper.mk (some 7) (AOp.fadr 0 (Operand.tmp 2)) none, AOper.mk (some 8) (AOp.load false 1 (Operand.tmp 7)) none, AOper.mk (some
  9) (AOp.mk 3 1 (PV.v (Value.int IntKind.i64 0)) (Operand.tmp 8) (Operand.tmp 8)) none, AOper.mk (some 5) (AOp.mov (Operand.tmp 9)) none]) (AC.seq
  (AC.seq (AC.ops [AOper.mk (some 6) (AOp.mov (Operand.const (Value.int IntKind.i64 0))) none]) (AC.block 0 (AC.loop (AC.seq (AC.seq (AC.ops [AOper.mk
  (some 10) (AOp.mov (Operand.tmp 6)) none, AOper.mk (some 11) (AOp.mov (Operand.tmp 1)) none, AOper.mk (some 12) (AOp.len (Operand.tmp 11)) none,
  AOper.mk (some 13) (AOp.bin false BinOp.lss (Operand.tmp 10) (Operand.tmp 12)) none]) (AC.cond (Operand.tmp 13) AC.skip (AC.exit 0))) (AC.seq (AC.block
  1 (AC.ops [AOper.mk (some 16) (AOp.mov (Operand.tmp 5)) none, AOper.mk (some 17) (AOp.mov (Operand.tmp 1)) none, AOper.mk (some 18) (AOp.mov
  (Operand.tmp 6)) none, AOper.mk (some 19) (AOp.iadr 1 (Operand.tmp 17) (Operand.tmp 18)) none, AOper.mk (some 20) (AOp.load false 1 (Operand.tmp 19))
  none, AOper.mk (some 21) (AOp.iadr 1 (Operand.tmp 16) (Operand.tmp 20)) none, AOper.mk (some 22) (AOp.load false 1 (Operand.tmp 21)) none, AOper.mk
  (some 23) (AOp.bin false BinOp.add (Operand.tmp 22) (Operand.const (Value.int IntKind.i64 1))) none, AOper.mk (some 24) (AOp.iadr 1 (Operand.tmp 16)
  (Operand.tmp 20)) none, AOper.mk none (AOp.store 1 (Operand.tmp 24) (Operand.tmp 23)) none])) (AC.ops [AOper.mk (some 14) (AOp.mov (Operand.tmp 6))
  none, AOper.mk (some 15) (AOp.bin false BinOp.add (Operand.tmp 14) (Operand.const (Value.int IntKind.i64 1))) none, AOper.mk (some 6) (AOp.mov
  (Operand.tmp 15)) none])))))) (AC.seq (AC.ops [AOper.mk (some 25) (AOp.mov (Operand.tmp 5)) none, AOper.mk (some 4) (AOp.mov (Operand.tmp 25)) none])
  AC.ret)))) [ARes.tmp 4]
theorem cfn81 : cfn Try.prog 81 2 = some c81 := by kernel_rfl
def c82 : AFn :=
  AFn.mk 24 (AC.seq (AC.ops [AOper.mk (some 3) (AOp.box 24 (Operand.tmp 0)) none, AOper.mk (some 6) (AOp.mov (Operand.const (Value.bool false))) none])
  (AC.seq (AC.seq (AC.ops [AOper.mk (some 7) (AOp.fadr 1 (Operand.tmp 3)) none, AOper.mk (some 8) (AOp.load false 1 (Operand.tmp 7)) none, AOper.mk (some
  9) (AOp.len (Operand.tmp 8)) none, AOper.mk (some 10) (AOp.bin false BinOp.gtr (Operand.tmp 9) (Operand.const (Value.int IntKind.i64 40))) none])
  (AC.cond (Operand.tmp 10) (AC.seq (AC.ops [AOper.mk (some 6) (AOp.mov (Operand.const (Value.bool false))) none]) AC.ret) AC.skip)) (AC.seq (AC.seq
  (AC.ops [AOper.mk (some 11) (AOp.load true 2 (Operand.tmp 3)) none, AOper.mk (some 12) (AOp.call 55 [Operand.tmp 11]) none, AOper.mk (some 13) (AOp.bin
  false BinOp.neq (Operand.tmp 12) (Operand.const (Value.int IntKind.i64 0))) none]) (AC.cond (Operand.tmp 13) (AC.seq (AC.ops [AOper.mk (some 6)
  (AOp.mov (Operand.const (Value.bool true))) none]) AC.ret) AC.skip)) (AC.seq (AC.ops [AOper.mk (some 14) (AOp.fadr 0 (Operand.tmp 3)) none, AOper.mk
  (some 15) (AOp.load false 1 (Operand.tmp 14)) none, AOper.mk (some 16) (AOp.mov (Operand.tmp 1)) none, AOper.mk (some 17) (AOp.bin false BinOp.leq
  (Operand.tmp 15) (Operand.tmp 16)) none, AOper.mk (some 18) (AOp.mov (Operand.tmp 17)) none, AOper.mk (some 19) (AOp.load true 2 (Operand.tmp 3)) (some
  (18, true)), AOper.mk (some 20) (AOp.call 98 [Operand.tmp 19]) (some (18, true)), AOper.mk (some 21) (AOp.mov (Operand.tmp 2)) (some (18, true)),
  AOper.mk (some 22) (AOp.bin false BinOp.leq (Operand.tmp 20) (Operand.tmp 21)) (some (18, true)), AOper.mk (some 23) (AOp.pick (Operand.tmp 18)
  (Operand.tmp 22) (Operand.const (Value.bool false))) none, AOper.mk (some 6) (AOp.mov (Operand.tmp 23)) none]) AC.ret)))) [ARes.tmp 6]
theorem cfn82 : cfn Try.prog 82 3 = some c82 := by kernel_rfl
def c83 : AFn :=
  AFn.mk 9 (AC.seq (AC.ops [AOper.mk (some 4) (AOp.mov (Operand.const (Value.bool false))) none]) (AC.seq (AC.ops [AOper.mk (some 5) (AOp.mov
  (Operand.tmp 0)) none, AOper.mk (some 6) (AOp.mov (Operand.tmp 1)) none, AOper.mk (some 7) (AOp.call 99 [Operand.tmp 5, Operand.tmp 6]) none, AOper.mk
  (some 8) (AOp.bin false BinOp.geq (Operand.tmp 7) (Operand.const (Value.int IntKind.i64 0))) none, AOper.mk (some 4) (AOp.mov (Operand.tmp 8)) none])
  AC.ret)) [ARes.tmp 4]
theorem cfn83 : cfn Try.prog 83 2 = some c83 := by kernel_rfl
def c84 : AFn :=
  AFn.mk 9 (AC.seq (AC.ops [AOper.mk (some 2) (AOp.mov (Operand.const (Value.bool false))) none]) (AC.seq (AC.ops [AOper.mk (some 3) (AOp.mov
  (Operand.tmp 0)) none, AOper.mk (some 4) (AOp.bin false BinOp.lss (Operand.tmp 3) (Operand.const (Value.int IntKind.i64 (-1048576)))) none, AOper.mk
  (some 5) (AOp.mov (Operand.tmp 4)) none, AOper.mk (some 6) (AOp.mov (Operand.tmp 0)) (some (5, false)), AOper.mk (some 7) (AOp.bin false BinOp.gtr
  (Operand.tmp 6) (Operand.const (Value.int IntKind.i64 1048576))) (some (5, false)), AOper.mk (some 8) (AOp.pick (Operand.tmp 5) (Operand.const
  (Value.bool true)) (Operand.tmp 7)) none, AOper.mk (some 2) (AOp.mov (Operand.tmp 8)) none]) AC.ret)) [ARes.tmp 2]
theorem cfn84 : cfn Try.prog 84 1 = some c84 := by kernel_rfl
def c85 : AFn :=
  AFn.mk 35 (AC.seq (AC.ops [AOper.mk (some 3) (AOp.box 99 (Operand.tmp 0)) none]) (AC.seq (AC.segs [([AOper.mk (some 5) (AOp.fadr 2 (Operand.tmp 3))
  none, AOper.mk (some 6) (AOp.load false 1 (Operand.tmp 5)) none, AOper.mk (some 7) (AOp.load false 1 (Operand.tmp 1)) none, AOper.mk (some 8) (AOp.fadr
  0 (Operand.tmp 3)) none, AOper.mk (some 9) (AOp.load false 1 (Operand.tmp 8)) none, AOper.mk (some 10) (AOp.iadr 1 (Operand.tmp 7) (Operand.tmp 9))
  none, AOper.mk (some 11) (AOp.load false 1 (Operand.tmp 10)) none, AOper.mk (some 12) (AOp.load false 1 (Operand.tmp 1)) none, AOper.mk (some 13)
  (AOp.fadr 1 (Operand.tmp 3)) none, AOper.mk (some 14) (AOp.load false 1 (Operand.tmp 13)) none, AOper.mk (some 15) (AOp.iadr 1 (Operand.tmp 12)
  (Operand.tmp 14)) none, AOper.mk (some 16) (AOp.load false 1 (Operand.tmp 15)) none, AOper.mk (some 17) (AOp.bin false BinOp.sub (Operand.tmp 11)
  (Operand.tmp 16)) none, AOper.mk (some 18) (AOp.bin false BinOp.mul (Operand.tmp 6) (Operand.tmp 17)) none, AOper.mk (some 4) (AOp.mov (Operand.tmp
  18)) none], none)]) (AC.seq (AC.ops [AOper.mk (some 19) (AOp.load false 1 (Operand.tmp 2)) none, AOper.mk (some 20) (AOp.fadr 0 (Operand.tmp 3)) none,
  AOper.mk (some 21) (AOp.load false 1 (Operand.tmp 20)) none, AOper.mk (some 22) (AOp.iadr 1 (Operand.tmp 19) (Operand.tmp 21)) none, AOper.mk (some 23)
  (AOp.load false 1 (Operand.tmp 22)) none, AOper.mk (some 24) (AOp.mov (Operand.tmp 4)) none, AOper.mk (some 25) (AOp.bin false BinOp.sub (Operand.tmp
  23) (Operand.tmp 24)) none, AOper.mk (some 26) (AOp.iadr 1 (Operand.tmp 19) (Operand.tmp 21)) none, AOper.mk none (AOp.store 1 (Operand.tmp 26)
  (Operand.tmp 25)) none]) (AC.ops [AOper.mk (some 27) (AOp.load false 1 (Operand.tmp 2)) none, AOper.mk (some 28) (AOp.fadr 1 (Operand.tmp 3)) none,
  AOper.mk (some 29) (AOp.load false 1 (Operand.tmp 28)) none, AOper.mk (some 30) (AOp.iadr 1 (Operand.tmp 27) (Operand.tmp 29)) none, AOper.mk (some 31)
  (AOp.load false 1 (Operand.tmp 30)) none, AOper.mk (some 32) (AOp.mov (Operand.tmp 4)) none, AOper.mk (some 33) (AOp.bin false BinOp.add (Operand.tmp
  31) (Operand.tmp 32)) none, AOper.mk (some 34) (AOp.iadr 1 (Operand.tmp 27) (Operand.tmp 29)) none, AOper.mk none (AOp.store 1 (Operand.tmp 34)
  (Operand.tmp 33)) none])))) []
theorem cfn85 : cfn Try.prog 85 3 = some c85 := by kernel_rfl
def c86 : AFn :=
  AFn.mk 9 (AC.seq (AC.ops [AOper.mk (some 2) (AOp.mov (Operand.const (Value.bool false))) none]) (AC.seq (AC.ops [AOper.mk (some 3) (AOp.mov
  (Operand.tmp 0)) none, AOper.mk (some 4) (AOp.bin false BinOp.geq (Operand.tmp 3) (Operand.const (Value.int IntKind.i64 (-1048576)))) none, AOper.mk
  (some 5) (AOp.mov (Operand.tmp 4)) none, AOper.mk (some 6) (AOp.mov (Operand.tmp 0)) (some (5, true)), AOper.mk (some 7) (AOp.bin false BinOp.leq
  (Operand.tmp 6) (Operand.const (Value.int IntKind.i64 1048576))) (some (5, true)), AOper.mk (some 8) (AOp.pick (Operand.tmp 5) (Operand.tmp 7)
  (Operand.const (Value.bool false))) none, AOper.mk (some 2) (AOp.mov (Operand.tmp 8)) none]) AC.ret)) [ARes.tmp 2]
theorem cfn86 : cfn Try.prog 86 1 = some c86 := by kernel_rfl
def c87 : AFn :=
  AFn.mk 37 (AC.seq (AC.ops [AOper.mk (some 3) (AOp.box 24 (Operand.tmp 0)) none, AOper.mk (some 6) (AOp.mov (Operand.const (Value.int IntKind.i64 0)))
  none]) (AC.seq (AC.seq (AC.ops [AOper.mk (some 7) (AOp.mov (Operand.const (Value.int IntKind.i64 0))) none]) (AC.block 0 (AC.loop (AC.seq (AC.seq
  (AC.ops [AOper.mk (some 9) (AOp.mov (Operand.tmp 7)) none, AOper.mk (some 10) (AOp.fadr 1 (Operand.tmp 3)) none, AOper.mk (some 11) (AOp.load false 1
  (Operand.tmp 10)) none, AOper.mk (some 12) (AOp.len (Operand.tmp 11)) none, AOper.mk (some 13) (AOp.bin false BinOp.lss (Operand.tmp 9) (Operand.tmp
  12)) none]) (AC.cond (Operand.tmp 13) AC.skip (AC.exit 0))) (AC.seq (AC.block 1 (AC.seq (AC.ops [AOper.mk (some 16) (AOp.fadr 1 (Operand.tmp 3)) none,
  AOper.mk (some 17) (AOp.load false 1 (Operand.tmp 16)) none, AOper.mk (some 18) (AOp.mov (Operand.tmp 7)) none, AOper.mk (some 19) (AOp.iadr 3
  (Operand.tmp 17) (Operand.tmp 18)) none, AOper.mk (some 20) (AOp.load true 3 (Operand.tmp 19)) none, AOper.mk (some 8) (AOp.zro 99 (PV.agg [PV.v
  (Value.int IntKind.i64 0), PV.v (Value.int IntKind.i64 0), PV.v (Value.int IntKind.i64 0)])) none, AOper.mk none (AOp.store 3 (Operand.tmp 8)
  (Operand.tmp 20)) none]) (AC.seq (AC.ops [AOper.mk (some 21) (AOp.fadr 0 (Operand.tmp 8)) none, AOper.mk (some 22) (AOp.load false 1 (Operand.tmp 21))
  none, AOper.mk (some 23) (AOp.mov (Operand.tmp 1)) none, AOper.mk (some 24) (AOp.mov (Operand.tmp 2)) none, AOper.mk (some 25) (AOp.mm false
  (Operand.tmp 23) (Operand.tmp 24)) none, AOper.mk (some 26) (AOp.bin false BinOp.eql (Operand.tmp 22) (Operand.tmp 25)) none, AOper.mk (some 27)
  (AOp.mov (Operand.tmp 26)) none, AOper.mk (some 28) (AOp.fadr 1 (Operand.tmp 8)) (some (27, true)), AOper.mk (some 29) (AOp.load false 1 (Operand.tmp
  28)) (some (27, true)), AOper.mk (some 30) (AOp.mov (Operand.tmp 1)) (some (27, true)), AOper.mk (some 31) (AOp.mov (Operand.tmp 2)) (some (27, true)),
  AOper.mk (some 32) (AOp.mm true (Operand.tmp 30) (Operand.tmp 31)) (some (27, true)), AOper.mk (some 33) (AOp.bin false BinOp.eql (Operand.tmp 29)
  (Operand.tmp 32)) (some (27, true)), AOper.mk (some 34) (AOp.pick (Operand.tmp 27) (Operand.tmp 33) (Operand.const (Value.bool false))) none]) (AC.cond
  (Operand.tmp 34) (AC.seq (AC.ops [AOper.mk (some 35) (AOp.fadr 2 (Operand.tmp 8)) none, AOper.mk (some 36) (AOp.load false 1 (Operand.tmp 35)) none,
  AOper.mk (some 6) (AOp.mov (Operand.tmp 36)) none]) AC.ret) AC.skip)))) (AC.ops [AOper.mk (some 14) (AOp.mov (Operand.tmp 7)) none, AOper.mk (some 15)
  (AOp.bin false BinOp.add (Operand.tmp 14) (Operand.const (Value.int IntKind.i64 1))) none, AOper.mk (some 7) (AOp.mov (Operand.tmp 15)) none]))))))
  (AC.seq (AC.ops [AOper.mk (some 6) (AOp.mov (Operand.const (Value.int IntKind.i64 0))) none]) AC.ret))) [ARes.tmp 6]
theorem cfn87 : cfn Try.prog 87 3 = some c87 := by kernel_rfl
def c88 : AFn :=
  AFn.mk 27 (AC.seq (AC.ops [AOper.mk (some 4) (AOp.mov (Operand.const (Value.int IntKind.i64 0))) none]) (AC.seq (AC.seq (AC.ops [AOper.mk (some 8)
  (AOp.mov (Operand.tmp 1)) none, AOper.mk (some 9) (AOp.call 100 [Operand.tmp 8]) none, AOper.mk (some 5) (AOp.mov (Operand.tmp 9)) none]) (AC.seq
  (AC.ops [AOper.mk (some 10) (AOp.mov (Operand.tmp 5)) none, AOper.mk (some 11) (AOp.bin false BinOp.neq (Operand.tmp 10) (Operand.const (Value.int
  IntKind.i64 0))) none]) (AC.cond (Operand.tmp 11) (AC.seq (AC.ops [AOper.mk (some 12) (AOp.mov (Operand.tmp 5)) none, AOper.mk (some 4) (AOp.mov
  (Operand.tmp 12)) none]) AC.ret) AC.skip))) (AC.seq (AC.seq (AC.ops [AOper.mk (some 13) (AOp.mov (Operand.tmp 0)) none, AOper.mk (some 14) (AOp.len
  (Operand.tmp 13)) none, AOper.mk (some 15) (AOp.mov (Operand.tmp 1)) none, AOper.mk (some 16) (AOp.bin false BinOp.neq (Operand.tmp 14) (Operand.tmp
  15)) none]) (AC.cond (Operand.tmp 16) (AC.seq (AC.ops [AOper.mk (some 4) (AOp.mov (Operand.const (Value.int IntKind.i64 8))) none]) AC.ret) AC.skip))
  (AC.seq (AC.seq (AC.ops [AOper.mk (some 17) (AOp.mov (Operand.tmp 0)) none, AOper.mk (some 18) (AOp.len (Operand.tmp 17)) none, AOper.mk (some 19)
  (AOp.mov (Operand.const (Value.int IntKind.i64 0))) none]) (AC.block 0 (AC.loop (AC.seq (AC.ops [AOper.mk (some 20) (AOp.bin false BinOp.lss
  (Operand.tmp 19) (Operand.tmp 18)) none]) (AC.seq (AC.cond (Operand.tmp 20) AC.skip (AC.exit 0)) (AC.seq (AC.block 1 (AC.seq (AC.ops [AOper.mk (some
  21) (AOp.iadr 1 (Operand.tmp 17) (Operand.tmp 19)) none, AOper.mk (some 22) (AOp.load false 1 (Operand.tmp 21)) none, AOper.mk (some 7) (AOp.mov
  (Operand.tmp 22)) none]) (AC.seq (AC.ops [AOper.mk (some 23) (AOp.mov (Operand.tmp 7)) none, AOper.mk (some 24) (AOp.call 101 [Operand.tmp 23]) none,
  AOper.mk (some 25) (AOp.un UnOp.not (Operand.tmp 24)) none]) (AC.cond (Operand.tmp 25) (AC.seq (AC.ops [AOper.mk (some 4) (AOp.mov (Operand.const
  (Value.int IntKind.i64 2))) none]) AC.ret) AC.skip)))) (AC.ops [AOper.mk (some 26) (AOp.bin false BinOp.add (Operand.tmp 19) (Operand.const (Value.int
  IntKind.i64 1))) none, AOper.mk (some 19) (AOp.mov (Operand.tmp 26)) none]))))))) (AC.seq (AC.ops [AOper.mk (some 4) (AOp.mov (Operand.const (Value.int
  IntKind.i64 0))) none]) AC.ret))))) [ARes.tmp 4]
theorem cfn88 : cfn Try.prog 88 2 = some c88 := by kernel_rfl
def c89 : AFn :=
  AFn.mk 66 (AC.seq (AC.ops [AOper.mk (some 2) (AOp.box 24 (Operand.tmp 0)) none, AOper.mk (some 4) (AOp.mov (Operand.const (Value.int IntKind.i64 0)))
  none]) (AC.seq (AC.ops [AOper.mk (some 7) (AOp.fadr 1 (Operand.tmp 2)) none, AOper.mk (some 8) (AOp.load false 1 (Operand.tmp 7)) none, AOper.mk (some
  9) (AOp.mov (Operand.tmp 1)) none, AOper.mk (some 10) (AOp.iadr 3 (Operand.tmp 8) (Operand.tmp 9)) none, AOper.mk (some 11) (AOp.load true 3
  (Operand.tmp 10)) none, AOper.mk (some 5) (AOp.zro 99 (PV.agg [PV.v (Value.int IntKind.i64 0), PV.v (Value.int IntKind.i64 0), PV.v (Value.int
  IntKind.i64 0)])) none, AOper.mk none (AOp.store 3 (Operand.tmp 5) (Operand.tmp 11)) none]) (AC.seq (AC.seq (AC.ops [AOper.mk (some 12) (AOp.load true
  2 (Operand.tmp 2)) none, AOper.mk (some 13) (AOp.fadr 0 (Operand.tmp 5)) none, AOper.mk (some 14) (AOp.load false 1 (Operand.tmp 13)) none, AOper.mk
  (some 15) (AOp.call 61 [Operand.tmp 12, Operand.tmp 14]) none, AOper.mk (some 16) (AOp.un UnOp.not (Operand.tmp 15)) none, AOper.mk (some 17) (AOp.mov
  (Operand.tmp 16)) none, AOper.mk (some 18) (AOp.load true 2 (Operand.tmp 2)) (some (17, false)), AOper.mk (some 19) (AOp.fadr 1 (Operand.tmp 5)) (some
  (17, false)), AOper.mk (some 20) (AOp.load false 1 (Operand.tmp 19)) (some (17, false)), AOper.mk (some 21) (AOp.call 61 [Operand.tmp 18, Operand.tmp
  20]) (some (17, false)), AOper.mk (some 22) (AOp.un UnOp.not (Operand.tmp 21)) (some (17, false)), AOper.mk (some 23) (AOp.pick (Operand.tmp 17)
  (Operand.const (Value.bool true)) (Operand.tmp 22)) none, AOper.mk (some 24) (AOp.mov (Operand.tmp 23)) none, AOper.mk (some 25) (AOp.fadr 2
  (Operand.tmp 5)) (some (24, false)), AOper.mk (some 26) (AOp.load false 1 (Operand.tmp 25)) (some (24, false)), AOper.mk (some 27) (AOp.bin false
  BinOp.lss (Operand.tmp 26) (Operand.const (Value.int IntKind.i64 1))) (some (24, false)), AOper.mk (some 28) (AOp.pick (Operand.tmp 24) (Operand.const
  (Value.bool true)) (Operand.tmp 27)) none, AOper.mk (some 29) (AOp.mov (Operand.tmp 28)) none, AOper.mk (some 30) (AOp.fadr 2 (Operand.tmp 5)) (some
  (29, false)), AOper.mk (some 31) (AOp.load false 1 (Operand.tmp 30)) (some (29, false)), AOper.mk (some 32) (AOp.bin false BinOp.gtr (Operand.tmp 31)
  (Operand.const (Value.int IntKind.i64 50))) (some (29, false)), AOper.mk (some 33) (AOp.pick (Operand.tmp 29) (Operand.const (Value.bool true))
  (Operand.tmp 32)) none]) (AC.cond (Operand.tmp 33) (AC.seq (AC.ops [AOper.mk (some 4) (AOp.mov (Operand.const (Value.int IntKind.i64 2))) none])
  AC.ret) AC.skip)) (AC.seq (AC.seq (AC.ops [AOper.mk (some 34) (AOp.fadr 0 (Operand.tmp 5)) none, AOper.mk (some 35) (AOp.load false 1 (Operand.tmp 34))
  none, AOper.mk (some 36) (AOp.fadr 1 (Operand.tmp 5)) none, AOper.mk (some 37) (AOp.load false 1 (Operand.tmp 36)) none, AOper.mk (some 38) (AOp.bin
  false BinOp.gtr (Operand.tmp 35) (Operand.tmp 37)) none]) (AC.cond (Operand.tmp 38) (AC.seq (AC.ops [AOper.mk (some 4) (AOp.mov (Operand.const
  (Value.int IntKind.i64 9))) none]) AC.ret) AC.skip)) (AC.seq (AC.seq (AC.ops [AOper.mk (some 39) (AOp.mov (Operand.tmp 1)) none, AOper.mk (some 40)
  (AOp.bin false BinOp.gtr (Operand.tmp 39) (Operand.const (Value.int IntKind.i64 0))) none]) (AC.cond (Operand.tmp 40) (AC.seq (AC.ops [AOper.mk (some
  41) (AOp.fadr 1 (Operand.tmp 2)) none, AOper.mk (some 42) (AOp.load false 1 (Operand.tmp 41)) none, AOper.mk (some 43) (AOp.mov (Operand.tmp 1)) none,
  AOper.mk (some 44) (AOp.bin false BinOp.sub (Operand.tmp 43) (Operand.const (Value.int IntKind.i64 1))) none, AOper.mk (some 45) (AOp.iadr 3
  (Operand.tmp 42) (Operand.tmp 44)) none, AOper.mk (some 46) (AOp.load true 3 (Operand.tmp 45)) none, AOper.mk (some 6) (AOp.zro 99 (PV.agg [PV.v
  (Value.int IntKind.i64 0), PV.v (Value.int IntKind.i64 0), PV.v (Value.int IntKind.i64 0)])) none, AOper.mk none (AOp.store 3 (Operand.tmp 6)
  (Operand.tmp 46)) none]) (AC.seq (AC.ops [AOper.mk (some 47) (AOp.fadr 0 (Operand.tmp 5)) none, AOper.mk (some 48) (AOp.load false 1 (Operand.tmp 47))
  none, AOper.mk (some 49) (AOp.fadr 0 (Operand.tmp 6)) none, AOper.mk (some 50) (AOp.load false 1 (Operand.tmp 49)) none, AOper.mk (some 51) (AOp.bin
  false BinOp.lss (Operand.tmp 48) (Operand.tmp 50)) none, AOper.mk (some 52) (AOp.mov (Operand.tmp 51)) none, AOper.mk (some 53) (AOp.fadr 0
  (Operand.tmp 5)) (some (52, false)), AOper.mk (some 54) (AOp.load false 1 (Operand.tmp 53)) (some (52, false)), AOper.mk (some 55) (AOp.fadr 0
  (Operand.tmp 6)) (some (52, false)), AOper.mk (some 56) (AOp.load false 1 (Operand.tmp 55)) (some (52, false)), AOper.mk (some 57) (AOp.bin false
  BinOp.eql (Operand.tmp 54) (Operand.tmp 56)) (some (52, false)), AOper.mk (some 58) (AOp.mov (Operand.tmp 57)) (some (52, false)), AOper.mk (some 59)
  (AOp.fadr 1 (Operand.tmp 5)) (some (58, true)), AOper.mk (some 60) (AOp.load false 1 (Operand.tmp 59)) (some (58, true)), AOper.mk (some 61) (AOp.fadr
  1 (Operand.tmp 6)) (some (58, true)), AOper.mk (some 62) (AOp.load false 1 (Operand.tmp 61)) (some (58, true)), AOper.mk (some 63) (AOp.bin false
  BinOp.leq (Operand.tmp 60) (Operand.tmp 62)) (some (58, true)), AOper.mk (some 64) (AOp.pick (Operand.tmp 58) (Operand.tmp 63) (Operand.const
  (Value.bool false))) (some (52, false)), AOper.mk (some 65) (AOp.pick (Operand.tmp 52) (Operand.const (Value.bool true)) (Operand.tmp 64)) none])
  (AC.cond (Operand.tmp 65) (AC.seq (AC.ops [AOper.mk (some 4) (AOp.mov (Operand.const (Value.int IntKind.i64 9))) none]) AC.ret) AC.skip))) AC.skip))
  (AC.seq (AC.ops [AOper.mk (some 4) (AOp.mov (Operand.const (Value.int IntKind.i64 0))) none]) AC.ret)))))) [ARes.tmp 4]
theorem cfn89 : cfn Try.prog 89 2 = some c89 := by kernel_rfl
def c90 : AFn :=
  AFn.mk 37 (AC.seq (AC.ops [AOper.mk (some 2) (AOp.box 24 (Operand.tmp 0)) none, AOper.mk (some 4) (AOp.mov (Operand.const (Value.int IntKind.i64 0)))
  none]) (AC.seq (AC.seq (AC.ops [AOper.mk (some 8) (AOp.load true 2 (Operand.tmp 2)) none, AOper.mk (some 9) (AOp.call 80 [Operand.tmp 8]) none,
  AOper.mk (some 5) (AOp.mov (Operand.tmp 9)) none]) (AC.seq (AC.ops [AOper.mk (some 10) (AOp.mov (Operand.tmp 5)) none, AOper.mk (some 11) (AOp.bin
  false BinOp.neq (Operand.tmp 10) (Operand.const (Value.int IntKind.i64 0))) none]) (AC.cond (Operand.tmp 11) (AC.seq (AC.ops [AOper.mk (some 12)
  (AOp.mov (Operand.tmp 5)) none, AOper.mk (some 4) (AOp.mov (Operand.tmp 12)) none]) AC.ret) AC.skip))) (AC.seq (AC.seq (AC.ops [AOper.mk (some 13)
  (AOp.mov (Operand.tmp 1)) none, AOper.mk (some 14) (AOp.len (Operand.tmp 13)) none, AOper.mk (some 15) (AOp.mov (Operand.const (Value.int IntKind.i64
  0))) none]) (AC.block 0 (AC.loop (AC.seq (AC.ops [AOper.mk (some 16) (AOp.bin false BinOp.lss (Operand.tmp 15) (Operand.tmp 14)) none]) (AC.seq
  (AC.cond (Operand.tmp 16) AC.skip (AC.exit 0)) (AC.seq (AC.block 1 (AC.seq (AC.ops [AOper.mk (some 17) (AOp.mov (Operand.tmp 15)) none, AOper.mk (some
  18) (AOp.iadr 1 (Operand.tmp 13) (Operand.tmp 15)) none, AOper.mk (some 19) (AOp.load false 1 (Operand.tmp 18)) none, AOper.mk (some 6) (AOp.mov
  (Operand.tmp 17)) none, AOper.mk (some 7) (AOp.mov (Operand.tmp 19)) none]) (AC.seq (AC.seq (AC.ops [AOper.mk (some 20) (AOp.fadr 0 (Operand.tmp 2))
  none, AOper.mk (some 21) (AOp.load false 1 (Operand.tmp 20)) none, AOper.mk (some 22) (AOp.mov (Operand.tmp 7)) none, AOper.mk (some 23) (AOp.call 96
  [Operand.tmp 21, Operand.tmp 22]) none, AOper.mk (some 24) (AOp.un UnOp.not (Operand.tmp 23)) none]) (AC.cond (Operand.tmp 24) (AC.seq (AC.ops
  [AOper.mk (some 4) (AOp.mov (Operand.const (Value.int IntKind.i64 2))) none]) AC.ret) AC.skip)) (AC.seq (AC.ops [AOper.mk (some 25) (AOp.mov
  (Operand.tmp 6)) none, AOper.mk (some 26) (AOp.bin false BinOp.gtr (Operand.tmp 25) (Operand.const (Value.int IntKind.i64 0))) none, AOper.mk (some 27)
  (AOp.mov (Operand.tmp 26)) none, AOper.mk (some 28) (AOp.mov (Operand.tmp 7)) (some (27, true)), AOper.mk (some 29) (AOp.mov (Operand.tmp 1)) (some
  (27, true)), AOper.mk (some 30) (AOp.mov (Operand.tmp 6)) (some (27, true)), AOper.mk (some 31) (AOp.bin false BinOp.sub (Operand.tmp 30)
  (Operand.const (Value.int IntKind.i64 1))) (some (27, true)), AOper.mk (some 32) (AOp.iadr 1 (Operand.tmp 29) (Operand.tmp 31)) (some (27, true)),
  AOper.mk (some 33) (AOp.load false 1 (Operand.tmp 32)) (some (27, true)), AOper.mk (some 34) (AOp.bin false BinOp.leq (Operand.tmp 28) (Operand.tmp
  33)) (some (27, true)), AOper.mk (some 35) (AOp.pick (Operand.tmp 27) (Operand.tmp 34) (Operand.const (Value.bool false))) none]) (AC.cond (Operand.tmp
  35) (AC.seq (AC.ops [AOper.mk (some 4) (AOp.mov (Operand.const (Value.int IntKind.i64 9))) none]) AC.ret) AC.skip))))) (AC.ops [AOper.mk (some 36)
  (AOp.bin false BinOp.add (Operand.tmp 15) (Operand.const (Value.int IntKind.i64 1))) none, AOper.mk (some 15) (AOp.mov (Operand.tmp 36)) none])))))))
  (AC.seq (AC.ops [AOper.mk (some 4) (AOp.mov (Operand.const (Value.int IntKind.i64 0))) none]) AC.ret)))) [ARes.tmp 4]
theorem cfn90 : cfn Try.prog 90 2 = some c90 := by kernel_rfl
def c91 : AFn :=
  AFn.mk 19 (AC.seq (AC.ops [AOper.mk (some 4) (AOp.mov (Operand.const (Value.int IntKind.i64 0))) none]) (AC.seq (AC.seq (AC.ops [AOper.mk (some 6)
  (AOp.mov (Operand.tmp 0)) none, AOper.mk (some 7) (AOp.len (Operand.tmp 6)) none, AOper.mk (some 8) (AOp.mov (Operand.const (Value.int IntKind.i64 0)))
  none]) (AC.block 0 (AC.loop (AC.seq (AC.ops [AOper.mk (some 9) (AOp.bin false BinOp.lss (Operand.tmp 8) (Operand.tmp 7)) none]) (AC.seq (AC.cond
  (Operand.tmp 9) AC.skip (AC.exit 0)) (AC.seq (AC.block 1 (AC.seq (AC.ops [AOper.mk (some 10) (AOp.mov (Operand.tmp 8)) none, AOper.mk (some 5) (AOp.mov
  (Operand.tmp 10)) none]) (AC.seq (AC.ops [AOper.mk (some 11) (AOp.mov (Operand.tmp 1)) none, AOper.mk (some 12) (AOp.mov (Operand.tmp 0)) none,
  AOper.mk (some 13) (AOp.mov (Operand.tmp 5)) none, AOper.mk (some 14) (AOp.iadr 1 (Operand.tmp 12) (Operand.tmp 13)) none, AOper.mk (some 15) (AOp.load
  false 1 (Operand.tmp 14)) none, AOper.mk (some 16) (AOp.callv (Operand.tmp 11) [Operand.tmp 15]) none]) (AC.cond (Operand.tmp 16) (AC.seq (AC.ops
  [AOper.mk (some 17) (AOp.mov (Operand.tmp 5)) none, AOper.mk (some 4) (AOp.mov (Operand.tmp 17)) none]) AC.ret) AC.skip)))) (AC.ops [AOper.mk (some 18)
  (AOp.bin false BinOp.add (Operand.tmp 8) (Operand.const (Value.int IntKind.i64 1))) none, AOper.mk (some 8) (AOp.mov (Operand.tmp 18)) none])))))))
  (AC.seq (AC.ops [AOper.mk (some 4) (AOp.mov (Operand.const (Value.int IntKind.i64 (-1)))) none]) AC.ret))) [ARes.tmp 4]
theorem cfn91 : cfn Try.prog 91 2 = some c91 := by kernel_rfl
def c92 : AFn :=
  AFn.mk 47 (AC.seq (AC.ops [AOper.mk (some 2) (AOp.box 24 (Operand.tmp 0)) none, AOper.mk (some 4) (AOp.mov (Operand.const (Value.int IntKind.i64 0)))
  none, AOper.mk (some 5) (AOp.mov (Operand.const (Value.int IntKind.i64 0))) none]) (AC.seq (AC.seq (AC.ops [AOper.mk (some 10) (AOp.load true 2
  (Operand.tmp 2)) none, AOper.mk (some 11) (AOp.mov (Operand.tmp 1)) none, AOper.mk (some 12) (AOp.bsl 3 1 [Operand.tmp 11]) none, AOper.mk (some 13)
  (AOp.call 102 [Operand.tmp 10, Operand.tmp 12]) none, AOper.mk (some 6) (AOp.mov (Operand.tmp 13)) none]) (AC.seq (AC.ops [AOper.mk (some 14) (AOp.mov
  (Operand.tmp 6)) none, AOper.mk (some 15) (AOp.bin false BinOp.neq (Operand.tmp 14) (Operand.const (Value.int IntKind.i64 0))) none]) (AC.cond
  (Operand.tmp 15) (AC.seq (AC.ops [AOper.mk (some 16) (AOp.mov (Operand.tmp 6)) none, AOper.mk (some 4) (AOp.mov (Operand.const (Value.int IntKind.i64
  0))) none, AOper.mk (some 5) (AOp.mov (Operand.tmp 16)) none]) AC.ret) AC.skip))) (AC.seq (AC.ops [AOper.mk (some 7) (AOp.mov (Operand.const (Value.int
  IntKind.i64 0))) none]) (AC.seq (AC.seq (AC.ops [AOper.mk (some 17) (AOp.fadr 1 (Operand.tmp 2)) none, AOper.mk (some 18) (AOp.load false 1
  (Operand.tmp 17)) none, AOper.mk (some 19) (AOp.len (Operand.tmp 18)) none, AOper.mk (some 20) (AOp.mov (Operand.const (Value.int IntKind.i64 0)))
  none]) (AC.block 0 (AC.loop (AC.seq (AC.ops [AOper.mk (some 21) (AOp.bin false BinOp.lss (Operand.tmp 20) (Operand.tmp 19)) none]) (AC.seq (AC.cond
  (Operand.tmp 21) AC.skip (AC.exit 0)) (AC.seq (AC.block 1 (AC.seq (AC.ops [AOper.mk (some 22) (AOp.iadr 3 (Operand.tmp 18) (Operand.tmp 20)) none,
  AOper.mk (some 23) (AOp.load true 3 (Operand.tmp 22)) none, AOper.mk (some 9) (AOp.zro 99 (PV.agg [PV.v (Value.int IntKind.i64 0), PV.v (Value.int
  IntKind.i64 0), PV.v (Value.int IntKind.i64 0)])) none, AOper.mk none (AOp.store 3 (Operand.tmp 9) (Operand.tmp 23)) none]) (AC.seq (AC.ops [AOper.mk
  (some 24) (AOp.fadr 0 (Operand.tmp 9)) none, AOper.mk (some 25) (AOp.load false 1 (Operand.tmp 24)) none, AOper.mk (some 26) (AOp.fadr 1 (Operand.tmp
  9)) none, AOper.mk (some 27) (AOp.load false 1 (Operand.tmp 26)) none, AOper.mk (some 28) (AOp.bin false BinOp.neq (Operand.tmp 25) (Operand.tmp 27))
  none, AOper.mk (some 29) (AOp.mov (Operand.tmp 28)) none, AOper.mk (some 30) (AOp.fadr 0 (Operand.tmp 9)) (some (29, true)), AOper.mk (some 31)
  (AOp.load false 1 (Operand.tmp 30)) (some (29, true)), AOper.mk (some 32) (AOp.mov (Operand.tmp 1)) (some (29, true)), AOper.mk (some 33) (AOp.bin
  false BinOp.eql (Operand.tmp 31) (Operand.tmp 32)) (some (29, true)), AOper.mk (some 34) (AOp.mov (Operand.tmp 33)) (some (29, true)), AOper.mk (some
  35) (AOp.fadr 1 (Operand.tmp 9)) (some (34, false)), AOper.mk (some 36) (AOp.load false 1 (Operand.tmp 35)) (some (34, false)), AOper.mk (some 37)
  (AOp.mov (Operand.tmp 1)) (some (34, false)), AOper.mk (some 38) (AOp.bin false BinOp.eql (Operand.tmp 36) (Operand.tmp 37)) (some (34, false)),
  AOper.mk (some 39) (AOp.pick (Operand.tmp 34) (Operand.const (Value.bool true)) (Operand.tmp 38)) (some (29, true)), AOper.mk (some 40) (AOp.pick
  (Operand.tmp 29) (Operand.tmp 39) (Operand.const (Value.bool false))) none]) (AC.cond (Operand.tmp 40) (AC.ops [AOper.mk (some 41) (AOp.mov
  (Operand.tmp 7)) none, AOper.mk (some 42) (AOp.fadr 2 (Operand.tmp 9)) none, AOper.mk (some 43) (AOp.load false 1 (Operand.tmp 42)) none, AOper.mk
  (some 44) (AOp.bin false BinOp.add (Operand.tmp 41) (Operand.tmp 43)) none, AOper.mk (some 7) (AOp.mov (Operand.tmp 44)) none]) AC.skip)))) (AC.ops
  [AOper.mk (some 45) (AOp.bin false BinOp.add (Operand.tmp 20) (Operand.const (Value.int IntKind.i64 1))) none, AOper.mk (some 20) (AOp.mov (Operand.tmp
  45)) none]))))))) (AC.seq (AC.ops [AOper.mk (some 46) (AOp.mov (Operand.tmp 7)) none, AOper.mk (some 4) (AOp.mov (Operand.tmp 46)) none, AOper.mk (some
  5) (AOp.mov (Operand.const (Value.int IntKind.i64 0))) none]) AC.ret))))) [ARes.tmp 4, ARes.tmp 5]
theorem cfn92 : cfn Try.prog 92 2 = some c92 := by kernel_rfl
def c93 : AFn :=
  AFn.mk 23 (AC.seq (AC.ops [AOper.mk (some 2) (AOp.box 24 (Operand.tmp 0)) none, AOper.mk (some 4) (AOp.mov (Operand.const (Value.int IntKind.i64 0)))
  none]) (AC.seq (AC.ops [AOper.mk (some 5) (AOp.mov (Operand.const (Value.int IntKind.i64 0))) none]) (AC.seq (AC.seq (AC.ops [AOper.mk (some 6)
  (AOp.mov (Operand.const (Value.int IntKind.i64 0))) none]) (AC.block 0 (AC.loop (AC.seq (AC.seq (AC.ops [AOper.mk (some 7) (AOp.mov (Operand.tmp 6))
  none, AOper.mk (some 8) (AOp.fadr 0 (Operand.tmp 2)) none, AOper.mk (some 9) (AOp.load false 1 (Operand.tmp 8)) none, AOper.mk (some 10) (AOp.bin false
  BinOp.lss (Operand.tmp 7) (Operand.tmp 9)) none]) (AC.cond (Operand.tmp 10) AC.skip (AC.exit 0))) (AC.seq (AC.block 1 (AC.seq (AC.ops [AOper.mk (some
  13) (AOp.mov (Operand.tmp 6)) none, AOper.mk (some 14) (AOp.mov (Operand.tmp 1)) none, AOper.mk (some 15) (AOp.bin false BinOp.neq (Operand.tmp 13)
  (Operand.tmp 14)) none]) (AC.cond (Operand.tmp 15) (AC.ops [AOper.mk (some 16) (AOp.mov (Operand.tmp 5)) none, AOper.mk (some 17) (AOp.load true 2
  (Operand.tmp 2)) none, AOper.mk (some 18) (AOp.mov (Operand.tmp 6)) none, AOper.mk (some 19) (AOp.mov (Operand.tmp 1)) none, AOper.mk (some 20)
  (AOp.call 87 [Operand.tmp 17, Operand.tmp 18, Operand.tmp 19]) none, AOper.mk (some 21) (AOp.bin false BinOp.add (Operand.tmp 16) (Operand.tmp 20))
  none, AOper.mk (some 5) (AOp.mov (Operand.tmp 21)) none]) AC.skip))) (AC.ops [AOper.mk (some 11) (AOp.mov (Operand.tmp 6)) none, AOper.mk (some 12)
  (AOp.bin false BinOp.add (Operand.tmp 11) (Operand.const (Value.int IntKind.i64 1))) none, AOper.mk (some 6) (AOp.mov (Operand.tmp 12)) none]))))))
  (AC.seq (AC.ops [AOper.mk (some 22) (AOp.mov (Operand.tmp 5)) none, AOper.mk (some 4) (AOp.mov (Operand.tmp 22)) none]) AC.ret)))) [ARes.tmp 4]
theorem cfn93 : cfn Try.prog 93 2 = some c93 := by kernel_rfl
def c94 : AFn :=
  AFn.mk 26 (AC.seq (AC.ops [AOper.mk (some 3) (AOp.box 24 (Operand.tmp 0)) none, AOper.mk (some 6) (AOp.mov (Operand.const (Value.int IntKind.i64 0)))
  none]) (AC.seq (AC.ops [AOper.mk (some 7) (AOp.mov (Operand.const (Value.int IntKind.i64 0))) none]) (AC.seq (AC.seq (AC.ops [AOper.mk (some 8)
  (AOp.mov (Operand.const (Value.int IntKind.i64 0))) none]) (AC.block 0 (AC.loop (AC.seq (AC.seq (AC.ops [AOper.mk (some 9) (AOp.mov (Operand.tmp 8))
  none, AOper.mk (some 10) (AOp.fadr 0 (Operand.tmp 3)) none, AOper.mk (some 11) (AOp.load false 1 (Operand.tmp 10)) none, AOper.mk (some 12) (AOp.bin
  false BinOp.lss (Operand.tmp 9) (Operand.tmp 11)) none]) (AC.cond (Operand.tmp 12) AC.skip (AC.exit 0))) (AC.seq (AC.block 1 (AC.seq (AC.ops [AOper.mk
  (some 15) (AOp.mov (Operand.tmp 1)) none, AOper.mk (some 16) (AOp.mov (Operand.tmp 8)) none, AOper.mk (some 17) (AOp.call 103 [Operand.tmp 15,
  Operand.tmp 16]) none, AOper.mk (some 18) (AOp.un UnOp.not (Operand.tmp 17)) none]) (AC.cond (Operand.tmp 18) (AC.ops [AOper.mk (some 19) (AOp.mov
  (Operand.tmp 7)) none, AOper.mk (some 20) (AOp.load true 2 (Operand.tmp 3)) none, AOper.mk (some 21) (AOp.mov (Operand.tmp 2)) none, AOper.mk (some 22)
  (AOp.mov (Operand.tmp 8)) none, AOper.mk (some 23) (AOp.call 87 [Operand.tmp 20, Operand.tmp 21, Operand.tmp 22]) none, AOper.mk (some 24) (AOp.bin
  false BinOp.add (Operand.tmp 19) (Operand.tmp 23)) none, AOper.mk (some 7) (AOp.mov (Operand.tmp 24)) none]) AC.skip))) (AC.ops [AOper.mk (some 13)
  (AOp.mov (Operand.tmp 8)) none, AOper.mk (some 14) (AOp.bin false BinOp.add (Operand.tmp 13) (Operand.const (Value.int IntKind.i64 1))) none, AOper.mk
  (some 8) (AOp.mov (Operand.tmp 14)) none])))))) (AC.seq (AC.ops [AOper.mk (some 25) (AOp.mov (Operand.tmp 7)) none, AOper.mk (some 6) (AOp.mov
  (Operand.tmp 25)) none]) AC.ret)))) [ARes.tmp 6]
theorem cfn94 : cfn Try.prog 94 3 = some c94 := by kernel_rfl
def c95 : AFn :=
  AFn.mk 12 (AC.seq (AC.ops [AOper.mk (some 3) (AOp.mov (Operand.const (Value.bool false))) none]) (AC.seq (AC.ops [AOper.mk (some 4) (AOp.mov
  (Operand.tmp 0)) none, AOper.mk (some 5) (AOp.bin false BinOp.lss (Operand.tmp 4) (Operand.const (Value.int IntKind.i64 0))) none, AOper.mk (some 6)
  (AOp.mov (Operand.tmp 5)) none, AOper.mk (some 7) (AOp.mov (Operand.tmp 0)) (some (6, false)), AOper.mk (some 8) (AOp.fadr 0 (Operand.tmp 1)) (some (6,
  false)), AOper.mk (some 9) (AOp.load false 1 (Operand.tmp 8)) (some (6, false)), AOper.mk (some 10) (AOp.bin false BinOp.geq (Operand.tmp 7)
  (Operand.tmp 9)) (some (6, false)), AOper.mk (some 11) (AOp.pick (Operand.tmp 6) (Operand.const (Value.bool true)) (Operand.tmp 10)) none, AOper.mk
  (some 3) (AOp.mov (Operand.tmp 11)) none]) AC.ret)) [ARes.tmp 3]
theorem cfn95 : cfn Try.prog 95 2 = some c95 := by kernel_rfl
end Go.Proofs.Ytjkmhjjfipnbbaa
