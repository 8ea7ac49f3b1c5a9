/-
  The compiled code of the functions (printed by a program of mine).
-/
import Derived.Test.YtheffllmccomiaaMad
import Derived.Test.YtheffllmccomiaaChecked
namespace Go.Proofs.Ytheffllmccomiaa
open Go.Abs
def c3 : AFn :=
  AFn.mk 116 (AC.seq (AC.ops [AOper.mk (some 3) (AOp.box 26 (Operand.tmp 0)) none, AOper.mk (some 4) (AOp.box 29 (Operand.tmp 1)) none, AOper.mk (some 6)
  (AOp.mov (Operand.const (Value.bool false))) none]) (AC.seq (AC.seq (AC.ops [AOper.mk (some 18) (AOp.load true 4 (Operand.tmp 3)) none, AOper.mk (some
  19) (AOp.load true 2 (Operand.tmp 4)) none, AOper.mk (some 20) (AOp.call 11 [Operand.tmp 18, Operand.tmp 19]) none, AOper.mk (some 21) (AOp.un UnOp.not
  (Operand.tmp 20)) none]) (AC.cond (Operand.tmp 21) (AC.seq (AC.ops [AOper.mk (some 22) (AOp.call 12 []) none, AOper.mk (some 6) (AOp.mov (Operand.tmp
  22)) none]) AC.ret) AC.skip)) (AC.seq (AC.ops [AOper.mk (some 23) (AOp.fadr 0 (Operand.tmp 3)) none, AOper.mk (some 24) (AOp.load true 2 (Operand.tmp
  23)) none, AOper.mk (some 25) (AOp.fadr 2 (Operand.tmp 3)) none, AOper.mk (some 26) (AOp.load true 2 (Operand.tmp 25)) none, AOper.mk (some 27)
  (AOp.load true 2 (Operand.tmp 4)) none, AOper.mk (some 28) (AOp.call 13 [Operand.tmp 24, Operand.tmp 26, Operand.tmp 27]) none, AOper.mk (some 7)
  (AOp.mov (Operand.tmp 28)) none]) (AC.seq (AC.ops [AOper.mk (some 30) (AOp.fadr 0 (Operand.tmp 3)) none, AOper.mk (some 31) (AOp.load true 2
  (Operand.tmp 30)) none, AOper.mk (some 32) (AOp.fadr 2 (Operand.tmp 3)) none, AOper.mk (some 33) (AOp.load true 2 (Operand.tmp 32)) none, AOper.mk
  (some 34) (AOp.load true 2 (Operand.tmp 4)) none, AOper.mk (some 35) (AOp.call 14 [Operand.tmp 31, Operand.tmp 33, Operand.tmp 34]) none, AOper.mk
  (some 29) (AOp.mov (Operand.tmp 35)) none, AOper.mk (some 36) (AOp.ext (Operand.tmp 29) 0) none, AOper.mk (some 37) (AOp.ext (Operand.tmp 29) 1) none,
  AOper.mk (some 8) (AOp.mov (Operand.tmp 36)) none, AOper.mk (some 9) (AOp.mov (Operand.tmp 37)) none]) (AC.seq (AC.ops [AOper.mk (some 39) (AOp.fadr 0
  (Operand.tmp 3)) none, AOper.mk (some 40) (AOp.load true 2 (Operand.tmp 39)) none, AOper.mk (some 41) (AOp.fadr 2 (Operand.tmp 3)) none, AOper.mk (some
  42) (AOp.load true 2 (Operand.tmp 41)) none, AOper.mk (some 43) (AOp.load true 2 (Operand.tmp 4)) none, AOper.mk (some 44) (AOp.mov (Operand.tmp 2))
  none, AOper.mk (some 45) (AOp.call 15 [Operand.tmp 40, Operand.tmp 42, Operand.tmp 43, Operand.tmp 44]) none, AOper.mk (some 38) (AOp.mov (Operand.tmp
  45)) none, AOper.mk (some 46) (AOp.ext (Operand.tmp 38) 0) none, AOper.mk (some 47) (AOp.ext (Operand.tmp 38) 1) none, AOper.mk (some 10) (AOp.mov
  (Operand.tmp 46)) none, AOper.mk (some 11) (AOp.mov (Operand.tmp 47)) none]) (AC.seq (AC.ops [AOper.mk (some 49) (AOp.fadr 0 (Operand.tmp 3)) none,
  AOper.mk (some 50) (AOp.load true 2 (Operand.tmp 49)) none, AOper.mk (some 51) (AOp.fadr 2 (Operand.tmp 3)) none, AOper.mk (some 52) (AOp.load true 2
  (Operand.tmp 51)) none, AOper.mk (some 53) (AOp.load true 2 (Operand.tmp 4)) none, AOper.mk (some 54) (AOp.mov (Operand.tmp 2)) none, AOper.mk (some
  55) (AOp.call 16 [Operand.tmp 50, Operand.tmp 52, Operand.tmp 53, Operand.tmp 54]) none, AOper.mk (some 48) (AOp.mov (Operand.tmp 55)) none, AOper.mk
  (some 56) (AOp.ext (Operand.tmp 48) 0) none, AOper.mk (some 57) (AOp.ext (Operand.tmp 48) 1) none, AOper.mk (some 12) (AOp.mov (Operand.tmp 56)) none,
  AOper.mk (some 13) (AOp.mov (Operand.tmp 57)) none]) (AC.seq (AC.ops [AOper.mk (some 59) (AOp.fadr 0 (Operand.tmp 3)) none, AOper.mk (some 60)
  (AOp.load true 2 (Operand.tmp 59)) none, AOper.mk (some 61) (AOp.fadr 2 (Operand.tmp 3)) none, AOper.mk (some 62) (AOp.load true 2 (Operand.tmp 61))
  none, AOper.mk (some 63) (AOp.load true 2 (Operand.tmp 4)) none, AOper.mk (some 64) (AOp.call 17 [Operand.tmp 60, Operand.tmp 62, Operand.tmp 63])
  none, AOper.mk (some 58) (AOp.mov (Operand.tmp 64)) none, AOper.mk (some 65) (AOp.ext (Operand.tmp 58) 0) none, AOper.mk (some 66) (AOp.ext
  (Operand.tmp 58) 1) none, AOper.mk (some 14) (AOp.mov (Operand.tmp 65)) none, AOper.mk (some 15) (AOp.mov (Operand.tmp 66)) none]) (AC.seq (AC.ops
  [AOper.mk (some 68) (AOp.fadr 0 (Operand.tmp 3)) none, AOper.mk (some 69) (AOp.load true 2 (Operand.tmp 68)) none, AOper.mk (some 70) (AOp.fadr 2
  (Operand.tmp 3)) none, AOper.mk (some 71) (AOp.load true 2 (Operand.tmp 70)) none, AOper.mk (some 72) (AOp.load true 2 (Operand.tmp 4)) none, AOper.mk
  (some 73) (AOp.call 18 [Operand.tmp 69, Operand.tmp 71, Operand.tmp 72]) none, AOper.mk (some 67) (AOp.mov (Operand.tmp 73)) none, AOper.mk (some 74)
  (AOp.ext (Operand.tmp 67) 0) none, AOper.mk (some 75) (AOp.ext (Operand.tmp 67) 1) none, AOper.mk (some 16) (AOp.mov (Operand.tmp 74)) none, AOper.mk
  (some 17) (AOp.mov (Operand.tmp 75)) none]) (AC.seq (AC.ops [AOper.mk (some 76) (AOp.call 12 []) none, AOper.mk (some 77) (AOp.mov (Operand.tmp 76))
  none, AOper.mk (some 78) (AOp.mov (Operand.tmp 9)) (some (77, true)), AOper.mk (some 79) (AOp.mov (Operand.tmp 7)) (some (77, true)), AOper.mk (some
  80) (AOp.bin false BinOp.eql (Operand.tmp 78) (Operand.tmp 79)) (some (77, true)), AOper.mk (some 81) (AOp.pick (Operand.tmp 77) (Operand.tmp 80)
  (Operand.const (Value.bool false))) none, AOper.mk (some 82) (AOp.mov (Operand.tmp 81)) none, AOper.mk (some 83) (AOp.mov (Operand.tmp 8)) (some (82,
  true)), AOper.mk (some 84) (AOp.mov (Operand.tmp 7)) (some (82, true)), AOper.mk (some 85) (AOp.bin false BinOp.eql (Operand.tmp 84) (Operand.const
  (Value.int IntKind.i64 0))) (some (82, true)), AOper.mk (some 86) (AOp.mov (Operand.tmp 85)) (some (82, true)), AOper.mk (some 87) (AOp.fadr 0
  (Operand.tmp 3)) (some (86, true)), AOper.mk (some 88) (AOp.load true 2 (Operand.tmp 87)) (some (86, true)), AOper.mk (some 89) (AOp.fadr 2
  (Operand.tmp 3)) (some (86, true)), AOper.mk (some 90) (AOp.load true 2 (Operand.tmp 89)) (some (86, true)), AOper.mk (some 91) (AOp.load true 2
  (Operand.tmp 4)) (some (86, true)), AOper.mk (some 92) (AOp.call 19 [Operand.tmp 88, Operand.tmp 90, Operand.tmp 91]) (some (86, true)), AOper.mk (some
  93) (AOp.pick (Operand.tmp 86) (Operand.tmp 92) (Operand.const (Value.bool false))) (some (82, true)), AOper.mk (some 94) (AOp.bin true BinOp.eql
  (Operand.tmp 83) (Operand.tmp 93)) (some (82, true)), AOper.mk (some 95) (AOp.pick (Operand.tmp 82) (Operand.tmp 94) (Operand.const (Value.bool
  false))) none, AOper.mk (some 96) (AOp.mov (Operand.tmp 95)) none, AOper.mk (some 97) (AOp.mov (Operand.tmp 10)) (some (96, true)), AOper.mk (some 98)
  (AOp.mov (Operand.tmp 12)) (some (96, true)), AOper.mk (some 99) (AOp.bin false BinOp.eql (Operand.tmp 97) (Operand.tmp 98)) (some (96, true)),
  AOper.mk (some 100) (AOp.pick (Operand.tmp 96) (Operand.tmp 99) (Operand.const (Value.bool false))) none, AOper.mk (some 101) (AOp.mov (Operand.tmp
  100)) none, AOper.mk (some 102) (AOp.mov (Operand.tmp 11)) (some (101, true)), AOper.mk (some 103) (AOp.mov (Operand.tmp 13)) (some (101, true)),
  AOper.mk (some 104) (AOp.bin false BinOp.eql (Operand.tmp 102) (Operand.tmp 103)) (some (101, true)), AOper.mk (some 105) (AOp.pick (Operand.tmp 101)
  (Operand.tmp 104) (Operand.const (Value.bool false))) none, AOper.mk (some 106) (AOp.mov (Operand.tmp 105)) none, AOper.mk (some 107) (AOp.mov
  (Operand.tmp 14)) (some (106, true)), AOper.mk (some 108) (AOp.mov (Operand.tmp 16)) (some (106, true)), AOper.mk (some 109) (AOp.bin false BinOp.eql
  (Operand.tmp 107) (Operand.tmp 108)) (some (106, true)), AOper.mk (some 110) (AOp.pick (Operand.tmp 106) (Operand.tmp 109) (Operand.const (Value.bool
  false))) none, AOper.mk (some 111) (AOp.mov (Operand.tmp 110)) none, AOper.mk (some 112) (AOp.mov (Operand.tmp 15)) (some (111, true)), AOper.mk (some
  113) (AOp.mov (Operand.tmp 17)) (some (111, true)), AOper.mk (some 114) (AOp.bin false BinOp.eql (Operand.tmp 112) (Operand.tmp 113)) (some (111,
  true)), AOper.mk (some 115) (AOp.pick (Operand.tmp 111) (Operand.tmp 114) (Operand.const (Value.bool false))) none, AOper.mk (some 6) (AOp.mov
  (Operand.tmp 115)) none]) AC.ret))))))))) [ARes.tmp 6]
theorem cfn3 : cfn Try.prog 3 3 = some c3 := by kernel_rfl
def c4 : AFn :=
  AFn.mk 102 (AC.seq (AC.ops [AOper.mk (some 2) (AOp.box 26 (Operand.tmp 0)) none, AOper.mk (some 3) (AOp.box 29 (Operand.tmp 1)) none, AOper.mk (some 4)
  (AOp.mov (Operand.const (Value.bool false))) none]) (AC.seq (AC.seq (AC.ops [AOper.mk (some 16) (AOp.load true 4 (Operand.tmp 2)) none, AOper.mk (some
  17) (AOp.load true 2 (Operand.tmp 3)) none, AOper.mk (some 18) (AOp.call 20 [Operand.tmp 16, Operand.tmp 17]) none, AOper.mk (some 19) (AOp.un UnOp.not
  (Operand.tmp 18)) none]) (AC.cond (Operand.tmp 19) (AC.seq (AC.ops [AOper.mk (some 20) (AOp.call 12 []) none, AOper.mk (some 4) (AOp.mov (Operand.tmp
  20)) none]) AC.ret) AC.skip)) (AC.seq (AC.ops [AOper.mk (some 22) (AOp.fadr 0 (Operand.tmp 2)) none, AOper.mk (some 23) (AOp.load true 2 (Operand.tmp
  22)) none, AOper.mk (some 24) (AOp.fadr 2 (Operand.tmp 2)) none, AOper.mk (some 25) (AOp.load true 2 (Operand.tmp 24)) none, AOper.mk (some 26)
  (AOp.load true 2 (Operand.tmp 3)) none, AOper.mk (some 27) (AOp.call 17 [Operand.tmp 23, Operand.tmp 25, Operand.tmp 26]) none, AOper.mk (some 21)
  (AOp.mov (Operand.tmp 27)) none, AOper.mk (some 28) (AOp.ext (Operand.tmp 21) 0) none, AOper.mk (some 29) (AOp.ext (Operand.tmp 21) 1) none, AOper.mk
  (some 5) (AOp.mov (Operand.tmp 28)) none, AOper.mk (some 6) (AOp.mov (Operand.tmp 29)) none]) (AC.seq (AC.seq (AC.ops [AOper.mk (some 30) (AOp.mov
  (Operand.tmp 6)) none, AOper.mk (some 31) (AOp.bin false BinOp.neq (Operand.tmp 30) (Operand.const (Value.int IntKind.i64 0))) none]) (AC.cond
  (Operand.tmp 31) (AC.seq (AC.ops [AOper.mk (some 4) (AOp.mov (Operand.const (Value.bool false))) none]) AC.ret) AC.skip)) (AC.seq (AC.seq (AC.ops
  [AOper.mk (some 32) (AOp.fadr 2 (Operand.tmp 2)) none, AOper.mk (some 33) (AOp.fadr 0 (Operand.tmp 32)) none, AOper.mk (some 34) (AOp.load false 1
  (Operand.tmp 33)) none, AOper.mk (some 35) (AOp.bin false BinOp.eql (Operand.tmp 34) (Operand.const (Value.int IntKind.i64 1))) none]) (AC.cond
  (Operand.tmp 35) (AC.seq (AC.ops [AOper.mk (some 36) (AOp.mov (Operand.tmp 5)) none, AOper.mk (some 37) (AOp.bin false BinOp.eql (Operand.tmp 36)
  (Operand.const (Value.int IntKind.i64 0))) none, AOper.mk (some 38) (AOp.mov (Operand.tmp 37)) none, AOper.mk (some 39) (AOp.call 12 []) (some (38,
  true)), AOper.mk (some 40) (AOp.pick (Operand.tmp 38) (Operand.tmp 39) (Operand.const (Value.bool false))) none, AOper.mk (some 4) (AOp.mov
  (Operand.tmp 40)) none]) AC.ret) AC.skip)) (AC.seq (AC.seq (AC.ops [AOper.mk (some 41) (AOp.fadr 2 (Operand.tmp 2)) none, AOper.mk (some 42) (AOp.load
  true 2 (Operand.tmp 41)) none, AOper.mk (some 43) (AOp.call 21 [Operand.tmp 42]) none, AOper.mk (some 44) (AOp.mov (Operand.const (Value.int
  IntKind.i64 0))) none]) (AC.block 0 (AC.loop (AC.seq (AC.ops [AOper.mk (some 45) (AOp.bin false BinOp.lss (Operand.tmp 44) (Operand.tmp 43)) none])
  (AC.seq (AC.cond (Operand.tmp 45) AC.skip (AC.exit 0)) (AC.seq (AC.block 1 (AC.seq (AC.ops [AOper.mk (some 46) (AOp.mov (Operand.tmp 44)) none,
  AOper.mk (some 7) (AOp.mov (Operand.tmp 46)) none]) (AC.seq (AC.ops [AOper.mk (some 47) (AOp.load true 2 (Operand.tmp 3)) none, AOper.mk (some 48)
  (AOp.mov (Operand.tmp 7)) none, AOper.mk (some 49) (AOp.call 22 [Operand.tmp 47, Operand.tmp 48]) none, AOper.mk (some 50) (AOp.mov (Operand.tmp 5))
  none, AOper.mk (some 51) (AOp.bin false BinOp.neq (Operand.tmp 49) (Operand.tmp 50)) none]) (AC.cond (Operand.tmp 51) (AC.seq (AC.ops [AOper.mk (some
  4) (AOp.mov (Operand.const (Value.bool false))) none]) AC.ret) AC.skip)))) (AC.ops [AOper.mk (some 52) (AOp.bin false BinOp.add (Operand.tmp 44)
  (Operand.const (Value.int IntKind.i64 1))) none, AOper.mk (some 44) (AOp.mov (Operand.tmp 52)) none]))))))) (AC.seq (AC.seq (AC.ops [AOper.mk (some 53)
  (AOp.fadr 2 (Operand.tmp 2)) none, AOper.mk (some 54) (AOp.fadr 0 (Operand.tmp 53)) none, AOper.mk (some 55) (AOp.load false 1 (Operand.tmp 54)) none,
  AOper.mk (some 56) (AOp.mov (Operand.const (Value.int IntKind.i64 0))) none]) (AC.block 2 (AC.loop (AC.seq (AC.ops [AOper.mk (some 57) (AOp.bin false
  BinOp.lss (Operand.tmp 56) (Operand.tmp 55)) none]) (AC.seq (AC.cond (Operand.tmp 57) AC.skip (AC.exit 2)) (AC.seq (AC.block 3 (AC.seq (AC.ops
  [AOper.mk (some 58) (AOp.mov (Operand.tmp 56)) none, AOper.mk (some 8) (AOp.mov (Operand.tmp 58)) none]) (AC.seq (AC.ops [AOper.mk (some 60) (AOp.fadr
  0 (Operand.tmp 2)) none, AOper.mk (some 61) (AOp.load true 2 (Operand.tmp 60)) none, AOper.mk (some 62) (AOp.fadr 2 (Operand.tmp 2)) none, AOper.mk
  (some 63) (AOp.load true 2 (Operand.tmp 62)) none, AOper.mk (some 64) (AOp.load true 2 (Operand.tmp 3)) none, AOper.mk (some 65) (AOp.mov (Operand.tmp
  8)) none, AOper.mk (some 66) (AOp.call 23 [Operand.tmp 61, Operand.tmp 63, Operand.tmp 64, Operand.tmp 65]) none, AOper.mk (some 59) (AOp.mov
  (Operand.tmp 66)) none, AOper.mk (some 67) (AOp.ext (Operand.tmp 59) 0) none, AOper.mk (some 68) (AOp.ext (Operand.tmp 59) 1) none, AOper.mk (some 9)
  (AOp.mov (Operand.tmp 67)) none, AOper.mk (some 10) (AOp.mov (Operand.tmp 68)) none]) (AC.seq (AC.seq (AC.ops [AOper.mk (some 69) (AOp.mov (Operand.tmp
  10)) none, AOper.mk (some 70) (AOp.bin false BinOp.neq (Operand.tmp 69) (Operand.const (Value.int IntKind.i64 0))) none]) (AC.cond (Operand.tmp 70)
  (AC.seq (AC.ops [AOper.mk (some 4) (AOp.mov (Operand.const (Value.bool false))) none]) AC.ret) AC.skip)) (AC.seq (AC.ops [AOper.mk (some 11) (AOp.mov
  (Operand.const (Value.int IntKind.i64 0))) none]) (AC.seq (AC.seq (AC.ops [AOper.mk (some 71) (AOp.mov (Operand.tmp 9)) none, AOper.mk (some 72)
  (AOp.len (Operand.tmp 71)) none, AOper.mk (some 73) (AOp.mov (Operand.const (Value.int IntKind.i64 0))) none]) (AC.block 4 (AC.loop (AC.seq (AC.ops
  [AOper.mk (some 74) (AOp.bin false BinOp.lss (Operand.tmp 73) (Operand.tmp 72)) none]) (AC.seq (AC.cond (Operand.tmp 74) AC.skip (AC.exit 4)) (AC.seq
  (AC.block 5 (AC.seq (AC.ops [AOper.mk (some 75) (AOp.iadr 1 (Operand.tmp 71) (Operand.tmp 73)) none, AOper.mk (some 76) (AOp.load false 1 (Operand.tmp
  75)) none, AOper.mk (some 13) (AOp.mov (Operand.tmp 76)) none]) (AC.seq (AC.ops [AOper.mk (some 78) (AOp.fadr 0 (Operand.tmp 2)) none, AOper.mk (some
  79) (AOp.load true 2 (Operand.tmp 78)) none, AOper.mk (some 80) (AOp.fadr 2 (Operand.tmp 2)) none, AOper.mk (some 81) (AOp.load true 2 (Operand.tmp
  80)) none, AOper.mk (some 82) (AOp.load true 2 (Operand.tmp 3)) none, AOper.mk (some 83) (AOp.mov (Operand.tmp 13)) none, AOper.mk (some 84) (AOp.call
  15 [Operand.tmp 79, Operand.tmp 81, Operand.tmp 82, Operand.tmp 83]) none, AOper.mk (some 77) (AOp.mov (Operand.tmp 84)) none, AOper.mk (some 85)
  (AOp.ext (Operand.tmp 77) 0) none, AOper.mk (some 86) (AOp.ext (Operand.tmp 77) 1) none, AOper.mk (some 14) (AOp.mov (Operand.tmp 85)) none, AOper.mk
  (some 15) (AOp.mov (Operand.tmp 86)) none]) (AC.seq (AC.seq (AC.ops [AOper.mk (some 87) (AOp.mov (Operand.tmp 15)) none, AOper.mk (some 88) (AOp.bin
  false BinOp.neq (Operand.tmp 87) (Operand.const (Value.int IntKind.i64 0))) none, AOper.mk (some 89) (AOp.mov (Operand.tmp 88)) none, AOper.mk (some
  90) (AOp.mov (Operand.tmp 14)) (some (89, false)), AOper.mk (some 91) (AOp.bin false BinOp.lss (Operand.tmp 90) (Operand.const (Value.int IntKind.i64
  0))) (some (89, false)), AOper.mk (some 92) (AOp.pick (Operand.tmp 89) (Operand.const (Value.bool true)) (Operand.tmp 91)) none]) (AC.cond (Operand.tmp
  92) (AC.seq (AC.ops [AOper.mk (some 4) (AOp.mov (Operand.const (Value.bool false))) none]) AC.ret) AC.skip)) (AC.ops [AOper.mk (some 93) (AOp.mov
  (Operand.tmp 11)) none, AOper.mk (some 94) (AOp.mov (Operand.tmp 14)) none, AOper.mk (some 95) (AOp.bin false BinOp.add (Operand.tmp 93) (Operand.tmp
  94)) none, AOper.mk (some 11) (AOp.mov (Operand.tmp 95)) none]))))) (AC.ops [AOper.mk (some 96) (AOp.bin false BinOp.add (Operand.tmp 73)
  (Operand.const (Value.int IntKind.i64 1))) none, AOper.mk (some 73) (AOp.mov (Operand.tmp 96)) none]))))))) (AC.seq (AC.ops [AOper.mk (some 97)
  (AOp.mov (Operand.tmp 11)) none, AOper.mk (some 98) (AOp.mov (Operand.tmp 5)) none, AOper.mk (some 99) (AOp.bin false BinOp.neq (Operand.tmp 97)
  (Operand.tmp 98)) none]) (AC.cond (Operand.tmp 99) (AC.seq (AC.ops [AOper.mk (some 4) (AOp.mov (Operand.const (Value.bool false))) none]) AC.ret)
  AC.skip)))))))) (AC.ops [AOper.mk (some 100) (AOp.bin false BinOp.add (Operand.tmp 56) (Operand.const (Value.int IntKind.i64 1))) none, AOper.mk (some
  56) (AOp.mov (Operand.tmp 100)) none]))))))) (AC.seq (AC.ops [AOper.mk (some 101) (AOp.call 12 []) none, AOper.mk (some 4) (AOp.mov (Operand.tmp 101))
  none]) AC.ret)))))))) [ARes.tmp 4]
theorem cfn4 : cfn Try.prog 4 2 = some c4 := by kernel_rfl
def c5 : AFn :=
  AFn.mk 48 (AC.seq (AC.ops [AOper.mk (some 3) (AOp.box 26 (Operand.tmp 0)) none, AOper.mk (some 4) (AOp.box 29 (Operand.tmp 1)) none, AOper.mk (some 5)
  (AOp.box 29 (Operand.tmp 2)) none, AOper.mk (some 6) (AOp.mov (Operand.const (Value.bool false))) none]) (AC.seq (AC.seq (AC.ops [AOper.mk (some 7)
  (AOp.load true 4 (Operand.tmp 3)) none, AOper.mk (some 8) (AOp.load true 2 (Operand.tmp 4)) none, AOper.mk (some 9) (AOp.call 11 [Operand.tmp 7,
  Operand.tmp 8]) none, AOper.mk (some 10) (AOp.un UnOp.not (Operand.tmp 9)) none, AOper.mk (some 11) (AOp.mov (Operand.tmp 10)) none, AOper.mk (some 12)
  (AOp.load true 4 (Operand.tmp 3)) (some (11, false)), AOper.mk (some 13) (AOp.load true 2 (Operand.tmp 5)) (some (11, false)), AOper.mk (some 14)
  (AOp.call 11 [Operand.tmp 12, Operand.tmp 13]) (some (11, false)), AOper.mk (some 15) (AOp.un UnOp.not (Operand.tmp 14)) (some (11, false)), AOper.mk
  (some 16) (AOp.pick (Operand.tmp 11) (Operand.const (Value.bool true)) (Operand.tmp 15)) none]) (AC.cond (Operand.tmp 16) (AC.seq (AC.ops [AOper.mk
  (some 17) (AOp.call 12 []) none, AOper.mk (some 6) (AOp.mov (Operand.tmp 17)) none]) AC.ret) AC.skip)) (AC.seq (AC.segs [([], some (true, AOper.mk
  (some 18) (AOp.call 12 []) none)), ([AOper.mk (some 19) (AOp.mov (Operand.tmp 18)) none, AOper.mk (some 20) (AOp.fadr 0 (Operand.tmp 3)) (some (19,
  true)), AOper.mk (some 21) (AOp.load true 2 (Operand.tmp 20)) (some (19, true)), AOper.mk (some 22) (AOp.fadr 2 (Operand.tmp 3)) (some (19, true)),
  AOper.mk (some 23) (AOp.load true 2 (Operand.tmp 22)) (some (19, true)), AOper.mk (some 24) (AOp.load true 2 (Operand.tmp 4)) (some (19, true)),
  AOper.mk (some 26) (AOp.fadr 0 (Operand.tmp 3)) (some (19, true)), AOper.mk (some 27) (AOp.load true 2 (Operand.tmp 26)) (some (19, true)), AOper.mk
  (some 28) (AOp.fadr 2 (Operand.tmp 3)) (some (19, true)), AOper.mk (some 29) (AOp.load true 2 (Operand.tmp 28)) (some (19, true)), AOper.mk (some 30)
  (AOp.load true 2 (Operand.tmp 4)) (some (19, true))], some (true, AOper.mk (some 25) (AOp.call 24 [Operand.tmp 21, Operand.tmp 23, Operand.tmp 24])
  (some (19, true)))), ([], some (true, AOper.mk (some 31) (AOp.call 13 [Operand.tmp 27, Operand.tmp 29, Operand.tmp 30]) (some (19, true)))), ([AOper.mk
  (some 32) (AOp.bin false BinOp.eql (Operand.tmp 25) (Operand.tmp 31)) (some (19, true)), AOper.mk (some 33) (AOp.pick (Operand.tmp 19) (Operand.tmp 32)
  (Operand.const (Value.bool false))) none, AOper.mk (some 34) (AOp.mov (Operand.tmp 33)) none, AOper.mk (some 35) (AOp.load true 2 (Operand.tmp 4))
  (some (34, true)), AOper.mk (some 36) (AOp.load true 2 (Operand.tmp 5)) (some (34, true)), AOper.mk (some 38) (AOp.load true 2 (Operand.tmp 4)) (some
  (34, true)), AOper.mk (some 39) (AOp.load true 2 (Operand.tmp 5)) (some (34, true))], some (true, AOper.mk (some 37) (AOp.call 25 [Operand.tmp 35,
  Operand.tmp 36]) (some (34, true)))), ([], some (true, AOper.mk (some 40) (AOp.call 26 [Operand.tmp 38, Operand.tmp 39]) (some (34, true)))),
  ([AOper.mk (some 41) (AOp.bin true BinOp.eql (Operand.tmp 37) (Operand.tmp 40)) (some (34, true)), AOper.mk (some 42) (AOp.pick (Operand.tmp 34)
  (Operand.tmp 41) (Operand.const (Value.bool false))) none, AOper.mk (some 43) (AOp.mov (Operand.tmp 42)) none, AOper.mk (some 44) (AOp.load true 2
  (Operand.tmp 4)) (some (43, true)), AOper.mk (some 45) (AOp.load true 2 (Operand.tmp 4)) (some (43, true))], some (true, AOper.mk (some 46) (AOp.call
  25 [Operand.tmp 44, Operand.tmp 45]) (some (43, true)))), ([AOper.mk (some 47) (AOp.pick (Operand.tmp 43) (Operand.tmp 46) (Operand.const (Value.bool
  false))) none, AOper.mk (some 6) (AOp.mov (Operand.tmp 47)) none], none)]) AC.ret))) [ARes.tmp 6]
theorem cfn5 : cfn Try.prog 5 3 = some c5 := by kernel_rfl
def c6 : AFn :=
  AFn.mk 69 (AC.seq (AC.ops [AOper.mk (some 3) (AOp.box 26 (Operand.tmp 0)) none, AOper.mk (some 4) (AOp.box 29 (Operand.tmp 1)) none, AOper.mk (some 6)
  (AOp.mov (Operand.const (Value.bool false))) none]) (AC.seq (AC.seq (AC.ops [AOper.mk (some 12) (AOp.load true 4 (Operand.tmp 3)) none, AOper.mk (some
  13) (AOp.load true 2 (Operand.tmp 4)) none, AOper.mk (some 14) (AOp.call 20 [Operand.tmp 12, Operand.tmp 13]) none, AOper.mk (some 15) (AOp.un UnOp.not
  (Operand.tmp 14)) none]) (AC.cond (Operand.tmp 15) (AC.seq (AC.ops [AOper.mk (some 16) (AOp.call 12 []) none, AOper.mk (some 6) (AOp.mov (Operand.tmp
  16)) none]) AC.ret) AC.skip)) (AC.seq (AC.ops [AOper.mk (some 17) (AOp.mov (Operand.tmp 2)) none, AOper.mk (some 18) (AOp.cvt IntKind.i64 (Operand.tmp
  17)) none, AOper.mk (some 19) (AOp.fadr 0 (Operand.tmp 3)) none, AOper.mk (some 20) (AOp.fadr 0 (Operand.tmp 19)) none, AOper.mk (some 21) (AOp.load
  false 1 (Operand.tmp 20)) none, AOper.mk (some 22) (AOp.bin false BinOp.rem (Operand.tmp 18) (Operand.tmp 21)) none, AOper.mk (some 7) (AOp.mov
  (Operand.tmp 22)) none]) (AC.seq (AC.ops [AOper.mk (some 24) (AOp.fadr 0 (Operand.tmp 3)) none, AOper.mk (some 25) (AOp.load true 2 (Operand.tmp 24))
  none, AOper.mk (some 26) (AOp.fadr 2 (Operand.tmp 3)) none, AOper.mk (some 27) (AOp.load true 2 (Operand.tmp 26)) none, AOper.mk (some 28) (AOp.load
  true 2 (Operand.tmp 4)) none, AOper.mk (some 29) (AOp.mov (Operand.tmp 7)) none, AOper.mk (some 30) (AOp.call 15 [Operand.tmp 25, Operand.tmp 27,
  Operand.tmp 28, Operand.tmp 29]) none, AOper.mk (some 23) (AOp.mov (Operand.tmp 30)) none, AOper.mk (some 31) (AOp.ext (Operand.tmp 23) 0) none,
  AOper.mk (some 32) (AOp.ext (Operand.tmp 23) 1) none, AOper.mk (some 8) (AOp.mov (Operand.tmp 31)) none, AOper.mk (some 9) (AOp.mov (Operand.tmp 32))
  none]) (AC.seq (AC.ops [AOper.mk (some 34) (AOp.fadr 0 (Operand.tmp 3)) none, AOper.mk (some 35) (AOp.load true 2 (Operand.tmp 34)) none, AOper.mk
  (some 36) (AOp.fadr 2 (Operand.tmp 3)) none, AOper.mk (some 37) (AOp.load true 2 (Operand.tmp 36)) none, AOper.mk (some 38) (AOp.load true 2
  (Operand.tmp 4)) none, AOper.mk (some 39) (AOp.mov (Operand.tmp 7)) none, AOper.mk (some 40) (AOp.call 27 [Operand.tmp 35, Operand.tmp 37, Operand.tmp
  38, Operand.tmp 39]) none, AOper.mk (some 33) (AOp.mov (Operand.tmp 40)) none, AOper.mk (some 41) (AOp.ext (Operand.tmp 33) 0) none, AOper.mk (some 42)
  (AOp.ext (Operand.tmp 33) 1) none, AOper.mk (some 10) (AOp.mov (Operand.tmp 41)) none, AOper.mk (some 11) (AOp.mov (Operand.tmp 42)) none]) (AC.seq
  (AC.segs [([AOper.mk (some 43) (AOp.mov (Operand.tmp 9)) none, AOper.mk (some 44) (AOp.mov (Operand.tmp 11)) none, AOper.mk (some 45) (AOp.bin false
  BinOp.add (Operand.tmp 43) (Operand.tmp 44)) none, AOper.mk (some 46) (AOp.bin false BinOp.eql (Operand.tmp 45) (Operand.const (Value.int IntKind.i64
  0))) none, AOper.mk (some 47) (AOp.mov (Operand.tmp 46)) none, AOper.mk (some 48) (AOp.fadr 0 (Operand.tmp 3)) (some (47, true)), AOper.mk (some 49)
  (AOp.load true 2 (Operand.tmp 48)) (some (47, true)), AOper.mk (some 50) (AOp.mov (Operand.tmp 7)) (some (47, true)), AOper.mk (some 52) (AOp.mov
  (Operand.tmp 8)) (some (47, true)), AOper.mk (some 53) (AOp.fadr 2 (Operand.tmp 3)) (some (47, true)), AOper.mk (some 54) (AOp.load true 2 (Operand.tmp
  53)) (some (47, true)), AOper.mk (some 55) (AOp.fadr 0 (Operand.tmp 4)) (some (47, true)), AOper.mk (some 56) (AOp.load false 1 (Operand.tmp 55)) (some
  (47, true)), AOper.mk (some 57) (AOp.mov (Operand.tmp 7)) (some (47, true)), AOper.mk (some 58) (AOp.iadr 1 (Operand.tmp 56) (Operand.tmp 57)) (some
  (47, true)), AOper.mk (some 59) (AOp.load false 1 (Operand.tmp 58)) (some (47, true)), AOper.mk (some 62) (AOp.mov (Operand.tmp 10)) (some (47,
  true))], some (true, AOper.mk (some 51) (AOp.call 28 [Operand.tmp 49, Operand.tmp 50]) (some (47, true)))), ([], some (true, AOper.mk (some 60)
  (AOp.call 28 [Operand.tmp 54, Operand.tmp 59]) (some (47, true)))), ([AOper.mk (some 61) (AOp.bin false BinOp.mul (Operand.tmp 52) (Operand.tmp 60))
  (some (47, true)), AOper.mk (some 63) (AOp.bin false BinOp.add (Operand.tmp 61) (Operand.tmp 62)) (some (47, true)), AOper.mk (some 64) (AOp.bin false
  BinOp.eql (Operand.tmp 51) (Operand.tmp 63)) (some (47, true)), AOper.mk (some 65) (AOp.pick (Operand.tmp 47) (Operand.tmp 64) (Operand.const
  (Value.bool false))) none, AOper.mk (some 66) (AOp.mov (Operand.tmp 65)) none], some (true, AOper.mk (some 67) (AOp.call 12 []) (some (66, true)))),
  ([AOper.mk (some 68) (AOp.pick (Operand.tmp 66) (Operand.tmp 67) (Operand.const (Value.bool false))) none, AOper.mk (some 6) (AOp.mov (Operand.tmp 68))
  none], none)]) AC.ret)))))) [ARes.tmp 6]
theorem cfn6 : cfn Try.prog 6 3 = some c6 := by kernel_rfl
def c7 : AFn :=
  AFn.mk 157 (AC.seq (AC.ops [AOper.mk (some 3) (AOp.box 26 (Operand.tmp 0)) none, AOper.mk (some 4) (AOp.box 29 (Operand.tmp 1)) none, AOper.mk (some 5)
  (AOp.box 55 (Operand.tmp 2)) none, AOper.mk (some 6) (AOp.mov (Operand.const (Value.bool false))) none]) (AC.seq (AC.seq (AC.ops [AOper.mk (some 20)
  (AOp.load true 4 (Operand.tmp 3)) none, AOper.mk (some 21) (AOp.load true 2 (Operand.tmp 4)) none, AOper.mk (some 22) (AOp.call 11 [Operand.tmp 20,
  Operand.tmp 21]) none, AOper.mk (some 23) (AOp.un UnOp.not (Operand.tmp 22)) none]) (AC.cond (Operand.tmp 23) (AC.seq (AC.ops [AOper.mk (some 24)
  (AOp.call 12 []) none, AOper.mk (some 6) (AOp.mov (Operand.tmp 24)) none]) AC.ret) AC.skip)) (AC.seq (AC.segs [([AOper.mk (some 25) (AOp.iadrA 2 1
  (Operand.tmp 5) (Operand.const (Value.int IntKind.i64 0))) none, AOper.mk (some 26) (AOp.load false 1 (Operand.tmp 25)) none, AOper.mk (some 27)
  (AOp.iadrA 2 1 (Operand.tmp 5) (Operand.const (Value.int IntKind.i64 1))) none, AOper.mk (some 28) (AOp.load false 1 (Operand.tmp 27)) none, AOper.mk
  (some 7) (AOp.mov (Operand.tmp 26)) none, AOper.mk (some 8) (AOp.mov (Operand.tmp 28)) none], none)]) (AC.seq (AC.ops [AOper.mk (some 29) (AOp.fadr 0
  (Operand.tmp 3)) none, AOper.mk (some 30) (AOp.load true 2 (Operand.tmp 29)) none, AOper.mk (some 31) (AOp.fadr 2 (Operand.tmp 3)) none, AOper.mk (some
  32) (AOp.load true 2 (Operand.tmp 31)) none, AOper.mk (some 33) (AOp.load true 2 (Operand.tmp 4)) none, AOper.mk (some 34) (AOp.call 13 [Operand.tmp
  30, Operand.tmp 32, Operand.tmp 33]) none, AOper.mk (some 9) (AOp.mov (Operand.tmp 34)) none]) (AC.seq (AC.ops [AOper.mk (some 35) (AOp.mov
  (Operand.tmp 9)) none, AOper.mk (some 36) (AOp.mov (Operand.tmp 9)) none, AOper.mk (some 10) (AOp.mov (Operand.tmp 35)) none, AOper.mk (some 11)
  (AOp.mov (Operand.tmp 36)) none]) (AC.seq (AC.seq (AC.ops [AOper.mk (some 37) (AOp.mov (Operand.tmp 10)) none, AOper.mk (some 38) (AOp.bin false
  BinOp.eql (Operand.tmp 37) (Operand.const (Value.int IntKind.i64 0))) none, AOper.mk (some 39) (AOp.mov (Operand.tmp 38)) none, AOper.mk (some 40)
  (AOp.fadr 2 (Operand.tmp 3)) (some (39, true)), AOper.mk (some 41) (AOp.load true 2 (Operand.tmp 40)) (some (39, true)), AOper.mk (some 42) (AOp.mov
  (Operand.tmp 8)) (some (39, true)), AOper.mk (some 43) (AOp.call 29 [Operand.tmp 41, Operand.tmp 42]) (some (39, true)), AOper.mk (some 44) (AOp.un
  UnOp.not (Operand.tmp 43)) (some (39, true)), AOper.mk (some 45) (AOp.pick (Operand.tmp 39) (Operand.tmp 44) (Operand.const (Value.bool false))) none])
  (AC.cond (Operand.tmp 45) (AC.ops [AOper.mk (some 10) (AOp.mov (Operand.const (Value.int IntKind.i64 2))) none]) AC.skip)) (AC.seq (AC.seq (AC.ops
  [AOper.mk (some 46) (AOp.mov (Operand.tmp 11)) none, AOper.mk (some 47) (AOp.bin false BinOp.eql (Operand.tmp 46) (Operand.const (Value.int IntKind.i64
  0))) none, AOper.mk (some 48) (AOp.mov (Operand.tmp 47)) none, AOper.mk (some 49) (AOp.fadr 0 (Operand.tmp 3)) (some (48, true)), AOper.mk (some 50)
  (AOp.load true 2 (Operand.tmp 49)) (some (48, true)), AOper.mk (some 51) (AOp.mov (Operand.tmp 7)) (some (48, true)), AOper.mk (some 52) (AOp.call 29
  [Operand.tmp 50, Operand.tmp 51]) (some (48, true)), AOper.mk (some 53) (AOp.un UnOp.not (Operand.tmp 52)) (some (48, true)), AOper.mk (some 54)
  (AOp.pick (Operand.tmp 48) (Operand.tmp 53) (Operand.const (Value.bool false))) none]) (AC.cond (Operand.tmp 54) (AC.ops [AOper.mk (some 11) (AOp.mov
  (Operand.const (Value.int IntKind.i64 2))) none]) AC.skip)) (AC.seq (AC.ops [AOper.mk (some 56) (AOp.fadr 0 (Operand.tmp 3)) none, AOper.mk (some 57)
  (AOp.load true 2 (Operand.tmp 56)) none, AOper.mk (some 58) (AOp.fadr 2 (Operand.tmp 3)) none, AOper.mk (some 59) (AOp.load true 2 (Operand.tmp 58))
  none, AOper.mk (some 60) (AOp.load true 2 (Operand.tmp 4)) none, AOper.mk (some 61) (AOp.mov (Operand.tmp 8)) none, AOper.mk (some 62) (AOp.call 23
  [Operand.tmp 57, Operand.tmp 59, Operand.tmp 60, Operand.tmp 61]) none, AOper.mk (some 55) (AOp.mov (Operand.tmp 62)) none, AOper.mk (some 63) (AOp.ext
  (Operand.tmp 55) 0) none, AOper.mk (some 64) (AOp.ext (Operand.tmp 55) 1) none, AOper.mk (some 12) (AOp.mov (Operand.tmp 63)) none, AOper.mk (some 13)
  (AOp.mov (Operand.tmp 64)) none]) (AC.seq (AC.ops [AOper.mk (some 66) (AOp.fadr 0 (Operand.tmp 3)) none, AOper.mk (some 67) (AOp.load true 2
  (Operand.tmp 66)) none, AOper.mk (some 68) (AOp.fadr 2 (Operand.tmp 3)) none, AOper.mk (some 69) (AOp.load true 2 (Operand.tmp 68)) none, AOper.mk
  (some 70) (AOp.load true 2 (Operand.tmp 4)) none, AOper.mk (some 71) (AOp.mov (Operand.tmp 7)) none, AOper.mk (some 72) (AOp.call 27 [Operand.tmp 67,
  Operand.tmp 69, Operand.tmp 70, Operand.tmp 71]) none, AOper.mk (some 65) (AOp.mov (Operand.tmp 72)) none, AOper.mk (some 73) (AOp.ext (Operand.tmp 65)
  0) none, AOper.mk (some 74) (AOp.ext (Operand.tmp 65) 1) none, AOper.mk (some 14) (AOp.mov (Operand.tmp 73)) none, AOper.mk (some 15) (AOp.mov
  (Operand.tmp 74)) none]) (AC.seq (AC.ops [AOper.mk (some 76) (AOp.fadr 0 (Operand.tmp 3)) none, AOper.mk (some 77) (AOp.load true 2 (Operand.tmp 76))
  none, AOper.mk (some 78) (AOp.fadr 2 (Operand.tmp 3)) none, AOper.mk (some 79) (AOp.load true 2 (Operand.tmp 78)) none, AOper.mk (some 80) (AOp.load
  true 2 (Operand.tmp 4)) none, AOper.mk (some 81) (AOp.mov (Operand.tmp 7)) none, AOper.mk (some 82) (AOp.mov (Operand.tmp 8)) none, AOper.mk (some 83)
  (AOp.call 30 [Operand.tmp 77, Operand.tmp 79, Operand.tmp 80, Operand.tmp 81, Operand.tmp 82]) none, AOper.mk (some 75) (AOp.mov (Operand.tmp 83))
  none, AOper.mk (some 84) (AOp.ext (Operand.tmp 75) 0) none, AOper.mk (some 85) (AOp.ext (Operand.tmp 75) 1) none, AOper.mk (some 16) (AOp.mov
  (Operand.tmp 84)) none, AOper.mk (some 17) (AOp.mov (Operand.tmp 85)) none]) (AC.seq (AC.ops [AOper.mk (some 87) (AOp.fadr 0 (Operand.tmp 3)) none,
  AOper.mk (some 88) (AOp.load true 2 (Operand.tmp 87)) none, AOper.mk (some 89) (AOp.fadr 2 (Operand.tmp 3)) none, AOper.mk (some 90) (AOp.load true 2
  (Operand.tmp 89)) none, AOper.mk (some 91) (AOp.load true 2 (Operand.tmp 4)) none, AOper.mk (some 92) (AOp.mov (Operand.tmp 7)) none, AOper.mk (some
  93) (AOp.mov (Operand.tmp 8)) none, AOper.mk (some 94) (AOp.call 31 [Operand.tmp 88, Operand.tmp 90, Operand.tmp 91, Operand.tmp 92, Operand.tmp 93])
  none, AOper.mk (some 86) (AOp.mov (Operand.tmp 94)) none, AOper.mk (some 95) (AOp.ext (Operand.tmp 86) 0) none, AOper.mk (some 96) (AOp.ext
  (Operand.tmp 86) 1) none, AOper.mk (some 18) (AOp.mov (Operand.tmp 95)) none, AOper.mk (some 19) (AOp.mov (Operand.tmp 96)) none]) (AC.seq (AC.seq
  (AC.ops [AOper.mk (some 97) (AOp.call 12 []) none, AOper.mk (some 98) (AOp.un UnOp.not (Operand.tmp 97)) none, AOper.mk (some 99) (AOp.mov (Operand.tmp
  98)) none, AOper.mk (some 100) (AOp.mov (Operand.tmp 13)) (some (99, false)), AOper.mk (some 101) (AOp.mov (Operand.tmp 10)) (some (99, false)),
  AOper.mk (some 102) (AOp.bin false BinOp.neq (Operand.tmp 100) (Operand.tmp 101)) (some (99, false)), AOper.mk (some 103) (AOp.pick (Operand.tmp 99)
  (Operand.const (Value.bool true)) (Operand.tmp 102)) none, AOper.mk (some 104) (AOp.mov (Operand.tmp 103)) none, AOper.mk (some 105) (AOp.mov
  (Operand.tmp 15)) (some (104, false)), AOper.mk (some 106) (AOp.mov (Operand.tmp 11)) (some (104, false)), AOper.mk (some 107) (AOp.bin false BinOp.neq
  (Operand.tmp 105) (Operand.tmp 106)) (some (104, false)), AOper.mk (some 108) (AOp.pick (Operand.tmp 104) (Operand.const (Value.bool true))
  (Operand.tmp 107)) none, AOper.mk (some 109) (AOp.mov (Operand.tmp 108)) none, AOper.mk (some 110) (AOp.mov (Operand.tmp 16)) (some (109, false)),
  AOper.mk (some 111) (AOp.mov (Operand.tmp 18)) (some (109, false)), AOper.mk (some 112) (AOp.bin false BinOp.neq (Operand.tmp 110) (Operand.tmp 111))
  (some (109, false)), AOper.mk (some 113) (AOp.pick (Operand.tmp 109) (Operand.const (Value.bool true)) (Operand.tmp 112)) none, AOper.mk (some 114)
  (AOp.mov (Operand.tmp 113)) none, AOper.mk (some 115) (AOp.mov (Operand.tmp 17)) (some (114, false)), AOper.mk (some 116) (AOp.mov (Operand.tmp 19))
  (some (114, false)), AOper.mk (some 117) (AOp.bin false BinOp.neq (Operand.tmp 115) (Operand.tmp 116)) (some (114, false)), AOper.mk (some 118)
  (AOp.pick (Operand.tmp 114) (Operand.const (Value.bool true)) (Operand.tmp 117)) none]) (AC.cond (Operand.tmp 118) (AC.seq (AC.ops [AOper.mk (some 6)
  (AOp.mov (Operand.const (Value.bool false))) none]) AC.ret) AC.skip)) (AC.seq (AC.seq (AC.ops [AOper.mk (some 119) (AOp.mov (Operand.tmp 10)) none,
  AOper.mk (some 120) (AOp.bin false BinOp.neq (Operand.tmp 119) (Operand.const (Value.int IntKind.i64 0))) none, AOper.mk (some 121) (AOp.mov
  (Operand.tmp 120)) none, AOper.mk (some 122) (AOp.mov (Operand.tmp 12)) (some (121, true)), AOper.mk (some 123) (AOp.len (Operand.tmp 122)) (some (121,
  true)), AOper.mk (some 124) (AOp.bin false BinOp.neq (Operand.tmp 123) (Operand.const (Value.int IntKind.i64 0))) (some (121, true)), AOper.mk (some
  125) (AOp.pick (Operand.tmp 121) (Operand.tmp 124) (Operand.const (Value.bool false))) none, AOper.mk (some 126) (AOp.mov (Operand.tmp 125)) none,
  AOper.mk (some 127) (AOp.mov (Operand.tmp 10)) (some (126, false)), AOper.mk (some 128) (AOp.bin false BinOp.eql (Operand.tmp 127) (Operand.const
  (Value.int IntKind.i64 0))) (some (126, false)), AOper.mk (some 129) (AOp.mov (Operand.tmp 128)) (some (126, false)), AOper.mk (some 130) (AOp.mov
  (Operand.tmp 12)) (some (129, true)), AOper.mk (some 131) (AOp.load true 2 (Operand.tmp 4)) (some (129, true)), AOper.mk (some 132) (AOp.mov
  (Operand.tmp 8)) (some (129, true)), AOper.mk (some 133) (AOp.call 33 [Operand.tmp 131, Operand.tmp 132]) (some (129, true)), AOper.mk (some 134)
  (AOp.call 32 [Operand.tmp 130, Operand.tmp 133]) (some (129, true)), AOper.mk (some 135) (AOp.un UnOp.not (Operand.tmp 134)) (some (129, true)),
  AOper.mk (some 136) (AOp.pick (Operand.tmp 129) (Operand.tmp 135) (Operand.const (Value.bool false))) (some (126, false)), AOper.mk (some 137)
  (AOp.pick (Operand.tmp 126) (Operand.const (Value.bool true)) (Operand.tmp 136)) none]) (AC.cond (Operand.tmp 137) (AC.seq (AC.ops [AOper.mk (some 6)
  (AOp.mov (Operand.const (Value.bool false))) none]) AC.ret) AC.skip)) (AC.seq (AC.ops [AOper.mk (some 138) (AOp.mov (Operand.tmp 11)) none, AOper.mk
  (some 139) (AOp.bin false BinOp.neq (Operand.tmp 138) (Operand.const (Value.int IntKind.i64 0))) none, AOper.mk (some 140) (AOp.mov (Operand.tmp 139))
  none, AOper.mk (some 141) (AOp.mov (Operand.tmp 14)) (some (140, true)), AOper.mk (some 142) (AOp.bin false BinOp.eql (Operand.tmp 141) (Operand.const
  (Value.int IntKind.i64 0))) (some (140, true)), AOper.mk (some 143) (AOp.pick (Operand.tmp 140) (Operand.tmp 142) (Operand.const (Value.bool false)))
  none, AOper.mk (some 144) (AOp.mov (Operand.tmp 143)) none, AOper.mk (some 145) (AOp.mov (Operand.tmp 11)) (some (144, false)), AOper.mk (some 146)
  (AOp.bin false BinOp.eql (Operand.tmp 145) (Operand.const (Value.int IntKind.i64 0))) (some (144, false)), AOper.mk (some 147) (AOp.mov (Operand.tmp
  146)) (some (144, false)), AOper.mk (some 148) (AOp.mov (Operand.tmp 14)) (some (147, true)), AOper.mk (some 149) (AOp.fadr 0 (Operand.tmp 3)) (some
  (147, true)), AOper.mk (some 150) (AOp.load true 2 (Operand.tmp 149)) (some (147, true)), AOper.mk (some 151) (AOp.load true 2 (Operand.tmp 4)) (some
  (147, true)), AOper.mk (some 152) (AOp.mov (Operand.tmp 7)) (some (147, true)), AOper.mk (some 153) (AOp.call 34 [Operand.tmp 150, Operand.tmp 151,
  Operand.tmp 152, Operand.const (Value.int IntKind.i64 (-1))]) (some (147, true)), AOper.mk (some 154) (AOp.bin false BinOp.eql (Operand.tmp 148)
  (Operand.tmp 153)) (some (147, true)), AOper.mk (some 155) (AOp.pick (Operand.tmp 147) (Operand.tmp 154) (Operand.const (Value.bool false))) (some
  (144, false)), AOper.mk (some 156) (AOp.pick (Operand.tmp 144) (Operand.const (Value.bool true)) (Operand.tmp 155)) none, AOper.mk (some 6) (AOp.mov
  (Operand.tmp 156)) none]) AC.ret)))))))))))))) [ARes.tmp 6]
theorem cfn7 : cfn Try.prog 7 3 = some c7 := by kernel_rfl
def c8 : AFn :=
  AFn.mk 58 (AC.seq (AC.ops [AOper.mk (some 3) (AOp.box 64 (Operand.tmp 0)) none, AOper.mk (some 4) (AOp.box 29 (Operand.tmp 1)) none, AOper.mk (some 5)
  (AOp.box 29 (Operand.tmp 2)) none, AOper.mk (some 6) (AOp.mov (Operand.const (Value.bool false))) none]) (AC.seq (AC.seq (AC.ops [AOper.mk (some 11)
  (AOp.fadr 0 (Operand.tmp 3)) none, AOper.mk (some 12) (AOp.load true 2 (Operand.tmp 11)) none, AOper.mk (some 13) (AOp.fadr 2 (Operand.tmp 3)) none,
  AOper.mk (some 14) (AOp.load true 2 (Operand.tmp 13)) none, AOper.mk (some 15) (AOp.load true 2 (Operand.tmp 4)) none, AOper.mk (some 16) (AOp.call 35
  [Operand.tmp 12, Operand.tmp 14, Operand.tmp 15]) none, AOper.mk (some 17) (AOp.un UnOp.not (Operand.tmp 16)) none, AOper.mk (some 18) (AOp.mov
  (Operand.tmp 17)) none, AOper.mk (some 19) (AOp.fadr 2 (Operand.tmp 3)) (some (18, false)), AOper.mk (some 20) (AOp.load true 2 (Operand.tmp 19)) (some
  (18, false)), AOper.mk (some 21) (AOp.fadr 4 (Operand.tmp 3)) (some (18, false)), AOper.mk (some 22) (AOp.load true 2 (Operand.tmp 21)) (some (18,
  false)), AOper.mk (some 23) (AOp.load true 2 (Operand.tmp 5)) (some (18, false)), AOper.mk (some 24) (AOp.call 35 [Operand.tmp 20, Operand.tmp 22,
  Operand.tmp 23]) (some (18, false)), AOper.mk (some 25) (AOp.un UnOp.not (Operand.tmp 24)) (some (18, false)), AOper.mk (some 26) (AOp.pick
  (Operand.tmp 18) (Operand.const (Value.bool true)) (Operand.tmp 25)) none]) (AC.cond (Operand.tmp 26) (AC.seq (AC.ops [AOper.mk (some 27) (AOp.call 12
  []) none, AOper.mk (some 6) (AOp.mov (Operand.tmp 27)) none]) AC.ret) AC.skip)) (AC.seq (AC.ops [AOper.mk (some 29) (AOp.fadr 0 (Operand.tmp 3)) none,
  AOper.mk (some 30) (AOp.load true 2 (Operand.tmp 29)) none, AOper.mk (some 31) (AOp.fadr 2 (Operand.tmp 3)) none, AOper.mk (some 32) (AOp.load true 2
  (Operand.tmp 31)) none, AOper.mk (some 33) (AOp.fadr 4 (Operand.tmp 3)) none, AOper.mk (some 34) (AOp.load true 2 (Operand.tmp 33)) none, AOper.mk
  (some 35) (AOp.load true 2 (Operand.tmp 4)) none, AOper.mk (some 36) (AOp.load true 2 (Operand.tmp 5)) none, AOper.mk (some 37) (AOp.call 36
  [Operand.tmp 30, Operand.tmp 32, Operand.tmp 34, Operand.tmp 35, Operand.tmp 36]) none, AOper.mk (some 28) (AOp.mov (Operand.tmp 37)) none, AOper.mk
  (some 38) (AOp.ext (Operand.tmp 28) 0) none, AOper.mk (some 39) (AOp.ext (Operand.tmp 28) 1) none, AOper.mk (some 7) (AOp.zro 29 (PV.agg [PV.v
  (Value.slice none 0 0), PV.v (Value.slice none 0 0)])) none, AOper.mk none (AOp.store 2 (Operand.tmp 7) (Operand.tmp 38)) none, AOper.mk (some 8)
  (AOp.mov (Operand.tmp 39)) none]) (AC.seq (AC.ops [AOper.mk (some 41) (AOp.load true 6 (Operand.tmp 3)) none, AOper.mk (some 42) (AOp.load true 2
  (Operand.tmp 4)) none, AOper.mk (some 43) (AOp.load true 2 (Operand.tmp 5)) none, AOper.mk (some 44) (AOp.call 37 [Operand.tmp 41, Operand.tmp 42,
  Operand.tmp 43]) none, AOper.mk (some 40) (AOp.mov (Operand.tmp 44)) none, AOper.mk (some 45) (AOp.ext (Operand.tmp 40) 0) none, AOper.mk (some 46)
  (AOp.ext (Operand.tmp 40) 1) none, AOper.mk (some 9) (AOp.zro 33 (PV.agg [PV.v (Value.slice none 0 0), PV.v (Value.slice none 0 0)])) none, AOper.mk
  none (AOp.store 2 (Operand.tmp 9) (Operand.tmp 45)) none, AOper.mk (some 10) (AOp.mov (Operand.tmp 46)) none]) (AC.seq (AC.ops [AOper.mk (some 47)
  (AOp.call 12 []) none, AOper.mk (some 48) (AOp.mov (Operand.tmp 47)) none, AOper.mk (some 49) (AOp.load true 2 (Operand.tmp 7)) (some (48, true)),
  AOper.mk (some 50) (AOp.load true 2 (Operand.tmp 9)) (some (48, true)), AOper.mk (some 51) (AOp.call 26 [Operand.tmp 49, Operand.tmp 50]) (some (48,
  true)), AOper.mk (some 52) (AOp.pick (Operand.tmp 48) (Operand.tmp 51) (Operand.const (Value.bool false))) none, AOper.mk (some 53) (AOp.mov
  (Operand.tmp 52)) none, AOper.mk (some 54) (AOp.mov (Operand.tmp 8)) (some (53, true)), AOper.mk (some 55) (AOp.mov (Operand.tmp 10)) (some (53,
  true)), AOper.mk (some 56) (AOp.bin false BinOp.eql (Operand.tmp 54) (Operand.tmp 55)) (some (53, true)), AOper.mk (some 57) (AOp.pick (Operand.tmp 53)
  (Operand.tmp 56) (Operand.const (Value.bool false))) none, AOper.mk (some 6) (AOp.mov (Operand.tmp 57)) none]) AC.ret))))) [ARes.tmp 6]
theorem cfn8 : cfn Try.prog 8 3 = some c8 := by kernel_rfl
def c9 : AFn :=
  AFn.mk 69 (AC.seq (AC.ops [AOper.mk (some 2) (AOp.box 26 (Operand.tmp 0)) none, AOper.mk (some 4) (AOp.mov (Operand.const (Value.bool false))) none])
  (AC.seq (AC.seq (AC.ops [AOper.mk (some 13) (AOp.load true 4 (Operand.tmp 2)) none, AOper.mk (some 14) (AOp.bld [PV.v (Value.slice none 0 0), PV.v
  (Value.slice none 0 0)] [(0, 1), (1, 1)] []) none, AOper.mk (some 15) (AOp.call 11 [Operand.tmp 13, Operand.tmp 14]) none, AOper.mk (some 16) (AOp.un
  UnOp.not (Operand.tmp 15)) none]) (AC.cond (Operand.tmp 16) (AC.seq (AC.ops [AOper.mk (some 17) (AOp.call 12 []) none, AOper.mk (some 4) (AOp.mov
  (Operand.tmp 17)) none]) AC.ret) AC.skip)) (AC.seq (AC.ops [AOper.mk (some 19) (AOp.fadr 0 (Operand.tmp 2)) none, AOper.mk (some 20) (AOp.load true 2
  (Operand.tmp 19)) none, AOper.mk (some 21) (AOp.call 38 [Operand.tmp 20]) none, AOper.mk (some 18) (AOp.mov (Operand.tmp 21)) none, AOper.mk (some 22)
  (AOp.ext (Operand.tmp 18) 0) none, AOper.mk (some 23) (AOp.ext (Operand.tmp 18) 1) none, AOper.mk (some 5) (AOp.zro 29 (PV.agg [PV.v (Value.slice none
  0 0), PV.v (Value.slice none 0 0)])) none, AOper.mk none (AOp.store 2 (Operand.tmp 5) (Operand.tmp 22)) none, AOper.mk (some 6) (AOp.mov (Operand.tmp
  23)) none]) (AC.seq (AC.ops [AOper.mk (some 25) (AOp.fadr 0 (Operand.tmp 2)) none, AOper.mk (some 26) (AOp.load true 2 (Operand.tmp 25)) none, AOper.mk
  (some 27) (AOp.call 39 [Operand.tmp 26]) none, AOper.mk (some 24) (AOp.mov (Operand.tmp 27)) none, AOper.mk (some 28) (AOp.ext (Operand.tmp 24) 0)
  none, AOper.mk (some 29) (AOp.ext (Operand.tmp 24) 1) none, AOper.mk (some 7) (AOp.zro 33 (PV.agg [PV.v (Value.slice none 0 0), PV.v (Value.slice none
  0 0)])) none, AOper.mk none (AOp.store 2 (Operand.tmp 7) (Operand.tmp 28)) none, AOper.mk (some 8) (AOp.mov (Operand.tmp 29)) none]) (AC.seq (AC.ops
  [AOper.mk (some 31) (AOp.fadr 0 (Operand.tmp 2)) none, AOper.mk (some 32) (AOp.load true 2 (Operand.tmp 31)) none, AOper.mk (some 33) (AOp.fadr 2
  (Operand.tmp 2)) none, AOper.mk (some 34) (AOp.load true 2 (Operand.tmp 33)) none, AOper.mk (some 35) (AOp.mov (Operand.tmp 1)) none, AOper.mk (some
  36) (AOp.call 40 [Operand.tmp 32, Operand.tmp 34, Operand.tmp 35]) none, AOper.mk (some 30) (AOp.mov (Operand.tmp 36)) none, AOper.mk (some 37)
  (AOp.ext (Operand.tmp 30) 0) none, AOper.mk (some 38) (AOp.ext (Operand.tmp 30) 1) none, AOper.mk (some 9) (AOp.zro 29 (PV.agg [PV.v (Value.slice none
  0 0), PV.v (Value.slice none 0 0)])) none, AOper.mk none (AOp.store 2 (Operand.tmp 9) (Operand.tmp 37)) none, AOper.mk (some 10) (AOp.mov (Operand.tmp
  38)) none]) (AC.seq (AC.ops [AOper.mk (some 40) (AOp.fadr 0 (Operand.tmp 2)) none, AOper.mk (some 41) (AOp.load true 2 (Operand.tmp 40)) none, AOper.mk
  (some 42) (AOp.fadr 2 (Operand.tmp 2)) none, AOper.mk (some 43) (AOp.load true 2 (Operand.tmp 42)) none, AOper.mk (some 44) (AOp.mov (Operand.tmp 1))
  none, AOper.mk (some 45) (AOp.call 41 [Operand.tmp 41, Operand.tmp 43, Operand.tmp 44]) none, AOper.mk (some 39) (AOp.mov (Operand.tmp 45)) none,
  AOper.mk (some 46) (AOp.ext (Operand.tmp 39) 0) none, AOper.mk (some 47) (AOp.ext (Operand.tmp 39) 1) none, AOper.mk (some 11) (AOp.zro 33 (PV.agg
  [PV.v (Value.slice none 0 0), PV.v (Value.slice none 0 0)])) none, AOper.mk none (AOp.store 2 (Operand.tmp 11) (Operand.tmp 46)) none, AOper.mk (some
  12) (AOp.mov (Operand.tmp 47)) none]) (AC.seq (AC.ops [AOper.mk (some 48) (AOp.call 12 []) none, AOper.mk (some 49) (AOp.mov (Operand.tmp 48)) none,
  AOper.mk (some 50) (AOp.load true 2 (Operand.tmp 5)) (some (49, true)), AOper.mk (some 51) (AOp.load true 2 (Operand.tmp 7)) (some (49, true)),
  AOper.mk (some 52) (AOp.call 26 [Operand.tmp 50, Operand.tmp 51]) (some (49, true)), AOper.mk (some 53) (AOp.pick (Operand.tmp 49) (Operand.tmp 52)
  (Operand.const (Value.bool false))) none, AOper.mk (some 54) (AOp.mov (Operand.tmp 53)) none, AOper.mk (some 55) (AOp.mov (Operand.tmp 6)) (some (54,
  true)), AOper.mk (some 56) (AOp.mov (Operand.tmp 8)) (some (54, true)), AOper.mk (some 57) (AOp.bin false BinOp.eql (Operand.tmp 55) (Operand.tmp 56))
  (some (54, true)), AOper.mk (some 58) (AOp.pick (Operand.tmp 54) (Operand.tmp 57) (Operand.const (Value.bool false))) none, AOper.mk (some 59) (AOp.mov
  (Operand.tmp 58)) none, AOper.mk (some 60) (AOp.load true 2 (Operand.tmp 9)) (some (59, true)), AOper.mk (some 61) (AOp.load true 2 (Operand.tmp 11))
  (some (59, true)), AOper.mk (some 62) (AOp.call 26 [Operand.tmp 60, Operand.tmp 61]) (some (59, true)), AOper.mk (some 63) (AOp.pick (Operand.tmp 59)
  (Operand.tmp 62) (Operand.const (Value.bool false))) none, AOper.mk (some 64) (AOp.mov (Operand.tmp 63)) none, AOper.mk (some 65) (AOp.mov (Operand.tmp
  10)) (some (64, true)), AOper.mk (some 66) (AOp.mov (Operand.tmp 12)) (some (64, true)), AOper.mk (some 67) (AOp.bin false BinOp.eql (Operand.tmp 65)
  (Operand.tmp 66)) (some (64, true)), AOper.mk (some 68) (AOp.pick (Operand.tmp 64) (Operand.tmp 67) (Operand.const (Value.bool false))) none, AOper.mk
  (some 4) (AOp.mov (Operand.tmp 68)) none]) AC.ret))))))) [ARes.tmp 4]
theorem cfn9 : cfn Try.prog 9 2 = some c9 := by kernel_rfl
def c10 : AFn :=
  AFn.mk 171 (AC.seq (AC.ops [AOper.mk (some 3) (AOp.box 64 (Operand.tmp 0)) none, AOper.mk (some 4) (AOp.box 29 (Operand.tmp 1)) none, AOper.mk (some 5)
  (AOp.box 29 (Operand.tmp 2)) none, AOper.mk (some 6) (AOp.mov (Operand.const (Value.bool false))) none]) (AC.seq (AC.seq (AC.ops [AOper.mk (some 23)
  (AOp.fadr 0 (Operand.tmp 3)) none, AOper.mk (some 24) (AOp.load true 2 (Operand.tmp 23)) none, AOper.mk (some 25) (AOp.fadr 2 (Operand.tmp 3)) none,
  AOper.mk (some 26) (AOp.load true 2 (Operand.tmp 25)) none, AOper.mk (some 27) (AOp.bld [PV.v (Value.int IntKind.i64 0), PV.v (Value.slice none 0 0),
  PV.v (Value.int IntKind.i64 0), PV.v (Value.slice none 0 0)] [(0, 2), (2, 2)] [(0, Operand.tmp 24), (1, Operand.tmp 26)]) none, AOper.mk (some 28)
  (AOp.load true 2 (Operand.tmp 4)) none, AOper.mk (some 29) (AOp.call 20 [Operand.tmp 27, Operand.tmp 28]) none, AOper.mk (some 30) (AOp.un UnOp.not
  (Operand.tmp 29)) none, AOper.mk (some 31) (AOp.mov (Operand.tmp 30)) none, AOper.mk (some 32) (AOp.fadr 2 (Operand.tmp 3)) (some (31, false)),
  AOper.mk (some 33) (AOp.load true 2 (Operand.tmp 32)) (some (31, false)), AOper.mk (some 34) (AOp.fadr 4 (Operand.tmp 3)) (some (31, false)), AOper.mk
  (some 35) (AOp.load true 2 (Operand.tmp 34)) (some (31, false)), AOper.mk (some 36) (AOp.bld [PV.v (Value.int IntKind.i64 0), PV.v (Value.slice none 0
  0), PV.v (Value.int IntKind.i64 0), PV.v (Value.slice none 0 0)] [(0, 2), (2, 2)] [(0, Operand.tmp 33), (1, Operand.tmp 35)]) (some (31, false)),
  AOper.mk (some 37) (AOp.load true 2 (Operand.tmp 5)) (some (31, false)), AOper.mk (some 38) (AOp.call 20 [Operand.tmp 36, Operand.tmp 37]) (some (31,
  false)), AOper.mk (some 39) (AOp.un UnOp.not (Operand.tmp 38)) (some (31, false)), AOper.mk (some 40) (AOp.pick (Operand.tmp 31) (Operand.const
  (Value.bool true)) (Operand.tmp 39)) none]) (AC.cond (Operand.tmp 40) (AC.seq (AC.ops [AOper.mk (some 41) (AOp.call 12 []) none, AOper.mk (some 6)
  (AOp.mov (Operand.tmp 41)) none]) AC.ret) AC.skip)) (AC.seq (AC.ops [AOper.mk (some 43) (AOp.fadr 0 (Operand.tmp 3)) none, AOper.mk (some 44) (AOp.load
  true 2 (Operand.tmp 43)) none, AOper.mk (some 45) (AOp.fadr 2 (Operand.tmp 3)) none, AOper.mk (some 46) (AOp.load true 2 (Operand.tmp 45)) none,
  AOper.mk (some 47) (AOp.fadr 4 (Operand.tmp 3)) none, AOper.mk (some 48) (AOp.load true 2 (Operand.tmp 47)) none, AOper.mk (some 49) (AOp.load true 2
  (Operand.tmp 4)) none, AOper.mk (some 50) (AOp.load true 2 (Operand.tmp 5)) none, AOper.mk (some 51) (AOp.call 36 [Operand.tmp 44, Operand.tmp 46,
  Operand.tmp 48, Operand.tmp 49, Operand.tmp 50]) none, AOper.mk (some 42) (AOp.mov (Operand.tmp 51)) none, AOper.mk (some 52) (AOp.ext (Operand.tmp 42)
  0) none, AOper.mk (some 53) (AOp.ext (Operand.tmp 42) 1) none, AOper.mk (some 7) (AOp.zro 29 (PV.agg [PV.v (Value.slice none 0 0), PV.v (Value.slice
  none 0 0)])) none, AOper.mk none (AOp.store 2 (Operand.tmp 7) (Operand.tmp 52)) none, AOper.mk (some 8) (AOp.mov (Operand.tmp 53)) none]) (AC.seq
  (AC.ops [AOper.mk (some 55) (AOp.fadr 0 (Operand.tmp 3)) none, AOper.mk (some 56) (AOp.load true 2 (Operand.tmp 55)) none, AOper.mk (some 57) (AOp.fadr
  4 (Operand.tmp 3)) none, AOper.mk (some 58) (AOp.load true 2 (Operand.tmp 57)) none, AOper.mk (some 59) (AOp.load true 2 (Operand.tmp 7)) none,
  AOper.mk (some 60) (AOp.call 14 [Operand.tmp 56, Operand.tmp 58, Operand.tmp 59]) none, AOper.mk (some 54) (AOp.mov (Operand.tmp 60)) none, AOper.mk
  (some 61) (AOp.ext (Operand.tmp 54) 0) none, AOper.mk (some 62) (AOp.ext (Operand.tmp 54) 1) none, AOper.mk (some 9) (AOp.mov (Operand.tmp 61)) none,
  AOper.mk (some 10) (AOp.mov (Operand.tmp 62)) none]) (AC.seq (AC.ops [AOper.mk (some 64) (AOp.fadr 0 (Operand.tmp 3)) none, AOper.mk (some 65)
  (AOp.load true 2 (Operand.tmp 64)) none, AOper.mk (some 66) (AOp.fadr 2 (Operand.tmp 3)) none, AOper.mk (some 67) (AOp.load true 2 (Operand.tmp 66))
  none, AOper.mk (some 68) (AOp.load true 2 (Operand.tmp 4)) none, AOper.mk (some 69) (AOp.call 17 [Operand.tmp 65, Operand.tmp 67, Operand.tmp 68])
  none, AOper.mk (some 63) (AOp.mov (Operand.tmp 69)) none, AOper.mk (some 70) (AOp.ext (Operand.tmp 63) 0) none, AOper.mk (some 71) (AOp.ext
  (Operand.tmp 63) 1) none, AOper.mk (some 11) (AOp.mov (Operand.tmp 70)) none, AOper.mk (some 12) (AOp.mov (Operand.tmp 71)) none]) (AC.seq (AC.ops
  [AOper.mk (some 73) (AOp.fadr 2 (Operand.tmp 3)) none, AOper.mk (some 74) (AOp.load true 2 (Operand.tmp 73)) none, AOper.mk (some 75) (AOp.fadr 4
  (Operand.tmp 3)) none, AOper.mk (some 76) (AOp.load true 2 (Operand.tmp 75)) none, AOper.mk (some 77) (AOp.load true 2 (Operand.tmp 5)) none, AOper.mk
  (some 78) (AOp.call 17 [Operand.tmp 74, Operand.tmp 76, Operand.tmp 77]) none, AOper.mk (some 72) (AOp.mov (Operand.tmp 78)) none, AOper.mk (some 79)
  (AOp.ext (Operand.tmp 72) 0) none, AOper.mk (some 80) (AOp.ext (Operand.tmp 72) 1) none, AOper.mk (some 13) (AOp.mov (Operand.tmp 79)) none, AOper.mk
  (some 14) (AOp.mov (Operand.tmp 80)) none]) (AC.seq (AC.ops [AOper.mk (some 82) (AOp.fadr 0 (Operand.tmp 3)) none, AOper.mk (some 83) (AOp.load true 2
  (Operand.tmp 82)) none, AOper.mk (some 84) (AOp.fadr 4 (Operand.tmp 3)) none, AOper.mk (some 85) (AOp.load true 2 (Operand.tmp 84)) none, AOper.mk
  (some 86) (AOp.load true 2 (Operand.tmp 7)) none, AOper.mk (some 87) (AOp.call 17 [Operand.tmp 83, Operand.tmp 85, Operand.tmp 86]) none, AOper.mk
  (some 81) (AOp.mov (Operand.tmp 87)) none, AOper.mk (some 88) (AOp.ext (Operand.tmp 81) 0) none, AOper.mk (some 89) (AOp.ext (Operand.tmp 81) 1) none,
  AOper.mk (some 15) (AOp.mov (Operand.tmp 88)) none, AOper.mk (some 16) (AOp.mov (Operand.tmp 89)) none]) (AC.seq (AC.ops [AOper.mk (some 91) (AOp.fadr
  0 (Operand.tmp 3)) none, AOper.mk (some 92) (AOp.load true 2 (Operand.tmp 91)) none, AOper.mk (some 93) (AOp.call 38 [Operand.tmp 92]) none, AOper.mk
  (some 90) (AOp.mov (Operand.tmp 93)) none, AOper.mk (some 94) (AOp.ext (Operand.tmp 90) 0) none, AOper.mk (some 95) (AOp.ext (Operand.tmp 90) 1) none,
  AOper.mk (some 17) (AOp.zro 29 (PV.agg [PV.v (Value.slice none 0 0), PV.v (Value.slice none 0 0)])) none, AOper.mk none (AOp.store 2 (Operand.tmp 17)
  (Operand.tmp 94)) none, AOper.mk (some 18) (AOp.mov (Operand.tmp 95)) none]) (AC.seq (AC.ops [AOper.mk (some 97) (AOp.fadr 0 (Operand.tmp 3)) none,
  AOper.mk (some 98) (AOp.load true 2 (Operand.tmp 97)) none, AOper.mk (some 99) (AOp.fadr 0 (Operand.tmp 3)) none, AOper.mk (some 100) (AOp.load true 2
  (Operand.tmp 99)) none, AOper.mk (some 101) (AOp.fadr 2 (Operand.tmp 3)) none, AOper.mk (some 102) (AOp.load true 2 (Operand.tmp 101)) none, AOper.mk
  (some 103) (AOp.load true 2 (Operand.tmp 17)) none, AOper.mk (some 104) (AOp.load true 2 (Operand.tmp 4)) none, AOper.mk (some 105) (AOp.call 36
  [Operand.tmp 98, Operand.tmp 100, Operand.tmp 102, Operand.tmp 103, Operand.tmp 104]) none, AOper.mk (some 96) (AOp.mov (Operand.tmp 105)) none,
  AOper.mk (some 106) (AOp.ext (Operand.tmp 96) 0) none, AOper.mk (some 107) (AOp.ext (Operand.tmp 96) 1) none, AOper.mk (some 19) (AOp.zro 29 (PV.agg
  [PV.v (Value.slice none 0 0), PV.v (Value.slice none 0 0)])) none, AOper.mk none (AOp.store 2 (Operand.tmp 19) (Operand.tmp 106)) none, AOper.mk (some
  20) (AOp.mov (Operand.tmp 107)) none]) (AC.seq (AC.ops [AOper.mk (some 109) (AOp.fadr 0 (Operand.tmp 3)) none, AOper.mk (some 110) (AOp.load true 2
  (Operand.tmp 109)) none, AOper.mk (some 111) (AOp.fadr 0 (Operand.tmp 3)) none, AOper.mk (some 112) (AOp.load true 2 (Operand.tmp 111)) none, AOper.mk
  (some 113) (AOp.load true 2 (Operand.tmp 17)) none, AOper.mk (some 114) (AOp.call 17 [Operand.tmp 110, Operand.tmp 112, Operand.tmp 113]) none,
  AOper.mk (some 108) (AOp.mov (Operand.tmp 114)) none, AOper.mk (some 115) (AOp.ext (Operand.tmp 108) 0) none, AOper.mk (some 116) (AOp.ext (Operand.tmp
  108) 1) none, AOper.mk (some 21) (AOp.mov (Operand.tmp 115)) none, AOper.mk (some 22) (AOp.mov (Operand.tmp 116)) none]) (AC.seq (AC.seq (AC.ops
  [AOper.mk (some 117) (AOp.mov (Operand.tmp 8)) none, AOper.mk (some 118) (AOp.mov (Operand.tmp 10)) none, AOper.mk (some 119) (AOp.bin false BinOp.add
  (Operand.tmp 117) (Operand.tmp 118)) none, AOper.mk (some 120) (AOp.mov (Operand.tmp 12)) none, AOper.mk (some 121) (AOp.bin false BinOp.add
  (Operand.tmp 119) (Operand.tmp 120)) none, AOper.mk (some 122) (AOp.mov (Operand.tmp 14)) none, AOper.mk (some 123) (AOp.bin false BinOp.add
  (Operand.tmp 121) (Operand.tmp 122)) none, AOper.mk (some 124) (AOp.mov (Operand.tmp 16)) none, AOper.mk (some 125) (AOp.bin false BinOp.add
  (Operand.tmp 123) (Operand.tmp 124)) none, AOper.mk (some 126) (AOp.mov (Operand.tmp 18)) none, AOper.mk (some 127) (AOp.bin false BinOp.add
  (Operand.tmp 125) (Operand.tmp 126)) none, AOper.mk (some 128) (AOp.mov (Operand.tmp 20)) none, AOper.mk (some 129) (AOp.bin false BinOp.add
  (Operand.tmp 127) (Operand.tmp 128)) none, AOper.mk (some 130) (AOp.mov (Operand.tmp 22)) none, AOper.mk (some 131) (AOp.bin false BinOp.add
  (Operand.tmp 129) (Operand.tmp 130)) none, AOper.mk (some 132) (AOp.bin false BinOp.neq (Operand.tmp 131) (Operand.const (Value.int IntKind.i64 0)))
  none, AOper.mk (some 133) (AOp.mov (Operand.tmp 132)) none, AOper.mk (some 134) (AOp.mov (Operand.tmp 9)) (some (133, false)), AOper.mk (some 135)
  (AOp.un UnOp.not (Operand.tmp 134)) (some (133, false)), AOper.mk (some 136) (AOp.pick (Operand.tmp 133) (Operand.const (Value.bool true)) (Operand.tmp
  135)) none, AOper.mk (some 137) (AOp.mov (Operand.tmp 136)) none, AOper.mk (some 138) (AOp.load true 2 (Operand.tmp 19)) (some (137, false)), AOper.mk
  (some 139) (AOp.load true 2 (Operand.tmp 4)) (some (137, false)), AOper.mk (some 140) (AOp.call 25 [Operand.tmp 138, Operand.tmp 139]) (some (137,
  false)), AOper.mk (some 141) (AOp.un UnOp.not (Operand.tmp 140)) (some (137, false)), AOper.mk (some 142) (AOp.pick (Operand.tmp 137) (Operand.const
  (Value.bool true)) (Operand.tmp 141)) none, AOper.mk (some 143) (AOp.mov (Operand.tmp 142)) none, AOper.mk (some 144) (AOp.fadr 0 (Operand.tmp 3))
  (some (143, false)), AOper.mk (some 145) (AOp.fadr 0 (Operand.tmp 144)) (some (143, false)), AOper.mk (some 146) (AOp.load false 1 (Operand.tmp 145))
  (some (143, false)), AOper.mk (some 147) (AOp.bin false BinOp.gtr (Operand.tmp 146) (Operand.const (Value.int IntKind.i64 1))) (some (143, false)),
  AOper.mk (some 148) (AOp.mov (Operand.tmp 147)) (some (143, false)), AOper.mk (some 149) (AOp.mov (Operand.tmp 21)) (some (148, true)), AOper.mk (some
  150) (AOp.bin false BinOp.neq (Operand.tmp 149) (Operand.const (Value.int IntKind.i64 1))) (some (148, true)), AOper.mk (some 151) (AOp.pick
  (Operand.tmp 148) (Operand.tmp 150) (Operand.const (Value.bool false))) (some (143, false)), AOper.mk (some 152) (AOp.pick (Operand.tmp 143)
  (Operand.const (Value.bool true)) (Operand.tmp 151)) none]) (AC.cond (Operand.tmp 152) (AC.seq (AC.ops [AOper.mk (some 6) (AOp.mov (Operand.const
  (Value.bool false))) none]) AC.ret) AC.skip)) (AC.seq (AC.ops [AOper.mk (some 153) (AOp.fadr 4 (Operand.tmp 3)) none, AOper.mk (some 154) (AOp.fadr 0
  (Operand.tmp 153)) none, AOper.mk (some 155) (AOp.load false 1 (Operand.tmp 154)) none, AOper.mk (some 156) (AOp.bin false BinOp.eql (Operand.tmp 155)
  (Operand.const (Value.int IntKind.i64 1))) none, AOper.mk (some 157) (AOp.mov (Operand.tmp 156)) none, AOper.mk (some 158) (AOp.mov (Operand.tmp 15))
  (some (157, true)), AOper.mk (some 159) (AOp.bin false BinOp.eql (Operand.tmp 158) (Operand.const (Value.int IntKind.i64 0))) (some (157, true)),
  AOper.mk (some 160) (AOp.pick (Operand.tmp 157) (Operand.tmp 159) (Operand.const (Value.bool false))) none, AOper.mk (some 161) (AOp.mov (Operand.tmp
  160)) none, AOper.mk (some 162) (AOp.mov (Operand.tmp 15)) (some (161, false)), AOper.mk (some 163) (AOp.mov (Operand.tmp 11)) (some (161, false)),
  AOper.mk (some 164) (AOp.mov (Operand.tmp 13)) (some (161, false)), AOper.mk (some 165) (AOp.bin false BinOp.mul (Operand.tmp 163) (Operand.tmp 164))
  (some (161, false)), AOper.mk (some 166) (AOp.bin false BinOp.eql (Operand.tmp 162) (Operand.tmp 165)) (some (161, false)), AOper.mk (some 167)
  (AOp.pick (Operand.tmp 161) (Operand.const (Value.bool true)) (Operand.tmp 166)) none, AOper.mk (some 168) (AOp.mov (Operand.tmp 167)) none, AOper.mk
  (some 169) (AOp.call 12 []) (some (168, true)), AOper.mk (some 170) (AOp.pick (Operand.tmp 168) (Operand.tmp 169) (Operand.const (Value.bool false)))
  none, AOper.mk (some 6) (AOp.mov (Operand.tmp 170)) none]) AC.ret)))))))))))) [ARes.tmp 6]
theorem cfn10 : cfn Try.prog 10 3 = some c10 := by kernel_rfl
def c11 : AFn :=
  AFn.mk 11 (AC.seq (AC.ops [AOper.mk (some 2) (AOp.box 26 (Operand.tmp 0)) none, AOper.mk (some 3) (AOp.box 29 (Operand.tmp 1)) none, AOper.mk (some 4)
  (AOp.mov (Operand.const (Value.bool false))) none]) (AC.seq (AC.ops [AOper.mk (some 5) (AOp.fadr 0 (Operand.tmp 2)) none, AOper.mk (some 6) (AOp.load
  true 2 (Operand.tmp 5)) none, AOper.mk (some 7) (AOp.fadr 2 (Operand.tmp 2)) none, AOper.mk (some 8) (AOp.load true 2 (Operand.tmp 7)) none, AOper.mk
  (some 9) (AOp.load true 2 (Operand.tmp 3)) none, AOper.mk (some 10) (AOp.call 35 [Operand.tmp 6, Operand.tmp 8, Operand.tmp 9]) none, AOper.mk (some 4)
  (AOp.mov (Operand.tmp 10)) none]) AC.ret)) [ARes.tmp 4]
theorem cfn11 : cfn Try.prog 11 2 = some c11 := by kernel_rfl
def c12 : AFn :=
  AFn.mk 136 (AC.seq (AC.ops [AOper.mk (some 0) (AOp.mov (Operand.const (Value.bool false))) none]) (AC.seq (AC.ops [AOper.mk (some 16) (AOp.call 42 [])
  none, AOper.mk (some 1) (AOp.zro 26 (PV.agg [PV.v (Value.int IntKind.i64 0), PV.v (Value.slice none 0 0), PV.v (Value.int IntKind.i64 0), PV.v
  (Value.slice none 0 0)])) none, AOper.mk none (AOp.store 4 (Operand.tmp 1) (Operand.tmp 16)) none]) (AC.seq (AC.ops [AOper.mk (some 17) (AOp.bsl 3 1
  [Operand.const (Value.int IntKind.i64 0), Operand.const (Value.int IntKind.i64 1), Operand.const (Value.int IntKind.i64 0), Operand.const (Value.int
  IntKind.i64 1)]) none, AOper.mk (some 18) (AOp.bsl 3 1 [Operand.const (Value.int IntKind.i64 0), Operand.const (Value.int IntKind.i64 1), Operand.const
  (Value.int IntKind.i64 1), Operand.const (Value.int IntKind.i64 0)]) none, AOper.mk (some 19) (AOp.bld [PV.v (Value.slice none 0 0), PV.v (Value.slice
  none 0 0)] [(0, 1), (1, 1)] [(0, Operand.tmp 17), (1, Operand.tmp 18)]) none, AOper.mk (some 2) (AOp.zro 29 (PV.agg [PV.v (Value.slice none 0 0), PV.v
  (Value.slice none 0 0)])) none, AOper.mk none (AOp.store 2 (Operand.tmp 2) (Operand.tmp 19)) none]) (AC.seq (AC.ops [AOper.mk (some 20) (AOp.bsl 3 1
  [Operand.const (Value.int IntKind.i64 0), Operand.const (Value.int IntKind.i64 1), Operand.const (Value.int IntKind.i64 0), Operand.const (Value.int
  IntKind.i64 1)]) none, AOper.mk (some 21) (AOp.bsl 3 1 [Operand.const (Value.int IntKind.i64 0), Operand.const (Value.int IntKind.i64 0), Operand.const
  (Value.int IntKind.i64 1), Operand.const (Value.int IntKind.i64 1)]) none, AOper.mk (some 22) (AOp.bld [PV.v (Value.slice none 0 0), PV.v (Value.slice
  none 0 0)] [(0, 1), (1, 1)] [(0, Operand.tmp 20), (1, Operand.tmp 21)]) none, AOper.mk (some 3) (AOp.zro 29 (PV.agg [PV.v (Value.slice none 0 0), PV.v
  (Value.slice none 0 0)])) none, AOper.mk none (AOp.store 2 (Operand.tmp 3) (Operand.tmp 22)) none]) (AC.seq (AC.ops [AOper.mk (some 24) (AOp.fadr 0
  (Operand.tmp 1)) none, AOper.mk (some 25) (AOp.load true 2 (Operand.tmp 24)) none, AOper.mk (some 26) (AOp.fadr 2 (Operand.tmp 1)) none, AOper.mk (some
  27) (AOp.load true 2 (Operand.tmp 26)) none, AOper.mk (some 28) (AOp.load true 2 (Operand.tmp 2)) none, AOper.mk (some 29) (AOp.call 14 [Operand.tmp
  25, Operand.tmp 27, Operand.tmp 28]) none, AOper.mk (some 23) (AOp.mov (Operand.tmp 29)) none, AOper.mk (some 30) (AOp.ext (Operand.tmp 23) 0) none,
  AOper.mk (some 31) (AOp.ext (Operand.tmp 23) 1) none, AOper.mk (some 4) (AOp.mov (Operand.tmp 30)) none, AOper.mk (some 5) (AOp.mov (Operand.tmp 31))
  none]) (AC.seq (AC.ops [AOper.mk (some 33) (AOp.fadr 0 (Operand.tmp 1)) none, AOper.mk (some 34) (AOp.load true 2 (Operand.tmp 33)) none, AOper.mk
  (some 35) (AOp.fadr 2 (Operand.tmp 1)) none, AOper.mk (some 36) (AOp.load true 2 (Operand.tmp 35)) none, AOper.mk (some 37) (AOp.load true 2
  (Operand.tmp 3)) none, AOper.mk (some 38) (AOp.call 14 [Operand.tmp 34, Operand.tmp 36, Operand.tmp 37]) none, AOper.mk (some 32) (AOp.mov (Operand.tmp
  38)) none, AOper.mk (some 39) (AOp.ext (Operand.tmp 32) 0) none, AOper.mk (some 40) (AOp.ext (Operand.tmp 32) 1) none, AOper.mk (some 6) (AOp.mov
  (Operand.tmp 39)) none, AOper.mk (some 7) (AOp.mov (Operand.tmp 40)) none]) (AC.seq (AC.ops [AOper.mk (some 42) (AOp.fadr 0 (Operand.tmp 1)) none,
  AOper.mk (some 43) (AOp.load true 2 (Operand.tmp 42)) none, AOper.mk (some 44) (AOp.fadr 2 (Operand.tmp 1)) none, AOper.mk (some 45) (AOp.load true 2
  (Operand.tmp 44)) none, AOper.mk (some 46) (AOp.load true 2 (Operand.tmp 2)) none, AOper.mk (some 47) (AOp.call 17 [Operand.tmp 43, Operand.tmp 45,
  Operand.tmp 46]) none, AOper.mk (some 41) (AOp.mov (Operand.tmp 47)) none, AOper.mk (some 48) (AOp.ext (Operand.tmp 41) 0) none, AOper.mk (some 49)
  (AOp.ext (Operand.tmp 41) 1) none, AOper.mk (some 8) (AOp.mov (Operand.tmp 48)) none, AOper.mk (some 9) (AOp.mov (Operand.tmp 49)) none]) (AC.seq
  (AC.ops [AOper.mk (some 51) (AOp.fadr 0 (Operand.tmp 1)) none, AOper.mk (some 52) (AOp.load true 2 (Operand.tmp 51)) none, AOper.mk (some 53) (AOp.fadr
  2 (Operand.tmp 1)) none, AOper.mk (some 54) (AOp.load true 2 (Operand.tmp 53)) none, AOper.mk (some 55) (AOp.load true 2 (Operand.tmp 2)) none,
  AOper.mk (some 56) (AOp.call 15 [Operand.tmp 52, Operand.tmp 54, Operand.tmp 55, Operand.const (Value.int IntKind.i64 2)]) none, AOper.mk (some 50)
  (AOp.mov (Operand.tmp 56)) none, AOper.mk (some 57) (AOp.ext (Operand.tmp 50) 0) none, AOper.mk (some 58) (AOp.ext (Operand.tmp 50) 1) none, AOper.mk
  (some 10) (AOp.mov (Operand.tmp 57)) none, AOper.mk (some 11) (AOp.mov (Operand.tmp 58)) none]) (AC.seq (AC.ops [AOper.mk (some 60) (AOp.fadr 0
  (Operand.tmp 1)) none, AOper.mk (some 61) (AOp.load true 2 (Operand.tmp 60)) none, AOper.mk (some 62) (AOp.fadr 2 (Operand.tmp 1)) none, AOper.mk (some
  63) (AOp.load true 2 (Operand.tmp 62)) none, AOper.mk (some 64) (AOp.load true 2 (Operand.tmp 2)) none, AOper.mk (some 65) (AOp.call 23 [Operand.tmp
  61, Operand.tmp 63, Operand.tmp 64, Operand.const (Value.int IntKind.i64 0)]) none, AOper.mk (some 59) (AOp.mov (Operand.tmp 65)) none, AOper.mk (some
  66) (AOp.ext (Operand.tmp 59) 0) none, AOper.mk (some 67) (AOp.ext (Operand.tmp 59) 1) none, AOper.mk (some 12) (AOp.mov (Operand.tmp 66)) none,
  AOper.mk (some 13) (AOp.mov (Operand.tmp 67)) none]) (AC.seq (AC.seq (AC.ops [AOper.mk (some 68) (AOp.mov (Operand.tmp 5)) none, AOper.mk (some 69)
  (AOp.mov (Operand.tmp 7)) none, AOper.mk (some 70) (AOp.bin false BinOp.add (Operand.tmp 68) (Operand.tmp 69)) none, AOper.mk (some 71) (AOp.mov
  (Operand.tmp 9)) none, AOper.mk (some 72) (AOp.bin false BinOp.add (Operand.tmp 70) (Operand.tmp 71)) none, AOper.mk (some 73) (AOp.mov (Operand.tmp
  11)) none, AOper.mk (some 74) (AOp.bin false BinOp.add (Operand.tmp 72) (Operand.tmp 73)) none, AOper.mk (some 75) (AOp.mov (Operand.tmp 13)) none,
  AOper.mk (some 76) (AOp.bin false BinOp.add (Operand.tmp 74) (Operand.tmp 75)) none, AOper.mk (some 77) (AOp.bin false BinOp.neq (Operand.tmp 76)
  (Operand.const (Value.int IntKind.i64 0))) none, AOper.mk (some 78) (AOp.mov (Operand.tmp 77)) none, AOper.mk (some 79) (AOp.mov (Operand.tmp 4)) (some
  (78, false)), AOper.mk (some 80) (AOp.un UnOp.not (Operand.tmp 79)) (some (78, false)), AOper.mk (some 81) (AOp.pick (Operand.tmp 78) (Operand.const
  (Value.bool true)) (Operand.tmp 80)) none, AOper.mk (some 82) (AOp.mov (Operand.tmp 81)) none, AOper.mk (some 83) (AOp.mov (Operand.tmp 6)) (some (82,
  false)), AOper.mk (some 84) (AOp.pick (Operand.tmp 82) (Operand.const (Value.bool true)) (Operand.tmp 83)) none, AOper.mk (some 85) (AOp.mov
  (Operand.tmp 84)) none, AOper.mk (some 86) (AOp.mov (Operand.tmp 8)) (some (85, false)), AOper.mk (some 87) (AOp.bin false BinOp.neq (Operand.tmp 86)
  (Operand.const (Value.int IntKind.i64 2))) (some (85, false)), AOper.mk (some 88) (AOp.pick (Operand.tmp 85) (Operand.const (Value.bool true))
  (Operand.tmp 87)) none, AOper.mk (some 89) (AOp.mov (Operand.tmp 88)) none, AOper.mk (some 90) (AOp.mov (Operand.tmp 10)) (some (89, false)), AOper.mk
  (some 91) (AOp.bin false BinOp.neq (Operand.tmp 90) (Operand.const (Value.int IntKind.i64 1))) (some (89, false)), AOper.mk (some 92) (AOp.pick
  (Operand.tmp 89) (Operand.const (Value.bool true)) (Operand.tmp 91)) none, AOper.mk (some 93) (AOp.mov (Operand.tmp 92)) none, AOper.mk (some 94)
  (AOp.mov (Operand.tmp 12)) (some (93, false)), AOper.mk (some 95) (AOp.bsl 3 1 [Operand.const (Value.int IntKind.i64 0), Operand.const (Value.int
  IntKind.i64 2)]) (some (93, false)), AOper.mk (some 96) (AOp.call 32 [Operand.tmp 94, Operand.tmp 95]) (some (93, false)), AOper.mk (some 97) (AOp.un
  UnOp.not (Operand.tmp 96)) (some (93, false)), AOper.mk (some 98) (AOp.pick (Operand.tmp 93) (Operand.const (Value.bool true)) (Operand.tmp 97)) none])
  (AC.cond (Operand.tmp 98) (AC.seq (AC.ops [AOper.mk (some 0) (AOp.mov (Operand.const (Value.bool false))) none]) AC.ret) AC.skip)) (AC.seq (AC.ops
  [AOper.mk (some 99) (AOp.bld [PV.v (Value.int IntKind.i64 0), PV.v (Value.int IntKind.i64 0), PV.v (Value.int IntKind.i64 0)] [(0, 1), (1, 1), (2, 1)]
  [(0, Operand.const (Value.int IntKind.i64 0)), (1, Operand.const (Value.int IntKind.i64 1)), (2, Operand.const (Value.int IntKind.i64 1))]) none,
  AOper.mk (some 100) (AOp.bld [PV.v (Value.int IntKind.i64 0), PV.v (Value.int IntKind.i64 0), PV.v (Value.int IntKind.i64 0)] [(0, 1), (1, 1), (2, 1)]
  [(0, Operand.const (Value.int IntKind.i64 0)), (1, Operand.const (Value.int IntKind.i64 2)), (2, Operand.const (Value.int IntKind.i64 1))]) none,
  AOper.mk (some 101) (AOp.bld [PV.v (Value.int IntKind.i64 0), PV.v (Value.int IntKind.i64 0), PV.v (Value.int IntKind.i64 0)] [(0, 1), (1, 1), (2, 1)]
  [(0, Operand.const (Value.int IntKind.i64 0)), (1, Operand.const (Value.int IntKind.i64 3)), (2, Operand.const (Value.int IntKind.i64 1))]) none,
  AOper.mk (some 102) (AOp.bsl 78 3 [Operand.tmp 99, Operand.tmp 100, Operand.tmp 101]) none, AOper.mk (some 103) (AOp.bld [PV.v (Value.int IntKind.i64
  0), PV.v (Value.slice none 0 0)] [(0, 1), (1, 1)] [(0, Operand.const (Value.int IntKind.i64 4)), (1, Operand.tmp 102)]) none, AOper.mk (some 14)
  (AOp.zro 24 (PV.agg [PV.v (Value.int IntKind.i64 0), PV.v (Value.slice none 0 0)])) none, AOper.mk none (AOp.store 2 (Operand.tmp 14) (Operand.tmp
  103)) none]) (AC.seq (AC.ops [AOper.mk (some 104) (AOp.bld [PV.v (Value.int IntKind.i64 0), PV.v (Value.int IntKind.i64 0), PV.v (Value.int IntKind.i64
  0)] [(0, 1), (1, 1), (2, 1)] [(0, Operand.const (Value.int IntKind.i64 0)), (1, Operand.const (Value.int IntKind.i64 1)), (2, Operand.const (Value.int
  IntKind.i64 1))]) none, AOper.mk (some 105) (AOp.bsl 78 3 [Operand.tmp 104]) none, AOper.mk (some 106) (AOp.bld [PV.v (Value.int IntKind.i64 0), PV.v
  (Value.slice none 0 0)] [(0, 1), (1, 1)] [(0, Operand.const (Value.int IntKind.i64 2)), (1, Operand.tmp 105)]) none, AOper.mk (some 15) (AOp.zro 24
  (PV.agg [PV.v (Value.int IntKind.i64 0), PV.v (Value.slice none 0 0)])) none, AOper.mk none (AOp.store 2 (Operand.tmp 15) (Operand.tmp 106)) none])
  (AC.seq (AC.ops [AOper.mk (some 107) (AOp.bsl 3 1 [Operand.const (Value.int IntKind.i64 0), Operand.const (Value.int IntKind.i64 1), Operand.const
  (Value.int IntKind.i64 1), Operand.const (Value.int IntKind.i64 1)]) none, AOper.mk (some 108) (AOp.bsl 3 1 [Operand.const (Value.int IntKind.i64 0),
  Operand.const (Value.int IntKind.i64 0), Operand.const (Value.int IntKind.i64 0)]) none, AOper.mk (some 109) (AOp.bld [PV.v (Value.slice none 0 0),
  PV.v (Value.slice none 0 0)] [(0, 1), (1, 1)] [(0, Operand.tmp 107), (1, Operand.tmp 108)]) none, AOper.mk none (AOp.store 2 (Operand.tmp 2)
  (Operand.tmp 109)) none]) (AC.seq (AC.ops [AOper.mk (some 111) (AOp.load true 2 (Operand.tmp 14)) none, AOper.mk (some 112) (AOp.load true 2
  (Operand.tmp 15)) none, AOper.mk (some 113) (AOp.load true 2 (Operand.tmp 2)) none, AOper.mk (some 114) (AOp.call 17 [Operand.tmp 111, Operand.tmp 112,
  Operand.tmp 113]) none, AOper.mk (some 110) (AOp.mov (Operand.tmp 114)) none, AOper.mk (some 115) (AOp.ext (Operand.tmp 110) 0) none, AOper.mk (some
  116) (AOp.ext (Operand.tmp 110) 1) none, AOper.mk (some 8) (AOp.mov (Operand.tmp 115)) none, AOper.mk (some 5) (AOp.mov (Operand.tmp 116)) none])
  (AC.seq (AC.ops [AOper.mk (some 118) (AOp.load true 2 (Operand.tmp 14)) none, AOper.mk (some 119) (AOp.load true 2 (Operand.tmp 15)) none, AOper.mk
  (some 120) (AOp.load true 2 (Operand.tmp 2)) none, AOper.mk (some 121) (AOp.call 15 [Operand.tmp 118, Operand.tmp 119, Operand.tmp 120, Operand.const
  (Value.int IntKind.i64 0)]) none, AOper.mk (some 117) (AOp.mov (Operand.tmp 121)) none, AOper.mk (some 122) (AOp.ext (Operand.tmp 117) 0) none,
  AOper.mk (some 123) (AOp.ext (Operand.tmp 117) 1) none, AOper.mk (some 10) (AOp.mov (Operand.tmp 122)) none, AOper.mk (some 7) (AOp.mov (Operand.tmp
  123)) none]) (AC.seq (AC.ops [AOper.mk (some 124) (AOp.mov (Operand.tmp 5)) none, AOper.mk (some 125) (AOp.mov (Operand.tmp 7)) none, AOper.mk (some
  126) (AOp.bin false BinOp.add (Operand.tmp 124) (Operand.tmp 125)) none, AOper.mk (some 127) (AOp.bin false BinOp.eql (Operand.tmp 126) (Operand.const
  (Value.int IntKind.i64 0))) none, AOper.mk (some 128) (AOp.mov (Operand.tmp 127)) none, AOper.mk (some 129) (AOp.mov (Operand.tmp 8)) (some (128,
  true)), AOper.mk (some 130) (AOp.bin false BinOp.eql (Operand.tmp 129) (Operand.const (Value.int IntKind.i64 3))) (some (128, true)), AOper.mk (some
  131) (AOp.pick (Operand.tmp 128) (Operand.tmp 130) (Operand.const (Value.bool false))) none, AOper.mk (some 132) (AOp.mov (Operand.tmp 131)) none,
  AOper.mk (some 133) (AOp.mov (Operand.tmp 10)) (some (132, true)), AOper.mk (some 134) (AOp.bin false BinOp.eql (Operand.tmp 133) (Operand.const
  (Value.int IntKind.i64 3))) (some (132, true)), AOper.mk (some 135) (AOp.pick (Operand.tmp 132) (Operand.tmp 134) (Operand.const (Value.bool false)))
  none, AOper.mk (some 0) (AOp.mov (Operand.tmp 135)) none]) AC.ret)))))))))))))))) [ARes.tmp 0]
theorem cfn12 : cfn Try.prog 12 0 = some c12 := by kernel_rfl
def c13 : AFn :=
  AFn.mk 95 (AC.seq (AC.ops [AOper.mk (some 3) (AOp.box 24 (Operand.tmp 0)) none, AOper.mk (some 4) (AOp.box 24 (Operand.tmp 1)) none, AOper.mk (some 5)
  (AOp.box 33 (Operand.tmp 2)) none, AOper.mk (some 6) (AOp.mov (Operand.const (Value.int IntKind.i64 0))) none]) (AC.seq (AC.seq (AC.ops [AOper.mk (some
  11) (AOp.load true 2 (Operand.tmp 3)) none, AOper.mk (some 12) (AOp.load true 2 (Operand.tmp 4)) none, AOper.mk (some 13) (AOp.call 43 [Operand.tmp 11,
  Operand.tmp 12]) none, AOper.mk (some 7) (AOp.mov (Operand.tmp 13)) none]) (AC.seq (AC.ops [AOper.mk (some 14) (AOp.mov (Operand.tmp 7)) none, AOper.mk
  (some 15) (AOp.bin false BinOp.neq (Operand.tmp 14) (Operand.const (Value.int IntKind.i64 0))) none]) (AC.cond (Operand.tmp 15) (AC.seq (AC.ops
  [AOper.mk (some 16) (AOp.mov (Operand.tmp 7)) none, AOper.mk (some 6) (AOp.mov (Operand.tmp 16)) none]) AC.ret) AC.skip))) (AC.seq (AC.ops [AOper.mk
  (some 17) (AOp.load true 2 (Operand.tmp 3)) none, AOper.mk (some 18) (AOp.call 44 [Operand.tmp 17]) none, AOper.mk (some 8) (AOp.mov (Operand.tmp 18))
  none]) (AC.seq (AC.seq (AC.ops [AOper.mk (some 19) (AOp.fadr 0 (Operand.tmp 5)) none, AOper.mk (some 20) (AOp.load false 1 (Operand.tmp 19)) none,
  AOper.mk (some 21) (AOp.len (Operand.tmp 20)) none, AOper.mk (some 22) (AOp.fadr 0 (Operand.tmp 3)) none, AOper.mk (some 23) (AOp.load false 1
  (Operand.tmp 22)) none, AOper.mk (some 24) (AOp.bin false BinOp.neq (Operand.tmp 21) (Operand.tmp 23)) none, AOper.mk (some 25) (AOp.mov (Operand.tmp
  24)) none, AOper.mk (some 26) (AOp.fadr 1 (Operand.tmp 5)) (some (25, false)), AOper.mk (some 27) (AOp.load false 1 (Operand.tmp 26)) (some (25,
  false)), AOper.mk (some 28) (AOp.len (Operand.tmp 27)) (some (25, false)), AOper.mk (some 29) (AOp.mov (Operand.tmp 8)) (some (25, false)), AOper.mk
  (some 30) (AOp.len (Operand.tmp 29)) (some (25, false)), AOper.mk (some 31) (AOp.bin false BinOp.neq (Operand.tmp 28) (Operand.tmp 30)) (some (25,
  false)), AOper.mk (some 32) (AOp.pick (Operand.tmp 25) (Operand.const (Value.bool true)) (Operand.tmp 31)) none]) (AC.cond (Operand.tmp 32) (AC.seq
  (AC.ops [AOper.mk (some 6) (AOp.mov (Operand.const (Value.int IntKind.i64 8))) none]) AC.ret) AC.skip)) (AC.seq (AC.seq (AC.ops [AOper.mk (some 9)
  (AOp.mov (Operand.const (Value.int IntKind.i64 0))) none]) (AC.block 0 (AC.loop (AC.seq (AC.seq (AC.ops [AOper.mk (some 33) (AOp.mov (Operand.tmp 9))
  none, AOper.mk (some 34) (AOp.fadr 0 (Operand.tmp 3)) none, AOper.mk (some 35) (AOp.load false 1 (Operand.tmp 34)) none, AOper.mk (some 36) (AOp.bin
  false BinOp.lss (Operand.tmp 33) (Operand.tmp 35)) none]) (AC.cond (Operand.tmp 36) AC.skip (AC.exit 0))) (AC.seq (AC.block 1 (AC.seq (AC.segs
  [([AOper.mk (some 39) (AOp.load true 2 (Operand.tmp 4)) none, AOper.mk (some 40) (AOp.fadr 0 (Operand.tmp 5)) none, AOper.mk (some 41) (AOp.load false
  1 (Operand.tmp 40)) none, AOper.mk (some 42) (AOp.mov (Operand.tmp 9)) none, AOper.mk (some 43) (AOp.iadr 1 (Operand.tmp 41) (Operand.tmp 42)) none,
  AOper.mk (some 44) (AOp.load false 1 (Operand.tmp 43)) none], some (true, AOper.mk (some 45) (AOp.call 29 [Operand.tmp 39, Operand.tmp 44]) none)),
  ([AOper.mk (some 46) (AOp.un UnOp.not (Operand.tmp 45)) none], none)]) (AC.cond (Operand.tmp 46) (AC.seq (AC.ops [AOper.mk (some 6) (AOp.mov
  (Operand.const (Value.int IntKind.i64 2))) none]) AC.ret) AC.skip))) (AC.ops [AOper.mk (some 37) (AOp.mov (Operand.tmp 9)) none, AOper.mk (some 38)
  (AOp.bin false BinOp.add (Operand.tmp 37) (Operand.const (Value.int IntKind.i64 1))) none, AOper.mk (some 9) (AOp.mov (Operand.tmp 38)) none]))))))
  (AC.seq (AC.seq (AC.ops [AOper.mk (some 10) (AOp.mov (Operand.const (Value.int IntKind.i64 0))) none]) (AC.block 2 (AC.loop (AC.seq (AC.seq (AC.ops
  [AOper.mk (some 47) (AOp.mov (Operand.tmp 10)) none, AOper.mk (some 48) (AOp.mov (Operand.tmp 8)) none, AOper.mk (some 49) (AOp.len (Operand.tmp 48))
  none, AOper.mk (some 50) (AOp.bin false BinOp.lss (Operand.tmp 47) (Operand.tmp 49)) none]) (AC.cond (Operand.tmp 50) AC.skip (AC.exit 2))) (AC.seq
  (AC.block 3 (AC.seq (AC.seq (AC.segs [([AOper.mk (some 53) (AOp.fadr 1 (Operand.tmp 5)) none, AOper.mk (some 54) (AOp.load false 1 (Operand.tmp 53))
  none, AOper.mk (some 55) (AOp.mov (Operand.tmp 10)) none, AOper.mk (some 56) (AOp.iadr 1 (Operand.tmp 54) (Operand.tmp 55)) none, AOper.mk (some 57)
  (AOp.load false 1 (Operand.tmp 56)) none, AOper.mk (some 58) (AOp.bin false BinOp.lss (Operand.tmp 57) (Operand.const (Value.int IntKind.i64 (-1))))
  none, AOper.mk (some 59) (AOp.mov (Operand.tmp 58)) none, AOper.mk (some 60) (AOp.fadr 1 (Operand.tmp 5)) (some (59, false)), AOper.mk (some 61)
  (AOp.load false 1 (Operand.tmp 60)) (some (59, false)), AOper.mk (some 62) (AOp.mov (Operand.tmp 10)) (some (59, false)), AOper.mk (some 63) (AOp.iadr
  1 (Operand.tmp 61) (Operand.tmp 62)) (some (59, false)), AOper.mk (some 64) (AOp.load false 1 (Operand.tmp 63)) (some (59, false)), AOper.mk (some 65)
  (AOp.load true 2 (Operand.tmp 4)) (some (59, false))], some (true, AOper.mk (some 66) (AOp.call 21 [Operand.tmp 65]) (some (59, false)))), ([AOper.mk
  (some 67) (AOp.bin false BinOp.geq (Operand.tmp 64) (Operand.tmp 66)) (some (59, false)), AOper.mk (some 68) (AOp.pick (Operand.tmp 59) (Operand.const
  (Value.bool true)) (Operand.tmp 67)) none], none)]) (AC.cond (Operand.tmp 68) (AC.seq (AC.ops [AOper.mk (some 6) (AOp.mov (Operand.const (Value.int
  IntKind.i64 2))) none]) AC.ret) AC.skip)) (AC.seq (AC.segs [([AOper.mk (some 69) (AOp.load true 2 (Operand.tmp 4)) none, AOper.mk (some 70) (AOp.fadr 0
  (Operand.tmp 5)) none, AOper.mk (some 71) (AOp.load false 1 (Operand.tmp 70)) none, AOper.mk (some 72) (AOp.mov (Operand.tmp 8)) none, AOper.mk (some
  73) (AOp.mov (Operand.tmp 10)) none, AOper.mk (some 74) (AOp.iadr 2 (Operand.tmp 72) (Operand.tmp 73)) none, AOper.mk (some 75) (AOp.iadrA 2 1
  (Operand.tmp 74) (Operand.const (Value.int IntKind.i64 0))) none, AOper.mk (some 76) (AOp.load false 1 (Operand.tmp 75)) none, AOper.mk (some 77)
  (AOp.iadr 1 (Operand.tmp 71) (Operand.tmp 76)) none, AOper.mk (some 78) (AOp.load false 1 (Operand.tmp 77)) none, AOper.mk (some 79) (AOp.fadr 0
  (Operand.tmp 5)) none, AOper.mk (some 80) (AOp.load false 1 (Operand.tmp 79)) none, AOper.mk (some 81) (AOp.mov (Operand.tmp 8)) none, AOper.mk (some
  82) (AOp.mov (Operand.tmp 10)) none, AOper.mk (some 83) (AOp.iadr 2 (Operand.tmp 81) (Operand.tmp 82)) none, AOper.mk (some 84) (AOp.iadrA 2 1
  (Operand.tmp 83) (Operand.const (Value.int IntKind.i64 1))) none, AOper.mk (some 85) (AOp.load false 1 (Operand.tmp 84)) none, AOper.mk (some 86)
  (AOp.iadr 1 (Operand.tmp 80) (Operand.tmp 85)) none, AOper.mk (some 87) (AOp.load false 1 (Operand.tmp 86)) none, AOper.mk (some 88) (AOp.fadr 1
  (Operand.tmp 5)) none, AOper.mk (some 89) (AOp.load false 1 (Operand.tmp 88)) none, AOper.mk (some 90) (AOp.mov (Operand.tmp 10)) none, AOper.mk (some
  91) (AOp.iadr 1 (Operand.tmp 89) (Operand.tmp 90)) none, AOper.mk (some 92) (AOp.load false 1 (Operand.tmp 91)) none], some (true, AOper.mk (some 93)
  (AOp.call 45 [Operand.tmp 69, Operand.tmp 78, Operand.tmp 87, Operand.tmp 92]) none)), ([AOper.mk (some 94) (AOp.un UnOp.not (Operand.tmp 93)) none],
  none)]) (AC.cond (Operand.tmp 94) (AC.seq (AC.ops [AOper.mk (some 6) (AOp.mov (Operand.const (Value.int IntKind.i64 15))) none]) AC.ret) AC.skip))))
  (AC.ops [AOper.mk (some 51) (AOp.mov (Operand.tmp 10)) none, AOper.mk (some 52) (AOp.bin false BinOp.add (Operand.tmp 51) (Operand.const (Value.int
  IntKind.i64 1))) none, AOper.mk (some 10) (AOp.mov (Operand.tmp 52)) none])))))) (AC.seq (AC.ops [AOper.mk (some 6) (AOp.mov (Operand.const (Value.int
  IntKind.i64 0))) none]) AC.ret))))))) [ARes.tmp 6]
theorem cfn13 : cfn Try.prog 13 3 = some c13 := by kernel_rfl
def c14 : AFn :=
  AFn.mk 28 (AC.seq (AC.ops [AOper.mk (some 3) (AOp.box 24 (Operand.tmp 0)) none, AOper.mk (some 4) (AOp.box 24 (Operand.tmp 1)) none, AOper.mk (some 5)
  (AOp.box 29 (Operand.tmp 2)) none, AOper.mk (some 6) (AOp.mov (Operand.const (Value.bool false))) none, AOper.mk (some 7) (AOp.mov (Operand.const
  (Value.int IntKind.i64 0))) none]) (AC.seq (AC.ops [AOper.mk (some 13) (AOp.load true 2 (Operand.tmp 3)) none, AOper.mk (some 14) (AOp.load true 2
  (Operand.tmp 4)) none, AOper.mk (some 15) (AOp.load true 2 (Operand.tmp 5)) none, AOper.mk (some 16) (AOp.call 46 [Operand.tmp 13, Operand.tmp 14,
  Operand.tmp 15]) none, AOper.mk (some 12) (AOp.mov (Operand.tmp 16)) none, AOper.mk (some 17) (AOp.ext (Operand.tmp 12) 0) none, AOper.mk (some 18)
  (AOp.ext (Operand.tmp 12) 1) none, AOper.mk (some 8) (AOp.zro 84 (PV.agg [PV.v (Value.int IntKind.i64 0), PV.v (Value.slice none 0 0), PV.v (Value.int
  IntKind.i64 0), PV.v (Value.slice none 0 0), PV.v (Value.slice none 0 0), PV.v (Value.slice none 0 0), PV.v (Value.slice none 0 0), PV.v (Value.slice
  none 0 0)])) none, AOper.mk none (AOp.store 8 (Operand.tmp 8) (Operand.tmp 17)) none, AOper.mk (some 9) (AOp.mov (Operand.tmp 18)) none]) (AC.seq
  (AC.seq (AC.ops [AOper.mk (some 19) (AOp.mov (Operand.tmp 9)) none, AOper.mk (some 20) (AOp.bin false BinOp.neq (Operand.tmp 19) (Operand.const
  (Value.int IntKind.i64 0))) none]) (AC.cond (Operand.tmp 20) (AC.seq (AC.ops [AOper.mk (some 21) (AOp.mov (Operand.tmp 9)) none, AOper.mk (some 6)
  (AOp.mov (Operand.const (Value.bool false))) none, AOper.mk (some 7) (AOp.mov (Operand.tmp 21)) none]) AC.ret) AC.skip)) (AC.seq (AC.ops [AOper.mk
  (some 23) (AOp.load true 8 (Operand.tmp 8)) none, AOper.mk (some 24) (AOp.call 47 [Operand.tmp 23]) none, AOper.mk (some 22) (AOp.mov (Operand.tmp 24))
  none, AOper.mk (some 25) (AOp.ext (Operand.tmp 22) 0) none, AOper.mk (some 26) (AOp.ext (Operand.tmp 22) 1) none, AOper.mk (some 10) (AOp.mov
  (Operand.tmp 25)) none, AOper.mk (some 11) (AOp.mov (Operand.tmp 26)) none]) (AC.seq (AC.ops [AOper.mk (some 27) (AOp.mov (Operand.tmp 11)) none,
  AOper.mk (some 6) (AOp.mov (Operand.tmp 27)) none, AOper.mk (some 7) (AOp.mov (Operand.const (Value.int IntKind.i64 0))) none]) AC.ret))))) [ARes.tmp
  6, ARes.tmp 7]
theorem cfn14 : cfn Try.prog 14 3 = some c14 := by kernel_rfl
def c15 : AFn :=
  AFn.mk 43 (AC.seq (AC.ops [AOper.mk (some 4) (AOp.box 24 (Operand.tmp 0)) none, AOper.mk (some 5) (AOp.box 24 (Operand.tmp 1)) none, AOper.mk (some 6)
  (AOp.box 29 (Operand.tmp 2)) none, AOper.mk (some 8) (AOp.mov (Operand.const (Value.int IntKind.i64 0))) none, AOper.mk (some 9) (AOp.mov
  (Operand.const (Value.int IntKind.i64 0))) none]) (AC.seq (AC.ops [AOper.mk (some 15) (AOp.load true 2 (Operand.tmp 4)) none, AOper.mk (some 16)
  (AOp.load true 2 (Operand.tmp 5)) none, AOper.mk (some 17) (AOp.load true 2 (Operand.tmp 6)) none, AOper.mk (some 18) (AOp.call 46 [Operand.tmp 15,
  Operand.tmp 16, Operand.tmp 17]) none, AOper.mk (some 14) (AOp.mov (Operand.tmp 18)) none, AOper.mk (some 19) (AOp.ext (Operand.tmp 14) 0) none,
  AOper.mk (some 20) (AOp.ext (Operand.tmp 14) 1) none, AOper.mk (some 10) (AOp.zro 84 (PV.agg [PV.v (Value.int IntKind.i64 0), PV.v (Value.slice none 0
  0), PV.v (Value.int IntKind.i64 0), PV.v (Value.slice none 0 0), PV.v (Value.slice none 0 0), PV.v (Value.slice none 0 0), PV.v (Value.slice none 0 0),
  PV.v (Value.slice none 0 0)])) none, AOper.mk none (AOp.store 8 (Operand.tmp 10) (Operand.tmp 19)) none, AOper.mk (some 11) (AOp.mov (Operand.tmp 20))
  none]) (AC.seq (AC.seq (AC.ops [AOper.mk (some 21) (AOp.mov (Operand.tmp 11)) none, AOper.mk (some 22) (AOp.bin false BinOp.neq (Operand.tmp 21)
  (Operand.const (Value.int IntKind.i64 0))) none]) (AC.cond (Operand.tmp 22) (AC.seq (AC.ops [AOper.mk (some 23) (AOp.mov (Operand.tmp 11)) none,
  AOper.mk (some 8) (AOp.mov (Operand.const (Value.int IntKind.i64 0))) none, AOper.mk (some 9) (AOp.mov (Operand.tmp 23)) none]) AC.ret) AC.skip))
  (AC.seq (AC.seq (AC.ops [AOper.mk (some 24) (AOp.mov (Operand.tmp 3)) none, AOper.mk (some 25) (AOp.bin false BinOp.lss (Operand.tmp 24) (Operand.const
  (Value.int IntKind.i64 0))) none, AOper.mk (some 26) (AOp.mov (Operand.tmp 25)) none, AOper.mk (some 27) (AOp.mov (Operand.tmp 3)) (some (26, false)),
  AOper.mk (some 28) (AOp.fadr 0 (Operand.tmp 4)) (some (26, false)), AOper.mk (some 29) (AOp.load false 1 (Operand.tmp 28)) (some (26, false)), AOper.mk
  (some 30) (AOp.bin false BinOp.geq (Operand.tmp 27) (Operand.tmp 29)) (some (26, false)), AOper.mk (some 31) (AOp.pick (Operand.tmp 26) (Operand.const
  (Value.bool true)) (Operand.tmp 30)) none]) (AC.cond (Operand.tmp 31) (AC.seq (AC.ops [AOper.mk (some 8) (AOp.mov (Operand.const (Value.int IntKind.i64
  0))) none, AOper.mk (some 9) (AOp.mov (Operand.const (Value.int IntKind.i64 2))) none]) AC.ret) AC.skip)) (AC.seq (AC.ops [AOper.mk (some 33) (AOp.load
  true 8 (Operand.tmp 10)) none, AOper.mk (some 34) (AOp.call 47 [Operand.tmp 33]) none, AOper.mk (some 32) (AOp.mov (Operand.tmp 34)) none, AOper.mk
  (some 35) (AOp.ext (Operand.tmp 32) 0) none, AOper.mk (some 36) (AOp.ext (Operand.tmp 32) 1) none, AOper.mk (some 12) (AOp.mov (Operand.tmp 35)) none,
  AOper.mk (some 13) (AOp.mov (Operand.tmp 36)) none]) (AC.seq (AC.seq (AC.ops [AOper.mk (some 37) (AOp.mov (Operand.tmp 13)) none, AOper.mk (some 38)
  (AOp.un UnOp.not (Operand.tmp 37)) none]) (AC.cond (Operand.tmp 38) (AC.seq (AC.ops [AOper.mk (some 8) (AOp.mov (Operand.const (Value.int IntKind.i64
  0))) none, AOper.mk (some 9) (AOp.mov (Operand.const (Value.int IntKind.i64 15))) none]) AC.ret) AC.skip)) (AC.seq (AC.ops [AOper.mk (some 39) (AOp.mov
  (Operand.tmp 12)) none, AOper.mk (some 40) (AOp.mov (Operand.tmp 3)) none, AOper.mk (some 41) (AOp.iadr 1 (Operand.tmp 39) (Operand.tmp 40)) none,
  AOper.mk (some 42) (AOp.load false 1 (Operand.tmp 41)) none, AOper.mk (some 8) (AOp.mov (Operand.tmp 42)) none, AOper.mk (some 9) (AOp.mov
  (Operand.const (Value.int IntKind.i64 0))) none]) AC.ret))))))) [ARes.tmp 8, ARes.tmp 9]
theorem cfn15 : cfn Try.prog 15 4 = some c15 := by kernel_rfl
def c16 : AFn :=
  AFn.mk 32 (AC.seq (AC.ops [AOper.mk (some 4) (AOp.box 24 (Operand.tmp 0)) none, AOper.mk (some 5) (AOp.box 24 (Operand.tmp 1)) none, AOper.mk (some 6)
  (AOp.box 33 (Operand.tmp 2)) none, AOper.mk (some 8) (AOp.mov (Operand.const (Value.int IntKind.i64 0))) none, AOper.mk (some 9) (AOp.mov
  (Operand.const (Value.int IntKind.i64 0))) none]) (AC.seq (AC.seq (AC.ops [AOper.mk (some 11) (AOp.load true 2 (Operand.tmp 4)) none, AOper.mk (some
  12) (AOp.load true 2 (Operand.tmp 5)) none, AOper.mk (some 13) (AOp.load true 2 (Operand.tmp 6)) none, AOper.mk (some 14) (AOp.call 13 [Operand.tmp 11,
  Operand.tmp 12, Operand.tmp 13]) none, AOper.mk (some 10) (AOp.mov (Operand.tmp 14)) none]) (AC.seq (AC.ops [AOper.mk (some 15) (AOp.mov (Operand.tmp
  10)) none, AOper.mk (some 16) (AOp.bin false BinOp.neq (Operand.tmp 15) (Operand.const (Value.int IntKind.i64 0))) none]) (AC.cond (Operand.tmp 16)
  (AC.seq (AC.ops [AOper.mk (some 17) (AOp.mov (Operand.tmp 10)) none, AOper.mk (some 8) (AOp.mov (Operand.const (Value.int IntKind.i64 0))) none,
  AOper.mk (some 9) (AOp.mov (Operand.tmp 17)) none]) AC.ret) AC.skip))) (AC.seq (AC.seq (AC.ops [AOper.mk (some 18) (AOp.load true 2 (Operand.tmp 4))
  none, AOper.mk (some 19) (AOp.mov (Operand.tmp 3)) none, AOper.mk (some 20) (AOp.call 29 [Operand.tmp 18, Operand.tmp 19]) none, AOper.mk (some 21)
  (AOp.un UnOp.not (Operand.tmp 20)) none]) (AC.cond (Operand.tmp 21) (AC.seq (AC.ops [AOper.mk (some 8) (AOp.mov (Operand.const (Value.int IntKind.i64
  0))) none, AOper.mk (some 9) (AOp.mov (Operand.const (Value.int IntKind.i64 2))) none]) AC.ret) AC.skip)) (AC.seq (AC.seq (AC.ops [AOper.mk (some 22)
  (AOp.load true 2 (Operand.tmp 4)) none, AOper.mk (some 23) (AOp.load true 2 (Operand.tmp 5)) none, AOper.mk (some 24) (AOp.load true 2 (Operand.tmp 6))
  none, AOper.mk (some 25) (AOp.call 19 [Operand.tmp 22, Operand.tmp 23, Operand.tmp 24]) none, AOper.mk (some 26) (AOp.un UnOp.not (Operand.tmp 25))
  none]) (AC.cond (Operand.tmp 26) (AC.seq (AC.ops [AOper.mk (some 8) (AOp.mov (Operand.const (Value.int IntKind.i64 0))) none, AOper.mk (some 9)
  (AOp.mov (Operand.const (Value.int IntKind.i64 15))) none]) AC.ret) AC.skip)) (AC.seq (AC.ops [AOper.mk (some 27) (AOp.load true 2 (Operand.tmp 4))
  none, AOper.mk (some 28) (AOp.load true 2 (Operand.tmp 5)) none, AOper.mk (some 29) (AOp.load true 2 (Operand.tmp 6)) none, AOper.mk (some 30) (AOp.mov
  (Operand.tmp 3)) none, AOper.mk (some 31) (AOp.call 48 [Operand.tmp 27, Operand.tmp 28, Operand.tmp 29, Operand.tmp 30]) none, AOper.mk (some 8)
  (AOp.mov (Operand.tmp 31)) none, AOper.mk (some 9) (AOp.mov (Operand.const (Value.int IntKind.i64 0))) none]) AC.ret))))) [ARes.tmp 8, ARes.tmp 9]
theorem cfn16 : cfn Try.prog 16 4 = some c16 := by kernel_rfl
def c17 : AFn :=
  AFn.mk 45 (AC.seq (AC.ops [AOper.mk (some 3) (AOp.box 24 (Operand.tmp 0)) none, AOper.mk (some 4) (AOp.box 24 (Operand.tmp 1)) none, AOper.mk (some 5)
  (AOp.box 29 (Operand.tmp 2)) none, AOper.mk (some 6) (AOp.mov (Operand.const (Value.int IntKind.i64 0))) none, AOper.mk (some 7) (AOp.mov
  (Operand.const (Value.int IntKind.i64 0))) none]) (AC.seq (AC.ops [AOper.mk (some 16) (AOp.load true 2 (Operand.tmp 3)) none, AOper.mk (some 17)
  (AOp.load true 2 (Operand.tmp 4)) none, AOper.mk (some 18) (AOp.load true 2 (Operand.tmp 5)) none, AOper.mk (some 19) (AOp.call 46 [Operand.tmp 16,
  Operand.tmp 17, Operand.tmp 18]) none, AOper.mk (some 15) (AOp.mov (Operand.tmp 19)) none, AOper.mk (some 20) (AOp.ext (Operand.tmp 15) 0) none,
  AOper.mk (some 21) (AOp.ext (Operand.tmp 15) 1) none, AOper.mk (some 8) (AOp.zro 84 (PV.agg [PV.v (Value.int IntKind.i64 0), PV.v (Value.slice none 0
  0), PV.v (Value.int IntKind.i64 0), PV.v (Value.slice none 0 0), PV.v (Value.slice none 0 0), PV.v (Value.slice none 0 0), PV.v (Value.slice none 0 0),
  PV.v (Value.slice none 0 0)])) none, AOper.mk none (AOp.store 8 (Operand.tmp 8) (Operand.tmp 20)) none, AOper.mk (some 9) (AOp.mov (Operand.tmp 21))
  none]) (AC.seq (AC.seq (AC.ops [AOper.mk (some 22) (AOp.mov (Operand.tmp 9)) none, AOper.mk (some 23) (AOp.bin false BinOp.neq (Operand.tmp 22)
  (Operand.const (Value.int IntKind.i64 0))) none]) (AC.cond (Operand.tmp 23) (AC.seq (AC.ops [AOper.mk (some 24) (AOp.mov (Operand.tmp 9)) none,
  AOper.mk (some 6) (AOp.mov (Operand.const (Value.int IntKind.i64 0))) none, AOper.mk (some 7) (AOp.mov (Operand.tmp 24)) none]) AC.ret) AC.skip))
  (AC.seq (AC.seq (AC.ops [AOper.mk (some 26) (AOp.load true 8 (Operand.tmp 8)) none, AOper.mk (some 27) (AOp.call 47 [Operand.tmp 26]) none, AOper.mk
  (some 25) (AOp.mov (Operand.tmp 27)) none, AOper.mk (some 28) (AOp.ext (Operand.tmp 25) 0) none, AOper.mk (some 29) (AOp.ext (Operand.tmp 25) 1) none,
  AOper.mk (some 10) (AOp.mov (Operand.tmp 28)) none, AOper.mk (some 11) (AOp.mov (Operand.tmp 29)) none]) (AC.seq (AC.ops [AOper.mk (some 30) (AOp.mov
  (Operand.tmp 11)) none, AOper.mk (some 31) (AOp.un UnOp.not (Operand.tmp 30)) none]) (AC.cond (Operand.tmp 31) (AC.seq (AC.ops [AOper.mk (some 6)
  (AOp.mov (Operand.const (Value.int IntKind.i64 0))) none, AOper.mk (some 7) (AOp.mov (Operand.const (Value.int IntKind.i64 15))) none]) AC.ret)
  AC.skip))) (AC.seq (AC.ops [AOper.mk (some 12) (AOp.mov (Operand.const (Value.int IntKind.i64 0))) none]) (AC.seq (AC.seq (AC.ops [AOper.mk (some 32)
  (AOp.fadr 1 (Operand.tmp 5)) none, AOper.mk (some 33) (AOp.load false 1 (Operand.tmp 32)) none, AOper.mk (some 34) (AOp.len (Operand.tmp 33)) none,
  AOper.mk (some 35) (AOp.mov (Operand.const (Value.int IntKind.i64 0))) none]) (AC.block 0 (AC.loop (AC.seq (AC.ops [AOper.mk (some 36) (AOp.bin false
  BinOp.lss (Operand.tmp 35) (Operand.tmp 34)) none]) (AC.seq (AC.cond (Operand.tmp 36) AC.skip (AC.exit 0)) (AC.seq (AC.block 1 (AC.seq (AC.ops
  [AOper.mk (some 37) (AOp.iadr 1 (Operand.tmp 33) (Operand.tmp 35)) none, AOper.mk (some 38) (AOp.load false 1 (Operand.tmp 37)) none, AOper.mk (some
  14) (AOp.mov (Operand.tmp 38)) none]) (AC.seq (AC.ops [AOper.mk (some 39) (AOp.mov (Operand.tmp 14)) none, AOper.mk (some 40) (AOp.bin false BinOp.eql
  (Operand.tmp 39) (Operand.const (Value.int IntKind.i64 0))) none]) (AC.cond (Operand.tmp 40) (AC.ops [AOper.mk (some 41) (AOp.mov (Operand.tmp 12))
  none, AOper.mk (some 42) (AOp.bin false BinOp.add (Operand.tmp 41) (Operand.const (Value.int IntKind.i64 1))) none, AOper.mk (some 12) (AOp.mov
  (Operand.tmp 42)) none]) AC.skip)))) (AC.ops [AOper.mk (some 43) (AOp.bin false BinOp.add (Operand.tmp 35) (Operand.const (Value.int IntKind.i64 1)))
  none, AOper.mk (some 35) (AOp.mov (Operand.tmp 43)) none]))))))) (AC.seq (AC.ops [AOper.mk (some 44) (AOp.mov (Operand.tmp 12)) none, AOper.mk (some 6)
  (AOp.mov (Operand.tmp 44)) none, AOper.mk (some 7) (AOp.mov (Operand.const (Value.int IntKind.i64 0))) none]) AC.ret))))))) [ARes.tmp 6, ARes.tmp 7]
theorem cfn17 : cfn Try.prog 17 3 = some c17 := by kernel_rfl
def c18 : AFn :=
  AFn.mk 26 (AC.seq (AC.ops [AOper.mk (some 3) (AOp.box 24 (Operand.tmp 0)) none, AOper.mk (some 4) (AOp.box 24 (Operand.tmp 1)) none, AOper.mk (some 5)
  (AOp.box 33 (Operand.tmp 2)) none, AOper.mk (some 6) (AOp.mov (Operand.const (Value.int IntKind.i64 0))) none, AOper.mk (some 7) (AOp.mov
  (Operand.const (Value.int IntKind.i64 0))) none]) (AC.seq (AC.seq (AC.ops [AOper.mk (some 9) (AOp.load true 2 (Operand.tmp 3)) none, AOper.mk (some 10)
  (AOp.load true 2 (Operand.tmp 4)) none, AOper.mk (some 11) (AOp.load true 2 (Operand.tmp 5)) none, AOper.mk (some 12) (AOp.call 13 [Operand.tmp 9,
  Operand.tmp 10, Operand.tmp 11]) none, AOper.mk (some 8) (AOp.mov (Operand.tmp 12)) none]) (AC.seq (AC.ops [AOper.mk (some 13) (AOp.mov (Operand.tmp
  8)) none, AOper.mk (some 14) (AOp.bin false BinOp.neq (Operand.tmp 13) (Operand.const (Value.int IntKind.i64 0))) none]) (AC.cond (Operand.tmp 14)
  (AC.seq (AC.ops [AOper.mk (some 15) (AOp.mov (Operand.tmp 8)) none, AOper.mk (some 6) (AOp.mov (Operand.const (Value.int IntKind.i64 0))) none,
  AOper.mk (some 7) (AOp.mov (Operand.tmp 15)) none]) AC.ret) AC.skip))) (AC.seq (AC.seq (AC.ops [AOper.mk (some 16) (AOp.load true 2 (Operand.tmp 3))
  none, AOper.mk (some 17) (AOp.load true 2 (Operand.tmp 4)) none, AOper.mk (some 18) (AOp.load true 2 (Operand.tmp 5)) none, AOper.mk (some 19)
  (AOp.call 19 [Operand.tmp 16, Operand.tmp 17, Operand.tmp 18]) none, AOper.mk (some 20) (AOp.un UnOp.not (Operand.tmp 19)) none]) (AC.cond (Operand.tmp
  20) (AC.seq (AC.ops [AOper.mk (some 6) (AOp.mov (Operand.const (Value.int IntKind.i64 0))) none, AOper.mk (some 7) (AOp.mov (Operand.const (Value.int
  IntKind.i64 15))) none]) AC.ret) AC.skip)) (AC.seq (AC.seq (AC.ops [AOper.mk (some 21) (AOp.fadr 0 (Operand.tmp 4)) none, AOper.mk (some 22) (AOp.load
  false 1 (Operand.tmp 21)) none, AOper.mk (some 23) (AOp.bin false BinOp.eql (Operand.tmp 22) (Operand.const (Value.int IntKind.i64 1))) none]) (AC.cond
  (Operand.tmp 23) (AC.seq (AC.ops [AOper.mk (some 6) (AOp.mov (Operand.const (Value.int IntKind.i64 0))) none, AOper.mk (some 7) (AOp.mov (Operand.const
  (Value.int IntKind.i64 0))) none]) AC.ret) AC.skip)) (AC.seq (AC.ops [AOper.mk (some 24) (AOp.load true 2 (Operand.tmp 5)) none, AOper.mk (some 25)
  (AOp.call 22 [Operand.tmp 24, Operand.const (Value.int IntKind.i64 0)]) none, AOper.mk (some 6) (AOp.mov (Operand.tmp 25)) none, AOper.mk (some 7)
  (AOp.mov (Operand.const (Value.int IntKind.i64 0))) none]) AC.ret))))) [ARes.tmp 6, ARes.tmp 7]
theorem cfn18 : cfn Try.prog 18 3 = some c18 := by kernel_rfl
def c19 : AFn :=
  AFn.mk 26 (AC.seq (AC.ops [AOper.mk (some 3) (AOp.box 24 (Operand.tmp 0)) none, AOper.mk (some 4) (AOp.box 24 (Operand.tmp 1)) none, AOper.mk (some 5)
  (AOp.box 33 (Operand.tmp 2)) none, AOper.mk (some 6) (AOp.mov (Operand.const (Value.bool false))) none]) (AC.seq (AC.seq (AC.ops [AOper.mk (some 7)
  (AOp.mov (Operand.const (Value.int IntKind.i64 0))) none]) (AC.block 0 (AC.loop (AC.seq (AC.seq (AC.ops [AOper.mk (some 10) (AOp.mov (Operand.tmp 7))
  none, AOper.mk (some 11) (AOp.fadr 0 (Operand.tmp 3)) none, AOper.mk (some 12) (AOp.load false 1 (Operand.tmp 11)) none, AOper.mk (some 13) (AOp.bin
  false BinOp.lss (Operand.tmp 10) (Operand.tmp 12)) none]) (AC.cond (Operand.tmp 13) AC.skip (AC.exit 0))) (AC.seq (AC.block 1 (AC.seq (AC.ops [AOper.mk
  (some 17) (AOp.load true 2 (Operand.tmp 3)) none, AOper.mk (some 18) (AOp.load true 2 (Operand.tmp 4)) none, AOper.mk (some 19) (AOp.load true 2
  (Operand.tmp 5)) none, AOper.mk (some 20) (AOp.mov (Operand.tmp 7)) none, AOper.mk (some 21) (AOp.call 49 [Operand.tmp 17, Operand.tmp 18, Operand.tmp
  19, Operand.tmp 20]) none, AOper.mk (some 16) (AOp.mov (Operand.tmp 21)) none, AOper.mk (some 22) (AOp.ext (Operand.tmp 16) 0) none, AOper.mk (some 23)
  (AOp.ext (Operand.tmp 16) 1) none, AOper.mk (some 8) (AOp.mov (Operand.tmp 22)) none, AOper.mk (some 9) (AOp.mov (Operand.tmp 23)) none]) (AC.seq
  (AC.ops [AOper.mk (some 24) (AOp.mov (Operand.tmp 9)) none, AOper.mk (some 25) (AOp.un UnOp.not (Operand.tmp 24)) none]) (AC.cond (Operand.tmp 25)
  (AC.seq (AC.ops [AOper.mk (some 6) (AOp.mov (Operand.const (Value.bool false))) none]) AC.ret) AC.skip)))) (AC.ops [AOper.mk (some 14) (AOp.mov
  (Operand.tmp 7)) none, AOper.mk (some 15) (AOp.bin false BinOp.add (Operand.tmp 14) (Operand.const (Value.int IntKind.i64 1))) none, AOper.mk (some 7)
  (AOp.mov (Operand.tmp 15)) none])))))) (AC.seq (AC.ops [AOper.mk (some 6) (AOp.mov (Operand.const (Value.bool true))) none]) AC.ret))) [ARes.tmp 6]
theorem cfn19 : cfn Try.prog 19 3 = some c19 := by kernel_rfl
def c20 : AFn :=
  AFn.mk 25 (AC.seq (AC.ops [AOper.mk (some 2) (AOp.box 26 (Operand.tmp 0)) none, AOper.mk (some 3) (AOp.box 29 (Operand.tmp 1)) none, AOper.mk (some 4)
  (AOp.mov (Operand.const (Value.bool false))) none]) (AC.seq (AC.ops [AOper.mk (some 5) (AOp.load true 4 (Operand.tmp 2)) none, AOper.mk (some 6)
  (AOp.load true 2 (Operand.tmp 3)) none, AOper.mk (some 7) (AOp.call 11 [Operand.tmp 5, Operand.tmp 6]) none, AOper.mk (some 8) (AOp.mov (Operand.tmp
  7)) none, AOper.mk (some 9) (AOp.fadr 0 (Operand.tmp 2)) (some (8, true)), AOper.mk (some 10) (AOp.load true 2 (Operand.tmp 9)) (some (8, true)),
  AOper.mk (some 11) (AOp.fadr 2 (Operand.tmp 2)) (some (8, true)), AOper.mk (some 12) (AOp.load true 2 (Operand.tmp 11)) (some (8, true)), AOper.mk
  (some 13) (AOp.load true 2 (Operand.tmp 3)) (some (8, true)), AOper.mk (some 14) (AOp.call 13 [Operand.tmp 10, Operand.tmp 12, Operand.tmp 13]) (some
  (8, true)), AOper.mk (some 15) (AOp.bin false BinOp.eql (Operand.tmp 14) (Operand.const (Value.int IntKind.i64 0))) (some (8, true)), AOper.mk (some
  16) (AOp.pick (Operand.tmp 8) (Operand.tmp 15) (Operand.const (Value.bool false))) none, AOper.mk (some 17) (AOp.mov (Operand.tmp 16)) none, AOper.mk
  (some 18) (AOp.fadr 0 (Operand.tmp 2)) (some (17, true)), AOper.mk (some 19) (AOp.load true 2 (Operand.tmp 18)) (some (17, true)), AOper.mk (some 20)
  (AOp.fadr 2 (Operand.tmp 2)) (some (17, true)), AOper.mk (some 21) (AOp.load true 2 (Operand.tmp 20)) (some (17, true)), AOper.mk (some 22) (AOp.load
  true 2 (Operand.tmp 3)) (some (17, true)), AOper.mk (some 23) (AOp.call 19 [Operand.tmp 19, Operand.tmp 21, Operand.tmp 22]) (some (17, true)),
  AOper.mk (some 24) (AOp.pick (Operand.tmp 17) (Operand.tmp 23) (Operand.const (Value.bool false))) none, AOper.mk (some 4) (AOp.mov (Operand.tmp 24))
  none]) AC.ret)) [ARes.tmp 4]
theorem cfn20 : cfn Try.prog 20 2 = some c20 := by kernel_rfl
def c21 : AFn :=
  AFn.mk 6 (AC.seq (AC.ops [AOper.mk (some 1) (AOp.box 24 (Operand.tmp 0)) none, AOper.mk (some 2) (AOp.mov (Operand.const (Value.int IntKind.i64 0)))
  none]) (AC.seq (AC.ops [AOper.mk (some 3) (AOp.load true 2 (Operand.tmp 1)) none, AOper.mk (some 4) (AOp.call 44 [Operand.tmp 3]) none, AOper.mk (some
  5) (AOp.len (Operand.tmp 4)) none, AOper.mk (some 2) (AOp.mov (Operand.tmp 5)) none]) AC.ret)) [ARes.tmp 2]
theorem cfn21 : cfn Try.prog 21 1 = some c21 := by kernel_rfl
def c22 : AFn :=
  AFn.mk 24 (AC.seq (AC.ops [AOper.mk (some 2) (AOp.box 33 (Operand.tmp 0)) none, AOper.mk (some 4) (AOp.mov (Operand.const (Value.int IntKind.i64 0)))
  none]) (AC.seq (AC.ops [AOper.mk (some 5) (AOp.mov (Operand.const (Value.int IntKind.i64 0))) none]) (AC.seq (AC.seq (AC.ops [AOper.mk (some 6)
  (AOp.mov (Operand.const (Value.int IntKind.i64 0))) none]) (AC.block 0 (AC.loop (AC.seq (AC.seq (AC.ops [AOper.mk (some 7) (AOp.mov (Operand.tmp 6))
  none, AOper.mk (some 8) (AOp.fadr 1 (Operand.tmp 2)) none, AOper.mk (some 9) (AOp.load false 1 (Operand.tmp 8)) none, AOper.mk (some 10) (AOp.len
  (Operand.tmp 9)) none, AOper.mk (some 11) (AOp.bin false BinOp.lss (Operand.tmp 7) (Operand.tmp 10)) none]) (AC.cond (Operand.tmp 11) AC.skip (AC.exit
  0))) (AC.seq (AC.block 1 (AC.seq (AC.ops [AOper.mk (some 14) (AOp.fadr 1 (Operand.tmp 2)) none, AOper.mk (some 15) (AOp.load false 1 (Operand.tmp 14))
  none, AOper.mk (some 16) (AOp.mov (Operand.tmp 6)) none, AOper.mk (some 17) (AOp.iadr 1 (Operand.tmp 15) (Operand.tmp 16)) none, AOper.mk (some 18)
  (AOp.load false 1 (Operand.tmp 17)) none, AOper.mk (some 19) (AOp.mov (Operand.tmp 1)) none, AOper.mk (some 20) (AOp.bin false BinOp.eql (Operand.tmp
  18) (Operand.tmp 19)) none]) (AC.cond (Operand.tmp 20) (AC.ops [AOper.mk (some 21) (AOp.mov (Operand.tmp 5)) none, AOper.mk (some 22) (AOp.bin false
  BinOp.add (Operand.tmp 21) (Operand.const (Value.int IntKind.i64 1))) none, AOper.mk (some 5) (AOp.mov (Operand.tmp 22)) none]) AC.skip))) (AC.ops
  [AOper.mk (some 12) (AOp.mov (Operand.tmp 6)) none, AOper.mk (some 13) (AOp.bin false BinOp.add (Operand.tmp 12) (Operand.const (Value.int IntKind.i64
  1))) none, AOper.mk (some 6) (AOp.mov (Operand.tmp 13)) none])))))) (AC.seq (AC.ops [AOper.mk (some 23) (AOp.mov (Operand.tmp 5)) none, AOper.mk (some
  4) (AOp.mov (Operand.tmp 23)) none]) AC.ret)))) [ARes.tmp 4]
theorem cfn22 : cfn Try.prog 22 2 = some c22 := by kernel_rfl
def c23 : AFn :=
  AFn.mk 51 (AC.seq (AC.ops [AOper.mk (some 4) (AOp.box 24 (Operand.tmp 0)) none, AOper.mk (some 5) (AOp.box 24 (Operand.tmp 1)) none, AOper.mk (some 6)
  (AOp.box 29 (Operand.tmp 2)) none, AOper.mk (some 8) (AOp.mov (Operand.const (Value.slice none 0 0))) none, AOper.mk (some 9) (AOp.mov (Operand.const
  (Value.int IntKind.i64 0))) none]) (AC.seq (AC.ops [AOper.mk (some 16) (AOp.load true 2 (Operand.tmp 4)) none, AOper.mk (some 17) (AOp.load true 2
  (Operand.tmp 5)) none, AOper.mk (some 18) (AOp.load true 2 (Operand.tmp 6)) none, AOper.mk (some 19) (AOp.call 46 [Operand.tmp 16, Operand.tmp 17,
  Operand.tmp 18]) none, AOper.mk (some 15) (AOp.mov (Operand.tmp 19)) none, AOper.mk (some 20) (AOp.ext (Operand.tmp 15) 0) none, AOper.mk (some 21)
  (AOp.ext (Operand.tmp 15) 1) none, AOper.mk (some 10) (AOp.zro 84 (PV.agg [PV.v (Value.int IntKind.i64 0), PV.v (Value.slice none 0 0), PV.v (Value.int
  IntKind.i64 0), PV.v (Value.slice none 0 0), PV.v (Value.slice none 0 0), PV.v (Value.slice none 0 0), PV.v (Value.slice none 0 0), PV.v (Value.slice
  none 0 0)])) none, AOper.mk none (AOp.store 8 (Operand.tmp 10) (Operand.tmp 20)) none, AOper.mk (some 11) (AOp.mov (Operand.tmp 21)) none]) (AC.seq
  (AC.seq (AC.ops [AOper.mk (some 22) (AOp.mov (Operand.tmp 11)) none, AOper.mk (some 23) (AOp.bin false BinOp.neq (Operand.tmp 22) (Operand.const
  (Value.int IntKind.i64 0))) none]) (AC.cond (Operand.tmp 23) (AC.seq (AC.ops [AOper.mk (some 24) (AOp.mov (Operand.tmp 11)) none, AOper.mk (some 8)
  (AOp.mov (Operand.const (Value.slice none 0 0))) none, AOper.mk (some 9) (AOp.mov (Operand.tmp 24)) none]) AC.ret) AC.skip)) (AC.seq (AC.seq (AC.ops
  [AOper.mk (some 25) (AOp.mov (Operand.tmp 3)) none, AOper.mk (some 26) (AOp.bin false BinOp.lss (Operand.tmp 25) (Operand.const (Value.int IntKind.i64
  0))) none, AOper.mk (some 27) (AOp.mov (Operand.tmp 26)) none, AOper.mk (some 28) (AOp.mov (Operand.tmp 3)) (some (27, false)), AOper.mk (some 29)
  (AOp.fadr 0 (Operand.tmp 5)) (some (27, false)), AOper.mk (some 30) (AOp.load false 1 (Operand.tmp 29)) (some (27, false)), AOper.mk (some 31) (AOp.bin
  false BinOp.geq (Operand.tmp 28) (Operand.tmp 30)) (some (27, false)), AOper.mk (some 32) (AOp.pick (Operand.tmp 27) (Operand.const (Value.bool true))
  (Operand.tmp 31)) none]) (AC.cond (Operand.tmp 32) (AC.seq (AC.ops [AOper.mk (some 8) (AOp.mov (Operand.const (Value.slice none 0 0))) none, AOper.mk
  (some 9) (AOp.mov (Operand.const (Value.int IntKind.i64 2))) none]) AC.ret) AC.skip)) (AC.seq (AC.ops [AOper.mk (some 12) (AOp.mov (Operand.const
  (Value.slice none 0 0))) none]) (AC.seq (AC.seq (AC.ops [AOper.mk (some 33) (AOp.fadr 6 (Operand.tmp 10)) none, AOper.mk (some 34) (AOp.fadr 0
  (Operand.tmp 33)) none, AOper.mk (some 35) (AOp.load false 1 (Operand.tmp 34)) none, AOper.mk (some 36) (AOp.len (Operand.tmp 35)) none, AOper.mk (some
  37) (AOp.mov (Operand.const (Value.int IntKind.i64 0))) none]) (AC.block 0 (AC.loop (AC.seq (AC.ops [AOper.mk (some 38) (AOp.bin false BinOp.lss
  (Operand.tmp 37) (Operand.tmp 36)) none]) (AC.seq (AC.cond (Operand.tmp 38) AC.skip (AC.exit 0)) (AC.seq (AC.block 1 (AC.seq (AC.ops [AOper.mk (some
  39) (AOp.mov (Operand.tmp 37)) none, AOper.mk (some 40) (AOp.iadr 1 (Operand.tmp 35) (Operand.tmp 37)) none, AOper.mk (some 41) (AOp.load false 1
  (Operand.tmp 40)) none, AOper.mk (some 13) (AOp.mov (Operand.tmp 39)) none, AOper.mk (some 14) (AOp.mov (Operand.tmp 41)) none]) (AC.seq (AC.ops
  [AOper.mk (some 42) (AOp.mov (Operand.tmp 14)) none, AOper.mk (some 43) (AOp.mov (Operand.tmp 3)) none, AOper.mk (some 44) (AOp.bin false BinOp.eql
  (Operand.tmp 42) (Operand.tmp 43)) none]) (AC.cond (Operand.tmp 44) (AC.ops [AOper.mk (some 45) (AOp.mov (Operand.tmp 12)) none, AOper.mk (some 46)
  (AOp.mov (Operand.tmp 13)) none, AOper.mk (some 47) (AOp.bsl 3 1 [Operand.tmp 46]) none, AOper.mk (some 48) (AOp.app 3 1 (Operand.tmp 45) (Operand.tmp
  47)) none, AOper.mk (some 12) (AOp.mov (Operand.tmp 48)) none]) AC.skip)))) (AC.ops [AOper.mk (some 49) (AOp.bin false BinOp.add (Operand.tmp 37)
  (Operand.const (Value.int IntKind.i64 1))) none, AOper.mk (some 37) (AOp.mov (Operand.tmp 49)) none]))))))) (AC.seq (AC.ops [AOper.mk (some 50)
  (AOp.mov (Operand.tmp 12)) none, AOper.mk (some 8) (AOp.mov (Operand.tmp 50)) none, AOper.mk (some 9) (AOp.mov (Operand.const (Value.int IntKind.i64
  0))) none]) AC.ret))))))) [ARes.tmp 8, ARes.tmp 9]
theorem cfn23 : cfn Try.prog 23 4 = some c23 := by kernel_rfl
def c24 : AFn :=
  AFn.mk 17 (AC.seq (AC.ops [AOper.mk (some 3) (AOp.box 24 (Operand.tmp 0)) none, AOper.mk (some 4) (AOp.box 24 (Operand.tmp 1)) none, AOper.mk (some 5)
  (AOp.box 29 (Operand.tmp 2)) none, AOper.mk (some 6) (AOp.mov (Operand.const (Value.int IntKind.i64 0))) none]) (AC.seq (AC.ops [AOper.mk (some 10)
  (AOp.load true 2 (Operand.tmp 3)) none, AOper.mk (some 11) (AOp.load true 2 (Operand.tmp 4)) none, AOper.mk (some 12) (AOp.load true 2 (Operand.tmp 5))
  none, AOper.mk (some 13) (AOp.call 46 [Operand.tmp 10, Operand.tmp 11, Operand.tmp 12]) none, AOper.mk (some 9) (AOp.mov (Operand.tmp 13)) none,
  AOper.mk (some 14) (AOp.ext (Operand.tmp 9) 0) none, AOper.mk (some 15) (AOp.ext (Operand.tmp 9) 1) none, AOper.mk (some 7) (AOp.zro 84 (PV.agg [PV.v
  (Value.int IntKind.i64 0), PV.v (Value.slice none 0 0), PV.v (Value.int IntKind.i64 0), PV.v (Value.slice none 0 0), PV.v (Value.slice none 0 0), PV.v
  (Value.slice none 0 0), PV.v (Value.slice none 0 0), PV.v (Value.slice none 0 0)])) none, AOper.mk none (AOp.store 8 (Operand.tmp 7) (Operand.tmp 14))
  none, AOper.mk (some 8) (AOp.mov (Operand.tmp 15)) none]) (AC.seq (AC.ops [AOper.mk (some 16) (AOp.mov (Operand.tmp 8)) none, AOper.mk (some 6)
  (AOp.mov (Operand.tmp 16)) none]) AC.ret))) [ARes.tmp 6]
theorem cfn24 : cfn Try.prog 24 3 = some c24 := by kernel_rfl
def c25 : AFn :=
  AFn.mk 17 (AC.seq (AC.ops [AOper.mk (some 2) (AOp.box 29 (Operand.tmp 0)) none, AOper.mk (some 3) (AOp.box 29 (Operand.tmp 1)) none, AOper.mk (some 4)
  (AOp.mov (Operand.const (Value.bool false))) none]) (AC.seq (AC.ops [AOper.mk (some 5) (AOp.fadr 0 (Operand.tmp 2)) none, AOper.mk (some 6) (AOp.load
  false 1 (Operand.tmp 5)) none, AOper.mk (some 7) (AOp.fadr 0 (Operand.tmp 3)) none, AOper.mk (some 8) (AOp.load false 1 (Operand.tmp 7)) none, AOper.mk
  (some 9) (AOp.call 32 [Operand.tmp 6, Operand.tmp 8]) none, AOper.mk (some 10) (AOp.mov (Operand.tmp 9)) none, AOper.mk (some 11) (AOp.fadr 1
  (Operand.tmp 2)) (some (10, true)), AOper.mk (some 12) (AOp.load false 1 (Operand.tmp 11)) (some (10, true)), AOper.mk (some 13) (AOp.fadr 1
  (Operand.tmp 3)) (some (10, true)), AOper.mk (some 14) (AOp.load false 1 (Operand.tmp 13)) (some (10, true)), AOper.mk (some 15) (AOp.call 32
  [Operand.tmp 12, Operand.tmp 14]) (some (10, true)), AOper.mk (some 16) (AOp.pick (Operand.tmp 10) (Operand.tmp 15) (Operand.const (Value.bool false)))
  none, AOper.mk (some 4) (AOp.mov (Operand.tmp 16)) none]) AC.ret)) [ARes.tmp 4]
theorem cfn25 : cfn Try.prog 25 2 = some c25 := by kernel_rfl
def c26 : AFn :=
  AFn.mk 17 (AC.seq (AC.ops [AOper.mk (some 2) (AOp.box 33 (Operand.tmp 0)) none, AOper.mk (some 3) (AOp.box 33 (Operand.tmp 1)) none, AOper.mk (some 4)
  (AOp.mov (Operand.const (Value.bool false))) none]) (AC.seq (AC.ops [AOper.mk (some 5) (AOp.fadr 0 (Operand.tmp 2)) none, AOper.mk (some 6) (AOp.load
  false 1 (Operand.tmp 5)) none, AOper.mk (some 7) (AOp.fadr 0 (Operand.tmp 3)) none, AOper.mk (some 8) (AOp.load false 1 (Operand.tmp 7)) none, AOper.mk
  (some 9) (AOp.call 50 [Operand.tmp 6, Operand.tmp 8]) none, AOper.mk (some 10) (AOp.mov (Operand.tmp 9)) none, AOper.mk (some 11) (AOp.fadr 1
  (Operand.tmp 2)) (some (10, true)), AOper.mk (some 12) (AOp.load false 1 (Operand.tmp 11)) (some (10, true)), AOper.mk (some 13) (AOp.fadr 1
  (Operand.tmp 3)) (some (10, true)), AOper.mk (some 14) (AOp.load false 1 (Operand.tmp 13)) (some (10, true)), AOper.mk (some 15) (AOp.call 50
  [Operand.tmp 12, Operand.tmp 14]) (some (10, true)), AOper.mk (some 16) (AOp.pick (Operand.tmp 10) (Operand.tmp 15) (Operand.const (Value.bool false)))
  none, AOper.mk (some 4) (AOp.mov (Operand.tmp 16)) none]) AC.ret)) [ARes.tmp 4]
theorem cfn26 : cfn Try.prog 26 2 = some c26 := by kernel_rfl
def c27 : AFn :=
  AFn.mk 35 (AC.seq (AC.ops [AOper.mk (some 4) (AOp.box 24 (Operand.tmp 0)) none, AOper.mk (some 5) (AOp.box 24 (Operand.tmp 1)) none, AOper.mk (some 6)
  (AOp.box 29 (Operand.tmp 2)) none, AOper.mk (some 8) (AOp.mov (Operand.const (Value.int IntKind.i64 0))) none, AOper.mk (some 9) (AOp.mov
  (Operand.const (Value.int IntKind.i64 0))) none]) (AC.seq (AC.ops [AOper.mk (some 13) (AOp.load true 2 (Operand.tmp 4)) none, AOper.mk (some 14)
  (AOp.load true 2 (Operand.tmp 5)) none, AOper.mk (some 15) (AOp.load true 2 (Operand.tmp 6)) none, AOper.mk (some 16) (AOp.call 46 [Operand.tmp 13,
  Operand.tmp 14, Operand.tmp 15]) none, AOper.mk (some 12) (AOp.mov (Operand.tmp 16)) none, AOper.mk (some 17) (AOp.ext (Operand.tmp 12) 0) none,
  AOper.mk (some 18) (AOp.ext (Operand.tmp 12) 1) none, AOper.mk (some 10) (AOp.zro 84 (PV.agg [PV.v (Value.int IntKind.i64 0), PV.v (Value.slice none 0
  0), PV.v (Value.int IntKind.i64 0), PV.v (Value.slice none 0 0), PV.v (Value.slice none 0 0), PV.v (Value.slice none 0 0), PV.v (Value.slice none 0 0),
  PV.v (Value.slice none 0 0)])) none, AOper.mk none (AOp.store 8 (Operand.tmp 10) (Operand.tmp 17)) none, AOper.mk (some 11) (AOp.mov (Operand.tmp 18))
  none]) (AC.seq (AC.seq (AC.ops [AOper.mk (some 19) (AOp.mov (Operand.tmp 11)) none, AOper.mk (some 20) (AOp.bin false BinOp.neq (Operand.tmp 19)
  (Operand.const (Value.int IntKind.i64 0))) none]) (AC.cond (Operand.tmp 20) (AC.seq (AC.ops [AOper.mk (some 21) (AOp.mov (Operand.tmp 11)) none,
  AOper.mk (some 8) (AOp.mov (Operand.const (Value.int IntKind.i64 0))) none, AOper.mk (some 9) (AOp.mov (Operand.tmp 21)) none]) AC.ret) AC.skip))
  (AC.seq (AC.seq (AC.ops [AOper.mk (some 22) (AOp.mov (Operand.tmp 3)) none, AOper.mk (some 23) (AOp.bin false BinOp.lss (Operand.tmp 22) (Operand.const
  (Value.int IntKind.i64 0))) none, AOper.mk (some 24) (AOp.mov (Operand.tmp 23)) none, AOper.mk (some 25) (AOp.mov (Operand.tmp 3)) (some (24, false)),
  AOper.mk (some 26) (AOp.fadr 0 (Operand.tmp 4)) (some (24, false)), AOper.mk (some 27) (AOp.load false 1 (Operand.tmp 26)) (some (24, false)), AOper.mk
  (some 28) (AOp.bin false BinOp.geq (Operand.tmp 25) (Operand.tmp 27)) (some (24, false)), AOper.mk (some 29) (AOp.pick (Operand.tmp 24) (Operand.const
  (Value.bool true)) (Operand.tmp 28)) none]) (AC.cond (Operand.tmp 29) (AC.seq (AC.ops [AOper.mk (some 8) (AOp.mov (Operand.const (Value.int IntKind.i64
  0))) none, AOper.mk (some 9) (AOp.mov (Operand.const (Value.int IntKind.i64 2))) none]) AC.ret) AC.skip)) (AC.seq (AC.ops [AOper.mk (some 30) (AOp.load
  true 8 (Operand.tmp 10)) none, AOper.mk (some 31) (AOp.call 51 [Operand.tmp 30]) none, AOper.mk (some 32) (AOp.mov (Operand.tmp 3)) none, AOper.mk
  (some 33) (AOp.bld [PV.v (Value.int IntKind.i64 0), PV.v (Value.int IntKind.i64 0)] [(0, 1), (1, 1)] [(0, Operand.tmp 32), (1, Operand.const (Value.int
  IntKind.i64 (-1)))]) none, AOper.mk (some 34) (AOp.look (KD.arr 2) (PV.v (Value.int IntKind.i64 0)) false (Operand.tmp 31) (Operand.tmp 33)) none,
  AOper.mk (some 8) (AOp.mov (Operand.tmp 34)) none, AOper.mk (some 9) (AOp.mov (Operand.const (Value.int IntKind.i64 0))) none]) AC.ret))))) [ARes.tmp
  8, ARes.tmp 9]
theorem cfn27 : cfn Try.prog 27 4 = some c27 := by kernel_rfl
def c28 : AFn :=
  AFn.mk 23 (AC.seq (AC.ops [AOper.mk (some 2) (AOp.box 24 (Operand.tmp 0)) none, AOper.mk (some 4) (AOp.mov (Operand.const (Value.int IntKind.i64 0)))
  none]) (AC.seq (AC.ops [AOper.mk (some 5) (AOp.mov (Operand.const (Value.int IntKind.i64 0))) none]) (AC.seq (AC.seq (AC.ops [AOper.mk (some 6)
  (AOp.mov (Operand.const (Value.int IntKind.i64 0))) none]) (AC.block 0 (AC.loop (AC.seq (AC.seq (AC.ops [AOper.mk (some 7) (AOp.mov (Operand.tmp 6))
  none, AOper.mk (some 8) (AOp.fadr 0 (Operand.tmp 2)) none, AOper.mk (some 9) (AOp.load false 1 (Operand.tmp 8)) none, AOper.mk (some 10) (AOp.bin false
  BinOp.lss (Operand.tmp 7) (Operand.tmp 9)) none]) (AC.cond (Operand.tmp 10) AC.skip (AC.exit 0))) (AC.seq (AC.block 1 (AC.seq (AC.ops [AOper.mk (some
  13) (AOp.mov (Operand.tmp 6)) none, AOper.mk (some 14) (AOp.mov (Operand.tmp 1)) none, AOper.mk (some 15) (AOp.bin false BinOp.neq (Operand.tmp 13)
  (Operand.tmp 14)) none]) (AC.cond (Operand.tmp 15) (AC.ops [AOper.mk (some 16) (AOp.mov (Operand.tmp 5)) none, AOper.mk (some 17) (AOp.load true 2
  (Operand.tmp 2)) none, AOper.mk (some 18) (AOp.mov (Operand.tmp 6)) none, AOper.mk (some 19) (AOp.mov (Operand.tmp 1)) none, AOper.mk (some 20)
  (AOp.call 52 [Operand.tmp 17, Operand.tmp 18, Operand.tmp 19]) none, AOper.mk (some 21) (AOp.bin false BinOp.add (Operand.tmp 16) (Operand.tmp 20))
  none, AOper.mk (some 5) (AOp.mov (Operand.tmp 21)) none]) AC.skip))) (AC.ops [AOper.mk (some 11) (AOp.mov (Operand.tmp 6)) none, AOper.mk (some 12)
  (AOp.bin false BinOp.add (Operand.tmp 11) (Operand.const (Value.int IntKind.i64 1))) none, AOper.mk (some 6) (AOp.mov (Operand.tmp 12)) none]))))))
  (AC.seq (AC.ops [AOper.mk (some 22) (AOp.mov (Operand.tmp 5)) none, AOper.mk (some 4) (AOp.mov (Operand.tmp 22)) none]) AC.ret)))) [ARes.tmp 4]
theorem cfn28 : cfn Try.prog 28 2 = some c28 := by kernel_rfl
def c29 : AFn :=
  AFn.mk 13 (AC.seq (AC.ops [AOper.mk (some 2) (AOp.box 24 (Operand.tmp 0)) none, AOper.mk (some 4) (AOp.mov (Operand.const (Value.bool false))) none])
  (AC.seq (AC.ops [AOper.mk (some 5) (AOp.mov (Operand.tmp 1)) none, AOper.mk (some 6) (AOp.bin false BinOp.geq (Operand.tmp 5) (Operand.const (Value.int
  IntKind.i64 0))) none, AOper.mk (some 7) (AOp.mov (Operand.tmp 6)) none, AOper.mk (some 8) (AOp.mov (Operand.tmp 1)) (some (7, true)), AOper.mk (some
  9) (AOp.fadr 0 (Operand.tmp 2)) (some (7, true)), AOper.mk (some 10) (AOp.load false 1 (Operand.tmp 9)) (some (7, true)), AOper.mk (some 11) (AOp.bin
  false BinOp.lss (Operand.tmp 8) (Operand.tmp 10)) (some (7, true)), AOper.mk (some 12) (AOp.pick (Operand.tmp 7) (Operand.tmp 11) (Operand.const
  (Value.bool false))) none, AOper.mk (some 4) (AOp.mov (Operand.tmp 12)) none]) AC.ret)) [ARes.tmp 4]
theorem cfn29 : cfn Try.prog 29 2 = some c29 := by kernel_rfl
def c30 : AFn :=
  AFn.mk 57 (AC.seq (AC.ops [AOper.mk (some 5) (AOp.box 24 (Operand.tmp 0)) none, AOper.mk (some 6) (AOp.box 24 (Operand.tmp 1)) none, AOper.mk (some 7)
  (AOp.box 29 (Operand.tmp 2)) none, AOper.mk (some 10) (AOp.mov (Operand.const (Value.int IntKind.i64 0))) none, AOper.mk (some 11) (AOp.mov
  (Operand.const (Value.int IntKind.i64 0))) none]) (AC.seq (AC.ops [AOper.mk (some 15) (AOp.load true 2 (Operand.tmp 5)) none, AOper.mk (some 16)
  (AOp.load true 2 (Operand.tmp 6)) none, AOper.mk (some 17) (AOp.load true 2 (Operand.tmp 7)) none, AOper.mk (some 18) (AOp.call 46 [Operand.tmp 15,
  Operand.tmp 16, Operand.tmp 17]) none, AOper.mk (some 14) (AOp.mov (Operand.tmp 18)) none, AOper.mk (some 19) (AOp.ext (Operand.tmp 14) 0) none,
  AOper.mk (some 20) (AOp.ext (Operand.tmp 14) 1) none, AOper.mk (some 12) (AOp.zro 84 (PV.agg [PV.v (Value.int IntKind.i64 0), PV.v (Value.slice none 0
  0), PV.v (Value.int IntKind.i64 0), PV.v (Value.slice none 0 0), PV.v (Value.slice none 0 0), PV.v (Value.slice none 0 0), PV.v (Value.slice none 0 0),
  PV.v (Value.slice none 0 0)])) none, AOper.mk none (AOp.store 8 (Operand.tmp 12) (Operand.tmp 19)) none, AOper.mk (some 13) (AOp.mov (Operand.tmp 20))
  none]) (AC.seq (AC.block 0 (AC.seq (AC.ops [AOper.mk (some 22) (AOp.mov (Operand.tmp 13)) none, AOper.mk (some 23) (AOp.bin false BinOp.neq
  (Operand.tmp 22) (Operand.const (Value.int IntKind.i64 0))) none, AOper.mk (some 21) (AOp.mov (Operand.tmp 23)) none]) (AC.cond (Operand.tmp 21)
  (AC.seq (AC.ops [AOper.mk (some 24) (AOp.mov (Operand.tmp 13)) none, AOper.mk (some 10) (AOp.mov (Operand.const (Value.int IntKind.i64 0))) none,
  AOper.mk (some 11) (AOp.mov (Operand.tmp 24)) none]) AC.ret) (AC.seq (AC.ops [AOper.mk (some 26) (AOp.mov (Operand.tmp 3)) none, AOper.mk (some 27)
  (AOp.bin false BinOp.lss (Operand.tmp 26) (Operand.const (Value.int IntKind.i64 0))) none, AOper.mk (some 28) (AOp.mov (Operand.tmp 27)) none, AOper.mk
  (some 29) (AOp.mov (Operand.tmp 3)) (some (28, false)), AOper.mk (some 30) (AOp.fadr 0 (Operand.tmp 5)) (some (28, false)), AOper.mk (some 31)
  (AOp.load false 1 (Operand.tmp 30)) (some (28, false)), AOper.mk (some 32) (AOp.bin false BinOp.geq (Operand.tmp 29) (Operand.tmp 31)) (some (28,
  false)), AOper.mk (some 33) (AOp.pick (Operand.tmp 28) (Operand.const (Value.bool true)) (Operand.tmp 32)) none, AOper.mk (some 34) (AOp.mov
  (Operand.tmp 33)) none, AOper.mk (some 35) (AOp.mov (Operand.tmp 4)) (some (34, false)), AOper.mk (some 36) (AOp.bin false BinOp.lss (Operand.tmp 35)
  (Operand.const (Value.int IntKind.i64 0))) (some (34, false)), AOper.mk (some 37) (AOp.pick (Operand.tmp 34) (Operand.const (Value.bool true))
  (Operand.tmp 36)) none, AOper.mk (some 38) (AOp.mov (Operand.tmp 37)) none, AOper.mk (some 39) (AOp.mov (Operand.tmp 4)) (some (38, false)), AOper.mk
  (some 40) (AOp.fadr 5 (Operand.tmp 12)) (some (38, false)), AOper.mk (some 41) (AOp.load false 1 (Operand.tmp 40)) (some (38, false)), AOper.mk (some
  42) (AOp.len (Operand.tmp 41)) (some (38, false)), AOper.mk (some 43) (AOp.bin false BinOp.geq (Operand.tmp 39) (Operand.tmp 42)) (some (38, false)),
  AOper.mk (some 44) (AOp.pick (Operand.tmp 38) (Operand.const (Value.bool true)) (Operand.tmp 43)) none, AOper.mk (some 25) (AOp.mov (Operand.tmp 44))
  none]) (AC.cond (Operand.tmp 25) (AC.seq (AC.ops [AOper.mk (some 10) (AOp.mov (Operand.const (Value.int IntKind.i64 0))) none, AOper.mk (some 11)
  (AOp.mov (Operand.const (Value.int IntKind.i64 2))) none]) AC.ret) (AC.seq (AC.ops [AOper.mk (some 46) (AOp.load true 8 (Operand.tmp 12)) none,
  AOper.mk (some 47) (AOp.mov (Operand.tmp 3)) none, AOper.mk (some 48) (AOp.mov (Operand.tmp 4)) none, AOper.mk (some 49) (AOp.call 53 [Operand.tmp 46,
  Operand.tmp 47, Operand.tmp 48]) none, AOper.mk (some 50) (AOp.un UnOp.not (Operand.tmp 49)) none, AOper.mk (some 45) (AOp.mov (Operand.tmp 50)) none])
  (AC.cond (Operand.tmp 45) (AC.seq (AC.ops [AOper.mk (some 10) (AOp.mov (Operand.const (Value.int IntKind.i64 0))) none, AOper.mk (some 11) (AOp.mov
  (Operand.const (Value.int IntKind.i64 6))) none]) AC.ret) AC.skip))))))) (AC.seq (AC.ops [AOper.mk (some 51) (AOp.load true 8 (Operand.tmp 12)) none,
  AOper.mk (some 52) (AOp.call 51 [Operand.tmp 51]) none, AOper.mk (some 53) (AOp.mov (Operand.tmp 3)) none, AOper.mk (some 54) (AOp.mov (Operand.tmp 4))
  none, AOper.mk (some 55) (AOp.bld [PV.v (Value.int IntKind.i64 0), PV.v (Value.int IntKind.i64 0)] [(0, 1), (1, 1)] [(0, Operand.tmp 53), (1,
  Operand.tmp 54)]) none, AOper.mk (some 56) (AOp.look (KD.arr 2) (PV.v (Value.int IntKind.i64 0)) false (Operand.tmp 52) (Operand.tmp 55)) none,
  AOper.mk (some 10) (AOp.mov (Operand.tmp 56)) none, AOper.mk (some 11) (AOp.mov (Operand.const (Value.int IntKind.i64 0))) none]) AC.ret)))) [ARes.tmp
  10, ARes.tmp 11]
theorem cfn30 : cfn Try.prog 30 5 = some c30 := by kernel_rfl
end Go.Proofs.Ytheffllmccomiaa
