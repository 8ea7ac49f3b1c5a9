/-
  The compiled code of the functions (printed by a program of mine).
-/
import Derived.Test.YtddgepjmfnodhaaMad
import Derived.Test.YtddgepjmfnodhaaChecked
namespace Go.Proofs.Ytddgepjmfnodhaa
open Go.Abs
def c3 : AFn :=
  AFn.mk 82 (AC.seq (AC.ops [AOper.mk (some 3) (AOp.box 26 (Operand.tmp 0)) none, AOper.mk (some 4) (AOp.box 29 (Operand.tmp 1)) none, AOper.mk (some 6)
  (AOp.mov (Operand.const (Value.bool false))) none]) (AC.seq (AC.seq (AC.ops [AOper.mk (some 15) (AOp.load true 4 (Operand.tmp 3)) none, AOper.mk (some
  16) (AOp.load true 2 (Operand.tmp 4)) none, AOper.mk (some 17) (AOp.mov (Operand.tmp 2)) none, AOper.mk (some 18) (AOp.call 10 [Operand.tmp 15,
  Operand.tmp 16, Operand.tmp 17]) none, AOper.mk (some 19) (AOp.un UnOp.not (Operand.tmp 18)) none]) (AC.cond (Operand.tmp 19) (AC.seq (AC.ops [AOper.mk
  (some 20) (AOp.call 11 []) none, AOper.mk (some 6) (AOp.mov (Operand.tmp 20)) none]) AC.ret) AC.skip)) (AC.seq (AC.ops [AOper.mk (some 22) (AOp.fadr 0
  (Operand.tmp 3)) none, AOper.mk (some 23) (AOp.load true 2 (Operand.tmp 22)) none, AOper.mk (some 24) (AOp.fadr 2 (Operand.tmp 3)) none, AOper.mk (some
  25) (AOp.load true 2 (Operand.tmp 24)) none, AOper.mk (some 26) (AOp.load true 2 (Operand.tmp 4)) none, AOper.mk (some 27) (AOp.mov (Operand.tmp 2))
  none, AOper.mk (some 28) (AOp.call 12 [Operand.tmp 23, Operand.tmp 25, Operand.tmp 26, Operand.tmp 27]) none, AOper.mk (some 21) (AOp.mov (Operand.tmp
  28)) none, AOper.mk (some 29) (AOp.ext (Operand.tmp 21) 0) none, AOper.mk (some 30) (AOp.ext (Operand.tmp 21) 1) none, AOper.mk (some 7) (AOp.mov
  (Operand.tmp 29)) none, AOper.mk (some 8) (AOp.mov (Operand.tmp 30)) none]) (AC.seq (AC.ops [AOper.mk (some 32) (AOp.fadr 0 (Operand.tmp 3)) none,
  AOper.mk (some 33) (AOp.load true 2 (Operand.tmp 32)) none, AOper.mk (some 34) (AOp.fadr 2 (Operand.tmp 3)) none, AOper.mk (some 35) (AOp.load true 2
  (Operand.tmp 34)) none, AOper.mk (some 36) (AOp.load true 2 (Operand.tmp 4)) none, AOper.mk (some 37) (AOp.mov (Operand.tmp 2)) none, AOper.mk (some
  38) (AOp.call 13 [Operand.tmp 33, Operand.tmp 35, Operand.tmp 36, Operand.tmp 37, Operand.const (Value.bool true), Operand.const (Value.bool false)])
  none, AOper.mk (some 31) (AOp.mov (Operand.tmp 38)) none, AOper.mk (some 39) (AOp.ext (Operand.tmp 31) 0) none, AOper.mk (some 40) (AOp.ext
  (Operand.tmp 31) 1) none, AOper.mk (some 9) (AOp.mov (Operand.tmp 39)) none, AOper.mk (some 10) (AOp.mov (Operand.tmp 40)) none]) (AC.seq (AC.ops
  [AOper.mk (some 42) (AOp.fadr 0 (Operand.tmp 3)) none, AOper.mk (some 43) (AOp.load true 2 (Operand.tmp 42)) none, AOper.mk (some 44) (AOp.fadr 2
  (Operand.tmp 3)) none, AOper.mk (some 45) (AOp.load true 2 (Operand.tmp 44)) none, AOper.mk (some 46) (AOp.load true 2 (Operand.tmp 4)) none, AOper.mk
  (some 47) (AOp.mov (Operand.tmp 2)) none, AOper.mk (some 48) (AOp.call 14 [Operand.tmp 43, Operand.tmp 45, Operand.tmp 46, Operand.tmp 47]) none,
  AOper.mk (some 41) (AOp.mov (Operand.tmp 48)) none, AOper.mk (some 49) (AOp.ext (Operand.tmp 41) 0) none, AOper.mk (some 50) (AOp.ext (Operand.tmp 41)
  1) none, AOper.mk (some 11) (AOp.mov (Operand.tmp 49)) none, AOper.mk (some 12) (AOp.mov (Operand.tmp 50)) none]) (AC.seq (AC.ops [AOper.mk (some 52)
  (AOp.fadr 0 (Operand.tmp 3)) none, AOper.mk (some 53) (AOp.load true 2 (Operand.tmp 52)) none, AOper.mk (some 54) (AOp.fadr 2 (Operand.tmp 3)) none,
  AOper.mk (some 55) (AOp.load true 2 (Operand.tmp 54)) none, AOper.mk (some 56) (AOp.load true 2 (Operand.tmp 4)) none, AOper.mk (some 57) (AOp.mov
  (Operand.tmp 2)) none, AOper.mk (some 58) (AOp.call 13 [Operand.tmp 53, Operand.tmp 55, Operand.tmp 56, Operand.tmp 57, Operand.const (Value.bool
  false), Operand.const (Value.bool true)]) none, AOper.mk (some 51) (AOp.mov (Operand.tmp 58)) none, AOper.mk (some 59) (AOp.ext (Operand.tmp 51) 0)
  none, AOper.mk (some 60) (AOp.ext (Operand.tmp 51) 1) none, AOper.mk (some 13) (AOp.mov (Operand.tmp 59)) none, AOper.mk (some 14) (AOp.mov
  (Operand.tmp 60)) none]) (AC.seq (AC.ops [AOper.mk (some 61) (AOp.call 11 []) none, AOper.mk (some 62) (AOp.mov (Operand.tmp 61)) none, AOper.mk (some
  63) (AOp.mov (Operand.tmp 7)) (some (62, true)), AOper.mk (some 64) (AOp.mov (Operand.tmp 9)) (some (62, true)), AOper.mk (some 65) (AOp.call 15
  [Operand.tmp 63, Operand.tmp 64]) (some (62, true)), AOper.mk (some 66) (AOp.pick (Operand.tmp 62) (Operand.tmp 65) (Operand.const (Value.bool false)))
  none, AOper.mk (some 67) (AOp.mov (Operand.tmp 66)) none, AOper.mk (some 68) (AOp.mov (Operand.tmp 8)) (some (67, true)), AOper.mk (some 69) (AOp.mov
  (Operand.tmp 10)) (some (67, true)), AOper.mk (some 70) (AOp.bin false BinOp.eql (Operand.tmp 68) (Operand.tmp 69)) (some (67, true)), AOper.mk (some
  71) (AOp.pick (Operand.tmp 67) (Operand.tmp 70) (Operand.const (Value.bool false))) none, AOper.mk (some 72) (AOp.mov (Operand.tmp 71)) none, AOper.mk
  (some 73) (AOp.mov (Operand.tmp 11)) (some (72, true)), AOper.mk (some 74) (AOp.mov (Operand.tmp 13)) (some (72, true)), AOper.mk (some 75) (AOp.call
  15 [Operand.tmp 73, Operand.tmp 74]) (some (72, true)), AOper.mk (some 76) (AOp.pick (Operand.tmp 72) (Operand.tmp 75) (Operand.const (Value.bool
  false))) none, AOper.mk (some 77) (AOp.mov (Operand.tmp 76)) none, AOper.mk (some 78) (AOp.mov (Operand.tmp 12)) (some (77, true)), AOper.mk (some 79)
  (AOp.mov (Operand.tmp 14)) (some (77, true)), AOper.mk (some 80) (AOp.bin false BinOp.eql (Operand.tmp 78) (Operand.tmp 79)) (some (77, true)),
  AOper.mk (some 81) (AOp.pick (Operand.tmp 77) (Operand.tmp 80) (Operand.const (Value.bool false))) none, AOper.mk (some 6) (AOp.mov (Operand.tmp 81))
  none]) AC.ret))))))) [ARes.tmp 6]
theorem cfn3 : cfn Try.prog 3 3 = some c3 := by kernel_rfl
def c4 : AFn :=
  AFn.mk 84 (AC.seq (AC.ops [AOper.mk (some 2) (AOp.box 26 (Operand.tmp 0)) none, AOper.mk (some 3) (AOp.box 29 (Operand.tmp 1)) none, AOper.mk (some 4)
  (AOp.mov (Operand.const (Value.bool false))) none]) (AC.seq (AC.seq (AC.ops [AOper.mk (some 15) (AOp.load true 4 (Operand.tmp 2)) none, AOper.mk (some
  16) (AOp.load true 2 (Operand.tmp 3)) none, AOper.mk (some 17) (AOp.call 10 [Operand.tmp 15, Operand.tmp 16, Operand.const (Value.slice none 0 0)])
  none, AOper.mk (some 18) (AOp.un UnOp.not (Operand.tmp 17)) none]) (AC.cond (Operand.tmp 18) (AC.seq (AC.ops [AOper.mk (some 19) (AOp.call 11 []) none,
  AOper.mk (some 4) (AOp.mov (Operand.tmp 19)) none]) AC.ret) AC.skip)) (AC.seq (AC.ops [AOper.mk (some 21) (AOp.fadr 0 (Operand.tmp 2)) none, AOper.mk
  (some 22) (AOp.load true 2 (Operand.tmp 21)) none, AOper.mk (some 23) (AOp.fadr 2 (Operand.tmp 2)) none, AOper.mk (some 24) (AOp.load true 2
  (Operand.tmp 23)) none, AOper.mk (some 25) (AOp.load true 2 (Operand.tmp 3)) none, AOper.mk (some 26) (AOp.call 16 [Operand.tmp 22, Operand.tmp 24,
  Operand.tmp 25]) none, AOper.mk (some 20) (AOp.mov (Operand.tmp 26)) none, AOper.mk (some 27) (AOp.ext (Operand.tmp 20) 0) none, AOper.mk (some 28)
  (AOp.ext (Operand.tmp 20) 1) none, AOper.mk (some 5) (AOp.mov (Operand.tmp 27)) none, AOper.mk (some 6) (AOp.mov (Operand.tmp 28)) none]) (AC.seq
  (AC.ops [AOper.mk (some 30) (AOp.fadr 0 (Operand.tmp 2)) none, AOper.mk (some 31) (AOp.load true 2 (Operand.tmp 30)) none, AOper.mk (some 32) (AOp.fadr
  2 (Operand.tmp 2)) none, AOper.mk (some 33) (AOp.load true 2 (Operand.tmp 32)) none, AOper.mk (some 34) (AOp.load true 2 (Operand.tmp 3)) none,
  AOper.mk (some 35) (AOp.call 17 [Operand.tmp 31, Operand.tmp 33, Operand.tmp 34]) none, AOper.mk (some 29) (AOp.mov (Operand.tmp 35)) none, AOper.mk
  (some 36) (AOp.ext (Operand.tmp 29) 0) none, AOper.mk (some 37) (AOp.ext (Operand.tmp 29) 1) none, AOper.mk (some 7) (AOp.mov (Operand.tmp 36)) none,
  AOper.mk (some 8) (AOp.mov (Operand.tmp 37)) none]) (AC.seq (AC.ops [AOper.mk (some 39) (AOp.fadr 0 (Operand.tmp 2)) none, AOper.mk (some 40) (AOp.load
  true 2 (Operand.tmp 39)) none, AOper.mk (some 41) (AOp.fadr 2 (Operand.tmp 2)) none, AOper.mk (some 42) (AOp.load true 2 (Operand.tmp 41)) none,
  AOper.mk (some 43) (AOp.load true 2 (Operand.tmp 3)) none, AOper.mk (some 44) (AOp.call 18 [Operand.tmp 40, Operand.tmp 42, Operand.tmp 43]) none,
  AOper.mk (some 38) (AOp.mov (Operand.tmp 44)) none, AOper.mk (some 45) (AOp.ext (Operand.tmp 38) 0) none, AOper.mk (some 46) (AOp.ext (Operand.tmp 38)
  1) none, AOper.mk (some 47) (AOp.ext (Operand.tmp 38) 2) none, AOper.mk (some 9) (AOp.mov (Operand.tmp 45)) none, AOper.mk (some 10) (AOp.mov
  (Operand.tmp 46)) none, AOper.mk (some 11) (AOp.mov (Operand.tmp 47)) none]) (AC.seq (AC.ops [AOper.mk (some 49) (AOp.fadr 0 (Operand.tmp 2)) none,
  AOper.mk (some 50) (AOp.load true 2 (Operand.tmp 49)) none, AOper.mk (some 51) (AOp.fadr 2 (Operand.tmp 2)) none, AOper.mk (some 52) (AOp.load true 2
  (Operand.tmp 51)) none, AOper.mk (some 53) (AOp.load true 2 (Operand.tmp 3)) none, AOper.mk (some 54) (AOp.call 19 [Operand.tmp 50, Operand.tmp 52,
  Operand.tmp 53]) none, AOper.mk (some 48) (AOp.mov (Operand.tmp 54)) none, AOper.mk (some 55) (AOp.ext (Operand.tmp 48) 0) none, AOper.mk (some 56)
  (AOp.ext (Operand.tmp 48) 1) none, AOper.mk (some 57) (AOp.ext (Operand.tmp 48) 2) none, AOper.mk (some 12) (AOp.mov (Operand.tmp 55)) none, AOper.mk
  (some 13) (AOp.mov (Operand.tmp 56)) none, AOper.mk (some 14) (AOp.mov (Operand.tmp 57)) none]) (AC.seq (AC.ops [AOper.mk (some 58) (AOp.call 11 [])
  none, AOper.mk (some 59) (AOp.mov (Operand.tmp 58)) none, AOper.mk (some 60) (AOp.mov (Operand.tmp 5)) (some (59, true)), AOper.mk (some 61) (AOp.mov
  (Operand.tmp 7)) (some (59, true)), AOper.mk (some 62) (AOp.call 15 [Operand.tmp 60, Operand.tmp 61]) (some (59, true)), AOper.mk (some 63) (AOp.pick
  (Operand.tmp 59) (Operand.tmp 62) (Operand.const (Value.bool false))) none, AOper.mk (some 64) (AOp.mov (Operand.tmp 63)) none, AOper.mk (some 65)
  (AOp.mov (Operand.tmp 6)) (some (64, true)), AOper.mk (some 66) (AOp.mov (Operand.tmp 8)) (some (64, true)), AOper.mk (some 67) (AOp.bin false
  BinOp.eql (Operand.tmp 65) (Operand.tmp 66)) (some (64, true)), AOper.mk (some 68) (AOp.pick (Operand.tmp 64) (Operand.tmp 67) (Operand.const
  (Value.bool false))) none, AOper.mk (some 69) (AOp.mov (Operand.tmp 68)) none, AOper.mk (some 70) (AOp.mov (Operand.tmp 9)) (some (69, true)), AOper.mk
  (some 71) (AOp.mov (Operand.tmp 12)) (some (69, true)), AOper.mk (some 72) (AOp.bin false BinOp.eql (Operand.tmp 70) (Operand.tmp 71)) (some (69,
  true)), AOper.mk (some 73) (AOp.pick (Operand.tmp 69) (Operand.tmp 72) (Operand.const (Value.bool false))) none, AOper.mk (some 74) (AOp.mov
  (Operand.tmp 73)) none, AOper.mk (some 75) (AOp.mov (Operand.tmp 10)) (some (74, true)), AOper.mk (some 76) (AOp.mov (Operand.tmp 13)) (some (74,
  true)), AOper.mk (some 77) (AOp.bin false BinOp.eql (Operand.tmp 75) (Operand.tmp 76)) (some (74, true)), AOper.mk (some 78) (AOp.pick (Operand.tmp 74)
  (Operand.tmp 77) (Operand.const (Value.bool false))) none, AOper.mk (some 79) (AOp.mov (Operand.tmp 78)) none, AOper.mk (some 80) (AOp.mov (Operand.tmp
  11)) (some (79, true)), AOper.mk (some 81) (AOp.mov (Operand.tmp 14)) (some (79, true)), AOper.mk (some 82) (AOp.bin false BinOp.eql (Operand.tmp 80)
  (Operand.tmp 81)) (some (79, true)), AOper.mk (some 83) (AOp.pick (Operand.tmp 79) (Operand.tmp 82) (Operand.const (Value.bool false))) none, AOper.mk
  (some 4) (AOp.mov (Operand.tmp 83)) none]) AC.ret))))))) [ARes.tmp 4]
theorem cfn4 : cfn Try.prog 4 2 = some c4 := by kernel_rfl
def c5 : AFn :=
  AFn.mk 140 (AC.seq (AC.ops [AOper.mk (some 3) (AOp.box 26 (Operand.tmp 0)) none, AOper.mk (some 4) (AOp.box 29 (Operand.tmp 1)) none, AOper.mk (some 6)
  (AOp.mov (Operand.const (Value.bool false))) none]) (AC.seq (AC.seq (AC.ops [AOper.mk (some 15) (AOp.load true 4 (Operand.tmp 3)) none, AOper.mk (some
  16) (AOp.load true 2 (Operand.tmp 4)) none, AOper.mk (some 17) (AOp.mov (Operand.tmp 2)) none, AOper.mk (some 18) (AOp.call 10 [Operand.tmp 15,
  Operand.tmp 16, Operand.tmp 17]) none, AOper.mk (some 19) (AOp.un UnOp.not (Operand.tmp 18)) none, AOper.mk (some 20) (AOp.mov (Operand.tmp 19)) none,
  AOper.mk (some 21) (AOp.fadr 0 (Operand.tmp 3)) (some (20, false)), AOper.mk (some 22) (AOp.load true 2 (Operand.tmp 21)) (some (20, false)), AOper.mk
  (some 23) (AOp.fadr 2 (Operand.tmp 3)) (some (20, false)), AOper.mk (some 24) (AOp.load true 2 (Operand.tmp 23)) (some (20, false)), AOper.mk (some 25)
  (AOp.load true 2 (Operand.tmp 4)) (some (20, false)), AOper.mk (some 26) (AOp.call 20 [Operand.tmp 22, Operand.tmp 24, Operand.tmp 25]) (some (20,
  false)), AOper.mk (some 27) (AOp.bin false BinOp.neq (Operand.tmp 26) (Operand.const (Value.int IntKind.i64 0))) (some (20, false)), AOper.mk (some 28)
  (AOp.pick (Operand.tmp 20) (Operand.const (Value.bool true)) (Operand.tmp 27)) none]) (AC.cond (Operand.tmp 28) (AC.seq (AC.ops [AOper.mk (some 29)
  (AOp.call 11 []) none, AOper.mk (some 6) (AOp.mov (Operand.tmp 29)) none]) AC.ret) AC.skip)) (AC.seq (AC.ops [AOper.mk (some 31) (AOp.fadr 0
  (Operand.tmp 3)) none, AOper.mk (some 32) (AOp.load true 2 (Operand.tmp 31)) none, AOper.mk (some 33) (AOp.fadr 2 (Operand.tmp 3)) none, AOper.mk (some
  34) (AOp.load true 2 (Operand.tmp 33)) none, AOper.mk (some 35) (AOp.load true 2 (Operand.tmp 4)) none, AOper.mk (some 36) (AOp.call 21 [Operand.tmp
  32, Operand.tmp 34, Operand.tmp 35]) none, AOper.mk (some 30) (AOp.mov (Operand.tmp 36)) none, AOper.mk (some 37) (AOp.ext (Operand.tmp 30) 0) none,
  AOper.mk (some 38) (AOp.ext (Operand.tmp 30) 1) none, AOper.mk (some 7) (AOp.mov (Operand.tmp 37)) none, AOper.mk (some 8) (AOp.mov (Operand.tmp 38))
  none]) (AC.seq (AC.seq (AC.ops [AOper.mk (some 39) (AOp.mov (Operand.tmp 8)) none, AOper.mk (some 40) (AOp.bin false BinOp.neq (Operand.tmp 39)
  (Operand.const (Value.int IntKind.i64 0))) none]) (AC.cond (Operand.tmp 40) (AC.seq (AC.ops [AOper.mk (some 6) (AOp.mov (Operand.const (Value.bool
  false))) none]) AC.ret) AC.skip)) (AC.seq (AC.seq (AC.ops [AOper.mk (some 41) (AOp.load true 4 (Operand.tmp 3)) none, AOper.mk (some 42) (AOp.load true
  2 (Operand.tmp 4)) none, AOper.mk (some 43) (AOp.mov (Operand.tmp 2)) none, AOper.mk (some 44) (AOp.fadr 0 (Operand.tmp 3)) none, AOper.mk (some 45)
  (AOp.fadr 0 (Operand.tmp 44)) none, AOper.mk (some 46) (AOp.load false 1 (Operand.tmp 45)) none, AOper.mk (some 47) (AOp.call 22 [Operand.tmp 41,
  Operand.tmp 42, Operand.tmp 43, Operand.tmp 46]) none]) (AC.cond (Operand.tmp 47) (AC.seq (AC.ops [AOper.mk (some 49) (AOp.fadr 0 (Operand.tmp 3))
  none, AOper.mk (some 50) (AOp.load true 2 (Operand.tmp 49)) none, AOper.mk (some 51) (AOp.fadr 2 (Operand.tmp 3)) none, AOper.mk (some 52) (AOp.load
  true 2 (Operand.tmp 51)) none, AOper.mk (some 53) (AOp.load true 2 (Operand.tmp 4)) none, AOper.mk (some 54) (AOp.mov (Operand.tmp 2)) none, AOper.mk
  (some 55) (AOp.call 12 [Operand.tmp 50, Operand.tmp 52, Operand.tmp 53, Operand.tmp 54]) none, AOper.mk (some 48) (AOp.mov (Operand.tmp 55)) none,
  AOper.mk (some 56) (AOp.ext (Operand.tmp 48) 0) none, AOper.mk (some 57) (AOp.ext (Operand.tmp 48) 1) none, AOper.mk (some 9) (AOp.mov (Operand.tmp
  56)) none, AOper.mk (some 10) (AOp.mov (Operand.tmp 57)) none]) (AC.seq (AC.ops [AOper.mk (some 58) (AOp.mov (Operand.tmp 10)) none, AOper.mk (some 59)
  (AOp.bin false BinOp.neq (Operand.tmp 58) (Operand.const (Value.int IntKind.i64 0))) none, AOper.mk (some 60) (AOp.mov (Operand.tmp 59)) none, AOper.mk
  (some 61) (AOp.mov (Operand.tmp 9)) (some (60, false)), AOper.mk (some 62) (AOp.call 23 [Operand.tmp 61]) (some (60, false)), AOper.mk (some 63)
  (AOp.mov (Operand.tmp 2)) (some (60, false)), AOper.mk (some 64) (AOp.call 23 [Operand.tmp 63]) (some (60, false)), AOper.mk (some 65) (AOp.bin false
  BinOp.neq (Operand.tmp 62) (Operand.tmp 64)) (some (60, false)), AOper.mk (some 66) (AOp.pick (Operand.tmp 60) (Operand.const (Value.bool true))
  (Operand.tmp 65)) none]) (AC.cond (Operand.tmp 66) (AC.seq (AC.ops [AOper.mk (some 6) (AOp.mov (Operand.const (Value.bool false))) none]) AC.ret)
  AC.skip))) AC.skip)) (AC.seq (AC.seq (AC.ops [AOper.mk (some 67) (AOp.load true 4 (Operand.tmp 3)) none, AOper.mk (some 68) (AOp.load true 2
  (Operand.tmp 4)) none, AOper.mk (some 69) (AOp.mov (Operand.tmp 2)) none, AOper.mk (some 70) (AOp.fadr 2 (Operand.tmp 3)) none, AOper.mk (some 71)
  (AOp.fadr 0 (Operand.tmp 70)) none, AOper.mk (some 72) (AOp.load false 1 (Operand.tmp 71)) none, AOper.mk (some 73) (AOp.call 22 [Operand.tmp 67,
  Operand.tmp 68, Operand.tmp 69, Operand.tmp 72]) none]) (AC.cond (Operand.tmp 73) (AC.seq (AC.ops [AOper.mk (some 75) (AOp.fadr 0 (Operand.tmp 3))
  none, AOper.mk (some 76) (AOp.load true 2 (Operand.tmp 75)) none, AOper.mk (some 77) (AOp.fadr 2 (Operand.tmp 3)) none, AOper.mk (some 78) (AOp.load
  true 2 (Operand.tmp 77)) none, AOper.mk (some 79) (AOp.load true 2 (Operand.tmp 4)) none, AOper.mk (some 80) (AOp.mov (Operand.tmp 2)) none, AOper.mk
  (some 81) (AOp.call 14 [Operand.tmp 76, Operand.tmp 78, Operand.tmp 79, Operand.tmp 80]) none, AOper.mk (some 74) (AOp.mov (Operand.tmp 81)) none,
  AOper.mk (some 82) (AOp.ext (Operand.tmp 74) 0) none, AOper.mk (some 83) (AOp.ext (Operand.tmp 74) 1) none, AOper.mk (some 11) (AOp.mov (Operand.tmp
  82)) none, AOper.mk (some 12) (AOp.mov (Operand.tmp 83)) none]) (AC.seq (AC.seq (AC.ops [AOper.mk (some 84) (AOp.mov (Operand.tmp 12)) none, AOper.mk
  (some 85) (AOp.bin false BinOp.neq (Operand.tmp 84) (Operand.const (Value.int IntKind.i64 0))) none, AOper.mk (some 86) (AOp.mov (Operand.tmp 85))
  none, AOper.mk (some 87) (AOp.mov (Operand.tmp 11)) (some (86, false)), AOper.mk (some 88) (AOp.len (Operand.tmp 87)) (some (86, false)), AOper.mk
  (some 89) (AOp.fadr 0 (Operand.tmp 3)) (some (86, false)), AOper.mk (some 90) (AOp.fadr 0 (Operand.tmp 89)) (some (86, false)), AOper.mk (some 91)
  (AOp.load false 1 (Operand.tmp 90)) (some (86, false)), AOper.mk (some 92) (AOp.bin false BinOp.neq (Operand.tmp 88) (Operand.tmp 91)) (some (86,
  false)), AOper.mk (some 93) (AOp.pick (Operand.tmp 86) (Operand.const (Value.bool true)) (Operand.tmp 92)) none, AOper.mk (some 94) (AOp.mov
  (Operand.tmp 93)) none, AOper.mk (some 95) (AOp.mov (Operand.tmp 11)) (some (94, false)), AOper.mk (some 96) (AOp.call 23 [Operand.tmp 95]) (some (94,
  false)), AOper.mk (some 97) (AOp.mov (Operand.tmp 7)) (some (94, false)), AOper.mk (some 98) (AOp.mov (Operand.tmp 2)) (some (94, false)), AOper.mk
  (some 99) (AOp.call 23 [Operand.tmp 98]) (some (94, false)), AOper.mk (some 100) (AOp.bin false BinOp.mul (Operand.tmp 97) (Operand.tmp 99)) (some (94,
  false)), AOper.mk (some 101) (AOp.bin false BinOp.neq (Operand.tmp 96) (Operand.tmp 100)) (some (94, false)), AOper.mk (some 102) (AOp.pick
  (Operand.tmp 94) (Operand.const (Value.bool true)) (Operand.tmp 101)) none]) (AC.cond (Operand.tmp 102) (AC.seq (AC.ops [AOper.mk (some 6) (AOp.mov
  (Operand.const (Value.bool false))) none]) AC.ret) AC.skip)) (AC.seq (AC.ops [AOper.mk (some 104) (AOp.fadr 0 (Operand.tmp 3)) none, AOper.mk (some
  105) (AOp.load true 2 (Operand.tmp 104)) none, AOper.mk (some 106) (AOp.fadr 2 (Operand.tmp 3)) none, AOper.mk (some 107) (AOp.load true 2 (Operand.tmp
  106)) none, AOper.mk (some 108) (AOp.load true 2 (Operand.tmp 4)) none, AOper.mk (some 109) (AOp.mov (Operand.tmp 11)) none, AOper.mk (some 110)
  (AOp.call 12 [Operand.tmp 105, Operand.tmp 107, Operand.tmp 108, Operand.tmp 109]) none, AOper.mk (some 103) (AOp.mov (Operand.tmp 110)) none, AOper.mk
  (some 111) (AOp.ext (Operand.tmp 103) 0) none, AOper.mk (some 112) (AOp.ext (Operand.tmp 103) 1) none, AOper.mk (some 13) (AOp.mov (Operand.tmp 111))
  none, AOper.mk (some 12) (AOp.mov (Operand.tmp 112)) none]) (AC.seq (AC.seq (AC.ops [AOper.mk (some 113) (AOp.mov (Operand.tmp 12)) none, AOper.mk
  (some 114) (AOp.bin false BinOp.neq (Operand.tmp 113) (Operand.const (Value.int IntKind.i64 0))) none, AOper.mk (some 115) (AOp.mov (Operand.tmp 114))
  none, AOper.mk (some 116) (AOp.mov (Operand.tmp 13)) (some (115, false)), AOper.mk (some 117) (AOp.len (Operand.tmp 116)) (some (115, false)), AOper.mk
  (some 118) (AOp.mov (Operand.tmp 2)) (some (115, false)), AOper.mk (some 119) (AOp.len (Operand.tmp 118)) (some (115, false)), AOper.mk (some 120)
  (AOp.bin false BinOp.neq (Operand.tmp 117) (Operand.tmp 119)) (some (115, false)), AOper.mk (some 121) (AOp.pick (Operand.tmp 115) (Operand.const
  (Value.bool true)) (Operand.tmp 120)) none]) (AC.cond (Operand.tmp 121) (AC.seq (AC.ops [AOper.mk (some 6) (AOp.mov (Operand.const (Value.bool false)))
  none]) AC.ret) AC.skip)) (AC.seq (AC.ops [AOper.mk (some 122) (AOp.mov (Operand.tmp 2)) none, AOper.mk (some 123) (AOp.len (Operand.tmp 122)) none,
  AOper.mk (some 124) (AOp.mov (Operand.const (Value.int IntKind.i64 0))) none]) (AC.block 0 (AC.loop (AC.seq (AC.ops [AOper.mk (some 125) (AOp.bin false
  BinOp.lss (Operand.tmp 124) (Operand.tmp 123)) none]) (AC.seq (AC.cond (Operand.tmp 125) AC.skip (AC.exit 0)) (AC.seq (AC.block 1 (AC.seq (AC.ops
  [AOper.mk (some 126) (AOp.mov (Operand.tmp 124)) none, AOper.mk (some 14) (AOp.mov (Operand.tmp 126)) none]) (AC.seq (AC.segs [([AOper.mk (some 127)
  (AOp.mov (Operand.tmp 13)) none, AOper.mk (some 128) (AOp.mov (Operand.tmp 14)) none, AOper.mk (some 129) (AOp.iadr 1 (Operand.tmp 127) (Operand.tmp
  128)) none, AOper.mk (some 130) (AOp.load false 1 (Operand.tmp 129)) none, AOper.mk (some 131) (AOp.mov (Operand.tmp 7)) none, AOper.mk (some 132)
  (AOp.mov (Operand.tmp 2)) none, AOper.mk (some 133) (AOp.mov (Operand.tmp 14)) none, AOper.mk (some 134) (AOp.iadr 1 (Operand.tmp 132) (Operand.tmp
  133)) none, AOper.mk (some 135) (AOp.load false 1 (Operand.tmp 134)) none, AOper.mk (some 136) (AOp.bin false BinOp.mul (Operand.tmp 131) (Operand.tmp
  135)) none, AOper.mk (some 137) (AOp.bin false BinOp.neq (Operand.tmp 130) (Operand.tmp 136)) none], none)]) (AC.cond (Operand.tmp 137) (AC.seq (AC.ops
  [AOper.mk (some 6) (AOp.mov (Operand.const (Value.bool false))) none]) AC.ret) AC.skip)))) (AC.ops [AOper.mk (some 138) (AOp.bin false BinOp.add
  (Operand.tmp 124) (Operand.const (Value.int IntKind.i64 1))) none, AOper.mk (some 124) (AOp.mov (Operand.tmp 138)) none]))))))))))) AC.skip)) (AC.seq
  (AC.ops [AOper.mk (some 139) (AOp.call 11 []) none, AOper.mk (some 6) (AOp.mov (Operand.tmp 139)) none]) AC.ret))))))) [ARes.tmp 6]
theorem cfn5 : cfn Try.prog 5 3 = some c5 := by kernel_rfl
def c6 : AFn :=
  AFn.mk 123 (AC.seq (AC.ops [AOper.mk (some 2) (AOp.box 26 (Operand.tmp 0)) none, AOper.mk (some 3) (AOp.box 29 (Operand.tmp 1)) none, AOper.mk (some 4)
  (AOp.mov (Operand.const (Value.bool false))) none]) (AC.seq (AC.seq (AC.ops [AOper.mk (some 15) (AOp.load true 4 (Operand.tmp 2)) none, AOper.mk (some
  16) (AOp.load true 2 (Operand.tmp 3)) none, AOper.mk (some 17) (AOp.call 10 [Operand.tmp 15, Operand.tmp 16, Operand.const (Value.slice none 0 0)])
  none, AOper.mk (some 18) (AOp.un UnOp.not (Operand.tmp 17)) none, AOper.mk (some 19) (AOp.mov (Operand.tmp 18)) none, AOper.mk (some 20) (AOp.fadr 0
  (Operand.tmp 2)) (some (19, false)), AOper.mk (some 21) (AOp.load true 2 (Operand.tmp 20)) (some (19, false)), AOper.mk (some 22) (AOp.fadr 2
  (Operand.tmp 2)) (some (19, false)), AOper.mk (some 23) (AOp.load true 2 (Operand.tmp 22)) (some (19, false)), AOper.mk (some 24) (AOp.load true 2
  (Operand.tmp 3)) (some (19, false)), AOper.mk (some 25) (AOp.call 20 [Operand.tmp 21, Operand.tmp 23, Operand.tmp 24]) (some (19, false)), AOper.mk
  (some 26) (AOp.bin false BinOp.neq (Operand.tmp 25) (Operand.const (Value.int IntKind.i64 0))) (some (19, false)), AOper.mk (some 27) (AOp.pick
  (Operand.tmp 19) (Operand.const (Value.bool true)) (Operand.tmp 26)) none]) (AC.cond (Operand.tmp 27) (AC.seq (AC.ops [AOper.mk (some 28) (AOp.call 11
  []) none, AOper.mk (some 4) (AOp.mov (Operand.tmp 28)) none]) AC.ret) AC.skip)) (AC.seq (AC.ops [AOper.mk (some 30) (AOp.fadr 0 (Operand.tmp 2)) none,
  AOper.mk (some 31) (AOp.load true 2 (Operand.tmp 30)) none, AOper.mk (some 32) (AOp.fadr 2 (Operand.tmp 2)) none, AOper.mk (some 33) (AOp.load true 2
  (Operand.tmp 32)) none, AOper.mk (some 34) (AOp.load true 2 (Operand.tmp 3)) none, AOper.mk (some 35) (AOp.call 18 [Operand.tmp 31, Operand.tmp 33,
  Operand.tmp 34]) none, AOper.mk (some 29) (AOp.mov (Operand.tmp 35)) none, AOper.mk (some 36) (AOp.ext (Operand.tmp 29) 0) none, AOper.mk (some 37)
  (AOp.ext (Operand.tmp 29) 1) none, AOper.mk (some 38) (AOp.ext (Operand.tmp 29) 2) none, AOper.mk (some 5) (AOp.mov (Operand.tmp 36)) none, AOper.mk
  (some 6) (AOp.mov (Operand.tmp 37)) none, AOper.mk (some 7) (AOp.mov (Operand.tmp 38)) none]) (AC.seq (AC.ops [AOper.mk (some 8) (AOp.mov
  (Operand.const (Value.slice none 0 0))) none]) (AC.seq (AC.seq (AC.ops [AOper.mk (some 39) (AOp.fadr 2 (Operand.tmp 2)) none, AOper.mk (some 40)
  (AOp.fadr 0 (Operand.tmp 39)) none, AOper.mk (some 41) (AOp.load false 1 (Operand.tmp 40)) none, AOper.mk (some 42) (AOp.mov (Operand.const (Value.int
  IntKind.i64 0))) none]) (AC.block 0 (AC.loop (AC.seq (AC.ops [AOper.mk (some 43) (AOp.bin false BinOp.lss (Operand.tmp 42) (Operand.tmp 41)) none])
  (AC.seq (AC.cond (Operand.tmp 43) AC.skip (AC.exit 0)) (AC.seq (AC.block 1 (AC.seq (AC.ops [AOper.mk (some 44) (AOp.mov (Operand.tmp 42)) none,
  AOper.mk (some 9) (AOp.mov (Operand.tmp 44)) none]) (AC.ops [AOper.mk (some 45) (AOp.mov (Operand.tmp 8)) none, AOper.mk (some 46) (AOp.fadr 2
  (Operand.tmp 2)) none, AOper.mk (some 47) (AOp.load true 2 (Operand.tmp 46)) none, AOper.mk (some 48) (AOp.mov (Operand.tmp 9)) none, AOper.mk (some
  49) (AOp.call 24 [Operand.tmp 47, Operand.tmp 48]) none, AOper.mk (some 50) (AOp.bin false BinOp.sub (Operand.tmp 49) (Operand.const (Value.int
  IntKind.i64 2))) none, AOper.mk (some 51) (AOp.bsl 3 1 [Operand.tmp 50]) none, AOper.mk (some 52) (AOp.app 3 1 (Operand.tmp 45) (Operand.tmp 51)) none,
  AOper.mk (some 8) (AOp.mov (Operand.tmp 52)) none]))) (AC.ops [AOper.mk (some 53) (AOp.bin false BinOp.add (Operand.tmp 42) (Operand.const (Value.int
  IntKind.i64 1))) none, AOper.mk (some 42) (AOp.mov (Operand.tmp 53)) none]))))))) (AC.seq (AC.ops [AOper.mk (some 55) (AOp.fadr 0 (Operand.tmp 2))
  none, AOper.mk (some 56) (AOp.load true 2 (Operand.tmp 55)) none, AOper.mk (some 57) (AOp.fadr 2 (Operand.tmp 2)) none, AOper.mk (some 58) (AOp.load
  true 2 (Operand.tmp 57)) none, AOper.mk (some 59) (AOp.load true 2 (Operand.tmp 3)) none, AOper.mk (some 60) (AOp.mov (Operand.tmp 8)) none, AOper.mk
  (some 61) (AOp.call 14 [Operand.tmp 56, Operand.tmp 58, Operand.tmp 59, Operand.tmp 60]) none, AOper.mk (some 54) (AOp.mov (Operand.tmp 61)) none,
  AOper.mk (some 62) (AOp.ext (Operand.tmp 54) 0) none, AOper.mk (some 63) (AOp.ext (Operand.tmp 54) 1) none, AOper.mk (some 10) (AOp.mov (Operand.tmp
  62)) none, AOper.mk (some 11) (AOp.mov (Operand.tmp 63)) none]) (AC.seq (AC.ops [AOper.mk (some 65) (AOp.fadr 0 (Operand.tmp 2)) none, AOper.mk (some
  66) (AOp.load true 2 (Operand.tmp 65)) none, AOper.mk (some 67) (AOp.fadr 2 (Operand.tmp 2)) none, AOper.mk (some 68) (AOp.load true 2 (Operand.tmp
  67)) none, AOper.mk (some 69) (AOp.load true 2 (Operand.tmp 3)) none, AOper.mk (some 70) (AOp.call 16 [Operand.tmp 66, Operand.tmp 68, Operand.tmp 69])
  none, AOper.mk (some 64) (AOp.mov (Operand.tmp 70)) none, AOper.mk (some 71) (AOp.ext (Operand.tmp 64) 0) none, AOper.mk (some 72) (AOp.ext
  (Operand.tmp 64) 1) none, AOper.mk (some 12) (AOp.mov (Operand.tmp 71)) none, AOper.mk (some 13) (AOp.mov (Operand.tmp 72)) none]) (AC.seq (AC.seq
  (AC.ops [AOper.mk (some 73) (AOp.mov (Operand.tmp 7)) none, AOper.mk (some 74) (AOp.mov (Operand.tmp 11)) none, AOper.mk (some 75) (AOp.bin false
  BinOp.add (Operand.tmp 73) (Operand.tmp 74)) none, AOper.mk (some 76) (AOp.mov (Operand.tmp 13)) none, AOper.mk (some 77) (AOp.bin false BinOp.add
  (Operand.tmp 75) (Operand.tmp 76)) none, AOper.mk (some 78) (AOp.bin false BinOp.neq (Operand.tmp 77) (Operand.const (Value.int IntKind.i64 0))) none,
  AOper.mk (some 79) (AOp.mov (Operand.tmp 78)) none, AOper.mk (some 80) (AOp.mov (Operand.tmp 5)) (some (79, false)), AOper.mk (some 81) (AOp.mov
  (Operand.tmp 6)) (some (79, false)), AOper.mk (some 82) (AOp.bin false BinOp.neq (Operand.tmp 80) (Operand.tmp 81)) (some (79, false)), AOper.mk (some
  83) (AOp.pick (Operand.tmp 79) (Operand.const (Value.bool true)) (Operand.tmp 82)) none, AOper.mk (some 84) (AOp.mov (Operand.tmp 83)) none, AOper.mk
  (some 85) (AOp.mov (Operand.tmp 10)) (some (84, false)), AOper.mk (some 86) (AOp.len (Operand.tmp 85)) (some (84, false)), AOper.mk (some 87) (AOp.fadr
  0 (Operand.tmp 2)) (some (84, false)), AOper.mk (some 88) (AOp.fadr 0 (Operand.tmp 87)) (some (84, false)), AOper.mk (some 89) (AOp.load false 1
  (Operand.tmp 88)) (some (84, false)), AOper.mk (some 90) (AOp.bin false BinOp.neq (Operand.tmp 86) (Operand.tmp 89)) (some (84, false)), AOper.mk (some
  91) (AOp.pick (Operand.tmp 84) (Operand.const (Value.bool true)) (Operand.tmp 90)) none, AOper.mk (some 92) (AOp.mov (Operand.tmp 91)) none, AOper.mk
  (some 93) (AOp.mov (Operand.tmp 12)) (some (92, false)), AOper.mk (some 94) (AOp.len (Operand.tmp 93)) (some (92, false)), AOper.mk (some 95) (AOp.fadr
  0 (Operand.tmp 2)) (some (92, false)), AOper.mk (some 96) (AOp.fadr 0 (Operand.tmp 95)) (some (92, false)), AOper.mk (some 97) (AOp.load false 1
  (Operand.tmp 96)) (some (92, false)), AOper.mk (some 98) (AOp.bin false BinOp.neq (Operand.tmp 94) (Operand.tmp 97)) (some (92, false)), AOper.mk (some
  99) (AOp.pick (Operand.tmp 92) (Operand.const (Value.bool true)) (Operand.tmp 98)) none]) (AC.cond (Operand.tmp 99) (AC.seq (AC.ops [AOper.mk (some 4)
  (AOp.mov (Operand.const (Value.bool false))) none]) AC.ret) AC.skip)) (AC.seq (AC.seq (AC.ops [AOper.mk (some 100) (AOp.fadr 0 (Operand.tmp 2)) none,
  AOper.mk (some 101) (AOp.fadr 0 (Operand.tmp 100)) none, AOper.mk (some 102) (AOp.load false 1 (Operand.tmp 101)) none, AOper.mk (some 103) (AOp.mov
  (Operand.const (Value.int IntKind.i64 0))) none]) (AC.block 2 (AC.loop (AC.seq (AC.ops [AOper.mk (some 104) (AOp.bin false BinOp.lss (Operand.tmp 103)
  (Operand.tmp 102)) none]) (AC.seq (AC.cond (Operand.tmp 104) AC.skip (AC.exit 2)) (AC.seq (AC.block 3 (AC.seq (AC.ops [AOper.mk (some 105) (AOp.mov
  (Operand.tmp 103)) none, AOper.mk (some 14) (AOp.mov (Operand.tmp 105)) none]) (AC.seq (AC.segs [([AOper.mk (some 106) (AOp.fadr 0 (Operand.tmp 2))
  none, AOper.mk (some 107) (AOp.load true 2 (Operand.tmp 106)) none, AOper.mk (some 108) (AOp.mov (Operand.tmp 14)) none, AOper.mk (some 111) (AOp.mov
  (Operand.tmp 10)) none, AOper.mk (some 112) (AOp.mov (Operand.tmp 14)) none, AOper.mk (some 113) (AOp.iadr 1 (Operand.tmp 111) (Operand.tmp 112)) none,
  AOper.mk (some 114) (AOp.load false 1 (Operand.tmp 113)) none, AOper.mk (some 115) (AOp.mov (Operand.tmp 12)) none, AOper.mk (some 116) (AOp.mov
  (Operand.tmp 14)) none, AOper.mk (some 117) (AOp.iadr 1 (Operand.tmp 115) (Operand.tmp 116)) none, AOper.mk (some 118) (AOp.load false 1 (Operand.tmp
  117)) none, AOper.mk (some 119) (AOp.bin false BinOp.add (Operand.tmp 114) (Operand.tmp 118)) none], some (true, AOper.mk (some 109) (AOp.call 24
  [Operand.tmp 107, Operand.tmp 108]) none)), ([AOper.mk (some 110) (AOp.bin false BinOp.sub (Operand.tmp 109) (Operand.const (Value.int IntKind.i64 2)))
  none, AOper.mk (some 120) (AOp.bin false BinOp.neq (Operand.tmp 110) (Operand.tmp 119)) none], none)]) (AC.cond (Operand.tmp 120) (AC.seq (AC.ops
  [AOper.mk (some 4) (AOp.mov (Operand.const (Value.bool false))) none]) AC.ret) AC.skip)))) (AC.ops [AOper.mk (some 121) (AOp.bin false BinOp.add
  (Operand.tmp 103) (Operand.const (Value.int IntKind.i64 1))) none, AOper.mk (some 103) (AOp.mov (Operand.tmp 121)) none]))))))) (AC.seq (AC.ops
  [AOper.mk (some 122) (AOp.call 11 []) none, AOper.mk (some 4) (AOp.mov (Operand.tmp 122)) none]) AC.ret)))))))))) [ARes.tmp 4]
theorem cfn6 : cfn Try.prog 6 2 = some c6 := by kernel_rfl
def c7 : AFn :=
  AFn.mk 82 (AC.seq (AC.ops [AOper.mk (some 3) (AOp.box 26 (Operand.tmp 0)) none, AOper.mk (some 4) (AOp.box 29 (Operand.tmp 1)) none, AOper.mk (some 6)
  (AOp.mov (Operand.const (Value.bool false))) none]) (AC.seq (AC.seq (AC.ops [AOper.mk (some 15) (AOp.load true 4 (Operand.tmp 3)) none, AOper.mk (some
  16) (AOp.load true 2 (Operand.tmp 4)) none, AOper.mk (some 17) (AOp.mov (Operand.tmp 2)) none, AOper.mk (some 18) (AOp.call 10 [Operand.tmp 15,
  Operand.tmp 16, Operand.tmp 17]) none, AOper.mk (some 19) (AOp.un UnOp.not (Operand.tmp 18)) none]) (AC.cond (Operand.tmp 19) (AC.seq (AC.ops [AOper.mk
  (some 20) (AOp.call 11 []) none, AOper.mk (some 6) (AOp.mov (Operand.tmp 20)) none]) AC.ret) AC.skip)) (AC.seq (AC.ops [AOper.mk (some 22) (AOp.fadr 0
  (Operand.tmp 3)) none, AOper.mk (some 23) (AOp.load true 2 (Operand.tmp 22)) none, AOper.mk (some 24) (AOp.fadr 2 (Operand.tmp 3)) none, AOper.mk (some
  25) (AOp.load true 2 (Operand.tmp 24)) none, AOper.mk (some 26) (AOp.load true 2 (Operand.tmp 4)) none, AOper.mk (some 27) (AOp.mov (Operand.tmp 2))
  none, AOper.mk (some 28) (AOp.call 25 [Operand.tmp 23, Operand.tmp 25, Operand.tmp 26, Operand.tmp 27]) none, AOper.mk (some 21) (AOp.mov (Operand.tmp
  28)) none, AOper.mk (some 29) (AOp.ext (Operand.tmp 21) 0) none, AOper.mk (some 30) (AOp.ext (Operand.tmp 21) 1) none, AOper.mk (some 7) (AOp.mov
  (Operand.tmp 29)) none, AOper.mk (some 8) (AOp.mov (Operand.tmp 30)) none]) (AC.seq (AC.ops [AOper.mk (some 32) (AOp.fadr 0 (Operand.tmp 3)) none,
  AOper.mk (some 33) (AOp.load true 2 (Operand.tmp 32)) none, AOper.mk (some 34) (AOp.fadr 2 (Operand.tmp 3)) none, AOper.mk (some 35) (AOp.load true 2
  (Operand.tmp 34)) none, AOper.mk (some 36) (AOp.load true 2 (Operand.tmp 4)) none, AOper.mk (some 37) (AOp.mov (Operand.tmp 2)) none, AOper.mk (some
  38) (AOp.call 13 [Operand.tmp 33, Operand.tmp 35, Operand.tmp 36, Operand.tmp 37, Operand.const (Value.bool true), Operand.const (Value.bool true)])
  none, AOper.mk (some 31) (AOp.mov (Operand.tmp 38)) none, AOper.mk (some 39) (AOp.ext (Operand.tmp 31) 0) none, AOper.mk (some 40) (AOp.ext
  (Operand.tmp 31) 1) none, AOper.mk (some 9) (AOp.mov (Operand.tmp 39)) none, AOper.mk (some 10) (AOp.mov (Operand.tmp 40)) none]) (AC.seq (AC.ops
  [AOper.mk (some 42) (AOp.fadr 0 (Operand.tmp 3)) none, AOper.mk (some 43) (AOp.load true 2 (Operand.tmp 42)) none, AOper.mk (some 44) (AOp.fadr 2
  (Operand.tmp 3)) none, AOper.mk (some 45) (AOp.load true 2 (Operand.tmp 44)) none, AOper.mk (some 46) (AOp.load true 2 (Operand.tmp 4)) none, AOper.mk
  (some 47) (AOp.mov (Operand.tmp 2)) none, AOper.mk (some 48) (AOp.call 26 [Operand.tmp 43, Operand.tmp 45, Operand.tmp 46, Operand.tmp 47]) none,
  AOper.mk (some 41) (AOp.mov (Operand.tmp 48)) none, AOper.mk (some 49) (AOp.ext (Operand.tmp 41) 0) none, AOper.mk (some 50) (AOp.ext (Operand.tmp 41)
  1) none, AOper.mk (some 11) (AOp.mov (Operand.tmp 49)) none, AOper.mk (some 12) (AOp.mov (Operand.tmp 50)) none]) (AC.seq (AC.ops [AOper.mk (some 52)
  (AOp.fadr 0 (Operand.tmp 3)) none, AOper.mk (some 53) (AOp.load true 2 (Operand.tmp 52)) none, AOper.mk (some 54) (AOp.fadr 2 (Operand.tmp 3)) none,
  AOper.mk (some 55) (AOp.load true 2 (Operand.tmp 54)) none, AOper.mk (some 56) (AOp.load true 2 (Operand.tmp 4)) none, AOper.mk (some 57) (AOp.mov
  (Operand.tmp 2)) none, AOper.mk (some 58) (AOp.call 13 [Operand.tmp 53, Operand.tmp 55, Operand.tmp 56, Operand.tmp 57, Operand.const (Value.bool
  false), Operand.const (Value.bool false)]) none, AOper.mk (some 51) (AOp.mov (Operand.tmp 58)) none, AOper.mk (some 59) (AOp.ext (Operand.tmp 51) 0)
  none, AOper.mk (some 60) (AOp.ext (Operand.tmp 51) 1) none, AOper.mk (some 13) (AOp.mov (Operand.tmp 59)) none, AOper.mk (some 14) (AOp.mov
  (Operand.tmp 60)) none]) (AC.seq (AC.ops [AOper.mk (some 61) (AOp.call 11 []) none, AOper.mk (some 62) (AOp.mov (Operand.tmp 61)) none, AOper.mk (some
  63) (AOp.mov (Operand.tmp 7)) (some (62, true)), AOper.mk (some 64) (AOp.mov (Operand.tmp 9)) (some (62, true)), AOper.mk (some 65) (AOp.call 27
  [Operand.tmp 63, Operand.tmp 64]) (some (62, true)), AOper.mk (some 66) (AOp.pick (Operand.tmp 62) (Operand.tmp 65) (Operand.const (Value.bool false)))
  none, AOper.mk (some 67) (AOp.mov (Operand.tmp 66)) none, AOper.mk (some 68) (AOp.mov (Operand.tmp 8)) (some (67, true)), AOper.mk (some 69) (AOp.mov
  (Operand.tmp 10)) (some (67, true)), AOper.mk (some 70) (AOp.bin false BinOp.eql (Operand.tmp 68) (Operand.tmp 69)) (some (67, true)), AOper.mk (some
  71) (AOp.pick (Operand.tmp 67) (Operand.tmp 70) (Operand.const (Value.bool false))) none, AOper.mk (some 72) (AOp.mov (Operand.tmp 71)) none, AOper.mk
  (some 73) (AOp.mov (Operand.tmp 11)) (some (72, true)), AOper.mk (some 74) (AOp.mov (Operand.tmp 13)) (some (72, true)), AOper.mk (some 75) (AOp.call
  27 [Operand.tmp 73, Operand.tmp 74]) (some (72, true)), AOper.mk (some 76) (AOp.pick (Operand.tmp 72) (Operand.tmp 75) (Operand.const (Value.bool
  false))) none, AOper.mk (some 77) (AOp.mov (Operand.tmp 76)) none, AOper.mk (some 78) (AOp.mov (Operand.tmp 12)) (some (77, true)), AOper.mk (some 79)
  (AOp.mov (Operand.tmp 14)) (some (77, true)), AOper.mk (some 80) (AOp.bin false BinOp.eql (Operand.tmp 78) (Operand.tmp 79)) (some (77, true)),
  AOper.mk (some 81) (AOp.pick (Operand.tmp 77) (Operand.tmp 80) (Operand.const (Value.bool false))) none, AOper.mk (some 6) (AOp.mov (Operand.tmp 81))
  none]) AC.ret))))))) [ARes.tmp 6]
theorem cfn7 : cfn Try.prog 7 3 = some c7 := by kernel_rfl
end Go.Proofs.Ytddgepjmfnodhaa
