/-
  The compiled code of the functions (printed by a program of mine).
-/
import Derived.Test.YthdbmoflbnggpaaMad
import Derived.Test.YthdbmoflbnggpaaChecked
namespace Go.Proofs.Ythdbmoflbnggpaa
open Go.Abs
def c3 : AFn :=
  AFn.mk 47 (AC.seq (AC.ops [AOper.mk (some 3) (AOp.box 24 (Operand.tmp 0)) none, AOper.mk (some 6) (AOp.mov (Operand.const (Value.bool false))) none])
  (AC.seq (AC.seq (AC.ops [AOper.mk (some 13) (AOp.load true 2 (Operand.tmp 3)) none, AOper.mk (some 14) (AOp.mov (Operand.tmp 2)) none, AOper.mk (some
  15) (AOp.call 11 [Operand.tmp 13, Operand.tmp 14]) none, AOper.mk (some 16) (AOp.un UnOp.not (Operand.tmp 15)) none]) (AC.cond (Operand.tmp 16) (AC.seq
  (AC.ops [AOper.mk (some 17) (AOp.call 12 []) none, AOper.mk (some 6) (AOp.mov (Operand.tmp 17)) none]) AC.ret) AC.skip)) (AC.seq (AC.ops [AOper.mk
  (some 19) (AOp.load true 2 (Operand.tmp 3)) none, AOper.mk (some 20) (AOp.mov (Operand.tmp 1)) none, AOper.mk (some 21) (AOp.mov (Operand.tmp 2)) none,
  AOper.mk (some 22) (AOp.call 13 [Operand.tmp 19, Operand.tmp 20, Operand.tmp 21]) none, AOper.mk (some 18) (AOp.mov (Operand.tmp 22)) none, AOper.mk
  (some 23) (AOp.ext (Operand.tmp 18) 0) none, AOper.mk (some 24) (AOp.ext (Operand.tmp 18) 1) none, AOper.mk (some 25) (AOp.ext (Operand.tmp 18) 2)
  none, AOper.mk (some 7) (AOp.mov (Operand.tmp 23)) none, AOper.mk (some 8) (AOp.mov (Operand.tmp 24)) none, AOper.mk (some 9) (AOp.mov (Operand.tmp
  25)) none]) (AC.seq (AC.ops [AOper.mk (some 27) (AOp.load true 2 (Operand.tmp 3)) none, AOper.mk (some 28) (AOp.mov (Operand.tmp 1)) none, AOper.mk
  (some 29) (AOp.mov (Operand.tmp 2)) none, AOper.mk (some 30) (AOp.call 14 [Operand.tmp 27, Operand.tmp 28, Operand.tmp 29]) none, AOper.mk (some 26)
  (AOp.mov (Operand.tmp 30)) none, AOper.mk (some 31) (AOp.ext (Operand.tmp 26) 0) none, AOper.mk (some 32) (AOp.ext (Operand.tmp 26) 1) none, AOper.mk
  (some 33) (AOp.ext (Operand.tmp 26) 2) none, AOper.mk (some 10) (AOp.mov (Operand.tmp 31)) none, AOper.mk (some 11) (AOp.mov (Operand.tmp 32)) none,
  AOper.mk (some 12) (AOp.mov (Operand.tmp 33)) none]) (AC.seq (AC.ops [AOper.mk (some 34) (AOp.mov (Operand.tmp 7)) none, AOper.mk (some 35) (AOp.mov
  (Operand.tmp 10)) none, AOper.mk (some 36) (AOp.mov (Operand.tmp 8)) none, AOper.mk (some 37) (AOp.mov (Operand.tmp 11)) none, AOper.mk (some 38)
  (AOp.call 15 [Operand.tmp 34, Operand.tmp 35, Operand.tmp 36, Operand.tmp 37]) none, AOper.mk (some 39) (AOp.mov (Operand.tmp 38)) none, AOper.mk (some
  40) (AOp.mov (Operand.tmp 9)) (some (39, true)), AOper.mk (some 41) (AOp.mov (Operand.tmp 12)) (some (39, true)), AOper.mk (some 42) (AOp.bin false
  BinOp.eql (Operand.tmp 40) (Operand.tmp 41)) (some (39, true)), AOper.mk (some 43) (AOp.pick (Operand.tmp 39) (Operand.tmp 42) (Operand.const
  (Value.bool false))) none, AOper.mk (some 44) (AOp.mov (Operand.tmp 43)) none, AOper.mk (some 45) (AOp.call 12 []) (some (44, true)), AOper.mk (some
  46) (AOp.pick (Operand.tmp 44) (Operand.tmp 45) (Operand.const (Value.bool false))) none, AOper.mk (some 6) (AOp.mov (Operand.tmp 46)) none])
  AC.ret))))) [ARes.tmp 6]
theorem cfn3 : cfn Try.prog 3 3 = some c3 := by kernel_rfl
def c4 : AFn :=
  AFn.mk 67 (AC.seq (AC.ops [AOper.mk (some 3) (AOp.box 24 (Operand.tmp 0)) none, AOper.mk (some 6) (AOp.mov (Operand.const (Value.bool false))) none])
  (AC.seq (AC.seq (AC.ops [AOper.mk (some 15) (AOp.load true 2 (Operand.tmp 3)) none, AOper.mk (some 16) (AOp.mov (Operand.tmp 2)) none, AOper.mk (some
  17) (AOp.call 11 [Operand.tmp 15, Operand.tmp 16]) none, AOper.mk (some 18) (AOp.un UnOp.not (Operand.tmp 17)) none]) (AC.cond (Operand.tmp 18) (AC.seq
  (AC.ops [AOper.mk (some 19) (AOp.call 12 []) none, AOper.mk (some 6) (AOp.mov (Operand.tmp 19)) none]) AC.ret) AC.skip)) (AC.seq (AC.ops [AOper.mk
  (some 21) (AOp.load true 2 (Operand.tmp 3)) none, AOper.mk (some 22) (AOp.mov (Operand.tmp 1)) none, AOper.mk (some 23) (AOp.mov (Operand.tmp 2)) none,
  AOper.mk (some 24) (AOp.call 16 [Operand.tmp 21, Operand.tmp 22, Operand.tmp 23]) none, AOper.mk (some 20) (AOp.mov (Operand.tmp 24)) none, AOper.mk
  (some 25) (AOp.ext (Operand.tmp 20) 0) none, AOper.mk (some 26) (AOp.ext (Operand.tmp 20) 1) none, AOper.mk (some 7) (AOp.mov (Operand.tmp 25)) none,
  AOper.mk (some 8) (AOp.mov (Operand.tmp 26)) none]) (AC.seq (AC.ops [AOper.mk (some 28) (AOp.load true 2 (Operand.tmp 3)) none, AOper.mk (some 29)
  (AOp.mov (Operand.tmp 1)) none, AOper.mk (some 30) (AOp.mov (Operand.tmp 2)) none, AOper.mk (some 31) (AOp.call 17 [Operand.tmp 28, Operand.tmp 29,
  Operand.tmp 30]) none, AOper.mk (some 27) (AOp.mov (Operand.tmp 31)) none, AOper.mk (some 32) (AOp.ext (Operand.tmp 27) 0) none, AOper.mk (some 33)
  (AOp.ext (Operand.tmp 27) 1) none, AOper.mk (some 9) (AOp.mov (Operand.tmp 32)) none, AOper.mk (some 10) (AOp.mov (Operand.tmp 33)) none]) (AC.seq
  (AC.ops [AOper.mk (some 35) (AOp.load true 2 (Operand.tmp 3)) none, AOper.mk (some 36) (AOp.mov (Operand.tmp 1)) none, AOper.mk (some 37) (AOp.call 18
  [Operand.tmp 35, Operand.tmp 36]) none, AOper.mk (some 34) (AOp.mov (Operand.tmp 37)) none, AOper.mk (some 38) (AOp.ext (Operand.tmp 34) 0) none,
  AOper.mk (some 39) (AOp.ext (Operand.tmp 34) 1) none, AOper.mk (some 11) (AOp.mov (Operand.tmp 38)) none, AOper.mk (some 12) (AOp.mov (Operand.tmp 39))
  none]) (AC.seq (AC.ops [AOper.mk (some 41) (AOp.load true 2 (Operand.tmp 3)) none, AOper.mk (some 42) (AOp.mov (Operand.tmp 1)) none, AOper.mk (some
  43) (AOp.call 19 [Operand.tmp 41, Operand.tmp 42]) none, AOper.mk (some 40) (AOp.mov (Operand.tmp 43)) none, AOper.mk (some 44) (AOp.ext (Operand.tmp
  40) 0) none, AOper.mk (some 45) (AOp.ext (Operand.tmp 40) 1) none, AOper.mk (some 13) (AOp.mov (Operand.tmp 44)) none, AOper.mk (some 14) (AOp.mov
  (Operand.tmp 45)) none]) (AC.seq (AC.ops [AOper.mk (some 46) (AOp.mov (Operand.tmp 7)) none, AOper.mk (some 47) (AOp.mov (Operand.tmp 9)) none,
  AOper.mk (some 48) (AOp.call 20 [Operand.tmp 46, Operand.tmp 47]) none, AOper.mk (some 49) (AOp.mov (Operand.tmp 48)) none, AOper.mk (some 50) (AOp.mov
  (Operand.tmp 8)) (some (49, true)), AOper.mk (some 51) (AOp.mov (Operand.tmp 10)) (some (49, true)), AOper.mk (some 52) (AOp.bin false BinOp.eql
  (Operand.tmp 50) (Operand.tmp 51)) (some (49, true)), AOper.mk (some 53) (AOp.pick (Operand.tmp 49) (Operand.tmp 52) (Operand.const (Value.bool
  false))) none, AOper.mk (some 54) (AOp.mov (Operand.tmp 53)) none, AOper.mk (some 55) (AOp.mov (Operand.tmp 11)) (some (54, true)), AOper.mk (some 56)
  (AOp.mov (Operand.tmp 13)) (some (54, true)), AOper.mk (some 57) (AOp.call 21 [Operand.tmp 55, Operand.tmp 56]) (some (54, true)), AOper.mk (some 58)
  (AOp.pick (Operand.tmp 54) (Operand.tmp 57) (Operand.const (Value.bool false))) none, AOper.mk (some 59) (AOp.mov (Operand.tmp 58)) none, AOper.mk
  (some 60) (AOp.mov (Operand.tmp 12)) (some (59, true)), AOper.mk (some 61) (AOp.mov (Operand.tmp 14)) (some (59, true)), AOper.mk (some 62) (AOp.bin
  false BinOp.eql (Operand.tmp 60) (Operand.tmp 61)) (some (59, true)), AOper.mk (some 63) (AOp.pick (Operand.tmp 59) (Operand.tmp 62) (Operand.const
  (Value.bool false))) none, AOper.mk (some 64) (AOp.mov (Operand.tmp 63)) none, AOper.mk (some 65) (AOp.call 12 []) (some (64, true)), AOper.mk (some
  66) (AOp.pick (Operand.tmp 64) (Operand.tmp 65) (Operand.const (Value.bool false))) none, AOper.mk (some 6) (AOp.mov (Operand.tmp 66)) none])
  AC.ret))))))) [ARes.tmp 6]
theorem cfn4 : cfn Try.prog 4 3 = some c4 := by kernel_rfl
def c5 : AFn :=
  AFn.mk 101 (AC.seq (AC.ops [AOper.mk (some 3) (AOp.box 24 (Operand.tmp 0)) none, AOper.mk (some 4) (AOp.box 48 (Operand.tmp 1)) none, AOper.mk (some 6)
  (AOp.mov (Operand.const (Value.bool false))) none]) (AC.seq (AC.seq (AC.ops [AOper.mk (some 21) (AOp.load true 2 (Operand.tmp 3)) none, AOper.mk (some
  22) (AOp.mov (Operand.tmp 2)) none, AOper.mk (some 23) (AOp.call 11 [Operand.tmp 21, Operand.tmp 22]) none, AOper.mk (some 24) (AOp.un UnOp.not
  (Operand.tmp 23)) none]) (AC.cond (Operand.tmp 24) (AC.seq (AC.ops [AOper.mk (some 25) (AOp.call 12 []) none, AOper.mk (some 6) (AOp.mov (Operand.tmp
  25)) none]) AC.ret) AC.skip)) (AC.seq (AC.ops [AOper.mk (some 27) (AOp.load true 2 (Operand.tmp 3)) none, AOper.mk (some 28) (AOp.fadr 0 (Operand.tmp
  4)) none, AOper.mk (some 29) (AOp.load false 1 (Operand.tmp 28)) none, AOper.mk (some 30) (AOp.mov (Operand.tmp 2)) none, AOper.mk (some 31) (AOp.fadr
  1 (Operand.tmp 4)) none, AOper.mk (some 32) (AOp.load false 1 (Operand.tmp 31)) none, AOper.mk (some 33) (AOp.call 22 [Operand.tmp 27, Operand.tmp 29,
  Operand.tmp 30, Operand.tmp 32]) none, AOper.mk (some 26) (AOp.mov (Operand.tmp 33)) none, AOper.mk (some 34) (AOp.ext (Operand.tmp 26) 0) none,
  AOper.mk (some 35) (AOp.ext (Operand.tmp 26) 1) none, AOper.mk (some 36) (AOp.ext (Operand.tmp 26) 2) none, AOper.mk (some 37) (AOp.ext (Operand.tmp
  26) 3) none, AOper.mk (some 7) (AOp.mov (Operand.tmp 34)) none, AOper.mk (some 8) (AOp.mov (Operand.tmp 35)) none, AOper.mk (some 9) (AOp.mov
  (Operand.tmp 36)) none, AOper.mk (some 10) (AOp.mov (Operand.tmp 37)) none]) (AC.seq (AC.ops [AOper.mk (some 39) (AOp.load true 2 (Operand.tmp 3))
  none, AOper.mk (some 40) (AOp.fadr 0 (Operand.tmp 4)) none, AOper.mk (some 41) (AOp.load false 1 (Operand.tmp 40)) none, AOper.mk (some 42) (AOp.mov
  (Operand.tmp 2)) none, AOper.mk (some 43) (AOp.fadr 1 (Operand.tmp 4)) none, AOper.mk (some 44) (AOp.load false 1 (Operand.tmp 43)) none, AOper.mk
  (some 45) (AOp.call 23 [Operand.tmp 39, Operand.tmp 41, Operand.tmp 42, Operand.tmp 44]) none, AOper.mk (some 38) (AOp.mov (Operand.tmp 45)) none,
  AOper.mk (some 46) (AOp.ext (Operand.tmp 38) 0) none, AOper.mk (some 47) (AOp.ext (Operand.tmp 38) 1) none, AOper.mk (some 48) (AOp.ext (Operand.tmp
  38) 2) none, AOper.mk (some 49) (AOp.ext (Operand.tmp 38) 3) none, AOper.mk (some 11) (AOp.mov (Operand.tmp 46)) none, AOper.mk (some 12) (AOp.mov
  (Operand.tmp 47)) none, AOper.mk (some 13) (AOp.mov (Operand.tmp 48)) none, AOper.mk (some 14) (AOp.mov (Operand.tmp 49)) none]) (AC.seq (AC.ops
  [AOper.mk (some 51) (AOp.load true 2 (Operand.tmp 3)) none, AOper.mk (some 52) (AOp.fadr 0 (Operand.tmp 4)) none, AOper.mk (some 53) (AOp.load false 1
  (Operand.tmp 52)) none, AOper.mk (some 54) (AOp.mov (Operand.tmp 2)) none, AOper.mk (some 55) (AOp.call 24 [Operand.tmp 51, Operand.tmp 53, Operand.tmp
  54]) none, AOper.mk (some 50) (AOp.mov (Operand.tmp 55)) none, AOper.mk (some 56) (AOp.ext (Operand.tmp 50) 0) none, AOper.mk (some 57) (AOp.ext
  (Operand.tmp 50) 1) none, AOper.mk (some 58) (AOp.ext (Operand.tmp 50) 2) none, AOper.mk (some 15) (AOp.mov (Operand.tmp 56)) none, AOper.mk (some 16)
  (AOp.mov (Operand.tmp 57)) none, AOper.mk (some 17) (AOp.mov (Operand.tmp 58)) none]) (AC.seq (AC.ops [AOper.mk (some 60) (AOp.load true 2 (Operand.tmp
  3)) none, AOper.mk (some 61) (AOp.fadr 0 (Operand.tmp 4)) none, AOper.mk (some 62) (AOp.load false 1 (Operand.tmp 61)) none, AOper.mk (some 63)
  (AOp.mov (Operand.tmp 2)) none, AOper.mk (some 64) (AOp.call 25 [Operand.tmp 60, Operand.tmp 62, Operand.tmp 63]) none, AOper.mk (some 59) (AOp.mov
  (Operand.tmp 64)) none, AOper.mk (some 65) (AOp.ext (Operand.tmp 59) 0) none, AOper.mk (some 66) (AOp.ext (Operand.tmp 59) 1) none, AOper.mk (some 67)
  (AOp.ext (Operand.tmp 59) 2) none, AOper.mk (some 18) (AOp.mov (Operand.tmp 65)) none, AOper.mk (some 19) (AOp.mov (Operand.tmp 66)) none, AOper.mk
  (some 20) (AOp.mov (Operand.tmp 67)) none]) (AC.seq (AC.ops [AOper.mk (some 68) (AOp.mov (Operand.tmp 7)) none, AOper.mk (some 69) (AOp.mov
  (Operand.tmp 11)) none, AOper.mk (some 70) (AOp.mov (Operand.tmp 8)) none, AOper.mk (some 71) (AOp.mov (Operand.tmp 12)) none, AOper.mk (some 72)
  (AOp.call 15 [Operand.tmp 68, Operand.tmp 69, Operand.tmp 70, Operand.tmp 71]) none, AOper.mk (some 73) (AOp.mov (Operand.tmp 72)) none, AOper.mk (some
  74) (AOp.mov (Operand.tmp 9)) (some (73, true)), AOper.mk (some 75) (AOp.mov (Operand.tmp 13)) (some (73, true)), AOper.mk (some 76) (AOp.bin false
  BinOp.eql (Operand.tmp 74) (Operand.tmp 75)) (some (73, true)), AOper.mk (some 77) (AOp.pick (Operand.tmp 73) (Operand.tmp 76) (Operand.const
  (Value.bool false))) none, AOper.mk (some 78) (AOp.mov (Operand.tmp 77)) none, AOper.mk (some 79) (AOp.mov (Operand.tmp 10)) (some (78, true)),
  AOper.mk (some 80) (AOp.mov (Operand.tmp 14)) (some (78, true)), AOper.mk (some 81) (AOp.bin false BinOp.eql (Operand.tmp 79) (Operand.tmp 80)) (some
  (78, true)), AOper.mk (some 82) (AOp.pick (Operand.tmp 78) (Operand.tmp 81) (Operand.const (Value.bool false))) none, AOper.mk (some 83) (AOp.mov
  (Operand.tmp 82)) none, AOper.mk (some 84) (AOp.mov (Operand.tmp 15)) (some (83, true)), AOper.mk (some 85) (AOp.mov (Operand.tmp 18)) (some (83,
  true)), AOper.mk (some 86) (AOp.bin false BinOp.eql (Operand.tmp 84) (Operand.tmp 85)) (some (83, true)), AOper.mk (some 87) (AOp.pick (Operand.tmp 83)
  (Operand.tmp 86) (Operand.const (Value.bool false))) none, AOper.mk (some 88) (AOp.mov (Operand.tmp 87)) none, AOper.mk (some 89) (AOp.mov (Operand.tmp
  16)) (some (88, true)), AOper.mk (some 90) (AOp.mov (Operand.tmp 19)) (some (88, true)), AOper.mk (some 91) (AOp.bin false BinOp.eql (Operand.tmp 89)
  (Operand.tmp 90)) (some (88, true)), AOper.mk (some 92) (AOp.pick (Operand.tmp 88) (Operand.tmp 91) (Operand.const (Value.bool false))) none, AOper.mk
  (some 93) (AOp.mov (Operand.tmp 92)) none, AOper.mk (some 94) (AOp.mov (Operand.tmp 17)) (some (93, true)), AOper.mk (some 95) (AOp.mov (Operand.tmp
  20)) (some (93, true)), AOper.mk (some 96) (AOp.bin false BinOp.eql (Operand.tmp 94) (Operand.tmp 95)) (some (93, true)), AOper.mk (some 97) (AOp.pick
  (Operand.tmp 93) (Operand.tmp 96) (Operand.const (Value.bool false))) none, AOper.mk (some 98) (AOp.mov (Operand.tmp 97)) none, AOper.mk (some 99)
  (AOp.call 12 []) (some (98, true)), AOper.mk (some 100) (AOp.pick (Operand.tmp 98) (Operand.tmp 99) (Operand.const (Value.bool false))) none, AOper.mk
  (some 6) (AOp.mov (Operand.tmp 100)) none]) AC.ret))))))) [ARes.tmp 6]
theorem cfn5 : cfn Try.prog 5 3 = some c5 := by kernel_rfl
def c6 : AFn :=
  AFn.mk 80 (AC.seq (AC.ops [AOper.mk (some 3) (AOp.box 24 (Operand.tmp 0)) none, AOper.mk (some 6) (AOp.mov (Operand.const (Value.bool false))) none])
  (AC.seq (AC.seq (AC.ops [AOper.mk (some 15) (AOp.load true 2 (Operand.tmp 3)) none, AOper.mk (some 16) (AOp.mov (Operand.tmp 2)) none, AOper.mk (some
  17) (AOp.call 11 [Operand.tmp 15, Operand.tmp 16]) none, AOper.mk (some 18) (AOp.un UnOp.not (Operand.tmp 17)) none]) (AC.cond (Operand.tmp 18) (AC.seq
  (AC.ops [AOper.mk (some 19) (AOp.call 12 []) none, AOper.mk (some 6) (AOp.mov (Operand.tmp 19)) none]) AC.ret) AC.skip)) (AC.seq (AC.ops [AOper.mk
  (some 21) (AOp.load true 2 (Operand.tmp 3)) none, AOper.mk (some 22) (AOp.mov (Operand.tmp 1)) none, AOper.mk (some 23) (AOp.mov (Operand.tmp 2)) none,
  AOper.mk (some 24) (AOp.call 26 [Operand.tmp 21, Operand.tmp 22, Operand.tmp 23]) none, AOper.mk (some 20) (AOp.mov (Operand.tmp 24)) none, AOper.mk
  (some 25) (AOp.ext (Operand.tmp 20) 0) none, AOper.mk (some 26) (AOp.ext (Operand.tmp 20) 1) none, AOper.mk (some 7) (AOp.mov (Operand.tmp 25)) none,
  AOper.mk (some 8) (AOp.mov (Operand.tmp 26)) none]) (AC.seq (AC.ops [AOper.mk (some 28) (AOp.load true 2 (Operand.tmp 3)) none, AOper.mk (some 29)
  (AOp.mov (Operand.tmp 1)) none, AOper.mk (some 30) (AOp.mov (Operand.tmp 2)) none, AOper.mk (some 31) (AOp.call 27 [Operand.tmp 28, Operand.tmp 29,
  Operand.tmp 30]) none, AOper.mk (some 27) (AOp.mov (Operand.tmp 31)) none, AOper.mk (some 32) (AOp.ext (Operand.tmp 27) 0) none, AOper.mk (some 33)
  (AOp.ext (Operand.tmp 27) 1) none, AOper.mk (some 9) (AOp.mov (Operand.tmp 32)) none, AOper.mk (some 10) (AOp.mov (Operand.tmp 33)) none]) (AC.seq
  (AC.ops [AOper.mk (some 35) (AOp.load true 2 (Operand.tmp 3)) none, AOper.mk (some 36) (AOp.mov (Operand.tmp 1)) none, AOper.mk (some 37) (AOp.mov
  (Operand.tmp 2)) none, AOper.mk (some 38) (AOp.call 28 [Operand.tmp 35, Operand.tmp 36, Operand.tmp 37]) none, AOper.mk (some 34) (AOp.mov (Operand.tmp
  38)) none, AOper.mk (some 39) (AOp.ext (Operand.tmp 34) 0) none, AOper.mk (some 40) (AOp.ext (Operand.tmp 34) 1) none, AOper.mk (some 11) (AOp.mov
  (Operand.tmp 39)) none, AOper.mk (some 12) (AOp.mov (Operand.tmp 40)) none]) (AC.seq (AC.ops [AOper.mk (some 42) (AOp.load true 2 (Operand.tmp 3))
  none, AOper.mk (some 43) (AOp.mov (Operand.tmp 1)) none, AOper.mk (some 44) (AOp.mov (Operand.tmp 2)) none, AOper.mk (some 45) (AOp.call 29
  [Operand.tmp 42, Operand.tmp 43, Operand.tmp 44]) none, AOper.mk (some 41) (AOp.mov (Operand.tmp 45)) none, AOper.mk (some 46) (AOp.ext (Operand.tmp
  41) 0) none, AOper.mk (some 47) (AOp.ext (Operand.tmp 41) 1) none, AOper.mk (some 13) (AOp.mov (Operand.tmp 46)) none, AOper.mk (some 14) (AOp.mov
  (Operand.tmp 47)) none]) (AC.seq (AC.segs [([AOper.mk (some 48) (AOp.load true 2 (Operand.tmp 3)) none, AOper.mk (some 49) (AOp.mov (Operand.tmp 1))
  none, AOper.mk (some 50) (AOp.mov (Operand.tmp 2)) none, AOper.mk (some 52) (AOp.load true 2 (Operand.tmp 3)) none, AOper.mk (some 53) (AOp.mov
  (Operand.tmp 1)) none, AOper.mk (some 54) (AOp.mov (Operand.tmp 2)) none], some (true, AOper.mk (some 51) (AOp.call 30 [Operand.tmp 48, Operand.tmp 49,
  Operand.tmp 50]) none)), ([], some (true, AOper.mk (some 55) (AOp.call 31 [Operand.tmp 52, Operand.tmp 53, Operand.tmp 54]) none)), ([AOper.mk (some
  56) (AOp.bin false BinOp.eql (Operand.tmp 51) (Operand.tmp 55)) none, AOper.mk (some 57) (AOp.mov (Operand.tmp 56)) none, AOper.mk (some 58) (AOp.mov
  (Operand.tmp 7)) (some (57, true)), AOper.mk (some 59) (AOp.mov (Operand.tmp 9)) (some (57, true))], some (true, AOper.mk (some 60) (AOp.call 20
  [Operand.tmp 58, Operand.tmp 59]) (some (57, true)))), ([AOper.mk (some 61) (AOp.pick (Operand.tmp 57) (Operand.tmp 60) (Operand.const (Value.bool
  false))) none, AOper.mk (some 62) (AOp.mov (Operand.tmp 61)) none, AOper.mk (some 63) (AOp.mov (Operand.tmp 8)) (some (62, true)), AOper.mk (some 64)
  (AOp.mov (Operand.tmp 10)) (some (62, true)), AOper.mk (some 65) (AOp.bin false BinOp.eql (Operand.tmp 63) (Operand.tmp 64)) (some (62, true)),
  AOper.mk (some 66) (AOp.pick (Operand.tmp 62) (Operand.tmp 65) (Operand.const (Value.bool false))) none, AOper.mk (some 67) (AOp.mov (Operand.tmp 66))
  none, AOper.mk (some 68) (AOp.mov (Operand.tmp 11)) (some (67, true)), AOper.mk (some 69) (AOp.mov (Operand.tmp 13)) (some (67, true)), AOper.mk (some
  70) (AOp.bin true BinOp.eql (Operand.tmp 68) (Operand.tmp 69)) (some (67, true)), AOper.mk (some 71) (AOp.pick (Operand.tmp 67) (Operand.tmp 70)
  (Operand.const (Value.bool false))) none, AOper.mk (some 72) (AOp.mov (Operand.tmp 71)) none, AOper.mk (some 73) (AOp.mov (Operand.tmp 12)) (some (72,
  true)), AOper.mk (some 74) (AOp.mov (Operand.tmp 14)) (some (72, true)), AOper.mk (some 75) (AOp.bin false BinOp.eql (Operand.tmp 73) (Operand.tmp 74))
  (some (72, true)), AOper.mk (some 76) (AOp.pick (Operand.tmp 72) (Operand.tmp 75) (Operand.const (Value.bool false))) none, AOper.mk (some 77) (AOp.mov
  (Operand.tmp 76)) none], some (true, AOper.mk (some 78) (AOp.call 12 []) (some (77, true)))), ([AOper.mk (some 79) (AOp.pick (Operand.tmp 77)
  (Operand.tmp 78) (Operand.const (Value.bool false))) none, AOper.mk (some 6) (AOp.mov (Operand.tmp 79)) none], none)]) AC.ret))))))) [ARes.tmp 6]
theorem cfn6 : cfn Try.prog 6 3 = some c6 := by kernel_rfl
def c7 : AFn :=
  AFn.mk 146 (AC.seq (AC.ops [AOper.mk (some 3) (AOp.box 24 (Operand.tmp 0)) none, AOper.mk (some 5) (AOp.box 64 (Operand.tmp 2)) none, AOper.mk (some 6)
  (AOp.mov (Operand.const (Value.bool false))) none]) (AC.seq (AC.seq (AC.ops [AOper.mk (some 19) (AOp.load true 2 (Operand.tmp 3)) none, AOper.mk (some
  20) (AOp.mov (Operand.tmp 1)) none, AOper.mk (some 21) (AOp.iadrA 2 1 (Operand.tmp 5) (Operand.const (Value.int IntKind.i64 0))) none, AOper.mk (some
  22) (AOp.load false 1 (Operand.tmp 21)) none, AOper.mk (some 23) (AOp.call 32 [Operand.tmp 19, Operand.tmp 20, Operand.tmp 22]) none, AOper.mk (some
  24) (AOp.un UnOp.not (Operand.tmp 23)) none, AOper.mk (some 25) (AOp.mov (Operand.tmp 24)) none, AOper.mk (some 26) (AOp.load true 2 (Operand.tmp 3))
  (some (25, false)), AOper.mk (some 27) (AOp.mov (Operand.tmp 1)) (some (25, false)), AOper.mk (some 28) (AOp.iadrA 2 1 (Operand.tmp 5) (Operand.const
  (Value.int IntKind.i64 1))) (some (25, false)), AOper.mk (some 29) (AOp.load false 1 (Operand.tmp 28)) (some (25, false)), AOper.mk (some 30) (AOp.call
  32 [Operand.tmp 26, Operand.tmp 27, Operand.tmp 29]) (some (25, false)), AOper.mk (some 31) (AOp.un UnOp.not (Operand.tmp 30)) (some (25, false)),
  AOper.mk (some 32) (AOp.pick (Operand.tmp 25) (Operand.const (Value.bool true)) (Operand.tmp 31)) none]) (AC.cond (Operand.tmp 32) (AC.seq (AC.ops
  [AOper.mk (some 33) (AOp.call 12 []) none, AOper.mk (some 6) (AOp.mov (Operand.tmp 33)) none]) AC.ret) AC.skip)) (AC.seq (AC.ops [AOper.mk (some 35)
  (AOp.iadrA 2 1 (Operand.tmp 5) (Operand.const (Value.int IntKind.i64 0))) none, AOper.mk (some 36) (AOp.load false 1 (Operand.tmp 35)) none, AOper.mk
  (some 37) (AOp.iadrA 2 1 (Operand.tmp 5) (Operand.const (Value.int IntKind.i64 1))) none, AOper.mk (some 38) (AOp.load false 1 (Operand.tmp 37)) none,
  AOper.mk (some 39) (AOp.call 33 [Operand.tmp 36, Operand.tmp 38]) none, AOper.mk (some 34) (AOp.mov (Operand.tmp 39)) none, AOper.mk (some 40) (AOp.ext
  (Operand.tmp 34) 0) none, AOper.mk (some 41) (AOp.ext (Operand.tmp 34) 1) none, AOper.mk (some 7) (AOp.mov (Operand.tmp 40)) none, AOper.mk (some 8)
  (AOp.mov (Operand.tmp 41)) none]) (AC.seq (AC.ops [AOper.mk (some 43) (AOp.load true 2 (Operand.tmp 3)) none, AOper.mk (some 44) (AOp.mov (Operand.tmp
  1)) none, AOper.mk (some 45) (AOp.mov (Operand.tmp 7)) none, AOper.mk (some 46) (AOp.call 13 [Operand.tmp 43, Operand.tmp 44, Operand.tmp 45]) none,
  AOper.mk (some 42) (AOp.mov (Operand.tmp 46)) none, AOper.mk (some 47) (AOp.ext (Operand.tmp 42) 0) none, AOper.mk (some 48) (AOp.ext (Operand.tmp 42)
  1) none, AOper.mk (some 49) (AOp.ext (Operand.tmp 42) 2) none, AOper.mk (some 9) (AOp.mov (Operand.tmp 47)) none, AOper.mk (some 10) (AOp.mov
  (Operand.tmp 48)) none, AOper.mk (some 11) (AOp.mov (Operand.tmp 49)) none]) (AC.seq (AC.ops [AOper.mk (some 51) (AOp.load true 2 (Operand.tmp 3))
  none, AOper.mk (some 52) (AOp.mov (Operand.tmp 1)) none, AOper.mk (some 53) (AOp.iadrA 2 1 (Operand.tmp 5) (Operand.const (Value.int IntKind.i64 0)))
  none, AOper.mk (some 54) (AOp.load false 1 (Operand.tmp 53)) none, AOper.mk (some 55) (AOp.call 13 [Operand.tmp 51, Operand.tmp 52, Operand.tmp 54])
  none, AOper.mk (some 50) (AOp.mov (Operand.tmp 55)) none, AOper.mk (some 56) (AOp.ext (Operand.tmp 50) 0) none, AOper.mk (some 57) (AOp.ext
  (Operand.tmp 50) 1) none, AOper.mk (some 58) (AOp.ext (Operand.tmp 50) 2) none, AOper.mk (some 12) (AOp.mov (Operand.tmp 56)) none, AOper.mk (some 13)
  (AOp.mov (Operand.tmp 57)) none, AOper.mk (some 14) (AOp.mov (Operand.tmp 58)) none]) (AC.seq (AC.seq (AC.ops [AOper.mk (some 59) (AOp.mov (Operand.tmp
  8)) none, AOper.mk (some 60) (AOp.bin false BinOp.neq (Operand.tmp 59) (Operand.const (Value.int IntKind.i64 0))) none, AOper.mk (some 61) (AOp.mov
  (Operand.tmp 60)) none, AOper.mk (some 62) (AOp.mov (Operand.tmp 11)) (some (61, false)), AOper.mk (some 63) (AOp.bin false BinOp.neq (Operand.tmp 62)
  (Operand.const (Value.int IntKind.i64 0))) (some (61, false)), AOper.mk (some 64) (AOp.pick (Operand.tmp 61) (Operand.const (Value.bool true))
  (Operand.tmp 63)) none, AOper.mk (some 65) (AOp.mov (Operand.tmp 64)) none, AOper.mk (some 66) (AOp.mov (Operand.tmp 14)) (some (65, false)), AOper.mk
  (some 67) (AOp.bin false BinOp.neq (Operand.tmp 66) (Operand.const (Value.int IntKind.i64 0))) (some (65, false)), AOper.mk (some 68) (AOp.pick
  (Operand.tmp 65) (Operand.const (Value.bool true)) (Operand.tmp 67)) none]) (AC.cond (Operand.tmp 68) (AC.seq (AC.ops [AOper.mk (some 69) (AOp.mov
  (Operand.tmp 8)) none, AOper.mk (some 70) (AOp.bin false BinOp.eql (Operand.tmp 69) (Operand.const (Value.int IntKind.i64 0))) none, AOper.mk (some 71)
  (AOp.mov (Operand.tmp 70)) none, AOper.mk (some 72) (AOp.mov (Operand.tmp 11)) (some (71, true)), AOper.mk (some 73) (AOp.bin false BinOp.eql
  (Operand.tmp 72) (Operand.const (Value.int IntKind.i64 12))) (some (71, true)), AOper.mk (some 74) (AOp.mov (Operand.tmp 73)) (some (71, true)),
  AOper.mk (some 75) (AOp.mov (Operand.tmp 11)) (some (74, false)), AOper.mk (some 76) (AOp.bin false BinOp.eql (Operand.tmp 75) (Operand.const
  (Value.int IntKind.i64 0))) (some (74, false)), AOper.mk (some 77) (AOp.mov (Operand.tmp 76)) (some (74, false)), AOper.mk (some 78) (AOp.mov
  (Operand.tmp 14)) (some (77, true)), AOper.mk (some 79) (AOp.bin false BinOp.eql (Operand.tmp 78) (Operand.const (Value.int IntKind.i64 12))) (some
  (77, true)), AOper.mk (some 80) (AOp.pick (Operand.tmp 77) (Operand.tmp 79) (Operand.const (Value.bool false))) (some (74, false)), AOper.mk (some 81)
  (AOp.pick (Operand.tmp 74) (Operand.const (Value.bool true)) (Operand.tmp 80)) (some (71, true)), AOper.mk (some 82) (AOp.pick (Operand.tmp 71)
  (Operand.tmp 81) (Operand.const (Value.bool false))) none, AOper.mk (some 83) (AOp.mov (Operand.tmp 82)) none, AOper.mk (some 84) (AOp.call 12 [])
  (some (83, true)), AOper.mk (some 85) (AOp.pick (Operand.tmp 83) (Operand.tmp 84) (Operand.const (Value.bool false))) none, AOper.mk (some 6) (AOp.mov
  (Operand.tmp 85)) none]) AC.ret) AC.skip)) (AC.seq (AC.ops [AOper.mk (some 87) (AOp.mov (Operand.tmp 12)) none, AOper.mk (some 88) (AOp.iadrA 2 1
  (Operand.tmp 5) (Operand.const (Value.int IntKind.i64 1))) none, AOper.mk (some 89) (AOp.load false 1 (Operand.tmp 88)) none, AOper.mk (some 90)
  (AOp.call 33 [Operand.tmp 87, Operand.tmp 89]) none, AOper.mk (some 86) (AOp.mov (Operand.tmp 90)) none, AOper.mk (some 91) (AOp.ext (Operand.tmp 86)
  0) none, AOper.mk (some 92) (AOp.ext (Operand.tmp 86) 1) none, AOper.mk (some 15) (AOp.mov (Operand.tmp 91)) none, AOper.mk (some 8) (AOp.mov
  (Operand.tmp 92)) none]) (AC.seq (AC.ops [AOper.mk (some 94) (AOp.load true 2 (Operand.tmp 3)) none, AOper.mk (some 95) (AOp.mov (Operand.tmp 1)) none,
  AOper.mk (some 96) (AOp.mov (Operand.tmp 15)) none, AOper.mk (some 97) (AOp.call 13 [Operand.tmp 94, Operand.tmp 95, Operand.tmp 96]) none, AOper.mk
  (some 93) (AOp.mov (Operand.tmp 97)) none, AOper.mk (some 98) (AOp.ext (Operand.tmp 93) 0) none, AOper.mk (some 99) (AOp.ext (Operand.tmp 93) 1) none,
  AOper.mk (some 100) (AOp.ext (Operand.tmp 93) 2) none, AOper.mk (some 16) (AOp.mov (Operand.tmp 98)) none, AOper.mk (some 17) (AOp.mov (Operand.tmp
  99)) none, AOper.mk (some 11) (AOp.mov (Operand.tmp 100)) none]) (AC.seq (AC.seq (AC.ops [AOper.mk (some 101) (AOp.mov (Operand.tmp 8)) none, AOper.mk
  (some 102) (AOp.mov (Operand.tmp 11)) none, AOper.mk (some 103) (AOp.bin false BinOp.add (Operand.tmp 101) (Operand.tmp 102)) none, AOper.mk (some 104)
  (AOp.bin false BinOp.neq (Operand.tmp 103) (Operand.const (Value.int IntKind.i64 0))) none, AOper.mk (some 105) (AOp.mov (Operand.tmp 104)) none,
  AOper.mk (some 106) (AOp.mov (Operand.tmp 13)) (some (105, false)), AOper.mk (some 107) (AOp.len (Operand.tmp 106)) (some (105, false)), AOper.mk (some
  108) (AOp.mov (Operand.tmp 10)) (some (105, false)), AOper.mk (some 109) (AOp.len (Operand.tmp 108)) (some (105, false)), AOper.mk (some 110) (AOp.bin
  false BinOp.neq (Operand.tmp 107) (Operand.tmp 109)) (some (105, false)), AOper.mk (some 111) (AOp.pick (Operand.tmp 105) (Operand.const (Value.bool
  true)) (Operand.tmp 110)) none, AOper.mk (some 112) (AOp.mov (Operand.tmp 111)) none, AOper.mk (some 113) (AOp.mov (Operand.tmp 17)) (some (112,
  false)), AOper.mk (some 114) (AOp.len (Operand.tmp 113)) (some (112, false)), AOper.mk (some 115) (AOp.mov (Operand.tmp 10)) (some (112, false)),
  AOper.mk (some 116) (AOp.len (Operand.tmp 115)) (some (112, false)), AOper.mk (some 117) (AOp.bin false BinOp.neq (Operand.tmp 114) (Operand.tmp 116))
  (some (112, false)), AOper.mk (some 118) (AOp.pick (Operand.tmp 112) (Operand.const (Value.bool true)) (Operand.tmp 117)) none, AOper.mk (some 119)
  (AOp.mov (Operand.tmp 118)) none, AOper.mk (some 120) (AOp.mov (Operand.tmp 16)) (some (119, false)), AOper.mk (some 121) (AOp.mov (Operand.tmp 9))
  (some (119, false)), AOper.mk (some 122) (AOp.call 21 [Operand.tmp 120, Operand.tmp 121]) (some (119, false)), AOper.mk (some 123) (AOp.un UnOp.not
  (Operand.tmp 122)) (some (119, false)), AOper.mk (some 124) (AOp.pick (Operand.tmp 119) (Operand.const (Value.bool true)) (Operand.tmp 123)) none])
  (AC.cond (Operand.tmp 124) (AC.seq (AC.ops [AOper.mk (some 6) (AOp.mov (Operand.const (Value.bool false))) none]) AC.ret) AC.skip)) (AC.seq (AC.seq
  (AC.ops [AOper.mk (some 125) (AOp.mov (Operand.tmp 10)) none, AOper.mk (some 126) (AOp.len (Operand.tmp 125)) none, AOper.mk (some 127) (AOp.mov
  (Operand.const (Value.int IntKind.i64 0))) none]) (AC.block 0 (AC.loop (AC.seq (AC.ops [AOper.mk (some 128) (AOp.bin false BinOp.lss (Operand.tmp 127)
  (Operand.tmp 126)) none]) (AC.seq (AC.cond (Operand.tmp 128) AC.skip (AC.exit 0)) (AC.seq (AC.block 1 (AC.seq (AC.ops [AOper.mk (some 129) (AOp.mov
  (Operand.tmp 127)) none, AOper.mk (some 18) (AOp.mov (Operand.tmp 129)) none]) (AC.seq (AC.segs [([AOper.mk (some 130) (AOp.mov (Operand.tmp 10)) none,
  AOper.mk (some 131) (AOp.mov (Operand.tmp 18)) none, AOper.mk (some 132) (AOp.iadr 1 (Operand.tmp 130) (Operand.tmp 131)) none, AOper.mk (some 133)
  (AOp.load false 1 (Operand.tmp 132)) none, AOper.mk (some 134) (AOp.mov (Operand.tmp 13)) none, AOper.mk (some 135) (AOp.mov (Operand.tmp 18)) none,
  AOper.mk (some 136) (AOp.iadr 1 (Operand.tmp 134) (Operand.tmp 135)) none, AOper.mk (some 137) (AOp.load false 1 (Operand.tmp 136)) none, AOper.mk
  (some 138) (AOp.mov (Operand.tmp 17)) none, AOper.mk (some 139) (AOp.mov (Operand.tmp 18)) none, AOper.mk (some 140) (AOp.iadr 1 (Operand.tmp 138)
  (Operand.tmp 139)) none, AOper.mk (some 141) (AOp.load false 1 (Operand.tmp 140)) none, AOper.mk (some 142) (AOp.bin false BinOp.add (Operand.tmp 137)
  (Operand.tmp 141)) none, AOper.mk (some 143) (AOp.bin false BinOp.neq (Operand.tmp 133) (Operand.tmp 142)) none], none)]) (AC.cond (Operand.tmp 143)
  (AC.seq (AC.ops [AOper.mk (some 6) (AOp.mov (Operand.const (Value.bool false))) none]) AC.ret) AC.skip)))) (AC.ops [AOper.mk (some 144) (AOp.bin false
  BinOp.add (Operand.tmp 127) (Operand.const (Value.int IntKind.i64 1))) none, AOper.mk (some 127) (AOp.mov (Operand.tmp 144)) none]))))))) (AC.seq
  (AC.ops [AOper.mk (some 145) (AOp.call 12 []) none, AOper.mk (some 6) (AOp.mov (Operand.tmp 145)) none]) AC.ret))))))))))) [ARes.tmp 6]
theorem cfn7 : cfn Try.prog 7 3 = some c7 := by kernel_rfl
def c8 : AFn :=
  AFn.mk 116 (AC.seq (AC.ops [AOper.mk (some 3) (AOp.box 24 (Operand.tmp 0)) none, AOper.mk (some 5) (AOp.box 64 (Operand.tmp 2)) none, AOper.mk (some 6)
  (AOp.mov (Operand.const (Value.bool false))) none]) (AC.seq (AC.segs [([AOper.mk (some 16) (AOp.iadrA 2 1 (Operand.tmp 5) (Operand.const (Value.int
  IntKind.i64 0))) none, AOper.mk (some 17) (AOp.load false 1 (Operand.tmp 16)) none, AOper.mk (some 18) (AOp.iadrA 2 1 (Operand.tmp 5) (Operand.const
  (Value.int IntKind.i64 1))) none, AOper.mk (some 19) (AOp.load false 1 (Operand.tmp 18)) none, AOper.mk (some 7) (AOp.mov (Operand.tmp 17)) none,
  AOper.mk (some 8) (AOp.mov (Operand.tmp 19)) none], none)]) (AC.seq (AC.seq (AC.ops [AOper.mk (some 20) (AOp.load true 2 (Operand.tmp 3)) none,
  AOper.mk (some 21) (AOp.mov (Operand.tmp 1)) none, AOper.mk (some 22) (AOp.mov (Operand.tmp 7)) none, AOper.mk (some 23) (AOp.call 32 [Operand.tmp 20,
  Operand.tmp 21, Operand.tmp 22]) none, AOper.mk (some 24) (AOp.un UnOp.not (Operand.tmp 23)) none, AOper.mk (some 25) (AOp.mov (Operand.tmp 24)) none,
  AOper.mk (some 26) (AOp.mov (Operand.tmp 8)) (some (25, false)), AOper.mk (some 27) (AOp.fadr 0 (Operand.tmp 3)) (some (25, false)), AOper.mk (some 28)
  (AOp.load false 1 (Operand.tmp 27)) (some (25, false)), AOper.mk (some 29) (AOp.call 34 [Operand.tmp 26, Operand.tmp 28]) (some (25, false)), AOper.mk
  (some 30) (AOp.bin false BinOp.neq (Operand.tmp 29) (Operand.const (Value.int IntKind.i64 0))) (some (25, false)), AOper.mk (some 31) (AOp.pick
  (Operand.tmp 25) (Operand.const (Value.bool true)) (Operand.tmp 30)) none]) (AC.cond (Operand.tmp 31) (AC.seq (AC.ops [AOper.mk (some 32) (AOp.call 12
  []) none, AOper.mk (some 6) (AOp.mov (Operand.tmp 32)) none]) AC.ret) AC.skip)) (AC.seq (AC.ops [AOper.mk (some 34) (AOp.load true 2 (Operand.tmp 3))
  none, AOper.mk (some 35) (AOp.mov (Operand.tmp 1)) none, AOper.mk (some 36) (AOp.mov (Operand.tmp 7)) none, AOper.mk (some 37) (AOp.call 13
  [Operand.tmp 34, Operand.tmp 35, Operand.tmp 36]) none, AOper.mk (some 33) (AOp.mov (Operand.tmp 37)) none, AOper.mk (some 38) (AOp.ext (Operand.tmp
  33) 0) none, AOper.mk (some 39) (AOp.ext (Operand.tmp 33) 1) none, AOper.mk (some 40) (AOp.ext (Operand.tmp 33) 2) none, AOper.mk (some 9) (AOp.mov
  (Operand.tmp 38)) none, AOper.mk (some 10) (AOp.mov (Operand.tmp 39)) none, AOper.mk (some 11) (AOp.mov (Operand.tmp 40)) none]) (AC.seq (AC.seq
  (AC.ops [AOper.mk (some 41) (AOp.mov (Operand.tmp 11)) none, AOper.mk (some 42) (AOp.bin false BinOp.neq (Operand.tmp 41) (Operand.const (Value.int
  IntKind.i64 0))) none, AOper.mk (some 43) (AOp.mov (Operand.tmp 42)) none, AOper.mk (some 44) (AOp.mov (Operand.tmp 10)) (some (43, false)), AOper.mk
  (some 45) (AOp.len (Operand.tmp 44)) (some (43, false)), AOper.mk (some 46) (AOp.fadr 0 (Operand.tmp 3)) (some (43, false)), AOper.mk (some 47)
  (AOp.load false 1 (Operand.tmp 46)) (some (43, false)), AOper.mk (some 48) (AOp.bin false BinOp.neq (Operand.tmp 45) (Operand.tmp 47)) (some (43,
  false)), AOper.mk (some 49) (AOp.pick (Operand.tmp 43) (Operand.const (Value.bool true)) (Operand.tmp 48)) none]) (AC.cond (Operand.tmp 49) (AC.seq
  (AC.ops [AOper.mk (some 50) (AOp.mov (Operand.tmp 11)) none, AOper.mk (some 51) (AOp.bin false BinOp.eql (Operand.tmp 50) (Operand.const (Value.int
  IntKind.i64 12))) none, AOper.mk (some 52) (AOp.mov (Operand.tmp 51)) none, AOper.mk (some 53) (AOp.call 12 []) (some (52, true)), AOper.mk (some 54)
  (AOp.pick (Operand.tmp 52) (Operand.tmp 53) (Operand.const (Value.bool false))) none, AOper.mk (some 6) (AOp.mov (Operand.tmp 54)) none]) AC.ret)
  AC.skip)) (AC.seq (AC.ops [AOper.mk (some 55) (AOp.fadr 0 (Operand.tmp 3)) none, AOper.mk (some 56) (AOp.load false 1 (Operand.tmp 55)) none, AOper.mk
  (some 57) (AOp.mk 3 1 (PV.v (Value.int IntKind.i64 0)) (Operand.tmp 56) (Operand.tmp 56)) none, AOper.mk (some 12) (AOp.mov (Operand.tmp 57)) none])
  (AC.seq (AC.seq (AC.ops [AOper.mk (some 58) (AOp.mov (Operand.tmp 12)) none, AOper.mk (some 59) (AOp.len (Operand.tmp 58)) none, AOper.mk (some 60)
  (AOp.mov (Operand.const (Value.int IntKind.i64 0))) none]) (AC.block 0 (AC.loop (AC.seq (AC.ops [AOper.mk (some 61) (AOp.bin false BinOp.lss
  (Operand.tmp 60) (Operand.tmp 59)) none]) (AC.seq (AC.cond (Operand.tmp 61) AC.skip (AC.exit 0)) (AC.seq (AC.block 1 (AC.seq (AC.ops [AOper.mk (some
  62) (AOp.mov (Operand.tmp 60)) none, AOper.mk (some 13) (AOp.mov (Operand.tmp 62)) none]) (AC.segs [([AOper.mk (some 63) (AOp.mov (Operand.tmp 12))
  none, AOper.mk (some 64) (AOp.mov (Operand.tmp 13)) none, AOper.mk (some 65) (AOp.mov (Operand.tmp 10)) none, AOper.mk (some 66) (AOp.mov (Operand.tmp
  13)) none, AOper.mk (some 67) (AOp.iadr 1 (Operand.tmp 65) (Operand.tmp 66)) none, AOper.mk (some 68) (AOp.load false 1 (Operand.tmp 67)) none,
  AOper.mk (some 69) (AOp.mov (Operand.tmp 8)) none, AOper.mk (some 70) (AOp.mov (Operand.tmp 13)) none, AOper.mk (some 71) (AOp.iadr 1 (Operand.tmp 69)
  (Operand.tmp 70)) none, AOper.mk (some 72) (AOp.load false 1 (Operand.tmp 71)) none, AOper.mk (some 73) (AOp.mov (Operand.tmp 8)) none, AOper.mk (some
  74) (AOp.mov (Operand.tmp 13)) none, AOper.mk (some 75) (AOp.iadr 1 (Operand.tmp 73) (Operand.tmp 74)) none, AOper.mk (some 76) (AOp.load false 1
  (Operand.tmp 75)) none, AOper.mk (some 77) (AOp.un UnOp.neg (Operand.tmp 76)) none, AOper.mk (some 78) (AOp.mm true (Operand.tmp 72) (Operand.tmp 77))
  none, AOper.mk (some 79) (AOp.bin false BinOp.sub (Operand.tmp 68) (Operand.tmp 78)) none, AOper.mk (some 80) (AOp.mm true (Operand.const (Value.int
  IntKind.i64 0)) (Operand.tmp 79)) none, AOper.mk (some 81) (AOp.iadr 1 (Operand.tmp 63) (Operand.tmp 64)) none], some (false, AOper.mk none (AOp.store
  1 (Operand.tmp 81) (Operand.tmp 80)) none))]))) (AC.ops [AOper.mk (some 82) (AOp.bin false BinOp.add (Operand.tmp 60) (Operand.const (Value.int
  IntKind.i64 1))) none, AOper.mk (some 60) (AOp.mov (Operand.tmp 82)) none]))))))) (AC.seq (AC.seq (AC.ops [AOper.mk (some 83) (AOp.mov (Operand.tmp
  10)) none, AOper.mk (some 84) (AOp.mov (Operand.tmp 12)) none, AOper.mk (some 85) (AOp.call 35 [Operand.tmp 83, Operand.tmp 84]) none]) (AC.cond
  (Operand.tmp 85) (AC.seq (AC.ops [AOper.mk (some 86) (AOp.call 12 []) none, AOper.mk (some 6) (AOp.mov (Operand.tmp 86)) none]) AC.ret) AC.skip))
  (AC.seq (AC.ops [AOper.mk (some 88) (AOp.load true 2 (Operand.tmp 3)) none, AOper.mk (some 89) (AOp.mov (Operand.tmp 7)) none, AOper.mk (some 90)
  (AOp.mov (Operand.tmp 12)) none, AOper.mk (some 91) (AOp.call 36 [Operand.tmp 88, Operand.tmp 89, Operand.tmp 90]) none, AOper.mk (some 87) (AOp.mov
  (Operand.tmp 91)) none, AOper.mk (some 92) (AOp.ext (Operand.tmp 87) 0) none, AOper.mk (some 93) (AOp.ext (Operand.tmp 87) 1) none, AOper.mk (some 14)
  (AOp.mov (Operand.tmp 92)) none, AOper.mk (some 11) (AOp.mov (Operand.tmp 93)) none]) (AC.seq (AC.seq (AC.ops [AOper.mk (some 94) (AOp.mov (Operand.tmp
  11)) none, AOper.mk (some 95) (AOp.bin false BinOp.neq (Operand.tmp 94) (Operand.const (Value.int IntKind.i64 0))) none]) (AC.cond (Operand.tmp 95)
  (AC.seq (AC.ops [AOper.mk (some 6) (AOp.mov (Operand.const (Value.bool false))) none]) AC.ret) AC.skip)) (AC.seq (AC.seq (AC.ops [AOper.mk (some 96)
  (AOp.mov (Operand.tmp 14)) none, AOper.mk (some 97) (AOp.len (Operand.tmp 96)) none, AOper.mk (some 98) (AOp.mov (Operand.const (Value.int IntKind.i64
  0))) none]) (AC.block 2 (AC.loop (AC.seq (AC.ops [AOper.mk (some 99) (AOp.bin false BinOp.lss (Operand.tmp 98) (Operand.tmp 97)) none]) (AC.seq
  (AC.cond (Operand.tmp 99) AC.skip (AC.exit 2)) (AC.seq (AC.block 3 (AC.seq (AC.ops [AOper.mk (some 100) (AOp.mov (Operand.tmp 98)) none, AOper.mk (some
  15) (AOp.mov (Operand.tmp 100)) none]) (AC.seq (AC.segs [([AOper.mk (some 101) (AOp.mov (Operand.tmp 15)) none, AOper.mk (some 102) (AOp.mov
  (Operand.tmp 1)) none, AOper.mk (some 103) (AOp.bin false BinOp.neq (Operand.tmp 101) (Operand.tmp 102)) none, AOper.mk (some 104) (AOp.mov
  (Operand.tmp 103)) none, AOper.mk (some 105) (AOp.mov (Operand.tmp 14)) (some (104, true)), AOper.mk (some 106) (AOp.mov (Operand.tmp 15)) (some (104,
  true)), AOper.mk (some 107) (AOp.iadr 1 (Operand.tmp 105) (Operand.tmp 106)) (some (104, true)), AOper.mk (some 108) (AOp.load false 1 (Operand.tmp
  107)) (some (104, true)), AOper.mk (some 109) (AOp.load true 2 (Operand.tmp 3)) (some (104, true)), AOper.mk (some 110) (AOp.mov (Operand.tmp 15))
  (some (104, true))], some (true, AOper.mk (some 111) (AOp.call 37 [Operand.tmp 109, Operand.tmp 110]) (some (104, true)))), ([AOper.mk (some 112)
  (AOp.bin false BinOp.geq (Operand.tmp 108) (Operand.tmp 111)) (some (104, true)), AOper.mk (some 113) (AOp.pick (Operand.tmp 104) (Operand.tmp 112)
  (Operand.const (Value.bool false))) none], none)]) (AC.cond (Operand.tmp 113) (AC.seq (AC.ops [AOper.mk (some 114) (AOp.call 12 []) none, AOper.mk
  (some 6) (AOp.mov (Operand.tmp 114)) none]) AC.ret) AC.skip)))) (AC.ops [AOper.mk (some 115) (AOp.bin false BinOp.add (Operand.tmp 98) (Operand.const
  (Value.int IntKind.i64 1))) none, AOper.mk (some 98) (AOp.mov (Operand.tmp 115)) none]))))))) (AC.seq (AC.ops [AOper.mk (some 6) (AOp.mov
  (Operand.const (Value.bool false))) none]) AC.ret)))))))))))) [ARes.tmp 6]
theorem cfn8 : cfn Try.prog 8 3 = some c8 := by kernel_rfl
def c9 : AFn :=
  AFn.mk 90 (AC.seq (AC.ops [AOper.mk (some 3) (AOp.box 24 (Operand.tmp 0)) none, AOper.mk (some 6) (AOp.mov (Operand.const (Value.bool false))) none])
  (AC.seq (AC.seq (AC.ops [AOper.mk (some 15) (AOp.load true 2 (Operand.tmp 3)) none, AOper.mk (some 16) (AOp.mov (Operand.tmp 1)) none, AOper.mk (some
  17) (AOp.mov (Operand.tmp 2)) none, AOper.mk (some 18) (AOp.call 32 [Operand.tmp 15, Operand.tmp 16, Operand.tmp 17]) none, AOper.mk (some 19) (AOp.un
  UnOp.not (Operand.tmp 18)) none]) (AC.cond (Operand.tmp 19) (AC.seq (AC.ops [AOper.mk (some 20) (AOp.call 12 []) none, AOper.mk (some 6) (AOp.mov
  (Operand.tmp 20)) none]) AC.ret) AC.skip)) (AC.seq (AC.ops [AOper.mk (some 22) (AOp.load true 2 (Operand.tmp 3)) none, AOper.mk (some 23) (AOp.mov
  (Operand.tmp 1)) none, AOper.mk (some 24) (AOp.mov (Operand.tmp 2)) none, AOper.mk (some 25) (AOp.call 13 [Operand.tmp 22, Operand.tmp 23, Operand.tmp
  24]) none, AOper.mk (some 21) (AOp.mov (Operand.tmp 25)) none, AOper.mk (some 26) (AOp.ext (Operand.tmp 21) 0) none, AOper.mk (some 27) (AOp.ext
  (Operand.tmp 21) 1) none, AOper.mk (some 28) (AOp.ext (Operand.tmp 21) 2) none, AOper.mk (some 7) (AOp.mov (Operand.tmp 26)) none, AOper.mk (some 8)
  (AOp.mov (Operand.tmp 27)) none, AOper.mk (some 9) (AOp.mov (Operand.tmp 28)) none]) (AC.seq (AC.seq (AC.ops [AOper.mk (some 29) (AOp.mov (Operand.tmp
  9)) none, AOper.mk (some 30) (AOp.bin false BinOp.neq (Operand.tmp 29) (Operand.const (Value.int IntKind.i64 0))) none]) (AC.cond (Operand.tmp 30)
  (AC.seq (AC.ops [AOper.mk (some 31) (AOp.mov (Operand.tmp 9)) none, AOper.mk (some 32) (AOp.bin false BinOp.eql (Operand.tmp 31) (Operand.const
  (Value.int IntKind.i64 12))) none, AOper.mk (some 33) (AOp.mov (Operand.tmp 32)) none, AOper.mk (some 34) (AOp.call 12 []) (some (33, true)), AOper.mk
  (some 35) (AOp.pick (Operand.tmp 33) (Operand.tmp 34) (Operand.const (Value.bool false))) none, AOper.mk (some 6) (AOp.mov (Operand.tmp 35)) none])
  AC.ret) AC.skip)) (AC.seq (AC.ops [AOper.mk (some 37) (AOp.load true 2 (Operand.tmp 3)) none, AOper.mk (some 38) (AOp.mov (Operand.tmp 2)) none,
  AOper.mk (some 39) (AOp.mov (Operand.tmp 8)) none, AOper.mk (some 40) (AOp.call 36 [Operand.tmp 37, Operand.tmp 38, Operand.tmp 39]) none, AOper.mk
  (some 36) (AOp.mov (Operand.tmp 40)) none, AOper.mk (some 41) (AOp.ext (Operand.tmp 36) 0) none, AOper.mk (some 42) (AOp.ext (Operand.tmp 36) 1) none,
  AOper.mk (some 10) (AOp.mov (Operand.tmp 41)) none, AOper.mk (some 11) (AOp.mov (Operand.tmp 42)) none]) (AC.seq (AC.ops [AOper.mk (some 44) (AOp.load
  true 2 (Operand.tmp 3)) none, AOper.mk (some 45) (AOp.mov (Operand.tmp 1)) none, AOper.mk (some 46) (AOp.mov (Operand.tmp 7)) none, AOper.mk (some 47)
  (AOp.call 28 [Operand.tmp 44, Operand.tmp 45, Operand.tmp 46]) none, AOper.mk (some 43) (AOp.mov (Operand.tmp 47)) none, AOper.mk (some 48) (AOp.ext
  (Operand.tmp 43) 0) none, AOper.mk (some 49) (AOp.ext (Operand.tmp 43) 1) none, AOper.mk (some 12) (AOp.mov (Operand.tmp 48)) none, AOper.mk (some 13)
  (AOp.mov (Operand.tmp 49)) none]) (AC.seq (AC.seq (AC.ops [AOper.mk (some 50) (AOp.mov (Operand.tmp 11)) none, AOper.mk (some 51) (AOp.mov (Operand.tmp
  13)) none, AOper.mk (some 52) (AOp.bin false BinOp.add (Operand.tmp 50) (Operand.tmp 51)) none, AOper.mk (some 53) (AOp.bin false BinOp.neq
  (Operand.tmp 52) (Operand.const (Value.int IntKind.i64 0))) none, AOper.mk (some 54) (AOp.mov (Operand.tmp 53)) none, AOper.mk (some 55) (AOp.mov
  (Operand.tmp 12)) (some (54, false)), AOper.mk (some 56) (AOp.un UnOp.not (Operand.tmp 55)) (some (54, false)), AOper.mk (some 57) (AOp.pick
  (Operand.tmp 54) (Operand.const (Value.bool true)) (Operand.tmp 56)) none, AOper.mk (some 58) (AOp.mov (Operand.tmp 57)) none, AOper.mk (some 59)
  (AOp.mov (Operand.tmp 7)) (some (58, false)), AOper.mk (some 60) (AOp.mov (Operand.tmp 10)) (some (58, false)), AOper.mk (some 61) (AOp.call 21
  [Operand.tmp 59, Operand.tmp 60]) (some (58, false)), AOper.mk (some 62) (AOp.un UnOp.not (Operand.tmp 61)) (some (58, false)), AOper.mk (some 63)
  (AOp.pick (Operand.tmp 58) (Operand.const (Value.bool true)) (Operand.tmp 62)) none, AOper.mk (some 64) (AOp.mov (Operand.tmp 63)) none, AOper.mk (some
  65) (AOp.mov (Operand.tmp 8)) (some (64, false)), AOper.mk (some 66) (AOp.len (Operand.tmp 65)) (some (64, false)), AOper.mk (some 67) (AOp.fadr 0
  (Operand.tmp 3)) (some (64, false)), AOper.mk (some 68) (AOp.load false 1 (Operand.tmp 67)) (some (64, false)), AOper.mk (some 69) (AOp.bin false
  BinOp.neq (Operand.tmp 66) (Operand.tmp 68)) (some (64, false)), AOper.mk (some 70) (AOp.pick (Operand.tmp 64) (Operand.const (Value.bool true))
  (Operand.tmp 69)) none, AOper.mk (some 71) (AOp.mov (Operand.tmp 70)) none, AOper.mk (some 72) (AOp.mov (Operand.tmp 8)) (some (71, false)), AOper.mk
  (some 73) (AOp.mov (Operand.tmp 1)) (some (71, false)), AOper.mk (some 74) (AOp.iadr 1 (Operand.tmp 72) (Operand.tmp 73)) (some (71, false)), AOper.mk
  (some 75) (AOp.load false 1 (Operand.tmp 74)) (some (71, false)), AOper.mk (some 76) (AOp.bin false BinOp.neq (Operand.tmp 75) (Operand.const
  (Value.int IntKind.i64 0))) (some (71, false)), AOper.mk (some 77) (AOp.pick (Operand.tmp 71) (Operand.const (Value.bool true)) (Operand.tmp 76))
  none]) (AC.cond (Operand.tmp 77) (AC.seq (AC.ops [AOper.mk (some 6) (AOp.mov (Operand.const (Value.bool false))) none]) AC.ret) AC.skip)) (AC.seq
  (AC.seq (AC.ops [AOper.mk (some 78) (AOp.mov (Operand.tmp 8)) none, AOper.mk (some 79) (AOp.len (Operand.tmp 78)) none, AOper.mk (some 80) (AOp.mov
  (Operand.const (Value.int IntKind.i64 0))) none]) (AC.block 0 (AC.loop (AC.seq (AC.ops [AOper.mk (some 81) (AOp.bin false BinOp.lss (Operand.tmp 80)
  (Operand.tmp 79)) none]) (AC.seq (AC.cond (Operand.tmp 81) AC.skip (AC.exit 0)) (AC.seq (AC.block 1 (AC.seq (AC.ops [AOper.mk (some 82) (AOp.mov
  (Operand.tmp 80)) none, AOper.mk (some 14) (AOp.mov (Operand.tmp 82)) none]) (AC.seq (AC.ops [AOper.mk (some 83) (AOp.mov (Operand.tmp 8)) none,
  AOper.mk (some 84) (AOp.mov (Operand.tmp 14)) none, AOper.mk (some 85) (AOp.iadr 1 (Operand.tmp 83) (Operand.tmp 84)) none, AOper.mk (some 86)
  (AOp.load false 1 (Operand.tmp 85)) none, AOper.mk (some 87) (AOp.bin false BinOp.lss (Operand.tmp 86) (Operand.const (Value.int IntKind.i64 0)))
  none]) (AC.cond (Operand.tmp 87) (AC.seq (AC.ops [AOper.mk (some 6) (AOp.mov (Operand.const (Value.bool false))) none]) AC.ret) AC.skip)))) (AC.ops
  [AOper.mk (some 88) (AOp.bin false BinOp.add (Operand.tmp 80) (Operand.const (Value.int IntKind.i64 1))) none, AOper.mk (some 80) (AOp.mov (Operand.tmp
  88)) none]))))))) (AC.seq (AC.ops [AOper.mk (some 89) (AOp.call 12 []) none, AOper.mk (some 6) (AOp.mov (Operand.tmp 89)) none]) AC.ret)))))))))
  [ARes.tmp 6]
theorem cfn9 : cfn Try.prog 9 3 = some c9 := by kernel_rfl
def c10 : AFn :=
  AFn.mk 87 (AC.seq (AC.ops [AOper.mk (some 3) (AOp.box 24 (Operand.tmp 0)) none, AOper.mk (some 6) (AOp.mov (Operand.const (Value.bool false))) none])
  (AC.seq (AC.seq (AC.ops [AOper.mk (some 17) (AOp.load true 2 (Operand.tmp 3)) none, AOper.mk (some 18) (AOp.mov (Operand.tmp 1)) none, AOper.mk (some
  19) (AOp.mov (Operand.tmp 2)) none, AOper.mk (some 20) (AOp.call 32 [Operand.tmp 17, Operand.tmp 18, Operand.tmp 19]) none, AOper.mk (some 21) (AOp.un
  UnOp.not (Operand.tmp 20)) none]) (AC.cond (Operand.tmp 21) (AC.seq (AC.ops [AOper.mk (some 22) (AOp.call 12 []) none, AOper.mk (some 6) (AOp.mov
  (Operand.tmp 22)) none]) AC.ret) AC.skip)) (AC.seq (AC.ops [AOper.mk (some 24) (AOp.load true 2 (Operand.tmp 3)) none, AOper.mk (some 25) (AOp.mov
  (Operand.tmp 1)) none, AOper.mk (some 26) (AOp.mov (Operand.tmp 2)) none, AOper.mk (some 27) (AOp.call 16 [Operand.tmp 24, Operand.tmp 25, Operand.tmp
  26]) none, AOper.mk (some 23) (AOp.mov (Operand.tmp 27)) none, AOper.mk (some 28) (AOp.ext (Operand.tmp 23) 0) none, AOper.mk (some 29) (AOp.ext
  (Operand.tmp 23) 1) none, AOper.mk (some 7) (AOp.mov (Operand.tmp 28)) none, AOper.mk (some 8) (AOp.mov (Operand.tmp 29)) none]) (AC.seq (AC.seq
  (AC.ops [AOper.mk (some 30) (AOp.mov (Operand.tmp 8)) none, AOper.mk (some 31) (AOp.bin false BinOp.neq (Operand.tmp 30) (Operand.const (Value.int
  IntKind.i64 0))) none]) (AC.cond (Operand.tmp 31) (AC.seq (AC.ops [AOper.mk (some 32) (AOp.mov (Operand.tmp 8)) none, AOper.mk (some 33) (AOp.bin false
  BinOp.eql (Operand.tmp 32) (Operand.const (Value.int IntKind.i64 12))) none, AOper.mk (some 34) (AOp.mov (Operand.tmp 33)) none, AOper.mk (some 35)
  (AOp.call 12 []) (some (34, true)), AOper.mk (some 36) (AOp.pick (Operand.tmp 34) (Operand.tmp 35) (Operand.const (Value.bool false))) none, AOper.mk
  (some 6) (AOp.mov (Operand.tmp 36)) none]) AC.ret) AC.skip)) (AC.seq (AC.ops [AOper.mk (some 38) (AOp.load true 2 (Operand.tmp 3)) none, AOper.mk (some
  39) (AOp.mov (Operand.tmp 2)) none, AOper.mk (some 40) (AOp.mov (Operand.tmp 7)) none, AOper.mk (some 41) (AOp.call 38 [Operand.tmp 38, Operand.tmp 39,
  Operand.tmp 40]) none, AOper.mk (some 37) (AOp.mov (Operand.tmp 41)) none, AOper.mk (some 42) (AOp.ext (Operand.tmp 37) 0) none, AOper.mk (some 43)
  (AOp.ext (Operand.tmp 37) 1) none, AOper.mk (some 44) (AOp.ext (Operand.tmp 37) 2) none, AOper.mk (some 9) (AOp.mov (Operand.tmp 42)) none, AOper.mk
  (some 10) (AOp.mov (Operand.tmp 43)) none, AOper.mk (some 11) (AOp.mov (Operand.tmp 44)) none]) (AC.seq (AC.ops [AOper.mk (some 46) (AOp.load true 2
  (Operand.tmp 3)) none, AOper.mk (some 47) (AOp.mov (Operand.tmp 1)) none, AOper.mk (some 48) (AOp.mov (Operand.tmp 2)) none, AOper.mk (some 49)
  (AOp.call 13 [Operand.tmp 46, Operand.tmp 47, Operand.tmp 48]) none, AOper.mk (some 45) (AOp.mov (Operand.tmp 49)) none, AOper.mk (some 50) (AOp.ext
  (Operand.tmp 45) 0) none, AOper.mk (some 51) (AOp.ext (Operand.tmp 45) 1) none, AOper.mk (some 52) (AOp.ext (Operand.tmp 45) 2) none, AOper.mk (some
  12) (AOp.mov (Operand.tmp 50)) none, AOper.mk (some 13) (AOp.mov (Operand.tmp 51)) none, AOper.mk (some 14) (AOp.mov (Operand.tmp 52)) none]) (AC.seq
  (AC.ops [AOper.mk (some 54) (AOp.load true 2 (Operand.tmp 3)) none, AOper.mk (some 55) (AOp.mov (Operand.tmp 7)) none, AOper.mk (some 56) (AOp.call 39
  [Operand.tmp 54, Operand.tmp 55]) none, AOper.mk (some 53) (AOp.mov (Operand.tmp 56)) none, AOper.mk (some 57) (AOp.ext (Operand.tmp 53) 0) none,
  AOper.mk (some 58) (AOp.ext (Operand.tmp 53) 1) none, AOper.mk (some 15) (AOp.mov (Operand.tmp 57)) none, AOper.mk (some 16) (AOp.mov (Operand.tmp 58))
  none]) (AC.seq (AC.ops [AOper.mk (some 59) (AOp.mov (Operand.tmp 11)) none, AOper.mk (some 60) (AOp.mov (Operand.tmp 14)) none, AOper.mk (some 61)
  (AOp.bin false BinOp.add (Operand.tmp 59) (Operand.tmp 60)) none, AOper.mk (some 62) (AOp.mov (Operand.tmp 16)) none, AOper.mk (some 63) (AOp.bin false
  BinOp.add (Operand.tmp 61) (Operand.tmp 62)) none, AOper.mk (some 64) (AOp.bin false BinOp.eql (Operand.tmp 63) (Operand.const (Value.int IntKind.i64
  0))) none, AOper.mk (some 65) (AOp.mov (Operand.tmp 64)) none, AOper.mk (some 66) (AOp.mov (Operand.tmp 10)) (some (65, true)), AOper.mk (some 67)
  (AOp.mov (Operand.tmp 7)) (some (65, true)), AOper.mk (some 68) (AOp.len (Operand.tmp 67)) (some (65, true)), AOper.mk (some 69) (AOp.bin false
  BinOp.eql (Operand.tmp 66) (Operand.tmp 68)) (some (65, true)), AOper.mk (some 70) (AOp.pick (Operand.tmp 65) (Operand.tmp 69) (Operand.const
  (Value.bool false))) none, AOper.mk (some 71) (AOp.mov (Operand.tmp 70)) none, AOper.mk (some 72) (AOp.mov (Operand.tmp 9)) (some (71, true)), AOper.mk
  (some 73) (AOp.mov (Operand.tmp 12)) (some (71, true)), AOper.mk (some 74) (AOp.mov (Operand.tmp 13)) (some (71, true)), AOper.mk (some 75) (AOp.mov
  (Operand.tmp 15)) (some (71, true)), AOper.mk (some 76) (AOp.call 15 [Operand.tmp 72, Operand.tmp 73, Operand.tmp 74, Operand.tmp 75]) (some (71,
  true)), AOper.mk (some 77) (AOp.pick (Operand.tmp 71) (Operand.tmp 76) (Operand.const (Value.bool false))) none, AOper.mk (some 78) (AOp.mov
  (Operand.tmp 77)) none, AOper.mk (some 79) (AOp.mov (Operand.tmp 7)) (some (78, true)), AOper.mk (some 80) (AOp.mov (Operand.tmp 1)) (some (78, true)),
  AOper.mk (some 81) (AOp.call 40 [Operand.tmp 79, Operand.tmp 80]) (some (78, true)), AOper.mk (some 82) (AOp.un UnOp.not (Operand.tmp 81)) (some (78,
  true)), AOper.mk (some 83) (AOp.pick (Operand.tmp 78) (Operand.tmp 82) (Operand.const (Value.bool false))) none, AOper.mk (some 84) (AOp.mov
  (Operand.tmp 83)) none, AOper.mk (some 85) (AOp.call 12 []) (some (84, true)), AOper.mk (some 86) (AOp.pick (Operand.tmp 84) (Operand.tmp 85)
  (Operand.const (Value.bool false))) none, AOper.mk (some 6) (AOp.mov (Operand.tmp 86)) none]) AC.ret)))))))) [ARes.tmp 6]
theorem cfn10 : cfn Try.prog 10 3 = some c10 := by kernel_rfl
def c11 : AFn :=
  AFn.mk 11 (AC.seq (AC.ops [AOper.mk (some 2) (AOp.box 24 (Operand.tmp 0)) none, AOper.mk (some 4) (AOp.mov (Operand.const (Value.bool false))) none])
  (AC.seq (AC.ops [AOper.mk (some 5) (AOp.load true 2 (Operand.tmp 2)) none, AOper.mk (some 6) (AOp.call 41 [Operand.tmp 5]) none, AOper.mk (some 7)
  (AOp.mov (Operand.tmp 6)) none, AOper.mk (some 8) (AOp.mov (Operand.tmp 1)) (some (7, true)), AOper.mk (some 9) (AOp.call 42 [Operand.tmp 8]) (some (7,
  true)), AOper.mk (some 10) (AOp.pick (Operand.tmp 7) (Operand.tmp 9) (Operand.const (Value.bool false))) none, AOper.mk (some 4) (AOp.mov (Operand.tmp
  10)) none]) AC.ret)) [ARes.tmp 4]
theorem cfn11 : cfn Try.prog 11 2 = some c11 := by kernel_rfl
def c12 : AFn :=
  AFn.mk 96 (AC.seq (AC.ops [AOper.mk (some 0) (AOp.mov (Operand.const (Value.bool false))) none]) (AC.seq (AC.ops [AOper.mk (some 13) (AOp.call 43 [])
  none, AOper.mk (some 1) (AOp.zro 24 (PV.agg [PV.v (Value.int IntKind.i64 0), PV.v (Value.slice none 0 0)])) none, AOper.mk none (AOp.store 2
  (Operand.tmp 1) (Operand.tmp 13)) none]) (AC.seq (AC.ops [AOper.mk (some 15) (AOp.load true 2 (Operand.tmp 1)) none, AOper.mk (some 16) (AOp.bsl 3 1
  [Operand.const (Value.int IntKind.i64 0), Operand.const (Value.int IntKind.i64 2), Operand.const (Value.int IntKind.i64 1)]) none, AOper.mk (some 17)
  (AOp.call 13 [Operand.tmp 15, Operand.const (Value.int IntKind.i64 0), Operand.tmp 16]) none, AOper.mk (some 14) (AOp.mov (Operand.tmp 17)) none,
  AOper.mk (some 18) (AOp.ext (Operand.tmp 14) 0) none, AOper.mk (some 19) (AOp.ext (Operand.tmp 14) 1) none, AOper.mk (some 20) (AOp.ext (Operand.tmp
  14) 2) none, AOper.mk (some 2) (AOp.mov (Operand.tmp 18)) none, AOper.mk (some 3) (AOp.mov (Operand.tmp 19)) none, AOper.mk (some 4) (AOp.mov
  (Operand.tmp 20)) none]) (AC.seq (AC.ops [AOper.mk (some 22) (AOp.load true 2 (Operand.tmp 1)) none, AOper.mk (some 23) (AOp.call 18 [Operand.tmp 22,
  Operand.const (Value.int IntKind.i64 0)]) none, AOper.mk (some 21) (AOp.mov (Operand.tmp 23)) none, AOper.mk (some 24) (AOp.ext (Operand.tmp 21) 0)
  none, AOper.mk (some 25) (AOp.ext (Operand.tmp 21) 1) none, AOper.mk (some 5) (AOp.mov (Operand.tmp 24)) none, AOper.mk (some 6) (AOp.mov (Operand.tmp
  25)) none]) (AC.seq (AC.ops [AOper.mk (some 27) (AOp.load true 2 (Operand.tmp 1)) none, AOper.mk (some 28) (AOp.mov (Operand.tmp 5)) none, AOper.mk
  (some 29) (AOp.call 22 [Operand.tmp 27, Operand.const (Value.int IntKind.i64 0), Operand.tmp 28, Operand.const (Value.int IntKind.i64 1)]) none,
  AOper.mk (some 26) (AOp.mov (Operand.tmp 29)) none, AOper.mk (some 30) (AOp.ext (Operand.tmp 26) 0) none, AOper.mk (some 31) (AOp.ext (Operand.tmp 26)
  1) none, AOper.mk (some 32) (AOp.ext (Operand.tmp 26) 2) none, AOper.mk (some 33) (AOp.ext (Operand.tmp 26) 3) none, AOper.mk (some 7) (AOp.mov
  (Operand.tmp 30)) none, AOper.mk (some 8) (AOp.mov (Operand.tmp 31)) none, AOper.mk (some 9) (AOp.mov (Operand.tmp 32)) none, AOper.mk (some 10)
  (AOp.mov (Operand.tmp 33)) none]) (AC.seq (AC.seq (AC.ops [AOper.mk (some 34) (AOp.mov (Operand.tmp 4)) none, AOper.mk (some 35) (AOp.mov (Operand.tmp
  6)) none, AOper.mk (some 36) (AOp.bin false BinOp.add (Operand.tmp 34) (Operand.tmp 35)) none, AOper.mk (some 37) (AOp.mov (Operand.tmp 10)) none,
  AOper.mk (some 38) (AOp.bin false BinOp.add (Operand.tmp 36) (Operand.tmp 37)) none, AOper.mk (some 39) (AOp.bin false BinOp.neq (Operand.tmp 38)
  (Operand.const (Value.int IntKind.i64 0))) none, AOper.mk (some 40) (AOp.mov (Operand.tmp 39)) none, AOper.mk (some 41) (AOp.mov (Operand.tmp 2)) (some
  (40, false)), AOper.mk (some 42) (AOp.bsl 3 1 [Operand.const (Value.int IntKind.i64 2), Operand.const (Value.int IntKind.i64 1), Operand.const
  (Value.int IntKind.i64 0)]) (some (40, false)), AOper.mk (some 43) (AOp.mov (Operand.tmp 3)) (some (40, false)), AOper.mk (some 44) (AOp.bsl 3 1
  [Operand.const (Value.int IntKind.i64 0), Operand.const (Value.int IntKind.i64 1), Operand.const (Value.int IntKind.i64 1)]) (some (40, false)),
  AOper.mk (some 45) (AOp.call 15 [Operand.tmp 41, Operand.tmp 42, Operand.tmp 43, Operand.tmp 44]) (some (40, false)), AOper.mk (some 46) (AOp.un
  UnOp.not (Operand.tmp 45)) (some (40, false)), AOper.mk (some 47) (AOp.pick (Operand.tmp 40) (Operand.const (Value.bool true)) (Operand.tmp 46)) none,
  AOper.mk (some 48) (AOp.mov (Operand.tmp 47)) none, AOper.mk (some 49) (AOp.mov (Operand.tmp 5)) (some (48, false)), AOper.mk (some 50) (AOp.bsl 3 1
  [Operand.const (Value.int IntKind.i64 0), Operand.const (Value.int IntKind.i64 1), Operand.const (Value.int IntKind.i64 1)]) (some (48, false)),
  AOper.mk (some 51) (AOp.call 21 [Operand.tmp 49, Operand.tmp 50]) (some (48, false)), AOper.mk (some 52) (AOp.un UnOp.not (Operand.tmp 51)) (some (48,
  false)), AOper.mk (some 53) (AOp.pick (Operand.tmp 48) (Operand.const (Value.bool true)) (Operand.tmp 52)) none, AOper.mk (some 54) (AOp.mov
  (Operand.tmp 53)) none, AOper.mk (some 55) (AOp.mov (Operand.tmp 9)) (some (54, false)), AOper.mk (some 56) (AOp.bin false BinOp.neq (Operand.tmp 55)
  (Operand.const (Value.int IntKind.i64 2))) (some (54, false)), AOper.mk (some 57) (AOp.pick (Operand.tmp 54) (Operand.const (Value.bool true))
  (Operand.tmp 56)) none, AOper.mk (some 58) (AOp.mov (Operand.tmp 57)) none, AOper.mk (some 59) (AOp.mov (Operand.tmp 7)) (some (58, false)), AOper.mk
  (some 60) (AOp.mov (Operand.tmp 2)) (some (58, false)), AOper.mk (some 61) (AOp.mov (Operand.tmp 8)) (some (58, false)), AOper.mk (some 62) (AOp.mov
  (Operand.tmp 3)) (some (58, false)), AOper.mk (some 63) (AOp.call 15 [Operand.tmp 59, Operand.tmp 60, Operand.tmp 61, Operand.tmp 62]) (some (58,
  false)), AOper.mk (some 64) (AOp.un UnOp.not (Operand.tmp 63)) (some (58, false)), AOper.mk (some 65) (AOp.pick (Operand.tmp 58) (Operand.const
  (Value.bool true)) (Operand.tmp 64)) none]) (AC.cond (Operand.tmp 65) (AC.seq (AC.ops [AOper.mk (some 0) (AOp.mov (Operand.const (Value.bool false)))
  none]) AC.ret) AC.skip)) (AC.seq (AC.ops [AOper.mk (some 67) (AOp.load true 2 (Operand.tmp 1)) none, AOper.mk (some 68) (AOp.bsl 3 1 [Operand.const
  (Value.int IntKind.i64 0), Operand.const (Value.int IntKind.i64 2), Operand.const (Value.int IntKind.i64 1)]) none, AOper.mk (some 69) (AOp.call 16
  [Operand.tmp 67, Operand.const (Value.int IntKind.i64 0), Operand.tmp 68]) none, AOper.mk (some 66) (AOp.mov (Operand.tmp 69)) none, AOper.mk (some 70)
  (AOp.ext (Operand.tmp 66) 0) none, AOper.mk (some 71) (AOp.ext (Operand.tmp 66) 1) none, AOper.mk (some 11) (AOp.mov (Operand.tmp 70)) none, AOper.mk
  (some 4) (AOp.mov (Operand.tmp 71)) none]) (AC.seq (AC.ops [AOper.mk (some 73) (AOp.load true 2 (Operand.tmp 1)) none, AOper.mk (some 74) (AOp.bsl 3 1
  [Operand.const (Value.int IntKind.i64 0), Operand.const (Value.int IntKind.i64 1), Operand.const (Value.int IntKind.i64 0)]) none, AOper.mk (some 75)
  (AOp.call 24 [Operand.tmp 73, Operand.const (Value.int IntKind.i64 0), Operand.tmp 74]) none, AOper.mk (some 72) (AOp.mov (Operand.tmp 75)) none,
  AOper.mk (some 76) (AOp.ext (Operand.tmp 72) 0) none, AOper.mk (some 77) (AOp.ext (Operand.tmp 72) 1) none, AOper.mk (some 78) (AOp.ext (Operand.tmp
  72) 2) none, AOper.mk (some 12) (AOp.mov (Operand.tmp 76)) none, AOper.mk (some 9) (AOp.mov (Operand.tmp 77)) none, AOper.mk (some 6) (AOp.mov
  (Operand.tmp 78)) none]) (AC.seq (AC.ops [AOper.mk (some 79) (AOp.mov (Operand.tmp 4)) none, AOper.mk (some 80) (AOp.mov (Operand.tmp 6)) none,
  AOper.mk (some 81) (AOp.bin false BinOp.add (Operand.tmp 79) (Operand.tmp 80)) none, AOper.mk (some 82) (AOp.bin false BinOp.eql (Operand.tmp 81)
  (Operand.const (Value.int IntKind.i64 0))) none, AOper.mk (some 83) (AOp.mov (Operand.tmp 82)) none, AOper.mk (some 84) (AOp.mov (Operand.tmp 11))
  (some (83, true)), AOper.mk (some 85) (AOp.bsl 3 1 [Operand.const (Value.int IntKind.i64 1), Operand.const (Value.int IntKind.i64 2)]) (some (83,
  true)), AOper.mk (some 86) (AOp.call 20 [Operand.tmp 84, Operand.tmp 85]) (some (83, true)), AOper.mk (some 87) (AOp.pick (Operand.tmp 83) (Operand.tmp
  86) (Operand.const (Value.bool false))) none, AOper.mk (some 88) (AOp.mov (Operand.tmp 87)) none, AOper.mk (some 89) (AOp.mov (Operand.tmp 12)) (some
  (88, true)), AOper.mk (some 90) (AOp.bin false BinOp.eql (Operand.tmp 89) (Operand.const (Value.int IntKind.i64 1))) (some (88, true)), AOper.mk (some
  91) (AOp.pick (Operand.tmp 88) (Operand.tmp 90) (Operand.const (Value.bool false))) none, AOper.mk (some 92) (AOp.mov (Operand.tmp 91)) none, AOper.mk
  (some 93) (AOp.mov (Operand.tmp 9)) (some (92, true)), AOper.mk (some 94) (AOp.bin false BinOp.eql (Operand.tmp 93) (Operand.const (Value.int
  IntKind.i64 1))) (some (92, true)), AOper.mk (some 95) (AOp.pick (Operand.tmp 92) (Operand.tmp 94) (Operand.const (Value.bool false))) none, AOper.mk
  (some 0) (AOp.mov (Operand.tmp 95)) none]) AC.ret))))))))) [ARes.tmp 0]
theorem cfn12 : cfn Try.prog 12 0 = some c12 := by kernel_rfl
def c13 : AFn :=
  AFn.mk 35 (AC.seq (AC.ops [AOper.mk (some 3) (AOp.box 24 (Operand.tmp 0)) none, AOper.mk (some 6) (AOp.mov (Operand.const (Value.slice none 0 0)))
  none, AOper.mk (some 7) (AOp.mov (Operand.const (Value.slice none 0 0))) none, AOper.mk (some 8) (AOp.mov (Operand.const (Value.int IntKind.i64 0)))
  none]) (AC.seq (AC.ops [AOper.mk (some 13) (AOp.load true 2 (Operand.tmp 3)) none, AOper.mk (some 14) (AOp.mov (Operand.tmp 1)) none, AOper.mk (some
  15) (AOp.mov (Operand.tmp 2)) none, AOper.mk (some 16) (AOp.call 44 [Operand.tmp 13, Operand.tmp 14, Operand.tmp 15]) none, AOper.mk (some 12) (AOp.mov
  (Operand.tmp 16)) none, AOper.mk (some 17) (AOp.ext (Operand.tmp 12) 0) none, AOper.mk (some 18) (AOp.ext (Operand.tmp 12) 1) none, AOper.mk (some 9)
  (AOp.mov (Operand.tmp 17)) none, AOper.mk (some 10) (AOp.mov (Operand.tmp 18)) none]) (AC.seq (AC.seq (AC.ops [AOper.mk (some 19) (AOp.mov (Operand.tmp
  10)) none, AOper.mk (some 20) (AOp.bin false BinOp.neq (Operand.tmp 19) (Operand.const (Value.int IntKind.i64 0))) none]) (AC.cond (Operand.tmp 20)
  (AC.seq (AC.ops [AOper.mk (some 21) (AOp.mov (Operand.tmp 10)) none, AOper.mk (some 6) (AOp.mov (Operand.const (Value.slice none 0 0))) none, AOper.mk
  (some 7) (AOp.mov (Operand.const (Value.slice none 0 0))) none, AOper.mk (some 8) (AOp.mov (Operand.tmp 21)) none]) AC.ret) AC.skip)) (AC.seq (AC.seq
  (AC.ops [AOper.mk (some 22) (AOp.mov (Operand.tmp 9)) none, AOper.mk (some 23) (AOp.call 45 [Operand.tmp 22]) none, AOper.mk (some 11) (AOp.mov
  (Operand.tmp 23)) none]) (AC.seq (AC.ops [AOper.mk (some 24) (AOp.mov (Operand.tmp 11)) none, AOper.mk (some 25) (AOp.bin false BinOp.neq (Operand.tmp
  24) (Operand.const (Value.int IntKind.i64 0))) none]) (AC.cond (Operand.tmp 25) (AC.seq (AC.ops [AOper.mk (some 26) (AOp.mov (Operand.tmp 11)) none,
  AOper.mk (some 6) (AOp.mov (Operand.const (Value.slice none 0 0))) none, AOper.mk (some 7) (AOp.mov (Operand.const (Value.slice none 0 0))) none,
  AOper.mk (some 8) (AOp.mov (Operand.tmp 26)) none]) AC.ret) AC.skip))) (AC.seq (AC.segs [([AOper.mk (some 27) (AOp.mov (Operand.tmp 9)) none, AOper.mk
  (some 28) (AOp.nilc (Operand.tmp 27)) none, AOper.mk (some 29) (AOp.fadr 0 (Operand.tmp 28)) none, AOper.mk (some 30) (AOp.load false 1 (Operand.tmp
  29)) none, AOper.mk (some 31) (AOp.mov (Operand.tmp 9)) none, AOper.mk (some 32) (AOp.nilc (Operand.tmp 31)) none, AOper.mk (some 33) (AOp.fadr 4
  (Operand.tmp 32)) none, AOper.mk (some 34) (AOp.load false 1 (Operand.tmp 33)) none, AOper.mk (some 6) (AOp.mov (Operand.tmp 30)) none, AOper.mk (some
  7) (AOp.mov (Operand.tmp 34)) none, AOper.mk (some 8) (AOp.mov (Operand.const (Value.int IntKind.i64 0))) none], none)]) AC.ret))))) [ARes.tmp 6,
  ARes.tmp 7, ARes.tmp 8]
theorem cfn13 : cfn Try.prog 13 3 = some c13 := by kernel_rfl
def c14 : AFn :=
  AFn.mk 33 (AC.seq (AC.ops [AOper.mk (some 3) (AOp.box 24 (Operand.tmp 0)) none, AOper.mk (some 6) (AOp.mov (Operand.const (Value.slice none 0 0)))
  none, AOper.mk (some 7) (AOp.mov (Operand.const (Value.slice none 0 0))) none, AOper.mk (some 8) (AOp.mov (Operand.const (Value.int IntKind.i64 0)))
  none]) (AC.seq (AC.seq (AC.ops [AOper.mk (some 12) (AOp.load true 2 (Operand.tmp 3)) none, AOper.mk (some 13) (AOp.mov (Operand.tmp 1)) none, AOper.mk
  (some 14) (AOp.mov (Operand.tmp 2)) none, AOper.mk (some 15) (AOp.call 31 [Operand.tmp 12, Operand.tmp 13, Operand.tmp 14]) none, AOper.mk (some 9)
  (AOp.mov (Operand.tmp 15)) none]) (AC.seq (AC.ops [AOper.mk (some 16) (AOp.mov (Operand.tmp 9)) none, AOper.mk (some 17) (AOp.bin false BinOp.neq
  (Operand.tmp 16) (Operand.const (Value.int IntKind.i64 0))) none]) (AC.cond (Operand.tmp 17) (AC.seq (AC.ops [AOper.mk (some 18) (AOp.mov (Operand.tmp
  9)) none, AOper.mk (some 6) (AOp.mov (Operand.const (Value.slice none 0 0))) none, AOper.mk (some 7) (AOp.mov (Operand.const (Value.slice none 0 0)))
  none, AOper.mk (some 8) (AOp.mov (Operand.tmp 18)) none]) AC.ret) AC.skip))) (AC.seq (AC.ops [AOper.mk (some 19) (AOp.load true 2 (Operand.tmp 3))
  none, AOper.mk (some 20) (AOp.mov (Operand.tmp 1)) none, AOper.mk (some 21) (AOp.mov (Operand.tmp 2)) none, AOper.mk (some 22) (AOp.call 46
  [Operand.tmp 19, Operand.tmp 20, Operand.tmp 21]) none, AOper.mk (some 10) (AOp.zro 88 (PV.agg [PV.v (Value.slice none 0 0), PV.v (Value.slice none 0
  0), PV.v (Value.slice none 0 0), PV.v (Value.int IntKind.i64 0), PV.v (Value.bool false)])) none, AOper.mk none (AOp.store 5 (Operand.tmp 10)
  (Operand.tmp 22)) none]) (AC.seq (AC.seq (AC.ops [AOper.mk (some 23) (AOp.load true 5 (Operand.tmp 10)) none, AOper.mk (some 24) (AOp.mov (Operand.tmp
  1)) none, AOper.mk (some 25) (AOp.call 47 [Operand.tmp 23, Operand.tmp 24]) none, AOper.mk (some 11) (AOp.mov (Operand.tmp 25)) none]) (AC.seq (AC.ops
  [AOper.mk (some 26) (AOp.mov (Operand.tmp 11)) none, AOper.mk (some 27) (AOp.bin false BinOp.neq (Operand.tmp 26) (Operand.const (Value.int IntKind.i64
  0))) none]) (AC.cond (Operand.tmp 27) (AC.seq (AC.ops [AOper.mk (some 28) (AOp.mov (Operand.tmp 11)) none, AOper.mk (some 6) (AOp.mov (Operand.const
  (Value.slice none 0 0))) none, AOper.mk (some 7) (AOp.mov (Operand.const (Value.slice none 0 0))) none, AOper.mk (some 8) (AOp.mov (Operand.tmp 28))
  none]) AC.ret) AC.skip))) (AC.seq (AC.segs [([AOper.mk (some 29) (AOp.fadr 0 (Operand.tmp 10)) none, AOper.mk (some 30) (AOp.load false 1 (Operand.tmp
  29)) none, AOper.mk (some 31) (AOp.fadr 1 (Operand.tmp 10)) none, AOper.mk (some 32) (AOp.load false 1 (Operand.tmp 31)) none, AOper.mk (some 6)
  (AOp.mov (Operand.tmp 30)) none, AOper.mk (some 7) (AOp.mov (Operand.tmp 32)) none, AOper.mk (some 8) (AOp.mov (Operand.const (Value.int IntKind.i64
  0))) none], none)]) AC.ret))))) [ARes.tmp 6, ARes.tmp 7, ARes.tmp 8]
theorem cfn14 : cfn Try.prog 14 3 = some c14 := by kernel_rfl
def c15 : AFn :=
  AFn.mk 17 (AC.seq (AC.ops [AOper.mk (some 8) (AOp.mov (Operand.const (Value.bool false))) none]) (AC.seq (AC.ops [AOper.mk (some 9) (AOp.mov
  (Operand.tmp 0)) none, AOper.mk (some 10) (AOp.mov (Operand.tmp 1)) none, AOper.mk (some 11) (AOp.call 21 [Operand.tmp 9, Operand.tmp 10]) none,
  AOper.mk (some 12) (AOp.mov (Operand.tmp 11)) none, AOper.mk (some 13) (AOp.mov (Operand.tmp 2)) (some (12, true)), AOper.mk (some 14) (AOp.mov
  (Operand.tmp 3)) (some (12, true)), AOper.mk (some 15) (AOp.call 35 [Operand.tmp 13, Operand.tmp 14]) (some (12, true)), AOper.mk (some 16) (AOp.pick
  (Operand.tmp 12) (Operand.tmp 15) (Operand.const (Value.bool false))) none, AOper.mk (some 8) (AOp.mov (Operand.tmp 16)) none]) AC.ret)) [ARes.tmp 8]
theorem cfn15 : cfn Try.prog 15 4 = some c15 := by kernel_rfl
def c16 : AFn :=
  AFn.mk 39 (AC.seq (AC.ops [AOper.mk (some 3) (AOp.box 24 (Operand.tmp 0)) none, AOper.mk (some 6) (AOp.mov (Operand.const (Value.slice none 0 0)))
  none, AOper.mk (some 7) (AOp.mov (Operand.const (Value.int IntKind.i64 0))) none]) (AC.seq (AC.ops [AOper.mk (some 13) (AOp.load true 2 (Operand.tmp
  3)) none, AOper.mk (some 14) (AOp.mov (Operand.tmp 1)) none, AOper.mk (some 15) (AOp.mov (Operand.tmp 2)) none, AOper.mk (some 16) (AOp.call 44
  [Operand.tmp 13, Operand.tmp 14, Operand.tmp 15]) none, AOper.mk (some 12) (AOp.mov (Operand.tmp 16)) none, AOper.mk (some 17) (AOp.ext (Operand.tmp
  12) 0) none, AOper.mk (some 18) (AOp.ext (Operand.tmp 12) 1) none, AOper.mk (some 8) (AOp.mov (Operand.tmp 17)) none, AOper.mk (some 9) (AOp.mov
  (Operand.tmp 18)) none]) (AC.seq (AC.seq (AC.ops [AOper.mk (some 19) (AOp.mov (Operand.tmp 9)) none, AOper.mk (some 20) (AOp.bin false BinOp.neq
  (Operand.tmp 19) (Operand.const (Value.int IntKind.i64 0))) none]) (AC.cond (Operand.tmp 20) (AC.seq (AC.ops [AOper.mk (some 21) (AOp.mov (Operand.tmp
  9)) none, AOper.mk (some 6) (AOp.mov (Operand.const (Value.slice none 0 0))) none, AOper.mk (some 7) (AOp.mov (Operand.tmp 21)) none]) AC.ret)
  AC.skip)) (AC.seq (AC.ops [AOper.mk (some 10) (AOp.mov (Operand.const (Value.slice none 0 0))) none]) (AC.seq (AC.seq (AC.ops [AOper.mk (some 22)
  (AOp.mov (Operand.tmp 8)) none, AOper.mk (some 23) (AOp.call 48 [Operand.tmp 22]) none, AOper.mk (some 11) (AOp.mov (Operand.tmp 23)) none]) (AC.block
  0 (AC.loop (AC.seq (AC.seq (AC.ops [AOper.mk (some 24) (AOp.mov (Operand.tmp 11)) none, AOper.mk (some 25) (AOp.bin false BinOp.geq (Operand.tmp 24)
  (Operand.const (Value.int IntKind.i64 0))) none]) (AC.cond (Operand.tmp 25) AC.skip (AC.exit 0))) (AC.seq (AC.block 1 (AC.seq (AC.seq (AC.ops [AOper.mk
  (some 28) (AOp.mov (Operand.tmp 10)) none, AOper.mk (some 29) (AOp.len (Operand.tmp 28)) none, AOper.mk (some 30) (AOp.bin false BinOp.eql (Operand.tmp
  29) (Operand.const (Value.int IntKind.i64 4096))) none]) (AC.cond (Operand.tmp 30) (AC.seq (AC.ops [AOper.mk (some 6) (AOp.mov (Operand.const
  (Value.slice none 0 0))) none, AOper.mk (some 7) (AOp.mov (Operand.const (Value.int IntKind.i64 12))) none]) AC.ret) AC.skip)) (AC.seq (AC.ops
  [AOper.mk (some 31) (AOp.mov (Operand.tmp 10)) none, AOper.mk (some 32) (AOp.mov (Operand.tmp 11)) none, AOper.mk (some 33) (AOp.bsl 3 1 [Operand.tmp
  32]) none, AOper.mk (some 34) (AOp.app 3 1 (Operand.tmp 31) (Operand.tmp 33)) none, AOper.mk (some 10) (AOp.mov (Operand.tmp 34)) none]) (AC.ops
  [AOper.mk (some 35) (AOp.mov (Operand.tmp 8)) none, AOper.mk (some 36) (AOp.mov (Operand.tmp 11)) none, AOper.mk (some 37) (AOp.call 49 [Operand.tmp
  35, Operand.tmp 36, Operand.const (Value.int IntKind.i64 1)]) none])))) (AC.ops [AOper.mk (some 26) (AOp.mov (Operand.tmp 8)) none, AOper.mk (some 27)
  (AOp.call 48 [Operand.tmp 26]) none, AOper.mk (some 11) (AOp.mov (Operand.tmp 27)) none])))))) (AC.seq (AC.ops [AOper.mk (some 38) (AOp.mov
  (Operand.tmp 10)) none, AOper.mk (some 6) (AOp.mov (Operand.tmp 38)) none, AOper.mk (some 7) (AOp.mov (Operand.const (Value.int IntKind.i64 0))) none])
  AC.ret)))))) [ARes.tmp 6, ARes.tmp 7]
theorem cfn16 : cfn Try.prog 16 3 = some c16 := by kernel_rfl
def c17 : AFn :=
  AFn.mk 30 (AC.seq (AC.ops [AOper.mk (some 3) (AOp.box 24 (Operand.tmp 0)) none, AOper.mk (some 6) (AOp.mov (Operand.const (Value.slice none 0 0)))
  none, AOper.mk (some 7) (AOp.mov (Operand.const (Value.int IntKind.i64 0))) none]) (AC.seq (AC.seq (AC.ops [AOper.mk (some 10) (AOp.load true 2
  (Operand.tmp 3)) none, AOper.mk (some 11) (AOp.mov (Operand.tmp 1)) none, AOper.mk (some 12) (AOp.mov (Operand.tmp 2)) none, AOper.mk (some 13)
  (AOp.call 31 [Operand.tmp 10, Operand.tmp 11, Operand.tmp 12]) none, AOper.mk (some 8) (AOp.mov (Operand.tmp 13)) none]) (AC.seq (AC.ops [AOper.mk
  (some 14) (AOp.mov (Operand.tmp 8)) none, AOper.mk (some 15) (AOp.bin false BinOp.neq (Operand.tmp 14) (Operand.const (Value.int IntKind.i64 0)))
  none]) (AC.cond (Operand.tmp 15) (AC.seq (AC.ops [AOper.mk (some 16) (AOp.mov (Operand.tmp 8)) none, AOper.mk (some 6) (AOp.mov (Operand.const
  (Value.slice none 0 0))) none, AOper.mk (some 7) (AOp.mov (Operand.tmp 16)) none]) AC.ret) AC.skip))) (AC.seq (AC.ops [AOper.mk (some 17) (AOp.load
  true 2 (Operand.tmp 3)) none, AOper.mk (some 18) (AOp.mov (Operand.tmp 1)) none, AOper.mk (some 19) (AOp.mov (Operand.tmp 2)) none, AOper.mk (some 20)
  (AOp.call 46 [Operand.tmp 17, Operand.tmp 18, Operand.tmp 19]) none, AOper.mk (some 9) (AOp.zro 88 (PV.agg [PV.v (Value.slice none 0 0), PV.v
  (Value.slice none 0 0), PV.v (Value.slice none 0 0), PV.v (Value.int IntKind.i64 0), PV.v (Value.bool false)])) none, AOper.mk none (AOp.store 5
  (Operand.tmp 9) (Operand.tmp 20)) none]) (AC.seq (AC.seq (AC.ops [AOper.mk (some 21) (AOp.fadr 3 (Operand.tmp 9)) none, AOper.mk (some 22) (AOp.load
  false 1 (Operand.tmp 21)) none, AOper.mk (some 23) (AOp.bin false BinOp.gtr (Operand.tmp 22) (Operand.const (Value.int IntKind.i64 4096))) none,
  AOper.mk (some 24) (AOp.mov (Operand.tmp 23)) none, AOper.mk (some 25) (AOp.fadr 4 (Operand.tmp 9)) (some (24, false)), AOper.mk (some 26) (AOp.load
  false 1 (Operand.tmp 25)) (some (24, false)), AOper.mk (some 27) (AOp.pick (Operand.tmp 24) (Operand.const (Value.bool true)) (Operand.tmp 26)) none])
  (AC.cond (Operand.tmp 27) (AC.seq (AC.ops [AOper.mk (some 6) (AOp.mov (Operand.const (Value.slice none 0 0))) none, AOper.mk (some 7) (AOp.mov
  (Operand.const (Value.int IntKind.i64 12))) none]) AC.ret) AC.skip)) (AC.seq (AC.ops [AOper.mk (some 28) (AOp.fadr 2 (Operand.tmp 9)) none, AOper.mk
  (some 29) (AOp.load false 1 (Operand.tmp 28)) none, AOper.mk (some 6) (AOp.mov (Operand.tmp 29)) none, AOper.mk (some 7) (AOp.mov (Operand.const
  (Value.int IntKind.i64 0))) none]) AC.ret))))) [ARes.tmp 6, ARes.tmp 7]
theorem cfn17 : cfn Try.prog 17 3 = some c17 := by kernel_rfl
def c18 : AFn :=
  AFn.mk 53 (AC.seq (AC.ops [AOper.mk (some 2) (AOp.box 24 (Operand.tmp 0)) none, AOper.mk (some 4) (AOp.mov (Operand.const (Value.slice none 0 0)))
  none, AOper.mk (some 5) (AOp.mov (Operand.const (Value.int IntKind.i64 0))) none]) (AC.seq (AC.seq (AC.ops [AOper.mk (some 12) (AOp.load true 2
  (Operand.tmp 2)) none, AOper.mk (some 13) (AOp.mov (Operand.tmp 1)) none, AOper.mk (some 14) (AOp.call 50 [Operand.tmp 12, Operand.tmp 13]) none,
  AOper.mk (some 6) (AOp.mov (Operand.tmp 14)) none]) (AC.seq (AC.ops [AOper.mk (some 15) (AOp.mov (Operand.tmp 6)) none, AOper.mk (some 16) (AOp.bin
  false BinOp.neq (Operand.tmp 15) (Operand.const (Value.int IntKind.i64 0))) none]) (AC.cond (Operand.tmp 16) (AC.seq (AC.ops [AOper.mk (some 17)
  (AOp.mov (Operand.tmp 6)) none, AOper.mk (some 4) (AOp.mov (Operand.const (Value.slice none 0 0))) none, AOper.mk (some 5) (AOp.mov (Operand.tmp 17))
  none]) AC.ret) AC.skip))) (AC.seq (AC.segs [([AOper.mk (some 19) (AOp.load true 2 (Operand.tmp 2)) none, AOper.mk (some 20) (AOp.mov (Operand.tmp 1))
  none, AOper.mk (some 21) (AOp.fadr 0 (Operand.tmp 2)) none, AOper.mk (some 22) (AOp.load false 1 (Operand.tmp 21)) none], some (true, AOper.mk (some
  23) (AOp.mk 3 1 (PV.v (Value.int IntKind.i64 0)) (Operand.tmp 22) (Operand.tmp 22)) none)), ([], some (true, AOper.mk (some 24) (AOp.call 51
  [Operand.tmp 19, Operand.tmp 20, Operand.tmp 23]) none)), ([AOper.mk (some 18) (AOp.mov (Operand.tmp 24)) none, AOper.mk (some 25) (AOp.ext
  (Operand.tmp 18) 0) none, AOper.mk (some 26) (AOp.ext (Operand.tmp 18) 1) none, AOper.mk (some 7) (AOp.mov (Operand.tmp 25)) none, AOper.mk (some 8)
  (AOp.mov (Operand.tmp 26)) none], none)]) (AC.seq (AC.seq (AC.ops [AOper.mk (some 27) (AOp.mov (Operand.tmp 8)) none, AOper.mk (some 28) (AOp.bin false
  BinOp.neq (Operand.tmp 27) (Operand.const (Value.int IntKind.i64 0))) none]) (AC.cond (Operand.tmp 28) (AC.seq (AC.ops [AOper.mk (some 29) (AOp.mov
  (Operand.tmp 8)) none, AOper.mk (some 4) (AOp.mov (Operand.const (Value.slice none 0 0))) none, AOper.mk (some 5) (AOp.mov (Operand.tmp 29)) none])
  AC.ret) AC.skip)) (AC.seq (AC.ops [AOper.mk (some 30) (AOp.fadr 0 (Operand.tmp 2)) none, AOper.mk (some 31) (AOp.load false 1 (Operand.tmp 30)) none,
  AOper.mk (some 32) (AOp.mk 3 1 (PV.v (Value.int IntKind.i64 0)) (Operand.tmp 31) (Operand.tmp 31)) none, AOper.mk (some 9) (AOp.mov (Operand.tmp 32))
  none]) (AC.seq (AC.seq (AC.ops [AOper.mk (some 33) (AOp.mov (Operand.tmp 7)) none, AOper.mk (some 34) (AOp.nilc (Operand.tmp 33)) none, AOper.mk (some
  35) (AOp.fadr 3 (Operand.tmp 34)) none, AOper.mk (some 36) (AOp.load false 1 (Operand.tmp 35)) none, AOper.mk (some 37) (AOp.len (Operand.tmp 36))
  none, AOper.mk (some 38) (AOp.mov (Operand.const (Value.int IntKind.i64 0))) none]) (AC.block 0 (AC.loop (AC.seq (AC.ops [AOper.mk (some 39) (AOp.bin
  false BinOp.lss (Operand.tmp 38) (Operand.tmp 37)) none]) (AC.seq (AC.cond (Operand.tmp 39) AC.skip (AC.exit 0)) (AC.seq (AC.block 1 (AC.seq (AC.ops
  [AOper.mk (some 40) (AOp.mov (Operand.tmp 38)) none, AOper.mk (some 41) (AOp.iadr 1 (Operand.tmp 36) (Operand.tmp 38)) none, AOper.mk (some 42)
  (AOp.load false 1 (Operand.tmp 41)) none, AOper.mk (some 10) (AOp.mov (Operand.tmp 40)) none, AOper.mk (some 11) (AOp.mov (Operand.tmp 42)) none])
  (AC.seq (AC.ops [AOper.mk (some 43) (AOp.mov (Operand.tmp 10)) none, AOper.mk (some 44) (AOp.mov (Operand.tmp 1)) none, AOper.mk (some 45) (AOp.bin
  false BinOp.neq (Operand.tmp 43) (Operand.tmp 44)) none]) (AC.cond (Operand.tmp 45) (AC.ops [AOper.mk (some 46) (AOp.mov (Operand.tmp 9)) none,
  AOper.mk (some 47) (AOp.mov (Operand.tmp 10)) none, AOper.mk (some 48) (AOp.mov (Operand.tmp 11)) none, AOper.mk (some 49) (AOp.bin false BinOp.sub
  (Operand.tmp 48) (Operand.const (Value.int IntKind.i64 1))) none, AOper.mk (some 50) (AOp.iadr 1 (Operand.tmp 46) (Operand.tmp 47)) none, AOper.mk none
  (AOp.store 1 (Operand.tmp 50) (Operand.tmp 49)) none]) AC.skip)))) (AC.ops [AOper.mk (some 51) (AOp.bin false BinOp.add (Operand.tmp 38) (Operand.const
  (Value.int IntKind.i64 1))) none, AOper.mk (some 38) (AOp.mov (Operand.tmp 51)) none]))))))) (AC.seq (AC.ops [AOper.mk (some 52) (AOp.mov (Operand.tmp
  9)) none, AOper.mk (some 4) (AOp.mov (Operand.tmp 52)) none, AOper.mk (some 5) (AOp.mov (Operand.const (Value.int IntKind.i64 0))) none]) AC.ret)))))))
  [ARes.tmp 4, ARes.tmp 5]
theorem cfn18 : cfn Try.prog 18 2 = some c18 := by kernel_rfl
def c19 : AFn :=
  AFn.mk 16 (AC.seq (AC.ops [AOper.mk (some 2) (AOp.box 24 (Operand.tmp 0)) none, AOper.mk (some 4) (AOp.mov (Operand.const (Value.slice none 0 0)))
  none, AOper.mk (some 5) (AOp.mov (Operand.const (Value.int IntKind.i64 0))) none]) (AC.seq (AC.seq (AC.ops [AOper.mk (some 7) (AOp.load true 2
  (Operand.tmp 2)) none, AOper.mk (some 8) (AOp.mov (Operand.tmp 1)) none, AOper.mk (some 9) (AOp.call 52 [Operand.tmp 7, Operand.tmp 8]) none, AOper.mk
  (some 6) (AOp.mov (Operand.tmp 9)) none]) (AC.seq (AC.ops [AOper.mk (some 10) (AOp.mov (Operand.tmp 6)) none, AOper.mk (some 11) (AOp.bin false
  BinOp.neq (Operand.tmp 10) (Operand.const (Value.int IntKind.i64 0))) none]) (AC.cond (Operand.tmp 11) (AC.seq (AC.ops [AOper.mk (some 12) (AOp.mov
  (Operand.tmp 6)) none, AOper.mk (some 4) (AOp.mov (Operand.const (Value.slice none 0 0))) none, AOper.mk (some 5) (AOp.mov (Operand.tmp 12)) none])
  AC.ret) AC.skip))) (AC.seq (AC.ops [AOper.mk (some 13) (AOp.load true 2 (Operand.tmp 2)) none, AOper.mk (some 14) (AOp.mov (Operand.tmp 1)) none,
  AOper.mk (some 15) (AOp.call 53 [Operand.tmp 13, Operand.tmp 14]) none, AOper.mk (some 4) (AOp.mov (Operand.tmp 15)) none, AOper.mk (some 5) (AOp.mov
  (Operand.const (Value.int IntKind.i64 0))) none]) AC.ret))) [ARes.tmp 4, ARes.tmp 5]
theorem cfn19 : cfn Try.prog 19 2 = some c19 := by kernel_rfl
def c20 : AFn :=
  AFn.mk 26 (AC.seq (AC.ops [AOper.mk (some 4) (AOp.mov (Operand.const (Value.bool false))) none]) (AC.seq (AC.seq (AC.ops [AOper.mk (some 6) (AOp.mov
  (Operand.tmp 0)) none, AOper.mk (some 7) (AOp.len (Operand.tmp 6)) none, AOper.mk (some 8) (AOp.mov (Operand.tmp 1)) none, AOper.mk (some 9) (AOp.len
  (Operand.tmp 8)) none, AOper.mk (some 10) (AOp.bin false BinOp.neq (Operand.tmp 7) (Operand.tmp 9)) none]) (AC.cond (Operand.tmp 10) (AC.seq (AC.ops
  [AOper.mk (some 4) (AOp.mov (Operand.const (Value.bool false))) none]) AC.ret) AC.skip)) (AC.seq (AC.seq (AC.ops [AOper.mk (some 11) (AOp.mov
  (Operand.tmp 0)) none, AOper.mk (some 12) (AOp.len (Operand.tmp 11)) none, AOper.mk (some 13) (AOp.mov (Operand.const (Value.int IntKind.i64 0)))
  none]) (AC.block 0 (AC.loop (AC.seq (AC.ops [AOper.mk (some 14) (AOp.bin false BinOp.lss (Operand.tmp 13) (Operand.tmp 12)) none]) (AC.seq (AC.cond
  (Operand.tmp 14) AC.skip (AC.exit 0)) (AC.seq (AC.block 1 (AC.seq (AC.ops [AOper.mk (some 15) (AOp.mov (Operand.tmp 13)) none, AOper.mk (some 5)
  (AOp.mov (Operand.tmp 15)) none]) (AC.seq (AC.segs [([AOper.mk (some 16) (AOp.mov (Operand.tmp 0)) none, AOper.mk (some 17) (AOp.mov (Operand.tmp 5))
  none, AOper.mk (some 18) (AOp.iadr 1 (Operand.tmp 16) (Operand.tmp 17)) none, AOper.mk (some 19) (AOp.load false 1 (Operand.tmp 18)) none, AOper.mk
  (some 20) (AOp.mov (Operand.tmp 1)) none, AOper.mk (some 21) (AOp.mov (Operand.tmp 5)) none, AOper.mk (some 22) (AOp.iadr 1 (Operand.tmp 20)
  (Operand.tmp 21)) none, AOper.mk (some 23) (AOp.load false 1 (Operand.tmp 22)) none, AOper.mk (some 24) (AOp.bin false BinOp.neq (Operand.tmp 19)
  (Operand.tmp 23)) none], none)]) (AC.cond (Operand.tmp 24) (AC.seq (AC.ops [AOper.mk (some 4) (AOp.mov (Operand.const (Value.bool false))) none])
  AC.ret) AC.skip)))) (AC.ops [AOper.mk (some 25) (AOp.bin false BinOp.add (Operand.tmp 13) (Operand.const (Value.int IntKind.i64 1))) none, AOper.mk
  (some 13) (AOp.mov (Operand.tmp 25)) none]))))))) (AC.seq (AC.ops [AOper.mk (some 4) (AOp.mov (Operand.const (Value.bool true))) none]) AC.ret))))
  [ARes.tmp 4]
theorem cfn20 : cfn Try.prog 20 2 = some c20 := by kernel_rfl
def c21 : AFn :=
  AFn.mk 14 (AC.seq (AC.ops [AOper.mk (some 4) (AOp.mov (Operand.const (Value.bool false))) none]) (AC.seq (AC.seq (AC.ops [AOper.mk (some 5) (AOp.mov
  (Operand.tmp 0)) none, AOper.mk (some 6) (AOp.len (Operand.tmp 5)) none, AOper.mk (some 7) (AOp.mov (Operand.tmp 1)) none, AOper.mk (some 8) (AOp.len
  (Operand.tmp 7)) none, AOper.mk (some 9) (AOp.bin false BinOp.neq (Operand.tmp 6) (Operand.tmp 8)) none]) (AC.cond (Operand.tmp 9) (AC.seq (AC.ops
  [AOper.mk (some 4) (AOp.mov (Operand.const (Value.bool false))) none]) AC.ret) AC.skip)) (AC.seq (AC.ops [AOper.mk (some 10) (AOp.mov (Operand.tmp 0))
  none, AOper.mk (some 11) (AOp.mov (Operand.tmp 1)) none, AOper.mk (some 12) (AOp.call 54 [Operand.tmp 10, Operand.tmp 11]) none, AOper.mk (some 13)
  (AOp.bin false BinOp.eql (Operand.tmp 12) (Operand.const (Value.int IntKind.i64 0))) none, AOper.mk (some 4) (AOp.mov (Operand.tmp 13)) none])
  AC.ret))) [ARes.tmp 4]
theorem cfn21 : cfn Try.prog 21 2 = some c21 := by kernel_rfl
def c22 : AFn :=
  AFn.mk 71 (AC.seq (AC.ops [AOper.mk (some 4) (AOp.box 24 (Operand.tmp 0)) none, AOper.mk (some 8) (AOp.mov (Operand.const (Value.slice none 0 0)))
  none, AOper.mk (some 9) (AOp.mov (Operand.const (Value.slice none 0 0))) none, AOper.mk (some 10) (AOp.mov (Operand.const (Value.int IntKind.i64 0)))
  none, AOper.mk (some 11) (AOp.mov (Operand.const (Value.int IntKind.i64 0))) none]) (AC.seq (AC.seq (AC.ops [AOper.mk (some 18) (AOp.load true 2
  (Operand.tmp 4)) none, AOper.mk (some 19) (AOp.mov (Operand.tmp 1)) none, AOper.mk (some 20) (AOp.mov (Operand.tmp 2)) none, AOper.mk (some 21)
  (AOp.call 30 [Operand.tmp 18, Operand.tmp 19, Operand.tmp 20]) none, AOper.mk (some 12) (AOp.mov (Operand.tmp 21)) none]) (AC.seq (AC.ops [AOper.mk
  (some 22) (AOp.mov (Operand.tmp 12)) none, AOper.mk (some 23) (AOp.bin false BinOp.neq (Operand.tmp 22) (Operand.const (Value.int IntKind.i64 0)))
  none]) (AC.cond (Operand.tmp 23) (AC.seq (AC.ops [AOper.mk (some 24) (AOp.mov (Operand.tmp 12)) none, AOper.mk (some 8) (AOp.mov (Operand.const
  (Value.slice none 0 0))) none, AOper.mk (some 9) (AOp.mov (Operand.const (Value.slice none 0 0))) none, AOper.mk (some 10) (AOp.mov (Operand.const
  (Value.int IntKind.i64 0))) none, AOper.mk (some 11) (AOp.mov (Operand.tmp 24)) none]) AC.ret) AC.skip))) (AC.seq (AC.seq (AC.ops [AOper.mk (some 25)
  (AOp.mov (Operand.tmp 3)) none, AOper.mk (some 26) (AOp.bin false BinOp.lss (Operand.tmp 25) (Operand.const (Value.int IntKind.i64 0))) none, AOper.mk
  (some 27) (AOp.mov (Operand.tmp 26)) none, AOper.mk (some 28) (AOp.mov (Operand.tmp 3)) (some (27, false)), AOper.mk (some 29) (AOp.fadr 0 (Operand.tmp
  4)) (some (27, false)), AOper.mk (some 30) (AOp.load false 1 (Operand.tmp 29)) (some (27, false)), AOper.mk (some 31) (AOp.bin false BinOp.geq
  (Operand.tmp 28) (Operand.tmp 30)) (some (27, false)), AOper.mk (some 32) (AOp.pick (Operand.tmp 27) (Operand.const (Value.bool true)) (Operand.tmp
  31)) none]) (AC.cond (Operand.tmp 32) (AC.seq (AC.ops [AOper.mk (some 8) (AOp.mov (Operand.const (Value.slice none 0 0))) none, AOper.mk (some 9)
  (AOp.mov (Operand.const (Value.slice none 0 0))) none, AOper.mk (some 10) (AOp.mov (Operand.const (Value.int IntKind.i64 0))) none, AOper.mk (some 11)
  (AOp.mov (Operand.const (Value.int IntKind.i64 2))) none]) AC.ret) AC.skip)) (AC.seq (AC.seq (AC.ops [AOper.mk (some 34) (AOp.load true 2 (Operand.tmp
  4)) none, AOper.mk (some 35) (AOp.mov (Operand.tmp 1)) none, AOper.mk (some 36) (AOp.mov (Operand.tmp 2)) none, AOper.mk (some 37) (AOp.call 55
  [Operand.tmp 34, Operand.tmp 35, Operand.tmp 36]) none, AOper.mk (some 33) (AOp.mov (Operand.tmp 37)) none, AOper.mk (some 38) (AOp.ext (Operand.tmp
  33) 0) none, AOper.mk (some 39) (AOp.ext (Operand.tmp 33) 1) none, AOper.mk (some 13) (AOp.mov (Operand.tmp 38)) none, AOper.mk (some 14) (AOp.mov
  (Operand.tmp 39)) none]) (AC.seq (AC.ops [AOper.mk (some 40) (AOp.mov (Operand.tmp 14)) none, AOper.mk (some 41) (AOp.bin false BinOp.neq (Operand.tmp
  40) (Operand.const (Value.int IntKind.i64 0))) none]) (AC.cond (Operand.tmp 41) (AC.seq (AC.ops [AOper.mk (some 42) (AOp.mov (Operand.tmp 14)) none,
  AOper.mk (some 8) (AOp.mov (Operand.const (Value.slice none 0 0))) none, AOper.mk (some 9) (AOp.mov (Operand.const (Value.slice none 0 0))) none,
  AOper.mk (some 10) (AOp.mov (Operand.const (Value.int IntKind.i64 0))) none, AOper.mk (some 11) (AOp.mov (Operand.tmp 42)) none]) AC.ret) AC.skip)))
  (AC.seq (AC.ops [AOper.mk (some 44) (AOp.load true 2 (Operand.tmp 4)) none, AOper.mk (some 45) (AOp.mov (Operand.tmp 1)) none, AOper.mk (some 46)
  (AOp.mov (Operand.tmp 2)) none, AOper.mk (some 47) (AOp.mov (Operand.tmp 3)) none, AOper.mk (some 48) (AOp.call 56 [Operand.tmp 44, Operand.tmp 45,
  Operand.tmp 46, Operand.tmp 47]) none, AOper.mk (some 43) (AOp.mov (Operand.tmp 48)) none, AOper.mk (some 49) (AOp.ext (Operand.tmp 43) 0) none,
  AOper.mk (some 50) (AOp.ext (Operand.tmp 43) 1) none, AOper.mk (some 15) (AOp.mov (Operand.tmp 49)) none, AOper.mk (some 16) (AOp.mov (Operand.tmp 50))
  none]) (AC.seq (AC.seq (AC.ops [AOper.mk (some 51) (AOp.mov (Operand.tmp 16)) none, AOper.mk (some 52) (AOp.bin false BinOp.neq (Operand.tmp 51)
  (Operand.const (Value.int IntKind.i64 0))) none]) (AC.cond (Operand.tmp 52) (AC.seq (AC.ops [AOper.mk (some 53) (AOp.mov (Operand.tmp 16)) none,
  AOper.mk (some 8) (AOp.mov (Operand.const (Value.slice none 0 0))) none, AOper.mk (some 9) (AOp.mov (Operand.const (Value.slice none 0 0))) none,
  AOper.mk (some 10) (AOp.mov (Operand.const (Value.int IntKind.i64 0))) none, AOper.mk (some 11) (AOp.mov (Operand.tmp 53)) none]) AC.ret) AC.skip))
  (AC.seq (AC.seq (AC.ops [AOper.mk (some 54) (AOp.mov (Operand.tmp 15)) none, AOper.mk (some 55) (AOp.call 45 [Operand.tmp 54]) none, AOper.mk (some 17)
  (AOp.mov (Operand.tmp 55)) none]) (AC.seq (AC.ops [AOper.mk (some 56) (AOp.mov (Operand.tmp 17)) none, AOper.mk (some 57) (AOp.bin false BinOp.neq
  (Operand.tmp 56) (Operand.const (Value.int IntKind.i64 0))) none]) (AC.cond (Operand.tmp 57) (AC.seq (AC.ops [AOper.mk (some 58) (AOp.mov (Operand.tmp
  17)) none, AOper.mk (some 8) (AOp.mov (Operand.const (Value.slice none 0 0))) none, AOper.mk (some 9) (AOp.mov (Operand.const (Value.slice none 0 0)))
  none, AOper.mk (some 10) (AOp.mov (Operand.const (Value.int IntKind.i64 0))) none, AOper.mk (some 11) (AOp.mov (Operand.tmp 58)) none]) AC.ret)
  AC.skip))) (AC.seq (AC.segs [([AOper.mk (some 59) (AOp.mov (Operand.tmp 15)) none, AOper.mk (some 60) (AOp.nilc (Operand.tmp 59)) none, AOper.mk (some
  61) (AOp.fadr 0 (Operand.tmp 60)) none, AOper.mk (some 62) (AOp.load false 1 (Operand.tmp 61)) none, AOper.mk (some 63) (AOp.mov (Operand.tmp 15))
  none, AOper.mk (some 64) (AOp.nilc (Operand.tmp 63)) none, AOper.mk (some 65) (AOp.fadr 4 (Operand.tmp 64)) none, AOper.mk (some 66) (AOp.load false 1
  (Operand.tmp 65)) none, AOper.mk (some 67) (AOp.mov (Operand.tmp 15)) none, AOper.mk (some 68) (AOp.nilc (Operand.tmp 67)) none, AOper.mk (some 69)
  (AOp.fadr 5 (Operand.tmp 68)) none, AOper.mk (some 70) (AOp.load false 1 (Operand.tmp 69)) none, AOper.mk (some 8) (AOp.mov (Operand.tmp 62)) none,
  AOper.mk (some 9) (AOp.mov (Operand.tmp 66)) none, AOper.mk (some 10) (AOp.mov (Operand.tmp 70)) none, AOper.mk (some 11) (AOp.mov (Operand.const
  (Value.int IntKind.i64 0))) none], none)]) AC.ret)))))))) [ARes.tmp 8, ARes.tmp 9, ARes.tmp 10, ARes.tmp 11]
theorem cfn22 : cfn Try.prog 22 4 = some c22 := by kernel_rfl
def c23 : AFn :=
  AFn.mk 49 (AC.seq (AC.ops [AOper.mk (some 4) (AOp.box 24 (Operand.tmp 0)) none, AOper.mk (some 8) (AOp.mov (Operand.const (Value.slice none 0 0)))
  none, AOper.mk (some 9) (AOp.mov (Operand.const (Value.slice none 0 0))) none, AOper.mk (some 10) (AOp.mov (Operand.const (Value.int IntKind.i64 0)))
  none, AOper.mk (some 11) (AOp.mov (Operand.const (Value.int IntKind.i64 0))) none]) (AC.seq (AC.seq (AC.ops [AOper.mk (some 15) (AOp.load true 2
  (Operand.tmp 4)) none, AOper.mk (some 16) (AOp.mov (Operand.tmp 1)) none, AOper.mk (some 17) (AOp.mov (Operand.tmp 2)) none, AOper.mk (some 18)
  (AOp.call 31 [Operand.tmp 15, Operand.tmp 16, Operand.tmp 17]) none, AOper.mk (some 12) (AOp.mov (Operand.tmp 18)) none]) (AC.seq (AC.ops [AOper.mk
  (some 19) (AOp.mov (Operand.tmp 12)) none, AOper.mk (some 20) (AOp.bin false BinOp.neq (Operand.tmp 19) (Operand.const (Value.int IntKind.i64 0)))
  none]) (AC.cond (Operand.tmp 20) (AC.seq (AC.ops [AOper.mk (some 21) (AOp.mov (Operand.tmp 12)) none, AOper.mk (some 8) (AOp.mov (Operand.const
  (Value.slice none 0 0))) none, AOper.mk (some 9) (AOp.mov (Operand.const (Value.slice none 0 0))) none, AOper.mk (some 10) (AOp.mov (Operand.const
  (Value.int IntKind.i64 0))) none, AOper.mk (some 11) (AOp.mov (Operand.tmp 21)) none]) AC.ret) AC.skip))) (AC.seq (AC.seq (AC.ops [AOper.mk (some 22)
  (AOp.load true 2 (Operand.tmp 4)) none, AOper.mk (some 23) (AOp.mov (Operand.tmp 3)) none, AOper.mk (some 24) (AOp.call 57 [Operand.tmp 22, Operand.tmp
  23]) none, AOper.mk (some 25) (AOp.un UnOp.not (Operand.tmp 24)) none]) (AC.cond (Operand.tmp 25) (AC.seq (AC.ops [AOper.mk (some 8) (AOp.mov
  (Operand.const (Value.slice none 0 0))) none, AOper.mk (some 9) (AOp.mov (Operand.const (Value.slice none 0 0))) none, AOper.mk (some 10) (AOp.mov
  (Operand.const (Value.int IntKind.i64 0))) none, AOper.mk (some 11) (AOp.mov (Operand.const (Value.int IntKind.i64 2))) none]) AC.ret) AC.skip))
  (AC.seq (AC.seq (AC.ops [AOper.mk (some 26) (AOp.load true 2 (Operand.tmp 4)) none, AOper.mk (some 27) (AOp.mov (Operand.tmp 1)) none, AOper.mk (some
  28) (AOp.mov (Operand.tmp 2)) none, AOper.mk (some 29) (AOp.call 58 [Operand.tmp 26, Operand.tmp 27, Operand.tmp 28]) none, AOper.mk (some 30) (AOp.un
  UnOp.not (Operand.tmp 29)) none]) (AC.cond (Operand.tmp 30) (AC.seq (AC.ops [AOper.mk (some 8) (AOp.mov (Operand.const (Value.slice none 0 0))) none,
  AOper.mk (some 9) (AOp.mov (Operand.const (Value.slice none 0 0))) none, AOper.mk (some 10) (AOp.mov (Operand.const (Value.int IntKind.i64 0))) none,
  AOper.mk (some 11) (AOp.mov (Operand.const (Value.int IntKind.i64 15))) none]) AC.ret) AC.skip)) (AC.seq (AC.tree (AT.look [AOper.mk (some 31)
  (AOp.load true 2 (Operand.tmp 4)) none, AOper.mk (some 32) (AOp.mov (Operand.tmp 1)) none, AOper.mk (some 33) (AOp.mov (Operand.tmp 2)) none, AOper.mk
  (some 34) (AOp.mov (Operand.tmp 3)) none] (AT.fork true (AOper.mk (some 35) (AOp.call 59 [Operand.tmp 33, Operand.tmp 34]) none) (AT.fork true
  (AOper.mk (some 36) (AOp.call 46 [Operand.tmp 31, Operand.tmp 32, Operand.tmp 35]) none) (AT.act true (AOper.mk (some 13) (AOp.zro 88 (PV.agg [PV.v
  (Value.slice none 0 0), PV.v (Value.slice none 0 0), PV.v (Value.slice none 0 0), PV.v (Value.int IntKind.i64 0), PV.v (Value.bool false)])) none)
  (AT.act false (AOper.mk none (AOp.store 5 (Operand.tmp 13) (Operand.tmp 36)) none) AT.done)) (AT.act true (AOper.mk (some 13) (AOp.zro 88 (PV.agg [PV.v
  (Value.slice none 0 0), PV.v (Value.slice none 0 0), PV.v (Value.slice none 0 0), PV.v (Value.int IntKind.i64 0), PV.v (Value.bool false)])) none)
  (AT.act true (AOper.mk (some 36) (AOp.call 46 [Operand.tmp 31, Operand.tmp 32, Operand.tmp 35]) none) (AT.act false (AOper.mk none (AOp.store 5
  (Operand.tmp 13) (Operand.tmp 36)) none) AT.done)))) (AT.act true (AOper.mk (some 13) (AOp.zro 88 (PV.agg [PV.v (Value.slice none 0 0), PV.v
  (Value.slice none 0 0), PV.v (Value.slice none 0 0), PV.v (Value.int IntKind.i64 0), PV.v (Value.bool false)])) none) (AT.act true (AOper.mk (some 35)
  (AOp.call 59 [Operand.tmp 33, Operand.tmp 34]) none) (AT.act true (AOper.mk (some 36) (AOp.call 46 [Operand.tmp 31, Operand.tmp 32, Operand.tmp 35])
  none) (AT.act false (AOper.mk none (AOp.store 5 (Operand.tmp 13) (Operand.tmp 36)) none) AT.done))))))) (AC.seq (AC.seq (AC.ops [AOper.mk (some 37)
  (AOp.load true 5 (Operand.tmp 13)) none, AOper.mk (some 38) (AOp.mov (Operand.tmp 1)) none, AOper.mk (some 39) (AOp.call 47 [Operand.tmp 37,
  Operand.tmp 38]) none, AOper.mk (some 14) (AOp.mov (Operand.tmp 39)) none]) (AC.seq (AC.ops [AOper.mk (some 40) (AOp.mov (Operand.tmp 14)) none,
  AOper.mk (some 41) (AOp.bin false BinOp.neq (Operand.tmp 40) (Operand.const (Value.int IntKind.i64 0))) none]) (AC.cond (Operand.tmp 41) (AC.seq
  (AC.ops [AOper.mk (some 42) (AOp.mov (Operand.tmp 14)) none, AOper.mk (some 8) (AOp.mov (Operand.const (Value.slice none 0 0))) none, AOper.mk (some 9)
  (AOp.mov (Operand.const (Value.slice none 0 0))) none, AOper.mk (some 10) (AOp.mov (Operand.const (Value.int IntKind.i64 0))) none, AOper.mk (some 11)
  (AOp.mov (Operand.tmp 42)) none]) AC.ret) AC.skip))) (AC.seq (AC.segs [([AOper.mk (some 43) (AOp.fadr 0 (Operand.tmp 13)) none, AOper.mk (some 44)
  (AOp.load false 1 (Operand.tmp 43)) none, AOper.mk (some 45) (AOp.fadr 1 (Operand.tmp 13)) none, AOper.mk (some 46) (AOp.load false 1 (Operand.tmp 45))
  none, AOper.mk (some 47) (AOp.fadr 3 (Operand.tmp 13)) none, AOper.mk (some 48) (AOp.load false 1 (Operand.tmp 47)) none, AOper.mk (some 8) (AOp.mov
  (Operand.tmp 44)) none, AOper.mk (some 9) (AOp.mov (Operand.tmp 46)) none, AOper.mk (some 10) (AOp.mov (Operand.tmp 48)) none, AOper.mk (some 11)
  (AOp.mov (Operand.const (Value.int IntKind.i64 0))) none], none)]) AC.ret))))))) [ARes.tmp 8, ARes.tmp 9, ARes.tmp 10, ARes.tmp 11]
theorem cfn23 : cfn Try.prog 23 4 = some c23 := by kernel_rfl
def c24 : AFn :=
  AFn.mk 62 (AC.seq (AC.ops [AOper.mk (some 3) (AOp.box 24 (Operand.tmp 0)) none, AOper.mk (some 6) (AOp.mov (Operand.const (Value.int IntKind.i64 0)))
  none, AOper.mk (some 7) (AOp.mov (Operand.const (Value.int IntKind.i64 0))) none, AOper.mk (some 8) (AOp.mov (Operand.const (Value.int IntKind.i64 0)))
  none]) (AC.seq (AC.seq (AC.ops [AOper.mk (some 18) (AOp.load true 2 (Operand.tmp 3)) none, AOper.mk (some 19) (AOp.mov (Operand.tmp 1)) none, AOper.mk
  (some 20) (AOp.mov (Operand.tmp 2)) none, AOper.mk (some 21) (AOp.call 55 [Operand.tmp 18, Operand.tmp 19, Operand.tmp 20]) none, AOper.mk (some 17)
  (AOp.mov (Operand.tmp 21)) none, AOper.mk (some 22) (AOp.ext (Operand.tmp 17) 0) none, AOper.mk (some 23) (AOp.ext (Operand.tmp 17) 1) none, AOper.mk
  (some 9) (AOp.mov (Operand.tmp 22)) none, AOper.mk (some 10) (AOp.mov (Operand.tmp 23)) none]) (AC.seq (AC.ops [AOper.mk (some 24) (AOp.mov
  (Operand.tmp 10)) none, AOper.mk (some 25) (AOp.bin false BinOp.neq (Operand.tmp 24) (Operand.const (Value.int IntKind.i64 0))) none]) (AC.cond
  (Operand.tmp 25) (AC.seq (AC.ops [AOper.mk (some 26) (AOp.mov (Operand.tmp 10)) none, AOper.mk (some 6) (AOp.mov (Operand.const (Value.int IntKind.i64
  0))) none, AOper.mk (some 7) (AOp.mov (Operand.const (Value.int IntKind.i64 0))) none, AOper.mk (some 8) (AOp.mov (Operand.tmp 26)) none]) AC.ret)
  AC.skip))) (AC.seq (AC.ops [AOper.mk (some 11) (AOp.mov (Operand.const (Value.int IntKind.i64 0))) none, AOper.mk (some 12) (AOp.mov (Operand.const
  (Value.int IntKind.i64 (-1)))) none]) (AC.seq (AC.seq (AC.ops [AOper.mk (some 27) (AOp.fadr 0 (Operand.tmp 3)) none, AOper.mk (some 28) (AOp.load false
  1 (Operand.tmp 27)) none, AOper.mk (some 29) (AOp.mov (Operand.const (Value.int IntKind.i64 0))) none]) (AC.block 0 (AC.loop (AC.seq (AC.ops [AOper.mk
  (some 30) (AOp.bin false BinOp.lss (Operand.tmp 29) (Operand.tmp 28)) none]) (AC.seq (AC.cond (Operand.tmp 30) AC.skip (AC.exit 0)) (AC.seq (AC.block 1
  (AC.seq (AC.ops [AOper.mk (some 31) (AOp.mov (Operand.tmp 29)) none, AOper.mk (some 13) (AOp.mov (Operand.tmp 31)) none]) (AC.seq (AC.ops [AOper.mk
  (some 33) (AOp.load true 2 (Operand.tmp 3)) none, AOper.mk (some 34) (AOp.mov (Operand.tmp 1)) none, AOper.mk (some 35) (AOp.mov (Operand.tmp 2)) none,
  AOper.mk (some 36) (AOp.mov (Operand.tmp 13)) none, AOper.mk (some 37) (AOp.call 56 [Operand.tmp 33, Operand.tmp 34, Operand.tmp 35, Operand.tmp 36])
  none, AOper.mk (some 32) (AOp.mov (Operand.tmp 37)) none, AOper.mk (some 38) (AOp.ext (Operand.tmp 32) 0) none, AOper.mk (some 39) (AOp.ext
  (Operand.tmp 32) 1) none, AOper.mk (some 14) (AOp.mov (Operand.tmp 38)) none, AOper.mk (some 15) (AOp.mov (Operand.tmp 39)) none]) (AC.seq (AC.seq
  (AC.ops [AOper.mk (some 40) (AOp.mov (Operand.tmp 15)) none, AOper.mk (some 41) (AOp.bin false BinOp.neq (Operand.tmp 40) (Operand.const (Value.int
  IntKind.i64 0))) none]) (AC.cond (Operand.tmp 41) (AC.seq (AC.ops [AOper.mk (some 42) (AOp.mov (Operand.tmp 15)) none, AOper.mk (some 6) (AOp.mov
  (Operand.const (Value.int IntKind.i64 0))) none, AOper.mk (some 7) (AOp.mov (Operand.const (Value.int IntKind.i64 0))) none, AOper.mk (some 8) (AOp.mov
  (Operand.tmp 42)) none]) AC.ret) AC.skip)) (AC.seq (AC.seq (AC.ops [AOper.mk (some 43) (AOp.mov (Operand.tmp 14)) none, AOper.mk (some 44) (AOp.call 60
  [Operand.tmp 43]) none, AOper.mk (some 16) (AOp.mov (Operand.tmp 44)) none]) (AC.seq (AC.ops [AOper.mk (some 45) (AOp.mov (Operand.tmp 16)) none,
  AOper.mk (some 46) (AOp.bin false BinOp.neq (Operand.tmp 45) (Operand.const (Value.int IntKind.i64 0))) none]) (AC.cond (Operand.tmp 46) (AC.seq
  (AC.ops [AOper.mk (some 47) (AOp.mov (Operand.tmp 16)) none, AOper.mk (some 6) (AOp.mov (Operand.const (Value.int IntKind.i64 0))) none, AOper.mk (some
  7) (AOp.mov (Operand.const (Value.int IntKind.i64 0))) none, AOper.mk (some 8) (AOp.mov (Operand.tmp 47)) none]) AC.ret) AC.skip))) (AC.seq (AC.ops
  [AOper.mk (some 48) (AOp.mov (Operand.tmp 14)) none, AOper.mk (some 49) (AOp.nilc (Operand.tmp 48)) none, AOper.mk (some 50) (AOp.fadr 5 (Operand.tmp
  49)) none, AOper.mk (some 51) (AOp.load false 1 (Operand.tmp 50)) none, AOper.mk (some 52) (AOp.mov (Operand.tmp 12)) none, AOper.mk (some 53) (AOp.bin
  false BinOp.gtr (Operand.tmp 51) (Operand.tmp 52)) none]) (AC.cond (Operand.tmp 53) (AC.segs [([AOper.mk (some 54) (AOp.mov (Operand.tmp 13)) none,
  AOper.mk (some 55) (AOp.mov (Operand.tmp 14)) none, AOper.mk (some 56) (AOp.nilc (Operand.tmp 55)) none, AOper.mk (some 57) (AOp.fadr 5 (Operand.tmp
  56)) none, AOper.mk (some 58) (AOp.load false 1 (Operand.tmp 57)) none, AOper.mk (some 11) (AOp.mov (Operand.tmp 54)) none, AOper.mk (some 12) (AOp.mov
  (Operand.tmp 58)) none], none)]) AC.skip))))))) (AC.ops [AOper.mk (some 59) (AOp.bin false BinOp.add (Operand.tmp 29) (Operand.const (Value.int
  IntKind.i64 1))) none, AOper.mk (some 29) (AOp.mov (Operand.tmp 59)) none]))))))) (AC.seq (AC.ops [AOper.mk (some 60) (AOp.mov (Operand.tmp 11)) none,
  AOper.mk (some 61) (AOp.mov (Operand.tmp 12)) none, AOper.mk (some 6) (AOp.mov (Operand.tmp 60)) none, AOper.mk (some 7) (AOp.mov (Operand.tmp 61))
  none, AOper.mk (some 8) (AOp.mov (Operand.const (Value.int IntKind.i64 0))) none]) AC.ret))))) [ARes.tmp 6, ARes.tmp 7, ARes.tmp 8]
theorem cfn24 : cfn Try.prog 24 3 = some c24 := by kernel_rfl
def c25 : AFn :=
  AFn.mk 49 (AC.seq (AC.ops [AOper.mk (some 3) (AOp.box 24 (Operand.tmp 0)) none, AOper.mk (some 6) (AOp.mov (Operand.const (Value.int IntKind.i64 0)))
  none, AOper.mk (some 7) (AOp.mov (Operand.const (Value.int IntKind.i64 0))) none, AOper.mk (some 8) (AOp.mov (Operand.const (Value.int IntKind.i64 0)))
  none]) (AC.seq (AC.seq (AC.ops [AOper.mk (some 14) (AOp.load true 2 (Operand.tmp 3)) none, AOper.mk (some 15) (AOp.mov (Operand.tmp 1)) none, AOper.mk
  (some 16) (AOp.mov (Operand.tmp 2)) none, AOper.mk (some 17) (AOp.call 31 [Operand.tmp 14, Operand.tmp 15, Operand.tmp 16]) none, AOper.mk (some 9)
  (AOp.mov (Operand.tmp 17)) none]) (AC.seq (AC.ops [AOper.mk (some 18) (AOp.mov (Operand.tmp 9)) none, AOper.mk (some 19) (AOp.bin false BinOp.neq
  (Operand.tmp 18) (Operand.const (Value.int IntKind.i64 0))) none]) (AC.cond (Operand.tmp 19) (AC.seq (AC.ops [AOper.mk (some 20) (AOp.mov (Operand.tmp
  9)) none, AOper.mk (some 6) (AOp.mov (Operand.const (Value.int IntKind.i64 0))) none, AOper.mk (some 7) (AOp.mov (Operand.const (Value.int IntKind.i64
  0))) none, AOper.mk (some 8) (AOp.mov (Operand.tmp 20)) none]) AC.ret) AC.skip))) (AC.seq (AC.seq (AC.ops [AOper.mk (some 21) (AOp.load true 2
  (Operand.tmp 3)) none, AOper.mk (some 22) (AOp.mov (Operand.tmp 1)) none, AOper.mk (some 23) (AOp.mov (Operand.tmp 2)) none, AOper.mk (some 24)
  (AOp.call 58 [Operand.tmp 21, Operand.tmp 22, Operand.tmp 23]) none, AOper.mk (some 25) (AOp.un UnOp.not (Operand.tmp 24)) none]) (AC.cond (Operand.tmp
  25) (AC.seq (AC.ops [AOper.mk (some 6) (AOp.mov (Operand.const (Value.int IntKind.i64 0))) none, AOper.mk (some 7) (AOp.mov (Operand.const (Value.int
  IntKind.i64 0))) none, AOper.mk (some 8) (AOp.mov (Operand.const (Value.int IntKind.i64 15))) none]) AC.ret) AC.skip)) (AC.seq (AC.ops [AOper.mk (some
  10) (AOp.mov (Operand.const (Value.int IntKind.i64 0))) none, AOper.mk (some 11) (AOp.mov (Operand.const (Value.int IntKind.i64 (-1)))) none]) (AC.seq
  (AC.seq (AC.ops [AOper.mk (some 12) (AOp.mov (Operand.const (Value.int IntKind.i64 0))) none]) (AC.block 0 (AC.loop (AC.seq (AC.seq (AC.ops [AOper.mk
  (some 26) (AOp.mov (Operand.tmp 12)) none, AOper.mk (some 27) (AOp.fadr 0 (Operand.tmp 3)) none, AOper.mk (some 28) (AOp.load false 1 (Operand.tmp 27))
  none, AOper.mk (some 29) (AOp.bin false BinOp.lss (Operand.tmp 26) (Operand.tmp 28)) none]) (AC.cond (Operand.tmp 29) AC.skip (AC.exit 0))) (AC.seq
  (AC.block 1 (AC.seq (AC.tree (AT.look [AOper.mk (some 32) (AOp.load true 2 (Operand.tmp 3)) none, AOper.mk (some 33) (AOp.mov (Operand.tmp 1)) none,
  AOper.mk (some 34) (AOp.mov (Operand.tmp 2)) none, AOper.mk (some 35) (AOp.mov (Operand.tmp 12)) none] (AT.fork true (AOper.mk (some 36) (AOp.call 59
  [Operand.tmp 34, Operand.tmp 35]) none) (AT.fork true (AOper.mk (some 37) (AOp.call 46 [Operand.tmp 32, Operand.tmp 33, Operand.tmp 36]) none) (AT.act
  true (AOper.mk (some 13) (AOp.zro 88 (PV.agg [PV.v (Value.slice none 0 0), PV.v (Value.slice none 0 0), PV.v (Value.slice none 0 0), PV.v (Value.int
  IntKind.i64 0), PV.v (Value.bool false)])) none) (AT.act false (AOper.mk none (AOp.store 5 (Operand.tmp 13) (Operand.tmp 37)) none) AT.done)) (AT.act
  true (AOper.mk (some 13) (AOp.zro 88 (PV.agg [PV.v (Value.slice none 0 0), PV.v (Value.slice none 0 0), PV.v (Value.slice none 0 0), PV.v (Value.int
  IntKind.i64 0), PV.v (Value.bool false)])) none) (AT.act true (AOper.mk (some 37) (AOp.call 46 [Operand.tmp 32, Operand.tmp 33, Operand.tmp 36]) none)
  (AT.act false (AOper.mk none (AOp.store 5 (Operand.tmp 13) (Operand.tmp 37)) none) AT.done)))) (AT.act true (AOper.mk (some 13) (AOp.zro 88 (PV.agg
  [PV.v (Value.slice none 0 0), PV.v (Value.slice none 0 0), PV.v (Value.slice none 0 0), PV.v (Value.int IntKind.i64 0), PV.v (Value.bool false)]))
  none) (AT.act true (AOper.mk (some 36) (AOp.call 59 [Operand.tmp 34, Operand.tmp 35]) none) (AT.act true (AOper.mk (some 37) (AOp.call 46 [Operand.tmp
  32, Operand.tmp 33, Operand.tmp 36]) none) (AT.act false (AOper.mk none (AOp.store 5 (Operand.tmp 13) (Operand.tmp 37)) none) AT.done))))))) (AC.seq
  (AC.seq (AC.ops [AOper.mk (some 38) (AOp.fadr 4 (Operand.tmp 13)) none, AOper.mk (some 39) (AOp.load false 1 (Operand.tmp 38)) none]) (AC.cond
  (Operand.tmp 39) (AC.seq (AC.ops [AOper.mk (some 6) (AOp.mov (Operand.const (Value.int IntKind.i64 0))) none, AOper.mk (some 7) (AOp.mov (Operand.const
  (Value.int IntKind.i64 0))) none, AOper.mk (some 8) (AOp.mov (Operand.const (Value.int IntKind.i64 12))) none]) AC.ret) AC.skip)) (AC.seq (AC.ops
  [AOper.mk (some 40) (AOp.fadr 3 (Operand.tmp 13)) none, AOper.mk (some 41) (AOp.load false 1 (Operand.tmp 40)) none, AOper.mk (some 42) (AOp.mov
  (Operand.tmp 11)) none, AOper.mk (some 43) (AOp.bin false BinOp.gtr (Operand.tmp 41) (Operand.tmp 42)) none]) (AC.cond (Operand.tmp 43) (AC.segs
  [([AOper.mk (some 44) (AOp.mov (Operand.tmp 12)) none, AOper.mk (some 45) (AOp.fadr 3 (Operand.tmp 13)) none, AOper.mk (some 46) (AOp.load false 1
  (Operand.tmp 45)) none, AOper.mk (some 10) (AOp.mov (Operand.tmp 44)) none, AOper.mk (some 11) (AOp.mov (Operand.tmp 46)) none], none)]) AC.skip)))))
  (AC.ops [AOper.mk (some 30) (AOp.mov (Operand.tmp 12)) none, AOper.mk (some 31) (AOp.bin false BinOp.add (Operand.tmp 30) (Operand.const (Value.int
  IntKind.i64 1))) none, AOper.mk (some 12) (AOp.mov (Operand.tmp 31)) none])))))) (AC.seq (AC.ops [AOper.mk (some 47) (AOp.mov (Operand.tmp 10)) none,
  AOper.mk (some 48) (AOp.mov (Operand.tmp 11)) none, AOper.mk (some 6) (AOp.mov (Operand.tmp 47)) none, AOper.mk (some 7) (AOp.mov (Operand.tmp 48))
  none, AOper.mk (some 8) (AOp.mov (Operand.const (Value.int IntKind.i64 0))) none]) AC.ret)))))) [ARes.tmp 6, ARes.tmp 7, ARes.tmp 8]
theorem cfn25 : cfn Try.prog 25 3 = some c25 := by kernel_rfl
def c26 : AFn :=
  AFn.mk 42 (AC.seq (AC.ops [AOper.mk (some 3) (AOp.box 24 (Operand.tmp 0)) none, AOper.mk (some 6) (AOp.mov (Operand.const (Value.slice none 0 0)))
  none, AOper.mk (some 7) (AOp.mov (Operand.const (Value.int IntKind.i64 0))) none]) (AC.seq (AC.ops [AOper.mk (some 13) (AOp.load true 2 (Operand.tmp
  3)) none, AOper.mk (some 14) (AOp.mov (Operand.tmp 1)) none, AOper.mk (some 15) (AOp.mov (Operand.tmp 2)) none, AOper.mk (some 16) (AOp.call 44
  [Operand.tmp 13, Operand.tmp 14, Operand.tmp 15]) none, AOper.mk (some 12) (AOp.mov (Operand.tmp 16)) none, AOper.mk (some 17) (AOp.ext (Operand.tmp
  12) 0) none, AOper.mk (some 18) (AOp.ext (Operand.tmp 12) 1) none, AOper.mk (some 8) (AOp.mov (Operand.tmp 17)) none, AOper.mk (some 9) (AOp.mov
  (Operand.tmp 18)) none]) (AC.seq (AC.seq (AC.ops [AOper.mk (some 19) (AOp.mov (Operand.tmp 9)) none, AOper.mk (some 20) (AOp.bin false BinOp.neq
  (Operand.tmp 19) (Operand.const (Value.int IntKind.i64 0))) none]) (AC.cond (Operand.tmp 20) (AC.seq (AC.ops [AOper.mk (some 21) (AOp.mov (Operand.tmp
  9)) none, AOper.mk (some 6) (AOp.mov (Operand.const (Value.slice none 0 0))) none, AOper.mk (some 7) (AOp.mov (Operand.tmp 21)) none]) AC.ret)
  AC.skip)) (AC.seq (AC.ops [AOper.mk (some 10) (AOp.mov (Operand.const (Value.slice none 0 0))) none]) (AC.seq (AC.seq (AC.ops [AOper.mk (some 22)
  (AOp.mov (Operand.tmp 8)) none, AOper.mk (some 23) (AOp.nilc (Operand.tmp 22)) none, AOper.mk (some 24) (AOp.fadr 0 (Operand.tmp 23)) none, AOper.mk
  (some 25) (AOp.load false 1 (Operand.tmp 24)) none, AOper.mk (some 26) (AOp.len (Operand.tmp 25)) none, AOper.mk (some 27) (AOp.mov (Operand.const
  (Value.int IntKind.i64 0))) none]) (AC.block 0 (AC.loop (AC.seq (AC.ops [AOper.mk (some 28) (AOp.bin false BinOp.lss (Operand.tmp 27) (Operand.tmp 26))
  none]) (AC.seq (AC.cond (Operand.tmp 28) AC.skip (AC.exit 0)) (AC.seq (AC.block 1 (AC.seq (AC.ops [AOper.mk (some 29) (AOp.mov (Operand.tmp 27)) none,
  AOper.mk (some 11) (AOp.mov (Operand.tmp 29)) none]) (AC.seq (AC.ops [AOper.mk (some 30) (AOp.mov (Operand.tmp 8)) none, AOper.mk (some 31) (AOp.mov
  (Operand.tmp 11)) none, AOper.mk (some 32) (AOp.nilc (Operand.tmp 30)) none, AOper.mk (some 33) (AOp.fadr 6 (Operand.tmp 32)) none, AOper.mk (some 34)
  (AOp.iadrA 12 1 (Operand.tmp 33) (Operand.tmp 31)) none, AOper.mk (some 35) (AOp.load false 1 (Operand.tmp 34)) none]) (AC.cond (Operand.tmp 35)
  (AC.ops [AOper.mk (some 36) (AOp.mov (Operand.tmp 10)) none, AOper.mk (some 37) (AOp.mov (Operand.tmp 11)) none, AOper.mk (some 38) (AOp.bsl 3 1
  [Operand.tmp 37]) none, AOper.mk (some 39) (AOp.app 3 1 (Operand.tmp 36) (Operand.tmp 38)) none, AOper.mk (some 10) (AOp.mov (Operand.tmp 39)) none])
  AC.skip)))) (AC.ops [AOper.mk (some 40) (AOp.bin false BinOp.add (Operand.tmp 27) (Operand.const (Value.int IntKind.i64 1))) none, AOper.mk (some 27)
  (AOp.mov (Operand.tmp 40)) none]))))))) (AC.seq (AC.ops [AOper.mk (some 41) (AOp.mov (Operand.tmp 10)) none, AOper.mk (some 6) (AOp.mov (Operand.tmp
  41)) none, AOper.mk (some 7) (AOp.mov (Operand.const (Value.int IntKind.i64 0))) none]) AC.ret)))))) [ARes.tmp 6, ARes.tmp 7]
theorem cfn26 : cfn Try.prog 26 3 = some c26 := by kernel_rfl
def c27 : AFn :=
  AFn.mk 20 (AC.seq (AC.ops [AOper.mk (some 3) (AOp.box 24 (Operand.tmp 0)) none, AOper.mk (some 6) (AOp.mov (Operand.const (Value.slice none 0 0)))
  none, AOper.mk (some 7) (AOp.mov (Operand.const (Value.int IntKind.i64 0))) none]) (AC.seq (AC.seq (AC.ops [AOper.mk (some 9) (AOp.load true 2
  (Operand.tmp 3)) none, AOper.mk (some 10) (AOp.mov (Operand.tmp 1)) none, AOper.mk (some 11) (AOp.mov (Operand.tmp 2)) none, AOper.mk (some 12)
  (AOp.call 31 [Operand.tmp 9, Operand.tmp 10, Operand.tmp 11]) none, AOper.mk (some 8) (AOp.mov (Operand.tmp 12)) none]) (AC.seq (AC.ops [AOper.mk (some
  13) (AOp.mov (Operand.tmp 8)) none, AOper.mk (some 14) (AOp.bin false BinOp.neq (Operand.tmp 13) (Operand.const (Value.int IntKind.i64 0))) none])
  (AC.cond (Operand.tmp 14) (AC.seq (AC.ops [AOper.mk (some 15) (AOp.mov (Operand.tmp 8)) none, AOper.mk (some 6) (AOp.mov (Operand.const (Value.slice
  none 0 0))) none, AOper.mk (some 7) (AOp.mov (Operand.tmp 15)) none]) AC.ret) AC.skip))) (AC.seq (AC.ops [AOper.mk (some 16) (AOp.load true 2
  (Operand.tmp 3)) none, AOper.mk (some 17) (AOp.mov (Operand.tmp 1)) none, AOper.mk (some 18) (AOp.mov (Operand.tmp 2)) none, AOper.mk (some 19)
  (AOp.call 61 [Operand.tmp 16, Operand.tmp 17, Operand.tmp 18]) none, AOper.mk (some 6) (AOp.mov (Operand.tmp 19)) none, AOper.mk (some 7) (AOp.mov
  (Operand.const (Value.int IntKind.i64 0))) none]) AC.ret))) [ARes.tmp 6, ARes.tmp 7]
theorem cfn27 : cfn Try.prog 27 3 = some c27 := by kernel_rfl
def c28 : AFn :=
  AFn.mk 25 (AC.seq (AC.ops [AOper.mk (some 3) (AOp.box 24 (Operand.tmp 0)) none, AOper.mk (some 6) (AOp.mov (Operand.const (Value.bool false))) none,
  AOper.mk (some 7) (AOp.mov (Operand.const (Value.int IntKind.i64 0))) none]) (AC.seq (AC.ops [AOper.mk (some 11) (AOp.load true 2 (Operand.tmp 3))
  none, AOper.mk (some 12) (AOp.mov (Operand.tmp 1)) none, AOper.mk (some 13) (AOp.mov (Operand.tmp 2)) none, AOper.mk (some 14) (AOp.call 44
  [Operand.tmp 11, Operand.tmp 12, Operand.tmp 13]) none, AOper.mk (some 10) (AOp.mov (Operand.tmp 14)) none, AOper.mk (some 15) (AOp.ext (Operand.tmp
  10) 0) none, AOper.mk (some 16) (AOp.ext (Operand.tmp 10) 1) none, AOper.mk (some 8) (AOp.mov (Operand.tmp 15)) none, AOper.mk (some 9) (AOp.mov
  (Operand.tmp 16)) none]) (AC.seq (AC.ops [AOper.mk (some 17) (AOp.mov (Operand.tmp 9)) none, AOper.mk (some 18) (AOp.bin false BinOp.eql (Operand.tmp
  17) (Operand.const (Value.int IntKind.i64 0))) none, AOper.mk (some 19) (AOp.mov (Operand.tmp 18)) none, AOper.mk (some 20) (AOp.mov (Operand.tmp 8))
  (some (19, true)), AOper.mk (some 21) (AOp.call 48 [Operand.tmp 20]) (some (19, true)), AOper.mk (some 22) (AOp.bin false BinOp.lss (Operand.tmp 21)
  (Operand.const (Value.int IntKind.i64 0))) (some (19, true)), AOper.mk (some 23) (AOp.pick (Operand.tmp 19) (Operand.tmp 22) (Operand.const (Value.bool
  false))) none, AOper.mk (some 24) (AOp.mov (Operand.tmp 9)) none, AOper.mk (some 6) (AOp.mov (Operand.tmp 23)) none, AOper.mk (some 7) (AOp.mov
  (Operand.tmp 24)) none]) AC.ret))) [ARes.tmp 6, ARes.tmp 7]
theorem cfn28 : cfn Try.prog 28 3 = some c28 := by kernel_rfl
def c29 : AFn :=
  AFn.mk 20 (AC.seq (AC.ops [AOper.mk (some 3) (AOp.box 24 (Operand.tmp 0)) none, AOper.mk (some 6) (AOp.mov (Operand.const (Value.bool false))) none,
  AOper.mk (some 7) (AOp.mov (Operand.const (Value.int IntKind.i64 0))) none]) (AC.seq (AC.seq (AC.ops [AOper.mk (some 9) (AOp.load true 2 (Operand.tmp
  3)) none, AOper.mk (some 10) (AOp.mov (Operand.tmp 1)) none, AOper.mk (some 11) (AOp.mov (Operand.tmp 2)) none, AOper.mk (some 12) (AOp.call 31
  [Operand.tmp 9, Operand.tmp 10, Operand.tmp 11]) none, AOper.mk (some 8) (AOp.mov (Operand.tmp 12)) none]) (AC.seq (AC.ops [AOper.mk (some 13) (AOp.mov
  (Operand.tmp 8)) none, AOper.mk (some 14) (AOp.bin false BinOp.neq (Operand.tmp 13) (Operand.const (Value.int IntKind.i64 0))) none]) (AC.cond
  (Operand.tmp 14) (AC.seq (AC.ops [AOper.mk (some 15) (AOp.mov (Operand.tmp 8)) none, AOper.mk (some 6) (AOp.mov (Operand.const (Value.bool false)))
  none, AOper.mk (some 7) (AOp.mov (Operand.tmp 15)) none]) AC.ret) AC.skip))) (AC.seq (AC.ops [AOper.mk (some 16) (AOp.load true 2 (Operand.tmp 3))
  none, AOper.mk (some 17) (AOp.mov (Operand.tmp 1)) none, AOper.mk (some 18) (AOp.mov (Operand.tmp 2)) none, AOper.mk (some 19) (AOp.call 58
  [Operand.tmp 16, Operand.tmp 17, Operand.tmp 18]) none, AOper.mk (some 6) (AOp.mov (Operand.tmp 19)) none, AOper.mk (some 7) (AOp.mov (Operand.const
  (Value.int IntKind.i64 0))) none]) AC.ret))) [ARes.tmp 6, ARes.tmp 7]
theorem cfn29 : cfn Try.prog 29 3 = some c29 := by kernel_rfl
def c30 : AFn :=
  AFn.mk 39 (AC.seq (AC.ops [AOper.mk (some 3) (AOp.box 24 (Operand.tmp 0)) none, AOper.mk (some 6) (AOp.mov (Operand.const (Value.int IntKind.i64 0)))
  none]) (AC.seq (AC.seq (AC.ops [AOper.mk (some 11) (AOp.load true 2 (Operand.tmp 3)) none, AOper.mk (some 12) (AOp.mov (Operand.tmp 1)) none, AOper.mk
  (some 13) (AOp.call 50 [Operand.tmp 11, Operand.tmp 12]) none, AOper.mk (some 7) (AOp.mov (Operand.tmp 13)) none]) (AC.seq (AC.ops [AOper.mk (some 14)
  (AOp.mov (Operand.tmp 7)) none, AOper.mk (some 15) (AOp.bin false BinOp.neq (Operand.tmp 14) (Operand.const (Value.int IntKind.i64 0))) none]) (AC.cond
  (Operand.tmp 15) (AC.seq (AC.ops [AOper.mk (some 16) (AOp.mov (Operand.tmp 7)) none, AOper.mk (some 6) (AOp.mov (Operand.tmp 16)) none]) AC.ret)
  AC.skip))) (AC.seq (AC.seq (AC.ops [AOper.mk (some 17) (AOp.mov (Operand.tmp 2)) none, AOper.mk (some 18) (AOp.fadr 0 (Operand.tmp 3)) none, AOper.mk
  (some 19) (AOp.load false 1 (Operand.tmp 18)) none, AOper.mk (some 20) (AOp.call 62 [Operand.tmp 17, Operand.tmp 19]) none, AOper.mk (some 8) (AOp.mov
  (Operand.tmp 20)) none]) (AC.seq (AC.ops [AOper.mk (some 21) (AOp.mov (Operand.tmp 8)) none, AOper.mk (some 22) (AOp.bin false BinOp.neq (Operand.tmp
  21) (Operand.const (Value.int IntKind.i64 0))) none]) (AC.cond (Operand.tmp 22) (AC.seq (AC.ops [AOper.mk (some 23) (AOp.mov (Operand.tmp 8)) none,
  AOper.mk (some 6) (AOp.mov (Operand.tmp 23)) none]) AC.ret) AC.skip))) (AC.seq (AC.seq (AC.ops [AOper.mk (some 24) (AOp.mov (Operand.tmp 2)) none,
  AOper.mk (some 25) (AOp.len (Operand.tmp 24)) none, AOper.mk (some 26) (AOp.mov (Operand.const (Value.int IntKind.i64 0))) none]) (AC.block 0 (AC.loop
  (AC.seq (AC.ops [AOper.mk (some 27) (AOp.bin false BinOp.lss (Operand.tmp 26) (Operand.tmp 25)) none]) (AC.seq (AC.cond (Operand.tmp 27) AC.skip
  (AC.exit 0)) (AC.seq (AC.block 1 (AC.seq (AC.ops [AOper.mk (some 28) (AOp.mov (Operand.tmp 26)) none, AOper.mk (some 29) (AOp.iadr 1 (Operand.tmp 24)
  (Operand.tmp 26)) none, AOper.mk (some 30) (AOp.load false 1 (Operand.tmp 29)) none, AOper.mk (some 9) (AOp.mov (Operand.tmp 28)) none, AOper.mk (some
  10) (AOp.mov (Operand.tmp 30)) none]) (AC.seq (AC.ops [AOper.mk (some 31) (AOp.mov (Operand.tmp 9)) none, AOper.mk (some 32) (AOp.mov (Operand.tmp 1))
  none, AOper.mk (some 33) (AOp.bin false BinOp.neq (Operand.tmp 31) (Operand.tmp 32)) none, AOper.mk (some 34) (AOp.mov (Operand.tmp 33)) none, AOper.mk
  (some 35) (AOp.mov (Operand.tmp 10)) (some (34, true)), AOper.mk (some 36) (AOp.bin false BinOp.lss (Operand.tmp 35) (Operand.const (Value.int
  IntKind.i64 0))) (some (34, true)), AOper.mk (some 37) (AOp.pick (Operand.tmp 34) (Operand.tmp 36) (Operand.const (Value.bool false))) none]) (AC.cond
  (Operand.tmp 37) (AC.seq (AC.ops [AOper.mk (some 6) (AOp.mov (Operand.const (Value.int IntKind.i64 2))) none]) AC.ret) AC.skip)))) (AC.ops [AOper.mk
  (some 38) (AOp.bin false BinOp.add (Operand.tmp 26) (Operand.const (Value.int IntKind.i64 1))) none, AOper.mk (some 26) (AOp.mov (Operand.tmp 38))
  none]))))))) (AC.seq (AC.ops [AOper.mk (some 6) (AOp.mov (Operand.const (Value.int IntKind.i64 0))) none]) AC.ret))))) [ARes.tmp 6]
theorem cfn30 : cfn Try.prog 30 3 = some c30 := by kernel_rfl
def c31 : AFn :=
  AFn.mk 39 (AC.seq (AC.ops [AOper.mk (some 3) (AOp.box 24 (Operand.tmp 0)) none, AOper.mk (some 6) (AOp.mov (Operand.const (Value.int IntKind.i64 0)))
  none]) (AC.seq (AC.seq (AC.ops [AOper.mk (some 10) (AOp.load true 2 (Operand.tmp 3)) none, AOper.mk (some 11) (AOp.mov (Operand.tmp 1)) none, AOper.mk
  (some 12) (AOp.call 52 [Operand.tmp 10, Operand.tmp 11]) none, AOper.mk (some 7) (AOp.mov (Operand.tmp 12)) none]) (AC.seq (AC.ops [AOper.mk (some 13)
  (AOp.mov (Operand.tmp 7)) none, AOper.mk (some 14) (AOp.bin false BinOp.neq (Operand.tmp 13) (Operand.const (Value.int IntKind.i64 0))) none]) (AC.cond
  (Operand.tmp 14) (AC.seq (AC.ops [AOper.mk (some 15) (AOp.mov (Operand.tmp 7)) none, AOper.mk (some 6) (AOp.mov (Operand.tmp 15)) none]) AC.ret)
  AC.skip))) (AC.seq (AC.seq (AC.ops [AOper.mk (some 16) (AOp.mov (Operand.tmp 2)) none, AOper.mk (some 17) (AOp.fadr 0 (Operand.tmp 3)) none, AOper.mk
  (some 18) (AOp.load false 1 (Operand.tmp 17)) none, AOper.mk (some 19) (AOp.call 34 [Operand.tmp 16, Operand.tmp 18]) none, AOper.mk (some 8) (AOp.mov
  (Operand.tmp 19)) none]) (AC.seq (AC.ops [AOper.mk (some 20) (AOp.mov (Operand.tmp 8)) none, AOper.mk (some 21) (AOp.bin false BinOp.neq (Operand.tmp
  20) (Operand.const (Value.int IntKind.i64 0))) none]) (AC.cond (Operand.tmp 21) (AC.seq (AC.ops [AOper.mk (some 22) (AOp.mov (Operand.tmp 8)) none,
  AOper.mk (some 6) (AOp.mov (Operand.tmp 22)) none]) AC.ret) AC.skip))) (AC.seq (AC.seq (AC.ops [AOper.mk (some 9) (AOp.mov (Operand.const (Value.int
  IntKind.i64 0))) none]) (AC.block 0 (AC.loop (AC.seq (AC.seq (AC.ops [AOper.mk (some 23) (AOp.mov (Operand.tmp 9)) none, AOper.mk (some 24) (AOp.fadr 0
  (Operand.tmp 3)) none, AOper.mk (some 25) (AOp.load false 1 (Operand.tmp 24)) none, AOper.mk (some 26) (AOp.bin false BinOp.lss (Operand.tmp 23)
  (Operand.tmp 25)) none]) (AC.cond (Operand.tmp 26) AC.skip (AC.exit 0))) (AC.seq (AC.block 1 (AC.seq (AC.ops [AOper.mk (some 29) (AOp.mov (Operand.tmp
  9)) none, AOper.mk (some 30) (AOp.mov (Operand.tmp 1)) none, AOper.mk (some 31) (AOp.bin false BinOp.neq (Operand.tmp 29) (Operand.tmp 30)) none,
  AOper.mk (some 32) (AOp.mov (Operand.tmp 31)) none, AOper.mk (some 33) (AOp.mov (Operand.tmp 2)) (some (32, true)), AOper.mk (some 34) (AOp.mov
  (Operand.tmp 9)) (some (32, true)), AOper.mk (some 35) (AOp.iadr 1 (Operand.tmp 33) (Operand.tmp 34)) (some (32, true)), AOper.mk (some 36) (AOp.load
  false 1 (Operand.tmp 35)) (some (32, true)), AOper.mk (some 37) (AOp.bin false BinOp.lss (Operand.tmp 36) (Operand.const (Value.int IntKind.i64 0)))
  (some (32, true)), AOper.mk (some 38) (AOp.pick (Operand.tmp 32) (Operand.tmp 37) (Operand.const (Value.bool false))) none]) (AC.cond (Operand.tmp 38)
  (AC.seq (AC.ops [AOper.mk (some 6) (AOp.mov (Operand.const (Value.int IntKind.i64 2))) none]) AC.ret) AC.skip))) (AC.ops [AOper.mk (some 27) (AOp.mov
  (Operand.tmp 9)) none, AOper.mk (some 28) (AOp.bin false BinOp.add (Operand.tmp 27) (Operand.const (Value.int IntKind.i64 1))) none, AOper.mk (some 9)
  (AOp.mov (Operand.tmp 28)) none])))))) (AC.seq (AC.ops [AOper.mk (some 6) (AOp.mov (Operand.const (Value.int IntKind.i64 0))) none]) AC.ret)))))
  [ARes.tmp 6]
theorem cfn31 : cfn Try.prog 31 3 = some c31 := by kernel_rfl
end Go.Proofs.Ythdbmoflbnggpaa
