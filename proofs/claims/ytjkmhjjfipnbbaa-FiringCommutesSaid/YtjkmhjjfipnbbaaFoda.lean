/-
  The compiled code of the functions (printed by a program of mine).
-/
import Derived.Test.YtjkmhjjfipnbbaaMad
import Derived.Test.YtjkmhjjfipnbbaaChecked
namespace Go.Proofs.Ytjkmhjjfipnbbaa
open Go.Abs
def c3 : AFn :=
  AFn.mk 46 (AC.seq (AC.ops [AOper.mk (some 2) (AOp.box 24 (Operand.tmp 0)) none, AOper.mk (some 4) (AOp.mov (Operand.const (Value.bool false))) none])
  (AC.seq (AC.seq (AC.ops [AOper.mk (some 9) (AOp.load true 2 (Operand.tmp 2)) none, AOper.mk (some 10) (AOp.mov (Operand.tmp 1)) none, AOper.mk (some
  11) (AOp.call 12 [Operand.tmp 9, Operand.tmp 10]) none, AOper.mk (some 12) (AOp.un UnOp.not (Operand.tmp 11)) none]) (AC.cond (Operand.tmp 12) (AC.seq
  (AC.ops [AOper.mk (some 13) (AOp.call 13 []) none, AOper.mk (some 4) (AOp.mov (Operand.tmp 13)) none]) AC.ret) AC.skip)) (AC.seq (AC.ops [AOper.mk
  (some 15) (AOp.load true 2 (Operand.tmp 2)) none, AOper.mk (some 16) (AOp.mov (Operand.tmp 1)) none, AOper.mk (some 17) (AOp.call 14 [Operand.tmp 15,
  Operand.tmp 16]) none, AOper.mk (some 14) (AOp.mov (Operand.tmp 17)) none, AOper.mk (some 18) (AOp.ext (Operand.tmp 14) 0) none, AOper.mk (some 19)
  (AOp.ext (Operand.tmp 14) 1) none, AOper.mk (some 5) (AOp.mov (Operand.tmp 18)) none, AOper.mk (some 6) (AOp.mov (Operand.tmp 19)) none]) (AC.seq
  (AC.ops [AOper.mk (some 21) (AOp.load true 2 (Operand.tmp 2)) none, AOper.mk (some 22) (AOp.mov (Operand.tmp 1)) none, AOper.mk (some 23) (AOp.call 15
  [Operand.tmp 21, Operand.tmp 22]) none, AOper.mk (some 20) (AOp.mov (Operand.tmp 23)) none, AOper.mk (some 24) (AOp.ext (Operand.tmp 20) 0) none,
  AOper.mk (some 25) (AOp.ext (Operand.tmp 20) 1) none, AOper.mk (some 7) (AOp.mov (Operand.tmp 24)) none, AOper.mk (some 8) (AOp.mov (Operand.tmp 25))
  none]) (AC.seq (AC.segs [([AOper.mk (some 26) (AOp.load true 2 (Operand.tmp 2)) none, AOper.mk (some 27) (AOp.mov (Operand.tmp 1)) none, AOper.mk (some
  29) (AOp.load true 2 (Operand.tmp 2)) none, AOper.mk (some 30) (AOp.mov (Operand.tmp 1)) none], some (true, AOper.mk (some 28) (AOp.call 16
  [Operand.tmp 26, Operand.tmp 27]) none)), ([], some (true, AOper.mk (some 31) (AOp.call 17 [Operand.tmp 29, Operand.tmp 30]) none)), ([AOper.mk (some
  32) (AOp.bin false BinOp.eql (Operand.tmp 28) (Operand.tmp 31)) none, AOper.mk (some 33) (AOp.mov (Operand.tmp 32)) none, AOper.mk (some 34) (AOp.mov
  (Operand.tmp 5)) (some (33, true)), AOper.mk (some 35) (AOp.mov (Operand.tmp 7)) (some (33, true))], some (true, AOper.mk (some 36) (AOp.call 18
  [Operand.tmp 34, Operand.tmp 35]) (some (33, true)))), ([AOper.mk (some 37) (AOp.pick (Operand.tmp 33) (Operand.tmp 36) (Operand.const (Value.bool
  false))) none, AOper.mk (some 38) (AOp.mov (Operand.tmp 37)) none, AOper.mk (some 39) (AOp.mov (Operand.tmp 6)) (some (38, true)), AOper.mk (some 40)
  (AOp.mov (Operand.tmp 8)) (some (38, true)), AOper.mk (some 41) (AOp.bin false BinOp.eql (Operand.tmp 39) (Operand.tmp 40)) (some (38, true)), AOper.mk
  (some 42) (AOp.pick (Operand.tmp 38) (Operand.tmp 41) (Operand.const (Value.bool false))) none, AOper.mk (some 43) (AOp.mov (Operand.tmp 42)) none],
  some (true, AOper.mk (some 44) (AOp.call 13 []) (some (43, true)))), ([AOper.mk (some 45) (AOp.pick (Operand.tmp 43) (Operand.tmp 44) (Operand.const
  (Value.bool false))) none, AOper.mk (some 4) (AOp.mov (Operand.tmp 45)) none], none)]) AC.ret))))) [ARes.tmp 4]
theorem cfn3 : cfn Try.prog 3 2 = some c3 := by kernel_rfl
def c4 : AFn :=
  AFn.mk 104 (AC.seq (AC.ops [AOper.mk (some 3) (AOp.box 24 (Operand.tmp 0)) none, AOper.mk (some 6) (AOp.mov (Operand.const (Value.bool false))) none])
  (AC.seq (AC.seq (AC.ops [AOper.mk (some 16) (AOp.load true 2 (Operand.tmp 3)) none, AOper.mk (some 17) (AOp.mov (Operand.tmp 1)) none, AOper.mk (some
  18) (AOp.call 12 [Operand.tmp 16, Operand.tmp 17]) none, AOper.mk (some 19) (AOp.un UnOp.not (Operand.tmp 18)) none, AOper.mk (some 20) (AOp.mov
  (Operand.tmp 19)) none, AOper.mk (some 21) (AOp.mov (Operand.tmp 2)) (some (20, false)), AOper.mk (some 22) (AOp.len (Operand.tmp 21)) (some (20,
  false)), AOper.mk (some 23) (AOp.bin false BinOp.gtr (Operand.tmp 22) (Operand.const (Value.int IntKind.i64 20))) (some (20, false)), AOper.mk (some
  24) (AOp.pick (Operand.tmp 20) (Operand.const (Value.bool true)) (Operand.tmp 23)) none]) (AC.cond (Operand.tmp 24) (AC.seq (AC.ops [AOper.mk (some 25)
  (AOp.call 13 []) none, AOper.mk (some 6) (AOp.mov (Operand.tmp 25)) none]) AC.ret) AC.skip)) (AC.seq (AC.ops [AOper.mk (some 7) (AOp.mov (Operand.const
  (Value.int IntKind.i64 (-1)))) none]) (AC.seq (AC.seq (AC.ops [AOper.mk (some 26) (AOp.mov (Operand.tmp 2)) none, AOper.mk (some 27) (AOp.len
  (Operand.tmp 26)) none, AOper.mk (some 28) (AOp.bin false BinOp.gtr (Operand.tmp 27) (Operand.const (Value.int IntKind.i64 0))) none]) (AC.cond
  (Operand.tmp 28) (AC.ops [AOper.mk (some 29) (AOp.mov (Operand.tmp 2)) none, AOper.mk (some 30) (AOp.iadr 1 (Operand.tmp 29) (Operand.const (Value.int
  IntKind.i64 0))) none, AOper.mk (some 31) (AOp.load false 1 (Operand.tmp 30)) none, AOper.mk (some 7) (AOp.mov (Operand.tmp 31)) none]) AC.skip))
  (AC.seq (AC.ops [AOper.mk (some 33) (AOp.load true 2 (Operand.tmp 3)) none, AOper.mk (some 34) (AOp.mov (Operand.tmp 1)) none, AOper.mk (some 35)
  (AOp.mov (Operand.tmp 7)) none, AOper.mk (some 36) (AOp.call 19 [Operand.tmp 33, Operand.tmp 34, Operand.tmp 35]) none, AOper.mk (some 32) (AOp.mov
  (Operand.tmp 36)) none, AOper.mk (some 37) (AOp.ext (Operand.tmp 32) 0) none, AOper.mk (some 38) (AOp.ext (Operand.tmp 32) 1) none, AOper.mk (some 8)
  (AOp.mov (Operand.tmp 37)) none, AOper.mk (some 9) (AOp.mov (Operand.tmp 38)) none]) (AC.seq (AC.ops [AOper.mk (some 40) (AOp.load true 2 (Operand.tmp
  3)) none, AOper.mk (some 41) (AOp.mov (Operand.tmp 1)) none, AOper.mk (some 42) (AOp.mov (Operand.tmp 7)) none, AOper.mk (some 43) (AOp.call 20
  [Operand.tmp 40, Operand.tmp 41, Operand.tmp 42]) none, AOper.mk (some 39) (AOp.mov (Operand.tmp 43)) none, AOper.mk (some 44) (AOp.ext (Operand.tmp
  39) 0) none, AOper.mk (some 45) (AOp.ext (Operand.tmp 39) 1) none, AOper.mk (some 10) (AOp.mov (Operand.tmp 44)) none, AOper.mk (some 11) (AOp.mov
  (Operand.tmp 45)) none]) (AC.seq (AC.seq (AC.ops [AOper.mk (some 46) (AOp.mov (Operand.tmp 8)) none, AOper.mk (some 47) (AOp.mov (Operand.tmp 10))
  none, AOper.mk (some 48) (AOp.call 18 [Operand.tmp 46, Operand.tmp 47]) none, AOper.mk (some 49) (AOp.un UnOp.not (Operand.tmp 48)) none, AOper.mk
  (some 50) (AOp.mov (Operand.tmp 49)) none, AOper.mk (some 51) (AOp.mov (Operand.tmp 9)) (some (50, false)), AOper.mk (some 52) (AOp.mov (Operand.tmp
  11)) (some (50, false)), AOper.mk (some 53) (AOp.bin false BinOp.neq (Operand.tmp 51) (Operand.tmp 52)) (some (50, false)), AOper.mk (some 54)
  (AOp.pick (Operand.tmp 50) (Operand.const (Value.bool true)) (Operand.tmp 53)) none]) (AC.cond (Operand.tmp 54) (AC.seq (AC.ops [AOper.mk (some 6)
  (AOp.mov (Operand.const (Value.bool false))) none]) AC.ret) AC.skip)) (AC.seq (AC.ops [AOper.mk (some 56) (AOp.load true 2 (Operand.tmp 3)) none,
  AOper.mk (some 57) (AOp.mov (Operand.tmp 1)) none, AOper.mk (some 58) (AOp.mov (Operand.tmp 7)) none, AOper.mk (some 59) (AOp.call 21 [Operand.tmp 56,
  Operand.tmp 57, Operand.tmp 58]) none, AOper.mk (some 55) (AOp.mov (Operand.tmp 59)) none, AOper.mk (some 60) (AOp.ext (Operand.tmp 55) 0) none,
  AOper.mk (some 61) (AOp.ext (Operand.tmp 55) 1) none, AOper.mk (some 8) (AOp.mov (Operand.tmp 60)) none, AOper.mk (some 9) (AOp.mov (Operand.tmp 61))
  none]) (AC.seq (AC.ops [AOper.mk (some 63) (AOp.load true 2 (Operand.tmp 3)) none, AOper.mk (some 64) (AOp.mov (Operand.tmp 1)) none, AOper.mk (some
  65) (AOp.mov (Operand.tmp 7)) none, AOper.mk (some 66) (AOp.call 22 [Operand.tmp 63, Operand.tmp 64, Operand.tmp 65]) none, AOper.mk (some 62) (AOp.mov
  (Operand.tmp 66)) none, AOper.mk (some 67) (AOp.ext (Operand.tmp 62) 0) none, AOper.mk (some 68) (AOp.ext (Operand.tmp 62) 1) none, AOper.mk (some 10)
  (AOp.mov (Operand.tmp 67)) none, AOper.mk (some 11) (AOp.mov (Operand.tmp 68)) none]) (AC.seq (AC.ops [AOper.mk (some 70) (AOp.load true 2 (Operand.tmp
  3)) none, AOper.mk (some 71) (AOp.mov (Operand.tmp 1)) none, AOper.mk (some 72) (AOp.mov (Operand.tmp 2)) none, AOper.mk (some 73) (AOp.call 23
  [Operand.tmp 70, Operand.tmp 71, Operand.tmp 72]) none, AOper.mk (some 69) (AOp.mov (Operand.tmp 73)) none, AOper.mk (some 74) (AOp.ext (Operand.tmp
  69) 0) none, AOper.mk (some 75) (AOp.ext (Operand.tmp 69) 1) none, AOper.mk (some 12) (AOp.mov (Operand.tmp 74)) none, AOper.mk (some 13) (AOp.mov
  (Operand.tmp 75)) none]) (AC.seq (AC.ops [AOper.mk (some 77) (AOp.load true 2 (Operand.tmp 3)) none, AOper.mk (some 78) (AOp.mov (Operand.tmp 1)) none,
  AOper.mk (some 79) (AOp.mov (Operand.tmp 2)) none, AOper.mk (some 80) (AOp.call 24 [Operand.tmp 77, Operand.tmp 78, Operand.tmp 79]) none, AOper.mk
  (some 76) (AOp.mov (Operand.tmp 80)) none, AOper.mk (some 81) (AOp.ext (Operand.tmp 76) 0) none, AOper.mk (some 82) (AOp.ext (Operand.tmp 76) 1) none,
  AOper.mk (some 14) (AOp.mov (Operand.tmp 81)) none, AOper.mk (some 15) (AOp.mov (Operand.tmp 82)) none]) (AC.seq (AC.ops [AOper.mk (some 83) (AOp.mov
  (Operand.tmp 8)) none, AOper.mk (some 84) (AOp.mov (Operand.tmp 10)) none, AOper.mk (some 85) (AOp.call 18 [Operand.tmp 83, Operand.tmp 84]) none,
  AOper.mk (some 86) (AOp.mov (Operand.tmp 85)) none, AOper.mk (some 87) (AOp.mov (Operand.tmp 9)) (some (86, true)), AOper.mk (some 88) (AOp.mov
  (Operand.tmp 11)) (some (86, true)), AOper.mk (some 89) (AOp.bin false BinOp.eql (Operand.tmp 87) (Operand.tmp 88)) (some (86, true)), AOper.mk (some
  90) (AOp.pick (Operand.tmp 86) (Operand.tmp 89) (Operand.const (Value.bool false))) none, AOper.mk (some 91) (AOp.mov (Operand.tmp 90)) none, AOper.mk
  (some 92) (AOp.mov (Operand.tmp 12)) (some (91, true)), AOper.mk (some 93) (AOp.mov (Operand.tmp 14)) (some (91, true)), AOper.mk (some 94) (AOp.call
  18 [Operand.tmp 92, Operand.tmp 93]) (some (91, true)), AOper.mk (some 95) (AOp.pick (Operand.tmp 91) (Operand.tmp 94) (Operand.const (Value.bool
  false))) none, AOper.mk (some 96) (AOp.mov (Operand.tmp 95)) none, AOper.mk (some 97) (AOp.mov (Operand.tmp 13)) (some (96, true)), AOper.mk (some 98)
  (AOp.mov (Operand.tmp 15)) (some (96, true)), AOper.mk (some 99) (AOp.bin false BinOp.eql (Operand.tmp 97) (Operand.tmp 98)) (some (96, true)),
  AOper.mk (some 100) (AOp.pick (Operand.tmp 96) (Operand.tmp 99) (Operand.const (Value.bool false))) none, AOper.mk (some 101) (AOp.mov (Operand.tmp
  100)) none, AOper.mk (some 102) (AOp.call 13 []) (some (101, true)), AOper.mk (some 103) (AOp.pick (Operand.tmp 101) (Operand.tmp 102) (Operand.const
  (Value.bool false))) none, AOper.mk (some 6) (AOp.mov (Operand.tmp 103)) none]) AC.ret)))))))))))) [ARes.tmp 6]
theorem cfn4 : cfn Try.prog 4 3 = some c4 := by kernel_rfl
def c5 : AFn :=
  AFn.mk 80 (AC.seq (AC.ops [AOper.mk (some 2) (AOp.box 24 (Operand.tmp 0)) none, AOper.mk (some 4) (AOp.mov (Operand.const (Value.bool false))) none])
  (AC.seq (AC.seq (AC.ops [AOper.mk (some 13) (AOp.load true 2 (Operand.tmp 2)) none, AOper.mk (some 14) (AOp.mov (Operand.tmp 1)) none, AOper.mk (some
  15) (AOp.call 12 [Operand.tmp 13, Operand.tmp 14]) none, AOper.mk (some 16) (AOp.un UnOp.not (Operand.tmp 15)) none]) (AC.cond (Operand.tmp 16) (AC.seq
  (AC.ops [AOper.mk (some 17) (AOp.call 13 []) none, AOper.mk (some 4) (AOp.mov (Operand.tmp 17)) none]) AC.ret) AC.skip)) (AC.seq (AC.ops [AOper.mk
  (some 19) (AOp.load true 2 (Operand.tmp 2)) none, AOper.mk (some 20) (AOp.mov (Operand.tmp 1)) none, AOper.mk (some 21) (AOp.call 25 [Operand.tmp 19,
  Operand.tmp 20]) none, AOper.mk (some 18) (AOp.mov (Operand.tmp 21)) none, AOper.mk (some 22) (AOp.ext (Operand.tmp 18) 0) none, AOper.mk (some 23)
  (AOp.ext (Operand.tmp 18) 1) none, AOper.mk (some 5) (AOp.mov (Operand.tmp 22)) none, AOper.mk (some 6) (AOp.mov (Operand.tmp 23)) none]) (AC.seq
  (AC.ops [AOper.mk (some 25) (AOp.load true 2 (Operand.tmp 2)) none, AOper.mk (some 26) (AOp.mov (Operand.tmp 1)) none, AOper.mk (some 27) (AOp.call 26
  [Operand.tmp 25, Operand.tmp 26]) none, AOper.mk (some 24) (AOp.mov (Operand.tmp 27)) none, AOper.mk (some 28) (AOp.ext (Operand.tmp 24) 0) none,
  AOper.mk (some 29) (AOp.ext (Operand.tmp 24) 1) none, AOper.mk (some 7) (AOp.mov (Operand.tmp 28)) none, AOper.mk (some 8) (AOp.mov (Operand.tmp 29))
  none]) (AC.seq (AC.seq (AC.ops [AOper.mk (some 30) (AOp.mov (Operand.tmp 5)) none, AOper.mk (some 31) (AOp.mov (Operand.tmp 7)) none, AOper.mk (some
  32) (AOp.call 27 [Operand.tmp 30, Operand.tmp 31]) none, AOper.mk (some 33) (AOp.un UnOp.not (Operand.tmp 32)) none, AOper.mk (some 34) (AOp.mov
  (Operand.tmp 33)) none, AOper.mk (some 35) (AOp.mov (Operand.tmp 6)) (some (34, false)), AOper.mk (some 36) (AOp.mov (Operand.tmp 8)) (some (34,
  false)), AOper.mk (some 37) (AOp.bin false BinOp.neq (Operand.tmp 35) (Operand.tmp 36)) (some (34, false)), AOper.mk (some 38) (AOp.pick (Operand.tmp
  34) (Operand.const (Value.bool true)) (Operand.tmp 37)) none]) (AC.cond (Operand.tmp 38) (AC.seq (AC.ops [AOper.mk (some 4) (AOp.mov (Operand.const
  (Value.bool false))) none]) AC.ret) AC.skip)) (AC.seq (AC.seq (AC.ops [AOper.mk (some 39) (AOp.mov (Operand.tmp 6)) none, AOper.mk (some 40) (AOp.bin
  false BinOp.neq (Operand.tmp 39) (Operand.const (Value.int IntKind.i64 0))) none, AOper.mk (some 41) (AOp.mov (Operand.tmp 40)) none, AOper.mk (some
  42) (AOp.mov (Operand.tmp 1)) (some (41, false)), AOper.mk (some 43) (AOp.call 28 [Operand.tmp 42]) (some (41, false)), AOper.mk (some 44) (AOp.un
  UnOp.not (Operand.tmp 43)) (some (41, false)), AOper.mk (some 45) (AOp.pick (Operand.tmp 41) (Operand.const (Value.bool true)) (Operand.tmp 44)) none])
  (AC.cond (Operand.tmp 45) (AC.seq (AC.ops [AOper.mk (some 46) (AOp.call 13 []) none, AOper.mk (some 4) (AOp.mov (Operand.tmp 46)) none]) AC.ret)
  AC.skip)) (AC.seq (AC.ops [AOper.mk (some 48) (AOp.load true 2 (Operand.tmp 2)) none, AOper.mk (some 49) (AOp.mov (Operand.tmp 1)) none, AOper.mk (some
  50) (AOp.call 14 [Operand.tmp 48, Operand.tmp 49]) none, AOper.mk (some 47) (AOp.mov (Operand.tmp 50)) none, AOper.mk (some 51) (AOp.ext (Operand.tmp
  47) 0) none, AOper.mk (some 52) (AOp.ext (Operand.tmp 47) 1) none, AOper.mk (some 9) (AOp.mov (Operand.tmp 51)) none, AOper.mk (some 6) (AOp.mov
  (Operand.tmp 52)) none]) (AC.seq (AC.seq (AC.ops [AOper.mk (some 53) (AOp.mov (Operand.tmp 6)) none, AOper.mk (some 54) (AOp.bin false BinOp.neq
  (Operand.tmp 53) (Operand.const (Value.int IntKind.i64 0))) none]) (AC.cond (Operand.tmp 54) (AC.seq (AC.ops [AOper.mk (some 4) (AOp.mov (Operand.const
  (Value.bool false))) none]) AC.ret) AC.skip)) (AC.seq (AC.ops [AOper.mk (some 55) (AOp.fadr 0 (Operand.tmp 2)) none, AOper.mk (some 56) (AOp.load false
  1 (Operand.tmp 55)) none, AOper.mk (some 57) (AOp.mk 3 1 (PV.v (Value.int IntKind.i64 0)) (Operand.tmp 56) (Operand.tmp 56)) none, AOper.mk (some 10)
  (AOp.mov (Operand.tmp 57)) none]) (AC.seq (AC.seq (AC.ops [AOper.mk (some 58) (AOp.mov (Operand.tmp 5)) none, AOper.mk (some 59) (AOp.len (Operand.tmp
  58)) none, AOper.mk (some 60) (AOp.mov (Operand.const (Value.int IntKind.i64 0))) none]) (AC.block 0 (AC.loop (AC.seq (AC.ops [AOper.mk (some 61)
  (AOp.bin false BinOp.lss (Operand.tmp 60) (Operand.tmp 59)) none]) (AC.seq (AC.cond (Operand.tmp 61) AC.skip (AC.exit 0)) (AC.seq (AC.block 1 (AC.seq
  (AC.ops [AOper.mk (some 62) (AOp.iadr 1 (Operand.tmp 58) (Operand.tmp 60)) none, AOper.mk (some 63) (AOp.load false 1 (Operand.tmp 62)) none, AOper.mk
  (some 12) (AOp.mov (Operand.tmp 63)) none]) (AC.seq (AC.ops [AOper.mk (some 65) (AOp.load true 2 (Operand.tmp 2)) none, AOper.mk (some 66) (AOp.mov
  (Operand.tmp 10)) none, AOper.mk (some 67) (AOp.mov (Operand.tmp 12)) none, AOper.mk (some 68) (AOp.call 23 [Operand.tmp 65, Operand.tmp 66,
  Operand.tmp 67]) none, AOper.mk (some 64) (AOp.mov (Operand.tmp 68)) none, AOper.mk (some 69) (AOp.ext (Operand.tmp 64) 0) none, AOper.mk (some 70)
  (AOp.ext (Operand.tmp 64) 1) none, AOper.mk (some 10) (AOp.mov (Operand.tmp 69)) none, AOper.mk (some 6) (AOp.mov (Operand.tmp 70)) none]) (AC.seq
  (AC.ops [AOper.mk (some 71) (AOp.mov (Operand.tmp 6)) none, AOper.mk (some 72) (AOp.bin false BinOp.neq (Operand.tmp 71) (Operand.const (Value.int
  IntKind.i64 0))) none]) (AC.cond (Operand.tmp 72) (AC.seq (AC.ops [AOper.mk (some 4) (AOp.mov (Operand.const (Value.bool false))) none]) AC.ret)
  AC.skip))))) (AC.ops [AOper.mk (some 73) (AOp.bin false BinOp.add (Operand.tmp 60) (Operand.const (Value.int IntKind.i64 1))) none, AOper.mk (some 60)
  (AOp.mov (Operand.tmp 73)) none]))))))) (AC.seq (AC.ops [AOper.mk (some 74) (AOp.mov (Operand.tmp 10)) none, AOper.mk (some 75) (AOp.mov (Operand.tmp
  9)) none, AOper.mk (some 76) (AOp.call 18 [Operand.tmp 74, Operand.tmp 75]) none, AOper.mk (some 77) (AOp.mov (Operand.tmp 76)) none, AOper.mk (some
  78) (AOp.call 13 []) (some (77, true)), AOper.mk (some 79) (AOp.pick (Operand.tmp 77) (Operand.tmp 78) (Operand.const (Value.bool false))) none,
  AOper.mk (some 4) (AOp.mov (Operand.tmp 79)) none]) AC.ret))))))))))) [ARes.tmp 4]
theorem cfn5 : cfn Try.prog 5 2 = some c5 := by kernel_rfl
def c6 : AFn :=
  AFn.mk 140 (AC.seq (AC.ops [AOper.mk (some 3) (AOp.box 24 (Operand.tmp 0)) none, AOper.mk (some 6) (AOp.mov (Operand.const (Value.bool false))) none])
  (AC.seq (AC.seq (AC.ops [AOper.mk (some 23) (AOp.load true 2 (Operand.tmp 3)) none, AOper.mk (some 24) (AOp.mov (Operand.tmp 1)) none, AOper.mk (some
  25) (AOp.call 29 [Operand.tmp 23, Operand.tmp 24]) none, AOper.mk (some 26) (AOp.un UnOp.not (Operand.tmp 25)) none, AOper.mk (some 27) (AOp.mov
  (Operand.tmp 26)) none, AOper.mk (some 28) (AOp.mov (Operand.tmp 2)) (some (27, false)), AOper.mk (some 29) (AOp.len (Operand.tmp 28)) (some (27,
  false)), AOper.mk (some 30) (AOp.bin false BinOp.gtr (Operand.tmp 29) (Operand.const (Value.int IntKind.i64 20))) (some (27, false)), AOper.mk (some
  31) (AOp.pick (Operand.tmp 27) (Operand.const (Value.bool true)) (Operand.tmp 30)) none, AOper.mk (some 32) (AOp.mov (Operand.tmp 31)) none, AOper.mk
  (some 33) (AOp.load true 2 (Operand.tmp 3)) (some (32, false)), AOper.mk (some 34) (AOp.mov (Operand.tmp 2)) (some (32, false)), AOper.mk (some 35)
  (AOp.call 30 [Operand.tmp 33, Operand.tmp 34]) (some (32, false)), AOper.mk (some 36) (AOp.bin false BinOp.neq (Operand.tmp 35) (Operand.const
  (Value.int IntKind.i64 0))) (some (32, false)), AOper.mk (some 37) (AOp.pick (Operand.tmp 32) (Operand.const (Value.bool true)) (Operand.tmp 36))
  none]) (AC.cond (Operand.tmp 37) (AC.seq (AC.ops [AOper.mk (some 38) (AOp.call 13 []) none, AOper.mk (some 6) (AOp.mov (Operand.tmp 38)) none]) AC.ret)
  AC.skip)) (AC.seq (AC.seq (AC.ops [AOper.mk (some 39) (AOp.mov (Operand.tmp 2)) none, AOper.mk (some 40) (AOp.len (Operand.tmp 39)) none, AOper.mk
  (some 41) (AOp.mov (Operand.const (Value.int IntKind.i64 0))) none]) (AC.block 0 (AC.loop (AC.seq (AC.ops [AOper.mk (some 42) (AOp.bin false BinOp.lss
  (Operand.tmp 41) (Operand.tmp 40)) none]) (AC.seq (AC.cond (Operand.tmp 42) AC.skip (AC.exit 0)) (AC.seq (AC.block 1 (AC.seq (AC.ops [AOper.mk (some
  43) (AOp.iadr 1 (Operand.tmp 39) (Operand.tmp 41)) none, AOper.mk (some 44) (AOp.load false 1 (Operand.tmp 43)) none, AOper.mk (some 8) (AOp.mov
  (Operand.tmp 44)) none]) (AC.seq (AC.ops [AOper.mk (some 46) (AOp.load true 2 (Operand.tmp 3)) none, AOper.mk (some 47) (AOp.mov (Operand.tmp 1)) none,
  AOper.mk (some 48) (AOp.mov (Operand.tmp 8)) none, AOper.mk (some 49) (AOp.call 19 [Operand.tmp 46, Operand.tmp 47, Operand.tmp 48]) none, AOper.mk
  (some 45) (AOp.mov (Operand.tmp 49)) none, AOper.mk (some 50) (AOp.ext (Operand.tmp 45) 0) none, AOper.mk (some 51) (AOp.ext (Operand.tmp 45) 1) none,
  AOper.mk (some 9) (AOp.mov (Operand.tmp 50)) none, AOper.mk (some 10) (AOp.mov (Operand.tmp 51)) none]) (AC.seq (AC.ops [AOper.mk (some 53) (AOp.load
  true 2 (Operand.tmp 3)) none, AOper.mk (some 54) (AOp.mov (Operand.tmp 9)) none, AOper.mk (some 55) (AOp.mov (Operand.tmp 8)) none, AOper.mk (some 56)
  (AOp.call 21 [Operand.tmp 53, Operand.tmp 54, Operand.tmp 55]) none, AOper.mk (some 52) (AOp.mov (Operand.tmp 56)) none, AOper.mk (some 57) (AOp.ext
  (Operand.tmp 52) 0) none, AOper.mk (some 58) (AOp.ext (Operand.tmp 52) 1) none, AOper.mk (some 11) (AOp.mov (Operand.tmp 57)) none, AOper.mk (some 12)
  (AOp.mov (Operand.tmp 58)) none]) (AC.seq (AC.ops [AOper.mk (some 59) (AOp.mov (Operand.tmp 10)) none, AOper.mk (some 60) (AOp.mov (Operand.tmp 12))
  none, AOper.mk (some 61) (AOp.bin false BinOp.add (Operand.tmp 59) (Operand.tmp 60)) none, AOper.mk (some 62) (AOp.bin false BinOp.neq (Operand.tmp 61)
  (Operand.const (Value.int IntKind.i64 0))) none, AOper.mk (some 63) (AOp.mov (Operand.tmp 62)) none, AOper.mk (some 64) (AOp.mov (Operand.tmp 11))
  (some (63, false)), AOper.mk (some 65) (AOp.mov (Operand.tmp 1)) (some (63, false)), AOper.mk (some 66) (AOp.call 18 [Operand.tmp 64, Operand.tmp 65])
  (some (63, false)), AOper.mk (some 67) (AOp.un UnOp.not (Operand.tmp 66)) (some (63, false)), AOper.mk (some 68) (AOp.pick (Operand.tmp 63)
  (Operand.const (Value.bool true)) (Operand.tmp 67)) none]) (AC.cond (Operand.tmp 68) (AC.seq (AC.ops [AOper.mk (some 6) (AOp.mov (Operand.const
  (Value.bool false))) none]) AC.ret) AC.skip)))))) (AC.ops [AOper.mk (some 69) (AOp.bin false BinOp.add (Operand.tmp 41) (Operand.const (Value.int
  IntKind.i64 1))) none, AOper.mk (some 41) (AOp.mov (Operand.tmp 69)) none]))))))) (AC.seq (AC.ops [AOper.mk (some 13) (AOp.mov (Operand.const
  (Value.slice none 0 0))) none]) (AC.seq (AC.seq (AC.ops [AOper.mk (some 70) (AOp.fadr 0 (Operand.tmp 3)) none, AOper.mk (some 71) (AOp.load false 1
  (Operand.tmp 70)) none, AOper.mk (some 72) (AOp.mov (Operand.const (Value.int IntKind.i64 0))) none]) (AC.block 2 (AC.loop (AC.seq (AC.ops [AOper.mk
  (some 73) (AOp.bin false BinOp.lss (Operand.tmp 72) (Operand.tmp 71)) none]) (AC.seq (AC.cond (Operand.tmp 73) AC.skip (AC.exit 2)) (AC.seq (AC.block 3
  (AC.seq (AC.ops [AOper.mk (some 74) (AOp.mov (Operand.tmp 72)) none, AOper.mk (some 14) (AOp.mov (Operand.tmp 74)) none]) (AC.seq (AC.ops [AOper.mk
  (some 75) (AOp.mov (Operand.tmp 2)) none, AOper.mk (some 76) (AOp.mov (Operand.tmp 14)) none, AOper.mk (some 77) (AOp.call 31 [Operand.tmp 75,
  Operand.tmp 76]) none, AOper.mk (some 78) (AOp.un UnOp.not (Operand.tmp 77)) none]) (AC.cond (Operand.tmp 78) (AC.ops [AOper.mk (some 79) (AOp.mov
  (Operand.tmp 13)) none, AOper.mk (some 80) (AOp.mov (Operand.tmp 14)) none, AOper.mk (some 81) (AOp.bsl 3 1 [Operand.tmp 80]) none, AOper.mk (some 82)
  (AOp.app 3 1 (Operand.tmp 79) (Operand.tmp 81)) none, AOper.mk (some 13) (AOp.mov (Operand.tmp 82)) none]) AC.skip)))) (AC.ops [AOper.mk (some 83)
  (AOp.bin false BinOp.add (Operand.tmp 72) (Operand.const (Value.int IntKind.i64 1))) none, AOper.mk (some 72) (AOp.mov (Operand.tmp 83)) none])))))))
  (AC.seq (AC.ops [AOper.mk (some 85) (AOp.load true 2 (Operand.tmp 3)) none, AOper.mk (some 86) (AOp.mov (Operand.tmp 1)) none, AOper.mk (some 87)
  (AOp.mov (Operand.tmp 2)) none, AOper.mk (some 88) (AOp.call 23 [Operand.tmp 85, Operand.tmp 86, Operand.tmp 87]) none, AOper.mk (some 84) (AOp.mov
  (Operand.tmp 88)) none, AOper.mk (some 89) (AOp.ext (Operand.tmp 84) 0) none, AOper.mk (some 90) (AOp.ext (Operand.tmp 84) 1) none, AOper.mk (some 15)
  (AOp.mov (Operand.tmp 89)) none, AOper.mk (some 16) (AOp.mov (Operand.tmp 90)) none]) (AC.seq (AC.ops [AOper.mk (some 92) (AOp.load true 2 (Operand.tmp
  3)) none, AOper.mk (some 93) (AOp.mov (Operand.tmp 15)) none, AOper.mk (some 94) (AOp.mov (Operand.tmp 13)) none, AOper.mk (some 95) (AOp.call 23
  [Operand.tmp 92, Operand.tmp 93, Operand.tmp 94]) none, AOper.mk (some 91) (AOp.mov (Operand.tmp 95)) none, AOper.mk (some 96) (AOp.ext (Operand.tmp
  91) 0) none, AOper.mk (some 97) (AOp.ext (Operand.tmp 91) 1) none, AOper.mk (some 17) (AOp.mov (Operand.tmp 96)) none, AOper.mk (some 18) (AOp.mov
  (Operand.tmp 97)) none]) (AC.seq (AC.ops [AOper.mk (some 99) (AOp.load true 2 (Operand.tmp 3)) none, AOper.mk (some 100) (AOp.mov (Operand.tmp 1))
  none, AOper.mk (some 101) (AOp.mov (Operand.tmp 2)) none, AOper.mk (some 102) (AOp.call 32 [Operand.tmp 99, Operand.tmp 100, Operand.tmp 101]) none,
  AOper.mk (some 98) (AOp.mov (Operand.tmp 102)) none, AOper.mk (some 103) (AOp.ext (Operand.tmp 98) 0) none, AOper.mk (some 104) (AOp.ext (Operand.tmp
  98) 1) none, AOper.mk (some 19) (AOp.mov (Operand.tmp 103)) none, AOper.mk (some 20) (AOp.mov (Operand.tmp 104)) none]) (AC.seq (AC.seq (AC.ops
  [AOper.mk (some 105) (AOp.mov (Operand.tmp 16)) none, AOper.mk (some 106) (AOp.mov (Operand.tmp 18)) none, AOper.mk (some 107) (AOp.bin false BinOp.add
  (Operand.tmp 105) (Operand.tmp 106)) none, AOper.mk (some 108) (AOp.mov (Operand.tmp 20)) none, AOper.mk (some 109) (AOp.bin false BinOp.add
  (Operand.tmp 107) (Operand.tmp 108)) none, AOper.mk (some 110) (AOp.bin false BinOp.neq (Operand.tmp 109) (Operand.const (Value.int IntKind.i64 0)))
  none, AOper.mk (some 111) (AOp.mov (Operand.tmp 110)) none, AOper.mk (some 112) (AOp.mov (Operand.tmp 17)) (some (111, false)), AOper.mk (some 113)
  (AOp.mov (Operand.tmp 1)) (some (111, false)), AOper.mk (some 114) (AOp.call 18 [Operand.tmp 112, Operand.tmp 113]) (some (111, false)), AOper.mk (some
  115) (AOp.un UnOp.not (Operand.tmp 114)) (some (111, false)), AOper.mk (some 116) (AOp.pick (Operand.tmp 111) (Operand.const (Value.bool true))
  (Operand.tmp 115)) none, AOper.mk (some 117) (AOp.mov (Operand.tmp 116)) none, AOper.mk (some 118) (AOp.mov (Operand.tmp 15)) (some (117, false)),
  AOper.mk (some 119) (AOp.len (Operand.tmp 118)) (some (117, false)), AOper.mk (some 120) (AOp.fadr 0 (Operand.tmp 3)) (some (117, false)), AOper.mk
  (some 121) (AOp.load false 1 (Operand.tmp 120)) (some (117, false)), AOper.mk (some 122) (AOp.bin false BinOp.neq (Operand.tmp 119) (Operand.tmp 121))
  (some (117, false)), AOper.mk (some 123) (AOp.pick (Operand.tmp 117) (Operand.const (Value.bool true)) (Operand.tmp 122)) none]) (AC.cond (Operand.tmp
  123) (AC.seq (AC.ops [AOper.mk (some 6) (AOp.mov (Operand.const (Value.bool false))) none]) AC.ret) AC.skip)) (AC.seq (AC.seq (AC.ops [AOper.mk (some
  124) (AOp.mov (Operand.tmp 2)) none, AOper.mk (some 125) (AOp.len (Operand.tmp 124)) none, AOper.mk (some 126) (AOp.mov (Operand.const (Value.int
  IntKind.i64 0))) none]) (AC.block 4 (AC.loop (AC.seq (AC.ops [AOper.mk (some 127) (AOp.bin false BinOp.lss (Operand.tmp 126) (Operand.tmp 125)) none])
  (AC.seq (AC.cond (Operand.tmp 127) AC.skip (AC.exit 4)) (AC.seq (AC.block 5 (AC.seq (AC.ops [AOper.mk (some 128) (AOp.iadr 1 (Operand.tmp 124)
  (Operand.tmp 126)) none, AOper.mk (some 129) (AOp.load false 1 (Operand.tmp 128)) none, AOper.mk (some 22) (AOp.mov (Operand.tmp 129)) none]) (AC.seq
  (AC.ops [AOper.mk (some 130) (AOp.mov (Operand.tmp 19)) none, AOper.mk (some 131) (AOp.mov (Operand.tmp 130)) none, AOper.mk (some 132) (AOp.mov
  (Operand.tmp 15)) (some (131, true)), AOper.mk (some 133) (AOp.mov (Operand.tmp 22)) (some (131, true)), AOper.mk (some 134) (AOp.iadr 1 (Operand.tmp
  132) (Operand.tmp 133)) (some (131, true)), AOper.mk (some 135) (AOp.load false 1 (Operand.tmp 134)) (some (131, true)), AOper.mk (some 136) (AOp.bin
  false BinOp.lss (Operand.tmp 135) (Operand.const (Value.int IntKind.i64 0))) (some (131, true)), AOper.mk (some 137) (AOp.pick (Operand.tmp 131)
  (Operand.tmp 136) (Operand.const (Value.bool false))) none]) (AC.cond (Operand.tmp 137) (AC.seq (AC.ops [AOper.mk (some 6) (AOp.mov (Operand.const
  (Value.bool false))) none]) AC.ret) AC.skip)))) (AC.ops [AOper.mk (some 138) (AOp.bin false BinOp.add (Operand.tmp 126) (Operand.const (Value.int
  IntKind.i64 1))) none, AOper.mk (some 126) (AOp.mov (Operand.tmp 138)) none]))))))) (AC.seq (AC.ops [AOper.mk (some 139) (AOp.call 13 []) none,
  AOper.mk (some 6) (AOp.mov (Operand.tmp 139)) none]) AC.ret))))))))))) [ARes.tmp 6]
theorem cfn6 : cfn Try.prog 6 3 = some c6 := by kernel_rfl
def c7 : AFn :=
  AFn.mk 83 (AC.seq (AC.ops [AOper.mk (some 3) (AOp.box 24 (Operand.tmp 0)) none, AOper.mk (some 6) (AOp.mov (Operand.const (Value.bool false))) none])
  (AC.seq (AC.seq (AC.ops [AOper.mk (some 16) (AOp.load true 2 (Operand.tmp 3)) none, AOper.mk (some 17) (AOp.mov (Operand.tmp 1)) none, AOper.mk (some
  18) (AOp.call 12 [Operand.tmp 16, Operand.tmp 17]) none, AOper.mk (some 19) (AOp.un UnOp.not (Operand.tmp 18)) none, AOper.mk (some 20) (AOp.mov
  (Operand.tmp 19)) none, AOper.mk (some 21) (AOp.mov (Operand.tmp 2)) (some (20, false)), AOper.mk (some 22) (AOp.len (Operand.tmp 21)) (some (20,
  false)), AOper.mk (some 23) (AOp.bin false BinOp.gtr (Operand.tmp 22) (Operand.const (Value.int IntKind.i64 20))) (some (20, false)), AOper.mk (some
  24) (AOp.pick (Operand.tmp 20) (Operand.const (Value.bool true)) (Operand.tmp 23)) none]) (AC.cond (Operand.tmp 24) (AC.seq (AC.ops [AOper.mk (some 25)
  (AOp.call 13 []) none, AOper.mk (some 6) (AOp.mov (Operand.tmp 25)) none]) AC.ret) AC.skip)) (AC.seq (AC.ops [AOper.mk (some 26) (AOp.fadr 0
  (Operand.tmp 3)) none, AOper.mk (some 27) (AOp.load false 1 (Operand.tmp 26)) none, AOper.mk (some 7) (AOp.mov (Operand.tmp 27)) none]) (AC.seq (AC.seq
  (AC.ops [AOper.mk (some 28) (AOp.mov (Operand.tmp 2)) none, AOper.mk (some 29) (AOp.len (Operand.tmp 28)) none, AOper.mk (some 30) (AOp.bin false
  BinOp.gtr (Operand.tmp 29) (Operand.const (Value.int IntKind.i64 0))) none]) (AC.cond (Operand.tmp 30) (AC.ops [AOper.mk (some 31) (AOp.mov
  (Operand.tmp 2)) none, AOper.mk (some 32) (AOp.iadr 1 (Operand.tmp 31) (Operand.const (Value.int IntKind.i64 0))) none, AOper.mk (some 33) (AOp.load
  false 1 (Operand.tmp 32)) none, AOper.mk (some 7) (AOp.mov (Operand.tmp 33)) none]) AC.skip)) (AC.seq (AC.ops [AOper.mk (some 35) (AOp.load true 2
  (Operand.tmp 3)) none, AOper.mk (some 36) (AOp.mov (Operand.tmp 1)) none, AOper.mk (some 37) (AOp.mov (Operand.tmp 7)) none, AOper.mk (some 38)
  (AOp.call 33 [Operand.tmp 35, Operand.tmp 36, Operand.tmp 37]) none, AOper.mk (some 34) (AOp.mov (Operand.tmp 38)) none, AOper.mk (some 39) (AOp.ext
  (Operand.tmp 34) 0) none, AOper.mk (some 40) (AOp.ext (Operand.tmp 34) 1) none, AOper.mk (some 8) (AOp.mov (Operand.tmp 39)) none, AOper.mk (some 9)
  (AOp.mov (Operand.tmp 40)) none]) (AC.seq (AC.ops [AOper.mk (some 42) (AOp.load true 2 (Operand.tmp 3)) none, AOper.mk (some 43) (AOp.mov (Operand.tmp
  1)) none, AOper.mk (some 44) (AOp.mov (Operand.tmp 7)) none, AOper.mk (some 45) (AOp.call 34 [Operand.tmp 42, Operand.tmp 43, Operand.tmp 44]) none,
  AOper.mk (some 41) (AOp.mov (Operand.tmp 45)) none, AOper.mk (some 46) (AOp.ext (Operand.tmp 41) 0) none, AOper.mk (some 47) (AOp.ext (Operand.tmp 41)
  1) none, AOper.mk (some 10) (AOp.mov (Operand.tmp 46)) none, AOper.mk (some 11) (AOp.mov (Operand.tmp 47)) none]) (AC.seq (AC.ops [AOper.mk (some 49)
  (AOp.load true 2 (Operand.tmp 3)) none, AOper.mk (some 50) (AOp.mov (Operand.tmp 1)) none, AOper.mk (some 51) (AOp.mov (Operand.tmp 2)) none, AOper.mk
  (some 52) (AOp.call 32 [Operand.tmp 49, Operand.tmp 50, Operand.tmp 51]) none, AOper.mk (some 48) (AOp.mov (Operand.tmp 52)) none, AOper.mk (some 53)
  (AOp.ext (Operand.tmp 48) 0) none, AOper.mk (some 54) (AOp.ext (Operand.tmp 48) 1) none, AOper.mk (some 12) (AOp.mov (Operand.tmp 53)) none, AOper.mk
  (some 13) (AOp.mov (Operand.tmp 54)) none]) (AC.seq (AC.ops [AOper.mk (some 56) (AOp.load true 2 (Operand.tmp 3)) none, AOper.mk (some 57) (AOp.mov
  (Operand.tmp 1)) none, AOper.mk (some 58) (AOp.mov (Operand.tmp 2)) none, AOper.mk (some 59) (AOp.call 35 [Operand.tmp 56, Operand.tmp 57, Operand.tmp
  58]) none, AOper.mk (some 55) (AOp.mov (Operand.tmp 59)) none, AOper.mk (some 60) (AOp.ext (Operand.tmp 55) 0) none, AOper.mk (some 61) (AOp.ext
  (Operand.tmp 55) 1) none, AOper.mk (some 14) (AOp.mov (Operand.tmp 60)) none, AOper.mk (some 15) (AOp.mov (Operand.tmp 61)) none]) (AC.seq (AC.ops
  [AOper.mk (some 62) (AOp.mov (Operand.tmp 8)) none, AOper.mk (some 63) (AOp.mov (Operand.tmp 10)) none, AOper.mk (some 64) (AOp.bin true BinOp.eql
  (Operand.tmp 62) (Operand.tmp 63)) none, AOper.mk (some 65) (AOp.mov (Operand.tmp 64)) none, AOper.mk (some 66) (AOp.mov (Operand.tmp 9)) (some (65,
  true)), AOper.mk (some 67) (AOp.mov (Operand.tmp 11)) (some (65, true)), AOper.mk (some 68) (AOp.bin false BinOp.eql (Operand.tmp 66) (Operand.tmp 67))
  (some (65, true)), AOper.mk (some 69) (AOp.pick (Operand.tmp 65) (Operand.tmp 68) (Operand.const (Value.bool false))) none, AOper.mk (some 70) (AOp.mov
  (Operand.tmp 69)) none, AOper.mk (some 71) (AOp.mov (Operand.tmp 12)) (some (70, true)), AOper.mk (some 72) (AOp.mov (Operand.tmp 14)) (some (70,
  true)), AOper.mk (some 73) (AOp.bin true BinOp.eql (Operand.tmp 71) (Operand.tmp 72)) (some (70, true)), AOper.mk (some 74) (AOp.pick (Operand.tmp 70)
  (Operand.tmp 73) (Operand.const (Value.bool false))) none, AOper.mk (some 75) (AOp.mov (Operand.tmp 74)) none, AOper.mk (some 76) (AOp.mov (Operand.tmp
  13)) (some (75, true)), AOper.mk (some 77) (AOp.mov (Operand.tmp 15)) (some (75, true)), AOper.mk (some 78) (AOp.bin false BinOp.eql (Operand.tmp 76)
  (Operand.tmp 77)) (some (75, true)), AOper.mk (some 79) (AOp.pick (Operand.tmp 75) (Operand.tmp 78) (Operand.const (Value.bool false))) none, AOper.mk
  (some 80) (AOp.mov (Operand.tmp 79)) none, AOper.mk (some 81) (AOp.call 13 []) (some (80, true)), AOper.mk (some 82) (AOp.pick (Operand.tmp 80)
  (Operand.tmp 81) (Operand.const (Value.bool false))) none, AOper.mk (some 6) (AOp.mov (Operand.tmp 82)) none]) AC.ret))))))))) [ARes.tmp 6]
theorem cfn7 : cfn Try.prog 7 3 = some c7 := by kernel_rfl
def c8 : AFn :=
  AFn.mk 46 (AC.seq (AC.ops [AOper.mk (some 3) (AOp.box 24 (Operand.tmp 0)) none, AOper.mk (some 6) (AOp.mov (Operand.const (Value.bool false))) none])
  (AC.seq (AC.seq (AC.ops [AOper.mk (some 11) (AOp.load true 2 (Operand.tmp 3)) none, AOper.mk (some 12) (AOp.mov (Operand.tmp 1)) none, AOper.mk (some
  13) (AOp.call 12 [Operand.tmp 11, Operand.tmp 12]) none, AOper.mk (some 14) (AOp.un UnOp.not (Operand.tmp 13)) none, AOper.mk (some 15) (AOp.mov
  (Operand.tmp 14)) none, AOper.mk (some 16) (AOp.mov (Operand.tmp 2)) (some (15, false)), AOper.mk (some 17) (AOp.call 36 [Operand.tmp 16]) (some (15,
  false)), AOper.mk (some 18) (AOp.un UnOp.not (Operand.tmp 17)) (some (15, false)), AOper.mk (some 19) (AOp.pick (Operand.tmp 15) (Operand.const
  (Value.bool true)) (Operand.tmp 18)) none]) (AC.cond (Operand.tmp 19) (AC.seq (AC.ops [AOper.mk (some 20) (AOp.call 13 []) none, AOper.mk (some 6)
  (AOp.mov (Operand.tmp 20)) none]) AC.ret) AC.skip)) (AC.seq (AC.ops [AOper.mk (some 22) (AOp.load true 2 (Operand.tmp 3)) none, AOper.mk (some 23)
  (AOp.mov (Operand.tmp 1)) none, AOper.mk (some 24) (AOp.mov (Operand.tmp 2)) none, AOper.mk (some 25) (AOp.call 37 [Operand.tmp 22, Operand.tmp 23,
  Operand.tmp 24]) none, AOper.mk (some 21) (AOp.mov (Operand.tmp 25)) none, AOper.mk (some 26) (AOp.ext (Operand.tmp 21) 0) none, AOper.mk (some 27)
  (AOp.ext (Operand.tmp 21) 1) none, AOper.mk (some 7) (AOp.mov (Operand.tmp 26)) none, AOper.mk (some 8) (AOp.mov (Operand.tmp 27)) none]) (AC.seq
  (AC.ops [AOper.mk (some 29) (AOp.load true 2 (Operand.tmp 3)) none, AOper.mk (some 30) (AOp.mov (Operand.tmp 1)) none, AOper.mk (some 31) (AOp.mov
  (Operand.tmp 2)) none, AOper.mk (some 32) (AOp.call 38 [Operand.tmp 29, Operand.tmp 30, Operand.tmp 31]) none, AOper.mk (some 28) (AOp.mov (Operand.tmp
  32)) none, AOper.mk (some 33) (AOp.ext (Operand.tmp 28) 0) none, AOper.mk (some 34) (AOp.ext (Operand.tmp 28) 1) none, AOper.mk (some 9) (AOp.mov
  (Operand.tmp 33)) none, AOper.mk (some 10) (AOp.mov (Operand.tmp 34)) none]) (AC.seq (AC.ops [AOper.mk (some 35) (AOp.mov (Operand.tmp 7)) none,
  AOper.mk (some 36) (AOp.mov (Operand.tmp 9)) none, AOper.mk (some 37) (AOp.call 18 [Operand.tmp 35, Operand.tmp 36]) none, AOper.mk (some 38) (AOp.mov
  (Operand.tmp 37)) none, AOper.mk (some 39) (AOp.mov (Operand.tmp 8)) (some (38, true)), AOper.mk (some 40) (AOp.mov (Operand.tmp 10)) (some (38,
  true)), AOper.mk (some 41) (AOp.bin false BinOp.eql (Operand.tmp 39) (Operand.tmp 40)) (some (38, true)), AOper.mk (some 42) (AOp.pick (Operand.tmp 38)
  (Operand.tmp 41) (Operand.const (Value.bool false))) none, AOper.mk (some 43) (AOp.mov (Operand.tmp 42)) none, AOper.mk (some 44) (AOp.call 13 [])
  (some (43, true)), AOper.mk (some 45) (AOp.pick (Operand.tmp 43) (Operand.tmp 44) (Operand.const (Value.bool false))) none, AOper.mk (some 6) (AOp.mov
  (Operand.tmp 45)) none]) AC.ret))))) [ARes.tmp 6]
theorem cfn8 : cfn Try.prog 8 3 = some c8 := by kernel_rfl
def c9 : AFn :=
  AFn.mk 128 (AC.seq (AC.ops [AOper.mk (some 3) (AOp.box 24 (Operand.tmp 0)) none, AOper.mk (some 5) (AOp.box 62 (Operand.tmp 2)) none, AOper.mk (some 6)
  (AOp.mov (Operand.const (Value.bool false))) none]) (AC.seq (AC.segs [([AOper.mk (some 21) (AOp.iadrA 2 1 (Operand.tmp 5) (Operand.const (Value.int
  IntKind.i64 0))) none, AOper.mk (some 22) (AOp.load false 1 (Operand.tmp 21)) none, AOper.mk (some 23) (AOp.iadrA 2 1 (Operand.tmp 5) (Operand.const
  (Value.int IntKind.i64 1))) none, AOper.mk (some 24) (AOp.load false 1 (Operand.tmp 23)) none, AOper.mk (some 7) (AOp.mov (Operand.tmp 22)) none,
  AOper.mk (some 8) (AOp.mov (Operand.tmp 24)) none], none)]) (AC.seq (AC.seq (AC.ops [AOper.mk (some 25) (AOp.load true 2 (Operand.tmp 3)) none,
  AOper.mk (some 26) (AOp.mov (Operand.tmp 1)) none, AOper.mk (some 27) (AOp.call 29 [Operand.tmp 25, Operand.tmp 26]) none, AOper.mk (some 28) (AOp.un
  UnOp.not (Operand.tmp 27)) none, AOper.mk (some 29) (AOp.mov (Operand.tmp 28)) none, AOper.mk (some 30) (AOp.load true 2 (Operand.tmp 3)) (some (29,
  false)), AOper.mk (some 31) (AOp.mov (Operand.tmp 7)) (some (29, false)), AOper.mk (some 32) (AOp.call 29 [Operand.tmp 30, Operand.tmp 31]) (some (29,
  false)), AOper.mk (some 33) (AOp.un UnOp.not (Operand.tmp 32)) (some (29, false)), AOper.mk (some 34) (AOp.pick (Operand.tmp 29) (Operand.const
  (Value.bool true)) (Operand.tmp 33)) none, AOper.mk (some 35) (AOp.mov (Operand.tmp 34)) none, AOper.mk (some 36) (AOp.load true 2 (Operand.tmp 3))
  (some (35, false)), AOper.mk (some 37) (AOp.mov (Operand.tmp 8)) (some (35, false)), AOper.mk (some 38) (AOp.call 29 [Operand.tmp 36, Operand.tmp 37])
  (some (35, false)), AOper.mk (some 39) (AOp.un UnOp.not (Operand.tmp 38)) (some (35, false)), AOper.mk (some 40) (AOp.pick (Operand.tmp 35)
  (Operand.const (Value.bool true)) (Operand.tmp 39)) none]) (AC.cond (Operand.tmp 40) (AC.seq (AC.ops [AOper.mk (some 41) (AOp.call 13 []) none,
  AOper.mk (some 6) (AOp.mov (Operand.tmp 41)) none]) AC.ret) AC.skip)) (AC.seq (AC.ops [AOper.mk (some 42) (AOp.fadr 0 (Operand.tmp 3)) none, AOper.mk
  (some 43) (AOp.load false 1 (Operand.tmp 42)) none, AOper.mk (some 44) (AOp.mk 3 1 (PV.v (Value.int IntKind.i64 0)) (Operand.tmp 43) (Operand.tmp 43))
  none, AOper.mk (some 9) (AOp.mov (Operand.tmp 44)) none]) (AC.seq (AC.seq (AC.ops [AOper.mk (some 45) (AOp.mov (Operand.tmp 9)) none, AOper.mk (some
  46) (AOp.len (Operand.tmp 45)) none, AOper.mk (some 47) (AOp.mov (Operand.const (Value.int IntKind.i64 0))) none]) (AC.block 0 (AC.loop (AC.seq (AC.ops
  [AOper.mk (some 48) (AOp.bin false BinOp.lss (Operand.tmp 47) (Operand.tmp 46)) none]) (AC.seq (AC.cond (Operand.tmp 48) AC.skip (AC.exit 0)) (AC.seq
  (AC.block 1 (AC.seq (AC.ops [AOper.mk (some 49) (AOp.mov (Operand.tmp 47)) none, AOper.mk (some 10) (AOp.mov (Operand.tmp 49)) none]) (AC.segs
  [([AOper.mk (some 50) (AOp.mov (Operand.tmp 9)) none, AOper.mk (some 51) (AOp.mov (Operand.tmp 10)) none, AOper.mk (some 52) (AOp.mov (Operand.tmp 7))
  none, AOper.mk (some 53) (AOp.mov (Operand.tmp 10)) none, AOper.mk (some 54) (AOp.iadr 1 (Operand.tmp 52) (Operand.tmp 53)) none, AOper.mk (some 55)
  (AOp.load false 1 (Operand.tmp 54)) none, AOper.mk (some 56) (AOp.mov (Operand.tmp 8)) none, AOper.mk (some 57) (AOp.mov (Operand.tmp 10)) none,
  AOper.mk (some 58) (AOp.iadr 1 (Operand.tmp 56) (Operand.tmp 57)) none, AOper.mk (some 59) (AOp.load false 1 (Operand.tmp 58)) none, AOper.mk (some 60)
  (AOp.bin false BinOp.add (Operand.tmp 55) (Operand.tmp 59)) none, AOper.mk (some 61) (AOp.iadr 1 (Operand.tmp 50) (Operand.tmp 51)) none], some (false,
  AOper.mk none (AOp.store 1 (Operand.tmp 61) (Operand.tmp 60)) none))]))) (AC.ops [AOper.mk (some 62) (AOp.bin false BinOp.add (Operand.tmp 47)
  (Operand.const (Value.int IntKind.i64 1))) none, AOper.mk (some 47) (AOp.mov (Operand.tmp 62)) none]))))))) (AC.seq (AC.ops [AOper.mk (some 64)
  (AOp.load true 2 (Operand.tmp 3)) none, AOper.mk (some 65) (AOp.mov (Operand.tmp 1)) none, AOper.mk (some 66) (AOp.mov (Operand.tmp 7)) none, AOper.mk
  (some 67) (AOp.call 37 [Operand.tmp 64, Operand.tmp 65, Operand.tmp 66]) none, AOper.mk (some 63) (AOp.mov (Operand.tmp 67)) none, AOper.mk (some 68)
  (AOp.ext (Operand.tmp 63) 0) none, AOper.mk (some 69) (AOp.ext (Operand.tmp 63) 1) none, AOper.mk (some 11) (AOp.mov (Operand.tmp 68)) none, AOper.mk
  (some 12) (AOp.mov (Operand.tmp 69)) none]) (AC.seq (AC.ops [AOper.mk (some 71) (AOp.load true 2 (Operand.tmp 3)) none, AOper.mk (some 72) (AOp.mov
  (Operand.tmp 11)) none, AOper.mk (some 73) (AOp.mov (Operand.tmp 8)) none, AOper.mk (some 74) (AOp.call 37 [Operand.tmp 71, Operand.tmp 72, Operand.tmp
  73]) none, AOper.mk (some 70) (AOp.mov (Operand.tmp 74)) none, AOper.mk (some 75) (AOp.ext (Operand.tmp 70) 0) none, AOper.mk (some 76) (AOp.ext
  (Operand.tmp 70) 1) none, AOper.mk (some 13) (AOp.mov (Operand.tmp 75)) none, AOper.mk (some 14) (AOp.mov (Operand.tmp 76)) none]) (AC.seq (AC.ops
  [AOper.mk (some 78) (AOp.load true 2 (Operand.tmp 3)) none, AOper.mk (some 79) (AOp.mov (Operand.tmp 1)) none, AOper.mk (some 80) (AOp.mov (Operand.tmp
  8)) none, AOper.mk (some 81) (AOp.call 37 [Operand.tmp 78, Operand.tmp 79, Operand.tmp 80]) none, AOper.mk (some 77) (AOp.mov (Operand.tmp 81)) none,
  AOper.mk (some 82) (AOp.ext (Operand.tmp 77) 0) none, AOper.mk (some 83) (AOp.ext (Operand.tmp 77) 1) none, AOper.mk (some 15) (AOp.mov (Operand.tmp
  82)) none, AOper.mk (some 16) (AOp.mov (Operand.tmp 83)) none]) (AC.seq (AC.ops [AOper.mk (some 85) (AOp.load true 2 (Operand.tmp 3)) none, AOper.mk
  (some 86) (AOp.mov (Operand.tmp 15)) none, AOper.mk (some 87) (AOp.mov (Operand.tmp 7)) none, AOper.mk (some 88) (AOp.call 37 [Operand.tmp 85,
  Operand.tmp 86, Operand.tmp 87]) none, AOper.mk (some 84) (AOp.mov (Operand.tmp 88)) none, AOper.mk (some 89) (AOp.ext (Operand.tmp 84) 0) none,
  AOper.mk (some 90) (AOp.ext (Operand.tmp 84) 1) none, AOper.mk (some 17) (AOp.mov (Operand.tmp 89)) none, AOper.mk (some 18) (AOp.mov (Operand.tmp 90))
  none]) (AC.seq (AC.ops [AOper.mk (some 92) (AOp.load true 2 (Operand.tmp 3)) none, AOper.mk (some 93) (AOp.mov (Operand.tmp 1)) none, AOper.mk (some
  94) (AOp.mov (Operand.tmp 9)) none, AOper.mk (some 95) (AOp.call 37 [Operand.tmp 92, Operand.tmp 93, Operand.tmp 94]) none, AOper.mk (some 91) (AOp.mov
  (Operand.tmp 95)) none, AOper.mk (some 96) (AOp.ext (Operand.tmp 91) 0) none, AOper.mk (some 97) (AOp.ext (Operand.tmp 91) 1) none, AOper.mk (some 19)
  (AOp.mov (Operand.tmp 96)) none, AOper.mk (some 20) (AOp.mov (Operand.tmp 97)) none]) (AC.seq (AC.ops [AOper.mk (some 98) (AOp.mov (Operand.tmp 12))
  none, AOper.mk (some 99) (AOp.mov (Operand.tmp 14)) none, AOper.mk (some 100) (AOp.bin false BinOp.add (Operand.tmp 98) (Operand.tmp 99)) none,
  AOper.mk (some 101) (AOp.mov (Operand.tmp 16)) none, AOper.mk (some 102) (AOp.bin false BinOp.add (Operand.tmp 100) (Operand.tmp 101)) none, AOper.mk
  (some 103) (AOp.mov (Operand.tmp 18)) none, AOper.mk (some 104) (AOp.bin false BinOp.add (Operand.tmp 102) (Operand.tmp 103)) none, AOper.mk (some 105)
  (AOp.mov (Operand.tmp 20)) none, AOper.mk (some 106) (AOp.bin false BinOp.add (Operand.tmp 104) (Operand.tmp 105)) none, AOper.mk (some 107) (AOp.bin
  false BinOp.eql (Operand.tmp 106) (Operand.const (Value.int IntKind.i64 0))) none, AOper.mk (some 108) (AOp.mov (Operand.tmp 107)) none, AOper.mk (some
  109) (AOp.mov (Operand.tmp 11)) (some (108, true)), AOper.mk (some 110) (AOp.call 39 [Operand.tmp 109]) (some (108, true)), AOper.mk (some 111)
  (AOp.mov (Operand.tmp 1)) (some (108, true)), AOper.mk (some 112) (AOp.call 39 [Operand.tmp 111]) (some (108, true)), AOper.mk (some 113) (AOp.bin
  false BinOp.eql (Operand.tmp 110) (Operand.tmp 112)) (some (108, true)), AOper.mk (some 114) (AOp.pick (Operand.tmp 108) (Operand.tmp 113)
  (Operand.const (Value.bool false))) none, AOper.mk (some 115) (AOp.mov (Operand.tmp 114)) none, AOper.mk (some 116) (AOp.mov (Operand.tmp 13)) (some
  (115, true)), AOper.mk (some 117) (AOp.mov (Operand.tmp 17)) (some (115, true)), AOper.mk (some 118) (AOp.call 18 [Operand.tmp 116, Operand.tmp 117])
  (some (115, true)), AOper.mk (some 119) (AOp.pick (Operand.tmp 115) (Operand.tmp 118) (Operand.const (Value.bool false))) none, AOper.mk (some 120)
  (AOp.mov (Operand.tmp 119)) none, AOper.mk (some 121) (AOp.mov (Operand.tmp 13)) (some (120, true)), AOper.mk (some 122) (AOp.mov (Operand.tmp 19))
  (some (120, true)), AOper.mk (some 123) (AOp.call 18 [Operand.tmp 121, Operand.tmp 122]) (some (120, true)), AOper.mk (some 124) (AOp.pick (Operand.tmp
  120) (Operand.tmp 123) (Operand.const (Value.bool false))) none, AOper.mk (some 125) (AOp.mov (Operand.tmp 124)) none, AOper.mk (some 126) (AOp.call 13
  []) (some (125, true)), AOper.mk (some 127) (AOp.pick (Operand.tmp 125) (Operand.tmp 126) (Operand.const (Value.bool false))) none, AOper.mk (some 6)
  (AOp.mov (Operand.tmp 127)) none]) AC.ret))))))))))) [ARes.tmp 6]
theorem cfn9 : cfn Try.prog 9 3 = some c9 := by kernel_rfl
def c10 : AFn :=
  AFn.mk 81 (AC.seq (AC.ops [AOper.mk (some 3) (AOp.box 24 (Operand.tmp 0)) none, AOper.mk (some 6) (AOp.mov (Operand.const (Value.bool false))) none])
  (AC.seq (AC.seq (AC.ops [AOper.mk (some 17) (AOp.load true 2 (Operand.tmp 3)) none, AOper.mk (some 18) (AOp.mov (Operand.tmp 1)) none, AOper.mk (some
  19) (AOp.call 12 [Operand.tmp 17, Operand.tmp 18]) none, AOper.mk (some 20) (AOp.un UnOp.not (Operand.tmp 19)) none, AOper.mk (some 21) (AOp.mov
  (Operand.tmp 20)) none, AOper.mk (some 22) (AOp.mov (Operand.tmp 2)) (some (21, false)), AOper.mk (some 23) (AOp.call 40 [Operand.tmp 22]) (some (21,
  false)), AOper.mk (some 24) (AOp.un UnOp.not (Operand.tmp 23)) (some (21, false)), AOper.mk (some 25) (AOp.pick (Operand.tmp 21) (Operand.const
  (Value.bool true)) (Operand.tmp 24)) none]) (AC.cond (Operand.tmp 25) (AC.seq (AC.ops [AOper.mk (some 26) (AOp.call 13 []) none, AOper.mk (some 6)
  (AOp.mov (Operand.tmp 26)) none]) AC.ret) AC.skip)) (AC.seq (AC.ops [AOper.mk (some 28) (AOp.load true 2 (Operand.tmp 3)) none, AOper.mk (some 29)
  (AOp.mov (Operand.tmp 1)) none, AOper.mk (some 30) (AOp.mov (Operand.tmp 2)) none, AOper.mk (some 31) (AOp.call 41 [Operand.tmp 28, Operand.tmp 29,
  Operand.tmp 30]) none, AOper.mk (some 27) (AOp.mov (Operand.tmp 31)) none, AOper.mk (some 32) (AOp.ext (Operand.tmp 27) 0) none, AOper.mk (some 33)
  (AOp.ext (Operand.tmp 27) 1) none, AOper.mk (some 34) (AOp.ext (Operand.tmp 27) 2) none, AOper.mk (some 7) (AOp.mov (Operand.tmp 32)) none, AOper.mk
  (some 8) (AOp.mov (Operand.tmp 33)) none, AOper.mk (some 9) (AOp.mov (Operand.tmp 34)) none]) (AC.seq (AC.ops [AOper.mk (some 36) (AOp.load true 2
  (Operand.tmp 3)) none, AOper.mk (some 37) (AOp.mov (Operand.tmp 1)) none, AOper.mk (some 38) (AOp.mov (Operand.tmp 2)) none, AOper.mk (some 39)
  (AOp.call 42 [Operand.tmp 36, Operand.tmp 37, Operand.tmp 38]) none, AOper.mk (some 35) (AOp.mov (Operand.tmp 39)) none, AOper.mk (some 40) (AOp.ext
  (Operand.tmp 35) 0) none, AOper.mk (some 41) (AOp.ext (Operand.tmp 35) 1) none, AOper.mk (some 42) (AOp.ext (Operand.tmp 35) 2) none, AOper.mk (some
  10) (AOp.mov (Operand.tmp 40)) none, AOper.mk (some 11) (AOp.mov (Operand.tmp 41)) none, AOper.mk (some 12) (AOp.mov (Operand.tmp 42)) none]) (AC.seq
  (AC.ops [AOper.mk (some 44) (AOp.load true 2 (Operand.tmp 3)) none, AOper.mk (some 45) (AOp.mov (Operand.tmp 2)) none, AOper.mk (some 46) (AOp.call 43
  [Operand.tmp 44, Operand.tmp 45]) none, AOper.mk (some 43) (AOp.mov (Operand.tmp 46)) none, AOper.mk (some 47) (AOp.ext (Operand.tmp 43) 0) none,
  AOper.mk (some 48) (AOp.ext (Operand.tmp 43) 1) none, AOper.mk (some 13) (AOp.mov (Operand.tmp 47)) none, AOper.mk (some 14) (AOp.mov (Operand.tmp 48))
  none]) (AC.seq (AC.ops [AOper.mk (some 50) (AOp.load true 2 (Operand.tmp 3)) none, AOper.mk (some 51) (AOp.mov (Operand.tmp 2)) none, AOper.mk (some
  52) (AOp.call 44 [Operand.tmp 50, Operand.tmp 51]) none, AOper.mk (some 49) (AOp.mov (Operand.tmp 52)) none, AOper.mk (some 53) (AOp.ext (Operand.tmp
  49) 0) none, AOper.mk (some 54) (AOp.ext (Operand.tmp 49) 1) none, AOper.mk (some 15) (AOp.mov (Operand.tmp 53)) none, AOper.mk (some 16) (AOp.mov
  (Operand.tmp 54)) none]) (AC.seq (AC.ops [AOper.mk (some 55) (AOp.mov (Operand.tmp 7)) none, AOper.mk (some 56) (AOp.mov (Operand.tmp 10)) none,
  AOper.mk (some 57) (AOp.call 18 [Operand.tmp 55, Operand.tmp 56]) none, AOper.mk (some 58) (AOp.mov (Operand.tmp 57)) none, AOper.mk (some 59) (AOp.mov
  (Operand.tmp 8)) (some (58, true)), AOper.mk (some 60) (AOp.mov (Operand.tmp 11)) (some (58, true)), AOper.mk (some 61) (AOp.bin false BinOp.eql
  (Operand.tmp 59) (Operand.tmp 60)) (some (58, true)), AOper.mk (some 62) (AOp.pick (Operand.tmp 58) (Operand.tmp 61) (Operand.const (Value.bool
  false))) none, AOper.mk (some 63) (AOp.mov (Operand.tmp 62)) none, AOper.mk (some 64) (AOp.mov (Operand.tmp 9)) (some (63, true)), AOper.mk (some 65)
  (AOp.mov (Operand.tmp 12)) (some (63, true)), AOper.mk (some 66) (AOp.bin false BinOp.eql (Operand.tmp 64) (Operand.tmp 65)) (some (63, true)),
  AOper.mk (some 67) (AOp.pick (Operand.tmp 63) (Operand.tmp 66) (Operand.const (Value.bool false))) none, AOper.mk (some 68) (AOp.mov (Operand.tmp 67))
  none, AOper.mk (some 69) (AOp.mov (Operand.tmp 13)) (some (68, true)), AOper.mk (some 70) (AOp.mov (Operand.tmp 15)) (some (68, true)), AOper.mk (some
  71) (AOp.call 45 [Operand.tmp 69, Operand.tmp 70]) (some (68, true)), AOper.mk (some 72) (AOp.pick (Operand.tmp 68) (Operand.tmp 71) (Operand.const
  (Value.bool false))) none, AOper.mk (some 73) (AOp.mov (Operand.tmp 72)) none, AOper.mk (some 74) (AOp.mov (Operand.tmp 14)) (some (73, true)),
  AOper.mk (some 75) (AOp.mov (Operand.tmp 16)) (some (73, true)), AOper.mk (some 76) (AOp.bin false BinOp.eql (Operand.tmp 74) (Operand.tmp 75)) (some
  (73, true)), AOper.mk (some 77) (AOp.pick (Operand.tmp 73) (Operand.tmp 76) (Operand.const (Value.bool false))) none, AOper.mk (some 78) (AOp.mov
  (Operand.tmp 77)) none, AOper.mk (some 79) (AOp.call 13 []) (some (78, true)), AOper.mk (some 80) (AOp.pick (Operand.tmp 78) (Operand.tmp 79)
  (Operand.const (Value.bool false))) none, AOper.mk (some 6) (AOp.mov (Operand.tmp 80)) none]) AC.ret))))))) [ARes.tmp 6]
theorem cfn10 : cfn Try.prog 10 3 = some c10 := by kernel_rfl
def c11 : AFn :=
  AFn.mk 93 (AC.seq (AC.ops [AOper.mk (some 3) (AOp.box 24 (Operand.tmp 0)) none, AOper.mk (some 6) (AOp.mov (Operand.const (Value.bool false))) none])
  (AC.seq (AC.seq (AC.ops [AOper.mk (some 17) (AOp.load true 2 (Operand.tmp 3)) none, AOper.mk (some 18) (AOp.mov (Operand.tmp 1)) none, AOper.mk (some
  19) (AOp.call 29 [Operand.tmp 17, Operand.tmp 18]) none, AOper.mk (some 20) (AOp.un UnOp.not (Operand.tmp 19)) none, AOper.mk (some 21) (AOp.mov
  (Operand.tmp 20)) none, AOper.mk (some 22) (AOp.mov (Operand.tmp 2)) (some (21, false)), AOper.mk (some 23) (AOp.len (Operand.tmp 22)) (some (21,
  false)), AOper.mk (some 24) (AOp.bin false BinOp.gtr (Operand.tmp 23) (Operand.const (Value.int IntKind.i64 60))) (some (21, false)), AOper.mk (some
  25) (AOp.pick (Operand.tmp 21) (Operand.const (Value.bool true)) (Operand.tmp 24)) none]) (AC.cond (Operand.tmp 25) (AC.seq (AC.ops [AOper.mk (some 26)
  (AOp.call 13 []) none, AOper.mk (some 6) (AOp.mov (Operand.tmp 26)) none]) AC.ret) AC.skip)) (AC.seq (AC.ops [AOper.mk (some 28) (AOp.load true 2
  (Operand.tmp 3)) none, AOper.mk (some 29) (AOp.mov (Operand.tmp 1)) none, AOper.mk (some 30) (AOp.mov (Operand.tmp 2)) none, AOper.mk (some 31)
  (AOp.call 41 [Operand.tmp 28, Operand.tmp 29, Operand.tmp 30]) none, AOper.mk (some 27) (AOp.mov (Operand.tmp 31)) none, AOper.mk (some 32) (AOp.ext
  (Operand.tmp 27) 0) none, AOper.mk (some 33) (AOp.ext (Operand.tmp 27) 1) none, AOper.mk (some 34) (AOp.ext (Operand.tmp 27) 2) none, AOper.mk (some 7)
  (AOp.mov (Operand.tmp 32)) none, AOper.mk (some 8) (AOp.mov (Operand.tmp 33)) none, AOper.mk (some 9) (AOp.mov (Operand.tmp 34)) none]) (AC.seq (AC.seq
  (AC.ops [AOper.mk (some 35) (AOp.mov (Operand.tmp 9)) none, AOper.mk (some 36) (AOp.bin false BinOp.neq (Operand.tmp 35) (Operand.const (Value.int
  IntKind.i64 0))) none]) (AC.cond (Operand.tmp 36) (AC.seq (AC.ops [AOper.mk (some 37) (AOp.call 13 []) none, AOper.mk (some 6) (AOp.mov (Operand.tmp
  37)) none]) AC.ret) AC.skip)) (AC.seq (AC.ops [AOper.mk (some 39) (AOp.load true 2 (Operand.tmp 3)) none, AOper.mk (some 40) (AOp.mov (Operand.tmp 2))
  none, AOper.mk (some 41) (AOp.call 43 [Operand.tmp 39, Operand.tmp 40]) none, AOper.mk (some 38) (AOp.mov (Operand.tmp 41)) none, AOper.mk (some 42)
  (AOp.ext (Operand.tmp 38) 0) none, AOper.mk (some 43) (AOp.ext (Operand.tmp 38) 1) none, AOper.mk (some 10) (AOp.mov (Operand.tmp 42)) none, AOper.mk
  (some 11) (AOp.mov (Operand.tmp 43)) none]) (AC.seq (AC.ops [AOper.mk (some 45) (AOp.load true 2 (Operand.tmp 3)) none, AOper.mk (some 46) (AOp.mov
  (Operand.tmp 1)) none, AOper.mk (some 47) (AOp.mov (Operand.tmp 10)) none, AOper.mk (some 48) (AOp.call 37 [Operand.tmp 45, Operand.tmp 46, Operand.tmp
  47]) none, AOper.mk (some 44) (AOp.mov (Operand.tmp 48)) none, AOper.mk (some 49) (AOp.ext (Operand.tmp 44) 0) none, AOper.mk (some 50) (AOp.ext
  (Operand.tmp 44) 1) none, AOper.mk (some 12) (AOp.mov (Operand.tmp 49)) none, AOper.mk (some 13) (AOp.mov (Operand.tmp 50)) none]) (AC.seq (AC.seq
  (AC.ops [AOper.mk (some 51) (AOp.mov (Operand.tmp 11)) none, AOper.mk (some 52) (AOp.mov (Operand.tmp 13)) none, AOper.mk (some 53) (AOp.bin false
  BinOp.add (Operand.tmp 51) (Operand.tmp 52)) none, AOper.mk (some 54) (AOp.bin false BinOp.neq (Operand.tmp 53) (Operand.const (Value.int IntKind.i64
  0))) none, AOper.mk (some 55) (AOp.mov (Operand.tmp 54)) none, AOper.mk (some 56) (AOp.mov (Operand.tmp 8)) (some (55, false)), AOper.mk (some 57)
  (AOp.mov (Operand.tmp 2)) (some (55, false)), AOper.mk (some 58) (AOp.len (Operand.tmp 57)) (some (55, false)), AOper.mk (some 59) (AOp.bin false
  BinOp.neq (Operand.tmp 56) (Operand.tmp 58)) (some (55, false)), AOper.mk (some 60) (AOp.pick (Operand.tmp 55) (Operand.const (Value.bool true))
  (Operand.tmp 59)) none, AOper.mk (some 61) (AOp.mov (Operand.tmp 60)) none, AOper.mk (some 62) (AOp.mov (Operand.tmp 7)) (some (61, false)), AOper.mk
  (some 63) (AOp.mov (Operand.tmp 12)) (some (61, false)), AOper.mk (some 64) (AOp.call 18 [Operand.tmp 62, Operand.tmp 63]) (some (61, false)), AOper.mk
  (some 65) (AOp.un UnOp.not (Operand.tmp 64)) (some (61, false)), AOper.mk (some 66) (AOp.pick (Operand.tmp 61) (Operand.const (Value.bool true))
  (Operand.tmp 65)) none]) (AC.cond (Operand.tmp 66) (AC.seq (AC.ops [AOper.mk (some 6) (AOp.mov (Operand.const (Value.bool false))) none]) AC.ret)
  AC.skip)) (AC.seq (AC.ops [AOper.mk (some 67) (AOp.mov (Operand.tmp 2)) none, AOper.mk (some 68) (AOp.call 46 [Operand.tmp 67]) none, AOper.mk (some
  14) (AOp.mov (Operand.tmp 68)) none]) (AC.seq (AC.ops [AOper.mk (some 69) (AOp.mov (Operand.tmp 14)) none, AOper.mk (some 70) (AOp.call 47 [Operand.tmp
  69]) none]) (AC.seq (AC.ops [AOper.mk (some 72) (AOp.load true 2 (Operand.tmp 3)) none, AOper.mk (some 73) (AOp.mov (Operand.tmp 1)) none, AOper.mk
  (some 74) (AOp.mov (Operand.tmp 14)) none, AOper.mk (some 75) (AOp.call 41 [Operand.tmp 72, Operand.tmp 73, Operand.tmp 74]) none, AOper.mk (some 71)
  (AOp.mov (Operand.tmp 75)) none, AOper.mk (some 76) (AOp.ext (Operand.tmp 71) 0) none, AOper.mk (some 77) (AOp.ext (Operand.tmp 71) 1) none, AOper.mk
  (some 78) (AOp.ext (Operand.tmp 71) 2) none, AOper.mk (some 15) (AOp.mov (Operand.tmp 76)) none, AOper.mk (some 16) (AOp.mov (Operand.tmp 77)) none,
  AOper.mk (some 9) (AOp.mov (Operand.tmp 78)) none]) (AC.seq (AC.ops [AOper.mk (some 79) (AOp.mov (Operand.tmp 9)) none, AOper.mk (some 80) (AOp.bin
  false BinOp.eql (Operand.tmp 79) (Operand.const (Value.int IntKind.i64 18))) none, AOper.mk (some 81) (AOp.mov (Operand.tmp 80)) none, AOper.mk (some
  82) (AOp.mov (Operand.tmp 9)) (some (81, false)), AOper.mk (some 83) (AOp.bin false BinOp.eql (Operand.tmp 82) (Operand.const (Value.int IntKind.i64
  0))) (some (81, false)), AOper.mk (some 84) (AOp.mov (Operand.tmp 83)) (some (81, false)), AOper.mk (some 85) (AOp.mov (Operand.tmp 15)) (some (84,
  true)), AOper.mk (some 86) (AOp.mov (Operand.tmp 7)) (some (84, true)), AOper.mk (some 87) (AOp.call 18 [Operand.tmp 85, Operand.tmp 86]) (some (84,
  true)), AOper.mk (some 88) (AOp.pick (Operand.tmp 84) (Operand.tmp 87) (Operand.const (Value.bool false))) (some (81, false)), AOper.mk (some 89)
  (AOp.pick (Operand.tmp 81) (Operand.const (Value.bool true)) (Operand.tmp 88)) none, AOper.mk (some 90) (AOp.mov (Operand.tmp 89)) none, AOper.mk (some
  91) (AOp.call 13 []) (some (90, true)), AOper.mk (some 92) (AOp.pick (Operand.tmp 90) (Operand.tmp 91) (Operand.const (Value.bool false))) none,
  AOper.mk (some 6) (AOp.mov (Operand.tmp 92)) none]) AC.ret))))))))))) [ARes.tmp 6]
theorem cfn11 : cfn Try.prog 11 3 = some c11 := by kernel_rfl
def c12 : AFn :=
  AFn.mk 11 (AC.seq (AC.ops [AOper.mk (some 2) (AOp.box 24 (Operand.tmp 0)) none, AOper.mk (some 4) (AOp.mov (Operand.const (Value.bool false))) none])
  (AC.seq (AC.ops [AOper.mk (some 5) (AOp.load true 2 (Operand.tmp 2)) none, AOper.mk (some 6) (AOp.call 48 [Operand.tmp 5]) none, AOper.mk (some 7)
  (AOp.mov (Operand.tmp 6)) none, AOper.mk (some 8) (AOp.mov (Operand.tmp 1)) (some (7, true)), AOper.mk (some 9) (AOp.call 36 [Operand.tmp 8]) (some (7,
  true)), AOper.mk (some 10) (AOp.pick (Operand.tmp 7) (Operand.tmp 9) (Operand.const (Value.bool false))) none, AOper.mk (some 4) (AOp.mov (Operand.tmp
  10)) none]) AC.ret)) [ARes.tmp 4]
theorem cfn12 : cfn Try.prog 12 2 = some c12 := by kernel_rfl
def c13 : AFn :=
  AFn.mk 138 (AC.seq (AC.ops [AOper.mk (some 0) (AOp.mov (Operand.const (Value.bool false))) none]) (AC.seq (AC.ops [AOper.mk (some 16) (AOp.call 49 [])
  none, AOper.mk (some 1) (AOp.zro 24 (PV.agg [PV.v (Value.int IntKind.i64 0), PV.v (Value.slice none 0 0)])) none, AOper.mk none (AOp.store 2
  (Operand.tmp 1) (Operand.tmp 16)) none]) (AC.seq (AC.ops [AOper.mk (some 18) (AOp.load true 2 (Operand.tmp 1)) none, AOper.mk (some 19) (AOp.bsl 3 1
  [Operand.const (Value.int IntKind.i64 3), Operand.const (Value.int IntKind.i64 0), Operand.const (Value.int IntKind.i64 0)]) none, AOper.mk (some 20)
  (AOp.call 19 [Operand.tmp 18, Operand.tmp 19, Operand.const (Value.int IntKind.i64 0)]) none, AOper.mk (some 17) (AOp.mov (Operand.tmp 20)) none,
  AOper.mk (some 21) (AOp.ext (Operand.tmp 17) 0) none, AOper.mk (some 22) (AOp.ext (Operand.tmp 17) 1) none, AOper.mk (some 2) (AOp.mov (Operand.tmp
  21)) none, AOper.mk (some 3) (AOp.mov (Operand.tmp 22)) none]) (AC.seq (AC.ops [AOper.mk (some 24) (AOp.load true 2 (Operand.tmp 1)) none, AOper.mk
  (some 25) (AOp.mov (Operand.tmp 2)) none, AOper.mk (some 26) (AOp.call 21 [Operand.tmp 24, Operand.tmp 25, Operand.const (Value.int IntKind.i64 0)])
  none, AOper.mk (some 23) (AOp.mov (Operand.tmp 26)) none, AOper.mk (some 27) (AOp.ext (Operand.tmp 23) 0) none, AOper.mk (some 28) (AOp.ext
  (Operand.tmp 23) 1) none, AOper.mk (some 4) (AOp.mov (Operand.tmp 27)) none, AOper.mk (some 5) (AOp.mov (Operand.tmp 28)) none]) (AC.seq (AC.ops
  [AOper.mk (some 30) (AOp.load true 2 (Operand.tmp 1)) none, AOper.mk (some 31) (AOp.bsl 3 1 [Operand.const (Value.int IntKind.i64 1), Operand.const
  (Value.int IntKind.i64 1), Operand.const (Value.int IntKind.i64 0)]) none, AOper.mk (some 32) (AOp.bsl 3 1 [Operand.const (Value.int IntKind.i64 0),
  Operand.const (Value.int IntKind.i64 1)]) none, AOper.mk (some 33) (AOp.call 23 [Operand.tmp 30, Operand.tmp 31, Operand.tmp 32]) none, AOper.mk (some
  29) (AOp.mov (Operand.tmp 33)) none, AOper.mk (some 34) (AOp.ext (Operand.tmp 29) 0) none, AOper.mk (some 35) (AOp.ext (Operand.tmp 29) 1) none,
  AOper.mk (some 6) (AOp.mov (Operand.tmp 34)) none, AOper.mk (some 7) (AOp.mov (Operand.tmp 35)) none]) (AC.seq (AC.ops [AOper.mk (some 37) (AOp.load
  true 2 (Operand.tmp 1)) none, AOper.mk (some 38) (AOp.bsl 3 1 [Operand.const (Value.int IntKind.i64 1), Operand.const (Value.int IntKind.i64 1),
  Operand.const (Value.int IntKind.i64 0)]) none, AOper.mk (some 39) (AOp.bsl 3 1 [Operand.const (Value.int IntKind.i64 0), Operand.const (Value.int
  IntKind.i64 1)]) none, AOper.mk (some 40) (AOp.call 32 [Operand.tmp 37, Operand.tmp 38, Operand.tmp 39]) none, AOper.mk (some 36) (AOp.mov (Operand.tmp
  40)) none, AOper.mk (some 41) (AOp.ext (Operand.tmp 36) 0) none, AOper.mk (some 42) (AOp.ext (Operand.tmp 36) 1) none, AOper.mk (some 8) (AOp.mov
  (Operand.tmp 41)) none, AOper.mk (some 9) (AOp.mov (Operand.tmp 42)) none]) (AC.seq (AC.seq (AC.ops [AOper.mk (some 43) (AOp.mov (Operand.tmp 3)) none,
  AOper.mk (some 44) (AOp.mov (Operand.tmp 5)) none, AOper.mk (some 45) (AOp.bin false BinOp.add (Operand.tmp 43) (Operand.tmp 44)) none, AOper.mk (some
  46) (AOp.mov (Operand.tmp 7)) none, AOper.mk (some 47) (AOp.bin false BinOp.add (Operand.tmp 45) (Operand.tmp 46)) none, AOper.mk (some 48) (AOp.mov
  (Operand.tmp 9)) none, AOper.mk (some 49) (AOp.bin false BinOp.add (Operand.tmp 47) (Operand.tmp 48)) none, AOper.mk (some 50) (AOp.bin false BinOp.neq
  (Operand.tmp 49) (Operand.const (Value.int IntKind.i64 0))) none, AOper.mk (some 51) (AOp.mov (Operand.tmp 50)) none, AOper.mk (some 52) (AOp.mov
  (Operand.tmp 8)) (some (51, false)), AOper.mk (some 53) (AOp.un UnOp.not (Operand.tmp 52)) (some (51, false)), AOper.mk (some 54) (AOp.pick
  (Operand.tmp 51) (Operand.const (Value.bool true)) (Operand.tmp 53)) none, AOper.mk (some 55) (AOp.mov (Operand.tmp 54)) none, AOper.mk (some 56)
  (AOp.mov (Operand.tmp 2)) (some (55, false)), AOper.mk (some 57) (AOp.bsl 3 1 [Operand.const (Value.int IntKind.i64 1), Operand.const (Value.int
  IntKind.i64 1), Operand.const (Value.int IntKind.i64 1)]) (some (55, false)), AOper.mk (some 58) (AOp.call 18 [Operand.tmp 56, Operand.tmp 57]) (some
  (55, false)), AOper.mk (some 59) (AOp.un UnOp.not (Operand.tmp 58)) (some (55, false)), AOper.mk (some 60) (AOp.pick (Operand.tmp 55) (Operand.const
  (Value.bool true)) (Operand.tmp 59)) none, AOper.mk (some 61) (AOp.mov (Operand.tmp 60)) none, AOper.mk (some 62) (AOp.mov (Operand.tmp 4)) (some (61,
  false)), AOper.mk (some 63) (AOp.bsl 3 1 [Operand.const (Value.int IntKind.i64 3), Operand.const (Value.int IntKind.i64 0), Operand.const (Value.int
  IntKind.i64 0)]) (some (61, false)), AOper.mk (some 64) (AOp.call 18 [Operand.tmp 62, Operand.tmp 63]) (some (61, false)), AOper.mk (some 65) (AOp.un
  UnOp.not (Operand.tmp 64)) (some (61, false)), AOper.mk (some 66) (AOp.pick (Operand.tmp 61) (Operand.const (Value.bool true)) (Operand.tmp 65)) none,
  AOper.mk (some 67) (AOp.mov (Operand.tmp 66)) none, AOper.mk (some 68) (AOp.mov (Operand.tmp 6)) (some (67, false)), AOper.mk (some 69) (AOp.bsl 3 1
  [Operand.const (Value.int IntKind.i64 0), Operand.const (Value.int IntKind.i64 0), Operand.const (Value.int IntKind.i64 2)]) (some (67, false)),
  AOper.mk (some 70) (AOp.call 18 [Operand.tmp 68, Operand.tmp 69]) (some (67, false)), AOper.mk (some 71) (AOp.un UnOp.not (Operand.tmp 70)) (some (67,
  false)), AOper.mk (some 72) (AOp.pick (Operand.tmp 67) (Operand.const (Value.bool true)) (Operand.tmp 71)) none]) (AC.cond (Operand.tmp 72) (AC.seq
  (AC.ops [AOper.mk (some 0) (AOp.mov (Operand.const (Value.bool false))) none]) AC.ret) AC.skip)) (AC.seq (AC.ops [AOper.mk (some 74) (AOp.load true 2
  (Operand.tmp 1)) none, AOper.mk (some 75) (AOp.bsl 3 1 [Operand.const (Value.int IntKind.i64 2), Operand.const (Value.int IntKind.i64 1), Operand.const
  (Value.int IntKind.i64 0)]) none, AOper.mk (some 76) (AOp.call 14 [Operand.tmp 74, Operand.tmp 75]) none, AOper.mk (some 73) (AOp.mov (Operand.tmp 76))
  none, AOper.mk (some 77) (AOp.ext (Operand.tmp 73) 0) none, AOper.mk (some 78) (AOp.ext (Operand.tmp 73) 1) none, AOper.mk (some 10) (AOp.mov
  (Operand.tmp 77)) none, AOper.mk (some 3) (AOp.mov (Operand.tmp 78)) none]) (AC.seq (AC.ops [AOper.mk (some 80) (AOp.load true 2 (Operand.tmp 1)) none,
  AOper.mk (some 81) (AOp.bsl 3 1 [Operand.const (Value.int IntKind.i64 2), Operand.const (Value.int IntKind.i64 1), Operand.const (Value.int IntKind.i64
  0)]) none, AOper.mk (some 82) (AOp.call 25 [Operand.tmp 80, Operand.tmp 81]) none, AOper.mk (some 79) (AOp.mov (Operand.tmp 82)) none, AOper.mk (some
  83) (AOp.ext (Operand.tmp 79) 0) none, AOper.mk (some 84) (AOp.ext (Operand.tmp 79) 1) none, AOper.mk (some 11) (AOp.mov (Operand.tmp 83)) none,
  AOper.mk (some 5) (AOp.mov (Operand.tmp 84)) none]) (AC.seq (AC.seq (AC.ops [AOper.mk (some 85) (AOp.mov (Operand.tmp 3)) none, AOper.mk (some 86)
  (AOp.mov (Operand.tmp 5)) none, AOper.mk (some 87) (AOp.bin false BinOp.add (Operand.tmp 85) (Operand.tmp 86)) none, AOper.mk (some 88) (AOp.bin false
  BinOp.neq (Operand.tmp 87) (Operand.const (Value.int IntKind.i64 0))) none, AOper.mk (some 89) (AOp.mov (Operand.tmp 88)) none, AOper.mk (some 90)
  (AOp.mov (Operand.tmp 10)) (some (89, false)), AOper.mk (some 91) (AOp.bsl 3 1 [Operand.const (Value.int IntKind.i64 (-3)), Operand.const (Value.int
  IntKind.i64 0), Operand.const (Value.int IntKind.i64 3)]) (some (89, false)), AOper.mk (some 92) (AOp.call 18 [Operand.tmp 90, Operand.tmp 91]) (some
  (89, false)), AOper.mk (some 93) (AOp.un UnOp.not (Operand.tmp 92)) (some (89, false)), AOper.mk (some 94) (AOp.pick (Operand.tmp 89) (Operand.const
  (Value.bool true)) (Operand.tmp 93)) none, AOper.mk (some 95) (AOp.mov (Operand.tmp 94)) none, AOper.mk (some 96) (AOp.mov (Operand.tmp 11)) (some (95,
  false)), AOper.mk (some 97) (AOp.bsl 3 1 [Operand.const (Value.int IntKind.i64 0)]) (some (95, false)), AOper.mk (some 98) (AOp.bsl 3 1 [Operand.const
  (Value.int IntKind.i64 0), Operand.const (Value.int IntKind.i64 1)]) (some (95, false)), AOper.mk (some 99) (AOp.bslT 25 [Operand.tmp 97, Operand.tmp
  98]) (some (95, false)), AOper.mk (some 100) (AOp.call 27 [Operand.tmp 96, Operand.tmp 99]) (some (95, false)), AOper.mk (some 101) (AOp.un UnOp.not
  (Operand.tmp 100)) (some (95, false)), AOper.mk (some 102) (AOp.pick (Operand.tmp 95) (Operand.const (Value.bool true)) (Operand.tmp 101)) none])
  (AC.cond (Operand.tmp 102) (AC.seq (AC.ops [AOper.mk (some 0) (AOp.mov (Operand.const (Value.bool false))) none]) AC.ret) AC.skip)) (AC.seq (AC.ops
  [AOper.mk (some 104) (AOp.load true 2 (Operand.tmp 1)) none, AOper.mk (some 105) (AOp.bsl 3 1 [Operand.const (Value.int IntKind.i64 4), Operand.const
  (Value.int IntKind.i64 0), Operand.const (Value.int IntKind.i64 0)]) none, AOper.mk (some 106) (AOp.bsl 3 1 [Operand.const (Value.int IntKind.i64 0),
  Operand.const (Value.int IntKind.i64 0)]) none, AOper.mk (some 107) (AOp.call 41 [Operand.tmp 104, Operand.tmp 105, Operand.tmp 106]) none, AOper.mk
  (some 103) (AOp.mov (Operand.tmp 107)) none, AOper.mk (some 108) (AOp.ext (Operand.tmp 103) 0) none, AOper.mk (some 109) (AOp.ext (Operand.tmp 103) 1)
  none, AOper.mk (some 110) (AOp.ext (Operand.tmp 103) 2) none, AOper.mk (some 12) (AOp.mov (Operand.tmp 108)) none, AOper.mk (some 13) (AOp.mov
  (Operand.tmp 109)) none, AOper.mk (some 3) (AOp.mov (Operand.tmp 110)) none]) (AC.seq (AC.ops [AOper.mk (some 112) (AOp.load true 2 (Operand.tmp 1))
  none, AOper.mk (some 113) (AOp.bsl 3 1 [Operand.const (Value.int IntKind.i64 4), Operand.const (Value.int IntKind.i64 0), Operand.const (Value.int
  IntKind.i64 0)]) none, AOper.mk (some 114) (AOp.bsl 3 1 [Operand.const (Value.int IntKind.i64 0), Operand.const (Value.int IntKind.i64 0),
  Operand.const (Value.int IntKind.i64 0)]) none, AOper.mk (some 115) (AOp.call 41 [Operand.tmp 112, Operand.tmp 113, Operand.tmp 114]) none, AOper.mk
  (some 111) (AOp.mov (Operand.tmp 115)) none, AOper.mk (some 116) (AOp.ext (Operand.tmp 111) 0) none, AOper.mk (some 117) (AOp.ext (Operand.tmp 111) 1)
  none, AOper.mk (some 118) (AOp.ext (Operand.tmp 111) 2) none, AOper.mk (some 14) (AOp.mov (Operand.tmp 116)) none, AOper.mk (some 15) (AOp.mov
  (Operand.tmp 117)) none, AOper.mk (some 5) (AOp.mov (Operand.tmp 118)) none]) (AC.seq (AC.ops [AOper.mk (some 119) (AOp.mov (Operand.tmp 3)) none,
  AOper.mk (some 120) (AOp.bin false BinOp.eql (Operand.tmp 119) (Operand.const (Value.int IntKind.i64 0))) none, AOper.mk (some 121) (AOp.mov
  (Operand.tmp 120)) none, AOper.mk (some 122) (AOp.mov (Operand.tmp 5)) (some (121, true)), AOper.mk (some 123) (AOp.bin false BinOp.eql (Operand.tmp
  122) (Operand.const (Value.int IntKind.i64 18))) (some (121, true)), AOper.mk (some 124) (AOp.pick (Operand.tmp 121) (Operand.tmp 123) (Operand.const
  (Value.bool false))) none, AOper.mk (some 125) (AOp.mov (Operand.tmp 124)) none, AOper.mk (some 126) (AOp.mov (Operand.tmp 13)) (some (125, true)),
  AOper.mk (some 127) (AOp.bin false BinOp.eql (Operand.tmp 126) (Operand.const (Value.int IntKind.i64 2))) (some (125, true)), AOper.mk (some 128)
  (AOp.pick (Operand.tmp 125) (Operand.tmp 127) (Operand.const (Value.bool false))) none, AOper.mk (some 129) (AOp.mov (Operand.tmp 128)) none, AOper.mk
  (some 130) (AOp.mov (Operand.tmp 15)) (some (129, true)), AOper.mk (some 131) (AOp.bin false BinOp.eql (Operand.tmp 130) (Operand.const (Value.int
  IntKind.i64 2))) (some (129, true)), AOper.mk (some 132) (AOp.pick (Operand.tmp 129) (Operand.tmp 131) (Operand.const (Value.bool false))) none,
  AOper.mk (some 133) (AOp.mov (Operand.tmp 132)) none, AOper.mk (some 134) (AOp.mov (Operand.tmp 12)) (some (133, true)), AOper.mk (some 135) (AOp.bsl 3
  1 [Operand.const (Value.int IntKind.i64 0), Operand.const (Value.int IntKind.i64 2), Operand.const (Value.int IntKind.i64 2)]) (some (133, true)),
  AOper.mk (some 136) (AOp.call 18 [Operand.tmp 134, Operand.tmp 135]) (some (133, true)), AOper.mk (some 137) (AOp.pick (Operand.tmp 133) (Operand.tmp
  136) (Operand.const (Value.bool false))) none, AOper.mk (some 0) (AOp.mov (Operand.tmp 137)) none]) AC.ret))))))))))))) [ARes.tmp 0]
theorem cfn13 : cfn Try.prog 13 0 = some c13 := by kernel_rfl
def c14 : AFn :=
  AFn.mk 22 (AC.seq (AC.ops [AOper.mk (some 2) (AOp.box 24 (Operand.tmp 0)) none, AOper.mk (some 4) (AOp.mov (Operand.const (Value.slice none 0 0)))
  none, AOper.mk (some 5) (AOp.mov (Operand.const (Value.int IntKind.i64 0))) none]) (AC.seq (AC.seq (AC.ops [AOper.mk (some 7) (AOp.load true 2
  (Operand.tmp 2)) none, AOper.mk (some 8) (AOp.mov (Operand.tmp 1)) none, AOper.mk (some 9) (AOp.call 16 [Operand.tmp 7, Operand.tmp 8]) none, AOper.mk
  (some 6) (AOp.mov (Operand.tmp 9)) none]) (AC.seq (AC.ops [AOper.mk (some 10) (AOp.mov (Operand.tmp 6)) none, AOper.mk (some 11) (AOp.bin false
  BinOp.neq (Operand.tmp 10) (Operand.const (Value.int IntKind.i64 0))) none]) (AC.cond (Operand.tmp 11) (AC.seq (AC.ops [AOper.mk (some 12) (AOp.mov
  (Operand.tmp 6)) none, AOper.mk (some 4) (AOp.mov (Operand.const (Value.slice none 0 0))) none, AOper.mk (some 5) (AOp.mov (Operand.tmp 12)) none])
  AC.ret) AC.skip))) (AC.seq (AC.segs [([AOper.mk (some 13) (AOp.load true 2 (Operand.tmp 2)) none, AOper.mk (some 14) (AOp.fadr 0 (Operand.tmp 2)) none,
  AOper.mk (some 15) (AOp.load false 1 (Operand.tmp 14)) none, AOper.mk (some 17) (AOp.mov (Operand.tmp 1)) none], some (true, AOper.mk (some 16) (AOp.mk
  3 1 (PV.v (Value.int IntKind.i64 0)) (Operand.tmp 15) (Operand.tmp 15)) none)), ([], some (true, AOper.mk (some 18) (AOp.call 51 [Operand.tmp 13,
  Operand.tmp 16, Operand.tmp 17]) none)), ([], some (true, AOper.mk (some 19) (AOp.call 50 [Operand.tmp 18]) none)), ([AOper.mk (some 20) (AOp.ext
  (Operand.tmp 19) 0) none, AOper.mk (some 21) (AOp.ext (Operand.tmp 19) 1) none, AOper.mk (some 4) (AOp.mov (Operand.tmp 20)) none, AOper.mk (some 5)
  (AOp.mov (Operand.tmp 21)) none], none)]) AC.ret))) [ARes.tmp 4, ARes.tmp 5]
theorem cfn14 : cfn Try.prog 14 2 = some c14 := by kernel_rfl
def c15 : AFn :=
  AFn.mk 22 (AC.seq (AC.ops [AOper.mk (some 2) (AOp.box 24 (Operand.tmp 0)) none, AOper.mk (some 4) (AOp.mov (Operand.const (Value.slice none 0 0)))
  none, AOper.mk (some 5) (AOp.mov (Operand.const (Value.int IntKind.i64 0))) none]) (AC.seq (AC.seq (AC.ops [AOper.mk (some 7) (AOp.load true 2
  (Operand.tmp 2)) none, AOper.mk (some 8) (AOp.mov (Operand.tmp 1)) none, AOper.mk (some 9) (AOp.call 17 [Operand.tmp 7, Operand.tmp 8]) none, AOper.mk
  (some 6) (AOp.mov (Operand.tmp 9)) none]) (AC.seq (AC.ops [AOper.mk (some 10) (AOp.mov (Operand.tmp 6)) none, AOper.mk (some 11) (AOp.bin false
  BinOp.neq (Operand.tmp 10) (Operand.const (Value.int IntKind.i64 0))) none]) (AC.cond (Operand.tmp 11) (AC.seq (AC.ops [AOper.mk (some 12) (AOp.mov
  (Operand.tmp 6)) none, AOper.mk (some 4) (AOp.mov (Operand.const (Value.slice none 0 0))) none, AOper.mk (some 5) (AOp.mov (Operand.tmp 12)) none])
  AC.ret) AC.skip))) (AC.seq (AC.segs [([AOper.mk (some 13) (AOp.load true 2 (Operand.tmp 2)) none, AOper.mk (some 14) (AOp.fadr 0 (Operand.tmp 2)) none,
  AOper.mk (some 15) (AOp.load false 1 (Operand.tmp 14)) none, AOper.mk (some 17) (AOp.mov (Operand.tmp 1)) none], some (true, AOper.mk (some 16) (AOp.mk
  3 1 (PV.v (Value.int IntKind.i64 0)) (Operand.tmp 15) (Operand.tmp 15)) none)), ([], some (true, AOper.mk (some 18) (AOp.call 53 [Operand.tmp 13,
  Operand.tmp 16, Operand.tmp 17]) none)), ([], some (true, AOper.mk (some 19) (AOp.call 52 [Operand.tmp 18]) none)), ([AOper.mk (some 20) (AOp.ext
  (Operand.tmp 19) 0) none, AOper.mk (some 21) (AOp.ext (Operand.tmp 19) 1) none, AOper.mk (some 4) (AOp.mov (Operand.tmp 20)) none, AOper.mk (some 5)
  (AOp.mov (Operand.tmp 21)) none], none)]) AC.ret))) [ARes.tmp 4, ARes.tmp 5]
theorem cfn15 : cfn Try.prog 15 2 = some c15 := by kernel_rfl
def c16 : AFn :=
  AFn.mk 8 (AC.seq (AC.ops [AOper.mk (some 2) (AOp.box 24 (Operand.tmp 0)) none, AOper.mk (some 4) (AOp.mov (Operand.const (Value.int IntKind.i64 0)))
  none]) (AC.seq (AC.ops [AOper.mk (some 5) (AOp.load true 2 (Operand.tmp 2)) none, AOper.mk (some 6) (AOp.mov (Operand.tmp 1)) none, AOper.mk (some 7)
  (AOp.call 54 [Operand.tmp 5, Operand.tmp 6]) none, AOper.mk (some 4) (AOp.mov (Operand.tmp 7)) none]) AC.ret)) [ARes.tmp 4]
theorem cfn16 : cfn Try.prog 16 2 = some c16 := by kernel_rfl
def c17 : AFn :=
  AFn.mk 15 (AC.seq (AC.ops [AOper.mk (some 2) (AOp.box 24 (Operand.tmp 0)) none, AOper.mk (some 4) (AOp.mov (Operand.const (Value.int IntKind.i64 0)))
  none]) (AC.seq (AC.seq (AC.ops [AOper.mk (some 6) (AOp.load true 2 (Operand.tmp 2)) none, AOper.mk (some 7) (AOp.call 55 [Operand.tmp 6]) none,
  AOper.mk (some 5) (AOp.mov (Operand.tmp 7)) none]) (AC.seq (AC.ops [AOper.mk (some 8) (AOp.mov (Operand.tmp 5)) none, AOper.mk (some 9) (AOp.bin false
  BinOp.neq (Operand.tmp 8) (Operand.const (Value.int IntKind.i64 0))) none]) (AC.cond (Operand.tmp 9) (AC.seq (AC.ops [AOper.mk (some 10) (AOp.mov
  (Operand.tmp 5)) none, AOper.mk (some 4) (AOp.mov (Operand.tmp 10)) none]) AC.ret) AC.skip))) (AC.seq (AC.ops [AOper.mk (some 11) (AOp.mov (Operand.tmp
  1)) none, AOper.mk (some 12) (AOp.fadr 0 (Operand.tmp 2)) none, AOper.mk (some 13) (AOp.load false 1 (Operand.tmp 12)) none, AOper.mk (some 14)
  (AOp.call 56 [Operand.tmp 11, Operand.tmp 13]) none, AOper.mk (some 4) (AOp.mov (Operand.tmp 14)) none]) AC.ret))) [ARes.tmp 4]
theorem cfn17 : cfn Try.prog 17 2 = some c17 := by kernel_rfl
def c18 : AFn :=
  AFn.mk 14 (AC.seq (AC.ops [AOper.mk (some 4) (AOp.mov (Operand.const (Value.bool false))) none]) (AC.seq (AC.seq (AC.ops [AOper.mk (some 5) (AOp.mov
  (Operand.tmp 0)) none, AOper.mk (some 6) (AOp.len (Operand.tmp 5)) none, AOper.mk (some 7) (AOp.mov (Operand.tmp 1)) none, AOper.mk (some 8) (AOp.len
  (Operand.tmp 7)) none, AOper.mk (some 9) (AOp.bin false BinOp.neq (Operand.tmp 6) (Operand.tmp 8)) none]) (AC.cond (Operand.tmp 9) (AC.seq (AC.ops
  [AOper.mk (some 4) (AOp.mov (Operand.const (Value.bool false))) none]) AC.ret) AC.skip)) (AC.seq (AC.ops [AOper.mk (some 10) (AOp.mov (Operand.tmp 0))
  none, AOper.mk (some 11) (AOp.mov (Operand.tmp 1)) none, AOper.mk (some 12) (AOp.call 57 [Operand.tmp 10, Operand.tmp 11]) none, AOper.mk (some 13)
  (AOp.bin false BinOp.eql (Operand.tmp 12) (Operand.const (Value.int IntKind.i64 0))) none, AOper.mk (some 4) (AOp.mov (Operand.tmp 13)) none])
  AC.ret))) [ARes.tmp 4]
theorem cfn18 : cfn Try.prog 18 2 = some c18 := by kernel_rfl
def c19 : AFn :=
  AFn.mk 26 (AC.seq (AC.ops [AOper.mk (some 3) (AOp.box 24 (Operand.tmp 0)) none, AOper.mk (some 6) (AOp.mov (Operand.const (Value.slice none 0 0)))
  none, AOper.mk (some 7) (AOp.mov (Operand.const (Value.int IntKind.i64 0))) none]) (AC.seq (AC.seq (AC.ops [AOper.mk (some 9) (AOp.load true 2
  (Operand.tmp 3)) none, AOper.mk (some 10) (AOp.mov (Operand.tmp 1)) none, AOper.mk (some 11) (AOp.mov (Operand.tmp 2)) none, AOper.mk (some 12)
  (AOp.call 58 [Operand.tmp 9, Operand.tmp 10, Operand.tmp 11]) none, AOper.mk (some 8) (AOp.mov (Operand.tmp 12)) none]) (AC.seq (AC.ops [AOper.mk (some
  13) (AOp.mov (Operand.tmp 8)) none, AOper.mk (some 14) (AOp.bin false BinOp.neq (Operand.tmp 13) (Operand.const (Value.int IntKind.i64 0))) none])
  (AC.cond (Operand.tmp 14) (AC.seq (AC.ops [AOper.mk (some 15) (AOp.mov (Operand.tmp 8)) none, AOper.mk (some 6) (AOp.mov (Operand.const (Value.slice
  none 0 0))) none, AOper.mk (some 7) (AOp.mov (Operand.tmp 15)) none]) AC.ret) AC.skip))) (AC.seq (AC.segs [([AOper.mk (some 16) (AOp.load true 2
  (Operand.tmp 3)) none, AOper.mk (some 17) (AOp.mov (Operand.tmp 1)) none, AOper.mk (some 18) (AOp.load true 2 (Operand.tmp 3)) none, AOper.mk (some 19)
  (AOp.mov (Operand.tmp 2)) none], some (true, AOper.mk (some 20) (AOp.bsl 3 1 [Operand.tmp 19]) none)), ([], some (true, AOper.mk (some 21) (AOp.call 59
  [Operand.tmp 18, Operand.tmp 20, Operand.const (Value.int IntKind.i64 1)]) none)), ([], some (true, AOper.mk (some 22) (AOp.call 51 [Operand.tmp 16,
  Operand.tmp 17, Operand.tmp 21]) none)), ([], some (true, AOper.mk (some 23) (AOp.call 50 [Operand.tmp 22]) none)), ([AOper.mk (some 24) (AOp.ext
  (Operand.tmp 23) 0) none, AOper.mk (some 25) (AOp.ext (Operand.tmp 23) 1) none, AOper.mk (some 6) (AOp.mov (Operand.tmp 24)) none, AOper.mk (some 7)
  (AOp.mov (Operand.tmp 25)) none], none)]) AC.ret))) [ARes.tmp 6, ARes.tmp 7]
theorem cfn19 : cfn Try.prog 19 3 = some c19 := by kernel_rfl
def c20 : AFn :=
  AFn.mk 28 (AC.seq (AC.ops [AOper.mk (some 3) (AOp.box 24 (Operand.tmp 0)) none, AOper.mk (some 6) (AOp.mov (Operand.const (Value.slice none 0 0)))
  none, AOper.mk (some 7) (AOp.mov (Operand.const (Value.int IntKind.i64 0))) none]) (AC.seq (AC.seq (AC.ops [AOper.mk (some 9) (AOp.load true 2
  (Operand.tmp 3)) none, AOper.mk (some 10) (AOp.mov (Operand.tmp 1)) none, AOper.mk (some 11) (AOp.call 60 [Operand.tmp 9, Operand.tmp 10]) none,
  AOper.mk (some 8) (AOp.mov (Operand.tmp 11)) none]) (AC.seq (AC.ops [AOper.mk (some 12) (AOp.mov (Operand.tmp 8)) none, AOper.mk (some 13) (AOp.bin
  false BinOp.neq (Operand.tmp 12) (Operand.const (Value.int IntKind.i64 0))) none]) (AC.cond (Operand.tmp 13) (AC.seq (AC.ops [AOper.mk (some 14)
  (AOp.mov (Operand.tmp 8)) none, AOper.mk (some 6) (AOp.mov (Operand.const (Value.slice none 0 0))) none, AOper.mk (some 7) (AOp.mov (Operand.tmp 14))
  none]) AC.ret) AC.skip))) (AC.seq (AC.seq (AC.ops [AOper.mk (some 15) (AOp.load true 2 (Operand.tmp 3)) none, AOper.mk (some 16) (AOp.mov (Operand.tmp
  2)) none, AOper.mk (some 17) (AOp.call 61 [Operand.tmp 15, Operand.tmp 16]) none, AOper.mk (some 18) (AOp.un UnOp.not (Operand.tmp 17)) none]) (AC.cond
  (Operand.tmp 18) (AC.seq (AC.ops [AOper.mk (some 6) (AOp.mov (Operand.const (Value.slice none 0 0))) none, AOper.mk (some 7) (AOp.mov (Operand.const
  (Value.int IntKind.i64 2))) none]) AC.ret) AC.skip)) (AC.seq (AC.segs [([AOper.mk (some 19) (AOp.load true 2 (Operand.tmp 3)) none, AOper.mk (some 20)
  (AOp.mov (Operand.tmp 1)) none, AOper.mk (some 21) (AOp.load true 2 (Operand.tmp 3)) none, AOper.mk (some 22) (AOp.mov (Operand.tmp 2)) none], some
  (true, AOper.mk (some 23) (AOp.call 62 [Operand.tmp 21, Operand.tmp 22, Operand.const (Value.int IntKind.i64 1)]) none)), ([], some (true, AOper.mk
  (some 24) (AOp.call 53 [Operand.tmp 19, Operand.tmp 20, Operand.tmp 23]) none)), ([], some (true, AOper.mk (some 25) (AOp.call 52 [Operand.tmp 24])
  none)), ([AOper.mk (some 26) (AOp.ext (Operand.tmp 25) 0) none, AOper.mk (some 27) (AOp.ext (Operand.tmp 25) 1) none, AOper.mk (some 6) (AOp.mov
  (Operand.tmp 26)) none, AOper.mk (some 7) (AOp.mov (Operand.tmp 27)) none], none)]) AC.ret)))) [ARes.tmp 6, ARes.tmp 7]
theorem cfn20 : cfn Try.prog 20 3 = some c20 := by kernel_rfl
def c21 : AFn :=
  AFn.mk 26 (AC.seq (AC.ops [AOper.mk (some 3) (AOp.box 24 (Operand.tmp 0)) none, AOper.mk (some 6) (AOp.mov (Operand.const (Value.slice none 0 0)))
  none, AOper.mk (some 7) (AOp.mov (Operand.const (Value.int IntKind.i64 0))) none]) (AC.seq (AC.seq (AC.ops [AOper.mk (some 9) (AOp.load true 2
  (Operand.tmp 3)) none, AOper.mk (some 10) (AOp.mov (Operand.tmp 1)) none, AOper.mk (some 11) (AOp.mov (Operand.tmp 2)) none, AOper.mk (some 12)
  (AOp.call 58 [Operand.tmp 9, Operand.tmp 10, Operand.tmp 11]) none, AOper.mk (some 8) (AOp.mov (Operand.tmp 12)) none]) (AC.seq (AC.ops [AOper.mk (some
  13) (AOp.mov (Operand.tmp 8)) none, AOper.mk (some 14) (AOp.bin false BinOp.neq (Operand.tmp 13) (Operand.const (Value.int IntKind.i64 0))) none])
  (AC.cond (Operand.tmp 14) (AC.seq (AC.ops [AOper.mk (some 15) (AOp.mov (Operand.tmp 8)) none, AOper.mk (some 6) (AOp.mov (Operand.const (Value.slice
  none 0 0))) none, AOper.mk (some 7) (AOp.mov (Operand.tmp 15)) none]) AC.ret) AC.skip))) (AC.seq (AC.segs [([AOper.mk (some 16) (AOp.load true 2
  (Operand.tmp 3)) none, AOper.mk (some 17) (AOp.mov (Operand.tmp 1)) none, AOper.mk (some 18) (AOp.load true 2 (Operand.tmp 3)) none, AOper.mk (some 19)
  (AOp.mov (Operand.tmp 2)) none], some (true, AOper.mk (some 20) (AOp.bsl 3 1 [Operand.tmp 19]) none)), ([], some (true, AOper.mk (some 21) (AOp.call 59
  [Operand.tmp 18, Operand.tmp 20, Operand.const (Value.int IntKind.i64 (-1))]) none)), ([], some (true, AOper.mk (some 22) (AOp.call 51 [Operand.tmp 16,
  Operand.tmp 17, Operand.tmp 21]) none)), ([], some (true, AOper.mk (some 23) (AOp.call 50 [Operand.tmp 22]) none)), ([AOper.mk (some 24) (AOp.ext
  (Operand.tmp 23) 0) none, AOper.mk (some 25) (AOp.ext (Operand.tmp 23) 1) none, AOper.mk (some 6) (AOp.mov (Operand.tmp 24)) none, AOper.mk (some 7)
  (AOp.mov (Operand.tmp 25)) none], none)]) AC.ret))) [ARes.tmp 6, ARes.tmp 7]
theorem cfn21 : cfn Try.prog 21 3 = some c21 := by kernel_rfl
def c22 : AFn :=
  AFn.mk 28 (AC.seq (AC.ops [AOper.mk (some 3) (AOp.box 24 (Operand.tmp 0)) none, AOper.mk (some 6) (AOp.mov (Operand.const (Value.slice none 0 0)))
  none, AOper.mk (some 7) (AOp.mov (Operand.const (Value.int IntKind.i64 0))) none]) (AC.seq (AC.seq (AC.ops [AOper.mk (some 9) (AOp.load true 2
  (Operand.tmp 3)) none, AOper.mk (some 10) (AOp.mov (Operand.tmp 1)) none, AOper.mk (some 11) (AOp.call 60 [Operand.tmp 9, Operand.tmp 10]) none,
  AOper.mk (some 8) (AOp.mov (Operand.tmp 11)) none]) (AC.seq (AC.ops [AOper.mk (some 12) (AOp.mov (Operand.tmp 8)) none, AOper.mk (some 13) (AOp.bin
  false BinOp.neq (Operand.tmp 12) (Operand.const (Value.int IntKind.i64 0))) none]) (AC.cond (Operand.tmp 13) (AC.seq (AC.ops [AOper.mk (some 14)
  (AOp.mov (Operand.tmp 8)) none, AOper.mk (some 6) (AOp.mov (Operand.const (Value.slice none 0 0))) none, AOper.mk (some 7) (AOp.mov (Operand.tmp 14))
  none]) AC.ret) AC.skip))) (AC.seq (AC.seq (AC.ops [AOper.mk (some 15) (AOp.load true 2 (Operand.tmp 3)) none, AOper.mk (some 16) (AOp.mov (Operand.tmp
  2)) none, AOper.mk (some 17) (AOp.call 61 [Operand.tmp 15, Operand.tmp 16]) none, AOper.mk (some 18) (AOp.un UnOp.not (Operand.tmp 17)) none]) (AC.cond
  (Operand.tmp 18) (AC.seq (AC.ops [AOper.mk (some 6) (AOp.mov (Operand.const (Value.slice none 0 0))) none, AOper.mk (some 7) (AOp.mov (Operand.const
  (Value.int IntKind.i64 2))) none]) AC.ret) AC.skip)) (AC.seq (AC.segs [([AOper.mk (some 19) (AOp.load true 2 (Operand.tmp 3)) none, AOper.mk (some 20)
  (AOp.mov (Operand.tmp 1)) none, AOper.mk (some 21) (AOp.load true 2 (Operand.tmp 3)) none, AOper.mk (some 22) (AOp.mov (Operand.tmp 2)) none], some
  (true, AOper.mk (some 23) (AOp.call 62 [Operand.tmp 21, Operand.tmp 22, Operand.const (Value.int IntKind.i64 (-1))]) none)), ([], some (true, AOper.mk
  (some 24) (AOp.call 53 [Operand.tmp 19, Operand.tmp 20, Operand.tmp 23]) none)), ([], some (true, AOper.mk (some 25) (AOp.call 52 [Operand.tmp 24])
  none)), ([AOper.mk (some 26) (AOp.ext (Operand.tmp 25) 0) none, AOper.mk (some 27) (AOp.ext (Operand.tmp 25) 1) none, AOper.mk (some 6) (AOp.mov
  (Operand.tmp 26)) none, AOper.mk (some 7) (AOp.mov (Operand.tmp 27)) none], none)]) AC.ret)))) [ARes.tmp 6, ARes.tmp 7]
theorem cfn22 : cfn Try.prog 22 3 = some c22 := by kernel_rfl
def c23 : AFn :=
  AFn.mk 25 (AC.seq (AC.ops [AOper.mk (some 3) (AOp.box 24 (Operand.tmp 0)) none, AOper.mk (some 6) (AOp.mov (Operand.const (Value.slice none 0 0)))
  none, AOper.mk (some 7) (AOp.mov (Operand.const (Value.int IntKind.i64 0))) none]) (AC.seq (AC.seq (AC.ops [AOper.mk (some 9) (AOp.load true 2
  (Operand.tmp 3)) none, AOper.mk (some 10) (AOp.mov (Operand.tmp 1)) none, AOper.mk (some 11) (AOp.mov (Operand.tmp 2)) none, AOper.mk (some 12)
  (AOp.call 63 [Operand.tmp 9, Operand.tmp 10, Operand.tmp 11]) none, AOper.mk (some 8) (AOp.mov (Operand.tmp 12)) none]) (AC.seq (AC.ops [AOper.mk (some
  13) (AOp.mov (Operand.tmp 8)) none, AOper.mk (some 14) (AOp.bin false BinOp.neq (Operand.tmp 13) (Operand.const (Value.int IntKind.i64 0))) none])
  (AC.cond (Operand.tmp 14) (AC.seq (AC.ops [AOper.mk (some 15) (AOp.mov (Operand.tmp 8)) none, AOper.mk (some 6) (AOp.mov (Operand.const (Value.slice
  none 0 0))) none, AOper.mk (some 7) (AOp.mov (Operand.tmp 15)) none]) AC.ret) AC.skip))) (AC.seq (AC.segs [([AOper.mk (some 16) (AOp.load true 2
  (Operand.tmp 3)) none, AOper.mk (some 17) (AOp.mov (Operand.tmp 1)) none, AOper.mk (some 18) (AOp.load true 2 (Operand.tmp 3)) none, AOper.mk (some 19)
  (AOp.mov (Operand.tmp 2)) none], some (true, AOper.mk (some 20) (AOp.call 59 [Operand.tmp 18, Operand.tmp 19, Operand.const (Value.int IntKind.i64 1)])
  none)), ([], some (true, AOper.mk (some 21) (AOp.call 51 [Operand.tmp 16, Operand.tmp 17, Operand.tmp 20]) none)), ([], some (true, AOper.mk (some 22)
  (AOp.call 50 [Operand.tmp 21]) none)), ([AOper.mk (some 23) (AOp.ext (Operand.tmp 22) 0) none, AOper.mk (some 24) (AOp.ext (Operand.tmp 22) 1) none,
  AOper.mk (some 6) (AOp.mov (Operand.tmp 23)) none, AOper.mk (some 7) (AOp.mov (Operand.tmp 24)) none], none)]) AC.ret))) [ARes.tmp 6, ARes.tmp 7]
theorem cfn23 : cfn Try.prog 23 3 = some c23 := by kernel_rfl
def c24 : AFn :=
  AFn.mk 31 (AC.seq (AC.ops [AOper.mk (some 3) (AOp.box 24 (Operand.tmp 0)) none, AOper.mk (some 6) (AOp.mov (Operand.const (Value.slice none 0 0)))
  none, AOper.mk (some 7) (AOp.mov (Operand.const (Value.int IntKind.i64 0))) none]) (AC.seq (AC.seq (AC.ops [AOper.mk (some 10) (AOp.load true 2
  (Operand.tmp 3)) none, AOper.mk (some 11) (AOp.mov (Operand.tmp 1)) none, AOper.mk (some 12) (AOp.call 60 [Operand.tmp 10, Operand.tmp 11]) none,
  AOper.mk (some 8) (AOp.mov (Operand.tmp 12)) none]) (AC.seq (AC.ops [AOper.mk (some 13) (AOp.mov (Operand.tmp 8)) none, AOper.mk (some 14) (AOp.bin
  false BinOp.neq (Operand.tmp 13) (Operand.const (Value.int IntKind.i64 0))) none]) (AC.cond (Operand.tmp 14) (AC.seq (AC.ops [AOper.mk (some 15)
  (AOp.mov (Operand.tmp 8)) none, AOper.mk (some 6) (AOp.mov (Operand.const (Value.slice none 0 0))) none, AOper.mk (some 7) (AOp.mov (Operand.tmp 15))
  none]) AC.ret) AC.skip))) (AC.seq (AC.seq (AC.ops [AOper.mk (some 16) (AOp.load true 2 (Operand.tmp 3)) none, AOper.mk (some 17) (AOp.mov (Operand.tmp
  2)) none, AOper.mk (some 18) (AOp.call 30 [Operand.tmp 16, Operand.tmp 17]) none, AOper.mk (some 9) (AOp.mov (Operand.tmp 18)) none]) (AC.seq (AC.ops
  [AOper.mk (some 19) (AOp.mov (Operand.tmp 9)) none, AOper.mk (some 20) (AOp.bin false BinOp.neq (Operand.tmp 19) (Operand.const (Value.int IntKind.i64
  0))) none]) (AC.cond (Operand.tmp 20) (AC.seq (AC.ops [AOper.mk (some 21) (AOp.mov (Operand.tmp 9)) none, AOper.mk (some 6) (AOp.mov (Operand.const
  (Value.slice none 0 0))) none, AOper.mk (some 7) (AOp.mov (Operand.tmp 21)) none]) AC.ret) AC.skip))) (AC.seq (AC.segs [([AOper.mk (some 22) (AOp.load
  true 2 (Operand.tmp 3)) none, AOper.mk (some 23) (AOp.mov (Operand.tmp 1)) none, AOper.mk (some 24) (AOp.load true 2 (Operand.tmp 3)) none, AOper.mk
  (some 25) (AOp.mov (Operand.tmp 2)) none], some (true, AOper.mk (some 26) (AOp.call 64 [Operand.tmp 24, Operand.tmp 25]) none)), ([], some (true,
  AOper.mk (some 27) (AOp.call 53 [Operand.tmp 22, Operand.tmp 23, Operand.tmp 26]) none)), ([], some (true, AOper.mk (some 28) (AOp.call 52 [Operand.tmp
  27]) none)), ([AOper.mk (some 29) (AOp.ext (Operand.tmp 28) 0) none, AOper.mk (some 30) (AOp.ext (Operand.tmp 28) 1) none, AOper.mk (some 6) (AOp.mov
  (Operand.tmp 29)) none, AOper.mk (some 7) (AOp.mov (Operand.tmp 30)) none], none)]) AC.ret)))) [ARes.tmp 6, ARes.tmp 7]
theorem cfn24 : cfn Try.prog 24 3 = some c24 := by kernel_rfl
def c25 : AFn :=
  AFn.mk 57 (AC.seq (AC.ops [AOper.mk (some 2) (AOp.box 24 (Operand.tmp 0)) none, AOper.mk (some 4) (AOp.mov (Operand.const (Value.slice none 0 0)))
  none, AOper.mk (some 5) (AOp.mov (Operand.const (Value.int IntKind.i64 0))) none]) (AC.seq (AC.seq (AC.ops [AOper.mk (some 14) (AOp.load true 2
  (Operand.tmp 2)) none, AOper.mk (some 15) (AOp.mov (Operand.tmp 1)) none, AOper.mk (some 16) (AOp.call 16 [Operand.tmp 14, Operand.tmp 15]) none,
  AOper.mk (some 6) (AOp.mov (Operand.tmp 16)) none]) (AC.seq (AC.ops [AOper.mk (some 17) (AOp.mov (Operand.tmp 6)) none, AOper.mk (some 18) (AOp.bin
  false BinOp.neq (Operand.tmp 17) (Operand.const (Value.int IntKind.i64 0))) none]) (AC.cond (Operand.tmp 18) (AC.seq (AC.ops [AOper.mk (some 19)
  (AOp.mov (Operand.tmp 6)) none, AOper.mk (some 4) (AOp.mov (Operand.const (Value.slice none 0 0))) none, AOper.mk (some 5) (AOp.mov (Operand.tmp 19))
  none]) AC.ret) AC.skip))) (AC.seq (AC.ops [AOper.mk (some 20) (AOp.mov (Operand.tmp 1)) none, AOper.mk (some 21) (AOp.call 65 [Operand.tmp 20]) none,
  AOper.mk (some 22) (AOp.mov (Operand.tmp 1)) none, AOper.mk (some 23) (AOp.call 66 [Operand.tmp 22]) none, AOper.mk (some 7) (AOp.mov (Operand.tmp 21))
  none, AOper.mk (some 8) (AOp.mov (Operand.tmp 23)) none]) (AC.seq (AC.seq (AC.ops [AOper.mk (some 24) (AOp.mov (Operand.tmp 8)) none, AOper.mk (some
  25) (AOp.mov (Operand.tmp 7)) none, AOper.mk (some 26) (AOp.bin false BinOp.sub (Operand.tmp 24) (Operand.tmp 25)) none, AOper.mk (some 27) (AOp.bin
  false BinOp.gtr (Operand.tmp 26) (Operand.const (Value.int IntKind.i64 256))) none]) (AC.cond (Operand.tmp 27) (AC.seq (AC.ops [AOper.mk (some 4)
  (AOp.mov (Operand.const (Value.slice none 0 0))) none, AOper.mk (some 5) (AOp.mov (Operand.const (Value.int IntKind.i64 12))) none]) AC.ret) AC.skip))
  (AC.seq (AC.ops [AOper.mk (some 9) (AOp.mov (Operand.const (Value.slice none 0 0))) none]) (AC.seq (AC.seq (AC.ops [AOper.mk (some 10) (AOp.mov
  (Operand.const (Value.int IntKind.i64 1))) none]) (AC.block 0 (AC.loop (AC.seq (AC.seq (AC.ops [AOper.mk (some 28) (AOp.mov (Operand.tmp 10)) none,
  AOper.mk (some 29) (AOp.mov (Operand.tmp 8)) none, AOper.mk (some 30) (AOp.mov (Operand.tmp 7)) none, AOper.mk (some 31) (AOp.bin false BinOp.sub
  (Operand.tmp 29) (Operand.tmp 30)) none, AOper.mk (some 32) (AOp.bin false BinOp.leq (Operand.tmp 28) (Operand.tmp 31)) none]) (AC.cond (Operand.tmp
  32) AC.skip (AC.exit 0))) (AC.seq (AC.block 1 (AC.seq (AC.ops [AOper.mk (some 11) (AOp.mov (Operand.const (Value.slice none 0 0))) none]) (AC.seq
  (AC.seq (AC.ops [AOper.mk (some 35) (AOp.mov (Operand.tmp 1)) none, AOper.mk (some 36) (AOp.len (Operand.tmp 35)) none, AOper.mk (some 37) (AOp.mov
  (Operand.const (Value.int IntKind.i64 0))) none]) (AC.block 2 (AC.loop (AC.seq (AC.ops [AOper.mk (some 38) (AOp.bin false BinOp.lss (Operand.tmp 37)
  (Operand.tmp 36)) none]) (AC.seq (AC.cond (Operand.tmp 38) AC.skip (AC.exit 2)) (AC.seq (AC.block 3 (AC.seq (AC.ops [AOper.mk (some 39) (AOp.mov
  (Operand.tmp 37)) none, AOper.mk (some 40) (AOp.iadr 1 (Operand.tmp 35) (Operand.tmp 37)) none, AOper.mk (some 41) (AOp.load false 1 (Operand.tmp 40))
  none, AOper.mk (some 12) (AOp.mov (Operand.tmp 39)) none, AOper.mk (some 13) (AOp.mov (Operand.tmp 41)) none]) (AC.seq (AC.ops [AOper.mk (some 42)
  (AOp.mov (Operand.tmp 13)) none, AOper.mk (some 43) (AOp.mov (Operand.tmp 8)) none, AOper.mk (some 44) (AOp.mov (Operand.tmp 10)) none, AOper.mk (some
  45) (AOp.bin false BinOp.sub (Operand.tmp 43) (Operand.tmp 44)) none, AOper.mk (some 46) (AOp.bin false BinOp.gtr (Operand.tmp 42) (Operand.tmp 45))
  none]) (AC.cond (Operand.tmp 46) (AC.ops [AOper.mk (some 47) (AOp.mov (Operand.tmp 11)) none, AOper.mk (some 48) (AOp.mov (Operand.tmp 12)) none,
  AOper.mk (some 49) (AOp.bsl 3 1 [Operand.tmp 48]) none, AOper.mk (some 50) (AOp.app 3 1 (Operand.tmp 47) (Operand.tmp 49)) none, AOper.mk (some 11)
  (AOp.mov (Operand.tmp 50)) none]) AC.skip)))) (AC.ops [AOper.mk (some 51) (AOp.bin false BinOp.add (Operand.tmp 37) (Operand.const (Value.int
  IntKind.i64 1))) none, AOper.mk (some 37) (AOp.mov (Operand.tmp 51)) none]))))))) (AC.ops [AOper.mk (some 52) (AOp.mov (Operand.tmp 9)) none, AOper.mk
  (some 53) (AOp.mov (Operand.tmp 11)) none, AOper.mk (some 54) (AOp.bslT 25 [Operand.tmp 53]) none, AOper.mk (some 55) (AOp.appT 25 (Operand.tmp 52)
  (Operand.tmp 54)) none, AOper.mk (some 9) (AOp.mov (Operand.tmp 55)) none])))) (AC.ops [AOper.mk (some 33) (AOp.mov (Operand.tmp 10)) none, AOper.mk
  (some 34) (AOp.bin false BinOp.add (Operand.tmp 33) (Operand.const (Value.int IntKind.i64 1))) none, AOper.mk (some 10) (AOp.mov (Operand.tmp 34))
  none])))))) (AC.seq (AC.ops [AOper.mk (some 56) (AOp.mov (Operand.tmp 9)) none, AOper.mk (some 4) (AOp.mov (Operand.tmp 56)) none, AOper.mk (some 5)
  (AOp.mov (Operand.const (Value.int IntKind.i64 0))) none]) AC.ret))))))) [ARes.tmp 4, ARes.tmp 5]
theorem cfn25 : cfn Try.prog 25 2 = some c25 := by kernel_rfl
def c26 : AFn :=
  AFn.mk 56 (AC.seq (AC.ops [AOper.mk (some 2) (AOp.box 24 (Operand.tmp 0)) none, AOper.mk (some 4) (AOp.mov (Operand.const (Value.slice none 0 0)))
  none, AOper.mk (some 5) (AOp.mov (Operand.const (Value.int IntKind.i64 0))) none]) (AC.seq (AC.seq (AC.ops [AOper.mk (some 13) (AOp.load true 2
  (Operand.tmp 2)) none, AOper.mk (some 14) (AOp.mov (Operand.tmp 1)) none, AOper.mk (some 15) (AOp.call 17 [Operand.tmp 13, Operand.tmp 14]) none,
  AOper.mk (some 6) (AOp.mov (Operand.tmp 15)) none]) (AC.seq (AC.ops [AOper.mk (some 16) (AOp.mov (Operand.tmp 6)) none, AOper.mk (some 17) (AOp.bin
  false BinOp.neq (Operand.tmp 16) (Operand.const (Value.int IntKind.i64 0))) none]) (AC.cond (Operand.tmp 17) (AC.seq (AC.ops [AOper.mk (some 18)
  (AOp.mov (Operand.tmp 6)) none, AOper.mk (some 4) (AOp.mov (Operand.const (Value.slice none 0 0))) none, AOper.mk (some 5) (AOp.mov (Operand.tmp 18))
  none]) AC.ret) AC.skip))) (AC.seq (AC.ops [AOper.mk (some 20) (AOp.mov (Operand.tmp 1)) none, AOper.mk (some 21) (AOp.call 67 [Operand.tmp 20]) none,
  AOper.mk (some 19) (AOp.mov (Operand.tmp 21)) none, AOper.mk (some 22) (AOp.ext (Operand.tmp 19) 0) none, AOper.mk (some 23) (AOp.ext (Operand.tmp 19)
  1) none, AOper.mk (some 7) (AOp.mov (Operand.tmp 22)) none, AOper.mk (some 8) (AOp.mov (Operand.tmp 23)) none]) (AC.seq (AC.seq (AC.ops [AOper.mk (some
  24) (AOp.mov (Operand.tmp 8)) none, AOper.mk (some 25) (AOp.mov (Operand.tmp 7)) none, AOper.mk (some 26) (AOp.bin false BinOp.sub (Operand.tmp 24)
  (Operand.tmp 25)) none, AOper.mk (some 27) (AOp.bin false BinOp.gtr (Operand.tmp 26) (Operand.const (Value.int IntKind.i64 256))) none]) (AC.cond
  (Operand.tmp 27) (AC.seq (AC.ops [AOper.mk (some 4) (AOp.mov (Operand.const (Value.slice none 0 0))) none, AOper.mk (some 5) (AOp.mov (Operand.const
  (Value.int IntKind.i64 12))) none]) AC.ret) AC.skip)) (AC.seq (AC.ops [AOper.mk (some 9) (AOp.mov (Operand.const (Value.slice none 0 0))) none])
  (AC.seq (AC.seq (AC.ops [AOper.mk (some 28) (AOp.mov (Operand.tmp 8)) none, AOper.mk (some 29) (AOp.bin false BinOp.sub (Operand.tmp 28) (Operand.const
  (Value.int IntKind.i64 1))) none, AOper.mk (some 10) (AOp.mov (Operand.tmp 29)) none]) (AC.block 0 (AC.loop (AC.seq (AC.seq (AC.ops [AOper.mk (some 30)
  (AOp.mov (Operand.tmp 10)) none, AOper.mk (some 31) (AOp.mov (Operand.tmp 7)) none, AOper.mk (some 32) (AOp.bin false BinOp.geq (Operand.tmp 30)
  (Operand.tmp 31)) none]) (AC.cond (Operand.tmp 32) AC.skip (AC.exit 0))) (AC.seq (AC.block 1 (AC.seq (AC.ops [AOper.mk (some 11) (AOp.mov
  (Operand.const (Value.slice none 0 0))) none]) (AC.seq (AC.seq (AC.ops [AOper.mk (some 12) (AOp.mov (Operand.const (Value.int IntKind.i64 0))) none])
  (AC.block 2 (AC.loop (AC.seq (AC.seq (AC.ops [AOper.mk (some 35) (AOp.mov (Operand.tmp 12)) none, AOper.mk (some 36) (AOp.fadr 0 (Operand.tmp 2)) none,
  AOper.mk (some 37) (AOp.load false 1 (Operand.tmp 36)) none, AOper.mk (some 38) (AOp.bin false BinOp.lss (Operand.tmp 35) (Operand.tmp 37)) none])
  (AC.cond (Operand.tmp 38) AC.skip (AC.exit 2))) (AC.seq (AC.block 3 (AC.seq (AC.ops [AOper.mk (some 41) (AOp.mov (Operand.tmp 1)) none, AOper.mk (some
  42) (AOp.mov (Operand.tmp 12)) none, AOper.mk (some 43) (AOp.iadr 1 (Operand.tmp 41) (Operand.tmp 42)) none, AOper.mk (some 44) (AOp.load false 1
  (Operand.tmp 43)) none, AOper.mk (some 45) (AOp.mov (Operand.tmp 10)) none, AOper.mk (some 46) (AOp.bin false BinOp.gtr (Operand.tmp 44) (Operand.tmp
  45)) none]) (AC.cond (Operand.tmp 46) (AC.ops [AOper.mk (some 47) (AOp.mov (Operand.tmp 11)) none, AOper.mk (some 48) (AOp.mov (Operand.tmp 12)) none,
  AOper.mk (some 49) (AOp.bsl 3 1 [Operand.tmp 48]) none, AOper.mk (some 50) (AOp.app 3 1 (Operand.tmp 47) (Operand.tmp 49)) none, AOper.mk (some 11)
  (AOp.mov (Operand.tmp 50)) none]) AC.skip))) (AC.ops [AOper.mk (some 39) (AOp.mov (Operand.tmp 12)) none, AOper.mk (some 40) (AOp.bin false BinOp.add
  (Operand.tmp 39) (Operand.const (Value.int IntKind.i64 1))) none, AOper.mk (some 12) (AOp.mov (Operand.tmp 40)) none])))))) (AC.ops [AOper.mk (some 51)
  (AOp.mov (Operand.tmp 9)) none, AOper.mk (some 52) (AOp.mov (Operand.tmp 11)) none, AOper.mk (some 53) (AOp.bslT 25 [Operand.tmp 52]) none, AOper.mk
  (some 54) (AOp.appT 25 (Operand.tmp 51) (Operand.tmp 53)) none, AOper.mk (some 9) (AOp.mov (Operand.tmp 54)) none])))) (AC.ops [AOper.mk (some 33)
  (AOp.mov (Operand.tmp 10)) none, AOper.mk (some 34) (AOp.bin false BinOp.sub (Operand.tmp 33) (Operand.const (Value.int IntKind.i64 1))) none, AOper.mk
  (some 10) (AOp.mov (Operand.tmp 34)) none])))))) (AC.seq (AC.ops [AOper.mk (some 55) (AOp.mov (Operand.tmp 9)) none, AOper.mk (some 4) (AOp.mov
  (Operand.tmp 55)) none, AOper.mk (some 5) (AOp.mov (Operand.const (Value.int IntKind.i64 0))) none]) AC.ret))))))) [ARes.tmp 4, ARes.tmp 5]
theorem cfn26 : cfn Try.prog 26 2 = some c26 := by kernel_rfl
def c27 : AFn :=
  AFn.mk 27 (AC.seq (AC.ops [AOper.mk (some 4) (AOp.mov (Operand.const (Value.bool false))) none]) (AC.seq (AC.seq (AC.ops [AOper.mk (some 6) (AOp.mov
  (Operand.tmp 0)) none, AOper.mk (some 7) (AOp.len (Operand.tmp 6)) none, AOper.mk (some 8) (AOp.mov (Operand.tmp 1)) none, AOper.mk (some 9) (AOp.len
  (Operand.tmp 8)) none, AOper.mk (some 10) (AOp.bin false BinOp.neq (Operand.tmp 7) (Operand.tmp 9)) none]) (AC.cond (Operand.tmp 10) (AC.seq (AC.ops
  [AOper.mk (some 4) (AOp.mov (Operand.const (Value.bool false))) none]) AC.ret) AC.skip)) (AC.seq (AC.seq (AC.ops [AOper.mk (some 5) (AOp.mov
  (Operand.const (Value.int IntKind.i64 0))) none]) (AC.block 0 (AC.loop (AC.seq (AC.seq (AC.ops [AOper.mk (some 11) (AOp.mov (Operand.tmp 5)) none,
  AOper.mk (some 12) (AOp.mov (Operand.tmp 0)) none, AOper.mk (some 13) (AOp.len (Operand.tmp 12)) none, AOper.mk (some 14) (AOp.bin false BinOp.lss
  (Operand.tmp 11) (Operand.tmp 13)) none]) (AC.cond (Operand.tmp 14) AC.skip (AC.exit 0))) (AC.seq (AC.block 1 (AC.seq (AC.segs [([AOper.mk (some 17)
  (AOp.mov (Operand.tmp 0)) none, AOper.mk (some 18) (AOp.mov (Operand.tmp 5)) none, AOper.mk (some 19) (AOp.iadr 1 (Operand.tmp 17) (Operand.tmp 18))
  none, AOper.mk (some 20) (AOp.load false 1 (Operand.tmp 19)) none, AOper.mk (some 21) (AOp.mov (Operand.tmp 1)) none, AOper.mk (some 22) (AOp.mov
  (Operand.tmp 5)) none, AOper.mk (some 23) (AOp.iadr 1 (Operand.tmp 21) (Operand.tmp 22)) none, AOper.mk (some 24) (AOp.load false 1 (Operand.tmp 23))
  none], some (true, AOper.mk (some 25) (AOp.call 68 [Operand.tmp 20, Operand.tmp 24]) none)), ([AOper.mk (some 26) (AOp.un UnOp.not (Operand.tmp 25))
  none], none)]) (AC.cond (Operand.tmp 26) (AC.seq (AC.ops [AOper.mk (some 4) (AOp.mov (Operand.const (Value.bool false))) none]) AC.ret) AC.skip)))
  (AC.ops [AOper.mk (some 15) (AOp.mov (Operand.tmp 5)) none, AOper.mk (some 16) (AOp.bin false BinOp.add (Operand.tmp 15) (Operand.const (Value.int
  IntKind.i64 1))) none, AOper.mk (some 5) (AOp.mov (Operand.tmp 16)) none])))))) (AC.seq (AC.ops [AOper.mk (some 4) (AOp.mov (Operand.const (Value.bool
  true))) none]) AC.ret)))) [ARes.tmp 4]
theorem cfn27 : cfn Try.prog 27 2 = some c27 := by kernel_rfl
def c28 : AFn :=
  AFn.mk 22 (AC.seq (AC.ops [AOper.mk (some 2) (AOp.mov (Operand.const (Value.bool false))) none]) (AC.seq (AC.seq (AC.ops [AOper.mk (some 3) (AOp.mov
  (Operand.const (Value.int IntKind.i64 0))) none]) (AC.block 0 (AC.loop (AC.seq (AC.seq (AC.ops [AOper.mk (some 4) (AOp.mov (Operand.tmp 3)) none,
  AOper.mk (some 5) (AOp.mov (Operand.tmp 0)) none, AOper.mk (some 6) (AOp.len (Operand.tmp 5)) none, AOper.mk (some 7) (AOp.bin false BinOp.lss
  (Operand.tmp 4) (Operand.tmp 6)) none]) (AC.cond (Operand.tmp 7) AC.skip (AC.exit 0))) (AC.seq (AC.block 1 (AC.seq (AC.ops [AOper.mk (some 10) (AOp.mov
  (Operand.tmp 0)) none, AOper.mk (some 11) (AOp.mov (Operand.tmp 3)) none, AOper.mk (some 12) (AOp.iadr 1 (Operand.tmp 10) (Operand.tmp 11)) none,
  AOper.mk (some 13) (AOp.load false 1 (Operand.tmp 12)) none, AOper.mk (some 14) (AOp.bin false BinOp.lss (Operand.tmp 13) (Operand.const (Value.int
  IntKind.i64 (-60)))) none, AOper.mk (some 15) (AOp.mov (Operand.tmp 14)) none, AOper.mk (some 16) (AOp.mov (Operand.tmp 0)) (some (15, false)),
  AOper.mk (some 17) (AOp.mov (Operand.tmp 3)) (some (15, false)), AOper.mk (some 18) (AOp.iadr 1 (Operand.tmp 16) (Operand.tmp 17)) (some (15, false)),
  AOper.mk (some 19) (AOp.load false 1 (Operand.tmp 18)) (some (15, false)), AOper.mk (some 20) (AOp.bin false BinOp.gtr (Operand.tmp 19) (Operand.const
  (Value.int IntKind.i64 60))) (some (15, false)), AOper.mk (some 21) (AOp.pick (Operand.tmp 15) (Operand.const (Value.bool true)) (Operand.tmp 20))
  none]) (AC.cond (Operand.tmp 21) (AC.seq (AC.ops [AOper.mk (some 2) (AOp.mov (Operand.const (Value.bool false))) none]) AC.ret) AC.skip))) (AC.ops
  [AOper.mk (some 8) (AOp.mov (Operand.tmp 3)) none, AOper.mk (some 9) (AOp.bin false BinOp.add (Operand.tmp 8) (Operand.const (Value.int IntKind.i64
  1))) none, AOper.mk (some 3) (AOp.mov (Operand.tmp 9)) none])))))) (AC.seq (AC.ops [AOper.mk (some 2) (AOp.mov (Operand.const (Value.bool true)))
  none]) AC.ret))) [ARes.tmp 2]
theorem cfn28 : cfn Try.prog 28 1 = some c28 := by kernel_rfl
def c29 : AFn :=
  AFn.mk 18 (AC.seq (AC.ops [AOper.mk (some 2) (AOp.box 24 (Operand.tmp 0)) none, AOper.mk (some 4) (AOp.mov (Operand.const (Value.bool false))) none])
  (AC.seq (AC.ops [AOper.mk (some 5) (AOp.load true 2 (Operand.tmp 2)) none, AOper.mk (some 6) (AOp.mov (Operand.tmp 1)) none, AOper.mk (some 7)
  (AOp.call 12 [Operand.tmp 5, Operand.tmp 6]) none, AOper.mk (some 8) (AOp.mov (Operand.tmp 7)) none, AOper.mk (some 9) (AOp.load true 2 (Operand.tmp
  2)) (some (8, true)), AOper.mk (some 10) (AOp.mov (Operand.tmp 1)) (some (8, true)), AOper.mk (some 11) (AOp.call 60 [Operand.tmp 9, Operand.tmp 10])
  (some (8, true)), AOper.mk (some 12) (AOp.bin false BinOp.eql (Operand.tmp 11) (Operand.const (Value.int IntKind.i64 0))) (some (8, true)), AOper.mk
  (some 13) (AOp.pick (Operand.tmp 8) (Operand.tmp 12) (Operand.const (Value.bool false))) none, AOper.mk (some 14) (AOp.mov (Operand.tmp 13)) none,
  AOper.mk (some 15) (AOp.mov (Operand.tmp 1)) (some (14, true)), AOper.mk (some 16) (AOp.call 28 [Operand.tmp 15]) (some (14, true)), AOper.mk (some 17)
  (AOp.pick (Operand.tmp 14) (Operand.tmp 16) (Operand.const (Value.bool false))) none, AOper.mk (some 4) (AOp.mov (Operand.tmp 17)) none]) AC.ret))
  [ARes.tmp 4]
theorem cfn29 : cfn Try.prog 29 2 = some c29 := by kernel_rfl
def c30 : AFn :=
  AFn.mk 33 (AC.seq (AC.ops [AOper.mk (some 2) (AOp.box 24 (Operand.tmp 0)) none, AOper.mk (some 4) (AOp.mov (Operand.const (Value.int IntKind.i64 0)))
  none]) (AC.seq (AC.seq (AC.ops [AOper.mk (some 5) (AOp.mov (Operand.const (Value.int IntKind.i64 0))) none]) (AC.block 0 (AC.loop (AC.seq (AC.seq
  (AC.ops [AOper.mk (some 6) (AOp.mov (Operand.tmp 5)) none, AOper.mk (some 7) (AOp.mov (Operand.tmp 1)) none, AOper.mk (some 8) (AOp.len (Operand.tmp
  7)) none, AOper.mk (some 9) (AOp.bin false BinOp.lss (Operand.tmp 6) (Operand.tmp 8)) none]) (AC.cond (Operand.tmp 9) AC.skip (AC.exit 0))) (AC.seq
  (AC.block 1 (AC.seq (AC.seq (AC.segs [([AOper.mk (some 12) (AOp.load true 2 (Operand.tmp 2)) none, AOper.mk (some 13) (AOp.mov (Operand.tmp 1)) none,
  AOper.mk (some 14) (AOp.mov (Operand.tmp 5)) none, AOper.mk (some 15) (AOp.iadr 1 (Operand.tmp 13) (Operand.tmp 14)) none, AOper.mk (some 16) (AOp.load
  false 1 (Operand.tmp 15)) none], some (true, AOper.mk (some 17) (AOp.call 61 [Operand.tmp 12, Operand.tmp 16]) none)), ([AOper.mk (some 18) (AOp.un
  UnOp.not (Operand.tmp 17)) none], none)]) (AC.cond (Operand.tmp 18) (AC.seq (AC.ops [AOper.mk (some 4) (AOp.mov (Operand.const (Value.int IntKind.i64
  2))) none]) AC.ret) AC.skip)) (AC.seq (AC.segs [([AOper.mk (some 19) (AOp.mov (Operand.tmp 5)) none, AOper.mk (some 20) (AOp.bin false BinOp.gtr
  (Operand.tmp 19) (Operand.const (Value.int IntKind.i64 0))) none, AOper.mk (some 21) (AOp.mov (Operand.tmp 20)) none, AOper.mk (some 22) (AOp.mov
  (Operand.tmp 1)) (some (21, true)), AOper.mk (some 23) (AOp.mov (Operand.tmp 5)) (some (21, true)), AOper.mk (some 24) (AOp.iadr 1 (Operand.tmp 22)
  (Operand.tmp 23)) (some (21, true)), AOper.mk (some 25) (AOp.load false 1 (Operand.tmp 24)) (some (21, true)), AOper.mk (some 26) (AOp.mov (Operand.tmp
  1)) (some (21, true)), AOper.mk (some 27) (AOp.mov (Operand.tmp 5)) (some (21, true)), AOper.mk (some 28) (AOp.bin false BinOp.sub (Operand.tmp 27)
  (Operand.const (Value.int IntKind.i64 1))) (some (21, true)), AOper.mk (some 29) (AOp.iadr 1 (Operand.tmp 26) (Operand.tmp 28)) (some (21, true)),
  AOper.mk (some 30) (AOp.load false 1 (Operand.tmp 29)) (some (21, true)), AOper.mk (some 31) (AOp.bin false BinOp.leq (Operand.tmp 25) (Operand.tmp
  30)) (some (21, true)), AOper.mk (some 32) (AOp.pick (Operand.tmp 21) (Operand.tmp 31) (Operand.const (Value.bool false))) none], none)]) (AC.cond
  (Operand.tmp 32) (AC.seq (AC.ops [AOper.mk (some 4) (AOp.mov (Operand.const (Value.int IntKind.i64 9))) none]) AC.ret) AC.skip)))) (AC.ops [AOper.mk
  (some 10) (AOp.mov (Operand.tmp 5)) none, AOper.mk (some 11) (AOp.bin false BinOp.add (Operand.tmp 10) (Operand.const (Value.int IntKind.i64 1))) none,
  AOper.mk (some 5) (AOp.mov (Operand.tmp 11)) none])))))) (AC.seq (AC.ops [AOper.mk (some 4) (AOp.mov (Operand.const (Value.int IntKind.i64 0))) none])
  AC.ret))) [ARes.tmp 4]
theorem cfn30 : cfn Try.prog 30 2 = some c30 := by kernel_rfl
def c31 : AFn :=
  AFn.mk 9 (AC.seq (AC.ops [AOper.mk (some 4) (AOp.mov (Operand.const (Value.bool false))) none]) (AC.seq (AC.ops [AOper.mk (some 5) (AOp.mov
  (Operand.tmp 0)) none, AOper.mk (some 6) (AOp.mov (Operand.tmp 1)) none, AOper.mk (some 7) (AOp.call 69 [Operand.tmp 5, Operand.tmp 6]) none, AOper.mk
  (some 8) (AOp.bin false BinOp.geq (Operand.tmp 7) (Operand.const (Value.int IntKind.i64 0))) none, AOper.mk (some 4) (AOp.mov (Operand.tmp 8)) none])
  AC.ret)) [ARes.tmp 4]
theorem cfn31 : cfn Try.prog 31 2 = some c31 := by kernel_rfl
def c32 : AFn :=
  AFn.mk 80 (AC.seq (AC.ops [AOper.mk (some 3) (AOp.box 24 (Operand.tmp 0)) none, AOper.mk (some 4) (AOp.box 28 (Operand.tmp 1)) none, AOper.mk (some 6)
  (AOp.mov (Operand.const (Value.bool false))) none, AOper.mk (some 7) (AOp.mov (Operand.const (Value.int IntKind.i64 0))) none]) (AC.seq (AC.seq (AC.ops
  [AOper.mk (some 16) (AOp.load true 2 (Operand.tmp 3)) none, AOper.mk (some 17) (AOp.load false 1 (Operand.tmp 4)) none, AOper.mk (some 18) (AOp.mov
  (Operand.tmp 2)) none, AOper.mk (some 19) (AOp.call 63 [Operand.tmp 16, Operand.tmp 17, Operand.tmp 18]) none, AOper.mk (some 8) (AOp.mov (Operand.tmp
  19)) none]) (AC.seq (AC.ops [AOper.mk (some 20) (AOp.mov (Operand.tmp 8)) none, AOper.mk (some 21) (AOp.bin false BinOp.neq (Operand.tmp 20)
  (Operand.const (Value.int IntKind.i64 0))) none]) (AC.cond (Operand.tmp 21) (AC.seq (AC.ops [AOper.mk (some 22) (AOp.mov (Operand.tmp 8)) none,
  AOper.mk (some 6) (AOp.mov (Operand.const (Value.bool false))) none, AOper.mk (some 7) (AOp.mov (Operand.tmp 22)) none]) AC.ret) AC.skip))) (AC.seq
  (AC.ops [AOper.mk (some 23) (AOp.fadr 0 (Operand.tmp 3)) none, AOper.mk (some 24) (AOp.load false 1 (Operand.tmp 23)) none, AOper.mk (some 25) (AOp.mk
  3 1 (PV.v (Value.int IntKind.i64 0)) (Operand.tmp 24) (Operand.tmp 24)) none, AOper.mk (some 9) (AOp.zro 25 (PV.v (Value.slice none 0 0))) none,
  AOper.mk none (AOp.store 1 (Operand.tmp 9) (Operand.tmp 25)) none]) (AC.seq (AC.ops [AOper.mk (some 10) (AOp.mov (Operand.const (Value.bool false)))
  none]) (AC.seq (AC.seq (AC.ops [AOper.mk (some 26) (AOp.fadr 1 (Operand.tmp 3)) none, AOper.mk (some 27) (AOp.load false 1 (Operand.tmp 26)) none,
  AOper.mk (some 28) (AOp.len (Operand.tmp 27)) none, AOper.mk (some 29) (AOp.mov (Operand.const (Value.int IntKind.i64 0))) none]) (AC.block 0 (AC.loop
  (AC.seq (AC.ops [AOper.mk (some 30) (AOp.bin false BinOp.lss (Operand.tmp 29) (Operand.tmp 28)) none]) (AC.seq (AC.cond (Operand.tmp 30) AC.skip
  (AC.exit 0)) (AC.seq (AC.block 1 (AC.seq (AC.ops [AOper.mk (some 31) (AOp.iadr 3 (Operand.tmp 27) (Operand.tmp 29)) none, AOper.mk (some 32) (AOp.load
  true 3 (Operand.tmp 31)) none, AOper.mk (some 12) (AOp.zro 99 (PV.agg [PV.v (Value.int IntKind.i64 0), PV.v (Value.int IntKind.i64 0), PV.v (Value.int
  IntKind.i64 0)])) none, AOper.mk none (AOp.store 3 (Operand.tmp 12) (Operand.tmp 32)) none]) (AC.seq (AC.segs [([AOper.mk (some 33) (AOp.mov
  (Operand.tmp 2)) none, AOper.mk (some 34) (AOp.fadr 0 (Operand.tmp 12)) none, AOper.mk (some 35) (AOp.load false 1 (Operand.tmp 34)) none, AOper.mk
  (some 37) (AOp.mov (Operand.tmp 2)) none, AOper.mk (some 38) (AOp.fadr 1 (Operand.tmp 12)) none, AOper.mk (some 39) (AOp.load false 1 (Operand.tmp 38))
  none], some (true, AOper.mk (some 36) (AOp.call 31 [Operand.tmp 33, Operand.tmp 35]) none)), ([], some (true, AOper.mk (some 40) (AOp.call 31
  [Operand.tmp 37, Operand.tmp 39]) none)), ([AOper.mk (some 13) (AOp.mov (Operand.tmp 36)) none, AOper.mk (some 14) (AOp.mov (Operand.tmp 40)) none],
  none)]) (AC.seq (AC.block 2 (AC.seq (AC.ops [AOper.mk (some 42) (AOp.mov (Operand.tmp 13)) none, AOper.mk (some 43) (AOp.mov (Operand.tmp 42)) none,
  AOper.mk (some 44) (AOp.mov (Operand.tmp 14)) (some (43, true)), AOper.mk (some 45) (AOp.un UnOp.not (Operand.tmp 44)) (some (43, true)), AOper.mk
  (some 46) (AOp.pick (Operand.tmp 43) (Operand.tmp 45) (Operand.const (Value.bool false))) none, AOper.mk (some 41) (AOp.mov (Operand.tmp 46)) none])
  (AC.cond (Operand.tmp 41) (AC.segs [([AOper.mk (some 47) (AOp.load false 1 (Operand.tmp 9)) none, AOper.mk (some 48) (AOp.fadr 0 (Operand.tmp 12))
  none, AOper.mk (some 49) (AOp.load false 1 (Operand.tmp 48)) none, AOper.mk (some 50) (AOp.iadr 1 (Operand.tmp 47) (Operand.tmp 49)) none, AOper.mk
  (some 51) (AOp.load false 1 (Operand.tmp 50)) none, AOper.mk (some 52) (AOp.fadr 2 (Operand.tmp 12)) none, AOper.mk (some 53) (AOp.load false 1
  (Operand.tmp 52)) none, AOper.mk (some 54) (AOp.bin false BinOp.add (Operand.tmp 51) (Operand.tmp 53)) none, AOper.mk (some 55) (AOp.iadr 1
  (Operand.tmp 47) (Operand.tmp 49)) none], some (false, AOper.mk none (AOp.store 1 (Operand.tmp 55) (Operand.tmp 54)) none))]) (AC.seq (AC.ops [AOper.mk
  (some 57) (AOp.mov (Operand.tmp 14)) none, AOper.mk (some 58) (AOp.mov (Operand.tmp 57)) none, AOper.mk (some 59) (AOp.mov (Operand.tmp 13)) (some (58,
  true)), AOper.mk (some 60) (AOp.un UnOp.not (Operand.tmp 59)) (some (58, true)), AOper.mk (some 61) (AOp.pick (Operand.tmp 58) (Operand.tmp 60)
  (Operand.const (Value.bool false))) none, AOper.mk (some 56) (AOp.mov (Operand.tmp 61)) none]) (AC.cond (Operand.tmp 56) (AC.segs [([AOper.mk (some 62)
  (AOp.load false 1 (Operand.tmp 9)) none, AOper.mk (some 63) (AOp.fadr 1 (Operand.tmp 12)) none, AOper.mk (some 64) (AOp.load false 1 (Operand.tmp 63))
  none, AOper.mk (some 65) (AOp.iadr 1 (Operand.tmp 62) (Operand.tmp 64)) none, AOper.mk (some 66) (AOp.load false 1 (Operand.tmp 65)) none, AOper.mk
  (some 67) (AOp.fadr 2 (Operand.tmp 12)) none, AOper.mk (some 68) (AOp.load false 1 (Operand.tmp 67)) none, AOper.mk (some 69) (AOp.bin false BinOp.add
  (Operand.tmp 66) (Operand.tmp 68)) none, AOper.mk (some 70) (AOp.iadr 1 (Operand.tmp 62) (Operand.tmp 64)) none], some (false, AOper.mk none (AOp.store
  1 (Operand.tmp 70) (Operand.tmp 69)) none))]) (AC.exit 1)))))) (AC.ops [AOper.mk (some 10) (AOp.mov (Operand.const (Value.bool true))) none])))))
  (AC.ops [AOper.mk (some 71) (AOp.bin false BinOp.add (Operand.tmp 29) (Operand.const (Value.int IntKind.i64 1))) none, AOper.mk (some 29) (AOp.mov
  (Operand.tmp 71)) none]))))))) (AC.seq (AC.ops [AOper.mk (some 72) (AOp.fn (Fn.func 70) [] [Operand.tmp 4, Operand.tmp 9]) none, AOper.mk (some 15)
  (AOp.zro 100 (PV.v Value.nilFunc)) none, AOper.mk none (AOp.store 1 (Operand.tmp 15) (Operand.tmp 72)) none]) (AC.seq (AC.ops [AOper.mk (some 73)
  (AOp.mov (Operand.tmp 10)) none, AOper.mk (some 74) (AOp.mov (Operand.tmp 73)) none, AOper.mk (some 75) (AOp.mov (Operand.tmp 2)) (some (74, true)),
  AOper.mk (some 76) (AOp.fn (Fn.func 72) [] [Operand.tmp 15]) (some (74, true)), AOper.mk (some 77) (AOp.call 71 [Operand.tmp 75, Operand.tmp 76]) (some
  (74, true)), AOper.mk (some 78) (AOp.un UnOp.not (Operand.tmp 77)) (some (74, true)), AOper.mk (some 79) (AOp.pick (Operand.tmp 74) (Operand.tmp 78)
  (Operand.const (Value.bool false))) none, AOper.mk (some 6) (AOp.mov (Operand.tmp 79)) none, AOper.mk (some 7) (AOp.mov (Operand.const (Value.int
  IntKind.i64 0))) none]) AC.ret))))))) [ARes.tmp 6, ARes.tmp 7]
theorem cfn32 : cfn Try.prog 32 3 = some c32 := by kernel_rfl
def c33 : AFn :=
  AFn.mk 22 (AC.seq (AC.ops [AOper.mk (some 3) (AOp.box 24 (Operand.tmp 0)) none, AOper.mk (some 6) (AOp.mov (Operand.const (Value.bool false))) none,
  AOper.mk (some 7) (AOp.mov (Operand.const (Value.int IntKind.i64 0))) none]) (AC.seq (AC.seq (AC.ops [AOper.mk (some 9) (AOp.load true 2 (Operand.tmp
  3)) none, AOper.mk (some 10) (AOp.mov (Operand.tmp 1)) none, AOper.mk (some 11) (AOp.mov (Operand.tmp 2)) none, AOper.mk (some 12) (AOp.call 58
  [Operand.tmp 9, Operand.tmp 10, Operand.tmp 11]) none, AOper.mk (some 8) (AOp.mov (Operand.tmp 12)) none]) (AC.seq (AC.ops [AOper.mk (some 13) (AOp.mov
  (Operand.tmp 8)) none, AOper.mk (some 14) (AOp.bin false BinOp.neq (Operand.tmp 13) (Operand.const (Value.int IntKind.i64 0))) none]) (AC.cond
  (Operand.tmp 14) (AC.seq (AC.ops [AOper.mk (some 15) (AOp.mov (Operand.tmp 8)) none, AOper.mk (some 6) (AOp.mov (Operand.const (Value.bool false)))
  none, AOper.mk (some 7) (AOp.mov (Operand.tmp 15)) none]) AC.ret) AC.skip))) (AC.seq (AC.ops [AOper.mk (some 16) (AOp.load true 2 (Operand.tmp 3))
  none, AOper.mk (some 17) (AOp.mov (Operand.tmp 1)) none, AOper.mk (some 18) (AOp.bld [PV.v (Value.int IntKind.i64 0), PV.v (Value.slice none 0 0), PV.v
  (Value.slice none 0 0)] [(0, 2), (2, 1)] [(0, Operand.tmp 16), (1, Operand.tmp 17)]) none, AOper.mk (some 19) (AOp.box 104 (Operand.tmp 18)) none,
  AOper.mk (some 20) (AOp.mov (Operand.tmp 2)) none, AOper.mk (some 21) (AOp.call 73 [Operand.tmp 19, Operand.tmp 20]) none, AOper.mk (some 6) (AOp.mov
  (Operand.tmp 21)) none, AOper.mk (some 7) (AOp.mov (Operand.const (Value.int IntKind.i64 0))) none]) AC.ret))) [ARes.tmp 6, ARes.tmp 7]
theorem cfn33 : cfn Try.prog 33 3 = some c33 := by kernel_rfl
def c34 : AFn :=
  AFn.mk 23 (AC.seq (AC.ops [AOper.mk (some 3) (AOp.box 24 (Operand.tmp 0)) none, AOper.mk (some 6) (AOp.mov (Operand.const (Value.bool false))) none,
  AOper.mk (some 7) (AOp.mov (Operand.const (Value.int IntKind.i64 0))) none]) (AC.seq (AC.seq (AC.ops [AOper.mk (some 9) (AOp.load true 2 (Operand.tmp
  3)) none, AOper.mk (some 10) (AOp.mov (Operand.tmp 1)) none, AOper.mk (some 11) (AOp.call 60 [Operand.tmp 9, Operand.tmp 10]) none, AOper.mk (some 8)
  (AOp.mov (Operand.tmp 11)) none]) (AC.seq (AC.ops [AOper.mk (some 12) (AOp.mov (Operand.tmp 8)) none, AOper.mk (some 13) (AOp.bin false BinOp.neq
  (Operand.tmp 12) (Operand.const (Value.int IntKind.i64 0))) none]) (AC.cond (Operand.tmp 13) (AC.seq (AC.ops [AOper.mk (some 14) (AOp.mov (Operand.tmp
  8)) none, AOper.mk (some 6) (AOp.mov (Operand.const (Value.bool false))) none, AOper.mk (some 7) (AOp.mov (Operand.tmp 14)) none]) AC.ret) AC.skip)))
  (AC.seq (AC.seq (AC.ops [AOper.mk (some 15) (AOp.load true 2 (Operand.tmp 3)) none, AOper.mk (some 16) (AOp.mov (Operand.tmp 2)) none, AOper.mk (some
  17) (AOp.call 61 [Operand.tmp 15, Operand.tmp 16]) none, AOper.mk (some 18) (AOp.un UnOp.not (Operand.tmp 17)) none]) (AC.cond (Operand.tmp 18) (AC.seq
  (AC.ops [AOper.mk (some 6) (AOp.mov (Operand.const (Value.bool false))) none, AOper.mk (some 7) (AOp.mov (Operand.const (Value.int IntKind.i64 2)))
  none]) AC.ret) AC.skip)) (AC.seq (AC.ops [AOper.mk (some 19) (AOp.load true 2 (Operand.tmp 3)) none, AOper.mk (some 20) (AOp.mov (Operand.tmp 1)) none,
  AOper.mk (some 21) (AOp.mov (Operand.tmp 2)) none, AOper.mk (some 22) (AOp.call 74 [Operand.tmp 19, Operand.tmp 20, Operand.tmp 21]) none, AOper.mk
  (some 6) (AOp.mov (Operand.tmp 22)) none, AOper.mk (some 7) (AOp.mov (Operand.const (Value.int IntKind.i64 0))) none]) AC.ret)))) [ARes.tmp 6, ARes.tmp
  7]
theorem cfn34 : cfn Try.prog 34 3 = some c34 := by kernel_rfl
def c35 : AFn :=
  AFn.mk 26 (AC.seq (AC.ops [AOper.mk (some 3) (AOp.box 24 (Operand.tmp 0)) none, AOper.mk (some 6) (AOp.mov (Operand.const (Value.bool false))) none,
  AOper.mk (some 7) (AOp.mov (Operand.const (Value.int IntKind.i64 0))) none]) (AC.seq (AC.seq (AC.ops [AOper.mk (some 10) (AOp.load true 2 (Operand.tmp
  3)) none, AOper.mk (some 11) (AOp.mov (Operand.tmp 1)) none, AOper.mk (some 12) (AOp.call 60 [Operand.tmp 10, Operand.tmp 11]) none, AOper.mk (some 8)
  (AOp.mov (Operand.tmp 12)) none]) (AC.seq (AC.ops [AOper.mk (some 13) (AOp.mov (Operand.tmp 8)) none, AOper.mk (some 14) (AOp.bin false BinOp.neq
  (Operand.tmp 13) (Operand.const (Value.int IntKind.i64 0))) none]) (AC.cond (Operand.tmp 14) (AC.seq (AC.ops [AOper.mk (some 15) (AOp.mov (Operand.tmp
  8)) none, AOper.mk (some 6) (AOp.mov (Operand.const (Value.bool false))) none, AOper.mk (some 7) (AOp.mov (Operand.tmp 15)) none]) AC.ret) AC.skip)))
  (AC.seq (AC.seq (AC.ops [AOper.mk (some 16) (AOp.load true 2 (Operand.tmp 3)) none, AOper.mk (some 17) (AOp.mov (Operand.tmp 2)) none, AOper.mk (some
  18) (AOp.call 30 [Operand.tmp 16, Operand.tmp 17]) none, AOper.mk (some 9) (AOp.mov (Operand.tmp 18)) none]) (AC.seq (AC.ops [AOper.mk (some 19)
  (AOp.mov (Operand.tmp 9)) none, AOper.mk (some 20) (AOp.bin false BinOp.neq (Operand.tmp 19) (Operand.const (Value.int IntKind.i64 0))) none]) (AC.cond
  (Operand.tmp 20) (AC.seq (AC.ops [AOper.mk (some 21) (AOp.mov (Operand.tmp 9)) none, AOper.mk (some 6) (AOp.mov (Operand.const (Value.bool false)))
  none, AOper.mk (some 7) (AOp.mov (Operand.tmp 21)) none]) AC.ret) AC.skip))) (AC.seq (AC.ops [AOper.mk (some 22) (AOp.load true 2 (Operand.tmp 3))
  none, AOper.mk (some 23) (AOp.mov (Operand.tmp 1)) none, AOper.mk (some 24) (AOp.mov (Operand.tmp 2)) none, AOper.mk (some 25) (AOp.call 75
  [Operand.tmp 22, Operand.tmp 23, Operand.tmp 24]) none, AOper.mk (some 6) (AOp.mov (Operand.tmp 25)) none, AOper.mk (some 7) (AOp.mov (Operand.const
  (Value.int IntKind.i64 0))) none]) AC.ret)))) [ARes.tmp 6, ARes.tmp 7]
theorem cfn35 : cfn Try.prog 35 3 = some c35 := by kernel_rfl
end Go.Proofs.Ytjkmhjjfipnbbaa
