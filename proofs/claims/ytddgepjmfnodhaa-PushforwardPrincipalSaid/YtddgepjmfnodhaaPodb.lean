/-
  The compiled code of the functions (printed by a program of mine).
-/
import Derived.Test.YtddgepjmfnodhaaMad
import Derived.Test.YtddgepjmfnodhaaChecked
namespace Go.Proofs.Ytddgepjmfnodhaa
open Go.Abs
def c9 : AFn :=
  AFn.mk 149 (AC.seq (AC.ops [AOper.mk (some 3) (AOp.box 26 (Operand.tmp 0)) none, AOper.mk (some 4) (AOp.box 29 (Operand.tmp 1)) none, AOper.mk (some 6)
  (AOp.mov (Operand.const (Value.bool false))) none]) (AC.seq (AC.seq (AC.ops [AOper.mk (some 23) (AOp.load true 4 (Operand.tmp 3)) none, AOper.mk (some
  24) (AOp.load true 2 (Operand.tmp 4)) none, AOper.mk (some 25) (AOp.mov (Operand.tmp 2)) none, AOper.mk (some 26) (AOp.call 10 [Operand.tmp 23,
  Operand.tmp 24, Operand.tmp 25]) none, AOper.mk (some 27) (AOp.un UnOp.not (Operand.tmp 26)) none, AOper.mk (some 28) (AOp.mov (Operand.tmp 27)) none,
  AOper.mk (some 29) (AOp.fadr 0 (Operand.tmp 3)) (some (28, false)), AOper.mk (some 30) (AOp.load true 2 (Operand.tmp 29)) (some (28, false)), AOper.mk
  (some 31) (AOp.fadr 2 (Operand.tmp 3)) (some (28, false)), AOper.mk (some 32) (AOp.load true 2 (Operand.tmp 31)) (some (28, false)), AOper.mk (some 33)
  (AOp.load true 2 (Operand.tmp 4)) (some (28, false)), AOper.mk (some 34) (AOp.call 20 [Operand.tmp 30, Operand.tmp 32, Operand.tmp 33]) (some (28,
  false)), AOper.mk (some 35) (AOp.bin false BinOp.neq (Operand.tmp 34) (Operand.const (Value.int IntKind.i64 0))) (some (28, false)), AOper.mk (some 36)
  (AOp.pick (Operand.tmp 28) (Operand.const (Value.bool true)) (Operand.tmp 35)) none]) (AC.cond (Operand.tmp 36) (AC.seq (AC.ops [AOper.mk (some 37)
  (AOp.call 11 []) none, AOper.mk (some 6) (AOp.mov (Operand.tmp 37)) none]) AC.ret) AC.skip)) (AC.seq (AC.seq (AC.ops [AOper.mk (some 38) (AOp.load true
  4 (Operand.tmp 3)) none, AOper.mk (some 39) (AOp.load true 2 (Operand.tmp 4)) none, AOper.mk (some 40) (AOp.mov (Operand.tmp 2)) none, AOper.mk (some
  41) (AOp.fadr 0 (Operand.tmp 3)) none, AOper.mk (some 42) (AOp.fadr 0 (Operand.tmp 41)) none, AOper.mk (some 43) (AOp.load false 1 (Operand.tmp 42))
  none, AOper.mk (some 44) (AOp.call 22 [Operand.tmp 38, Operand.tmp 39, Operand.tmp 40, Operand.tmp 43]) none]) (AC.cond (Operand.tmp 44) (AC.seq
  (AC.ops [AOper.mk (some 46) (AOp.fadr 0 (Operand.tmp 3)) none, AOper.mk (some 47) (AOp.load true 2 (Operand.tmp 46)) none, AOper.mk (some 48) (AOp.mov
  (Operand.tmp 2)) none, AOper.mk (some 49) (AOp.call 29 [Operand.tmp 47, Operand.tmp 48]) none, AOper.mk (some 45) (AOp.mov (Operand.tmp 49)) none,
  AOper.mk (some 50) (AOp.ext (Operand.tmp 45) 0) none, AOper.mk (some 51) (AOp.ext (Operand.tmp 45) 1) none, AOper.mk (some 7) (AOp.mov (Operand.tmp
  50)) none, AOper.mk (some 8) (AOp.mov (Operand.tmp 51)) none]) (AC.seq (AC.ops [AOper.mk (some 53) (AOp.fadr 0 (Operand.tmp 3)) none, AOper.mk (some
  54) (AOp.load true 2 (Operand.tmp 53)) none, AOper.mk (some 55) (AOp.fadr 2 (Operand.tmp 3)) none, AOper.mk (some 56) (AOp.load true 2 (Operand.tmp
  55)) none, AOper.mk (some 57) (AOp.load true 2 (Operand.tmp 4)) none, AOper.mk (some 58) (AOp.mov (Operand.tmp 7)) none, AOper.mk (some 59) (AOp.call
  12 [Operand.tmp 54, Operand.tmp 56, Operand.tmp 57, Operand.tmp 58]) none, AOper.mk (some 52) (AOp.mov (Operand.tmp 59)) none, AOper.mk (some 60)
  (AOp.ext (Operand.tmp 52) 0) none, AOper.mk (some 61) (AOp.ext (Operand.tmp 52) 1) none, AOper.mk (some 9) (AOp.mov (Operand.tmp 60)) none, AOper.mk
  (some 10) (AOp.mov (Operand.tmp 61)) none]) (AC.seq (AC.ops [AOper.mk (some 63) (AOp.fadr 0 (Operand.tmp 3)) none, AOper.mk (some 64) (AOp.load true 2
  (Operand.tmp 63)) none, AOper.mk (some 65) (AOp.fadr 2 (Operand.tmp 3)) none, AOper.mk (some 66) (AOp.load true 2 (Operand.tmp 65)) none, AOper.mk
  (some 67) (AOp.load true 2 (Operand.tmp 4)) none, AOper.mk (some 68) (AOp.mov (Operand.tmp 2)) none, AOper.mk (some 69) (AOp.call 25 [Operand.tmp 64,
  Operand.tmp 66, Operand.tmp 67, Operand.tmp 68]) none, AOper.mk (some 62) (AOp.mov (Operand.tmp 69)) none, AOper.mk (some 70) (AOp.ext (Operand.tmp 62)
  0) none, AOper.mk (some 71) (AOp.ext (Operand.tmp 62) 1) none, AOper.mk (some 11) (AOp.mov (Operand.tmp 70)) none, AOper.mk (some 12) (AOp.mov
  (Operand.tmp 71)) none]) (AC.seq (AC.ops [AOper.mk (some 73) (AOp.fadr 2 (Operand.tmp 3)) none, AOper.mk (some 74) (AOp.load true 2 (Operand.tmp 73))
  none, AOper.mk (some 75) (AOp.mov (Operand.tmp 11)) none, AOper.mk (some 76) (AOp.call 29 [Operand.tmp 74, Operand.tmp 75]) none, AOper.mk (some 72)
  (AOp.mov (Operand.tmp 76)) none, AOper.mk (some 77) (AOp.ext (Operand.tmp 72) 0) none, AOper.mk (some 78) (AOp.ext (Operand.tmp 72) 1) none, AOper.mk
  (some 13) (AOp.mov (Operand.tmp 77)) none, AOper.mk (some 14) (AOp.mov (Operand.tmp 78)) none]) (AC.seq (AC.ops [AOper.mk (some 79) (AOp.mov
  (Operand.tmp 8)) none, AOper.mk (some 80) (AOp.mov (Operand.tmp 10)) none, AOper.mk (some 81) (AOp.bin false BinOp.add (Operand.tmp 79) (Operand.tmp
  80)) none, AOper.mk (some 82) (AOp.mov (Operand.tmp 12)) none, AOper.mk (some 83) (AOp.bin false BinOp.add (Operand.tmp 81) (Operand.tmp 82)) none,
  AOper.mk (some 84) (AOp.mov (Operand.tmp 14)) none, AOper.mk (some 85) (AOp.bin false BinOp.add (Operand.tmp 83) (Operand.tmp 84)) none, AOper.mk (some
  86) (AOp.bin false BinOp.neq (Operand.tmp 85) (Operand.const (Value.int IntKind.i64 0))) none, AOper.mk (some 87) (AOp.mov (Operand.tmp 86)) none,
  AOper.mk (some 88) (AOp.mov (Operand.tmp 9)) (some (87, false)), AOper.mk (some 89) (AOp.mov (Operand.tmp 13)) (some (87, false)), AOper.mk (some 90)
  (AOp.call 15 [Operand.tmp 88, Operand.tmp 89]) (some (87, false)), AOper.mk (some 91) (AOp.un UnOp.not (Operand.tmp 90)) (some (87, false)), AOper.mk
  (some 92) (AOp.pick (Operand.tmp 87) (Operand.const (Value.bool true)) (Operand.tmp 91)) none]) (AC.cond (Operand.tmp 92) (AC.seq (AC.ops [AOper.mk
  (some 6) (AOp.mov (Operand.const (Value.bool false))) none]) AC.ret) AC.skip)))))) AC.skip)) (AC.seq (AC.seq (AC.ops [AOper.mk (some 93) (AOp.load true
  4 (Operand.tmp 3)) none, AOper.mk (some 94) (AOp.load true 2 (Operand.tmp 4)) none, AOper.mk (some 95) (AOp.mov (Operand.tmp 2)) none, AOper.mk (some
  96) (AOp.fadr 2 (Operand.tmp 3)) none, AOper.mk (some 97) (AOp.fadr 0 (Operand.tmp 96)) none, AOper.mk (some 98) (AOp.load false 1 (Operand.tmp 97))
  none, AOper.mk (some 99) (AOp.call 22 [Operand.tmp 93, Operand.tmp 94, Operand.tmp 95, Operand.tmp 98]) none]) (AC.cond (Operand.tmp 99) (AC.seq
  (AC.ops [AOper.mk (some 101) (AOp.fadr 2 (Operand.tmp 3)) none, AOper.mk (some 102) (AOp.load true 2 (Operand.tmp 101)) none, AOper.mk (some 103)
  (AOp.mov (Operand.tmp 2)) none, AOper.mk (some 104) (AOp.call 29 [Operand.tmp 102, Operand.tmp 103]) none, AOper.mk (some 100) (AOp.mov (Operand.tmp
  104)) none, AOper.mk (some 105) (AOp.ext (Operand.tmp 100) 0) none, AOper.mk (some 106) (AOp.ext (Operand.tmp 100) 1) none, AOper.mk (some 15) (AOp.mov
  (Operand.tmp 105)) none, AOper.mk (some 16) (AOp.mov (Operand.tmp 106)) none]) (AC.seq (AC.ops [AOper.mk (some 108) (AOp.fadr 0 (Operand.tmp 3)) none,
  AOper.mk (some 109) (AOp.load true 2 (Operand.tmp 108)) none, AOper.mk (some 110) (AOp.fadr 2 (Operand.tmp 3)) none, AOper.mk (some 111) (AOp.load true
  2 (Operand.tmp 110)) none, AOper.mk (some 112) (AOp.load true 2 (Operand.tmp 4)) none, AOper.mk (some 113) (AOp.mov (Operand.tmp 15)) none, AOper.mk
  (some 114) (AOp.call 14 [Operand.tmp 109, Operand.tmp 111, Operand.tmp 112, Operand.tmp 113]) none, AOper.mk (some 107) (AOp.mov (Operand.tmp 114))
  none, AOper.mk (some 115) (AOp.ext (Operand.tmp 107) 0) none, AOper.mk (some 116) (AOp.ext (Operand.tmp 107) 1) none, AOper.mk (some 17) (AOp.mov
  (Operand.tmp 115)) none, AOper.mk (some 18) (AOp.mov (Operand.tmp 116)) none]) (AC.seq (AC.ops [AOper.mk (some 118) (AOp.fadr 0 (Operand.tmp 3)) none,
  AOper.mk (some 119) (AOp.load true 2 (Operand.tmp 118)) none, AOper.mk (some 120) (AOp.fadr 2 (Operand.tmp 3)) none, AOper.mk (some 121) (AOp.load true
  2 (Operand.tmp 120)) none, AOper.mk (some 122) (AOp.load true 2 (Operand.tmp 4)) none, AOper.mk (some 123) (AOp.mov (Operand.tmp 2)) none, AOper.mk
  (some 124) (AOp.call 26 [Operand.tmp 119, Operand.tmp 121, Operand.tmp 122, Operand.tmp 123]) none, AOper.mk (some 117) (AOp.mov (Operand.tmp 124))
  none, AOper.mk (some 125) (AOp.ext (Operand.tmp 117) 0) none, AOper.mk (some 126) (AOp.ext (Operand.tmp 117) 1) none, AOper.mk (some 19) (AOp.mov
  (Operand.tmp 125)) none, AOper.mk (some 20) (AOp.mov (Operand.tmp 126)) none]) (AC.seq (AC.ops [AOper.mk (some 128) (AOp.fadr 0 (Operand.tmp 3)) none,
  AOper.mk (some 129) (AOp.load true 2 (Operand.tmp 128)) none, AOper.mk (some 130) (AOp.mov (Operand.tmp 19)) none, AOper.mk (some 131) (AOp.call 29
  [Operand.tmp 129, Operand.tmp 130]) none, AOper.mk (some 127) (AOp.mov (Operand.tmp 131)) none, AOper.mk (some 132) (AOp.ext (Operand.tmp 127) 0) none,
  AOper.mk (some 133) (AOp.ext (Operand.tmp 127) 1) none, AOper.mk (some 21) (AOp.mov (Operand.tmp 132)) none, AOper.mk (some 22) (AOp.mov (Operand.tmp
  133)) none]) (AC.seq (AC.ops [AOper.mk (some 134) (AOp.mov (Operand.tmp 16)) none, AOper.mk (some 135) (AOp.mov (Operand.tmp 18)) none, AOper.mk (some
  136) (AOp.bin false BinOp.add (Operand.tmp 134) (Operand.tmp 135)) none, AOper.mk (some 137) (AOp.mov (Operand.tmp 20)) none, AOper.mk (some 138)
  (AOp.bin false BinOp.add (Operand.tmp 136) (Operand.tmp 137)) none, AOper.mk (some 139) (AOp.mov (Operand.tmp 22)) none, AOper.mk (some 140) (AOp.bin
  false BinOp.add (Operand.tmp 138) (Operand.tmp 139)) none, AOper.mk (some 141) (AOp.bin false BinOp.neq (Operand.tmp 140) (Operand.const (Value.int
  IntKind.i64 0))) none, AOper.mk (some 142) (AOp.mov (Operand.tmp 141)) none, AOper.mk (some 143) (AOp.mov (Operand.tmp 17)) (some (142, false)),
  AOper.mk (some 144) (AOp.mov (Operand.tmp 21)) (some (142, false)), AOper.mk (some 145) (AOp.call 15 [Operand.tmp 143, Operand.tmp 144]) (some (142,
  false)), AOper.mk (some 146) (AOp.un UnOp.not (Operand.tmp 145)) (some (142, false)), AOper.mk (some 147) (AOp.pick (Operand.tmp 142) (Operand.const
  (Value.bool true)) (Operand.tmp 146)) none]) (AC.cond (Operand.tmp 147) (AC.seq (AC.ops [AOper.mk (some 6) (AOp.mov (Operand.const (Value.bool false)))
  none]) AC.ret) AC.skip)))))) AC.skip)) (AC.seq (AC.ops [AOper.mk (some 148) (AOp.call 11 []) none, AOper.mk (some 6) (AOp.mov (Operand.tmp 148)) none])
  AC.ret))))) [ARes.tmp 6]
theorem cfn9 : cfn Try.prog 9 3 = some c9 := by kernel_rfl
def c10 : AFn :=
  AFn.mk 18 (AC.seq (AC.ops [AOper.mk (some 3) (AOp.box 26 (Operand.tmp 0)) none, AOper.mk (some 4) (AOp.box 29 (Operand.tmp 1)) none, AOper.mk (some 6)
  (AOp.mov (Operand.const (Value.bool false))) none]) (AC.seq (AC.ops [AOper.mk (some 7) (AOp.fadr 0 (Operand.tmp 3)) none, AOper.mk (some 8) (AOp.load
  true 2 (Operand.tmp 7)) none, AOper.mk (some 9) (AOp.fadr 2 (Operand.tmp 3)) none, AOper.mk (some 10) (AOp.load true 2 (Operand.tmp 9)) none, AOper.mk
  (some 11) (AOp.load true 2 (Operand.tmp 4)) none, AOper.mk (some 12) (AOp.call 30 [Operand.tmp 8, Operand.tmp 10, Operand.tmp 11]) none, AOper.mk (some
  13) (AOp.mov (Operand.tmp 12)) none, AOper.mk (some 14) (AOp.mov (Operand.tmp 2)) (some (13, true)), AOper.mk (some 15) (AOp.len (Operand.tmp 14))
  (some (13, true)), AOper.mk (some 16) (AOp.bin false BinOp.leq (Operand.tmp 15) (Operand.const (Value.int IntKind.i64 40))) (some (13, true)), AOper.mk
  (some 17) (AOp.pick (Operand.tmp 13) (Operand.tmp 16) (Operand.const (Value.bool false))) none, AOper.mk (some 6) (AOp.mov (Operand.tmp 17)) none])
  AC.ret)) [ARes.tmp 6]
theorem cfn10 : cfn Try.prog 10 3 = some c10 := by kernel_rfl
def c11 : AFn :=
  AFn.mk 152 (AC.seq (AC.ops [AOper.mk (some 0) (AOp.mov (Operand.const (Value.bool false))) none]) (AC.seq (AC.ops [AOper.mk (some 16) (AOp.call 31 [])
  none, AOper.mk (some 1) (AOp.zro 26 (PV.agg [PV.v (Value.int IntKind.i64 0), PV.v (Value.slice none 0 0), PV.v (Value.int IntKind.i64 0), PV.v
  (Value.slice none 0 0)])) none, AOper.mk none (AOp.store 4 (Operand.tmp 1) (Operand.tmp 16)) none]) (AC.seq (AC.ops [AOper.mk (some 17) (AOp.bsl 3 1
  [Operand.const (Value.int IntKind.i64 0), Operand.const (Value.int IntKind.i64 1), Operand.const (Value.int IntKind.i64 0), Operand.const (Value.int
  IntKind.i64 1)]) none, AOper.mk (some 18) (AOp.bsl 3 1 [Operand.const (Value.int IntKind.i64 0), Operand.const (Value.int IntKind.i64 1), Operand.const
  (Value.int IntKind.i64 1), Operand.const (Value.int IntKind.i64 0)]) none, AOper.mk (some 19) (AOp.bld [PV.v (Value.slice none 0 0), PV.v (Value.slice
  none 0 0)] [(0, 1), (1, 1)] [(0, Operand.tmp 17), (1, Operand.tmp 18)]) none, AOper.mk (some 2) (AOp.zro 29 (PV.agg [PV.v (Value.slice none 0 0), PV.v
  (Value.slice none 0 0)])) none, AOper.mk none (AOp.store 2 (Operand.tmp 2) (Operand.tmp 19)) none]) (AC.seq (AC.ops [AOper.mk (some 21) (AOp.fadr 0
  (Operand.tmp 1)) none, AOper.mk (some 22) (AOp.load true 2 (Operand.tmp 21)) none, AOper.mk (some 23) (AOp.fadr 2 (Operand.tmp 1)) none, AOper.mk (some
  24) (AOp.load true 2 (Operand.tmp 23)) none, AOper.mk (some 25) (AOp.load true 2 (Operand.tmp 2)) none, AOper.mk (some 26) (AOp.bsl 3 1 [Operand.const
  (Value.int IntKind.i64 1), Operand.const (Value.int IntKind.i64 2), Operand.const (Value.int IntKind.i64 3), Operand.const (Value.int IntKind.i64 4)])
  none, AOper.mk (some 27) (AOp.call 12 [Operand.tmp 22, Operand.tmp 24, Operand.tmp 25, Operand.tmp 26]) none, AOper.mk (some 20) (AOp.mov (Operand.tmp
  27)) none, AOper.mk (some 28) (AOp.ext (Operand.tmp 20) 0) none, AOper.mk (some 29) (AOp.ext (Operand.tmp 20) 1) none, AOper.mk (some 3) (AOp.mov
  (Operand.tmp 28)) none, AOper.mk (some 4) (AOp.mov (Operand.tmp 29)) none]) (AC.seq (AC.ops [AOper.mk (some 31) (AOp.fadr 0 (Operand.tmp 1)) none,
  AOper.mk (some 32) (AOp.load true 2 (Operand.tmp 31)) none, AOper.mk (some 33) (AOp.fadr 2 (Operand.tmp 1)) none, AOper.mk (some 34) (AOp.load true 2
  (Operand.tmp 33)) none, AOper.mk (some 35) (AOp.load true 2 (Operand.tmp 2)) none, AOper.mk (some 36) (AOp.bsl 3 1 [Operand.const (Value.int
  IntKind.i64 5), Operand.const (Value.int IntKind.i64 (-1))]) none, AOper.mk (some 37) (AOp.call 14 [Operand.tmp 32, Operand.tmp 34, Operand.tmp 35,
  Operand.tmp 36]) none, AOper.mk (some 30) (AOp.mov (Operand.tmp 37)) none, AOper.mk (some 38) (AOp.ext (Operand.tmp 30) 0) none, AOper.mk (some 39)
  (AOp.ext (Operand.tmp 30) 1) none, AOper.mk (some 5) (AOp.mov (Operand.tmp 38)) none, AOper.mk (some 6) (AOp.mov (Operand.tmp 39)) none]) (AC.seq
  (AC.ops [AOper.mk (some 41) (AOp.fadr 0 (Operand.tmp 1)) none, AOper.mk (some 42) (AOp.load true 2 (Operand.tmp 41)) none, AOper.mk (some 43) (AOp.fadr
  2 (Operand.tmp 1)) none, AOper.mk (some 44) (AOp.load true 2 (Operand.tmp 43)) none, AOper.mk (some 45) (AOp.load true 2 (Operand.tmp 2)) none,
  AOper.mk (some 46) (AOp.bsl 3 1 [Operand.const (Value.int IntKind.i64 (-2)), Operand.const (Value.int IntKind.i64 1), Operand.const (Value.int
  IntKind.i64 0), Operand.const (Value.int IntKind.i64 1)]) none, AOper.mk (some 47) (AOp.call 12 [Operand.tmp 42, Operand.tmp 44, Operand.tmp 45,
  Operand.tmp 46]) none, AOper.mk (some 40) (AOp.mov (Operand.tmp 47)) none, AOper.mk (some 48) (AOp.ext (Operand.tmp 40) 0) none, AOper.mk (some 49)
  (AOp.ext (Operand.tmp 40) 1) none, AOper.mk (some 7) (AOp.mov (Operand.tmp 48)) none, AOper.mk (some 8) (AOp.mov (Operand.tmp 49)) none]) (AC.seq
  (AC.ops [AOper.mk (some 51) (AOp.fadr 0 (Operand.tmp 1)) none, AOper.mk (some 52) (AOp.load true 2 (Operand.tmp 51)) none, AOper.mk (some 53) (AOp.fadr
  2 (Operand.tmp 1)) none, AOper.mk (some 54) (AOp.load true 2 (Operand.tmp 53)) none, AOper.mk (some 55) (AOp.load true 2 (Operand.tmp 2)) none,
  AOper.mk (some 56) (AOp.call 18 [Operand.tmp 52, Operand.tmp 54, Operand.tmp 55]) none, AOper.mk (some 50) (AOp.mov (Operand.tmp 56)) none, AOper.mk
  (some 57) (AOp.ext (Operand.tmp 50) 0) none, AOper.mk (some 58) (AOp.ext (Operand.tmp 50) 1) none, AOper.mk (some 59) (AOp.ext (Operand.tmp 50) 2)
  none, AOper.mk (some 9) (AOp.mov (Operand.tmp 57)) none, AOper.mk (some 10) (AOp.mov (Operand.tmp 58)) none, AOper.mk (some 11) (AOp.mov (Operand.tmp
  59)) none]) (AC.seq (AC.seq (AC.ops [AOper.mk (some 60) (AOp.mov (Operand.tmp 4)) none, AOper.mk (some 61) (AOp.mov (Operand.tmp 6)) none, AOper.mk
  (some 62) (AOp.bin false BinOp.add (Operand.tmp 60) (Operand.tmp 61)) none, AOper.mk (some 63) (AOp.mov (Operand.tmp 8)) none, AOper.mk (some 64)
  (AOp.bin false BinOp.add (Operand.tmp 62) (Operand.tmp 63)) none, AOper.mk (some 65) (AOp.mov (Operand.tmp 11)) none, AOper.mk (some 66) (AOp.bin false
  BinOp.add (Operand.tmp 64) (Operand.tmp 65)) none, AOper.mk (some 67) (AOp.bin false BinOp.neq (Operand.tmp 66) (Operand.const (Value.int IntKind.i64
  0))) none, AOper.mk (some 68) (AOp.mov (Operand.tmp 67)) none, AOper.mk (some 69) (AOp.mov (Operand.tmp 3)) (some (68, false)), AOper.mk (some 70)
  (AOp.bsl 3 1 [Operand.const (Value.int IntKind.i64 4), Operand.const (Value.int IntKind.i64 6)]) (some (68, false)), AOper.mk (some 71) (AOp.call 15
  [Operand.tmp 69, Operand.tmp 70]) (some (68, false)), AOper.mk (some 72) (AOp.un UnOp.not (Operand.tmp 71)) (some (68, false)), AOper.mk (some 73)
  (AOp.pick (Operand.tmp 68) (Operand.const (Value.bool true)) (Operand.tmp 72)) none, AOper.mk (some 74) (AOp.mov (Operand.tmp 73)) none, AOper.mk (some
  75) (AOp.mov (Operand.tmp 5)) (some (74, false)), AOper.mk (some 76) (AOp.bsl 3 1 [Operand.const (Value.int IntKind.i64 5), Operand.const (Value.int
  IntKind.i64 (-1)), Operand.const (Value.int IntKind.i64 5), Operand.const (Value.int IntKind.i64 (-1))]) (some (74, false)), AOper.mk (some 77)
  (AOp.call 15 [Operand.tmp 75, Operand.tmp 76]) (some (74, false)), AOper.mk (some 78) (AOp.un UnOp.not (Operand.tmp 77)) (some (74, false)), AOper.mk
  (some 79) (AOp.pick (Operand.tmp 74) (Operand.const (Value.bool true)) (Operand.tmp 78)) none, AOper.mk (some 80) (AOp.mov (Operand.tmp 79)) none,
  AOper.mk (some 81) (AOp.mov (Operand.tmp 7)) (some (80, false)), AOper.mk (some 82) (AOp.bsl 3 1 [Operand.const (Value.int IntKind.i64 (-2)),
  Operand.const (Value.int IntKind.i64 2)]) (some (80, false)), AOper.mk (some 83) (AOp.call 15 [Operand.tmp 81, Operand.tmp 82]) (some (80, false)),
  AOper.mk (some 84) (AOp.un UnOp.not (Operand.tmp 83)) (some (80, false)), AOper.mk (some 85) (AOp.pick (Operand.tmp 80) (Operand.const (Value.bool
  true)) (Operand.tmp 84)) none, AOper.mk (some 86) (AOp.mov (Operand.tmp 85)) none, AOper.mk (some 87) (AOp.mov (Operand.tmp 9)) (some (86, false)),
  AOper.mk (some 88) (AOp.bin false BinOp.neq (Operand.tmp 87) (Operand.const (Value.int IntKind.i64 0))) (some (86, false)), AOper.mk (some 89)
  (AOp.pick (Operand.tmp 86) (Operand.const (Value.bool true)) (Operand.tmp 88)) none, AOper.mk (some 90) (AOp.mov (Operand.tmp 89)) none, AOper.mk (some
  91) (AOp.mov (Operand.tmp 10)) (some (90, false)), AOper.mk (some 92) (AOp.bin false BinOp.neq (Operand.tmp 91) (Operand.const (Value.int IntKind.i64
  0))) (some (90, false)), AOper.mk (some 93) (AOp.pick (Operand.tmp 90) (Operand.const (Value.bool true)) (Operand.tmp 92)) none]) (AC.cond (Operand.tmp
  93) (AC.seq (AC.ops [AOper.mk (some 0) (AOp.mov (Operand.const (Value.bool false))) none]) AC.ret) AC.skip)) (AC.seq (AC.ops [AOper.mk (some 94)
  (AOp.bld [PV.v (Value.int IntKind.i64 0), PV.v (Value.int IntKind.i64 0), PV.v (Value.int IntKind.i64 0)] [(0, 1), (1, 1), (2, 1)] [(0, Operand.const
  (Value.int IntKind.i64 0)), (1, Operand.const (Value.int IntKind.i64 1)), (2, Operand.const (Value.int IntKind.i64 1))]) none, AOper.mk (some 95)
  (AOp.bld [PV.v (Value.int IntKind.i64 0), PV.v (Value.int IntKind.i64 0), PV.v (Value.int IntKind.i64 0)] [(0, 1), (1, 1), (2, 1)] [(0, Operand.const
  (Value.int IntKind.i64 0)), (1, Operand.const (Value.int IntKind.i64 2)), (2, Operand.const (Value.int IntKind.i64 1))]) none, AOper.mk (some 96)
  (AOp.bld [PV.v (Value.int IntKind.i64 0), PV.v (Value.int IntKind.i64 0), PV.v (Value.int IntKind.i64 0)] [(0, 1), (1, 1), (2, 1)] [(0, Operand.const
  (Value.int IntKind.i64 0)), (1, Operand.const (Value.int IntKind.i64 3)), (2, Operand.const (Value.int IntKind.i64 1))]) none, AOper.mk (some 97)
  (AOp.bsl 70 3 [Operand.tmp 94, Operand.tmp 95, Operand.tmp 96]) none, AOper.mk (some 98) (AOp.bld [PV.v (Value.int IntKind.i64 0), PV.v (Value.slice
  none 0 0)] [(0, 1), (1, 1)] [(0, Operand.const (Value.int IntKind.i64 4)), (1, Operand.tmp 97)]) none, AOper.mk (some 12) (AOp.zro 24 (PV.agg [PV.v
  (Value.int IntKind.i64 0), PV.v (Value.slice none 0 0)])) none, AOper.mk none (AOp.store 2 (Operand.tmp 12) (Operand.tmp 98)) none]) (AC.seq (AC.ops
  [AOper.mk (some 99) (AOp.bld [PV.v (Value.int IntKind.i64 0), PV.v (Value.int IntKind.i64 0), PV.v (Value.int IntKind.i64 0)] [(0, 1), (1, 1), (2, 1)]
  [(0, Operand.const (Value.int IntKind.i64 0)), (1, Operand.const (Value.int IntKind.i64 1)), (2, Operand.const (Value.int IntKind.i64 1))]) none,
  AOper.mk (some 100) (AOp.bsl 70 3 [Operand.tmp 99]) none, AOper.mk (some 101) (AOp.bld [PV.v (Value.int IntKind.i64 0), PV.v (Value.slice none 0 0)]
  [(0, 1), (1, 1)] [(0, Operand.const (Value.int IntKind.i64 2)), (1, Operand.tmp 100)]) none, AOper.mk (some 13) (AOp.zro 24 (PV.agg [PV.v (Value.int
  IntKind.i64 0), PV.v (Value.slice none 0 0)])) none, AOper.mk none (AOp.store 2 (Operand.tmp 13) (Operand.tmp 101)) none]) (AC.seq (AC.ops [AOper.mk
  (some 102) (AOp.bsl 3 1 [Operand.const (Value.int IntKind.i64 0), Operand.const (Value.int IntKind.i64 1), Operand.const (Value.int IntKind.i64 1),
  Operand.const (Value.int IntKind.i64 1)]) none, AOper.mk (some 103) (AOp.bsl 3 1 [Operand.const (Value.int IntKind.i64 0), Operand.const (Value.int
  IntKind.i64 0), Operand.const (Value.int IntKind.i64 0)]) none, AOper.mk (some 104) (AOp.bld [PV.v (Value.slice none 0 0), PV.v (Value.slice none 0 0)]
  [(0, 1), (1, 1)] [(0, Operand.tmp 102), (1, Operand.tmp 103)]) none, AOper.mk none (AOp.store 2 (Operand.tmp 2) (Operand.tmp 104)) none]) (AC.seq
  (AC.ops [AOper.mk (some 106) (AOp.load true 2 (Operand.tmp 12)) none, AOper.mk (some 107) (AOp.load true 2 (Operand.tmp 13)) none, AOper.mk (some 108)
  (AOp.load true 2 (Operand.tmp 2)) none, AOper.mk (some 109) (AOp.call 16 [Operand.tmp 106, Operand.tmp 107, Operand.tmp 108]) none, AOper.mk (some 105)
  (AOp.mov (Operand.tmp 109)) none, AOper.mk (some 110) (AOp.ext (Operand.tmp 105) 0) none, AOper.mk (some 111) (AOp.ext (Operand.tmp 105) 1) none,
  AOper.mk (some 14) (AOp.mov (Operand.tmp 110)) none, AOper.mk (some 4) (AOp.mov (Operand.tmp 111)) none]) (AC.seq (AC.ops [AOper.mk (some 113)
  (AOp.load true 2 (Operand.tmp 12)) none, AOper.mk (some 114) (AOp.load true 2 (Operand.tmp 13)) none, AOper.mk (some 115) (AOp.load true 2 (Operand.tmp
  2)) none, AOper.mk (some 116) (AOp.call 18 [Operand.tmp 113, Operand.tmp 114, Operand.tmp 115]) none, AOper.mk (some 112) (AOp.mov (Operand.tmp 116))
  none, AOper.mk (some 117) (AOp.ext (Operand.tmp 112) 0) none, AOper.mk (some 118) (AOp.ext (Operand.tmp 112) 1) none, AOper.mk (some 119) (AOp.ext
  (Operand.tmp 112) 2) none, AOper.mk (some 9) (AOp.mov (Operand.tmp 117)) none, AOper.mk (some 10) (AOp.mov (Operand.tmp 118)) none, AOper.mk (some 6)
  (AOp.mov (Operand.tmp 119)) none]) (AC.seq (AC.ops [AOper.mk (some 121) (AOp.load true 2 (Operand.tmp 12)) none, AOper.mk (some 122) (AOp.load true 2
  (Operand.tmp 13)) none, AOper.mk (some 123) (AOp.load true 2 (Operand.tmp 2)) none, AOper.mk (some 124) (AOp.bsl 3 1 [Operand.const (Value.int
  IntKind.i64 1), Operand.const (Value.int IntKind.i64 2), Operand.const (Value.int IntKind.i64 0), Operand.const (Value.int IntKind.i64 0)]) none,
  AOper.mk (some 125) (AOp.call 25 [Operand.tmp 121, Operand.tmp 122, Operand.tmp 123, Operand.tmp 124]) none, AOper.mk (some 120) (AOp.mov (Operand.tmp
  125)) none, AOper.mk (some 126) (AOp.ext (Operand.tmp 120) 0) none, AOper.mk (some 127) (AOp.ext (Operand.tmp 120) 1) none, AOper.mk (some 15) (AOp.mov
  (Operand.tmp 126)) none, AOper.mk (some 8) (AOp.mov (Operand.tmp 127)) none]) (AC.seq (AC.ops [AOper.mk (some 128) (AOp.mov (Operand.tmp 4)) none,
  AOper.mk (some 129) (AOp.mov (Operand.tmp 6)) none, AOper.mk (some 130) (AOp.bin false BinOp.add (Operand.tmp 128) (Operand.tmp 129)) none, AOper.mk
  (some 131) (AOp.mov (Operand.tmp 8)) none, AOper.mk (some 132) (AOp.bin false BinOp.add (Operand.tmp 130) (Operand.tmp 131)) none, AOper.mk (some 133)
  (AOp.bin false BinOp.eql (Operand.tmp 132) (Operand.const (Value.int IntKind.i64 0))) none, AOper.mk (some 134) (AOp.mov (Operand.tmp 133)) none,
  AOper.mk (some 135) (AOp.mov (Operand.tmp 14)) (some (134, true)), AOper.mk (some 136) (AOp.bsl 3 1 [Operand.const (Value.int IntKind.i64 4),
  Operand.const (Value.int IntKind.i64 0), Operand.const (Value.int IntKind.i64 0), Operand.const (Value.int IntKind.i64 0)]) (some (134, true)),
  AOper.mk (some 137) (AOp.call 15 [Operand.tmp 135, Operand.tmp 136]) (some (134, true)), AOper.mk (some 138) (AOp.pick (Operand.tmp 134) (Operand.tmp
  137) (Operand.const (Value.bool false))) none, AOper.mk (some 139) (AOp.mov (Operand.tmp 138)) none, AOper.mk (some 140) (AOp.mov (Operand.tmp 9))
  (some (139, true)), AOper.mk (some 141) (AOp.bin false BinOp.eql (Operand.tmp 140) (Operand.const (Value.int IntKind.i64 (-2)))) (some (139, true)),
  AOper.mk (some 142) (AOp.pick (Operand.tmp 139) (Operand.tmp 141) (Operand.const (Value.bool false))) none, AOper.mk (some 143) (AOp.mov (Operand.tmp
  142)) none, AOper.mk (some 144) (AOp.mov (Operand.tmp 10)) (some (143, true)), AOper.mk (some 145) (AOp.bin false BinOp.eql (Operand.tmp 144)
  (Operand.const (Value.int IntKind.i64 (-2)))) (some (143, true)), AOper.mk (some 146) (AOp.pick (Operand.tmp 143) (Operand.tmp 145) (Operand.const
  (Value.bool false))) none, AOper.mk (some 147) (AOp.mov (Operand.tmp 146)) none, AOper.mk (some 148) (AOp.mov (Operand.tmp 15)) (some (147, true)),
  AOper.mk (some 149) (AOp.bsl 3 1 [Operand.const (Value.int IntKind.i64 3), Operand.const (Value.int IntKind.i64 2)]) (some (147, true)), AOper.mk (some
  150) (AOp.call 27 [Operand.tmp 148, Operand.tmp 149]) (some (147, true)), AOper.mk (some 151) (AOp.pick (Operand.tmp 147) (Operand.tmp 150)
  (Operand.const (Value.bool false))) none, AOper.mk (some 0) (AOp.mov (Operand.tmp 151)) none]) AC.ret))))))))))))))) [ARes.tmp 0]
theorem cfn11 : cfn Try.prog 11 0 = some c11 := by kernel_rfl
def c12 : AFn :=
  AFn.mk 36 (AC.seq (AC.ops [AOper.mk (some 4) (AOp.box 24 (Operand.tmp 0)) none, AOper.mk (some 5) (AOp.box 24 (Operand.tmp 1)) none, AOper.mk (some 6)
  (AOp.box 29 (Operand.tmp 2)) none, AOper.mk (some 8) (AOp.mov (Operand.const (Value.slice none 0 0))) none, AOper.mk (some 9) (AOp.mov (Operand.const
  (Value.int IntKind.i64 0))) none]) (AC.seq (AC.seq (AC.ops [AOper.mk (some 14) (AOp.load true 2 (Operand.tmp 4)) none, AOper.mk (some 15) (AOp.load
  true 2 (Operand.tmp 5)) none, AOper.mk (some 16) (AOp.load true 2 (Operand.tmp 6)) none, AOper.mk (some 17) (AOp.call 32 [Operand.tmp 14, Operand.tmp
  15, Operand.tmp 16]) none, AOper.mk (some 13) (AOp.mov (Operand.tmp 17)) none, AOper.mk (some 18) (AOp.ext (Operand.tmp 13) 0) none, AOper.mk (some 19)
  (AOp.ext (Operand.tmp 13) 1) none, AOper.mk (some 10) (AOp.mov (Operand.tmp 18)) none, AOper.mk (some 11) (AOp.mov (Operand.tmp 19)) none]) (AC.seq
  (AC.ops [AOper.mk (some 20) (AOp.mov (Operand.tmp 11)) none, AOper.mk (some 21) (AOp.bin false BinOp.neq (Operand.tmp 20) (Operand.const (Value.int
  IntKind.i64 0))) none]) (AC.cond (Operand.tmp 21) (AC.seq (AC.ops [AOper.mk (some 22) (AOp.mov (Operand.tmp 11)) none, AOper.mk (some 8) (AOp.mov
  (Operand.const (Value.slice none 0 0))) none, AOper.mk (some 9) (AOp.mov (Operand.tmp 22)) none]) AC.ret) AC.skip))) (AC.seq (AC.seq (AC.ops [AOper.mk
  (some 23) (AOp.mov (Operand.tmp 3)) none, AOper.mk (some 24) (AOp.fadr 0 (Operand.tmp 4)) none, AOper.mk (some 25) (AOp.load false 1 (Operand.tmp 24))
  none, AOper.mk (some 26) (AOp.call 33 [Operand.tmp 23, Operand.tmp 25]) none, AOper.mk (some 12) (AOp.mov (Operand.tmp 26)) none]) (AC.seq (AC.ops
  [AOper.mk (some 27) (AOp.mov (Operand.tmp 12)) none, AOper.mk (some 28) (AOp.bin false BinOp.neq (Operand.tmp 27) (Operand.const (Value.int IntKind.i64
  0))) none]) (AC.cond (Operand.tmp 28) (AC.seq (AC.ops [AOper.mk (some 29) (AOp.mov (Operand.tmp 12)) none, AOper.mk (some 8) (AOp.mov (Operand.const
  (Value.slice none 0 0))) none, AOper.mk (some 9) (AOp.mov (Operand.tmp 29)) none]) AC.ret) AC.skip))) (AC.seq (AC.ops [AOper.mk (some 30) (AOp.load
  true 2 (Operand.tmp 5)) none, AOper.mk (some 31) (AOp.load true 2 (Operand.tmp 6)) none, AOper.mk (some 32) (AOp.mov (Operand.tmp 3)) none, AOper.mk
  (some 33) (AOp.call 34 [Operand.tmp 30, Operand.tmp 31, Operand.tmp 32, Operand.func 35]) none, AOper.mk (some 34) (AOp.ext (Operand.tmp 33) 0) none,
  AOper.mk (some 35) (AOp.ext (Operand.tmp 33) 1) none, AOper.mk (some 8) (AOp.mov (Operand.tmp 34)) none, AOper.mk (some 9) (AOp.mov (Operand.tmp 35))
  none]) AC.ret)))) [ARes.tmp 8, ARes.tmp 9]
theorem cfn12 : cfn Try.prog 12 4 = some c12 := by kernel_rfl
def c13 : AFn :=
  AFn.mk 57 (AC.seq (AC.ops [AOper.mk (some 6) (AOp.box 24 (Operand.tmp 0)) none, AOper.mk (some 7) (AOp.box 24 (Operand.tmp 1)) none, AOper.mk (some 8)
  (AOp.box 38 (Operand.tmp 2)) none, AOper.mk (some 12) (AOp.mov (Operand.const (Value.slice none 0 0))) none, AOper.mk (some 13) (AOp.mov (Operand.const
  (Value.int IntKind.i64 0))) none]) (AC.seq (AC.seq (AC.ops [AOper.mk (some 17) (AOp.load true 2 (Operand.tmp 6)) none, AOper.mk (some 18) (AOp.load
  true 2 (Operand.tmp 7)) none, AOper.mk (some 19) (AOp.load true 2 (Operand.tmp 8)) none, AOper.mk (some 20) (AOp.call 20 [Operand.tmp 17, Operand.tmp
  18, Operand.tmp 19]) none, AOper.mk (some 14) (AOp.mov (Operand.tmp 20)) none]) (AC.seq (AC.ops [AOper.mk (some 21) (AOp.mov (Operand.tmp 14)) none,
  AOper.mk (some 22) (AOp.bin false BinOp.neq (Operand.tmp 21) (Operand.const (Value.int IntKind.i64 0))) none]) (AC.cond (Operand.tmp 22) (AC.seq
  (AC.ops [AOper.mk (some 23) (AOp.mov (Operand.tmp 14)) none, AOper.mk (some 12) (AOp.mov (Operand.const (Value.slice none 0 0))) none, AOper.mk (some
  13) (AOp.mov (Operand.tmp 23)) none]) AC.ret) AC.skip))) (AC.seq (AC.seq (AC.ops [AOper.mk (some 24) (AOp.mov (Operand.tmp 4)) none]) (AC.cond
  (Operand.tmp 24) (AC.seq (AC.seq (AC.ops [AOper.mk (some 25) (AOp.mov (Operand.tmp 3)) none, AOper.mk (some 26) (AOp.fadr 0 (Operand.tmp 6)) none,
  AOper.mk (some 27) (AOp.load false 1 (Operand.tmp 26)) none, AOper.mk (some 28) (AOp.call 36 [Operand.tmp 25, Operand.tmp 27]) none, AOper.mk (some 15)
  (AOp.mov (Operand.tmp 28)) none]) (AC.seq (AC.ops [AOper.mk (some 29) (AOp.mov (Operand.tmp 15)) none, AOper.mk (some 30) (AOp.bin false BinOp.neq
  (Operand.tmp 29) (Operand.const (Value.int IntKind.i64 0))) none]) (AC.cond (Operand.tmp 30) (AC.seq (AC.ops [AOper.mk (some 31) (AOp.mov (Operand.tmp
  15)) none, AOper.mk (some 12) (AOp.mov (Operand.const (Value.slice none 0 0))) none, AOper.mk (some 13) (AOp.mov (Operand.tmp 31)) none]) AC.ret)
  AC.skip))) (AC.seq (AC.ops [AOper.mk (some 32) (AOp.load true 2 (Operand.tmp 6)) none, AOper.mk (some 33) (AOp.load true 2 (Operand.tmp 7)) none,
  AOper.mk (some 34) (AOp.load true 2 (Operand.tmp 8)) none, AOper.mk (some 35) (AOp.mov (Operand.tmp 3)) none, AOper.mk (some 36) (AOp.mov (Operand.tmp
  5)) none, AOper.mk (some 37) (AOp.call 38 [Operand.tmp 32, Operand.tmp 33, Operand.tmp 34, Operand.tmp 35, Operand.tmp 36]) none, AOper.mk (some 38)
  (AOp.call 37 [Operand.tmp 37]) none, AOper.mk (some 39) (AOp.ext (Operand.tmp 38) 0) none, AOper.mk (some 40) (AOp.ext (Operand.tmp 38) 1) none,
  AOper.mk (some 12) (AOp.mov (Operand.tmp 39)) none, AOper.mk (some 13) (AOp.mov (Operand.tmp 40)) none]) AC.ret)) AC.skip)) (AC.seq (AC.seq (AC.ops
  [AOper.mk (some 41) (AOp.mov (Operand.tmp 3)) none, AOper.mk (some 42) (AOp.fadr 0 (Operand.tmp 7)) none, AOper.mk (some 43) (AOp.load false 1
  (Operand.tmp 42)) none, AOper.mk (some 44) (AOp.call 36 [Operand.tmp 41, Operand.tmp 43]) none, AOper.mk (some 16) (AOp.mov (Operand.tmp 44)) none])
  (AC.seq (AC.ops [AOper.mk (some 45) (AOp.mov (Operand.tmp 16)) none, AOper.mk (some 46) (AOp.bin false BinOp.neq (Operand.tmp 45) (Operand.const
  (Value.int IntKind.i64 0))) none]) (AC.cond (Operand.tmp 46) (AC.seq (AC.ops [AOper.mk (some 47) (AOp.mov (Operand.tmp 16)) none, AOper.mk (some 12)
  (AOp.mov (Operand.const (Value.slice none 0 0))) none, AOper.mk (some 13) (AOp.mov (Operand.tmp 47)) none]) AC.ret) AC.skip))) (AC.seq (AC.ops
  [AOper.mk (some 48) (AOp.load true 2 (Operand.tmp 6)) none, AOper.mk (some 49) (AOp.load true 2 (Operand.tmp 7)) none, AOper.mk (some 50) (AOp.load
  true 2 (Operand.tmp 8)) none, AOper.mk (some 51) (AOp.mov (Operand.tmp 3)) none, AOper.mk (some 52) (AOp.mov (Operand.tmp 5)) none, AOper.mk (some 53)
  (AOp.call 39 [Operand.tmp 48, Operand.tmp 49, Operand.tmp 50, Operand.tmp 51, Operand.tmp 52]) none, AOper.mk (some 54) (AOp.call 37 [Operand.tmp 53])
  none, AOper.mk (some 55) (AOp.ext (Operand.tmp 54) 0) none, AOper.mk (some 56) (AOp.ext (Operand.tmp 54) 1) none, AOper.mk (some 12) (AOp.mov
  (Operand.tmp 55)) none, AOper.mk (some 13) (AOp.mov (Operand.tmp 56)) none]) AC.ret))))) [ARes.tmp 12, ARes.tmp 13]
theorem cfn13 : cfn Try.prog 13 6 = some c13 := by kernel_rfl
def c14 : AFn :=
  AFn.mk 36 (AC.seq (AC.ops [AOper.mk (some 4) (AOp.box 24 (Operand.tmp 0)) none, AOper.mk (some 5) (AOp.box 24 (Operand.tmp 1)) none, AOper.mk (some 6)
  (AOp.box 29 (Operand.tmp 2)) none, AOper.mk (some 8) (AOp.mov (Operand.const (Value.slice none 0 0))) none, AOper.mk (some 9) (AOp.mov (Operand.const
  (Value.int IntKind.i64 0))) none]) (AC.seq (AC.ops [AOper.mk (some 14) (AOp.load true 2 (Operand.tmp 4)) none, AOper.mk (some 15) (AOp.load true 2
  (Operand.tmp 5)) none, AOper.mk (some 16) (AOp.load true 2 (Operand.tmp 6)) none, AOper.mk (some 17) (AOp.call 32 [Operand.tmp 14, Operand.tmp 15,
  Operand.tmp 16]) none, AOper.mk (some 13) (AOp.mov (Operand.tmp 17)) none, AOper.mk (some 18) (AOp.ext (Operand.tmp 13) 0) none, AOper.mk (some 19)
  (AOp.ext (Operand.tmp 13) 1) none, AOper.mk (some 10) (AOp.zro 27 (PV.v (Value.slice none 0 0))) none, AOper.mk none (AOp.store 1 (Operand.tmp 10)
  (Operand.tmp 18)) none, AOper.mk (some 11) (AOp.mov (Operand.tmp 19)) none]) (AC.seq (AC.seq (AC.ops [AOper.mk (some 20) (AOp.mov (Operand.tmp 11))
  none, AOper.mk (some 21) (AOp.bin false BinOp.neq (Operand.tmp 20) (Operand.const (Value.int IntKind.i64 0))) none]) (AC.cond (Operand.tmp 21) (AC.seq
  (AC.ops [AOper.mk (some 22) (AOp.mov (Operand.tmp 11)) none, AOper.mk (some 8) (AOp.mov (Operand.const (Value.slice none 0 0))) none, AOper.mk (some 9)
  (AOp.mov (Operand.tmp 22)) none]) AC.ret) AC.skip)) (AC.seq (AC.seq (AC.ops [AOper.mk (some 23) (AOp.mov (Operand.tmp 3)) none, AOper.mk (some 24)
  (AOp.fadr 0 (Operand.tmp 5)) none, AOper.mk (some 25) (AOp.load false 1 (Operand.tmp 24)) none, AOper.mk (some 26) (AOp.call 33 [Operand.tmp 23,
  Operand.tmp 25]) none, AOper.mk (some 12) (AOp.mov (Operand.tmp 26)) none]) (AC.seq (AC.ops [AOper.mk (some 27) (AOp.mov (Operand.tmp 12)) none,
  AOper.mk (some 28) (AOp.bin false BinOp.neq (Operand.tmp 27) (Operand.const (Value.int IntKind.i64 0))) none]) (AC.cond (Operand.tmp 28) (AC.seq
  (AC.ops [AOper.mk (some 29) (AOp.mov (Operand.tmp 12)) none, AOper.mk (some 8) (AOp.mov (Operand.const (Value.slice none 0 0))) none, AOper.mk (some 9)
  (AOp.mov (Operand.tmp 29)) none]) AC.ret) AC.skip))) (AC.seq (AC.ops [AOper.mk (some 30) (AOp.load true 2 (Operand.tmp 6)) none, AOper.mk (some 31)
  (AOp.mov (Operand.tmp 3)) none, AOper.mk (some 32) (AOp.fn (Fn.func 41) [] [Operand.tmp 10]) none, AOper.mk (some 33) (AOp.call 40 [Operand.tmp 30,
  Operand.tmp 31, Operand.tmp 32]) none, AOper.mk (some 34) (AOp.ext (Operand.tmp 33) 0) none, AOper.mk (some 35) (AOp.ext (Operand.tmp 33) 1) none,
  AOper.mk (some 8) (AOp.mov (Operand.tmp 34)) none, AOper.mk (some 9) (AOp.mov (Operand.tmp 35)) none]) AC.ret))))) [ARes.tmp 8, ARes.tmp 9]
theorem cfn14 : cfn Try.prog 14 4 = some c14 := by kernel_rfl
def c15 : AFn :=
  AFn.mk 26 (AC.seq (AC.ops [AOper.mk (some 4) (AOp.mov (Operand.const (Value.bool false))) none]) (AC.seq (AC.seq (AC.ops [AOper.mk (some 6) (AOp.mov
  (Operand.tmp 0)) none, AOper.mk (some 7) (AOp.len (Operand.tmp 6)) none, AOper.mk (some 8) (AOp.mov (Operand.tmp 1)) none, AOper.mk (some 9) (AOp.len
  (Operand.tmp 8)) none, AOper.mk (some 10) (AOp.bin false BinOp.neq (Operand.tmp 7) (Operand.tmp 9)) none]) (AC.cond (Operand.tmp 10) (AC.seq (AC.ops
  [AOper.mk (some 4) (AOp.mov (Operand.const (Value.bool false))) none]) AC.ret) AC.skip)) (AC.seq (AC.seq (AC.ops [AOper.mk (some 11) (AOp.mov
  (Operand.tmp 0)) none, AOper.mk (some 12) (AOp.len (Operand.tmp 11)) none, AOper.mk (some 13) (AOp.mov (Operand.const (Value.int IntKind.i64 0)))
  none]) (AC.block 0 (AC.loop (AC.seq (AC.ops [AOper.mk (some 14) (AOp.bin false BinOp.lss (Operand.tmp 13) (Operand.tmp 12)) none]) (AC.seq (AC.cond
  (Operand.tmp 14) AC.skip (AC.exit 0)) (AC.seq (AC.block 1 (AC.seq (AC.ops [AOper.mk (some 15) (AOp.mov (Operand.tmp 13)) none, AOper.mk (some 5)
  (AOp.mov (Operand.tmp 15)) none]) (AC.seq (AC.segs [([AOper.mk (some 16) (AOp.mov (Operand.tmp 0)) none, AOper.mk (some 17) (AOp.mov (Operand.tmp 5))
  none, AOper.mk (some 18) (AOp.iadr 1 (Operand.tmp 16) (Operand.tmp 17)) none, AOper.mk (some 19) (AOp.load false 1 (Operand.tmp 18)) none, AOper.mk
  (some 20) (AOp.mov (Operand.tmp 1)) none, AOper.mk (some 21) (AOp.mov (Operand.tmp 5)) none, AOper.mk (some 22) (AOp.iadr 1 (Operand.tmp 20)
  (Operand.tmp 21)) none, AOper.mk (some 23) (AOp.load false 1 (Operand.tmp 22)) none, AOper.mk (some 24) (AOp.bin false BinOp.neq (Operand.tmp 19)
  (Operand.tmp 23)) none], none)]) (AC.cond (Operand.tmp 24) (AC.seq (AC.ops [AOper.mk (some 4) (AOp.mov (Operand.const (Value.bool false))) none])
  AC.ret) AC.skip)))) (AC.ops [AOper.mk (some 25) (AOp.bin false BinOp.add (Operand.tmp 13) (Operand.const (Value.int IntKind.i64 1))) none, AOper.mk
  (some 13) (AOp.mov (Operand.tmp 25)) none]))))))) (AC.seq (AC.ops [AOper.mk (some 4) (AOp.mov (Operand.const (Value.bool true))) none]) AC.ret))))
  [ARes.tmp 4]
theorem cfn15 : cfn Try.prog 15 2 = some c15 := by kernel_rfl
def c16 : AFn :=
  AFn.mk 56 (AC.seq (AC.ops [AOper.mk (some 3) (AOp.box 24 (Operand.tmp 0)) none, AOper.mk (some 4) (AOp.box 24 (Operand.tmp 1)) none, AOper.mk (some 5)
  (AOp.box 29 (Operand.tmp 2)) none, AOper.mk (some 6) (AOp.mov (Operand.const (Value.slice none 0 0))) none, AOper.mk (some 7) (AOp.mov (Operand.const
  (Value.int IntKind.i64 0))) none]) (AC.seq (AC.ops [AOper.mk (some 16) (AOp.load true 2 (Operand.tmp 3)) none, AOper.mk (some 17) (AOp.load true 2
  (Operand.tmp 4)) none, AOper.mk (some 18) (AOp.load true 2 (Operand.tmp 5)) none, AOper.mk (some 19) (AOp.call 32 [Operand.tmp 16, Operand.tmp 17,
  Operand.tmp 18]) none, AOper.mk (some 15) (AOp.mov (Operand.tmp 19)) none, AOper.mk (some 20) (AOp.ext (Operand.tmp 15) 0) none, AOper.mk (some 21)
  (AOp.ext (Operand.tmp 15) 1) none, AOper.mk (some 8) (AOp.mov (Operand.tmp 20)) none, AOper.mk (some 9) (AOp.mov (Operand.tmp 21)) none]) (AC.seq
  (AC.seq (AC.ops [AOper.mk (some 22) (AOp.mov (Operand.tmp 9)) none, AOper.mk (some 23) (AOp.bin false BinOp.neq (Operand.tmp 22) (Operand.const
  (Value.int IntKind.i64 0))) none]) (AC.cond (Operand.tmp 23) (AC.seq (AC.ops [AOper.mk (some 24) (AOp.mov (Operand.tmp 9)) none, AOper.mk (some 6)
  (AOp.mov (Operand.const (Value.slice none 0 0))) none, AOper.mk (some 7) (AOp.mov (Operand.tmp 24)) none]) AC.ret) AC.skip)) (AC.seq (AC.ops [AOper.mk
  (some 25) (AOp.fadr 0 (Operand.tmp 3)) none, AOper.mk (some 26) (AOp.load false 1 (Operand.tmp 25)) none, AOper.mk (some 27) (AOp.mk 3 1 (PV.v
  (Value.int IntKind.i64 0)) (Operand.tmp 26) (Operand.tmp 26)) none, AOper.mk (some 10) (AOp.mov (Operand.tmp 27)) none]) (AC.seq (AC.seq (AC.ops
  [AOper.mk (some 28) (AOp.mov (Operand.tmp 8)) none, AOper.mk (some 29) (AOp.len (Operand.tmp 28)) none, AOper.mk (some 30) (AOp.mov (Operand.const
  (Value.int IntKind.i64 0))) none]) (AC.block 0 (AC.loop (AC.seq (AC.ops [AOper.mk (some 31) (AOp.bin false BinOp.lss (Operand.tmp 30) (Operand.tmp 29))
  none]) (AC.seq (AC.cond (Operand.tmp 31) AC.skip (AC.exit 0)) (AC.seq (AC.block 1 (AC.seq (AC.ops [AOper.mk (some 32) (AOp.mov (Operand.tmp 30)) none,
  AOper.mk (some 33) (AOp.iadr 1 (Operand.tmp 28) (Operand.tmp 30)) none, AOper.mk (some 34) (AOp.load false 1 (Operand.tmp 33)) none, AOper.mk (some 11)
  (AOp.mov (Operand.tmp 32)) none, AOper.mk (some 12) (AOp.mov (Operand.tmp 34)) none]) (AC.seq (AC.ops [AOper.mk (some 36) (AOp.load true 2 (Operand.tmp
  3)) none, AOper.mk (some 37) (AOp.load true 2 (Operand.tmp 4)) none, AOper.mk (some 38) (AOp.load true 2 (Operand.tmp 5)) none, AOper.mk (some 39)
  (AOp.mov (Operand.tmp 11)) none, AOper.mk (some 40) (AOp.call 42 [Operand.tmp 36, Operand.tmp 37, Operand.tmp 38, Operand.tmp 39]) none, AOper.mk (some
  35) (AOp.mov (Operand.tmp 40)) none, AOper.mk (some 41) (AOp.ext (Operand.tmp 35) 0) none, AOper.mk (some 42) (AOp.ext (Operand.tmp 35) 1) none,
  AOper.mk (some 13) (AOp.mov (Operand.tmp 41)) none, AOper.mk (some 14) (AOp.mov (Operand.tmp 42)) none]) (AC.seq (AC.seq (AC.ops [AOper.mk (some 43)
  (AOp.mov (Operand.tmp 14)) none, AOper.mk (some 44) (AOp.bin false BinOp.neq (Operand.tmp 43) (Operand.const (Value.int IntKind.i64 0))) none])
  (AC.cond (Operand.tmp 44) (AC.seq (AC.ops [AOper.mk (some 45) (AOp.mov (Operand.tmp 14)) none, AOper.mk (some 6) (AOp.mov (Operand.const (Value.slice
  none 0 0))) none, AOper.mk (some 7) (AOp.mov (Operand.tmp 45)) none]) AC.ret) AC.skip)) (AC.ops [AOper.mk (some 46) (AOp.mov (Operand.tmp 10)) none,
  AOper.mk (some 47) (AOp.mov (Operand.tmp 11)) none, AOper.mk (some 48) (AOp.mov (Operand.tmp 12)) none, AOper.mk (some 49) (AOp.bin false BinOp.mul
  (Operand.const (Value.int IntKind.i64 2)) (Operand.tmp 48)) none, AOper.mk (some 50) (AOp.bin false BinOp.sub (Operand.tmp 49) (Operand.const
  (Value.int IntKind.i64 2))) none, AOper.mk (some 51) (AOp.mov (Operand.tmp 13)) none, AOper.mk (some 52) (AOp.bin false BinOp.add (Operand.tmp 50)
  (Operand.tmp 51)) none, AOper.mk (some 53) (AOp.iadr 1 (Operand.tmp 46) (Operand.tmp 47)) none, AOper.mk none (AOp.store 1 (Operand.tmp 53)
  (Operand.tmp 52)) none]))))) (AC.ops [AOper.mk (some 54) (AOp.bin false BinOp.add (Operand.tmp 30) (Operand.const (Value.int IntKind.i64 1))) none,
  AOper.mk (some 30) (AOp.mov (Operand.tmp 54)) none]))))))) (AC.seq (AC.ops [AOper.mk (some 55) (AOp.mov (Operand.tmp 10)) none, AOper.mk (some 6)
  (AOp.mov (Operand.tmp 55)) none, AOper.mk (some 7) (AOp.mov (Operand.const (Value.int IntKind.i64 0))) none]) AC.ret)))))) [ARes.tmp 6, ARes.tmp 7]
theorem cfn16 : cfn Try.prog 16 3 = some c16 := by kernel_rfl
def c17 : AFn :=
  AFn.mk 20 (AC.seq (AC.ops [AOper.mk (some 3) (AOp.box 24 (Operand.tmp 0)) none, AOper.mk (some 4) (AOp.box 24 (Operand.tmp 1)) none, AOper.mk (some 5)
  (AOp.box 38 (Operand.tmp 2)) none, AOper.mk (some 6) (AOp.mov (Operand.const (Value.slice none 0 0))) none, AOper.mk (some 7) (AOp.mov (Operand.const
  (Value.int IntKind.i64 0))) none]) (AC.seq (AC.seq (AC.ops [AOper.mk (some 9) (AOp.load true 2 (Operand.tmp 3)) none, AOper.mk (some 10) (AOp.load true
  2 (Operand.tmp 4)) none, AOper.mk (some 11) (AOp.load true 2 (Operand.tmp 5)) none, AOper.mk (some 12) (AOp.call 20 [Operand.tmp 9, Operand.tmp 10,
  Operand.tmp 11]) none, AOper.mk (some 8) (AOp.mov (Operand.tmp 12)) none]) (AC.seq (AC.ops [AOper.mk (some 13) (AOp.mov (Operand.tmp 8)) none, AOper.mk
  (some 14) (AOp.bin false BinOp.neq (Operand.tmp 13) (Operand.const (Value.int IntKind.i64 0))) none]) (AC.cond (Operand.tmp 14) (AC.seq (AC.ops
  [AOper.mk (some 15) (AOp.mov (Operand.tmp 8)) none, AOper.mk (some 6) (AOp.mov (Operand.const (Value.slice none 0 0))) none, AOper.mk (some 7) (AOp.mov
  (Operand.tmp 15)) none]) AC.ret) AC.skip))) (AC.seq (AC.ops [AOper.mk (some 16) (AOp.load true 2 (Operand.tmp 3)) none, AOper.mk (some 17) (AOp.load
  true 2 (Operand.tmp 4)) none, AOper.mk (some 18) (AOp.load true 2 (Operand.tmp 5)) none, AOper.mk (some 19) (AOp.call 43 [Operand.tmp 16, Operand.tmp
  17, Operand.tmp 18]) none, AOper.mk (some 6) (AOp.mov (Operand.tmp 19)) none, AOper.mk (some 7) (AOp.mov (Operand.const (Value.int IntKind.i64 0)))
  none]) AC.ret))) [ARes.tmp 6, ARes.tmp 7]
theorem cfn17 : cfn Try.prog 17 3 = some c17 := by kernel_rfl
def c18 : AFn :=
  AFn.mk 69 (AC.seq (AC.ops [AOper.mk (some 3) (AOp.box 24 (Operand.tmp 0)) none, AOper.mk (some 4) (AOp.box 24 (Operand.tmp 1)) none, AOper.mk (some 5)
  (AOp.box 29 (Operand.tmp 2)) none, AOper.mk (some 6) (AOp.mov (Operand.const (Value.int IntKind.i64 0))) none, AOper.mk (some 7) (AOp.mov
  (Operand.const (Value.int IntKind.i64 0))) none, AOper.mk (some 8) (AOp.mov (Operand.const (Value.int IntKind.i64 0))) none]) (AC.seq (AC.ops [AOper.mk
  (some 16) (AOp.load true 2 (Operand.tmp 3)) none, AOper.mk (some 17) (AOp.load true 2 (Operand.tmp 4)) none, AOper.mk (some 18) (AOp.load true 2
  (Operand.tmp 5)) none, AOper.mk (some 19) (AOp.call 16 [Operand.tmp 16, Operand.tmp 17, Operand.tmp 18]) none, AOper.mk (some 15) (AOp.mov (Operand.tmp
  19)) none, AOper.mk (some 20) (AOp.ext (Operand.tmp 15) 0) none, AOper.mk (some 21) (AOp.ext (Operand.tmp 15) 1) none, AOper.mk (some 9) (AOp.mov
  (Operand.tmp 20)) none, AOper.mk (some 10) (AOp.mov (Operand.tmp 21)) none]) (AC.seq (AC.seq (AC.ops [AOper.mk (some 22) (AOp.mov (Operand.tmp 10))
  none, AOper.mk (some 23) (AOp.bin false BinOp.neq (Operand.tmp 22) (Operand.const (Value.int IntKind.i64 0))) none]) (AC.cond (Operand.tmp 23) (AC.seq
  (AC.ops [AOper.mk (some 24) (AOp.mov (Operand.tmp 10)) none, AOper.mk (some 6) (AOp.mov (Operand.const (Value.int IntKind.i64 0))) none, AOper.mk (some
  7) (AOp.mov (Operand.const (Value.int IntKind.i64 0))) none, AOper.mk (some 8) (AOp.mov (Operand.tmp 24)) none]) AC.ret) AC.skip)) (AC.seq (AC.ops
  [AOper.mk (some 26) (AOp.load true 2 (Operand.tmp 3)) none, AOper.mk (some 27) (AOp.call 44 [Operand.tmp 26]) none, AOper.mk (some 25) (AOp.mov
  (Operand.tmp 27)) none, AOper.mk (some 28) (AOp.ext (Operand.tmp 25) 0) none, AOper.mk (some 29) (AOp.ext (Operand.tmp 25) 1) none, AOper.mk (some 11)
  (AOp.mov (Operand.tmp 28)) none, AOper.mk (some 10) (AOp.mov (Operand.tmp 29)) none]) (AC.seq (AC.seq (AC.ops [AOper.mk (some 30) (AOp.mov (Operand.tmp
  10)) none, AOper.mk (some 31) (AOp.bin false BinOp.neq (Operand.tmp 30) (Operand.const (Value.int IntKind.i64 0))) none]) (AC.cond (Operand.tmp 31)
  (AC.seq (AC.ops [AOper.mk (some 32) (AOp.mov (Operand.tmp 10)) none, AOper.mk (some 6) (AOp.mov (Operand.const (Value.int IntKind.i64 0))) none,
  AOper.mk (some 7) (AOp.mov (Operand.const (Value.int IntKind.i64 0))) none, AOper.mk (some 8) (AOp.mov (Operand.tmp 32)) none]) AC.ret) AC.skip))
  (AC.seq (AC.ops [AOper.mk (some 34) (AOp.load true 2 (Operand.tmp 4)) none, AOper.mk (some 35) (AOp.call 44 [Operand.tmp 34]) none, AOper.mk (some 33)
  (AOp.mov (Operand.tmp 35)) none, AOper.mk (some 36) (AOp.ext (Operand.tmp 33) 0) none, AOper.mk (some 37) (AOp.ext (Operand.tmp 33) 1) none, AOper.mk
  (some 12) (AOp.mov (Operand.tmp 36)) none, AOper.mk (some 10) (AOp.mov (Operand.tmp 37)) none]) (AC.seq (AC.seq (AC.ops [AOper.mk (some 38) (AOp.mov
  (Operand.tmp 10)) none, AOper.mk (some 39) (AOp.bin false BinOp.neq (Operand.tmp 38) (Operand.const (Value.int IntKind.i64 0))) none]) (AC.cond
  (Operand.tmp 39) (AC.seq (AC.ops [AOper.mk (some 40) (AOp.mov (Operand.tmp 10)) none, AOper.mk (some 6) (AOp.mov (Operand.const (Value.int IntKind.i64
  0))) none, AOper.mk (some 7) (AOp.mov (Operand.const (Value.int IntKind.i64 0))) none, AOper.mk (some 8) (AOp.mov (Operand.tmp 40)) none]) AC.ret)
  AC.skip)) (AC.seq (AC.ops [AOper.mk (some 42) (AOp.load true 2 (Operand.tmp 3)) none, AOper.mk (some 43) (AOp.load true 2 (Operand.tmp 4)) none,
  AOper.mk (some 44) (AOp.load true 2 (Operand.tmp 5)) none, AOper.mk (some 45) (AOp.call 21 [Operand.tmp 42, Operand.tmp 43, Operand.tmp 44]) none,
  AOper.mk (some 41) (AOp.mov (Operand.tmp 45)) none, AOper.mk (some 46) (AOp.ext (Operand.tmp 41) 0) none, AOper.mk (some 47) (AOp.ext (Operand.tmp 41)
  1) none, AOper.mk (some 13) (AOp.mov (Operand.tmp 46)) none, AOper.mk (some 10) (AOp.mov (Operand.tmp 47)) none]) (AC.seq (AC.seq (AC.ops [AOper.mk
  (some 48) (AOp.mov (Operand.tmp 10)) none, AOper.mk (some 49) (AOp.bin false BinOp.neq (Operand.tmp 48) (Operand.const (Value.int IntKind.i64 0)))
  none]) (AC.cond (Operand.tmp 49) (AC.seq (AC.ops [AOper.mk (some 50) (AOp.mov (Operand.tmp 10)) none, AOper.mk (some 6) (AOp.mov (Operand.const
  (Value.int IntKind.i64 0))) none, AOper.mk (some 7) (AOp.mov (Operand.const (Value.int IntKind.i64 0))) none, AOper.mk (some 8) (AOp.mov (Operand.tmp
  50)) none]) AC.ret) AC.skip)) (AC.seq (AC.ops [AOper.mk (some 52) (AOp.mov (Operand.tmp 9)) none, AOper.mk (some 53) (AOp.call 45 [Operand.tmp 52])
  none, AOper.mk (some 51) (AOp.mov (Operand.tmp 53)) none, AOper.mk (some 54) (AOp.ext (Operand.tmp 51) 0) none, AOper.mk (some 55) (AOp.ext
  (Operand.tmp 51) 1) none, AOper.mk (some 14) (AOp.mov (Operand.tmp 54)) none, AOper.mk (some 10) (AOp.mov (Operand.tmp 55)) none]) (AC.seq (AC.seq
  (AC.ops [AOper.mk (some 56) (AOp.mov (Operand.tmp 10)) none, AOper.mk (some 57) (AOp.bin false BinOp.neq (Operand.tmp 56) (Operand.const (Value.int
  IntKind.i64 0))) none]) (AC.cond (Operand.tmp 57) (AC.seq (AC.ops [AOper.mk (some 58) (AOp.mov (Operand.tmp 10)) none, AOper.mk (some 6) (AOp.mov
  (Operand.const (Value.int IntKind.i64 0))) none, AOper.mk (some 7) (AOp.mov (Operand.const (Value.int IntKind.i64 0))) none, AOper.mk (some 8) (AOp.mov
  (Operand.tmp 58)) none]) AC.ret) AC.skip)) (AC.seq (AC.ops [AOper.mk (some 59) (AOp.mov (Operand.tmp 11)) none, AOper.mk (some 60) (AOp.bin false
  BinOp.mul (Operand.const (Value.int IntKind.i64 2)) (Operand.tmp 59)) none, AOper.mk (some 61) (AOp.bin false BinOp.sub (Operand.tmp 60) (Operand.const
  (Value.int IntKind.i64 2))) none, AOper.mk (some 62) (AOp.mov (Operand.tmp 13)) none, AOper.mk (some 63) (AOp.mov (Operand.tmp 12)) none, AOper.mk
  (some 64) (AOp.bin false BinOp.mul (Operand.const (Value.int IntKind.i64 2)) (Operand.tmp 63)) none, AOper.mk (some 65) (AOp.bin false BinOp.sub
  (Operand.tmp 64) (Operand.const (Value.int IntKind.i64 2))) none, AOper.mk (some 66) (AOp.bin false BinOp.mul (Operand.tmp 62) (Operand.tmp 65)) none,
  AOper.mk (some 67) (AOp.mov (Operand.tmp 14)) none, AOper.mk (some 68) (AOp.bin false BinOp.add (Operand.tmp 66) (Operand.tmp 67)) none, AOper.mk (some
  6) (AOp.mov (Operand.tmp 61)) none, AOper.mk (some 7) (AOp.mov (Operand.tmp 68)) none, AOper.mk (some 8) (AOp.mov (Operand.const (Value.int IntKind.i64
  0))) none]) AC.ret)))))))))))) [ARes.tmp 6, ARes.tmp 7, ARes.tmp 8]
theorem cfn18 : cfn Try.prog 18 3 = some c18 := by kernel_rfl
def c19 : AFn :=
  AFn.mk 42 (AC.seq (AC.ops [AOper.mk (some 3) (AOp.box 24 (Operand.tmp 0)) none, AOper.mk (some 4) (AOp.box 24 (Operand.tmp 1)) none, AOper.mk (some 5)
  (AOp.box 38 (Operand.tmp 2)) none, AOper.mk (some 6) (AOp.mov (Operand.const (Value.int IntKind.i64 0))) none, AOper.mk (some 7) (AOp.mov
  (Operand.const (Value.int IntKind.i64 0))) none, AOper.mk (some 8) (AOp.mov (Operand.const (Value.int IntKind.i64 0))) none]) (AC.seq (AC.seq (AC.ops
  [AOper.mk (some 12) (AOp.load true 2 (Operand.tmp 3)) none, AOper.mk (some 13) (AOp.load true 2 (Operand.tmp 4)) none, AOper.mk (some 14) (AOp.load
  true 2 (Operand.tmp 5)) none, AOper.mk (some 15) (AOp.call 20 [Operand.tmp 12, Operand.tmp 13, Operand.tmp 14]) none, AOper.mk (some 9) (AOp.mov
  (Operand.tmp 15)) none]) (AC.seq (AC.ops [AOper.mk (some 16) (AOp.mov (Operand.tmp 9)) none, AOper.mk (some 17) (AOp.bin false BinOp.neq (Operand.tmp
  16) (Operand.const (Value.int IntKind.i64 0))) none]) (AC.cond (Operand.tmp 17) (AC.seq (AC.ops [AOper.mk (some 18) (AOp.mov (Operand.tmp 9)) none,
  AOper.mk (some 6) (AOp.mov (Operand.const (Value.int IntKind.i64 0))) none, AOper.mk (some 7) (AOp.mov (Operand.const (Value.int IntKind.i64 0))) none,
  AOper.mk (some 8) (AOp.mov (Operand.tmp 18)) none]) AC.ret) AC.skip))) (AC.seq (AC.ops [AOper.mk (some 20) (AOp.load true 2 (Operand.tmp 3)) none,
  AOper.mk (some 21) (AOp.load true 2 (Operand.tmp 4)) none, AOper.mk (some 22) (AOp.load true 2 (Operand.tmp 5)) none, AOper.mk (some 23) (AOp.call 46
  [Operand.tmp 20, Operand.tmp 21, Operand.tmp 22]) none, AOper.mk (some 19) (AOp.mov (Operand.tmp 23)) none, AOper.mk (some 24) (AOp.ext (Operand.tmp
  19) 0) none, AOper.mk (some 25) (AOp.ext (Operand.tmp 19) 1) none, AOper.mk (some 10) (AOp.mov (Operand.tmp 24)) none, AOper.mk (some 11) (AOp.mov
  (Operand.tmp 25)) none]) (AC.seq (AC.segs [([AOper.mk (some 26) (AOp.load true 2 (Operand.tmp 3)) none, AOper.mk (some 30) (AOp.mov (Operand.tmp 10))
  none, AOper.mk (some 31) (AOp.load true 2 (Operand.tmp 4)) none, AOper.mk (some 36) (AOp.load true 2 (Operand.tmp 3)) none, AOper.mk (some 37)
  (AOp.load true 2 (Operand.tmp 4)) none, AOper.mk (some 38) (AOp.load true 2 (Operand.tmp 5)) none], some (true, AOper.mk (some 27) (AOp.call 47
  [Operand.tmp 26]) none)), ([AOper.mk (some 28) (AOp.bin false BinOp.mul (Operand.const (Value.int IntKind.i64 2)) (Operand.tmp 27)) none, AOper.mk
  (some 29) (AOp.bin false BinOp.sub (Operand.tmp 28) (Operand.const (Value.int IntKind.i64 2))) none], some (true, AOper.mk (some 32) (AOp.call 47
  [Operand.tmp 31]) none)), ([AOper.mk (some 33) (AOp.bin false BinOp.mul (Operand.const (Value.int IntKind.i64 2)) (Operand.tmp 32)) none, AOper.mk
  (some 34) (AOp.bin false BinOp.sub (Operand.tmp 33) (Operand.const (Value.int IntKind.i64 2))) none, AOper.mk (some 35) (AOp.bin false BinOp.mul
  (Operand.tmp 30) (Operand.tmp 34)) none], some (true, AOper.mk (some 39) (AOp.call 43 [Operand.tmp 36, Operand.tmp 37, Operand.tmp 38]) none)), ([],
  some (true, AOper.mk (some 40) (AOp.call 23 [Operand.tmp 39]) none)), ([AOper.mk (some 41) (AOp.bin false BinOp.add (Operand.tmp 35) (Operand.tmp 40))
  none, AOper.mk (some 6) (AOp.mov (Operand.tmp 29)) none, AOper.mk (some 7) (AOp.mov (Operand.tmp 41)) none, AOper.mk (some 8) (AOp.mov (Operand.const
  (Value.int IntKind.i64 0))) none], none)]) AC.ret)))) [ARes.tmp 6, ARes.tmp 7, ARes.tmp 8]
theorem cfn19 : cfn Try.prog 19 3 = some c19 := by kernel_rfl
def c20 : AFn :=
  AFn.mk 20 (AC.seq (AC.ops [AOper.mk (some 3) (AOp.box 24 (Operand.tmp 0)) none, AOper.mk (some 4) (AOp.box 24 (Operand.tmp 1)) none, AOper.mk (some 5)
  (AOp.box 38 (Operand.tmp 2)) none, AOper.mk (some 6) (AOp.mov (Operand.const (Value.int IntKind.i64 0))) none]) (AC.seq (AC.seq (AC.ops [AOper.mk (some
  8) (AOp.load true 2 (Operand.tmp 3)) none, AOper.mk (some 9) (AOp.load true 2 (Operand.tmp 4)) none, AOper.mk (some 10) (AOp.load true 2 (Operand.tmp
  5)) none, AOper.mk (some 11) (AOp.call 48 [Operand.tmp 8, Operand.tmp 9, Operand.tmp 10]) none, AOper.mk (some 7) (AOp.mov (Operand.tmp 11)) none])
  (AC.seq (AC.ops [AOper.mk (some 12) (AOp.mov (Operand.tmp 7)) none, AOper.mk (some 13) (AOp.bin false BinOp.neq (Operand.tmp 12) (Operand.const
  (Value.int IntKind.i64 0))) none]) (AC.cond (Operand.tmp 13) (AC.seq (AC.ops [AOper.mk (some 14) (AOp.mov (Operand.tmp 7)) none, AOper.mk (some 6)
  (AOp.mov (Operand.tmp 14)) none]) AC.ret) AC.skip))) (AC.seq (AC.seq (AC.ops [AOper.mk (some 15) (AOp.load true 2 (Operand.tmp 3)) none, AOper.mk (some
  16) (AOp.load true 2 (Operand.tmp 4)) none, AOper.mk (some 17) (AOp.load true 2 (Operand.tmp 5)) none, AOper.mk (some 18) (AOp.call 49 [Operand.tmp 15,
  Operand.tmp 16, Operand.tmp 17]) none, AOper.mk (some 19) (AOp.un UnOp.not (Operand.tmp 18)) none]) (AC.cond (Operand.tmp 19) (AC.seq (AC.ops [AOper.mk
  (some 6) (AOp.mov (Operand.const (Value.int IntKind.i64 15))) none]) AC.ret) AC.skip)) (AC.seq (AC.ops [AOper.mk (some 6) (AOp.mov (Operand.const
  (Value.int IntKind.i64 0))) none]) AC.ret)))) [ARes.tmp 6]
theorem cfn20 : cfn Try.prog 20 3 = some c20 := by kernel_rfl
def c21 : AFn :=
  AFn.mk 45 (AC.seq (AC.ops [AOper.mk (some 3) (AOp.box 24 (Operand.tmp 0)) none, AOper.mk (some 4) (AOp.box 24 (Operand.tmp 1)) none, AOper.mk (some 5)
  (AOp.box 29 (Operand.tmp 2)) none, AOper.mk (some 6) (AOp.mov (Operand.const (Value.int IntKind.i64 0))) none, AOper.mk (some 7) (AOp.mov
  (Operand.const (Value.int IntKind.i64 0))) none]) (AC.seq (AC.ops [AOper.mk (some 16) (AOp.load true 2 (Operand.tmp 3)) none, AOper.mk (some 17)
  (AOp.load true 2 (Operand.tmp 4)) none, AOper.mk (some 18) (AOp.load true 2 (Operand.tmp 5)) none, AOper.mk (some 19) (AOp.call 50 [Operand.tmp 16,
  Operand.tmp 17, Operand.tmp 18]) none, AOper.mk (some 15) (AOp.mov (Operand.tmp 19)) none, AOper.mk (some 20) (AOp.ext (Operand.tmp 15) 0) none,
  AOper.mk (some 21) (AOp.ext (Operand.tmp 15) 1) none, AOper.mk (some 8) (AOp.zro 89 (PV.agg [PV.v (Value.int IntKind.i64 0), PV.v (Value.slice none 0
  0), PV.v (Value.int IntKind.i64 0), PV.v (Value.slice none 0 0), PV.v (Value.slice none 0 0), PV.v (Value.slice none 0 0), PV.v (Value.slice none 0 0),
  PV.v (Value.slice none 0 0)])) none, AOper.mk none (AOp.store 8 (Operand.tmp 8) (Operand.tmp 20)) none, AOper.mk (some 9) (AOp.mov (Operand.tmp 21))
  none]) (AC.seq (AC.seq (AC.ops [AOper.mk (some 22) (AOp.mov (Operand.tmp 9)) none, AOper.mk (some 23) (AOp.bin false BinOp.neq (Operand.tmp 22)
  (Operand.const (Value.int IntKind.i64 0))) none]) (AC.cond (Operand.tmp 23) (AC.seq (AC.ops [AOper.mk (some 24) (AOp.mov (Operand.tmp 9)) none,
  AOper.mk (some 6) (AOp.mov (Operand.const (Value.int IntKind.i64 0))) none, AOper.mk (some 7) (AOp.mov (Operand.tmp 24)) none]) AC.ret) AC.skip))
  (AC.seq (AC.seq (AC.ops [AOper.mk (some 26) (AOp.load true 8 (Operand.tmp 8)) none, AOper.mk (some 27) (AOp.call 51 [Operand.tmp 26]) none, AOper.mk
  (some 25) (AOp.mov (Operand.tmp 27)) none, AOper.mk (some 28) (AOp.ext (Operand.tmp 25) 0) none, AOper.mk (some 29) (AOp.ext (Operand.tmp 25) 1) none,
  AOper.mk (some 10) (AOp.mov (Operand.tmp 28)) none, AOper.mk (some 11) (AOp.mov (Operand.tmp 29)) none]) (AC.seq (AC.ops [AOper.mk (some 30) (AOp.mov
  (Operand.tmp 11)) none, AOper.mk (some 31) (AOp.un UnOp.not (Operand.tmp 30)) none]) (AC.cond (Operand.tmp 31) (AC.seq (AC.ops [AOper.mk (some 6)
  (AOp.mov (Operand.const (Value.int IntKind.i64 0))) none, AOper.mk (some 7) (AOp.mov (Operand.const (Value.int IntKind.i64 15))) none]) AC.ret)
  AC.skip))) (AC.seq (AC.ops [AOper.mk (some 12) (AOp.mov (Operand.const (Value.int IntKind.i64 0))) none]) (AC.seq (AC.seq (AC.ops [AOper.mk (some 32)
  (AOp.fadr 1 (Operand.tmp 5)) none, AOper.mk (some 33) (AOp.load false 1 (Operand.tmp 32)) none, AOper.mk (some 34) (AOp.len (Operand.tmp 33)) none,
  AOper.mk (some 35) (AOp.mov (Operand.const (Value.int IntKind.i64 0))) none]) (AC.block 0 (AC.loop (AC.seq (AC.ops [AOper.mk (some 36) (AOp.bin false
  BinOp.lss (Operand.tmp 35) (Operand.tmp 34)) none]) (AC.seq (AC.cond (Operand.tmp 36) AC.skip (AC.exit 0)) (AC.seq (AC.block 1 (AC.seq (AC.ops
  [AOper.mk (some 37) (AOp.iadr 1 (Operand.tmp 33) (Operand.tmp 35)) none, AOper.mk (some 38) (AOp.load false 1 (Operand.tmp 37)) none, AOper.mk (some
  14) (AOp.mov (Operand.tmp 38)) none]) (AC.seq (AC.ops [AOper.mk (some 39) (AOp.mov (Operand.tmp 14)) none, AOper.mk (some 40) (AOp.bin false BinOp.eql
  (Operand.tmp 39) (Operand.const (Value.int IntKind.i64 0))) none]) (AC.cond (Operand.tmp 40) (AC.ops [AOper.mk (some 41) (AOp.mov (Operand.tmp 12))
  none, AOper.mk (some 42) (AOp.bin false BinOp.add (Operand.tmp 41) (Operand.const (Value.int IntKind.i64 1))) none, AOper.mk (some 12) (AOp.mov
  (Operand.tmp 42)) none]) AC.skip)))) (AC.ops [AOper.mk (some 43) (AOp.bin false BinOp.add (Operand.tmp 35) (Operand.const (Value.int IntKind.i64 1)))
  none, AOper.mk (some 35) (AOp.mov (Operand.tmp 43)) none]))))))) (AC.seq (AC.ops [AOper.mk (some 44) (AOp.mov (Operand.tmp 12)) none, AOper.mk (some 6)
  (AOp.mov (Operand.tmp 44)) none, AOper.mk (some 7) (AOp.mov (Operand.const (Value.int IntKind.i64 0))) none]) AC.ret))))))) [ARes.tmp 6, ARes.tmp 7]
theorem cfn21 : cfn Try.prog 21 3 = some c21 := by kernel_rfl
def c22 : AFn :=
  AFn.mk 32 (AC.seq (AC.ops [AOper.mk (some 4) (AOp.box 26 (Operand.tmp 0)) none, AOper.mk (some 5) (AOp.box 29 (Operand.tmp 1)) none, AOper.mk (some 8)
  (AOp.mov (Operand.const (Value.bool false))) none]) (AC.seq (AC.seq (AC.ops [AOper.mk (some 9) (AOp.load true 4 (Operand.tmp 4)) none, AOper.mk (some
  10) (AOp.load true 2 (Operand.tmp 5)) none, AOper.mk (some 11) (AOp.mov (Operand.tmp 2)) none, AOper.mk (some 12) (AOp.call 10 [Operand.tmp 9,
  Operand.tmp 10, Operand.tmp 11]) none, AOper.mk (some 13) (AOp.un UnOp.not (Operand.tmp 12)) none, AOper.mk (some 14) (AOp.mov (Operand.tmp 13)) none,
  AOper.mk (some 15) (AOp.fadr 0 (Operand.tmp 4)) (some (14, false)), AOper.mk (some 16) (AOp.load true 2 (Operand.tmp 15)) (some (14, false)), AOper.mk
  (some 17) (AOp.fadr 2 (Operand.tmp 4)) (some (14, false)), AOper.mk (some 18) (AOp.load true 2 (Operand.tmp 17)) (some (14, false)), AOper.mk (some 19)
  (AOp.load true 2 (Operand.tmp 5)) (some (14, false)), AOper.mk (some 20) (AOp.call 20 [Operand.tmp 16, Operand.tmp 18, Operand.tmp 19]) (some (14,
  false)), AOper.mk (some 21) (AOp.bin false BinOp.neq (Operand.tmp 20) (Operand.const (Value.int IntKind.i64 0))) (some (14, false)), AOper.mk (some 22)
  (AOp.pick (Operand.tmp 14) (Operand.const (Value.bool true)) (Operand.tmp 21)) none, AOper.mk (some 23) (AOp.mov (Operand.tmp 22)) none, AOper.mk (some
  24) (AOp.mov (Operand.tmp 2)) (some (23, false)), AOper.mk (some 25) (AOp.len (Operand.tmp 24)) (some (23, false)), AOper.mk (some 26) (AOp.mov
  (Operand.tmp 3)) (some (23, false)), AOper.mk (some 27) (AOp.bin false BinOp.neq (Operand.tmp 25) (Operand.tmp 26)) (some (23, false)), AOper.mk (some
  28) (AOp.pick (Operand.tmp 23) (Operand.const (Value.bool true)) (Operand.tmp 27)) none]) (AC.cond (Operand.tmp 28) (AC.seq (AC.ops [AOper.mk (some 8)
  (AOp.mov (Operand.const (Value.bool false))) none]) AC.ret) AC.skip)) (AC.seq (AC.ops [AOper.mk (some 29) (AOp.mov (Operand.tmp 2)) none, AOper.mk
  (some 30) (AOp.call 52 [Operand.tmp 29, Operand.func 53]) none, AOper.mk (some 31) (AOp.un UnOp.not (Operand.tmp 30)) none, AOper.mk (some 8) (AOp.mov
  (Operand.tmp 31)) none]) AC.ret))) [ARes.tmp 8]
theorem cfn22 : cfn Try.prog 22 4 = some c22 := by kernel_rfl
def c23 : AFn :=
  AFn.mk 18 (AC.seq (AC.ops [AOper.mk (some 2) (AOp.mov (Operand.const (Value.int IntKind.i64 0))) none]) (AC.seq (AC.ops [AOper.mk (some 3) (AOp.mov
  (Operand.const (Value.int IntKind.i64 0))) none]) (AC.seq (AC.seq (AC.ops [AOper.mk (some 4) (AOp.mov (Operand.const (Value.int IntKind.i64 0))) none])
  (AC.block 0 (AC.loop (AC.seq (AC.seq (AC.ops [AOper.mk (some 5) (AOp.mov (Operand.tmp 4)) none, AOper.mk (some 6) (AOp.mov (Operand.tmp 0)) none,
  AOper.mk (some 7) (AOp.len (Operand.tmp 6)) none, AOper.mk (some 8) (AOp.bin false BinOp.lss (Operand.tmp 5) (Operand.tmp 7)) none]) (AC.cond
  (Operand.tmp 8) AC.skip (AC.exit 0))) (AC.seq (AC.block 1 (AC.ops [AOper.mk (some 11) (AOp.mov (Operand.tmp 3)) none, AOper.mk (some 12) (AOp.mov
  (Operand.tmp 0)) none, AOper.mk (some 13) (AOp.mov (Operand.tmp 4)) none, AOper.mk (some 14) (AOp.iadr 1 (Operand.tmp 12) (Operand.tmp 13)) none,
  AOper.mk (some 15) (AOp.load false 1 (Operand.tmp 14)) none, AOper.mk (some 16) (AOp.bin false BinOp.add (Operand.tmp 11) (Operand.tmp 15)) none,
  AOper.mk (some 3) (AOp.mov (Operand.tmp 16)) none])) (AC.ops [AOper.mk (some 9) (AOp.mov (Operand.tmp 4)) none, AOper.mk (some 10) (AOp.bin false
  BinOp.add (Operand.tmp 9) (Operand.const (Value.int IntKind.i64 1))) none, AOper.mk (some 4) (AOp.mov (Operand.tmp 10)) none])))))) (AC.seq (AC.ops
  [AOper.mk (some 17) (AOp.mov (Operand.tmp 3)) none, AOper.mk (some 2) (AOp.mov (Operand.tmp 17)) none]) AC.ret)))) [ARes.tmp 2]
theorem cfn23 : cfn Try.prog 23 1 = some c23 := by kernel_rfl
def c24 : AFn :=
  AFn.mk 23 (AC.seq (AC.ops [AOper.mk (some 2) (AOp.box 24 (Operand.tmp 0)) none, AOper.mk (some 4) (AOp.mov (Operand.const (Value.int IntKind.i64 0)))
  none]) (AC.seq (AC.ops [AOper.mk (some 5) (AOp.mov (Operand.const (Value.int IntKind.i64 0))) none]) (AC.seq (AC.seq (AC.ops [AOper.mk (some 6)
  (AOp.mov (Operand.const (Value.int IntKind.i64 0))) none]) (AC.block 0 (AC.loop (AC.seq (AC.seq (AC.ops [AOper.mk (some 7) (AOp.mov (Operand.tmp 6))
  none, AOper.mk (some 8) (AOp.fadr 0 (Operand.tmp 2)) none, AOper.mk (some 9) (AOp.load false 1 (Operand.tmp 8)) none, AOper.mk (some 10) (AOp.bin false
  BinOp.lss (Operand.tmp 7) (Operand.tmp 9)) none]) (AC.cond (Operand.tmp 10) AC.skip (AC.exit 0))) (AC.seq (AC.block 1 (AC.seq (AC.ops [AOper.mk (some
  13) (AOp.mov (Operand.tmp 6)) none, AOper.mk (some 14) (AOp.mov (Operand.tmp 1)) none, AOper.mk (some 15) (AOp.bin false BinOp.neq (Operand.tmp 13)
  (Operand.tmp 14)) none]) (AC.cond (Operand.tmp 15) (AC.ops [AOper.mk (some 16) (AOp.mov (Operand.tmp 5)) none, AOper.mk (some 17) (AOp.load true 2
  (Operand.tmp 2)) none, AOper.mk (some 18) (AOp.mov (Operand.tmp 6)) none, AOper.mk (some 19) (AOp.mov (Operand.tmp 1)) none, AOper.mk (some 20)
  (AOp.call 54 [Operand.tmp 17, Operand.tmp 18, Operand.tmp 19]) none, AOper.mk (some 21) (AOp.bin false BinOp.add (Operand.tmp 16) (Operand.tmp 20))
  none, AOper.mk (some 5) (AOp.mov (Operand.tmp 21)) none]) AC.skip))) (AC.ops [AOper.mk (some 11) (AOp.mov (Operand.tmp 6)) none, AOper.mk (some 12)
  (AOp.bin false BinOp.add (Operand.tmp 11) (Operand.const (Value.int IntKind.i64 1))) none, AOper.mk (some 6) (AOp.mov (Operand.tmp 12)) none]))))))
  (AC.seq (AC.ops [AOper.mk (some 22) (AOp.mov (Operand.tmp 5)) none, AOper.mk (some 4) (AOp.mov (Operand.tmp 22)) none]) AC.ret)))) [ARes.tmp 4]
theorem cfn24 : cfn Try.prog 24 2 = some c24 := by kernel_rfl
def c25 : AFn :=
  AFn.mk 36 (AC.seq (AC.ops [AOper.mk (some 4) (AOp.box 24 (Operand.tmp 0)) none, AOper.mk (some 5) (AOp.box 24 (Operand.tmp 1)) none, AOper.mk (some 6)
  (AOp.box 29 (Operand.tmp 2)) none, AOper.mk (some 8) (AOp.mov (Operand.const (Value.slice none 0 0))) none, AOper.mk (some 9) (AOp.mov (Operand.const
  (Value.int IntKind.i64 0))) none]) (AC.seq (AC.ops [AOper.mk (some 14) (AOp.load true 2 (Operand.tmp 4)) none, AOper.mk (some 15) (AOp.load true 2
  (Operand.tmp 5)) none, AOper.mk (some 16) (AOp.load true 2 (Operand.tmp 6)) none, AOper.mk (some 17) (AOp.call 32 [Operand.tmp 14, Operand.tmp 15,
  Operand.tmp 16]) none, AOper.mk (some 13) (AOp.mov (Operand.tmp 17)) none, AOper.mk (some 18) (AOp.ext (Operand.tmp 13) 0) none, AOper.mk (some 19)
  (AOp.ext (Operand.tmp 13) 1) none, AOper.mk (some 10) (AOp.zro 27 (PV.v (Value.slice none 0 0))) none, AOper.mk none (AOp.store 1 (Operand.tmp 10)
  (Operand.tmp 18)) none, AOper.mk (some 11) (AOp.mov (Operand.tmp 19)) none]) (AC.seq (AC.seq (AC.ops [AOper.mk (some 20) (AOp.mov (Operand.tmp 11))
  none, AOper.mk (some 21) (AOp.bin false BinOp.neq (Operand.tmp 20) (Operand.const (Value.int IntKind.i64 0))) none]) (AC.cond (Operand.tmp 21) (AC.seq
  (AC.ops [AOper.mk (some 22) (AOp.mov (Operand.tmp 11)) none, AOper.mk (some 8) (AOp.mov (Operand.const (Value.slice none 0 0))) none, AOper.mk (some 9)
  (AOp.mov (Operand.tmp 22)) none]) AC.ret) AC.skip)) (AC.seq (AC.seq (AC.ops [AOper.mk (some 23) (AOp.load true 2 (Operand.tmp 4)) none, AOper.mk (some
  24) (AOp.mov (Operand.tmp 3)) none, AOper.mk (some 25) (AOp.call 55 [Operand.tmp 23, Operand.tmp 24]) none, AOper.mk (some 12) (AOp.mov (Operand.tmp
  25)) none]) (AC.seq (AC.ops [AOper.mk (some 26) (AOp.mov (Operand.tmp 12)) none, AOper.mk (some 27) (AOp.bin false BinOp.neq (Operand.tmp 26)
  (Operand.const (Value.int IntKind.i64 0))) none]) (AC.cond (Operand.tmp 27) (AC.seq (AC.ops [AOper.mk (some 28) (AOp.mov (Operand.tmp 12)) none,
  AOper.mk (some 8) (AOp.mov (Operand.const (Value.slice none 0 0))) none, AOper.mk (some 9) (AOp.mov (Operand.tmp 28)) none]) AC.ret) AC.skip))) (AC.seq
  (AC.ops [AOper.mk (some 29) (AOp.load true 2 (Operand.tmp 5)) none, AOper.mk (some 30) (AOp.load true 2 (Operand.tmp 6)) none, AOper.mk (some 31)
  (AOp.mov (Operand.tmp 3)) none, AOper.mk (some 32) (AOp.fn (Fn.func 57) [] [Operand.tmp 10]) none, AOper.mk (some 33) (AOp.call 56 [Operand.tmp 29,
  Operand.tmp 30, Operand.tmp 31, Operand.tmp 32]) none, AOper.mk (some 34) (AOp.ext (Operand.tmp 33) 0) none, AOper.mk (some 35) (AOp.ext (Operand.tmp
  33) 1) none, AOper.mk (some 8) (AOp.mov (Operand.tmp 34)) none, AOper.mk (some 9) (AOp.mov (Operand.tmp 35)) none]) AC.ret))))) [ARes.tmp 8, ARes.tmp
  9]
theorem cfn25 : cfn Try.prog 25 4 = some c25 := by kernel_rfl
def c26 : AFn :=
  AFn.mk 34 (AC.seq (AC.ops [AOper.mk (some 4) (AOp.box 24 (Operand.tmp 0)) none, AOper.mk (some 5) (AOp.box 24 (Operand.tmp 1)) none, AOper.mk (some 6)
  (AOp.box 29 (Operand.tmp 2)) none, AOper.mk (some 8) (AOp.mov (Operand.const (Value.slice none 0 0))) none, AOper.mk (some 9) (AOp.mov (Operand.const
  (Value.int IntKind.i64 0))) none]) (AC.seq (AC.seq (AC.ops [AOper.mk (some 14) (AOp.load true 2 (Operand.tmp 4)) none, AOper.mk (some 15) (AOp.load
  true 2 (Operand.tmp 5)) none, AOper.mk (some 16) (AOp.load true 2 (Operand.tmp 6)) none, AOper.mk (some 17) (AOp.call 32 [Operand.tmp 14, Operand.tmp
  15, Operand.tmp 16]) none, AOper.mk (some 13) (AOp.mov (Operand.tmp 17)) none, AOper.mk (some 18) (AOp.ext (Operand.tmp 13) 0) none, AOper.mk (some 19)
  (AOp.ext (Operand.tmp 13) 1) none, AOper.mk (some 10) (AOp.mov (Operand.tmp 18)) none, AOper.mk (some 11) (AOp.mov (Operand.tmp 19)) none]) (AC.seq
  (AC.ops [AOper.mk (some 20) (AOp.mov (Operand.tmp 11)) none, AOper.mk (some 21) (AOp.bin false BinOp.neq (Operand.tmp 20) (Operand.const (Value.int
  IntKind.i64 0))) none]) (AC.cond (Operand.tmp 21) (AC.seq (AC.ops [AOper.mk (some 22) (AOp.mov (Operand.tmp 11)) none, AOper.mk (some 8) (AOp.mov
  (Operand.const (Value.slice none 0 0))) none, AOper.mk (some 9) (AOp.mov (Operand.tmp 22)) none]) AC.ret) AC.skip))) (AC.seq (AC.seq (AC.ops [AOper.mk
  (some 23) (AOp.load true 2 (Operand.tmp 5)) none, AOper.mk (some 24) (AOp.mov (Operand.tmp 3)) none, AOper.mk (some 25) (AOp.call 55 [Operand.tmp 23,
  Operand.tmp 24]) none, AOper.mk (some 12) (AOp.mov (Operand.tmp 25)) none]) (AC.seq (AC.ops [AOper.mk (some 26) (AOp.mov (Operand.tmp 12)) none,
  AOper.mk (some 27) (AOp.bin false BinOp.neq (Operand.tmp 26) (Operand.const (Value.int IntKind.i64 0))) none]) (AC.cond (Operand.tmp 27) (AC.seq
  (AC.ops [AOper.mk (some 28) (AOp.mov (Operand.tmp 12)) none, AOper.mk (some 8) (AOp.mov (Operand.const (Value.slice none 0 0))) none, AOper.mk (some 9)
  (AOp.mov (Operand.tmp 28)) none]) AC.ret) AC.skip))) (AC.seq (AC.ops [AOper.mk (some 29) (AOp.load true 2 (Operand.tmp 6)) none, AOper.mk (some 30)
  (AOp.mov (Operand.tmp 3)) none, AOper.mk (some 31) (AOp.call 58 [Operand.tmp 29, Operand.tmp 30, Operand.func 35]) none, AOper.mk (some 32) (AOp.ext
  (Operand.tmp 31) 0) none, AOper.mk (some 33) (AOp.ext (Operand.tmp 31) 1) none, AOper.mk (some 8) (AOp.mov (Operand.tmp 32)) none, AOper.mk (some 9)
  (AOp.mov (Operand.tmp 33)) none]) AC.ret)))) [ARes.tmp 8, ARes.tmp 9]
theorem cfn26 : cfn Try.prog 26 4 = some c26 := by kernel_rfl
def c27 : AFn :=
  AFn.mk 26 (AC.seq (AC.ops [AOper.mk (some 4) (AOp.mov (Operand.const (Value.bool false))) none]) (AC.seq (AC.seq (AC.ops [AOper.mk (some 6) (AOp.mov
  (Operand.tmp 0)) none, AOper.mk (some 7) (AOp.len (Operand.tmp 6)) none, AOper.mk (some 8) (AOp.mov (Operand.tmp 1)) none, AOper.mk (some 9) (AOp.len
  (Operand.tmp 8)) none, AOper.mk (some 10) (AOp.bin false BinOp.neq (Operand.tmp 7) (Operand.tmp 9)) none]) (AC.cond (Operand.tmp 10) (AC.seq (AC.ops
  [AOper.mk (some 4) (AOp.mov (Operand.const (Value.bool false))) none]) AC.ret) AC.skip)) (AC.seq (AC.seq (AC.ops [AOper.mk (some 11) (AOp.mov
  (Operand.tmp 0)) none, AOper.mk (some 12) (AOp.len (Operand.tmp 11)) none, AOper.mk (some 13) (AOp.mov (Operand.const (Value.int IntKind.i64 0)))
  none]) (AC.block 0 (AC.loop (AC.seq (AC.ops [AOper.mk (some 14) (AOp.bin false BinOp.lss (Operand.tmp 13) (Operand.tmp 12)) none]) (AC.seq (AC.cond
  (Operand.tmp 14) AC.skip (AC.exit 0)) (AC.seq (AC.block 1 (AC.seq (AC.ops [AOper.mk (some 15) (AOp.mov (Operand.tmp 13)) none, AOper.mk (some 5)
  (AOp.mov (Operand.tmp 15)) none]) (AC.seq (AC.segs [([AOper.mk (some 16) (AOp.mov (Operand.tmp 0)) none, AOper.mk (some 17) (AOp.mov (Operand.tmp 5))
  none, AOper.mk (some 18) (AOp.iadr 1 (Operand.tmp 16) (Operand.tmp 17)) none, AOper.mk (some 19) (AOp.load false 1 (Operand.tmp 18)) none, AOper.mk
  (some 20) (AOp.mov (Operand.tmp 1)) none, AOper.mk (some 21) (AOp.mov (Operand.tmp 5)) none, AOper.mk (some 22) (AOp.iadr 1 (Operand.tmp 20)
  (Operand.tmp 21)) none, AOper.mk (some 23) (AOp.load false 1 (Operand.tmp 22)) none, AOper.mk (some 24) (AOp.bin false BinOp.neq (Operand.tmp 19)
  (Operand.tmp 23)) none], none)]) (AC.cond (Operand.tmp 24) (AC.seq (AC.ops [AOper.mk (some 4) (AOp.mov (Operand.const (Value.bool false))) none])
  AC.ret) AC.skip)))) (AC.ops [AOper.mk (some 25) (AOp.bin false BinOp.add (Operand.tmp 13) (Operand.const (Value.int IntKind.i64 1))) none, AOper.mk
  (some 13) (AOp.mov (Operand.tmp 25)) none]))))))) (AC.seq (AC.ops [AOper.mk (some 4) (AOp.mov (Operand.const (Value.bool true))) none]) AC.ret))))
  [ARes.tmp 4]
theorem cfn27 : cfn Try.prog 27 2 = some c27 := by kernel_rfl
def c28 : AFn :=
  AFn.mk 89 (AC.seq (AC.ops [AOper.mk (some 5) (AOp.box 24 (Operand.tmp 0)) none, AOper.mk (some 6) (AOp.box 24 (Operand.tmp 1)) none, AOper.mk (some 7)
  (AOp.box 24 (Operand.tmp 2)) none, AOper.mk (some 8) (AOp.box 29 (Operand.tmp 3)) none, AOper.mk (some 9) (AOp.box 29 (Operand.tmp 4)) none, AOper.mk
  (some 10) (AOp.zro 29 (PV.agg [PV.v (Value.slice none 0 0), PV.v (Value.slice none 0 0)])) none, AOper.mk (some 11) (AOp.mov (Operand.const (Value.int
  IntKind.i64 0))) none]) (AC.seq (AC.seq (AC.ops [AOper.mk (some 22) (AOp.load true 2 (Operand.tmp 5)) none, AOper.mk (some 23) (AOp.load true 2
  (Operand.tmp 6)) none, AOper.mk (some 24) (AOp.load true 2 (Operand.tmp 7)) none, AOper.mk (some 25) (AOp.bsl 24 2 [Operand.tmp 22, Operand.tmp 23,
  Operand.tmp 24]) none, AOper.mk (some 26) (AOp.call 59 [Operand.tmp 25]) none, AOper.mk (some 21) (AOp.mov (Operand.tmp 26)) none, AOper.mk (some 27)
  (AOp.ext (Operand.tmp 21) 0) none, AOper.mk (some 28) (AOp.ext (Operand.tmp 21) 1) none, AOper.mk (some 12) (AOp.mov (Operand.tmp 27)) none, AOper.mk
  (some 13) (AOp.mov (Operand.tmp 28)) none]) (AC.seq (AC.ops [AOper.mk (some 29) (AOp.mov (Operand.tmp 13)) none, AOper.mk (some 30) (AOp.bin false
  BinOp.neq (Operand.tmp 29) (Operand.const (Value.int IntKind.i64 0))) none]) (AC.cond (Operand.tmp 30) (AC.seq (AC.ops [AOper.mk (some 31) (AOp.bld
  [PV.v (Value.slice none 0 0), PV.v (Value.slice none 0 0)] [(0, 1), (1, 1)] []) none, AOper.mk (some 32) (AOp.mov (Operand.tmp 13)) none, AOper.mk none
  (AOp.store 2 (Operand.tmp 10) (Operand.tmp 31)) none, AOper.mk (some 11) (AOp.mov (Operand.tmp 32)) none]) AC.ret) AC.skip))) (AC.seq (AC.seq (AC.ops
  [AOper.mk (some 33) (AOp.load true 2 (Operand.tmp 5)) none, AOper.mk (some 34) (AOp.load true 2 (Operand.tmp 6)) none, AOper.mk (some 35) (AOp.load
  true 2 (Operand.tmp 8)) none, AOper.mk (some 36) (AOp.call 60 [Operand.tmp 33, Operand.tmp 34, Operand.tmp 35]) none, AOper.mk (some 14) (AOp.mov
  (Operand.tmp 36)) none]) (AC.seq (AC.ops [AOper.mk (some 37) (AOp.mov (Operand.tmp 14)) none, AOper.mk (some 38) (AOp.bin false BinOp.neq (Operand.tmp
  37) (Operand.const (Value.int IntKind.i64 0))) none]) (AC.cond (Operand.tmp 38) (AC.seq (AC.ops [AOper.mk (some 39) (AOp.bld [PV.v (Value.slice none 0
  0), PV.v (Value.slice none 0 0)] [(0, 1), (1, 1)] []) none, AOper.mk (some 40) (AOp.mov (Operand.tmp 14)) none, AOper.mk none (AOp.store 2 (Operand.tmp
  10) (Operand.tmp 39)) none, AOper.mk (some 11) (AOp.mov (Operand.tmp 40)) none]) AC.ret) AC.skip))) (AC.seq (AC.seq (AC.ops [AOper.mk (some 41)
  (AOp.load true 2 (Operand.tmp 6)) none, AOper.mk (some 42) (AOp.load true 2 (Operand.tmp 7)) none, AOper.mk (some 43) (AOp.load true 2 (Operand.tmp 9))
  none, AOper.mk (some 44) (AOp.call 60 [Operand.tmp 41, Operand.tmp 42, Operand.tmp 43]) none, AOper.mk (some 15) (AOp.mov (Operand.tmp 44)) none])
  (AC.seq (AC.ops [AOper.mk (some 45) (AOp.mov (Operand.tmp 15)) none, AOper.mk (some 46) (AOp.bin false BinOp.neq (Operand.tmp 45) (Operand.const
  (Value.int IntKind.i64 0))) none]) (AC.cond (Operand.tmp 46) (AC.seq (AC.ops [AOper.mk (some 47) (AOp.bld [PV.v (Value.slice none 0 0), PV.v
  (Value.slice none 0 0)] [(0, 1), (1, 1)] []) none, AOper.mk (some 48) (AOp.mov (Operand.tmp 15)) none, AOper.mk none (AOp.store 2 (Operand.tmp 10)
  (Operand.tmp 47)) none, AOper.mk (some 11) (AOp.mov (Operand.tmp 48)) none]) AC.ret) AC.skip))) (AC.seq (AC.ops [AOper.mk (some 16) (AOp.zro 29 (PV.agg
  [PV.v (Value.slice none 0 0), PV.v (Value.slice none 0 0)])) none]) (AC.seq (AC.seq (AC.ops [AOper.mk (some 49) (AOp.fadr 0 (Operand.tmp 8)) none,
  AOper.mk (some 50) (AOp.load false 1 (Operand.tmp 49)) none, AOper.mk (some 51) (AOp.len (Operand.tmp 50)) none, AOper.mk (some 52) (AOp.mov
  (Operand.const (Value.int IntKind.i64 0))) none]) (AC.block 0 (AC.loop (AC.seq (AC.ops [AOper.mk (some 53) (AOp.bin false BinOp.lss (Operand.tmp 52)
  (Operand.tmp 51)) none]) (AC.seq (AC.cond (Operand.tmp 53) AC.skip (AC.exit 0)) (AC.seq (AC.block 1 (AC.seq (AC.ops [AOper.mk (some 54) (AOp.iadr 1
  (Operand.tmp 50) (Operand.tmp 52)) none, AOper.mk (some 55) (AOp.load false 1 (Operand.tmp 54)) none, AOper.mk (some 18) (AOp.mov (Operand.tmp 55))
  none]) (AC.segs [([AOper.mk (some 56) (AOp.fadr 0 (Operand.tmp 16)) none, AOper.mk (some 57) (AOp.load false 1 (Operand.tmp 56)) none, AOper.mk (some
  58) (AOp.fadr 0 (Operand.tmp 9)) none, AOper.mk (some 59) (AOp.load false 1 (Operand.tmp 58)) none, AOper.mk (some 60) (AOp.mov (Operand.tmp 18)) none,
  AOper.mk (some 61) (AOp.iadr 1 (Operand.tmp 59) (Operand.tmp 60)) none, AOper.mk (some 62) (AOp.load false 1 (Operand.tmp 61)) none], some (true,
  AOper.mk (some 63) (AOp.bsl 3 1 [Operand.tmp 62]) none)), ([], some (false, AOper.mk (some 64) (AOp.app 3 1 (Operand.tmp 57) (Operand.tmp 63)) none)),
  ([AOper.mk (some 65) (AOp.fadr 0 (Operand.tmp 16)) none], some (false, AOper.mk none (AOp.store 1 (Operand.tmp 65) (Operand.tmp 64)) none))]))) (AC.ops
  [AOper.mk (some 66) (AOp.bin false BinOp.add (Operand.tmp 52) (Operand.const (Value.int IntKind.i64 1))) none, AOper.mk (some 52) (AOp.mov (Operand.tmp
  66)) none]))))))) (AC.seq (AC.seq (AC.ops [AOper.mk (some 67) (AOp.fadr 1 (Operand.tmp 8)) none, AOper.mk (some 68) (AOp.load false 1 (Operand.tmp 67))
  none, AOper.mk (some 69) (AOp.len (Operand.tmp 68)) none, AOper.mk (some 70) (AOp.mov (Operand.const (Value.int IntKind.i64 0))) none]) (AC.block 2
  (AC.loop (AC.seq (AC.ops [AOper.mk (some 71) (AOp.bin false BinOp.lss (Operand.tmp 70) (Operand.tmp 69)) none]) (AC.seq (AC.cond (Operand.tmp 71)
  AC.skip (AC.exit 2)) (AC.seq (AC.block 3 (AC.seq (AC.ops [AOper.mk (some 72) (AOp.iadr 1 (Operand.tmp 68) (Operand.tmp 70)) none, AOper.mk (some 73)
  (AOp.load false 1 (Operand.tmp 72)) none, AOper.mk (some 20) (AOp.mov (Operand.tmp 73)) none]) (AC.seq (AC.seq (AC.ops [AOper.mk (some 74) (AOp.mov
  (Operand.tmp 20)) none, AOper.mk (some 75) (AOp.bin false BinOp.geq (Operand.tmp 74) (Operand.const (Value.int IntKind.i64 0))) none]) (AC.cond
  (Operand.tmp 75) (AC.ops [AOper.mk (some 76) (AOp.fadr 1 (Operand.tmp 9)) none, AOper.mk (some 77) (AOp.load false 1 (Operand.tmp 76)) none, AOper.mk
  (some 78) (AOp.mov (Operand.tmp 20)) none, AOper.mk (some 79) (AOp.iadr 1 (Operand.tmp 77) (Operand.tmp 78)) none, AOper.mk (some 80) (AOp.load false 1
  (Operand.tmp 79)) none, AOper.mk (some 20) (AOp.mov (Operand.tmp 80)) none]) AC.skip)) (AC.ops [AOper.mk (some 81) (AOp.fadr 1 (Operand.tmp 16)) none,
  AOper.mk (some 82) (AOp.load false 1 (Operand.tmp 81)) none, AOper.mk (some 83) (AOp.mov (Operand.tmp 20)) none, AOper.mk (some 84) (AOp.bsl 3 1
  [Operand.tmp 83]) none, AOper.mk (some 85) (AOp.app 3 1 (Operand.tmp 82) (Operand.tmp 84)) none, AOper.mk (some 86) (AOp.fadr 1 (Operand.tmp 16)) none,
  AOper.mk none (AOp.store 1 (Operand.tmp 86) (Operand.tmp 85)) none])))) (AC.ops [AOper.mk (some 87) (AOp.bin false BinOp.add (Operand.tmp 70)
  (Operand.const (Value.int IntKind.i64 1))) none, AOper.mk (some 70) (AOp.mov (Operand.tmp 87)) none]))))))) (AC.seq (AC.ops [AOper.mk (some 88)
  (AOp.load true 2 (Operand.tmp 16)) none, AOper.mk none (AOp.store 2 (Operand.tmp 10) (Operand.tmp 88)) none, AOper.mk (some 11) (AOp.mov (Operand.const
  (Value.int IntKind.i64 0))) none]) AC.ret)))))))) [ARes.cell 10 true 2, ARes.tmp 11]
theorem cfn28 : cfn Try.prog 28 5 = some c28 := by kernel_rfl
def c29 : AFn :=
  AFn.mk 22 (AC.seq (AC.ops [AOper.mk (some 2) (AOp.box 24 (Operand.tmp 0)) none, AOper.mk (some 4) (AOp.mov (Operand.const (Value.slice none 0 0)))
  none, AOper.mk (some 5) (AOp.mov (Operand.const (Value.int IntKind.i64 0))) none]) (AC.seq (AC.seq (AC.ops [AOper.mk (some 7) (AOp.load true 2
  (Operand.tmp 2)) none, AOper.mk (some 8) (AOp.mov (Operand.tmp 1)) none, AOper.mk (some 9) (AOp.call 55 [Operand.tmp 7, Operand.tmp 8]) none, AOper.mk
  (some 6) (AOp.mov (Operand.tmp 9)) none]) (AC.seq (AC.ops [AOper.mk (some 10) (AOp.mov (Operand.tmp 6)) none, AOper.mk (some 11) (AOp.bin false
  BinOp.neq (Operand.tmp 10) (Operand.const (Value.int IntKind.i64 0))) none]) (AC.cond (Operand.tmp 11) (AC.seq (AC.ops [AOper.mk (some 12) (AOp.mov
  (Operand.tmp 6)) none, AOper.mk (some 4) (AOp.mov (Operand.const (Value.slice none 0 0))) none, AOper.mk (some 5) (AOp.mov (Operand.tmp 12)) none])
  AC.ret) AC.skip))) (AC.seq (AC.segs [([AOper.mk (some 13) (AOp.load true 2 (Operand.tmp 2)) none, AOper.mk (some 14) (AOp.fadr 0 (Operand.tmp 2)) none,
  AOper.mk (some 15) (AOp.load false 1 (Operand.tmp 14)) none, AOper.mk (some 17) (AOp.mov (Operand.tmp 1)) none], some (true, AOper.mk (some 16) (AOp.mk
  3 1 (PV.v (Value.int IntKind.i64 0)) (Operand.tmp 15) (Operand.tmp 15)) none)), ([], some (true, AOper.mk (some 18) (AOp.call 62 [Operand.tmp 13,
  Operand.tmp 16, Operand.tmp 17]) none)), ([], some (true, AOper.mk (some 19) (AOp.call 61 [Operand.tmp 18]) none)), ([AOper.mk (some 20) (AOp.ext
  (Operand.tmp 19) 0) none, AOper.mk (some 21) (AOp.ext (Operand.tmp 19) 1) none, AOper.mk (some 4) (AOp.mov (Operand.tmp 20)) none, AOper.mk (some 5)
  (AOp.mov (Operand.tmp 21)) none], none)]) AC.ret))) [ARes.tmp 4, ARes.tmp 5]
theorem cfn29 : cfn Try.prog 29 2 = some c29 := by kernel_rfl
def c30 : AFn :=
  AFn.mk 25 (AC.seq (AC.ops [AOper.mk (some 3) (AOp.box 24 (Operand.tmp 0)) none, AOper.mk (some 4) (AOp.box 24 (Operand.tmp 1)) none, AOper.mk (some 5)
  (AOp.box 38 (Operand.tmp 2)) none, AOper.mk (some 6) (AOp.mov (Operand.const (Value.bool false))) none]) (AC.seq (AC.ops [AOper.mk (some 7) (AOp.load
  true 2 (Operand.tmp 3)) none, AOper.mk (some 8) (AOp.call 63 [Operand.tmp 7]) none, AOper.mk (some 9) (AOp.mov (Operand.tmp 8)) none, AOper.mk (some
  10) (AOp.load true 2 (Operand.tmp 4)) (some (9, true)), AOper.mk (some 11) (AOp.call 63 [Operand.tmp 10]) (some (9, true)), AOper.mk (some 12)
  (AOp.pick (Operand.tmp 9) (Operand.tmp 11) (Operand.const (Value.bool false))) none, AOper.mk (some 13) (AOp.mov (Operand.tmp 12)) none, AOper.mk (some
  14) (AOp.fadr 0 (Operand.tmp 5)) (some (13, true)), AOper.mk (some 15) (AOp.load false 1 (Operand.tmp 14)) (some (13, true)), AOper.mk (some 16)
  (AOp.len (Operand.tmp 15)) (some (13, true)), AOper.mk (some 17) (AOp.bin false BinOp.leq (Operand.tmp 16) (Operand.const (Value.int IntKind.i64 40)))
  (some (13, true)), AOper.mk (some 18) (AOp.pick (Operand.tmp 13) (Operand.tmp 17) (Operand.const (Value.bool false))) none, AOper.mk (some 19) (AOp.mov
  (Operand.tmp 18)) none, AOper.mk (some 20) (AOp.fadr 1 (Operand.tmp 5)) (some (19, true)), AOper.mk (some 21) (AOp.load false 1 (Operand.tmp 20)) (some
  (19, true)), AOper.mk (some 22) (AOp.len (Operand.tmp 21)) (some (19, true)), AOper.mk (some 23) (AOp.bin false BinOp.leq (Operand.tmp 22)
  (Operand.const (Value.int IntKind.i64 40))) (some (19, true)), AOper.mk (some 24) (AOp.pick (Operand.tmp 19) (Operand.tmp 23) (Operand.const
  (Value.bool false))) none, AOper.mk (some 6) (AOp.mov (Operand.tmp 24)) none]) AC.ret)) [ARes.tmp 6]
theorem cfn30 : cfn Try.prog 30 3 = some c30 := by kernel_rfl
def c31 : AFn :=
  AFn.mk 11 (AC.seq (AC.ops [AOper.mk (some 0) (AOp.zro 26 (PV.agg [PV.v (Value.int IntKind.i64 0), PV.v (Value.slice none 0 0), PV.v (Value.int
  IntKind.i64 0), PV.v (Value.slice none 0 0)])) none]) (AC.seq (AC.ops [AOper.mk (some 1) (AOp.bld [PV.v (Value.int IntKind.i64 0), PV.v (Value.int
  IntKind.i64 0), PV.v (Value.int IntKind.i64 0)] [(0, 1), (1, 1), (2, 1)] [(0, Operand.const (Value.int IntKind.i64 0)), (1, Operand.const (Value.int
  IntKind.i64 1)), (2, Operand.const (Value.int IntKind.i64 1))]) none, AOper.mk (some 2) (AOp.bld [PV.v (Value.int IntKind.i64 0), PV.v (Value.int
  IntKind.i64 0), PV.v (Value.int IntKind.i64 0)] [(0, 1), (1, 1), (2, 1)] [(0, Operand.const (Value.int IntKind.i64 0)), (1, Operand.const (Value.int
  IntKind.i64 3)), (2, Operand.const (Value.int IntKind.i64 1))]) none, AOper.mk (some 3) (AOp.bld [PV.v (Value.int IntKind.i64 0), PV.v (Value.int
  IntKind.i64 0), PV.v (Value.int IntKind.i64 0)] [(0, 1), (1, 1), (2, 1)] [(0, Operand.const (Value.int IntKind.i64 1)), (1, Operand.const (Value.int
  IntKind.i64 2)), (2, Operand.const (Value.int IntKind.i64 1))]) none, AOper.mk (some 4) (AOp.bld [PV.v (Value.int IntKind.i64 0), PV.v (Value.int
  IntKind.i64 0), PV.v (Value.int IntKind.i64 0)] [(0, 1), (1, 1), (2, 1)] [(0, Operand.const (Value.int IntKind.i64 2)), (1, Operand.const (Value.int
  IntKind.i64 3)), (2, Operand.const (Value.int IntKind.i64 1))]) none, AOper.mk (some 5) (AOp.bsl 70 3 [Operand.tmp 1, Operand.tmp 2, Operand.tmp 3,
  Operand.tmp 4]) none, AOper.mk (some 6) (AOp.bld [PV.v (Value.int IntKind.i64 0), PV.v (Value.slice none 0 0)] [(0, 1), (1, 1)] [(0, Operand.const
  (Value.int IntKind.i64 4)), (1, Operand.tmp 5)]) none, AOper.mk (some 7) (AOp.bld [PV.v (Value.int IntKind.i64 0), PV.v (Value.int IntKind.i64 0), PV.v
  (Value.int IntKind.i64 0)] [(0, 1), (1, 1), (2, 1)] [(0, Operand.const (Value.int IntKind.i64 0)), (1, Operand.const (Value.int IntKind.i64 1)), (2,
  Operand.const (Value.int IntKind.i64 2))]) none, AOper.mk (some 8) (AOp.bsl 70 3 [Operand.tmp 7]) none, AOper.mk (some 9) (AOp.bld [PV.v (Value.int
  IntKind.i64 0), PV.v (Value.slice none 0 0)] [(0, 1), (1, 1)] [(0, Operand.const (Value.int IntKind.i64 2)), (1, Operand.tmp 8)]) none, AOper.mk (some
  10) (AOp.bld [PV.v (Value.int IntKind.i64 0), PV.v (Value.slice none 0 0), PV.v (Value.int IntKind.i64 0), PV.v (Value.slice none 0 0)] [(0, 2), (2,
  2)] [(0, Operand.tmp 6), (1, Operand.tmp 9)]) none, AOper.mk none (AOp.store 4 (Operand.tmp 0) (Operand.tmp 10)) none]) AC.ret)) [ARes.cell 0 true 4]
theorem cfn31 : cfn Try.prog 31 0 = some c31 := by kernel_rfl
def c32 : AFn :=
  AFn.mk 48 (AC.seq (AC.ops [AOper.mk (some 3) (AOp.box 24 (Operand.tmp 0)) none, AOper.mk (some 4) (AOp.box 24 (Operand.tmp 1)) none, AOper.mk (some 5)
  (AOp.box 29 (Operand.tmp 2)) none, AOper.mk (some 6) (AOp.mov (Operand.const (Value.slice none 0 0))) none, AOper.mk (some 7) (AOp.mov (Operand.const
  (Value.int IntKind.i64 0))) none]) (AC.seq (AC.ops [AOper.mk (some 15) (AOp.load true 2 (Operand.tmp 3)) none, AOper.mk (some 16) (AOp.load true 2
  (Operand.tmp 4)) none, AOper.mk (some 17) (AOp.load true 2 (Operand.tmp 5)) none, AOper.mk (some 18) (AOp.call 64 [Operand.tmp 15, Operand.tmp 16,
  Operand.tmp 17]) none, AOper.mk (some 14) (AOp.mov (Operand.tmp 18)) none, AOper.mk (some 19) (AOp.ext (Operand.tmp 14) 0) none, AOper.mk (some 20)
  (AOp.ext (Operand.tmp 14) 1) none, AOper.mk (some 8) (AOp.mov (Operand.tmp 19)) none, AOper.mk (some 9) (AOp.mov (Operand.tmp 20)) none]) (AC.seq
  (AC.seq (AC.ops [AOper.mk (some 21) (AOp.mov (Operand.tmp 9)) none, AOper.mk (some 22) (AOp.bin false BinOp.neq (Operand.tmp 21) (Operand.const
  (Value.int IntKind.i64 0))) none]) (AC.cond (Operand.tmp 22) (AC.seq (AC.ops [AOper.mk (some 23) (AOp.mov (Operand.tmp 9)) none, AOper.mk (some 6)
  (AOp.mov (Operand.const (Value.slice none 0 0))) none, AOper.mk (some 7) (AOp.mov (Operand.tmp 23)) none]) AC.ret) AC.skip)) (AC.seq (AC.seq (AC.ops
  [AOper.mk (some 24) (AOp.mov (Operand.tmp 8)) none, AOper.mk (some 25) (AOp.un UnOp.not (Operand.tmp 24)) none]) (AC.cond (Operand.tmp 25) (AC.seq
  (AC.ops [AOper.mk (some 6) (AOp.mov (Operand.const (Value.slice none 0 0))) none, AOper.mk (some 7) (AOp.mov (Operand.const (Value.int IntKind.i64
  15))) none]) AC.ret) AC.skip)) (AC.seq (AC.ops [AOper.mk (some 10) (AOp.mov (Operand.const (Value.slice none 0 0))) none]) (AC.seq (AC.seq (AC.ops
  [AOper.mk (some 26) (AOp.fadr 0 (Operand.tmp 3)) none, AOper.mk (some 27) (AOp.load false 1 (Operand.tmp 26)) none, AOper.mk (some 28) (AOp.mov
  (Operand.const (Value.int IntKind.i64 0))) none]) (AC.block 0 (AC.loop (AC.seq (AC.ops [AOper.mk (some 29) (AOp.bin false BinOp.lss (Operand.tmp 28)
  (Operand.tmp 27)) none]) (AC.seq (AC.cond (Operand.tmp 29) AC.skip (AC.exit 0)) (AC.seq (AC.block 1 (AC.seq (AC.ops [AOper.mk (some 30) (AOp.mov
  (Operand.tmp 28)) none, AOper.mk (some 11) (AOp.mov (Operand.tmp 30)) none]) (AC.seq (AC.ops [AOper.mk (some 32) (AOp.load true 2 (Operand.tmp 3))
  none, AOper.mk (some 33) (AOp.load true 2 (Operand.tmp 4)) none, AOper.mk (some 34) (AOp.load true 2 (Operand.tmp 5)) none, AOper.mk (some 35) (AOp.mov
  (Operand.tmp 11)) none, AOper.mk (some 36) (AOp.call 65 [Operand.tmp 32, Operand.tmp 33, Operand.tmp 34, Operand.tmp 35]) none, AOper.mk (some 31)
  (AOp.mov (Operand.tmp 36)) none, AOper.mk (some 37) (AOp.ext (Operand.tmp 31) 0) none, AOper.mk (some 38) (AOp.ext (Operand.tmp 31) 1) none, AOper.mk
  (some 12) (AOp.mov (Operand.tmp 37)) none, AOper.mk (some 13) (AOp.mov (Operand.tmp 38)) none]) (AC.seq (AC.seq (AC.ops [AOper.mk (some 39) (AOp.mov
  (Operand.tmp 13)) none, AOper.mk (some 40) (AOp.bin false BinOp.neq (Operand.tmp 39) (Operand.const (Value.int IntKind.i64 0))) none]) (AC.cond
  (Operand.tmp 40) (AC.seq (AC.ops [AOper.mk (some 41) (AOp.mov (Operand.tmp 13)) none, AOper.mk (some 6) (AOp.mov (Operand.const (Value.slice none 0
  0))) none, AOper.mk (some 7) (AOp.mov (Operand.tmp 41)) none]) AC.ret) AC.skip)) (AC.ops [AOper.mk (some 42) (AOp.mov (Operand.tmp 10)) none, AOper.mk
  (some 43) (AOp.mov (Operand.tmp 12)) none, AOper.mk (some 44) (AOp.bsl 3 1 [Operand.tmp 43]) none, AOper.mk (some 45) (AOp.app 3 1 (Operand.tmp 42)
  (Operand.tmp 44)) none, AOper.mk (some 10) (AOp.mov (Operand.tmp 45)) none]))))) (AC.ops [AOper.mk (some 46) (AOp.bin false BinOp.add (Operand.tmp 28)
  (Operand.const (Value.int IntKind.i64 1))) none, AOper.mk (some 28) (AOp.mov (Operand.tmp 46)) none]))))))) (AC.seq (AC.ops [AOper.mk (some 47)
  (AOp.mov (Operand.tmp 10)) none, AOper.mk (some 6) (AOp.mov (Operand.tmp 47)) none, AOper.mk (some 7) (AOp.mov (Operand.const (Value.int IntKind.i64
  0))) none]) AC.ret))))))) [ARes.tmp 6, ARes.tmp 7]
theorem cfn32 : cfn Try.prog 32 3 = some c32 := by kernel_rfl
def c33 : AFn :=
  AFn.mk 27 (AC.seq (AC.ops [AOper.mk (some 4) (AOp.mov (Operand.const (Value.int IntKind.i64 0))) none]) (AC.seq (AC.seq (AC.ops [AOper.mk (some 8)
  (AOp.mov (Operand.tmp 1)) none, AOper.mk (some 9) (AOp.call 66 [Operand.tmp 8]) none, AOper.mk (some 5) (AOp.mov (Operand.tmp 9)) none]) (AC.seq
  (AC.ops [AOper.mk (some 10) (AOp.mov (Operand.tmp 5)) none, AOper.mk (some 11) (AOp.bin false BinOp.neq (Operand.tmp 10) (Operand.const (Value.int
  IntKind.i64 0))) none]) (AC.cond (Operand.tmp 11) (AC.seq (AC.ops [AOper.mk (some 12) (AOp.mov (Operand.tmp 5)) none, AOper.mk (some 4) (AOp.mov
  (Operand.tmp 12)) none]) AC.ret) AC.skip))) (AC.seq (AC.seq (AC.ops [AOper.mk (some 13) (AOp.mov (Operand.tmp 0)) none, AOper.mk (some 14) (AOp.len
  (Operand.tmp 13)) none, AOper.mk (some 15) (AOp.mov (Operand.tmp 1)) none, AOper.mk (some 16) (AOp.bin false BinOp.neq (Operand.tmp 14) (Operand.tmp
  15)) none]) (AC.cond (Operand.tmp 16) (AC.seq (AC.ops [AOper.mk (some 4) (AOp.mov (Operand.const (Value.int IntKind.i64 8))) none]) AC.ret) AC.skip))
  (AC.seq (AC.seq (AC.ops [AOper.mk (some 17) (AOp.mov (Operand.tmp 0)) none, AOper.mk (some 18) (AOp.len (Operand.tmp 17)) none, AOper.mk (some 19)
  (AOp.mov (Operand.const (Value.int IntKind.i64 0))) none]) (AC.block 0 (AC.loop (AC.seq (AC.ops [AOper.mk (some 20) (AOp.bin false BinOp.lss
  (Operand.tmp 19) (Operand.tmp 18)) none]) (AC.seq (AC.cond (Operand.tmp 20) AC.skip (AC.exit 0)) (AC.seq (AC.block 1 (AC.seq (AC.ops [AOper.mk (some
  21) (AOp.iadr 1 (Operand.tmp 17) (Operand.tmp 19)) none, AOper.mk (some 22) (AOp.load false 1 (Operand.tmp 21)) none, AOper.mk (some 7) (AOp.mov
  (Operand.tmp 22)) none]) (AC.seq (AC.ops [AOper.mk (some 23) (AOp.mov (Operand.tmp 7)) none, AOper.mk (some 24) (AOp.call 67 [Operand.tmp 23]) none,
  AOper.mk (some 25) (AOp.un UnOp.not (Operand.tmp 24)) none]) (AC.cond (Operand.tmp 25) (AC.seq (AC.ops [AOper.mk (some 4) (AOp.mov (Operand.const
  (Value.int IntKind.i64 2))) none]) AC.ret) AC.skip)))) (AC.ops [AOper.mk (some 26) (AOp.bin false BinOp.add (Operand.tmp 19) (Operand.const (Value.int
  IntKind.i64 1))) none, AOper.mk (some 19) (AOp.mov (Operand.tmp 26)) none]))))))) (AC.seq (AC.ops [AOper.mk (some 4) (AOp.mov (Operand.const (Value.int
  IntKind.i64 0))) none]) AC.ret))))) [ARes.tmp 4]
theorem cfn33 : cfn Try.prog 33 2 = some c33 := by kernel_rfl
def c34 : AFn :=
  AFn.mk 43 (AC.seq (AC.ops [AOper.mk (some 4) (AOp.box 24 (Operand.tmp 0)) none, AOper.mk (some 5) (AOp.box 29 (Operand.tmp 1)) none, AOper.mk (some 8)
  (AOp.mov (Operand.const (Value.slice none 0 0))) none, AOper.mk (some 9) (AOp.mov (Operand.const (Value.int IntKind.i64 0))) none]) (AC.seq (AC.ops
  [AOper.mk (some 13) (AOp.fadr 0 (Operand.tmp 4)) none, AOper.mk (some 14) (AOp.load false 1 (Operand.tmp 13)) none, AOper.mk (some 15) (AOp.mk 3 1
  (PV.v (Value.int IntKind.i64 0)) (Operand.tmp 14) (Operand.tmp 14)) none, AOper.mk (some 10) (AOp.mov (Operand.tmp 15)) none]) (AC.seq (AC.seq (AC.ops
  [AOper.mk (some 16) (AOp.mov (Operand.tmp 2)) none, AOper.mk (some 17) (AOp.len (Operand.tmp 16)) none, AOper.mk (some 18) (AOp.mov (Operand.const
  (Value.int IntKind.i64 0))) none]) (AC.block 0 (AC.loop (AC.seq (AC.ops [AOper.mk (some 19) (AOp.bin false BinOp.lss (Operand.tmp 18) (Operand.tmp 17))
  none]) (AC.seq (AC.cond (Operand.tmp 19) AC.skip (AC.exit 0)) (AC.seq (AC.block 1 (AC.seq (AC.ops [AOper.mk (some 20) (AOp.mov (Operand.tmp 18)) none,
  AOper.mk (some 21) (AOp.iadr 1 (Operand.tmp 16) (Operand.tmp 18)) none, AOper.mk (some 22) (AOp.load false 1 (Operand.tmp 21)) none, AOper.mk (some 11)
  (AOp.mov (Operand.tmp 20)) none, AOper.mk (some 12) (AOp.mov (Operand.tmp 22)) none]) (AC.tree (AT.look [AOper.mk (some 23) (AOp.mov (Operand.tmp 10))
  none, AOper.mk (some 26) (AOp.mov (Operand.tmp 11)) none, AOper.mk (some 31) (AOp.mov (Operand.tmp 12)) none, AOper.mk (some 32) (AOp.mov (Operand.tmp
  3)) none, AOper.mk (some 33) (AOp.mov (Operand.tmp 11)) none] (AT.fork true (AOper.mk (some 24) (AOp.fadr 0 (Operand.tmp 5)) none) (AT.fork true
  (AOper.mk (some 25) (AOp.load false 1 (Operand.tmp 24)) none) (AT.fork true (AOper.mk (some 27) (AOp.iadr 1 (Operand.tmp 25) (Operand.tmp 26)) none)
  (AT.fork true (AOper.mk (some 28) (AOp.load false 1 (Operand.tmp 27)) none) (AT.fork true (AOper.mk (some 29) (AOp.iadr 1 (Operand.tmp 23) (Operand.tmp
  28)) none) (AT.fork true (AOper.mk (some 30) (AOp.load false 1 (Operand.tmp 29)) none) (AT.act false (AOper.mk (some 34) (AOp.callv (Operand.tmp 32)
  [Operand.tmp 33]) none) (AT.look [AOper.mk (some 35) (AOp.bin false BinOp.mul (Operand.tmp 31) (Operand.tmp 34)) none, AOper.mk (some 36) (AOp.bin
  false BinOp.add (Operand.tmp 30) (Operand.tmp 35)) none, AOper.mk (some 37) (AOp.iadr 1 (Operand.tmp 23) (Operand.tmp 28)) none] (AT.act false
  (AOper.mk none (AOp.store 1 (Operand.tmp 37) (Operand.tmp 36)) none) AT.done))) (AT.act false (AOper.mk (some 34) (AOp.callv (Operand.tmp 32)
  [Operand.tmp 33]) none) (AT.look [AOper.mk (some 30) (AOp.load false 1 (Operand.tmp 29)) none, AOper.mk (some 35) (AOp.bin false BinOp.mul (Operand.tmp
  31) (Operand.tmp 34)) none, AOper.mk (some 36) (AOp.bin false BinOp.add (Operand.tmp 30) (Operand.tmp 35)) none, AOper.mk (some 37) (AOp.iadr 1
  (Operand.tmp 23) (Operand.tmp 28)) none] (AT.act false (AOper.mk none (AOp.store 1 (Operand.tmp 37) (Operand.tmp 36)) none) AT.done)))) (AT.act false
  (AOper.mk (some 34) (AOp.callv (Operand.tmp 32) [Operand.tmp 33]) none) (AT.look [AOper.mk (some 29) (AOp.iadr 1 (Operand.tmp 23) (Operand.tmp 28))
  none, AOper.mk (some 30) (AOp.load false 1 (Operand.tmp 29)) none, AOper.mk (some 35) (AOp.bin false BinOp.mul (Operand.tmp 31) (Operand.tmp 34)) none,
  AOper.mk (some 36) (AOp.bin false BinOp.add (Operand.tmp 30) (Operand.tmp 35)) none, AOper.mk (some 37) (AOp.iadr 1 (Operand.tmp 23) (Operand.tmp 28))
  none] (AT.act false (AOper.mk none (AOp.store 1 (Operand.tmp 37) (Operand.tmp 36)) none) AT.done)))) (AT.act false (AOper.mk (some 34) (AOp.callv
  (Operand.tmp 32) [Operand.tmp 33]) none) (AT.look [AOper.mk (some 28) (AOp.load false 1 (Operand.tmp 27)) none, AOper.mk (some 29) (AOp.iadr 1
  (Operand.tmp 23) (Operand.tmp 28)) none, AOper.mk (some 30) (AOp.load false 1 (Operand.tmp 29)) none, AOper.mk (some 35) (AOp.bin false BinOp.mul
  (Operand.tmp 31) (Operand.tmp 34)) none, AOper.mk (some 36) (AOp.bin false BinOp.add (Operand.tmp 30) (Operand.tmp 35)) none, AOper.mk (some 37)
  (AOp.iadr 1 (Operand.tmp 23) (Operand.tmp 28)) none] (AT.act false (AOper.mk none (AOp.store 1 (Operand.tmp 37) (Operand.tmp 36)) none) AT.done))))
  (AT.act false (AOper.mk (some 34) (AOp.callv (Operand.tmp 32) [Operand.tmp 33]) none) (AT.look [AOper.mk (some 27) (AOp.iadr 1 (Operand.tmp 25)
  (Operand.tmp 26)) none, AOper.mk (some 28) (AOp.load false 1 (Operand.tmp 27)) none, AOper.mk (some 29) (AOp.iadr 1 (Operand.tmp 23) (Operand.tmp 28))
  none, AOper.mk (some 30) (AOp.load false 1 (Operand.tmp 29)) none, AOper.mk (some 35) (AOp.bin false BinOp.mul (Operand.tmp 31) (Operand.tmp 34)) none,
  AOper.mk (some 36) (AOp.bin false BinOp.add (Operand.tmp 30) (Operand.tmp 35)) none, AOper.mk (some 37) (AOp.iadr 1 (Operand.tmp 23) (Operand.tmp 28))
  none] (AT.act false (AOper.mk none (AOp.store 1 (Operand.tmp 37) (Operand.tmp 36)) none) AT.done)))) (AT.act false (AOper.mk (some 34) (AOp.callv
  (Operand.tmp 32) [Operand.tmp 33]) none) (AT.look [AOper.mk (some 25) (AOp.load false 1 (Operand.tmp 24)) none, AOper.mk (some 27) (AOp.iadr 1
  (Operand.tmp 25) (Operand.tmp 26)) none, AOper.mk (some 28) (AOp.load false 1 (Operand.tmp 27)) none, AOper.mk (some 29) (AOp.iadr 1 (Operand.tmp 23)
  (Operand.tmp 28)) none, AOper.mk (some 30) (AOp.load false 1 (Operand.tmp 29)) none, AOper.mk (some 35) (AOp.bin false BinOp.mul (Operand.tmp 31)
  (Operand.tmp 34)) none, AOper.mk (some 36) (AOp.bin false BinOp.add (Operand.tmp 30) (Operand.tmp 35)) none, AOper.mk (some 37) (AOp.iadr 1
  (Operand.tmp 23) (Operand.tmp 28)) none] (AT.act false (AOper.mk none (AOp.store 1 (Operand.tmp 37) (Operand.tmp 36)) none) AT.done)))) (AT.act false
  (AOper.mk (some 34) (AOp.callv (Operand.tmp 32) [Operand.tmp 33]) none) (AT.look [AOper.mk (some 24) (AOp.fadr 0 (Operand.tmp 5)) none, AOper.mk (some
  25) (AOp.load false 1 (Operand.tmp 24)) none, AOper.mk (some 27) (AOp.iadr 1 (Operand.tmp 25) (Operand.tmp 26)) none, AOper.mk (some 28) (AOp.load
  false 1 (Operand.tmp 27)) none, AOper.mk (some 29) (AOp.iadr 1 (Operand.tmp 23) (Operand.tmp 28)) none, AOper.mk (some 30) (AOp.load false 1
  (Operand.tmp 29)) none, AOper.mk (some 35) (AOp.bin false BinOp.mul (Operand.tmp 31) (Operand.tmp 34)) none, AOper.mk (some 36) (AOp.bin false
  BinOp.add (Operand.tmp 30) (Operand.tmp 35)) none, AOper.mk (some 37) (AOp.iadr 1 (Operand.tmp 23) (Operand.tmp 28)) none] (AT.act false (AOper.mk none
  (AOp.store 1 (Operand.tmp 37) (Operand.tmp 36)) none) AT.done)))))))) (AC.ops [AOper.mk (some 38) (AOp.bin false BinOp.add (Operand.tmp 18)
  (Operand.const (Value.int IntKind.i64 1))) none, AOper.mk (some 18) (AOp.mov (Operand.tmp 38)) none]))))))) (AC.seq (AC.ops [AOper.mk (some 39)
  (AOp.mov (Operand.tmp 10)) none, AOper.mk (some 40) (AOp.call 68 [Operand.tmp 39]) none, AOper.mk (some 41) (AOp.ext (Operand.tmp 40) 0) none, AOper.mk
  (some 42) (AOp.ext (Operand.tmp 40) 1) none, AOper.mk (some 8) (AOp.mov (Operand.tmp 41)) none, AOper.mk (some 9) (AOp.mov (Operand.tmp 42)) none])
  AC.ret)))) [ARes.tmp 8, ARes.tmp 9]
theorem cfn34 : cfn Try.prog 34 4 = some c34 := by kernel_rfl
def c35 : AFn :=
  AFn.mk 3 (AC.seq (AC.ops [AOper.mk (some 2) (AOp.mov (Operand.const (Value.int IntKind.i64 0))) none]) (AC.seq (AC.ops [AOper.mk (some 2) (AOp.mov
  (Operand.const (Value.int IntKind.i64 1))) none]) AC.ret)) [ARes.tmp 2]
theorem cfn35 : cfn Try.prog 35 1 = some c35 := by kernel_rfl
def c36 : AFn :=
  AFn.mk 27 (AC.seq (AC.ops [AOper.mk (some 4) (AOp.mov (Operand.const (Value.int IntKind.i64 0))) none]) (AC.seq (AC.seq (AC.ops [AOper.mk (some 6)
  (AOp.mov (Operand.tmp 1)) none, AOper.mk (some 7) (AOp.bin false BinOp.lss (Operand.tmp 6) (Operand.const (Value.int IntKind.i64 1))) none, AOper.mk
  (some 8) (AOp.mov (Operand.tmp 7)) none, AOper.mk (some 9) (AOp.mov (Operand.tmp 1)) (some (8, false)), AOper.mk (some 10) (AOp.bin false BinOp.gtr
  (Operand.tmp 9) (Operand.const (Value.int IntKind.i64 12))) (some (8, false)), AOper.mk (some 11) (AOp.pick (Operand.tmp 8) (Operand.const (Value.bool
  true)) (Operand.tmp 10)) none]) (AC.cond (Operand.tmp 11) (AC.seq (AC.ops [AOper.mk (some 4) (AOp.mov (Operand.const (Value.int IntKind.i64 2))) none])
  AC.ret) AC.skip)) (AC.seq (AC.seq (AC.ops [AOper.mk (some 12) (AOp.mov (Operand.tmp 0)) none, AOper.mk (some 13) (AOp.len (Operand.tmp 12)) none,
  AOper.mk (some 14) (AOp.mov (Operand.tmp 1)) none, AOper.mk (some 15) (AOp.bin false BinOp.neq (Operand.tmp 13) (Operand.tmp 14)) none]) (AC.cond
  (Operand.tmp 15) (AC.seq (AC.ops [AOper.mk (some 4) (AOp.mov (Operand.const (Value.int IntKind.i64 8))) none]) AC.ret) AC.skip)) (AC.seq (AC.seq
  (AC.ops [AOper.mk (some 5) (AOp.mov (Operand.const (Value.int IntKind.i64 0))) none]) (AC.block 0 (AC.loop (AC.seq (AC.seq (AC.ops [AOper.mk (some 16)
  (AOp.mov (Operand.tmp 5)) none, AOper.mk (some 17) (AOp.mov (Operand.tmp 1)) none, AOper.mk (some 18) (AOp.bin false BinOp.lss (Operand.tmp 16)
  (Operand.tmp 17)) none]) (AC.cond (Operand.tmp 18) AC.skip (AC.exit 0))) (AC.seq (AC.block 1 (AC.seq (AC.ops [AOper.mk (some 21) (AOp.mov (Operand.tmp
  0)) none, AOper.mk (some 22) (AOp.mov (Operand.tmp 5)) none, AOper.mk (some 23) (AOp.iadr 1 (Operand.tmp 21) (Operand.tmp 22)) none, AOper.mk (some 24)
  (AOp.load false 1 (Operand.tmp 23)) none, AOper.mk (some 25) (AOp.call 69 [Operand.tmp 24]) none, AOper.mk (some 26) (AOp.un UnOp.not (Operand.tmp 25))
  none]) (AC.cond (Operand.tmp 26) (AC.seq (AC.ops [AOper.mk (some 4) (AOp.mov (Operand.const (Value.int IntKind.i64 2))) none]) AC.ret) AC.skip)))
  (AC.ops [AOper.mk (some 19) (AOp.mov (Operand.tmp 5)) none, AOper.mk (some 20) (AOp.bin false BinOp.add (Operand.tmp 19) (Operand.const (Value.int
  IntKind.i64 1))) none, AOper.mk (some 5) (AOp.mov (Operand.tmp 20)) none])))))) (AC.seq (AC.ops [AOper.mk (some 4) (AOp.mov (Operand.const (Value.int
  IntKind.i64 0))) none]) AC.ret))))) [ARes.tmp 4]
theorem cfn36 : cfn Try.prog 36 2 = some c36 := by kernel_rfl
def c37 : AFn :=
  AFn.mk 18 (AC.seq (AC.ops [AOper.mk (some 2) (AOp.mov (Operand.const (Value.slice none 0 0))) none, AOper.mk (some 3) (AOp.mov (Operand.const
  (Value.int IntKind.i64 0))) none]) (AC.seq (AC.seq (AC.ops [AOper.mk (some 4) (AOp.mov (Operand.const (Value.int IntKind.i64 0))) none]) (AC.block 0
  (AC.loop (AC.seq (AC.seq (AC.ops [AOper.mk (some 5) (AOp.mov (Operand.tmp 4)) none, AOper.mk (some 6) (AOp.mov (Operand.tmp 0)) none, AOper.mk (some 7)
  (AOp.len (Operand.tmp 6)) none, AOper.mk (some 8) (AOp.bin false BinOp.lss (Operand.tmp 5) (Operand.tmp 7)) none]) (AC.cond (Operand.tmp 8) AC.skip
  (AC.exit 0))) (AC.seq (AC.block 1 (AC.seq (AC.ops [AOper.mk (some 11) (AOp.mov (Operand.tmp 0)) none, AOper.mk (some 12) (AOp.mov (Operand.tmp 4))
  none, AOper.mk (some 13) (AOp.iadr 1 (Operand.tmp 11) (Operand.tmp 12)) none, AOper.mk (some 14) (AOp.load false 1 (Operand.tmp 13)) none, AOper.mk
  (some 15) (AOp.call 69 [Operand.tmp 14]) none, AOper.mk (some 16) (AOp.un UnOp.not (Operand.tmp 15)) none]) (AC.cond (Operand.tmp 16) (AC.seq (AC.ops
  [AOper.mk (some 2) (AOp.mov (Operand.const (Value.slice none 0 0))) none, AOper.mk (some 3) (AOp.mov (Operand.const (Value.int IntKind.i64 11))) none])
  AC.ret) AC.skip))) (AC.ops [AOper.mk (some 9) (AOp.mov (Operand.tmp 4)) none, AOper.mk (some 10) (AOp.bin false BinOp.add (Operand.tmp 9)
  (Operand.const (Value.int IntKind.i64 1))) none, AOper.mk (some 4) (AOp.mov (Operand.tmp 10)) none])))))) (AC.seq (AC.ops [AOper.mk (some 17) (AOp.mov
  (Operand.tmp 0)) none, AOper.mk (some 2) (AOp.mov (Operand.tmp 17)) none, AOper.mk (some 3) (AOp.mov (Operand.const (Value.int IntKind.i64 0))) none])
  AC.ret))) [ARes.tmp 2, ARes.tmp 3]
theorem cfn37 : cfn Try.prog 37 1 = some c37 := by kernel_rfl
def c38 : AFn :=
  AFn.mk 50 (AC.seq (AC.ops [AOper.mk (some 5) (AOp.box 24 (Operand.tmp 0)) none, AOper.mk (some 6) (AOp.box 24 (Operand.tmp 1)) none, AOper.mk (some 7)
  (AOp.box 38 (Operand.tmp 2)) none, AOper.mk (some 10) (AOp.mov (Operand.const (Value.slice none 0 0))) none]) (AC.seq (AC.ops [AOper.mk (some 15)
  (AOp.fadr 0 (Operand.tmp 6)) none, AOper.mk (some 16) (AOp.load false 1 (Operand.tmp 15)) none, AOper.mk (some 17) (AOp.mk 3 1 (PV.v (Value.int
  IntKind.i64 0)) (Operand.tmp 16) (Operand.tmp 16)) none, AOper.mk (some 11) (AOp.mov (Operand.tmp 17)) none]) (AC.seq (AC.seq (AC.ops [AOper.mk (some
  12) (AOp.mov (Operand.const (Value.int IntKind.i64 0))) none]) (AC.block 0 (AC.loop (AC.seq (AC.seq (AC.ops [AOper.mk (some 18) (AOp.mov (Operand.tmp
  12)) none, AOper.mk (some 19) (AOp.fadr 0 (Operand.tmp 5)) none, AOper.mk (some 20) (AOp.load false 1 (Operand.tmp 19)) none, AOper.mk (some 21)
  (AOp.bin false BinOp.lss (Operand.tmp 18) (Operand.tmp 20)) none]) (AC.cond (Operand.tmp 21) AC.skip (AC.exit 0))) (AC.seq (AC.block 1 (AC.seq (AC.ops
  [AOper.mk (some 13) (AOp.mov (Operand.const (Value.int IntKind.i64 1))) none]) (AC.seq (AC.seq (AC.ops [AOper.mk (some 24) (AOp.mov (Operand.tmp 4))
  none]) (AC.cond (Operand.tmp 24) (AC.ops [AOper.mk (some 25) (AOp.load true 2 (Operand.tmp 5)) none, AOper.mk (some 26) (AOp.load true 2 (Operand.tmp
  6)) none, AOper.mk (some 27) (AOp.load true 2 (Operand.tmp 7)) none, AOper.mk (some 28) (AOp.mov (Operand.tmp 12)) none, AOper.mk (some 29) (AOp.call
  70 [Operand.tmp 25, Operand.tmp 26, Operand.tmp 27, Operand.tmp 28]) none, AOper.mk (some 13) (AOp.mov (Operand.tmp 29)) none]) AC.skip)) (AC.seq
  (AC.ops [AOper.mk (some 30) (AOp.fadr 0 (Operand.tmp 7)) none, AOper.mk (some 31) (AOp.load false 1 (Operand.tmp 30)) none, AOper.mk (some 32) (AOp.mov
  (Operand.tmp 12)) none, AOper.mk (some 33) (AOp.iadr 1 (Operand.tmp 31) (Operand.tmp 32)) none, AOper.mk (some 34) (AOp.load false 1 (Operand.tmp 33))
  none, AOper.mk (some 14) (AOp.mov (Operand.tmp 34)) none]) (AC.segs [([AOper.mk (some 35) (AOp.mov (Operand.tmp 11)) none, AOper.mk (some 36) (AOp.mov
  (Operand.tmp 14)) none, AOper.mk (some 37) (AOp.mov (Operand.tmp 11)) none, AOper.mk (some 38) (AOp.mov (Operand.tmp 14)) none, AOper.mk (some 39)
  (AOp.iadr 1 (Operand.tmp 37) (Operand.tmp 38)) none, AOper.mk (some 40) (AOp.load false 1 (Operand.tmp 39)) none, AOper.mk (some 41) (AOp.mov
  (Operand.tmp 13)) none, AOper.mk (some 42) (AOp.mov (Operand.tmp 3)) none, AOper.mk (some 43) (AOp.mov (Operand.tmp 12)) none, AOper.mk (some 44)
  (AOp.iadr 1 (Operand.tmp 42) (Operand.tmp 43)) none, AOper.mk (some 45) (AOp.load false 1 (Operand.tmp 44)) none, AOper.mk (some 46) (AOp.bin false
  BinOp.mul (Operand.tmp 41) (Operand.tmp 45)) none, AOper.mk (some 47) (AOp.bin false BinOp.add (Operand.tmp 40) (Operand.tmp 46)) none, AOper.mk (some
  48) (AOp.iadr 1 (Operand.tmp 35) (Operand.tmp 36)) none], some (false, AOper.mk none (AOp.store 1 (Operand.tmp 48) (Operand.tmp 47)) none))])))))
  (AC.ops [AOper.mk (some 22) (AOp.mov (Operand.tmp 12)) none, AOper.mk (some 23) (AOp.bin false BinOp.add (Operand.tmp 22) (Operand.const (Value.int
  IntKind.i64 1))) none, AOper.mk (some 12) (AOp.mov (Operand.tmp 23)) none])))))) (AC.seq (AC.ops [AOper.mk (some 49) (AOp.mov (Operand.tmp 11)) none,
  AOper.mk (some 10) (AOp.mov (Operand.tmp 49)) none]) AC.ret)))) [ARes.tmp 10]
theorem cfn38 : cfn Try.prog 38 5 = some c38 := by kernel_rfl
def c39 : AFn :=
  AFn.mk 40 (AC.seq (AC.ops [AOper.mk (some 5) (AOp.box 24 (Operand.tmp 0)) none, AOper.mk (some 6) (AOp.box 24 (Operand.tmp 1)) none, AOper.mk (some 7)
  (AOp.box 38 (Operand.tmp 2)) none, AOper.mk (some 10) (AOp.mov (Operand.const (Value.slice none 0 0))) none]) (AC.seq (AC.ops [AOper.mk (some 11)
  (AOp.mov (Operand.const (Value.slice none 0 0))) none]) (AC.seq (AC.seq (AC.ops [AOper.mk (some 12) (AOp.mov (Operand.const (Value.int IntKind.i64 0)))
  none]) (AC.block 0 (AC.loop (AC.seq (AC.seq (AC.ops [AOper.mk (some 14) (AOp.mov (Operand.tmp 12)) none, AOper.mk (some 15) (AOp.fadr 0 (Operand.tmp
  5)) none, AOper.mk (some 16) (AOp.load false 1 (Operand.tmp 15)) none, AOper.mk (some 17) (AOp.bin false BinOp.lss (Operand.tmp 14) (Operand.tmp 16))
  none]) (AC.cond (Operand.tmp 17) AC.skip (AC.exit 0))) (AC.seq (AC.block 1 (AC.seq (AC.ops [AOper.mk (some 13) (AOp.mov (Operand.const (Value.int
  IntKind.i64 1))) none]) (AC.seq (AC.seq (AC.ops [AOper.mk (some 20) (AOp.mov (Operand.tmp 4)) none]) (AC.cond (Operand.tmp 20) (AC.ops [AOper.mk (some
  21) (AOp.load true 2 (Operand.tmp 5)) none, AOper.mk (some 22) (AOp.load true 2 (Operand.tmp 6)) none, AOper.mk (some 23) (AOp.load true 2 (Operand.tmp
  7)) none, AOper.mk (some 24) (AOp.mov (Operand.tmp 12)) none, AOper.mk (some 25) (AOp.call 70 [Operand.tmp 21, Operand.tmp 22, Operand.tmp 23,
  Operand.tmp 24]) none, AOper.mk (some 13) (AOp.mov (Operand.tmp 25)) none]) AC.skip)) (AC.ops [AOper.mk (some 26) (AOp.mov (Operand.tmp 11)) none,
  AOper.mk (some 27) (AOp.mov (Operand.tmp 13)) none, AOper.mk (some 28) (AOp.mov (Operand.tmp 3)) none, AOper.mk (some 29) (AOp.fadr 0 (Operand.tmp 7))
  none, AOper.mk (some 30) (AOp.load false 1 (Operand.tmp 29)) none, AOper.mk (some 31) (AOp.mov (Operand.tmp 12)) none, AOper.mk (some 32) (AOp.iadr 1
  (Operand.tmp 30) (Operand.tmp 31)) none, AOper.mk (some 33) (AOp.load false 1 (Operand.tmp 32)) none, AOper.mk (some 34) (AOp.iadr 1 (Operand.tmp 28)
  (Operand.tmp 33)) none, AOper.mk (some 35) (AOp.load false 1 (Operand.tmp 34)) none, AOper.mk (some 36) (AOp.bin false BinOp.mul (Operand.tmp 27)
  (Operand.tmp 35)) none, AOper.mk (some 37) (AOp.bsl 3 1 [Operand.tmp 36]) none, AOper.mk (some 38) (AOp.app 3 1 (Operand.tmp 26) (Operand.tmp 37))
  none, AOper.mk (some 11) (AOp.mov (Operand.tmp 38)) none])))) (AC.ops [AOper.mk (some 18) (AOp.mov (Operand.tmp 12)) none, AOper.mk (some 19) (AOp.bin
  false BinOp.add (Operand.tmp 18) (Operand.const (Value.int IntKind.i64 1))) none, AOper.mk (some 12) (AOp.mov (Operand.tmp 19)) none])))))) (AC.seq
  (AC.ops [AOper.mk (some 39) (AOp.mov (Operand.tmp 11)) none, AOper.mk (some 10) (AOp.mov (Operand.tmp 39)) none]) AC.ret)))) [ARes.tmp 10]
theorem cfn39 : cfn Try.prog 39 5 = some c39 := by kernel_rfl
def c40 : AFn :=
  AFn.mk 39 (AC.seq (AC.ops [AOper.mk (some 3) (AOp.box 29 (Operand.tmp 0)) none, AOper.mk (some 6) (AOp.mov (Operand.const (Value.slice none 0 0)))
  none, AOper.mk (some 7) (AOp.mov (Operand.const (Value.int IntKind.i64 0))) none]) (AC.seq (AC.ops [AOper.mk (some 11) (AOp.fadr 0 (Operand.tmp 3))
  none, AOper.mk (some 12) (AOp.load false 1 (Operand.tmp 11)) none, AOper.mk (some 13) (AOp.len (Operand.tmp 12)) none, AOper.mk (some 14) (AOp.mk 3 1
  (PV.v (Value.int IntKind.i64 0)) (Operand.tmp 13) (Operand.tmp 13)) none, AOper.mk (some 8) (AOp.mov (Operand.tmp 14)) none]) (AC.seq (AC.seq (AC.ops
  [AOper.mk (some 15) (AOp.fadr 0 (Operand.tmp 3)) none, AOper.mk (some 16) (AOp.load false 1 (Operand.tmp 15)) none, AOper.mk (some 17) (AOp.len
  (Operand.tmp 16)) none, AOper.mk (some 18) (AOp.mov (Operand.const (Value.int IntKind.i64 0))) none]) (AC.block 0 (AC.loop (AC.seq (AC.ops [AOper.mk
  (some 19) (AOp.bin false BinOp.lss (Operand.tmp 18) (Operand.tmp 17)) none]) (AC.seq (AC.cond (Operand.tmp 19) AC.skip (AC.exit 0)) (AC.seq (AC.block 1
  (AC.seq (AC.ops [AOper.mk (some 20) (AOp.mov (Operand.tmp 18)) none, AOper.mk (some 21) (AOp.iadr 1 (Operand.tmp 16) (Operand.tmp 18)) none, AOper.mk
  (some 22) (AOp.load false 1 (Operand.tmp 21)) none, AOper.mk (some 9) (AOp.mov (Operand.tmp 20)) none, AOper.mk (some 10) (AOp.mov (Operand.tmp 22))
  none]) (AC.tree (AT.look [AOper.mk (some 23) (AOp.mov (Operand.tmp 8)) none, AOper.mk (some 24) (AOp.mov (Operand.tmp 9)) none, AOper.mk (some 25)
  (AOp.mov (Operand.tmp 1)) none, AOper.mk (some 26) (AOp.mov (Operand.tmp 10)) none, AOper.mk (some 29) (AOp.mov (Operand.tmp 2)) none, AOper.mk (some
  30) (AOp.mov (Operand.tmp 9)) none] (AT.fork true (AOper.mk (some 27) (AOp.iadr 1 (Operand.tmp 25) (Operand.tmp 26)) none) (AT.fork true (AOper.mk
  (some 28) (AOp.load false 1 (Operand.tmp 27)) none) (AT.act false (AOper.mk (some 31) (AOp.callv (Operand.tmp 29) [Operand.tmp 30]) none) (AT.look
  [AOper.mk (some 32) (AOp.bin false BinOp.mul (Operand.tmp 28) (Operand.tmp 31)) none, AOper.mk (some 33) (AOp.iadr 1 (Operand.tmp 23) (Operand.tmp 24))
  none] (AT.act false (AOper.mk none (AOp.store 1 (Operand.tmp 33) (Operand.tmp 32)) none) AT.done))) (AT.act false (AOper.mk (some 31) (AOp.callv
  (Operand.tmp 29) [Operand.tmp 30]) none) (AT.look [AOper.mk (some 28) (AOp.load false 1 (Operand.tmp 27)) none, AOper.mk (some 32) (AOp.bin false
  BinOp.mul (Operand.tmp 28) (Operand.tmp 31)) none, AOper.mk (some 33) (AOp.iadr 1 (Operand.tmp 23) (Operand.tmp 24)) none] (AT.act false (AOper.mk none
  (AOp.store 1 (Operand.tmp 33) (Operand.tmp 32)) none) AT.done)))) (AT.act false (AOper.mk (some 31) (AOp.callv (Operand.tmp 29) [Operand.tmp 30]) none)
  (AT.look [AOper.mk (some 27) (AOp.iadr 1 (Operand.tmp 25) (Operand.tmp 26)) none, AOper.mk (some 28) (AOp.load false 1 (Operand.tmp 27)) none, AOper.mk
  (some 32) (AOp.bin false BinOp.mul (Operand.tmp 28) (Operand.tmp 31)) none, AOper.mk (some 33) (AOp.iadr 1 (Operand.tmp 23) (Operand.tmp 24)) none]
  (AT.act false (AOper.mk none (AOp.store 1 (Operand.tmp 33) (Operand.tmp 32)) none) AT.done)))))))) (AC.ops [AOper.mk (some 34) (AOp.bin false BinOp.add
  (Operand.tmp 18) (Operand.const (Value.int IntKind.i64 1))) none, AOper.mk (some 18) (AOp.mov (Operand.tmp 34)) none]))))))) (AC.seq (AC.ops [AOper.mk
  (some 35) (AOp.mov (Operand.tmp 8)) none, AOper.mk (some 36) (AOp.call 68 [Operand.tmp 35]) none, AOper.mk (some 37) (AOp.ext (Operand.tmp 36) 0) none,
  AOper.mk (some 38) (AOp.ext (Operand.tmp 36) 1) none, AOper.mk (some 6) (AOp.mov (Operand.tmp 37)) none, AOper.mk (some 7) (AOp.mov (Operand.tmp 38))
  none]) AC.ret)))) [ARes.tmp 6, ARes.tmp 7]
theorem cfn40 : cfn Try.prog 40 3 = some c40 := by kernel_rfl
def c41 : AFn :=
  AFn.mk 8 (AC.seq (AC.ops [AOper.mk (some 3) (AOp.mov (Operand.const (Value.int IntKind.i64 0))) none]) (AC.seq (AC.ops [AOper.mk (some 4) (AOp.load
  false 1 (Operand.tmp 1)) none, AOper.mk (some 5) (AOp.mov (Operand.tmp 0)) none, AOper.mk (some 6) (AOp.iadr 1 (Operand.tmp 4) (Operand.tmp 5)) none,
  AOper.mk (some 7) (AOp.load false 1 (Operand.tmp 6)) none, AOper.mk (some 3) (AOp.mov (Operand.tmp 7)) none]) AC.ret)) [ARes.tmp 3]
theorem cfn41 : cfn Try.prog 41 2 = some c41 := by kernel_rfl
def c42 : AFn :=
  AFn.mk 35 (AC.seq (AC.ops [AOper.mk (some 4) (AOp.box 24 (Operand.tmp 0)) none, AOper.mk (some 5) (AOp.box 24 (Operand.tmp 1)) none, AOper.mk (some 6)
  (AOp.box 29 (Operand.tmp 2)) none, AOper.mk (some 8) (AOp.mov (Operand.const (Value.int IntKind.i64 0))) none, AOper.mk (some 9) (AOp.mov
  (Operand.const (Value.int IntKind.i64 0))) none]) (AC.seq (AC.ops [AOper.mk (some 13) (AOp.load true 2 (Operand.tmp 4)) none, AOper.mk (some 14)
  (AOp.load true 2 (Operand.tmp 5)) none, AOper.mk (some 15) (AOp.load true 2 (Operand.tmp 6)) none, AOper.mk (some 16) (AOp.call 50 [Operand.tmp 13,
  Operand.tmp 14, Operand.tmp 15]) none, AOper.mk (some 12) (AOp.mov (Operand.tmp 16)) none, AOper.mk (some 17) (AOp.ext (Operand.tmp 12) 0) none,
  AOper.mk (some 18) (AOp.ext (Operand.tmp 12) 1) none, AOper.mk (some 10) (AOp.zro 89 (PV.agg [PV.v (Value.int IntKind.i64 0), PV.v (Value.slice none 0
  0), PV.v (Value.int IntKind.i64 0), PV.v (Value.slice none 0 0), PV.v (Value.slice none 0 0), PV.v (Value.slice none 0 0), PV.v (Value.slice none 0 0),
  PV.v (Value.slice none 0 0)])) none, AOper.mk none (AOp.store 8 (Operand.tmp 10) (Operand.tmp 17)) none, AOper.mk (some 11) (AOp.mov (Operand.tmp 18))
  none]) (AC.seq (AC.seq (AC.ops [AOper.mk (some 19) (AOp.mov (Operand.tmp 11)) none, AOper.mk (some 20) (AOp.bin false BinOp.neq (Operand.tmp 19)
  (Operand.const (Value.int IntKind.i64 0))) none]) (AC.cond (Operand.tmp 20) (AC.seq (AC.ops [AOper.mk (some 21) (AOp.mov (Operand.tmp 11)) none,
  AOper.mk (some 8) (AOp.mov (Operand.const (Value.int IntKind.i64 0))) none, AOper.mk (some 9) (AOp.mov (Operand.tmp 21)) none]) AC.ret) AC.skip))
  (AC.seq (AC.seq (AC.ops [AOper.mk (some 22) (AOp.mov (Operand.tmp 3)) none, AOper.mk (some 23) (AOp.bin false BinOp.lss (Operand.tmp 22) (Operand.const
  (Value.int IntKind.i64 0))) none, AOper.mk (some 24) (AOp.mov (Operand.tmp 23)) none, AOper.mk (some 25) (AOp.mov (Operand.tmp 3)) (some (24, false)),
  AOper.mk (some 26) (AOp.fadr 0 (Operand.tmp 4)) (some (24, false)), AOper.mk (some 27) (AOp.load false 1 (Operand.tmp 26)) (some (24, false)), AOper.mk
  (some 28) (AOp.bin false BinOp.geq (Operand.tmp 25) (Operand.tmp 27)) (some (24, false)), AOper.mk (some 29) (AOp.pick (Operand.tmp 24) (Operand.const
  (Value.bool true)) (Operand.tmp 28)) none]) (AC.cond (Operand.tmp 29) (AC.seq (AC.ops [AOper.mk (some 8) (AOp.mov (Operand.const (Value.int IntKind.i64
  0))) none, AOper.mk (some 9) (AOp.mov (Operand.const (Value.int IntKind.i64 2))) none]) AC.ret) AC.skip)) (AC.seq (AC.ops [AOper.mk (some 30) (AOp.load
  true 8 (Operand.tmp 10)) none, AOper.mk (some 31) (AOp.call 71 [Operand.tmp 30]) none, AOper.mk (some 32) (AOp.mov (Operand.tmp 3)) none, AOper.mk
  (some 33) (AOp.bld [PV.v (Value.int IntKind.i64 0), PV.v (Value.int IntKind.i64 0)] [(0, 1), (1, 1)] [(0, Operand.tmp 32), (1, Operand.const (Value.int
  IntKind.i64 (-1)))]) none, AOper.mk (some 34) (AOp.look (KD.arr 2) (PV.v (Value.int IntKind.i64 0)) false (Operand.tmp 31) (Operand.tmp 33)) none,
  AOper.mk (some 8) (AOp.mov (Operand.tmp 34)) none, AOper.mk (some 9) (AOp.mov (Operand.const (Value.int IntKind.i64 0))) none]) AC.ret))))) [ARes.tmp
  8, ARes.tmp 9]
theorem cfn42 : cfn Try.prog 42 4 = some c42 := by kernel_rfl
def c43 : AFn :=
  AFn.mk 31 (AC.seq (AC.ops [AOper.mk (some 3) (AOp.box 24 (Operand.tmp 0)) none, AOper.mk (some 4) (AOp.box 24 (Operand.tmp 1)) none, AOper.mk (some 5)
  (AOp.box 38 (Operand.tmp 2)) none, AOper.mk (some 6) (AOp.mov (Operand.const (Value.slice none 0 0))) none]) (AC.seq (AC.ops [AOper.mk (some 7)
  (AOp.mov (Operand.const (Value.slice none 0 0))) none]) (AC.seq (AC.seq (AC.ops [AOper.mk (some 8) (AOp.mov (Operand.const (Value.int IntKind.i64 0)))
  none]) (AC.block 0 (AC.loop (AC.seq (AC.seq (AC.ops [AOper.mk (some 9) (AOp.mov (Operand.tmp 8)) none, AOper.mk (some 10) (AOp.fadr 0 (Operand.tmp 3))
  none, AOper.mk (some 11) (AOp.load false 1 (Operand.tmp 10)) none, AOper.mk (some 12) (AOp.bin false BinOp.lss (Operand.tmp 9) (Operand.tmp 11)) none])
  (AC.cond (Operand.tmp 12) AC.skip (AC.exit 0))) (AC.seq (AC.block 1 (AC.segs [([AOper.mk (some 15) (AOp.mov (Operand.tmp 7)) none, AOper.mk (some 16)
  (AOp.load true 2 (Operand.tmp 3)) none, AOper.mk (some 17) (AOp.load true 2 (Operand.tmp 4)) none, AOper.mk (some 18) (AOp.load true 2 (Operand.tmp 5))
  none, AOper.mk (some 19) (AOp.mov (Operand.tmp 8)) none, AOper.mk (some 23) (AOp.load true 2 (Operand.tmp 3)) none, AOper.mk (some 24) (AOp.load true 2
  (Operand.tmp 5)) none, AOper.mk (some 25) (AOp.mov (Operand.tmp 8)) none], some (true, AOper.mk (some 20) (AOp.call 70 [Operand.tmp 16, Operand.tmp 17,
  Operand.tmp 18, Operand.tmp 19]) none)), ([AOper.mk (some 21) (AOp.bin false BinOp.mul (Operand.const (Value.int IntKind.i64 2)) (Operand.tmp 20))
  none, AOper.mk (some 22) (AOp.bin false BinOp.sub (Operand.tmp 21) (Operand.const (Value.int IntKind.i64 2))) none], some (true, AOper.mk (some 26)
  (AOp.call 72 [Operand.tmp 23, Operand.tmp 24, Operand.tmp 25, Operand.const (Value.int IntKind.i64 (-1))]) none)), ([AOper.mk (some 27) (AOp.bin false
  BinOp.add (Operand.tmp 22) (Operand.tmp 26)) none], some (true, AOper.mk (some 28) (AOp.bsl 3 1 [Operand.tmp 27]) none)), ([], some (false, AOper.mk
  (some 29) (AOp.app 3 1 (Operand.tmp 15) (Operand.tmp 28)) none)), ([AOper.mk (some 7) (AOp.mov (Operand.tmp 29)) none], none)])) (AC.ops [AOper.mk
  (some 13) (AOp.mov (Operand.tmp 8)) none, AOper.mk (some 14) (AOp.bin false BinOp.add (Operand.tmp 13) (Operand.const (Value.int IntKind.i64 1))) none,
  AOper.mk (some 8) (AOp.mov (Operand.tmp 14)) none])))))) (AC.seq (AC.ops [AOper.mk (some 30) (AOp.mov (Operand.tmp 7)) none, AOper.mk (some 6) (AOp.mov
  (Operand.tmp 30)) none]) AC.ret)))) [ARes.tmp 6]
theorem cfn43 : cfn Try.prog 43 3 = some c43 := by kernel_rfl
end Go.Proofs.Ytddgepjmfnodhaa
