/-
  The compiled code of the functions (printed by a program of mine).
-/
import Derived.Test.YtjkmhjjfipnbbaaMad
import Derived.Test.YtjkmhjjfipnbbaaChecked
namespace Go.Proofs.Ytjkmhjjfipnbbaa
open Go.Abs
def c96 : AFn :=
  AFn.mk 12 (AC.seq (AC.ops [AOper.mk (some 4) (AOp.mov (Operand.const (Value.bool false))) none]) (AC.seq (AC.ops [AOper.mk (some 5) (AOp.mov
  (Operand.tmp 1)) none, AOper.mk (some 6) (AOp.bin false BinOp.geq (Operand.tmp 5) (Operand.const (Value.int IntKind.i64 0))) none, AOper.mk (some 7)
  (AOp.mov (Operand.tmp 6)) none, AOper.mk (some 8) (AOp.mov (Operand.tmp 1)) (some (7, true)), AOper.mk (some 9) (AOp.mov (Operand.tmp 0)) (some (7,
  true)), AOper.mk (some 10) (AOp.bin false BinOp.lss (Operand.tmp 8) (Operand.tmp 9)) (some (7, true)), AOper.mk (some 11) (AOp.pick (Operand.tmp 7)
  (Operand.tmp 10) (Operand.const (Value.bool false))) none, AOper.mk (some 4) (AOp.mov (Operand.tmp 11)) none]) AC.ret)) [ARes.tmp 4]
theorem cfn96 : cfn Try.prog 96 2 = some c96 := by kernel_rfl
def c97 : AFn :=
  AFn.mk 17 (AC.seq (AC.ops [AOper.mk (some 2) (AOp.box 121 (Operand.tmp 0)) none, AOper.mk (some 3) (AOp.box 121 (Operand.tmp 1)) none, AOper.mk (some
  4) (AOp.mov (Operand.const (Value.int IntKind.i64 0))) none]) (AC.seq (AC.segs [([AOper.mk (some 5) (AOp.fadr 0 (Operand.tmp 2)) none, AOper.mk (some
  6) (AOp.load false 1 (Operand.tmp 5)) none, AOper.mk (some 7) (AOp.fadr 0 (Operand.tmp 3)) none, AOper.mk (some 8) (AOp.load false 1 (Operand.tmp 7))
  none, AOper.mk (some 10) (AOp.fadr 1 (Operand.tmp 2)) none, AOper.mk (some 11) (AOp.load false 1 (Operand.tmp 10)) none, AOper.mk (some 12) (AOp.fadr 1
  (Operand.tmp 3)) none, AOper.mk (some 13) (AOp.load false 1 (Operand.tmp 12)) none], some (true, AOper.mk (some 9) (AOp.call 105 [Operand.tmp 6,
  Operand.tmp 8]) none)), ([], some (true, AOper.mk (some 14) (AOp.call 105 [Operand.tmp 11, Operand.tmp 13]) none)), ([], some (true, AOper.mk (some 15)
  (AOp.bsl 3 1 [Operand.tmp 9, Operand.tmp 14]) none)), ([], some (true, AOper.mk (some 16) (AOp.call 104 [Operand.tmp 15]) none)), ([AOper.mk (some 4)
  (AOp.mov (Operand.tmp 16)) none], none)]) AC.ret)) [ARes.tmp 4]
theorem cfn97 : cfn Try.prog 97 2 = some c97 := by kernel_rfl
def c98 : AFn :=
  AFn.mk 6 (AC.seq (AC.ops [AOper.mk (some 1) (AOp.box 24 (Operand.tmp 0)) none, AOper.mk (some 2) (AOp.mov (Operand.const (Value.int IntKind.i64 0)))
  none]) (AC.seq (AC.ops [AOper.mk (some 3) (AOp.load true 2 (Operand.tmp 1)) none, AOper.mk (some 4) (AOp.call 106 [Operand.tmp 3]) none, AOper.mk (some
  5) (AOp.len (Operand.tmp 4)) none, AOper.mk (some 2) (AOp.mov (Operand.tmp 5)) none]) AC.ret)) [ARes.tmp 2]
theorem cfn98 : cfn Try.prog 98 1 = some c98 := by kernel_rfl
def c99 : AFn :=
  AFn.mk 19 (AC.seq (AC.ops [AOper.mk (some 4) (AOp.mov (Operand.const (Value.int IntKind.i64 0))) none]) (AC.seq (AC.seq (AC.ops [AOper.mk (some 6)
  (AOp.mov (Operand.tmp 0)) none, AOper.mk (some 7) (AOp.len (Operand.tmp 6)) none, AOper.mk (some 8) (AOp.mov (Operand.const (Value.int IntKind.i64 0)))
  none]) (AC.block 0 (AC.loop (AC.seq (AC.ops [AOper.mk (some 9) (AOp.bin false BinOp.lss (Operand.tmp 8) (Operand.tmp 7)) none]) (AC.seq (AC.cond
  (Operand.tmp 9) AC.skip (AC.exit 0)) (AC.seq (AC.block 1 (AC.seq (AC.ops [AOper.mk (some 10) (AOp.mov (Operand.tmp 8)) none, AOper.mk (some 5) (AOp.mov
  (Operand.tmp 10)) none]) (AC.seq (AC.ops [AOper.mk (some 11) (AOp.mov (Operand.tmp 1)) none, AOper.mk (some 12) (AOp.mov (Operand.tmp 0)) none,
  AOper.mk (some 13) (AOp.mov (Operand.tmp 5)) none, AOper.mk (some 14) (AOp.iadr 1 (Operand.tmp 12) (Operand.tmp 13)) none, AOper.mk (some 15) (AOp.load
  false 1 (Operand.tmp 14)) none, AOper.mk (some 16) (AOp.callv (Operand.tmp 11) [Operand.tmp 15]) none]) (AC.cond (Operand.tmp 16) (AC.seq (AC.ops
  [AOper.mk (some 17) (AOp.mov (Operand.tmp 5)) none, AOper.mk (some 4) (AOp.mov (Operand.tmp 17)) none]) AC.ret) AC.skip)))) (AC.ops [AOper.mk (some 18)
  (AOp.bin false BinOp.add (Operand.tmp 8) (Operand.const (Value.int IntKind.i64 1))) none, AOper.mk (some 8) (AOp.mov (Operand.tmp 18)) none])))))))
  (AC.seq (AC.ops [AOper.mk (some 4) (AOp.mov (Operand.const (Value.int IntKind.i64 (-1)))) none]) AC.ret))) [ARes.tmp 4]
theorem cfn99 : cfn Try.prog 99 2 = some c99 := by kernel_rfl
def c100 : AFn :=
  AFn.mk 9 (AC.seq (AC.ops [AOper.mk (some 2) (AOp.mov (Operand.const (Value.int IntKind.i64 0))) none]) (AC.seq (AC.seq (AC.ops [AOper.mk (some 3)
  (AOp.mov (Operand.tmp 0)) none, AOper.mk (some 4) (AOp.bin false BinOp.lss (Operand.tmp 3) (Operand.const (Value.int IntKind.i64 1))) none, AOper.mk
  (some 5) (AOp.mov (Operand.tmp 4)) none, AOper.mk (some 6) (AOp.mov (Operand.tmp 0)) (some (5, false)), AOper.mk (some 7) (AOp.bin false BinOp.gtr
  (Operand.tmp 6) (Operand.const (Value.int IntKind.i64 12))) (some (5, false)), AOper.mk (some 8) (AOp.pick (Operand.tmp 5) (Operand.const (Value.bool
  true)) (Operand.tmp 7)) none]) (AC.cond (Operand.tmp 8) (AC.seq (AC.ops [AOper.mk (some 2) (AOp.mov (Operand.const (Value.int IntKind.i64 2))) none])
  AC.ret) AC.skip)) (AC.seq (AC.ops [AOper.mk (some 2) (AOp.mov (Operand.const (Value.int IntKind.i64 0))) none]) AC.ret))) [ARes.tmp 2]
theorem cfn100 : cfn Try.prog 100 1 = some c100 := by kernel_rfl
def c101 : AFn :=
  AFn.mk 9 (AC.seq (AC.ops [AOper.mk (some 2) (AOp.mov (Operand.const (Value.bool false))) none]) (AC.seq (AC.ops [AOper.mk (some 3) (AOp.mov
  (Operand.tmp 0)) none, AOper.mk (some 4) (AOp.bin false BinOp.geq (Operand.tmp 3) (Operand.const (Value.int IntKind.i64 (-1048576)))) none, AOper.mk
  (some 5) (AOp.mov (Operand.tmp 4)) none, AOper.mk (some 6) (AOp.mov (Operand.tmp 0)) (some (5, true)), AOper.mk (some 7) (AOp.bin false BinOp.leq
  (Operand.tmp 6) (Operand.const (Value.int IntKind.i64 1048576))) (some (5, true)), AOper.mk (some 8) (AOp.pick (Operand.tmp 5) (Operand.tmp 7)
  (Operand.const (Value.bool false))) none, AOper.mk (some 2) (AOp.mov (Operand.tmp 8)) none]) AC.ret)) [ARes.tmp 2]
theorem cfn101 : cfn Try.prog 101 1 = some c101 := by kernel_rfl
def c102 : AFn :=
  AFn.mk 25 (AC.seq (AC.ops [AOper.mk (some 2) (AOp.box 24 (Operand.tmp 0)) none, AOper.mk (some 4) (AOp.mov (Operand.const (Value.int IntKind.i64 0)))
  none]) (AC.seq (AC.seq (AC.ops [AOper.mk (some 8) (AOp.load true 2 (Operand.tmp 2)) none, AOper.mk (some 9) (AOp.call 80 [Operand.tmp 8]) none,
  AOper.mk (some 5) (AOp.mov (Operand.tmp 9)) none]) (AC.seq (AC.ops [AOper.mk (some 10) (AOp.mov (Operand.tmp 5)) none, AOper.mk (some 11) (AOp.bin
  false BinOp.neq (Operand.tmp 10) (Operand.const (Value.int IntKind.i64 0))) none]) (AC.cond (Operand.tmp 11) (AC.seq (AC.ops [AOper.mk (some 12)
  (AOp.mov (Operand.tmp 5)) none, AOper.mk (some 4) (AOp.mov (Operand.tmp 12)) none]) AC.ret) AC.skip))) (AC.seq (AC.seq (AC.ops [AOper.mk (some 13)
  (AOp.mov (Operand.tmp 1)) none, AOper.mk (some 14) (AOp.len (Operand.tmp 13)) none, AOper.mk (some 15) (AOp.mov (Operand.const (Value.int IntKind.i64
  0))) none]) (AC.block 0 (AC.loop (AC.seq (AC.ops [AOper.mk (some 16) (AOp.bin false BinOp.lss (Operand.tmp 15) (Operand.tmp 14)) none]) (AC.seq
  (AC.cond (Operand.tmp 16) AC.skip (AC.exit 0)) (AC.seq (AC.block 1 (AC.seq (AC.ops [AOper.mk (some 17) (AOp.iadr 1 (Operand.tmp 13) (Operand.tmp 15))
  none, AOper.mk (some 18) (AOp.load false 1 (Operand.tmp 17)) none, AOper.mk (some 7) (AOp.mov (Operand.tmp 18)) none]) (AC.seq (AC.ops [AOper.mk (some
  19) (AOp.fadr 0 (Operand.tmp 2)) none, AOper.mk (some 20) (AOp.load false 1 (Operand.tmp 19)) none, AOper.mk (some 21) (AOp.mov (Operand.tmp 7)) none,
  AOper.mk (some 22) (AOp.call 96 [Operand.tmp 20, Operand.tmp 21]) none, AOper.mk (some 23) (AOp.un UnOp.not (Operand.tmp 22)) none]) (AC.cond
  (Operand.tmp 23) (AC.seq (AC.ops [AOper.mk (some 4) (AOp.mov (Operand.const (Value.int IntKind.i64 2))) none]) AC.ret) AC.skip)))) (AC.ops [AOper.mk
  (some 24) (AOp.bin false BinOp.add (Operand.tmp 15) (Operand.const (Value.int IntKind.i64 1))) none, AOper.mk (some 15) (AOp.mov (Operand.tmp 24))
  none]))))))) (AC.seq (AC.ops [AOper.mk (some 4) (AOp.mov (Operand.const (Value.int IntKind.i64 0))) none]) AC.ret)))) [ARes.tmp 4]
theorem cfn102 : cfn Try.prog 102 2 = some c102 := by kernel_rfl
def c103 : AFn :=
  AFn.mk 18 (AC.seq (AC.ops [AOper.mk (some 4) (AOp.mov (Operand.const (Value.bool false))) none]) (AC.seq (AC.seq (AC.ops [AOper.mk (some 5) (AOp.mov
  (Operand.const (Value.int IntKind.i64 0))) none]) (AC.block 0 (AC.loop (AC.seq (AC.seq (AC.ops [AOper.mk (some 6) (AOp.mov (Operand.tmp 5)) none,
  AOper.mk (some 7) (AOp.mov (Operand.tmp 0)) none, AOper.mk (some 8) (AOp.len (Operand.tmp 7)) none, AOper.mk (some 9) (AOp.bin false BinOp.lss
  (Operand.tmp 6) (Operand.tmp 8)) none]) (AC.cond (Operand.tmp 9) AC.skip (AC.exit 0))) (AC.seq (AC.block 1 (AC.seq (AC.ops [AOper.mk (some 12) (AOp.mov
  (Operand.tmp 0)) none, AOper.mk (some 13) (AOp.mov (Operand.tmp 5)) none, AOper.mk (some 14) (AOp.iadr 1 (Operand.tmp 12) (Operand.tmp 13)) none,
  AOper.mk (some 15) (AOp.load false 1 (Operand.tmp 14)) none, AOper.mk (some 16) (AOp.mov (Operand.tmp 1)) none, AOper.mk (some 17) (AOp.bin false
  BinOp.eql (Operand.tmp 15) (Operand.tmp 16)) none]) (AC.cond (Operand.tmp 17) (AC.seq (AC.ops [AOper.mk (some 4) (AOp.mov (Operand.const (Value.bool
  true))) none]) AC.ret) AC.skip))) (AC.ops [AOper.mk (some 10) (AOp.mov (Operand.tmp 5)) none, AOper.mk (some 11) (AOp.bin false BinOp.add (Operand.tmp
  10) (Operand.const (Value.int IntKind.i64 1))) none, AOper.mk (some 5) (AOp.mov (Operand.tmp 11)) none])))))) (AC.seq (AC.ops [AOper.mk (some 4)
  (AOp.mov (Operand.const (Value.bool false))) none]) AC.ret))) [ARes.tmp 4]
theorem cfn103 : cfn Try.prog 103 2 = some c103 := by kernel_rfl
def c104 : AFn :=
  AFn.mk 18 (AC.seq (AC.ops [AOper.mk (some 2) (AOp.mov (Operand.const (Value.int IntKind.i64 0))) none]) (AC.seq (AC.ops [AOper.mk (some 3) (AOp.mov
  (Operand.const (Value.int IntKind.i64 0))) none]) (AC.seq (AC.seq (AC.ops [AOper.mk (some 6) (AOp.mov (Operand.tmp 0)) none, AOper.mk (some 7) (AOp.len
  (Operand.tmp 6)) none, AOper.mk (some 8) (AOp.mov (Operand.const (Value.int IntKind.i64 0))) none]) (AC.block 0 (AC.loop (AC.seq (AC.ops [AOper.mk
  (some 9) (AOp.bin false BinOp.lss (Operand.tmp 8) (Operand.tmp 7)) none]) (AC.seq (AC.cond (Operand.tmp 9) AC.skip (AC.exit 0)) (AC.seq (AC.block 1
  (AC.seq (AC.ops [AOper.mk (some 10) (AOp.iadr 1 (Operand.tmp 6) (Operand.tmp 8)) none, AOper.mk (some 11) (AOp.load false 1 (Operand.tmp 10)) none,
  AOper.mk (some 5) (AOp.mov (Operand.tmp 11)) none]) (AC.seq (AC.ops [AOper.mk (some 12) (AOp.mov (Operand.tmp 5)) none, AOper.mk (some 13) (AOp.mov
  (Operand.tmp 3)) none, AOper.mk (some 14) (AOp.bin false BinOp.neq (Operand.tmp 12) (Operand.tmp 13)) none]) (AC.cond (Operand.tmp 14) (AC.seq (AC.ops
  [AOper.mk (some 15) (AOp.mov (Operand.tmp 5)) none, AOper.mk (some 2) (AOp.mov (Operand.tmp 15)) none]) AC.ret) AC.skip)))) (AC.ops [AOper.mk (some 16)
  (AOp.bin false BinOp.add (Operand.tmp 8) (Operand.const (Value.int IntKind.i64 1))) none, AOper.mk (some 8) (AOp.mov (Operand.tmp 16)) none])))))))
  (AC.seq (AC.ops [AOper.mk (some 17) (AOp.mov (Operand.tmp 3)) none, AOper.mk (some 2) (AOp.mov (Operand.tmp 17)) none]) AC.ret)))) [ARes.tmp 2]
theorem cfn104 : cfn Try.prog 104 1 = some c104 := by kernel_rfl
def c105 : AFn :=
  AFn.mk 20 (AC.seq (AC.ops [AOper.mk (some 4) (AOp.mov (Operand.const (Value.int IntKind.i64 0))) none]) (AC.seq (AC.ops [AOper.mk (some 7) (AOp.mov
  (Operand.tmp 0)) none, AOper.mk (some 8) (AOp.call 107 [Operand.tmp 7]) none, AOper.mk (some 5) (AOp.mov (Operand.tmp 8)) none]) (AC.seq (AC.ops
  [AOper.mk (some 9) (AOp.mov (Operand.tmp 1)) none, AOper.mk (some 10) (AOp.call 107 [Operand.tmp 9]) none, AOper.mk (some 6) (AOp.mov (Operand.tmp 10))
  none]) (AC.seq (AC.seq (AC.ops [AOper.mk (some 11) (AOp.mov (Operand.tmp 5)) none]) (AC.cond (Operand.tmp 11) (AC.seq (AC.seq (AC.ops [AOper.mk (some
  12) (AOp.mov (Operand.tmp 6)) none]) (AC.cond (Operand.tmp 12) (AC.seq (AC.ops [AOper.mk (some 4) (AOp.mov (Operand.const (Value.int IntKind.i64 0)))
  none]) AC.ret) AC.skip)) (AC.seq (AC.ops [AOper.mk (some 4) (AOp.mov (Operand.const (Value.int IntKind.i64 (-1)))) none]) AC.ret)) AC.skip)) (AC.seq
  (AC.seq (AC.ops [AOper.mk (some 13) (AOp.mov (Operand.tmp 6)) none]) (AC.cond (Operand.tmp 13) (AC.seq (AC.ops [AOper.mk (some 4) (AOp.mov
  (Operand.const (Value.int IntKind.i64 1))) none]) AC.ret) AC.skip)) (AC.seq (AC.seq (AC.ops [AOper.mk (some 14) (AOp.mov (Operand.tmp 0)) none,
  AOper.mk (some 15) (AOp.mov (Operand.tmp 1)) none, AOper.mk (some 16) (AOp.bin false BinOp.lss (Operand.tmp 14) (Operand.tmp 15)) none]) (AC.cond
  (Operand.tmp 16) (AC.seq (AC.ops [AOper.mk (some 4) (AOp.mov (Operand.const (Value.int IntKind.i64 (-1)))) none]) AC.ret) AC.skip)) (AC.seq (AC.seq
  (AC.ops [AOper.mk (some 17) (AOp.mov (Operand.tmp 0)) none, AOper.mk (some 18) (AOp.mov (Operand.tmp 1)) none, AOper.mk (some 19) (AOp.bin false
  BinOp.gtr (Operand.tmp 17) (Operand.tmp 18)) none]) (AC.cond (Operand.tmp 19) (AC.seq (AC.ops [AOper.mk (some 4) (AOp.mov (Operand.const (Value.int
  IntKind.i64 1))) none]) AC.ret) AC.skip)) (AC.seq (AC.ops [AOper.mk (some 4) (AOp.mov (Operand.const (Value.int IntKind.i64 0))) none]) AC.ret))))))))
  [ARes.tmp 4]
theorem cfn105 : cfn Try.prog 105 2 = some c105 := by kernel_rfl
def c106 : AFn :=
  AFn.mk 40 (AC.seq (AC.ops [AOper.mk (some 1) (AOp.box 24 (Operand.tmp 0)) none, AOper.mk (some 2) (AOp.mov (Operand.const (Value.slice none 0 0)))
  none]) (AC.seq (AC.ops [AOper.mk (some 3) (AOp.mov (Operand.const (Value.slice none 0 0))) none]) (AC.seq (AC.seq (AC.ops [AOper.mk (some 4) (AOp.mov
  (Operand.const (Value.int IntKind.i64 0))) none]) (AC.block 0 (AC.loop (AC.seq (AC.seq (AC.ops [AOper.mk (some 6) (AOp.mov (Operand.tmp 4)) none,
  AOper.mk (some 7) (AOp.fadr 1 (Operand.tmp 1)) none, AOper.mk (some 8) (AOp.load false 1 (Operand.tmp 7)) none, AOper.mk (some 9) (AOp.len (Operand.tmp
  8)) none, AOper.mk (some 10) (AOp.bin false BinOp.lss (Operand.tmp 6) (Operand.tmp 9)) none]) (AC.cond (Operand.tmp 10) AC.skip (AC.exit 0))) (AC.seq
  (AC.block 1 (AC.seq (AC.ops [AOper.mk (some 5) (AOp.mov (Operand.const (Value.int IntKind.i64 0))) none]) (AC.block 2 (AC.loop (AC.seq (AC.seq (AC.ops
  [AOper.mk (some 13) (AOp.mov (Operand.tmp 5)) none, AOper.mk (some 14) (AOp.fadr 1 (Operand.tmp 1)) none, AOper.mk (some 15) (AOp.load false 1
  (Operand.tmp 14)) none, AOper.mk (some 16) (AOp.mov (Operand.tmp 4)) none, AOper.mk (some 17) (AOp.iadr 3 (Operand.tmp 15) (Operand.tmp 16)) none,
  AOper.mk (some 18) (AOp.fadr 2 (Operand.tmp 17)) none, AOper.mk (some 19) (AOp.load false 1 (Operand.tmp 18)) none, AOper.mk (some 20) (AOp.bin false
  BinOp.lss (Operand.tmp 13) (Operand.tmp 19)) none]) (AC.cond (Operand.tmp 20) AC.skip (AC.exit 2))) (AC.seq (AC.block 3 (AC.segs [([AOper.mk (some 23)
  (AOp.mov (Operand.tmp 3)) none, AOper.mk (some 24) (AOp.fadr 1 (Operand.tmp 1)) none, AOper.mk (some 25) (AOp.load false 1 (Operand.tmp 24)) none,
  AOper.mk (some 26) (AOp.mov (Operand.tmp 4)) none, AOper.mk (some 27) (AOp.iadr 3 (Operand.tmp 25) (Operand.tmp 26)) none, AOper.mk (some 28) (AOp.fadr
  0 (Operand.tmp 27)) none, AOper.mk (some 29) (AOp.load false 1 (Operand.tmp 28)) none, AOper.mk (some 30) (AOp.fadr 1 (Operand.tmp 1)) none, AOper.mk
  (some 31) (AOp.load false 1 (Operand.tmp 30)) none, AOper.mk (some 32) (AOp.mov (Operand.tmp 4)) none, AOper.mk (some 33) (AOp.iadr 3 (Operand.tmp 31)
  (Operand.tmp 32)) none, AOper.mk (some 34) (AOp.fadr 1 (Operand.tmp 33)) none, AOper.mk (some 35) (AOp.load false 1 (Operand.tmp 34)) none, AOper.mk
  (some 36) (AOp.bld [PV.v (Value.int IntKind.i64 0), PV.v (Value.int IntKind.i64 0)] [(0, 1), (1, 1)] [(0, Operand.tmp 29), (1, Operand.tmp 35)]) none],
  some (true, AOper.mk (some 37) (AOp.bsl 131 2 [Operand.tmp 36]) none)), ([], some (false, AOper.mk (some 38) (AOp.app 131 2 (Operand.tmp 23)
  (Operand.tmp 37)) none)), ([AOper.mk (some 3) (AOp.mov (Operand.tmp 38)) none], none)])) (AC.ops [AOper.mk (some 21) (AOp.mov (Operand.tmp 5)) none,
  AOper.mk (some 22) (AOp.bin false BinOp.add (Operand.tmp 21) (Operand.const (Value.int IntKind.i64 1))) none, AOper.mk (some 5) (AOp.mov (Operand.tmp
  22)) none]))))))) (AC.ops [AOper.mk (some 11) (AOp.mov (Operand.tmp 4)) none, AOper.mk (some 12) (AOp.bin false BinOp.add (Operand.tmp 11)
  (Operand.const (Value.int IntKind.i64 1))) none, AOper.mk (some 4) (AOp.mov (Operand.tmp 12)) none])))))) (AC.seq (AC.ops [AOper.mk (some 39) (AOp.mov
  (Operand.tmp 3)) none, AOper.mk (some 2) (AOp.mov (Operand.tmp 39)) none]) AC.ret)))) [ARes.tmp 2]
theorem cfn106 : cfn Try.prog 106 1 = some c106 := by kernel_rfl
def c107 : AFn :=
  AFn.mk 6 (AC.seq (AC.ops [AOper.mk (some 2) (AOp.mov (Operand.const (Value.bool false))) none]) (AC.seq (AC.ops [AOper.mk (some 3) (AOp.mov
  (Operand.tmp 0)) none, AOper.mk (some 4) (AOp.mov (Operand.tmp 0)) none, AOper.mk (some 5) (AOp.bin false BinOp.neq (Operand.tmp 3) (Operand.tmp 4))
  none, AOper.mk (some 2) (AOp.mov (Operand.tmp 5)) none]) AC.ret)) [ARes.tmp 2]
theorem cfn107 : cfn Try.prog 107 1 = some c107 := by kernel_rfl
end Go.Proofs.Ytjkmhjjfipnbbaa
