/-
  The compiled code of the functions (printed by a program of mine).
-/
import Derived.Test.YtddgepjmfnodhaaMad
import Derived.Test.YtddgepjmfnodhaaChecked
namespace Go.Proofs.Ytddgepjmfnodhaa
open Go.Abs
def c91 : AFn :=
  AFn.mk 9 (AC.seq (AC.ops [AOper.mk (some 4) (AOp.mov (Operand.const (Value.bool false))) none]) (AC.seq (AC.ops [AOper.mk (some 5) (AOp.mov
  (Operand.tmp 0)) none, AOper.mk (some 6) (AOp.mov (Operand.tmp 1)) none, AOper.mk (some 7) (AOp.call 107 [Operand.tmp 5, Operand.tmp 6]) none, AOper.mk
  (some 8) (AOp.bin false BinOp.geq (Operand.tmp 7) (Operand.const (Value.int IntKind.i64 0))) none, AOper.mk (some 4) (AOp.mov (Operand.tmp 8)) none])
  AC.ret)) [ARes.tmp 4]
theorem cfn91 : cfn Try.prog 91 2 = some c91 := by kernel_rfl
def c92 : AFn :=
  AFn.mk 9 (AC.seq (AC.ops [AOper.mk (some 2) (AOp.mov (Operand.const (Value.bool false))) none]) (AC.seq (AC.ops [AOper.mk (some 3) (AOp.mov
  (Operand.tmp 0)) none, AOper.mk (some 4) (AOp.bin false BinOp.lss (Operand.tmp 3) (Operand.const (Value.int IntKind.i64 (-1048576)))) none, AOper.mk
  (some 5) (AOp.mov (Operand.tmp 4)) none, AOper.mk (some 6) (AOp.mov (Operand.tmp 0)) (some (5, false)), AOper.mk (some 7) (AOp.bin false BinOp.gtr
  (Operand.tmp 6) (Operand.const (Value.int IntKind.i64 1048576))) (some (5, false)), AOper.mk (some 8) (AOp.pick (Operand.tmp 5) (Operand.const
  (Value.bool true)) (Operand.tmp 7)) none, AOper.mk (some 2) (AOp.mov (Operand.tmp 8)) none]) AC.ret)) [ARes.tmp 2]
theorem cfn92 : cfn Try.prog 92 1 = some c92 := by kernel_rfl
def c93 : AFn :=
  AFn.mk 8 (AC.seq (AC.ops [AOper.mk (some 2) (AOp.mov (Operand.const (Value.slice none 0 0))) none]) (AC.seq (AC.seq (AC.ops [AOper.mk (some 3) (AOp.mov
  (Operand.tmp 0)) none, AOper.mk (some 4) (AOp.eqn false (Operand.tmp 3)) none]) (AC.cond (Operand.tmp 4) (AC.seq (AC.ops [AOper.mk (some 2) (AOp.mov
  (Operand.const (Value.slice none 0 0))) none]) AC.ret) AC.skip)) (AC.seq (AC.ops [AOper.mk (some 5) (AOp.bsl 3 1 []) none, AOper.mk (some 6) (AOp.mov
  (Operand.tmp 0)) none, AOper.mk (some 7) (AOp.app 3 1 (Operand.tmp 5) (Operand.tmp 6)) none, AOper.mk (some 2) (AOp.mov (Operand.tmp 7)) none])
  AC.ret))) [ARes.tmp 2]
theorem cfn93 : cfn Try.prog 93 1 = some c93 := by kernel_rfl
def c94 : AFn :=
  AFn.mk 35 (AC.seq (AC.ops [AOper.mk (some 3) (AOp.box 70 (Operand.tmp 0)) none]) (AC.seq (AC.segs [([AOper.mk (some 5) (AOp.fadr 2 (Operand.tmp 3))
  none, AOper.mk (some 6) (AOp.load false 1 (Operand.tmp 5)) none, AOper.mk (some 7) (AOp.load false 1 (Operand.tmp 1)) none, AOper.mk (some 8) (AOp.fadr
  0 (Operand.tmp 3)) none, AOper.mk (some 9) (AOp.load false 1 (Operand.tmp 8)) none, AOper.mk (some 10) (AOp.iadr 1 (Operand.tmp 7) (Operand.tmp 9))
  none, AOper.mk (some 11) (AOp.load false 1 (Operand.tmp 10)) none, AOper.mk (some 12) (AOp.load false 1 (Operand.tmp 1)) none, AOper.mk (some 13)
  (AOp.fadr 1 (Operand.tmp 3)) none, AOper.mk (some 14) (AOp.load false 1 (Operand.tmp 13)) none, AOper.mk (some 15) (AOp.iadr 1 (Operand.tmp 12)
  (Operand.tmp 14)) none, AOper.mk (some 16) (AOp.load false 1 (Operand.tmp 15)) none, AOper.mk (some 17) (AOp.bin false BinOp.sub (Operand.tmp 11)
  (Operand.tmp 16)) none, AOper.mk (some 18) (AOp.bin false BinOp.mul (Operand.tmp 6) (Operand.tmp 17)) none, AOper.mk (some 4) (AOp.mov (Operand.tmp
  18)) none], none)]) (AC.seq (AC.ops [AOper.mk (some 19) (AOp.load false 1 (Operand.tmp 2)) none, AOper.mk (some 20) (AOp.fadr 0 (Operand.tmp 3)) none,
  AOper.mk (some 21) (AOp.load false 1 (Operand.tmp 20)) none, AOper.mk (some 22) (AOp.iadr 1 (Operand.tmp 19) (Operand.tmp 21)) none, AOper.mk (some 23)
  (AOp.load false 1 (Operand.tmp 22)) none, AOper.mk (some 24) (AOp.mov (Operand.tmp 4)) none, AOper.mk (some 25) (AOp.bin false BinOp.sub (Operand.tmp
  23) (Operand.tmp 24)) none, AOper.mk (some 26) (AOp.iadr 1 (Operand.tmp 19) (Operand.tmp 21)) none, AOper.mk none (AOp.store 1 (Operand.tmp 26)
  (Operand.tmp 25)) none]) (AC.ops [AOper.mk (some 27) (AOp.load false 1 (Operand.tmp 2)) none, AOper.mk (some 28) (AOp.fadr 1 (Operand.tmp 3)) none,
  AOper.mk (some 29) (AOp.load false 1 (Operand.tmp 28)) none, AOper.mk (some 30) (AOp.iadr 1 (Operand.tmp 27) (Operand.tmp 29)) none, AOper.mk (some 31)
  (AOp.load false 1 (Operand.tmp 30)) none, AOper.mk (some 32) (AOp.mov (Operand.tmp 4)) none, AOper.mk (some 33) (AOp.bin false BinOp.add (Operand.tmp
  31) (Operand.tmp 32)) none, AOper.mk (some 34) (AOp.iadr 1 (Operand.tmp 27) (Operand.tmp 29)) none, AOper.mk none (AOp.store 1 (Operand.tmp 34)
  (Operand.tmp 33)) none])))) []
theorem cfn94 : cfn Try.prog 94 3 = some c94 := by kernel_rfl
def c95 : AFn :=
  AFn.mk 26 (AC.seq (AC.ops [AOper.mk (some 1) (AOp.box 24 (Operand.tmp 0)) none, AOper.mk (some 2) (AOp.mov (Operand.const (Value.int IntKind.i64 0)))
  none]) (AC.seq (AC.seq (AC.ops [AOper.mk (some 5) (AOp.fadr 0 (Operand.tmp 1)) none, AOper.mk (some 6) (AOp.load false 1 (Operand.tmp 5)) none,
  AOper.mk (some 7) (AOp.bin false BinOp.lss (Operand.tmp 6) (Operand.const (Value.int IntKind.i64 1))) none, AOper.mk (some 8) (AOp.mov (Operand.tmp 7))
  none, AOper.mk (some 9) (AOp.fadr 0 (Operand.tmp 1)) (some (8, false)), AOper.mk (some 10) (AOp.load false 1 (Operand.tmp 9)) (some (8, false)),
  AOper.mk (some 11) (AOp.bin false BinOp.gtr (Operand.tmp 10) (Operand.const (Value.int IntKind.i64 12))) (some (8, false)), AOper.mk (some 12)
  (AOp.pick (Operand.tmp 8) (Operand.const (Value.bool true)) (Operand.tmp 11)) none]) (AC.cond (Operand.tmp 12) (AC.seq (AC.ops [AOper.mk (some 2)
  (AOp.mov (Operand.const (Value.int IntKind.i64 2))) none]) AC.ret) AC.skip)) (AC.seq (AC.seq (AC.ops [AOper.mk (some 3) (AOp.mov (Operand.const
  (Value.int IntKind.i64 0))) none]) (AC.block 0 (AC.loop (AC.seq (AC.seq (AC.ops [AOper.mk (some 13) (AOp.mov (Operand.tmp 3)) none, AOper.mk (some 14)
  (AOp.fadr 1 (Operand.tmp 1)) none, AOper.mk (some 15) (AOp.load false 1 (Operand.tmp 14)) none, AOper.mk (some 16) (AOp.len (Operand.tmp 15)) none,
  AOper.mk (some 17) (AOp.bin false BinOp.lss (Operand.tmp 13) (Operand.tmp 16)) none]) (AC.cond (Operand.tmp 17) AC.skip (AC.exit 0))) (AC.seq (AC.block
  1 (AC.seq (AC.ops [AOper.mk (some 20) (AOp.load true 2 (Operand.tmp 1)) none, AOper.mk (some 21) (AOp.mov (Operand.tmp 3)) none, AOper.mk (some 22)
  (AOp.call 108 [Operand.tmp 20, Operand.tmp 21]) none, AOper.mk (some 4) (AOp.mov (Operand.tmp 22)) none]) (AC.seq (AC.ops [AOper.mk (some 23) (AOp.mov
  (Operand.tmp 4)) none, AOper.mk (some 24) (AOp.bin false BinOp.neq (Operand.tmp 23) (Operand.const (Value.int IntKind.i64 0))) none]) (AC.cond
  (Operand.tmp 24) (AC.seq (AC.ops [AOper.mk (some 25) (AOp.mov (Operand.tmp 4)) none, AOper.mk (some 2) (AOp.mov (Operand.tmp 25)) none]) AC.ret)
  AC.skip)))) (AC.ops [AOper.mk (some 18) (AOp.mov (Operand.tmp 3)) none, AOper.mk (some 19) (AOp.bin false BinOp.add (Operand.tmp 18) (Operand.const
  (Value.int IntKind.i64 1))) none, AOper.mk (some 3) (AOp.mov (Operand.tmp 19)) none])))))) (AC.seq (AC.ops [AOper.mk (some 2) (AOp.mov (Operand.const
  (Value.int IntKind.i64 0))) none]) AC.ret)))) [ARes.tmp 2]
theorem cfn95 : cfn Try.prog 95 1 = some c95 := by kernel_rfl
def c96 : AFn :=
  AFn.mk 12 (AC.seq (AC.ops [AOper.mk (some 4) (AOp.mov (Operand.const (Value.bool false))) none]) (AC.seq (AC.ops [AOper.mk (some 5) (AOp.mov
  (Operand.tmp 1)) none, AOper.mk (some 6) (AOp.bin false BinOp.geq (Operand.tmp 5) (Operand.const (Value.int IntKind.i64 0))) none, AOper.mk (some 7)
  (AOp.mov (Operand.tmp 6)) none, AOper.mk (some 8) (AOp.mov (Operand.tmp 1)) (some (7, true)), AOper.mk (some 9) (AOp.mov (Operand.tmp 0)) (some (7,
  true)), AOper.mk (some 10) (AOp.bin false BinOp.lss (Operand.tmp 8) (Operand.tmp 9)) (some (7, true)), AOper.mk (some 11) (AOp.pick (Operand.tmp 7)
  (Operand.tmp 10) (Operand.const (Value.bool false))) none, AOper.mk (some 4) (AOp.mov (Operand.tmp 11)) none]) AC.ret)) [ARes.tmp 4]
theorem cfn96 : cfn Try.prog 96 2 = some c96 := by kernel_rfl
def c97 : AFn :=
  AFn.mk 17 (AC.seq (AC.ops [AOper.mk (some 2) (AOp.box 123 (Operand.tmp 0)) none, AOper.mk (some 3) (AOp.box 123 (Operand.tmp 1)) none, AOper.mk (some
  4) (AOp.mov (Operand.const (Value.int IntKind.i64 0))) none]) (AC.seq (AC.segs [([AOper.mk (some 5) (AOp.fadr 0 (Operand.tmp 2)) none, AOper.mk (some
  6) (AOp.load false 1 (Operand.tmp 5)) none, AOper.mk (some 7) (AOp.fadr 0 (Operand.tmp 3)) none, AOper.mk (some 8) (AOp.load false 1 (Operand.tmp 7))
  none, AOper.mk (some 10) (AOp.fadr 1 (Operand.tmp 2)) none, AOper.mk (some 11) (AOp.load false 1 (Operand.tmp 10)) none, AOper.mk (some 12) (AOp.fadr 1
  (Operand.tmp 3)) none, AOper.mk (some 13) (AOp.load false 1 (Operand.tmp 12)) none], some (true, AOper.mk (some 9) (AOp.call 110 [Operand.tmp 6,
  Operand.tmp 8]) none)), ([], some (true, AOper.mk (some 14) (AOp.call 110 [Operand.tmp 11, Operand.tmp 13]) none)), ([], some (true, AOper.mk (some 15)
  (AOp.bsl 3 1 [Operand.tmp 9, Operand.tmp 14]) none)), ([], some (true, AOper.mk (some 16) (AOp.call 109 [Operand.tmp 15]) none)), ([AOper.mk (some 4)
  (AOp.mov (Operand.tmp 16)) none], none)]) AC.ret)) [ARes.tmp 4]
theorem cfn97 : cfn Try.prog 97 2 = some c97 := by kernel_rfl
def c98 : AFn :=
  AFn.mk 30 (AC.seq (AC.ops [AOper.mk (some 3) (AOp.mov (Operand.const (Value.int IntKind.i64 0))) none]) (AC.seq (AC.ops [AOper.mk (some 6) (AOp.fadr 1
  (Operand.tmp 1)) none, AOper.mk (some 7) (AOp.load false 1 (Operand.tmp 6)) none, AOper.mk (some 8) (AOp.len (Operand.tmp 7)) none, AOper.mk (some 9)
  (AOp.mov (Operand.const (Value.int IntKind.i64 0))) none]) (AC.block 0 (AC.loop (AC.seq (AC.ops [AOper.mk (some 10) (AOp.bin false BinOp.lss
  (Operand.tmp 9) (Operand.tmp 8)) none]) (AC.seq (AC.cond (Operand.tmp 10) AC.skip (AC.exit 0)) (AC.seq (AC.block 1 (AC.seq (AC.ops [AOper.mk (some 11)
  (AOp.iadr 3 (Operand.tmp 7) (Operand.tmp 9)) none, AOper.mk (some 12) (AOp.load true 3 (Operand.tmp 11)) none, AOper.mk (some 5) (AOp.zro 70 (PV.agg
  [PV.v (Value.int IntKind.i64 0), PV.v (Value.int IntKind.i64 0), PV.v (Value.int IntKind.i64 0)])) none, AOper.mk none (AOp.store 3 (Operand.tmp 5)
  (Operand.tmp 12)) none]) (AC.seq (AC.ops [AOper.mk (some 13) (AOp.fadr 2 (Operand.tmp 5)) none, AOper.mk (some 14) (AOp.load false 1 (Operand.tmp 13))
  none, AOper.mk (some 15) (AOp.mov (Operand.const (Value.int IntKind.i64 0))) none]) (AC.block 2 (AC.loop (AC.seq (AC.ops [AOper.mk (some 16) (AOp.bin
  false BinOp.lss (Operand.tmp 15) (Operand.tmp 14)) none]) (AC.seq (AC.cond (Operand.tmp 16) AC.skip (AC.exit 2)) (AC.seq (AC.block 3 (AC.seq (AC.seq
  (AC.ops [AOper.mk (some 17) (AOp.mov (Operand.tmp 0)) none, AOper.mk (some 18) (AOp.mov (Operand.tmp 3)) none, AOper.mk (some 19) (AOp.fadr 0
  (Operand.tmp 5)) none, AOper.mk (some 20) (AOp.load false 1 (Operand.tmp 19)) none, AOper.mk (some 21) (AOp.fadr 1 (Operand.tmp 5)) none, AOper.mk
  (some 22) (AOp.load false 1 (Operand.tmp 21)) none, AOper.mk (some 23) (AOp.bld [PV.v (Value.int IntKind.i64 0), PV.v (Value.int IntKind.i64 0)] [(0,
  1), (1, 1)] [(0, Operand.tmp 20), (1, Operand.tmp 22)]) none, AOper.mk (some 24) (AOp.callv (Operand.tmp 17) [Operand.tmp 18, Operand.tmp 23]) none,
  AOper.mk (some 25) (AOp.un UnOp.not (Operand.tmp 24)) none]) (AC.cond (Operand.tmp 25) AC.ret AC.skip)) (AC.ops [AOper.mk (some 26) (AOp.mov
  (Operand.tmp 3)) none, AOper.mk (some 27) (AOp.bin false BinOp.add (Operand.tmp 26) (Operand.const (Value.int IntKind.i64 1))) none, AOper.mk (some 3)
  (AOp.mov (Operand.tmp 27)) none]))) (AC.ops [AOper.mk (some 28) (AOp.bin false BinOp.add (Operand.tmp 15) (Operand.const (Value.int IntKind.i64 1)))
  none, AOper.mk (some 15) (AOp.mov (Operand.tmp 28)) none]))))))))) (AC.ops [AOper.mk (some 29) (AOp.bin false BinOp.add (Operand.tmp 9) (Operand.const
  (Value.int IntKind.i64 1))) none, AOper.mk (some 9) (AOp.mov (Operand.tmp 29)) none])))))))) []
theorem cfn98 : cfn Try.prog 98 2 = some c98 := by kernel_rfl
def c99 : AFn :=
  AFn.mk 48 (AC.seq (AC.ops [AOper.mk (some 2) (AOp.box 24 (Operand.tmp 0)) none, AOper.mk (some 4) (AOp.mov (Operand.const (Value.slice none 0 0)))
  none]) (AC.seq (AC.ops [AOper.mk (some 9) (AOp.fadr 0 (Operand.tmp 2)) none, AOper.mk (some 10) (AOp.load false 1 (Operand.tmp 9)) none, AOper.mk (some
  11) (AOp.mk 4 1 (PV.v (Value.bool false)) (Operand.tmp 10) (Operand.tmp 10)) none, AOper.mk (some 5) (AOp.mov (Operand.tmp 11)) none]) (AC.seq (AC.ops
  [AOper.mk (some 12) (AOp.mov (Operand.tmp 5)) none, AOper.mk (some 13) (AOp.mov (Operand.tmp 1)) none, AOper.mk (some 14) (AOp.iadr 1 (Operand.tmp 12)
  (Operand.tmp 13)) none, AOper.mk none (AOp.store 1 (Operand.tmp 14) (Operand.const (Value.bool true))) none]) (AC.seq (AC.seq (AC.ops [AOper.mk (some
  6) (AOp.mov (Operand.const (Value.int IntKind.i64 0))) none]) (AC.block 0 (AC.loop (AC.seq (AC.seq (AC.ops [AOper.mk (some 15) (AOp.mov (Operand.tmp
  6)) none, AOper.mk (some 16) (AOp.fadr 0 (Operand.tmp 2)) none, AOper.mk (some 17) (AOp.load false 1 (Operand.tmp 16)) none, AOper.mk (some 18)
  (AOp.bin false BinOp.lss (Operand.tmp 15) (Operand.tmp 17)) none]) (AC.cond (Operand.tmp 18) AC.skip (AC.exit 0))) (AC.seq (AC.block 1 (AC.seq (AC.ops
  [AOper.mk (some 7) (AOp.mov (Operand.const (Value.int IntKind.i64 0))) none]) (AC.block 2 (AC.loop (AC.seq (AC.seq (AC.ops [AOper.mk (some 21) (AOp.mov
  (Operand.tmp 7)) none, AOper.mk (some 22) (AOp.fadr 0 (Operand.tmp 2)) none, AOper.mk (some 23) (AOp.load false 1 (Operand.tmp 22)) none, AOper.mk
  (some 24) (AOp.bin false BinOp.lss (Operand.tmp 21) (Operand.tmp 23)) none]) (AC.cond (Operand.tmp 24) AC.skip (AC.exit 2))) (AC.seq (AC.block 3
  (AC.seq (AC.ops [AOper.mk (some 8) (AOp.mov (Operand.const (Value.int IntKind.i64 0))) none]) (AC.block 4 (AC.loop (AC.seq (AC.seq (AC.ops [AOper.mk
  (some 27) (AOp.mov (Operand.tmp 8)) none, AOper.mk (some 28) (AOp.fadr 0 (Operand.tmp 2)) none, AOper.mk (some 29) (AOp.load false 1 (Operand.tmp 28))
  none, AOper.mk (some 30) (AOp.bin false BinOp.lss (Operand.tmp 27) (Operand.tmp 29)) none]) (AC.cond (Operand.tmp 30) AC.skip (AC.exit 4))) (AC.seq
  (AC.block 5 (AC.seq (AC.ops [AOper.mk (some 33) (AOp.mov (Operand.tmp 5)) none, AOper.mk (some 34) (AOp.mov (Operand.tmp 7)) none, AOper.mk (some 35)
  (AOp.iadr 1 (Operand.tmp 33) (Operand.tmp 34)) none, AOper.mk (some 36) (AOp.load false 1 (Operand.tmp 35)) none, AOper.mk (some 37) (AOp.mov
  (Operand.tmp 36)) none, AOper.mk (some 38) (AOp.load true 2 (Operand.tmp 2)) (some (37, true)), AOper.mk (some 39) (AOp.mov (Operand.tmp 7)) (some (37,
  true)), AOper.mk (some 40) (AOp.mov (Operand.tmp 8)) (some (37, true)), AOper.mk (some 41) (AOp.call 54 [Operand.tmp 38, Operand.tmp 39, Operand.tmp
  40]) (some (37, true)), AOper.mk (some 42) (AOp.bin false BinOp.gtr (Operand.tmp 41) (Operand.const (Value.int IntKind.i64 0))) (some (37, true)),
  AOper.mk (some 43) (AOp.pick (Operand.tmp 37) (Operand.tmp 42) (Operand.const (Value.bool false))) none]) (AC.cond (Operand.tmp 43) (AC.ops [AOper.mk
  (some 44) (AOp.mov (Operand.tmp 5)) none, AOper.mk (some 45) (AOp.mov (Operand.tmp 8)) none, AOper.mk (some 46) (AOp.iadr 1 (Operand.tmp 44)
  (Operand.tmp 45)) none, AOper.mk none (AOp.store 1 (Operand.tmp 46) (Operand.const (Value.bool true))) none]) AC.skip))) (AC.ops [AOper.mk (some 31)
  (AOp.mov (Operand.tmp 8)) none, AOper.mk (some 32) (AOp.bin false BinOp.add (Operand.tmp 31) (Operand.const (Value.int IntKind.i64 1))) none, AOper.mk
  (some 8) (AOp.mov (Operand.tmp 32)) none]))))))) (AC.ops [AOper.mk (some 25) (AOp.mov (Operand.tmp 7)) none, AOper.mk (some 26) (AOp.bin false
  BinOp.add (Operand.tmp 25) (Operand.const (Value.int IntKind.i64 1))) none, AOper.mk (some 7) (AOp.mov (Operand.tmp 26)) none]))))))) (AC.ops [AOper.mk
  (some 19) (AOp.mov (Operand.tmp 6)) none, AOper.mk (some 20) (AOp.bin false BinOp.add (Operand.tmp 19) (Operand.const (Value.int IntKind.i64 1))) none,
  AOper.mk (some 6) (AOp.mov (Operand.tmp 20)) none])))))) (AC.seq (AC.ops [AOper.mk (some 47) (AOp.mov (Operand.tmp 5)) none, AOper.mk (some 4) (AOp.mov
  (Operand.tmp 47)) none]) AC.ret))))) [ARes.tmp 4]
theorem cfn99 : cfn Try.prog 99 2 = some c99 := by kernel_rfl
def c100 : AFn :=
  AFn.mk 21 (AC.seq (AC.ops [AOper.mk (some 1) (AOp.box 24 (Operand.tmp 0)) none, AOper.mk (some 2) (AOp.mov (Operand.const (Value.int IntKind.i64 0)))
  none]) (AC.seq (AC.seq (AC.ops [AOper.mk (some 5) (AOp.load true 2 (Operand.tmp 1)) none, AOper.mk (some 6) (AOp.call 111 [Operand.tmp 5]) none,
  AOper.mk (some 3) (AOp.mov (Operand.tmp 6)) none]) (AC.seq (AC.ops [AOper.mk (some 7) (AOp.mov (Operand.tmp 3)) none, AOper.mk (some 8) (AOp.bin false
  BinOp.neq (Operand.tmp 7) (Operand.const (Value.int IntKind.i64 0))) none]) (AC.cond (Operand.tmp 8) (AC.seq (AC.ops [AOper.mk (some 9) (AOp.mov
  (Operand.tmp 3)) none, AOper.mk (some 2) (AOp.mov (Operand.tmp 9)) none]) AC.ret) AC.skip))) (AC.seq (AC.seq (AC.ops [AOper.mk (some 4) (AOp.mov
  (Operand.const (Value.int IntKind.i64 0))) none]) (AC.block 0 (AC.loop (AC.seq (AC.seq (AC.ops [AOper.mk (some 10) (AOp.mov (Operand.tmp 4)) none,
  AOper.mk (some 11) (AOp.fadr 0 (Operand.tmp 1)) none, AOper.mk (some 12) (AOp.load false 1 (Operand.tmp 11)) none, AOper.mk (some 13) (AOp.bin false
  BinOp.lss (Operand.tmp 10) (Operand.tmp 12)) none]) (AC.cond (Operand.tmp 13) AC.skip (AC.exit 0))) (AC.seq (AC.block 1 (AC.seq (AC.ops [AOper.mk (some
  16) (AOp.load true 2 (Operand.tmp 1)) none, AOper.mk (some 17) (AOp.mov (Operand.tmp 4)) none, AOper.mk (some 18) (AOp.mov (Operand.tmp 4)) none,
  AOper.mk (some 19) (AOp.call 54 [Operand.tmp 16, Operand.tmp 17, Operand.tmp 18]) none, AOper.mk (some 20) (AOp.bin false BinOp.gtr (Operand.tmp 19)
  (Operand.const (Value.int IntKind.i64 0))) none]) (AC.cond (Operand.tmp 20) (AC.seq (AC.ops [AOper.mk (some 2) (AOp.mov (Operand.const (Value.int
  IntKind.i64 3))) none]) AC.ret) AC.skip))) (AC.ops [AOper.mk (some 14) (AOp.mov (Operand.tmp 4)) none, AOper.mk (some 15) (AOp.bin false BinOp.add
  (Operand.tmp 14) (Operand.const (Value.int IntKind.i64 1))) none, AOper.mk (some 4) (AOp.mov (Operand.tmp 15)) none])))))) (AC.seq (AC.ops [AOper.mk
  (some 2) (AOp.mov (Operand.const (Value.int IntKind.i64 0))) none]) AC.ret)))) [ARes.tmp 2]
theorem cfn100 : cfn Try.prog 100 1 = some c100 := by kernel_rfl
def c101 : AFn :=
  AFn.mk 23 (AC.seq (AC.ops [AOper.mk (some 3) (AOp.box 24 (Operand.tmp 0)) none, AOper.mk (some 6) (AOp.mov (Operand.const (Value.bool false))) none])
  (AC.seq (AC.ops [AOper.mk (some 8) (AOp.load true 2 (Operand.tmp 3)) none, AOper.mk (some 9) (AOp.call 81 [Operand.tmp 8]) none, AOper.mk (some 10)
  (AOp.mov (Operand.tmp 1)) none, AOper.mk (some 11) (AOp.iadr 2 (Operand.tmp 9) (Operand.tmp 10)) none, AOper.mk (some 12) (AOp.load true 2 (Operand.tmp
  11)) none, AOper.mk (some 7) (AOp.zro 114 (PV.agg [PV.v (Value.int IntKind.i64 0), PV.v (Value.int IntKind.i64 0)])) none, AOper.mk none (AOp.store 2
  (Operand.tmp 7) (Operand.tmp 12)) none]) (AC.seq (AC.ops [AOper.mk (some 13) (AOp.iadrA 2 1 (Operand.tmp 7) (Operand.const (Value.int IntKind.i64 0)))
  none, AOper.mk (some 14) (AOp.load false 1 (Operand.tmp 13)) none, AOper.mk (some 15) (AOp.mov (Operand.tmp 2)) none, AOper.mk (some 16) (AOp.bin false
  BinOp.eql (Operand.tmp 14) (Operand.tmp 15)) none, AOper.mk (some 17) (AOp.mov (Operand.tmp 16)) none, AOper.mk (some 18) (AOp.iadrA 2 1 (Operand.tmp
  7) (Operand.const (Value.int IntKind.i64 1))) (some (17, false)), AOper.mk (some 19) (AOp.load false 1 (Operand.tmp 18)) (some (17, false)), AOper.mk
  (some 20) (AOp.mov (Operand.tmp 2)) (some (17, false)), AOper.mk (some 21) (AOp.bin false BinOp.eql (Operand.tmp 19) (Operand.tmp 20)) (some (17,
  false)), AOper.mk (some 22) (AOp.pick (Operand.tmp 17) (Operand.const (Value.bool true)) (Operand.tmp 21)) none, AOper.mk (some 6) (AOp.mov
  (Operand.tmp 22)) none]) AC.ret))) [ARes.tmp 6]
theorem cfn101 : cfn Try.prog 101 3 = some c101 := by kernel_rfl
def c102 : AFn :=
  AFn.mk 9 (AC.seq (AC.ops [AOper.mk (some 4) (AOp.mov (Operand.const (Value.bool false))) none]) (AC.seq (AC.ops [AOper.mk (some 5) (AOp.mov
  (Operand.tmp 0)) none, AOper.mk (some 6) (AOp.mov (Operand.tmp 1)) none, AOper.mk (some 7) (AOp.call 112 [Operand.tmp 5, Operand.tmp 6]) none, AOper.mk
  (some 8) (AOp.bin false BinOp.geq (Operand.tmp 7) (Operand.const (Value.int IntKind.i64 0))) none, AOper.mk (some 4) (AOp.mov (Operand.tmp 8)) none])
  AC.ret)) [ARes.tmp 4]
theorem cfn102 : cfn Try.prog 102 2 = some c102 := by kernel_rfl
def c103 : AFn :=
  AFn.mk 15 (AC.seq (AC.ops [AOper.mk (some 1) (AOp.box 24 (Operand.tmp 0)) none, AOper.mk (some 2) (AOp.mov (Operand.const (Value.bool false))) none,
  AOper.mk (some 3) (AOp.mov (Operand.const (Value.int IntKind.i64 0))) none]) (AC.seq (AC.ops [AOper.mk (some 7) (AOp.load true 2 (Operand.tmp 1)) none,
  AOper.mk (some 8) (AOp.call 113 [Operand.tmp 7]) none, AOper.mk (some 6) (AOp.mov (Operand.tmp 8)) none, AOper.mk (some 9) (AOp.ext (Operand.tmp 6) 0)
  none, AOper.mk (some 10) (AOp.ext (Operand.tmp 6) 1) none, AOper.mk (some 4) (AOp.mov (Operand.tmp 9)) none, AOper.mk (some 5) (AOp.mov (Operand.tmp
  10)) none]) (AC.seq (AC.ops [AOper.mk (some 11) (AOp.mov (Operand.tmp 4)) none, AOper.mk (some 12) (AOp.len (Operand.tmp 11)) none, AOper.mk (some 13)
  (AOp.bin false BinOp.eql (Operand.tmp 12) (Operand.const (Value.int IntKind.i64 1))) none, AOper.mk (some 14) (AOp.mov (Operand.tmp 5)) none, AOper.mk
  (some 2) (AOp.mov (Operand.tmp 13)) none, AOper.mk (some 3) (AOp.mov (Operand.tmp 14)) none]) AC.ret))) [ARes.tmp 2, ARes.tmp 3]
theorem cfn103 : cfn Try.prog 103 1 = some c103 := by kernel_rfl
noncomputable def rc104_0a : Go.Code := rngA Try.prog 104 0
def ra104_0a : AC :=
  AC.ops [AOper.mk (some 7) (AOp.zro 123 (PV.agg [PV.v (Value.int IntKind.i64 0), PV.v (Value.int IntKind.i64 0)])) none, AOper.mk none (AOp.store 2
  (Operand.tmp 7) (Operand.tmp 16)) none]
theorem rcc104_0a : ccode Try.prog 26 rc104_0a = some ra104_0a := by kernel_rfl
noncomputable def rc104_0c : Go.Code := rngC Try.prog 104 0
def ra104_0c : AC :=
  AC.block 1 (AC.ops [AOper.mk (some 17) (AOp.load false 1 (Operand.tmp 5)) none, AOper.mk (some 18) (AOp.fadr 0 (Operand.tmp 7)) none, AOper.mk (some
  19) (AOp.load false 1 (Operand.tmp 18)) none, AOper.mk (some 20) (AOp.fadr 1 (Operand.tmp 7)) none, AOper.mk (some 21) (AOp.load false 1 (Operand.tmp
  20)) none, AOper.mk (some 22) (AOp.bld [PV.v (Value.int IntKind.i64 0), PV.v (Value.int IntKind.i64 0)] [(0, 1), (1, 1)] [(0, Operand.tmp 19), (1,
  Operand.tmp 21)]) none, AOper.mk (some 23) (AOp.bsl 114 2 [Operand.tmp 22]) none, AOper.mk (some 24) (AOp.app 114 2 (Operand.tmp 17) (Operand.tmp 23))
  none, AOper.mk none (AOp.store 1 (Operand.tmp 5) (Operand.tmp 24)) none])
theorem rcc104_0c : ccode Try.prog 26 rc104_0c = some ra104_0c := by kernel_rfl
noncomputable def c104 : AFn :=
  AFn.mk 26 (AC.seq (AC.ops [AOper.mk (some 1) (AOp.box 24 (Operand.tmp 0)) none, AOper.mk (some 2) (AOp.mov (Operand.const (Value.slice none 0 0)))
  none, AOper.mk (some 3) (AOp.mov (Operand.const (Value.int IntKind.i64 0))) none]) (AC.seq (AC.seq (AC.ops [AOper.mk (some 8) (AOp.load true 2
  (Operand.tmp 1)) none, AOper.mk (some 9) (AOp.call 73 [Operand.tmp 8]) none, AOper.mk (some 4) (AOp.mov (Operand.tmp 9)) none]) (AC.seq (AC.ops
  [AOper.mk (some 10) (AOp.mov (Operand.tmp 4)) none, AOper.mk (some 11) (AOp.bin false BinOp.neq (Operand.tmp 10) (Operand.const (Value.int IntKind.i64
  0))) none]) (AC.cond (Operand.tmp 11) (AC.seq (AC.ops [AOper.mk (some 12) (AOp.mov (Operand.tmp 4)) none, AOper.mk (some 2) (AOp.mov (Operand.const
  (Value.slice none 0 0))) none, AOper.mk (some 3) (AOp.mov (Operand.tmp 12)) none]) AC.ret) AC.skip))) (AC.seq (AC.ops [AOper.mk (some 5) (AOp.zro 87
  (PV.v (Value.slice none 0 0))) none]) (AC.seq (AC.seq (AC.ops [AOper.mk (some 13) (AOp.load true 2 (Operand.tmp 1)) none, AOper.mk (some 14) (AOp.call
  74 [Operand.tmp 13]) none]) (AC.block 0 (AC.rangeF 26 (Operand.tmp 14) [15, 16] rc104_0a rc104_0c))) (AC.seq (AC.ops [AOper.mk (some 25) (AOp.load false 1
  (Operand.tmp 5)) none, AOper.mk (some 2) (AOp.mov (Operand.tmp 25)) none, AOper.mk (some 3) (AOp.mov (Operand.const (Value.int IntKind.i64 0))) none])
  AC.ret))))) [ARes.tmp 2, ARes.tmp 3]
theorem cfn104 : cfn Try.prog 104 1 = some c104 := by kernel_rfl
def c105 : AFn :=
  AFn.mk 9 (AC.seq (AC.ops [AOper.mk (some 4) (AOp.mov (Operand.const (Value.bool false))) none]) (AC.seq (AC.ops [AOper.mk (some 5) (AOp.mov
  (Operand.tmp 0)) none, AOper.mk (some 6) (AOp.mov (Operand.tmp 1)) none, AOper.mk (some 7) (AOp.call 114 [Operand.tmp 5, Operand.tmp 6]) none, AOper.mk
  (some 8) (AOp.bin false BinOp.geq (Operand.tmp 7) (Operand.const (Value.int IntKind.i64 0))) none, AOper.mk (some 4) (AOp.mov (Operand.tmp 8)) none])
  AC.ret)) [ARes.tmp 4]
theorem cfn105 : cfn Try.prog 105 2 = some c105 := by kernel_rfl
def c106 : AFn :=
  AFn.mk 8 (AC.seq (AC.ops [AOper.mk (some 1) (AOp.box 114 (Operand.tmp 0)) none, AOper.mk (some 2) (AOp.mov (Operand.const (Value.bool false))) none])
  (AC.seq (AC.ops [AOper.mk (some 3) (AOp.iadrA 2 1 (Operand.tmp 1) (Operand.const (Value.int IntKind.i64 0))) none, AOper.mk (some 4) (AOp.load false 1
  (Operand.tmp 3)) none, AOper.mk (some 5) (AOp.iadrA 2 1 (Operand.tmp 1) (Operand.const (Value.int IntKind.i64 1))) none, AOper.mk (some 6) (AOp.load
  false 1 (Operand.tmp 5)) none, AOper.mk (some 7) (AOp.bin false BinOp.eql (Operand.tmp 4) (Operand.tmp 6)) none, AOper.mk (some 2) (AOp.mov
  (Operand.tmp 7)) none]) AC.ret)) [ARes.tmp 2]
theorem cfn106 : cfn Try.prog 106 1 = some c106 := by kernel_rfl
def c107 : AFn :=
  AFn.mk 19 (AC.seq (AC.ops [AOper.mk (some 4) (AOp.mov (Operand.const (Value.int IntKind.i64 0))) none]) (AC.seq (AC.seq (AC.ops [AOper.mk (some 6)
  (AOp.mov (Operand.tmp 0)) none, AOper.mk (some 7) (AOp.len (Operand.tmp 6)) none, AOper.mk (some 8) (AOp.mov (Operand.const (Value.int IntKind.i64 0)))
  none]) (AC.block 0 (AC.loop (AC.seq (AC.ops [AOper.mk (some 9) (AOp.bin false BinOp.lss (Operand.tmp 8) (Operand.tmp 7)) none]) (AC.seq (AC.cond
  (Operand.tmp 9) AC.skip (AC.exit 0)) (AC.seq (AC.block 1 (AC.seq (AC.ops [AOper.mk (some 10) (AOp.mov (Operand.tmp 8)) none, AOper.mk (some 5) (AOp.mov
  (Operand.tmp 10)) none]) (AC.seq (AC.ops [AOper.mk (some 11) (AOp.mov (Operand.tmp 1)) none, AOper.mk (some 12) (AOp.mov (Operand.tmp 0)) none,
  AOper.mk (some 13) (AOp.mov (Operand.tmp 5)) none, AOper.mk (some 14) (AOp.iadr 1 (Operand.tmp 12) (Operand.tmp 13)) none, AOper.mk (some 15) (AOp.load
  false 1 (Operand.tmp 14)) none, AOper.mk (some 16) (AOp.callv (Operand.tmp 11) [Operand.tmp 15]) none]) (AC.cond (Operand.tmp 16) (AC.seq (AC.ops
  [AOper.mk (some 17) (AOp.mov (Operand.tmp 5)) none, AOper.mk (some 4) (AOp.mov (Operand.tmp 17)) none]) AC.ret) AC.skip)))) (AC.ops [AOper.mk (some 18)
  (AOp.bin false BinOp.add (Operand.tmp 8) (Operand.const (Value.int IntKind.i64 1))) none, AOper.mk (some 8) (AOp.mov (Operand.tmp 18)) none])))))))
  (AC.seq (AC.ops [AOper.mk (some 4) (AOp.mov (Operand.const (Value.int IntKind.i64 (-1)))) none]) AC.ret))) [ARes.tmp 4]
theorem cfn107 : cfn Try.prog 107 2 = some c107 := by kernel_rfl
def c108 : AFn :=
  AFn.mk 66 (AC.seq (AC.ops [AOper.mk (some 2) (AOp.box 24 (Operand.tmp 0)) none, AOper.mk (some 4) (AOp.mov (Operand.const (Value.int IntKind.i64 0)))
  none]) (AC.seq (AC.ops [AOper.mk (some 7) (AOp.fadr 1 (Operand.tmp 2)) none, AOper.mk (some 8) (AOp.load false 1 (Operand.tmp 7)) none, AOper.mk (some
  9) (AOp.mov (Operand.tmp 1)) none, AOper.mk (some 10) (AOp.iadr 3 (Operand.tmp 8) (Operand.tmp 9)) none, AOper.mk (some 11) (AOp.load true 3
  (Operand.tmp 10)) none, AOper.mk (some 5) (AOp.zro 70 (PV.agg [PV.v (Value.int IntKind.i64 0), PV.v (Value.int IntKind.i64 0), PV.v (Value.int
  IntKind.i64 0)])) none, AOper.mk none (AOp.store 3 (Operand.tmp 5) (Operand.tmp 11)) none]) (AC.seq (AC.seq (AC.ops [AOper.mk (some 12) (AOp.load true
  2 (Operand.tmp 2)) none, AOper.mk (some 13) (AOp.fadr 0 (Operand.tmp 5)) none, AOper.mk (some 14) (AOp.load false 1 (Operand.tmp 13)) none, AOper.mk
  (some 15) (AOp.call 82 [Operand.tmp 12, Operand.tmp 14]) none, AOper.mk (some 16) (AOp.un UnOp.not (Operand.tmp 15)) none, AOper.mk (some 17) (AOp.mov
  (Operand.tmp 16)) none, AOper.mk (some 18) (AOp.load true 2 (Operand.tmp 2)) (some (17, false)), AOper.mk (some 19) (AOp.fadr 1 (Operand.tmp 5)) (some
  (17, false)), AOper.mk (some 20) (AOp.load false 1 (Operand.tmp 19)) (some (17, false)), AOper.mk (some 21) (AOp.call 82 [Operand.tmp 18, Operand.tmp
  20]) (some (17, false)), AOper.mk (some 22) (AOp.un UnOp.not (Operand.tmp 21)) (some (17, false)), AOper.mk (some 23) (AOp.pick (Operand.tmp 17)
  (Operand.const (Value.bool true)) (Operand.tmp 22)) none, AOper.mk (some 24) (AOp.mov (Operand.tmp 23)) none, AOper.mk (some 25) (AOp.fadr 2
  (Operand.tmp 5)) (some (24, false)), AOper.mk (some 26) (AOp.load false 1 (Operand.tmp 25)) (some (24, false)), AOper.mk (some 27) (AOp.bin false
  BinOp.lss (Operand.tmp 26) (Operand.const (Value.int IntKind.i64 1))) (some (24, false)), AOper.mk (some 28) (AOp.pick (Operand.tmp 24) (Operand.const
  (Value.bool true)) (Operand.tmp 27)) none, AOper.mk (some 29) (AOp.mov (Operand.tmp 28)) none, AOper.mk (some 30) (AOp.fadr 2 (Operand.tmp 5)) (some
  (29, false)), AOper.mk (some 31) (AOp.load false 1 (Operand.tmp 30)) (some (29, false)), AOper.mk (some 32) (AOp.bin false BinOp.gtr (Operand.tmp 31)
  (Operand.const (Value.int IntKind.i64 50))) (some (29, false)), AOper.mk (some 33) (AOp.pick (Operand.tmp 29) (Operand.const (Value.bool true))
  (Operand.tmp 32)) none]) (AC.cond (Operand.tmp 33) (AC.seq (AC.ops [AOper.mk (some 4) (AOp.mov (Operand.const (Value.int IntKind.i64 2))) none])
  AC.ret) AC.skip)) (AC.seq (AC.seq (AC.ops [AOper.mk (some 34) (AOp.fadr 0 (Operand.tmp 5)) none, AOper.mk (some 35) (AOp.load false 1 (Operand.tmp 34))
  none, AOper.mk (some 36) (AOp.fadr 1 (Operand.tmp 5)) none, AOper.mk (some 37) (AOp.load false 1 (Operand.tmp 36)) none, AOper.mk (some 38) (AOp.bin
  false BinOp.gtr (Operand.tmp 35) (Operand.tmp 37)) none]) (AC.cond (Operand.tmp 38) (AC.seq (AC.ops [AOper.mk (some 4) (AOp.mov (Operand.const
  (Value.int IntKind.i64 9))) none]) AC.ret) AC.skip)) (AC.seq (AC.seq (AC.ops [AOper.mk (some 39) (AOp.mov (Operand.tmp 1)) none, AOper.mk (some 40)
  (AOp.bin false BinOp.gtr (Operand.tmp 39) (Operand.const (Value.int IntKind.i64 0))) none]) (AC.cond (Operand.tmp 40) (AC.seq (AC.ops [AOper.mk (some
  41) (AOp.fadr 1 (Operand.tmp 2)) none, AOper.mk (some 42) (AOp.load false 1 (Operand.tmp 41)) none, AOper.mk (some 43) (AOp.mov (Operand.tmp 1)) none,
  AOper.mk (some 44) (AOp.bin false BinOp.sub (Operand.tmp 43) (Operand.const (Value.int IntKind.i64 1))) none, AOper.mk (some 45) (AOp.iadr 3
  (Operand.tmp 42) (Operand.tmp 44)) none, AOper.mk (some 46) (AOp.load true 3 (Operand.tmp 45)) none, AOper.mk (some 6) (AOp.zro 70 (PV.agg [PV.v
  (Value.int IntKind.i64 0), PV.v (Value.int IntKind.i64 0), PV.v (Value.int IntKind.i64 0)])) none, AOper.mk none (AOp.store 3 (Operand.tmp 6)
  (Operand.tmp 46)) none]) (AC.seq (AC.ops [AOper.mk (some 47) (AOp.fadr 0 (Operand.tmp 5)) none, AOper.mk (some 48) (AOp.load false 1 (Operand.tmp 47))
  none, AOper.mk (some 49) (AOp.fadr 0 (Operand.tmp 6)) none, AOper.mk (some 50) (AOp.load false 1 (Operand.tmp 49)) none, AOper.mk (some 51) (AOp.bin
  false BinOp.lss (Operand.tmp 48) (Operand.tmp 50)) none, AOper.mk (some 52) (AOp.mov (Operand.tmp 51)) none, AOper.mk (some 53) (AOp.fadr 0
  (Operand.tmp 5)) (some (52, false)), AOper.mk (some 54) (AOp.load false 1 (Operand.tmp 53)) (some (52, false)), AOper.mk (some 55) (AOp.fadr 0
  (Operand.tmp 6)) (some (52, false)), AOper.mk (some 56) (AOp.load false 1 (Operand.tmp 55)) (some (52, false)), AOper.mk (some 57) (AOp.bin false
  BinOp.eql (Operand.tmp 54) (Operand.tmp 56)) (some (52, false)), AOper.mk (some 58) (AOp.mov (Operand.tmp 57)) (some (52, false)), AOper.mk (some 59)
  (AOp.fadr 1 (Operand.tmp 5)) (some (58, true)), AOper.mk (some 60) (AOp.load false 1 (Operand.tmp 59)) (some (58, true)), AOper.mk (some 61) (AOp.fadr
  1 (Operand.tmp 6)) (some (58, true)), AOper.mk (some 62) (AOp.load false 1 (Operand.tmp 61)) (some (58, true)), AOper.mk (some 63) (AOp.bin false
  BinOp.leq (Operand.tmp 60) (Operand.tmp 62)) (some (58, true)), AOper.mk (some 64) (AOp.pick (Operand.tmp 58) (Operand.tmp 63) (Operand.const
  (Value.bool false))) (some (52, false)), AOper.mk (some 65) (AOp.pick (Operand.tmp 52) (Operand.const (Value.bool true)) (Operand.tmp 64)) none])
  (AC.cond (Operand.tmp 65) (AC.seq (AC.ops [AOper.mk (some 4) (AOp.mov (Operand.const (Value.int IntKind.i64 9))) none]) AC.ret) AC.skip))) AC.skip))
  (AC.seq (AC.ops [AOper.mk (some 4) (AOp.mov (Operand.const (Value.int IntKind.i64 0))) none]) AC.ret)))))) [ARes.tmp 4]
theorem cfn108 : cfn Try.prog 108 2 = some c108 := by kernel_rfl
def c109 : AFn :=
  AFn.mk 18 (AC.seq (AC.ops [AOper.mk (some 2) (AOp.mov (Operand.const (Value.int IntKind.i64 0))) none]) (AC.seq (AC.ops [AOper.mk (some 3) (AOp.mov
  (Operand.const (Value.int IntKind.i64 0))) none]) (AC.seq (AC.seq (AC.ops [AOper.mk (some 6) (AOp.mov (Operand.tmp 0)) none, AOper.mk (some 7) (AOp.len
  (Operand.tmp 6)) none, AOper.mk (some 8) (AOp.mov (Operand.const (Value.int IntKind.i64 0))) none]) (AC.block 0 (AC.loop (AC.seq (AC.ops [AOper.mk
  (some 9) (AOp.bin false BinOp.lss (Operand.tmp 8) (Operand.tmp 7)) none]) (AC.seq (AC.cond (Operand.tmp 9) AC.skip (AC.exit 0)) (AC.seq (AC.block 1
  (AC.seq (AC.ops [AOper.mk (some 10) (AOp.iadr 1 (Operand.tmp 6) (Operand.tmp 8)) none, AOper.mk (some 11) (AOp.load false 1 (Operand.tmp 10)) none,
  AOper.mk (some 5) (AOp.mov (Operand.tmp 11)) none]) (AC.seq (AC.ops [AOper.mk (some 12) (AOp.mov (Operand.tmp 5)) none, AOper.mk (some 13) (AOp.mov
  (Operand.tmp 3)) none, AOper.mk (some 14) (AOp.bin false BinOp.neq (Operand.tmp 12) (Operand.tmp 13)) none]) (AC.cond (Operand.tmp 14) (AC.seq (AC.ops
  [AOper.mk (some 15) (AOp.mov (Operand.tmp 5)) none, AOper.mk (some 2) (AOp.mov (Operand.tmp 15)) none]) AC.ret) AC.skip)))) (AC.ops [AOper.mk (some 16)
  (AOp.bin false BinOp.add (Operand.tmp 8) (Operand.const (Value.int IntKind.i64 1))) none, AOper.mk (some 8) (AOp.mov (Operand.tmp 16)) none])))))))
  (AC.seq (AC.ops [AOper.mk (some 17) (AOp.mov (Operand.tmp 3)) none, AOper.mk (some 2) (AOp.mov (Operand.tmp 17)) none]) AC.ret)))) [ARes.tmp 2]
theorem cfn109 : cfn Try.prog 109 1 = some c109 := by kernel_rfl
def c110 : AFn :=
  AFn.mk 20 (AC.seq (AC.ops [AOper.mk (some 4) (AOp.mov (Operand.const (Value.int IntKind.i64 0))) none]) (AC.seq (AC.ops [AOper.mk (some 7) (AOp.mov
  (Operand.tmp 0)) none, AOper.mk (some 8) (AOp.call 115 [Operand.tmp 7]) none, AOper.mk (some 5) (AOp.mov (Operand.tmp 8)) none]) (AC.seq (AC.ops
  [AOper.mk (some 9) (AOp.mov (Operand.tmp 1)) none, AOper.mk (some 10) (AOp.call 115 [Operand.tmp 9]) none, AOper.mk (some 6) (AOp.mov (Operand.tmp 10))
  none]) (AC.seq (AC.seq (AC.ops [AOper.mk (some 11) (AOp.mov (Operand.tmp 5)) none]) (AC.cond (Operand.tmp 11) (AC.seq (AC.seq (AC.ops [AOper.mk (some
  12) (AOp.mov (Operand.tmp 6)) none]) (AC.cond (Operand.tmp 12) (AC.seq (AC.ops [AOper.mk (some 4) (AOp.mov (Operand.const (Value.int IntKind.i64 0)))
  none]) AC.ret) AC.skip)) (AC.seq (AC.ops [AOper.mk (some 4) (AOp.mov (Operand.const (Value.int IntKind.i64 (-1)))) none]) AC.ret)) AC.skip)) (AC.seq
  (AC.seq (AC.ops [AOper.mk (some 13) (AOp.mov (Operand.tmp 6)) none]) (AC.cond (Operand.tmp 13) (AC.seq (AC.ops [AOper.mk (some 4) (AOp.mov
  (Operand.const (Value.int IntKind.i64 1))) none]) AC.ret) AC.skip)) (AC.seq (AC.seq (AC.ops [AOper.mk (some 14) (AOp.mov (Operand.tmp 0)) none,
  AOper.mk (some 15) (AOp.mov (Operand.tmp 1)) none, AOper.mk (some 16) (AOp.bin false BinOp.lss (Operand.tmp 14) (Operand.tmp 15)) none]) (AC.cond
  (Operand.tmp 16) (AC.seq (AC.ops [AOper.mk (some 4) (AOp.mov (Operand.const (Value.int IntKind.i64 (-1)))) none]) AC.ret) AC.skip)) (AC.seq (AC.seq
  (AC.ops [AOper.mk (some 17) (AOp.mov (Operand.tmp 0)) none, AOper.mk (some 18) (AOp.mov (Operand.tmp 1)) none, AOper.mk (some 19) (AOp.bin false
  BinOp.gtr (Operand.tmp 17) (Operand.tmp 18)) none]) (AC.cond (Operand.tmp 19) (AC.seq (AC.ops [AOper.mk (some 4) (AOp.mov (Operand.const (Value.int
  IntKind.i64 1))) none]) AC.ret) AC.skip)) (AC.seq (AC.ops [AOper.mk (some 4) (AOp.mov (Operand.const (Value.int IntKind.i64 0))) none]) AC.ret))))))))
  [ARes.tmp 4]
theorem cfn110 : cfn Try.prog 110 2 = some c110 := by kernel_rfl
def c111 : AFn :=
  AFn.mk 12 (AC.seq (AC.ops [AOper.mk (some 1) (AOp.box 24 (Operand.tmp 0)) none, AOper.mk (some 2) (AOp.mov (Operand.const (Value.int IntKind.i64 0)))
  none]) (AC.seq (AC.seq (AC.ops [AOper.mk (some 4) (AOp.load true 2 (Operand.tmp 1)) none, AOper.mk (some 5) (AOp.call 95 [Operand.tmp 4]) none,
  AOper.mk (some 3) (AOp.mov (Operand.tmp 5)) none]) (AC.seq (AC.ops [AOper.mk (some 6) (AOp.mov (Operand.tmp 3)) none, AOper.mk (some 7) (AOp.bin false
  BinOp.neq (Operand.tmp 6) (Operand.const (Value.int IntKind.i64 0))) none]) (AC.cond (Operand.tmp 7) (AC.seq (AC.ops [AOper.mk (some 8) (AOp.mov
  (Operand.tmp 3)) none, AOper.mk (some 2) (AOp.mov (Operand.tmp 8)) none]) AC.ret) AC.skip))) (AC.seq (AC.seq (AC.ops [AOper.mk (some 9) (AOp.load true
  2 (Operand.tmp 1)) none, AOper.mk (some 10) (AOp.call 116 [Operand.tmp 9]) none, AOper.mk (some 11) (AOp.un UnOp.not (Operand.tmp 10)) none]) (AC.cond
  (Operand.tmp 11) (AC.seq (AC.ops [AOper.mk (some 2) (AOp.mov (Operand.const (Value.int IntKind.i64 13))) none]) AC.ret) AC.skip)) (AC.seq (AC.ops
  [AOper.mk (some 2) (AOp.mov (Operand.const (Value.int IntKind.i64 0))) none]) AC.ret)))) [ARes.tmp 2]
theorem cfn111 : cfn Try.prog 111 1 = some c111 := by kernel_rfl
def c112 : AFn :=
  AFn.mk 19 (AC.seq (AC.ops [AOper.mk (some 4) (AOp.mov (Operand.const (Value.int IntKind.i64 0))) none]) (AC.seq (AC.seq (AC.ops [AOper.mk (some 6)
  (AOp.mov (Operand.tmp 0)) none, AOper.mk (some 7) (AOp.len (Operand.tmp 6)) none, AOper.mk (some 8) (AOp.mov (Operand.const (Value.int IntKind.i64 0)))
  none]) (AC.block 0 (AC.loop (AC.seq (AC.ops [AOper.mk (some 9) (AOp.bin false BinOp.lss (Operand.tmp 8) (Operand.tmp 7)) none]) (AC.seq (AC.cond
  (Operand.tmp 9) AC.skip (AC.exit 0)) (AC.seq (AC.block 1 (AC.seq (AC.ops [AOper.mk (some 10) (AOp.mov (Operand.tmp 8)) none, AOper.mk (some 5) (AOp.mov
  (Operand.tmp 10)) none]) (AC.seq (AC.ops [AOper.mk (some 11) (AOp.mov (Operand.tmp 1)) none, AOper.mk (some 12) (AOp.mov (Operand.tmp 0)) none,
  AOper.mk (some 13) (AOp.mov (Operand.tmp 5)) none, AOper.mk (some 14) (AOp.iadr 1 (Operand.tmp 12) (Operand.tmp 13)) none, AOper.mk (some 15) (AOp.load
  false 1 (Operand.tmp 14)) none, AOper.mk (some 16) (AOp.bin false BinOp.eql (Operand.tmp 11) (Operand.tmp 15)) none]) (AC.cond (Operand.tmp 16) (AC.seq
  (AC.ops [AOper.mk (some 17) (AOp.mov (Operand.tmp 5)) none, AOper.mk (some 4) (AOp.mov (Operand.tmp 17)) none]) AC.ret) AC.skip)))) (AC.ops [AOper.mk
  (some 18) (AOp.bin false BinOp.add (Operand.tmp 8) (Operand.const (Value.int IntKind.i64 1))) none, AOper.mk (some 8) (AOp.mov (Operand.tmp 18))
  none]))))))) (AC.seq (AC.ops [AOper.mk (some 4) (AOp.mov (Operand.const (Value.int IntKind.i64 (-1)))) none]) AC.ret))) [ARes.tmp 4]
theorem cfn112 : cfn Try.prog 112 2 = some c112 := by kernel_rfl
def c113 : AFn :=
  AFn.mk 16 (AC.seq (AC.ops [AOper.mk (some 1) (AOp.box 24 (Operand.tmp 0)) none, AOper.mk (some 2) (AOp.mov (Operand.const (Value.slice none 0 0)))
  none, AOper.mk (some 3) (AOp.mov (Operand.const (Value.int IntKind.i64 0))) none]) (AC.seq (AC.seq (AC.ops [AOper.mk (some 6) (AOp.load true 2
  (Operand.tmp 1)) none, AOper.mk (some 7) (AOp.call 73 [Operand.tmp 6]) none, AOper.mk (some 4) (AOp.mov (Operand.tmp 7)) none]) (AC.seq (AC.ops
  [AOper.mk (some 8) (AOp.mov (Operand.tmp 4)) none, AOper.mk (some 9) (AOp.bin false BinOp.neq (Operand.tmp 8) (Operand.const (Value.int IntKind.i64
  0))) none]) (AC.cond (Operand.tmp 9) (AC.seq (AC.ops [AOper.mk (some 10) (AOp.mov (Operand.tmp 4)) none, AOper.mk (some 2) (AOp.mov (Operand.const
  (Value.slice none 0 0))) none, AOper.mk (some 3) (AOp.mov (Operand.tmp 10)) none]) AC.ret) AC.skip))) (AC.seq (AC.ops [AOper.mk (some 11) (AOp.load
  true 2 (Operand.tmp 1)) none, AOper.mk (some 12) (AOp.call 117 [Operand.tmp 11]) none, AOper.mk (some 5) (AOp.zro 162 (PV.agg [PV.v (Value.int
  IntKind.i64 0), PV.v (Value.int IntKind.i64 0), PV.v (Value.int IntKind.i64 0), PV.v (Value.int IntKind.i64 0), PV.v (Value.int IntKind.i64 0), PV.v
  (Value.int IntKind.i64 0), PV.v (Value.int IntKind.i64 0), PV.v (Value.int IntKind.i64 0), PV.v (Value.int IntKind.i64 0), PV.v (Value.int IntKind.i64
  0), PV.v (Value.int IntKind.i64 0), PV.v (Value.int IntKind.i64 0)])) none, AOper.mk none (AOp.store 12 (Operand.tmp 5) (Operand.tmp 12)) none])
  (AC.seq (AC.ops [AOper.mk (some 13) (AOp.fadr 0 (Operand.tmp 1)) none, AOper.mk (some 14) (AOp.load false 1 (Operand.tmp 13)) none, AOper.mk (some 15)
  (AOp.call 118 [Operand.tmp 5, Operand.tmp 14]) none, AOper.mk (some 2) (AOp.mov (Operand.tmp 15)) none, AOper.mk (some 3) (AOp.mov (Operand.const
  (Value.int IntKind.i64 0))) none]) AC.ret)))) [ARes.tmp 2, ARes.tmp 3]
theorem cfn113 : cfn Try.prog 113 1 = some c113 := by kernel_rfl
def c114 : AFn :=
  AFn.mk 19 (AC.seq (AC.ops [AOper.mk (some 4) (AOp.mov (Operand.const (Value.int IntKind.i64 0))) none]) (AC.seq (AC.seq (AC.ops [AOper.mk (some 6)
  (AOp.mov (Operand.tmp 0)) none, AOper.mk (some 7) (AOp.len (Operand.tmp 6)) none, AOper.mk (some 8) (AOp.mov (Operand.const (Value.int IntKind.i64 0)))
  none]) (AC.block 0 (AC.loop (AC.seq (AC.ops [AOper.mk (some 9) (AOp.bin false BinOp.lss (Operand.tmp 8) (Operand.tmp 7)) none]) (AC.seq (AC.cond
  (Operand.tmp 9) AC.skip (AC.exit 0)) (AC.seq (AC.block 1 (AC.seq (AC.ops [AOper.mk (some 10) (AOp.mov (Operand.tmp 8)) none, AOper.mk (some 5) (AOp.mov
  (Operand.tmp 10)) none]) (AC.seq (AC.ops [AOper.mk (some 11) (AOp.mov (Operand.tmp 1)) none, AOper.mk (some 12) (AOp.mov (Operand.tmp 0)) none,
  AOper.mk (some 13) (AOp.mov (Operand.tmp 5)) none, AOper.mk (some 14) (AOp.iadr 2 (Operand.tmp 12) (Operand.tmp 13)) none, AOper.mk (some 15) (AOp.load
  true 2 (Operand.tmp 14)) none, AOper.mk (some 16) (AOp.callv (Operand.tmp 11) [Operand.tmp 15]) none]) (AC.cond (Operand.tmp 16) (AC.seq (AC.ops
  [AOper.mk (some 17) (AOp.mov (Operand.tmp 5)) none, AOper.mk (some 4) (AOp.mov (Operand.tmp 17)) none]) AC.ret) AC.skip)))) (AC.ops [AOper.mk (some 18)
  (AOp.bin false BinOp.add (Operand.tmp 8) (Operand.const (Value.int IntKind.i64 1))) none, AOper.mk (some 8) (AOp.mov (Operand.tmp 18)) none])))))))
  (AC.seq (AC.ops [AOper.mk (some 4) (AOp.mov (Operand.const (Value.int IntKind.i64 (-1)))) none]) AC.ret))) [ARes.tmp 4]
theorem cfn114 : cfn Try.prog 114 2 = some c114 := by kernel_rfl
def c115 : AFn :=
  AFn.mk 6 (AC.seq (AC.ops [AOper.mk (some 2) (AOp.mov (Operand.const (Value.bool false))) none]) (AC.seq (AC.ops [AOper.mk (some 3) (AOp.mov
  (Operand.tmp 0)) none, AOper.mk (some 4) (AOp.mov (Operand.tmp 0)) none, AOper.mk (some 5) (AOp.bin false BinOp.neq (Operand.tmp 3) (Operand.tmp 4))
  none, AOper.mk (some 2) (AOp.mov (Operand.tmp 5)) none]) AC.ret)) [ARes.tmp 2]
theorem cfn115 : cfn Try.prog 115 1 = some c115 := by kernel_rfl
def c116 : AFn :=
  AFn.mk 6 (AC.seq (AC.ops [AOper.mk (some 1) (AOp.box 24 (Operand.tmp 0)) none, AOper.mk (some 2) (AOp.mov (Operand.const (Value.bool false))) none])
  (AC.seq (AC.ops [AOper.mk (some 3) (AOp.load true 2 (Operand.tmp 1)) none, AOper.mk (some 4) (AOp.call 79 [Operand.tmp 3]) none, AOper.mk (some 5)
  (AOp.bin false BinOp.eql (Operand.tmp 4) (Operand.const (Value.int IntKind.i64 1))) none, AOper.mk (some 2) (AOp.mov (Operand.tmp 5)) none]) AC.ret))
  [ARes.tmp 2]
theorem cfn116 : cfn Try.prog 116 1 = some c116 := by kernel_rfl
def c117 : AFn :=
  AFn.mk 21 (AC.seq (AC.ops [AOper.mk (some 1) (AOp.box 24 (Operand.tmp 0)) none, AOper.mk (some 2) (AOp.zro 162 (PV.agg [PV.v (Value.int IntKind.i64 0),
  PV.v (Value.int IntKind.i64 0), PV.v (Value.int IntKind.i64 0), PV.v (Value.int IntKind.i64 0), PV.v (Value.int IntKind.i64 0), PV.v (Value.int
  IntKind.i64 0), PV.v (Value.int IntKind.i64 0), PV.v (Value.int IntKind.i64 0), PV.v (Value.int IntKind.i64 0), PV.v (Value.int IntKind.i64 0), PV.v
  (Value.int IntKind.i64 0), PV.v (Value.int IntKind.i64 0)])) none]) (AC.seq (AC.ops [AOper.mk (some 6) (AOp.call 119 []) none, AOper.mk (some 3)
  (AOp.zro 162 (PV.agg [PV.v (Value.int IntKind.i64 0), PV.v (Value.int IntKind.i64 0), PV.v (Value.int IntKind.i64 0), PV.v (Value.int IntKind.i64 0),
  PV.v (Value.int IntKind.i64 0), PV.v (Value.int IntKind.i64 0), PV.v (Value.int IntKind.i64 0), PV.v (Value.int IntKind.i64 0), PV.v (Value.int
  IntKind.i64 0), PV.v (Value.int IntKind.i64 0), PV.v (Value.int IntKind.i64 0), PV.v (Value.int IntKind.i64 0)])) none, AOper.mk none (AOp.store 12
  (Operand.tmp 3) (Operand.tmp 6)) none]) (AC.seq (AC.seq (AC.ops [AOper.mk (some 7) (AOp.fadr 1 (Operand.tmp 1)) none, AOper.mk (some 8) (AOp.load false
  1 (Operand.tmp 7)) none, AOper.mk (some 9) (AOp.len (Operand.tmp 8)) none, AOper.mk (some 10) (AOp.mov (Operand.const (Value.int IntKind.i64 0)))
  none]) (AC.block 0 (AC.loop (AC.seq (AC.ops [AOper.mk (some 11) (AOp.bin false BinOp.lss (Operand.tmp 10) (Operand.tmp 9)) none]) (AC.seq (AC.cond
  (Operand.tmp 11) AC.skip (AC.exit 0)) (AC.seq (AC.block 1 (AC.seq (AC.ops [AOper.mk (some 12) (AOp.iadr 3 (Operand.tmp 8) (Operand.tmp 10)) none,
  AOper.mk (some 13) (AOp.load true 3 (Operand.tmp 12)) none, AOper.mk (some 5) (AOp.zro 70 (PV.agg [PV.v (Value.int IntKind.i64 0), PV.v (Value.int
  IntKind.i64 0), PV.v (Value.int IntKind.i64 0)])) none, AOper.mk none (AOp.store 3 (Operand.tmp 5) (Operand.tmp 13)) none]) (AC.ops [AOper.mk (some 14)
  (AOp.fadr 0 (Operand.tmp 5)) none, AOper.mk (some 15) (AOp.load false 1 (Operand.tmp 14)) none, AOper.mk (some 16) (AOp.fadr 1 (Operand.tmp 5)) none,
  AOper.mk (some 17) (AOp.load false 1 (Operand.tmp 16)) none, AOper.mk (some 18) (AOp.call 120 [Operand.tmp 3, Operand.tmp 15, Operand.tmp 17]) none])))
  (AC.ops [AOper.mk (some 19) (AOp.bin false BinOp.add (Operand.tmp 10) (Operand.const (Value.int IntKind.i64 1))) none, AOper.mk (some 10) (AOp.mov
  (Operand.tmp 19)) none]))))))) (AC.seq (AC.ops [AOper.mk (some 20) (AOp.load true 12 (Operand.tmp 3)) none, AOper.mk none (AOp.store 12 (Operand.tmp 2)
  (Operand.tmp 20)) none]) AC.ret)))) [ARes.cell 2 true 12]
theorem cfn117 : cfn Try.prog 117 1 = some c117 := by kernel_rfl
def c118 : AFn :=
  AFn.mk 43 (AC.seq (AC.ops [AOper.mk (some 4) (AOp.mov (Operand.const (Value.slice none 0 0))) none]) (AC.seq (AC.ops [AOper.mk (some 5) (AOp.mov
  (Operand.const (Value.slice none 0 0))) none]) (AC.seq (AC.ops [AOper.mk (some 9) (AOp.mkm (KD.int IntKind.i64)) none, AOper.mk (some 6) (AOp.mov
  (Operand.tmp 9)) none]) (AC.seq (AC.seq (AC.ops [AOper.mk (some 10) (AOp.mov (Operand.tmp 1)) none, AOper.mk (some 11) (AOp.mov (Operand.const
  (Value.int IntKind.i64 0))) none]) (AC.block 0 (AC.loop (AC.seq (AC.ops [AOper.mk (some 12) (AOp.bin false BinOp.lss (Operand.tmp 11) (Operand.tmp 10))
  none]) (AC.seq (AC.cond (Operand.tmp 12) AC.skip (AC.exit 0)) (AC.seq (AC.block 1 (AC.seq (AC.ops [AOper.mk (some 13) (AOp.mov (Operand.tmp 11)) none,
  AOper.mk (some 7) (AOp.mov (Operand.tmp 13)) none]) (AC.seq (AC.ops [AOper.mk (some 14) (AOp.mov (Operand.tmp 0)) none, AOper.mk (some 15) (AOp.mov
  (Operand.tmp 7)) none, AOper.mk (some 16) (AOp.call 121 [Operand.tmp 14, Operand.tmp 15]) none, AOper.mk (some 8) (AOp.mov (Operand.tmp 16)) none])
  (AC.seq (AC.seq (AC.ops [AOper.mk (some 17) (AOp.mov (Operand.tmp 8)) none, AOper.mk (some 18) (AOp.mov (Operand.tmp 7)) none, AOper.mk (some 19)
  (AOp.bin false BinOp.eql (Operand.tmp 17) (Operand.tmp 18)) none]) (AC.cond (Operand.tmp 19) (AC.seq (AC.ops [AOper.mk (some 20) (AOp.mov (Operand.tmp
  6)) none, AOper.mk (some 21) (AOp.mov (Operand.tmp 7)) none, AOper.mk (some 22) (AOp.mov (Operand.tmp 5)) none, AOper.mk (some 23) (AOp.len
  (Operand.tmp 22)) none, AOper.mk none (AOp.mset (KD.int IntKind.i64) (Operand.tmp 20) (Operand.tmp 21) (Operand.tmp 23)) none]) (AC.ops [AOper.mk (some
  24) (AOp.mov (Operand.tmp 5)) none, AOper.mk (some 25) (AOp.bslT 27 [Operand.const (Value.slice none 0 0)]) none, AOper.mk (some 26) (AOp.appT 27
  (Operand.tmp 24) (Operand.tmp 25)) none, AOper.mk (some 5) (AOp.mov (Operand.tmp 26)) none])) AC.skip)) (AC.tree (AT.look [AOper.mk (some 27) (AOp.mov
  (Operand.tmp 5)) none, AOper.mk (some 28) (AOp.mov (Operand.tmp 6)) none, AOper.mk (some 29) (AOp.mov (Operand.tmp 8)) none, AOper.mk (some 31)
  (AOp.mov (Operand.tmp 5)) none, AOper.mk (some 32) (AOp.mov (Operand.tmp 6)) none, AOper.mk (some 33) (AOp.mov (Operand.tmp 8)) none, AOper.mk (some
  34) (AOp.look (KD.int IntKind.i64) (PV.v (Value.int IntKind.i64 0)) false (Operand.tmp 32) (Operand.tmp 33)) none, AOper.mk (some 35) (AOp.iadr 1
  (Operand.tmp 31) (Operand.tmp 34)) none, AOper.mk (some 36) (AOp.load false 1 (Operand.tmp 35)) none, AOper.mk (some 37) (AOp.mov (Operand.tmp 7))
  none] (AT.fork true (AOper.mk (some 30) (AOp.look (KD.int IntKind.i64) (PV.v (Value.int IntKind.i64 0)) false (Operand.tmp 28) (Operand.tmp 29)) none)
  (AT.act true (AOper.mk (some 38) (AOp.bsl 3 1 [Operand.tmp 37]) none) (AT.act false (AOper.mk (some 39) (AOp.app 3 1 (Operand.tmp 36) (Operand.tmp 38))
  none) (AT.look [AOper.mk (some 40) (AOp.iadr 1 (Operand.tmp 27) (Operand.tmp 30)) none] (AT.act false (AOper.mk none (AOp.store 1 (Operand.tmp 40)
  (Operand.tmp 39)) none) AT.done)))) (AT.act true (AOper.mk (some 38) (AOp.bsl 3 1 [Operand.tmp 37]) none) (AT.fork true (AOper.mk (some 30) (AOp.look
  (KD.int IntKind.i64) (PV.v (Value.int IntKind.i64 0)) false (Operand.tmp 28) (Operand.tmp 29)) none) (AT.act false (AOper.mk (some 39) (AOp.app 3 1
  (Operand.tmp 36) (Operand.tmp 38)) none) (AT.look [AOper.mk (some 40) (AOp.iadr 1 (Operand.tmp 27) (Operand.tmp 30)) none] (AT.act false (AOper.mk none
  (AOp.store 1 (Operand.tmp 40) (Operand.tmp 39)) none) AT.done))) (AT.act false (AOper.mk (some 39) (AOp.app 3 1 (Operand.tmp 36) (Operand.tmp 38))
  none) (AT.look [AOper.mk (some 30) (AOp.look (KD.int IntKind.i64) (PV.v (Value.int IntKind.i64 0)) false (Operand.tmp 28) (Operand.tmp 29)) none,
  AOper.mk (some 40) (AOp.iadr 1 (Operand.tmp 27) (Operand.tmp 30)) none] (AT.act false (AOper.mk none (AOp.store 1 (Operand.tmp 40) (Operand.tmp 39))
  none) AT.done)))))))))))) (AC.ops [AOper.mk (some 41) (AOp.bin false BinOp.add (Operand.tmp 11) (Operand.const (Value.int IntKind.i64 1))) none,
  AOper.mk (some 11) (AOp.mov (Operand.tmp 41)) none]))))))) (AC.seq (AC.ops [AOper.mk (some 42) (AOp.mov (Operand.tmp 5)) none, AOper.mk (some 4)
  (AOp.mov (Operand.tmp 42)) none]) AC.ret))))) [ARes.tmp 4]
theorem cfn118 : cfn Try.prog 118 2 = some c118 := by kernel_rfl
def c119 : AFn :=
  AFn.mk 11 (AC.seq (AC.ops [AOper.mk (some 0) (AOp.zro 162 (PV.agg [PV.v (Value.int IntKind.i64 0), PV.v (Value.int IntKind.i64 0), PV.v (Value.int
  IntKind.i64 0), PV.v (Value.int IntKind.i64 0), PV.v (Value.int IntKind.i64 0), PV.v (Value.int IntKind.i64 0), PV.v (Value.int IntKind.i64 0), PV.v
  (Value.int IntKind.i64 0), PV.v (Value.int IntKind.i64 0), PV.v (Value.int IntKind.i64 0), PV.v (Value.int IntKind.i64 0), PV.v (Value.int IntKind.i64
  0)])) none]) (AC.seq (AC.ops [AOper.mk (some 1) (AOp.zro 162 (PV.agg [PV.v (Value.int IntKind.i64 0), PV.v (Value.int IntKind.i64 0), PV.v (Value.int
  IntKind.i64 0), PV.v (Value.int IntKind.i64 0), PV.v (Value.int IntKind.i64 0), PV.v (Value.int IntKind.i64 0), PV.v (Value.int IntKind.i64 0), PV.v
  (Value.int IntKind.i64 0), PV.v (Value.int IntKind.i64 0), PV.v (Value.int IntKind.i64 0), PV.v (Value.int IntKind.i64 0), PV.v (Value.int IntKind.i64
  0)])) none]) (AC.seq (AC.seq (AC.ops [AOper.mk (some 3) (AOp.mov (Operand.const (Value.int IntKind.i64 0))) none]) (AC.block 0 (AC.loop (AC.seq (AC.ops
  [AOper.mk (some 4) (AOp.bin false BinOp.lss (Operand.tmp 3) (Operand.const (Value.int IntKind.i64 12))) none]) (AC.seq (AC.cond (Operand.tmp 4) AC.skip
  (AC.exit 0)) (AC.seq (AC.block 1 (AC.seq (AC.ops [AOper.mk (some 5) (AOp.mov (Operand.tmp 3)) none, AOper.mk (some 2) (AOp.mov (Operand.tmp 5)) none])
  (AC.ops [AOper.mk (some 6) (AOp.mov (Operand.tmp 2)) none, AOper.mk (some 7) (AOp.mov (Operand.tmp 2)) none, AOper.mk (some 8) (AOp.iadrA 12 1
  (Operand.tmp 1) (Operand.tmp 6)) none, AOper.mk none (AOp.store 1 (Operand.tmp 8) (Operand.tmp 7)) none]))) (AC.ops [AOper.mk (some 9) (AOp.bin false
  BinOp.add (Operand.tmp 3) (Operand.const (Value.int IntKind.i64 1))) none, AOper.mk (some 3) (AOp.mov (Operand.tmp 9)) none]))))))) (AC.seq (AC.ops
  [AOper.mk (some 10) (AOp.load true 12 (Operand.tmp 1)) none, AOper.mk none (AOp.store 12 (Operand.tmp 0) (Operand.tmp 10)) none]) AC.ret)))) [ARes.cell
  0 true 12]
theorem cfn119 : cfn Try.prog 119 0 = some c119 := by kernel_rfl
def c120 : AFn :=
  AFn.mk 21 (AC.seq (AC.ops [AOper.mk (some 6) (AOp.mov (Operand.tmp 0)) none, AOper.mk (some 7) (AOp.mov (Operand.tmp 1)) none, AOper.mk (some 8)
  (AOp.call 121 [Operand.tmp 6, Operand.tmp 7]) none, AOper.mk (some 9) (AOp.mov (Operand.tmp 0)) none, AOper.mk (some 10) (AOp.mov (Operand.tmp 2))
  none, AOper.mk (some 11) (AOp.call 121 [Operand.tmp 9, Operand.tmp 10]) none, AOper.mk (some 1) (AOp.mov (Operand.tmp 8)) none, AOper.mk (some 2)
  (AOp.mov (Operand.tmp 11)) none]) (AC.ops [AOper.mk (some 12) (AOp.mov (Operand.tmp 0)) none, AOper.mk (some 13) (AOp.mov (Operand.tmp 1)) none,
  AOper.mk (some 14) (AOp.mov (Operand.tmp 2)) none, AOper.mk (some 15) (AOp.mm true (Operand.tmp 13) (Operand.tmp 14)) none, AOper.mk (some 16) (AOp.mov
  (Operand.tmp 1)) none, AOper.mk (some 17) (AOp.mov (Operand.tmp 2)) none, AOper.mk (some 18) (AOp.mm false (Operand.tmp 16) (Operand.tmp 17)) none,
  AOper.mk (some 19) (AOp.nilc (Operand.tmp 12)) none, AOper.mk (some 20) (AOp.iadrA 12 1 (Operand.tmp 19) (Operand.tmp 15)) none, AOper.mk none
  (AOp.store 1 (Operand.tmp 20) (Operand.tmp 18)) none])) []
theorem cfn120 : cfn Try.prog 120 3 = some c120 := by kernel_rfl
def c121 : AFn :=
  AFn.mk 18 (AC.seq (AC.ops [AOper.mk (some 4) (AOp.mov (Operand.const (Value.int IntKind.i64 0))) none]) (AC.seq (AC.block 0 (AC.loop (AC.seq (AC.seq
  (AC.ops [AOper.mk (some 5) (AOp.mov (Operand.tmp 0)) none, AOper.mk (some 6) (AOp.mov (Operand.tmp 1)) none, AOper.mk (some 7) (AOp.nilc (Operand.tmp
  5)) none, AOper.mk (some 8) (AOp.iadrA 12 1 (Operand.tmp 7) (Operand.tmp 6)) none, AOper.mk (some 9) (AOp.load false 1 (Operand.tmp 8)) none, AOper.mk
  (some 10) (AOp.mov (Operand.tmp 1)) none, AOper.mk (some 11) (AOp.bin false BinOp.neq (Operand.tmp 9) (Operand.tmp 10)) none]) (AC.cond (Operand.tmp
  11) AC.skip (AC.exit 0))) (AC.block 1 (AC.ops [AOper.mk (some 12) (AOp.mov (Operand.tmp 0)) none, AOper.mk (some 13) (AOp.mov (Operand.tmp 1)) none,
  AOper.mk (some 14) (AOp.nilc (Operand.tmp 12)) none, AOper.mk (some 15) (AOp.iadrA 12 1 (Operand.tmp 14) (Operand.tmp 13)) none, AOper.mk (some 16)
  (AOp.load false 1 (Operand.tmp 15)) none, AOper.mk (some 1) (AOp.mov (Operand.tmp 16)) none]))))) (AC.seq (AC.ops [AOper.mk (some 17) (AOp.mov
  (Operand.tmp 1)) none, AOper.mk (some 4) (AOp.mov (Operand.tmp 17)) none]) AC.ret))) [ARes.tmp 4]
theorem cfn121 : cfn Try.prog 121 2 = some c121 := by kernel_rfl
end Go.Proofs.Ytddgepjmfnodhaa
