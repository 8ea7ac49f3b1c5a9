/-
  The compiled code of the functions (printed by a program of mine).
-/
import Derived.Test.YthdbmoflbnggpaaMad
import Derived.Test.YthdbmoflbnggpaaChecked
namespace Go.Proofs.Ythdbmoflbnggpaa
open Go.Abs
def c65 : AFn :=
  AFn.mk 8 (AC.seq (AC.ops [AOper.mk (some 4) (AOp.mov (Operand.const (Value.int IntKind.i64 0))) none]) (AC.seq (AC.ops [AOper.mk (some 5) (AOp.mov
  (Operand.tmp 0)) none, AOper.mk (some 6) (AOp.mov (Operand.tmp 1)) none, AOper.mk (some 7) (AOp.bin false BinOp.add (Operand.tmp 5) (Operand.tmp 6))
  none, AOper.mk (some 4) (AOp.mov (Operand.tmp 7)) none]) AC.ret)) [ARes.tmp 4]
theorem cfn65 : cfn Try.prog 65 2 = some c65 := by kernel_rfl
def c66 : AFn :=
  AFn.mk 9 (AC.seq (AC.ops [AOper.mk (some 2) (AOp.mov (Operand.const (Value.bool false))) none]) (AC.seq (AC.ops [AOper.mk (some 3) (AOp.mov
  (Operand.tmp 0)) none, AOper.mk (some 4) (AOp.bin false BinOp.geq (Operand.tmp 3) (Operand.const (Value.int IntKind.i64 (-1048576)))) none, AOper.mk
  (some 5) (AOp.mov (Operand.tmp 4)) none, AOper.mk (some 6) (AOp.mov (Operand.tmp 0)) (some (5, true)), AOper.mk (some 7) (AOp.bin false BinOp.leq
  (Operand.tmp 6) (Operand.const (Value.int IntKind.i64 1048576))) (some (5, true)), AOper.mk (some 8) (AOp.pick (Operand.tmp 5) (Operand.tmp 7)
  (Operand.const (Value.bool false))) none, AOper.mk (some 2) (AOp.mov (Operand.tmp 8)) none]) AC.ret)) [ARes.tmp 2]
theorem cfn66 : cfn Try.prog 66 1 = some c66 := by kernel_rfl
def c67 : AFn :=
  AFn.mk 15 (AC.seq (AC.ops [AOper.mk (some 2) (AOp.box 24 (Operand.tmp 0)) none, AOper.mk (some 4) (AOp.mov (Operand.const (Value.int IntKind.i64 0)))
  none]) (AC.seq (AC.seq (AC.ops [AOper.mk (some 6) (AOp.load true 2 (Operand.tmp 2)) none, AOper.mk (some 7) (AOp.call 76 [Operand.tmp 6]) none,
  AOper.mk (some 5) (AOp.mov (Operand.tmp 7)) none]) (AC.seq (AC.ops [AOper.mk (some 8) (AOp.mov (Operand.tmp 5)) none, AOper.mk (some 9) (AOp.bin false
  BinOp.neq (Operand.tmp 8) (Operand.const (Value.int IntKind.i64 0))) none]) (AC.cond (Operand.tmp 9) (AC.seq (AC.ops [AOper.mk (some 10) (AOp.mov
  (Operand.tmp 5)) none, AOper.mk (some 4) (AOp.mov (Operand.tmp 10)) none]) AC.ret) AC.skip))) (AC.seq (AC.ops [AOper.mk (some 11) (AOp.mov (Operand.tmp
  1)) none, AOper.mk (some 12) (AOp.fadr 0 (Operand.tmp 2)) none, AOper.mk (some 13) (AOp.load false 1 (Operand.tmp 12)) none, AOper.mk (some 14)
  (AOp.call 62 [Operand.tmp 11, Operand.tmp 13]) none, AOper.mk (some 4) (AOp.mov (Operand.tmp 14)) none]) AC.ret))) [ARes.tmp 4]
theorem cfn67 : cfn Try.prog 67 2 = some c67 := by kernel_rfl
def c68 : AFn :=
  AFn.mk 8 (AC.seq (AC.ops [AOper.mk (some 2) (AOp.box 24 (Operand.tmp 0)) none, AOper.mk (some 4) (AOp.mov (Operand.const (Value.int IntKind.i64 0)))
  none]) (AC.seq (AC.ops [AOper.mk (some 5) (AOp.load true 2 (Operand.tmp 2)) none, AOper.mk (some 6) (AOp.mov (Operand.tmp 1)) none, AOper.mk (some 7)
  (AOp.call 67 [Operand.tmp 5, Operand.tmp 6]) none, AOper.mk (some 4) (AOp.mov (Operand.tmp 7)) none]) AC.ret)) [ARes.tmp 4]
theorem cfn68 : cfn Try.prog 68 2 = some c68 := by kernel_rfl
def c69 : AFn :=
  AFn.mk 7 (AC.seq (AC.ops [AOper.mk (some 2) (AOp.mov (Operand.const (Value.slice none 0 0))) none, AOper.mk (some 3) (AOp.mov (Operand.const (Value.int
  IntKind.i64 0))) none]) (AC.seq (AC.seq (AC.ops [AOper.mk (some 4) (AOp.mov (Operand.tmp 0)) none, AOper.mk (some 5) (AOp.call 92 [Operand.tmp 4,
  Operand.func 93]) none]) (AC.cond (Operand.tmp 5) (AC.seq (AC.ops [AOper.mk (some 2) (AOp.mov (Operand.const (Value.slice none 0 0))) none, AOper.mk
  (some 3) (AOp.mov (Operand.const (Value.int IntKind.i64 11))) none]) AC.ret) AC.skip)) (AC.seq (AC.ops [AOper.mk (some 6) (AOp.mov (Operand.tmp 0))
  none, AOper.mk (some 2) (AOp.mov (Operand.tmp 6)) none, AOper.mk (some 3) (AOp.mov (Operand.const (Value.int IntKind.i64 0))) none]) AC.ret)))
  [ARes.tmp 2, ARes.tmp 3]
theorem cfn69 : cfn Try.prog 69 1 = some c69 := by kernel_rfl
def c70 : AFn :=
  AFn.mk 26 (AC.seq (AC.ops [AOper.mk (some 3) (AOp.box 24 (Operand.tmp 0)) none, AOper.mk (some 5) (AOp.box 29 (Operand.tmp 2)) none, AOper.mk (some 6)
  (AOp.mov (Operand.const (Value.slice none 0 0))) none]) (AC.seq (AC.ops [AOper.mk (some 11) (AOp.mov (Operand.tmp 1)) none, AOper.mk (some 12)
  (AOp.call 73 [Operand.tmp 11]) none, AOper.mk (some 7) (AOp.zro 26 (PV.v (Value.slice none 0 0))) none, AOper.mk none (AOp.store 1 (Operand.tmp 7)
  (Operand.tmp 12)) none]) (AC.seq (AC.ops [AOper.mk (some 13) (AOp.fn (Fn.func 94) [] [Operand.tmp 5, Operand.tmp 7]) none, AOper.mk (some 8) (AOp.mov
  (Operand.tmp 13)) none]) (AC.seq (AC.seq (AC.ops [AOper.mk (some 14) (AOp.fadr 1 (Operand.tmp 3)) none, AOper.mk (some 15) (AOp.load false 1
  (Operand.tmp 14)) none, AOper.mk (some 16) (AOp.len (Operand.tmp 15)) none, AOper.mk (some 17) (AOp.mov (Operand.const (Value.int IntKind.i64 0)))
  none]) (AC.block 0 (AC.loop (AC.seq (AC.ops [AOper.mk (some 18) (AOp.bin false BinOp.lss (Operand.tmp 17) (Operand.tmp 16)) none]) (AC.seq (AC.cond
  (Operand.tmp 18) AC.skip (AC.exit 0)) (AC.seq (AC.block 1 (AC.seq (AC.ops [AOper.mk (some 19) (AOp.iadr 3 (Operand.tmp 15) (Operand.tmp 17)) none,
  AOper.mk (some 20) (AOp.load true 3 (Operand.tmp 19)) none, AOper.mk (some 10) (AOp.zro 120 (PV.agg [PV.v (Value.int IntKind.i64 0), PV.v (Value.int
  IntKind.i64 0), PV.v (Value.int IntKind.i64 0)])) none, AOper.mk none (AOp.store 3 (Operand.tmp 10) (Operand.tmp 20)) none]) (AC.ops [AOper.mk (some
  21) (AOp.mov (Operand.tmp 8)) none, AOper.mk (some 22) (AOp.load true 3 (Operand.tmp 10)) none, AOper.mk (some 23) (AOp.callv (Operand.tmp 21)
  [Operand.tmp 22]) none]))) (AC.ops [AOper.mk (some 24) (AOp.bin false BinOp.add (Operand.tmp 17) (Operand.const (Value.int IntKind.i64 1))) none,
  AOper.mk (some 17) (AOp.mov (Operand.tmp 24)) none]))))))) (AC.seq (AC.ops [AOper.mk (some 25) (AOp.load false 1 (Operand.tmp 7)) none, AOper.mk (some
  6) (AOp.mov (Operand.tmp 25)) none]) AC.ret))))) [ARes.tmp 6]
theorem cfn70 : cfn Try.prog 70 3 = some c70 := by kernel_rfl
def c71 : AFn :=
  AFn.mk 37 (AC.seq (AC.ops [AOper.mk (some 3) (AOp.box 24 (Operand.tmp 0)) none, AOper.mk (some 6) (AOp.mov (Operand.const (Value.int IntKind.i64 0)))
  none]) (AC.seq (AC.seq (AC.ops [AOper.mk (some 7) (AOp.mov (Operand.const (Value.int IntKind.i64 0))) none]) (AC.block 0 (AC.loop (AC.seq (AC.seq
  (AC.ops [AOper.mk (some 9) (AOp.mov (Operand.tmp 7)) none, AOper.mk (some 10) (AOp.fadr 1 (Operand.tmp 3)) none, AOper.mk (some 11) (AOp.load false 1
  (Operand.tmp 10)) none, AOper.mk (some 12) (AOp.len (Operand.tmp 11)) none, AOper.mk (some 13) (AOp.bin false BinOp.lss (Operand.tmp 9) (Operand.tmp
  12)) none]) (AC.cond (Operand.tmp 13) AC.skip (AC.exit 0))) (AC.seq (AC.block 1 (AC.seq (AC.ops [AOper.mk (some 16) (AOp.fadr 1 (Operand.tmp 3)) none,
  AOper.mk (some 17) (AOp.load false 1 (Operand.tmp 16)) none, AOper.mk (some 18) (AOp.mov (Operand.tmp 7)) none, AOper.mk (some 19) (AOp.iadr 3
  (Operand.tmp 17) (Operand.tmp 18)) none, AOper.mk (some 20) (AOp.load true 3 (Operand.tmp 19)) none, AOper.mk (some 8) (AOp.zro 120 (PV.agg [PV.v
  (Value.int IntKind.i64 0), PV.v (Value.int IntKind.i64 0), PV.v (Value.int IntKind.i64 0)])) none, AOper.mk none (AOp.store 3 (Operand.tmp 8)
  (Operand.tmp 20)) none]) (AC.seq (AC.ops [AOper.mk (some 21) (AOp.fadr 0 (Operand.tmp 8)) none, AOper.mk (some 22) (AOp.load false 1 (Operand.tmp 21))
  none, AOper.mk (some 23) (AOp.mov (Operand.tmp 1)) none, AOper.mk (some 24) (AOp.mov (Operand.tmp 2)) none, AOper.mk (some 25) (AOp.mm false
  (Operand.tmp 23) (Operand.tmp 24)) none, AOper.mk (some 26) (AOp.bin false BinOp.eql (Operand.tmp 22) (Operand.tmp 25)) none, AOper.mk (some 27)
  (AOp.mov (Operand.tmp 26)) none, AOper.mk (some 28) (AOp.fadr 1 (Operand.tmp 8)) (some (27, true)), AOper.mk (some 29) (AOp.load false 1 (Operand.tmp
  28)) (some (27, true)), AOper.mk (some 30) (AOp.mov (Operand.tmp 1)) (some (27, true)), AOper.mk (some 31) (AOp.mov (Operand.tmp 2)) (some (27, true)),
  AOper.mk (some 32) (AOp.mm true (Operand.tmp 30) (Operand.tmp 31)) (some (27, true)), AOper.mk (some 33) (AOp.bin false BinOp.eql (Operand.tmp 29)
  (Operand.tmp 32)) (some (27, true)), AOper.mk (some 34) (AOp.pick (Operand.tmp 27) (Operand.tmp 33) (Operand.const (Value.bool false))) none]) (AC.cond
  (Operand.tmp 34) (AC.seq (AC.ops [AOper.mk (some 35) (AOp.fadr 2 (Operand.tmp 8)) none, AOper.mk (some 36) (AOp.load false 1 (Operand.tmp 35)) none,
  AOper.mk (some 6) (AOp.mov (Operand.tmp 36)) none]) AC.ret) AC.skip)))) (AC.ops [AOper.mk (some 14) (AOp.mov (Operand.tmp 7)) none, AOper.mk (some 15)
  (AOp.bin false BinOp.add (Operand.tmp 14) (Operand.const (Value.int IntKind.i64 1))) none, AOper.mk (some 7) (AOp.mov (Operand.tmp 15)) none]))))))
  (AC.seq (AC.ops [AOper.mk (some 6) (AOp.mov (Operand.const (Value.int IntKind.i64 0))) none]) AC.ret))) [ARes.tmp 6]
theorem cfn71 : cfn Try.prog 71 3 = some c71 := by kernel_rfl
def c72 : AFn :=
  AFn.mk 11 (AC.seq (AC.ops [AOper.mk (some 2) (AOp.box 24 (Operand.tmp 0)) none, AOper.mk (some 4) (AOp.mov (Operand.const (Value.int IntKind.i64 0)))
  none]) (AC.seq (AC.seq (AC.ops [AOper.mk (some 5) (AOp.mov (Operand.tmp 1)) none, AOper.mk (some 6) (AOp.len (Operand.tmp 5)) none, AOper.mk (some 7)
  (AOp.bin false BinOp.gtr (Operand.tmp 6) (Operand.const (Value.int IntKind.i64 4096))) none]) (AC.cond (Operand.tmp 7) (AC.seq (AC.ops [AOper.mk (some
  4) (AOp.mov (Operand.const (Value.int IntKind.i64 5))) none]) AC.ret) AC.skip)) (AC.seq (AC.seq (AC.ops [AOper.mk (some 8) (AOp.mov (Operand.tmp 1))
  none, AOper.mk (some 9) (AOp.fn (Fn.func 96) [] [Operand.tmp 2]) none, AOper.mk (some 10) (AOp.call 95 [Operand.tmp 8, Operand.tmp 9]) none]) (AC.cond
  (Operand.tmp 10) (AC.seq (AC.ops [AOper.mk (some 4) (AOp.mov (Operand.const (Value.int IntKind.i64 2))) none]) AC.ret) AC.skip)) (AC.seq (AC.ops
  [AOper.mk (some 4) (AOp.mov (Operand.const (Value.int IntKind.i64 0))) none]) AC.ret)))) [ARes.tmp 4]
theorem cfn72 : cfn Try.prog 72 2 = some c72 := by kernel_rfl
def c73 : AFn :=
  AFn.mk 8 (AC.seq (AC.ops [AOper.mk (some 2) (AOp.mov (Operand.const (Value.slice none 0 0))) none]) (AC.seq (AC.seq (AC.ops [AOper.mk (some 3) (AOp.mov
  (Operand.tmp 0)) none, AOper.mk (some 4) (AOp.eqn false (Operand.tmp 3)) none]) (AC.cond (Operand.tmp 4) (AC.seq (AC.ops [AOper.mk (some 2) (AOp.mov
  (Operand.const (Value.slice none 0 0))) none]) AC.ret) AC.skip)) (AC.seq (AC.ops [AOper.mk (some 5) (AOp.bsl 3 1 []) none, AOper.mk (some 6) (AOp.mov
  (Operand.tmp 0)) none, AOper.mk (some 7) (AOp.app 3 1 (Operand.tmp 5) (Operand.tmp 6)) none, AOper.mk (some 2) (AOp.mov (Operand.tmp 7)) none])
  AC.ret))) [ARes.tmp 2]
theorem cfn73 : cfn Try.prog 73 1 = some c73 := by kernel_rfl
def c74 : AFn :=
  AFn.mk 33 (AC.seq (AC.ops [AOper.mk (some 4) (AOp.mov (Operand.const (Value.bool false))) none]) (AC.seq (AC.ops [AOper.mk (some 8) (AOp.mov
  (Operand.tmp 0)) none, AOper.mk (some 9) (AOp.nilc (Operand.tmp 8)) none, AOper.mk (some 10) (AOp.fadr 0 (Operand.tmp 9)) none, AOper.mk (some 11)
  (AOp.load true 2 (Operand.tmp 10)) none, AOper.mk (some 12) (AOp.mov (Operand.tmp 1)) none, AOper.mk (some 13) (AOp.call 97 [Operand.tmp 11,
  Operand.tmp 12]) none, AOper.mk (some 7) (AOp.mov (Operand.tmp 13)) none, AOper.mk (some 14) (AOp.ext (Operand.tmp 7) 0) none, AOper.mk (some 15)
  (AOp.ext (Operand.tmp 7) 1) none, AOper.mk (some 5) (AOp.mov (Operand.tmp 14)) none, AOper.mk (some 6) (AOp.mov (Operand.tmp 15)) none]) (AC.seq
  (AC.ops [AOper.mk (some 16) (AOp.mov (Operand.tmp 6)) none, AOper.mk (some 17) (AOp.bin false BinOp.eql (Operand.tmp 16) (Operand.const (Value.int
  IntKind.i64 0))) none, AOper.mk (some 18) (AOp.mov (Operand.tmp 17)) none, AOper.mk (some 19) (AOp.mov (Operand.tmp 5)) (some (18, true)), AOper.mk
  (some 20) (AOp.bin false BinOp.gtr (Operand.tmp 19) (Operand.const (Value.int IntKind.i64 0))) (some (18, true)), AOper.mk (some 21) (AOp.pick
  (Operand.tmp 18) (Operand.tmp 20) (Operand.const (Value.bool false))) none, AOper.mk (some 22) (AOp.mov (Operand.tmp 21)) none, AOper.mk (some 23)
  (AOp.mov (Operand.tmp 0)) (some (22, true)), AOper.mk (some 24) (AOp.nilc (Operand.tmp 23)) (some (22, true)), AOper.mk (some 25) (AOp.fadr 2
  (Operand.tmp 24)) (some (22, true)), AOper.mk (some 26) (AOp.load false 1 (Operand.tmp 25)) (some (22, true)), AOper.mk (some 27) (AOp.mov (Operand.tmp
  1)) (some (22, true)), AOper.mk (some 28) (AOp.iadr 1 (Operand.tmp 26) (Operand.tmp 27)) (some (22, true)), AOper.mk (some 29) (AOp.load false 1
  (Operand.tmp 28)) (some (22, true)), AOper.mk (some 30) (AOp.mov (Operand.tmp 5)) (some (22, true)), AOper.mk (some 31) (AOp.bin false BinOp.geq
  (Operand.tmp 29) (Operand.tmp 30)) (some (22, true)), AOper.mk (some 32) (AOp.pick (Operand.tmp 22) (Operand.tmp 31) (Operand.const (Value.bool
  false))) none, AOper.mk (some 4) (AOp.mov (Operand.tmp 32)) none]) AC.ret))) [ARes.tmp 4]
theorem cfn74 : cfn Try.prog 74 2 = some c74 := by kernel_rfl
def c75 : AFn :=
  AFn.mk 23 (AC.segs [([AOper.mk (some 4) (AOp.mov (Operand.tmp 0)) none, AOper.mk (some 5) (AOp.mov (Operand.tmp 0)) none, AOper.mk (some 6) (AOp.nilc
  (Operand.tmp 5)) none, AOper.mk (some 7) (AOp.fadr 0 (Operand.tmp 6)) none, AOper.mk (some 8) (AOp.load true 2 (Operand.tmp 7)) none, AOper.mk (some 9)
  (AOp.mov (Operand.tmp 0)) none, AOper.mk (some 10) (AOp.nilc (Operand.tmp 9)) none, AOper.mk (some 11) (AOp.fadr 2 (Operand.tmp 10)) none, AOper.mk
  (some 12) (AOp.load false 1 (Operand.tmp 11)) none, AOper.mk (some 13) (AOp.mov (Operand.tmp 0)) none, AOper.mk (some 14) (AOp.nilc (Operand.tmp 13))
  none, AOper.mk (some 15) (AOp.fadr 0 (Operand.tmp 14)) none, AOper.mk (some 16) (AOp.load true 2 (Operand.tmp 15)) none, AOper.mk (some 17) (AOp.mov
  (Operand.tmp 1)) none], some (true, AOper.mk (some 18) (AOp.bsl 3 1 [Operand.tmp 17]) none)), ([], some (true, AOper.mk (some 19) (AOp.call 98
  [Operand.tmp 16, Operand.tmp 18, Operand.const (Value.int IntKind.i64 1)]) none)), ([], some (true, AOper.mk (some 20) (AOp.call 70 [Operand.tmp 8,
  Operand.tmp 12, Operand.tmp 19]) none)), ([AOper.mk (some 21) (AOp.nilc (Operand.tmp 4)) none, AOper.mk (some 22) (AOp.fadr 2 (Operand.tmp 21)) none],
  some (false, AOper.mk none (AOp.store 1 (Operand.tmp 22) (Operand.tmp 20)) none))]) []
theorem cfn75 : cfn Try.prog 75 2 = some c75 := by kernel_rfl
def c76 : AFn :=
  AFn.mk 67 (AC.seq (AC.ops [AOper.mk (some 1) (AOp.box 24 (Operand.tmp 0)) none, AOper.mk (some 2) (AOp.mov (Operand.const (Value.int IntKind.i64 0)))
  none]) (AC.seq (AC.seq (AC.ops [AOper.mk (some 7) (AOp.fadr 0 (Operand.tmp 1)) none, AOper.mk (some 8) (AOp.load false 1 (Operand.tmp 7)) none,
  AOper.mk (some 9) (AOp.bin false BinOp.lss (Operand.tmp 8) (Operand.const (Value.int IntKind.i64 1))) none, AOper.mk (some 10) (AOp.mov (Operand.tmp
  9)) none, AOper.mk (some 11) (AOp.fadr 0 (Operand.tmp 1)) (some (10, false)), AOper.mk (some 12) (AOp.load false 1 (Operand.tmp 11)) (some (10,
  false)), AOper.mk (some 13) (AOp.bin false BinOp.gtr (Operand.tmp 12) (Operand.const (Value.int IntKind.i64 12))) (some (10, false)), AOper.mk (some
  14) (AOp.pick (Operand.tmp 10) (Operand.const (Value.bool true)) (Operand.tmp 13)) none]) (AC.cond (Operand.tmp 14) (AC.seq (AC.ops [AOper.mk (some 2)
  (AOp.mov (Operand.const (Value.int IntKind.i64 2))) none]) AC.ret) AC.skip)) (AC.seq (AC.ops [AOper.mk (some 15) (AOp.bld [PV.v (Value.int IntKind.i64
  0), PV.v (Value.int IntKind.i64 0)] [(0, 1), (1, 1)] [(0, Operand.const (Value.int IntKind.i64 (-1))), (1, Operand.const (Value.int IntKind.i64
  (-1)))]) none, AOper.mk (some 3) (AOp.zro 142 (PV.agg [PV.v (Value.int IntKind.i64 0), PV.v (Value.int IntKind.i64 0)])) none, AOper.mk none (AOp.store
  2 (Operand.tmp 3) (Operand.tmp 15)) none]) (AC.seq (AC.seq (AC.ops [AOper.mk (some 16) (AOp.fadr 1 (Operand.tmp 1)) none, AOper.mk (some 17) (AOp.load
  false 1 (Operand.tmp 16)) none, AOper.mk (some 18) (AOp.len (Operand.tmp 17)) none, AOper.mk (some 19) (AOp.mov (Operand.const (Value.int IntKind.i64
  0))) none]) (AC.block 0 (AC.loop (AC.seq (AC.ops [AOper.mk (some 20) (AOp.bin false BinOp.lss (Operand.tmp 19) (Operand.tmp 18)) none]) (AC.seq
  (AC.cond (Operand.tmp 20) AC.skip (AC.exit 0)) (AC.seq (AC.block 1 (AC.seq (AC.ops [AOper.mk (some 21) (AOp.iadr 3 (Operand.tmp 17) (Operand.tmp 19))
  none, AOper.mk (some 22) (AOp.load true 3 (Operand.tmp 21)) none, AOper.mk (some 5) (AOp.zro 120 (PV.agg [PV.v (Value.int IntKind.i64 0), PV.v
  (Value.int IntKind.i64 0), PV.v (Value.int IntKind.i64 0)])) none, AOper.mk none (AOp.store 3 (Operand.tmp 5) (Operand.tmp 22)) none]) (AC.seq (AC.ops
  [AOper.mk (some 23) (AOp.fadr 0 (Operand.tmp 5)) none, AOper.mk (some 24) (AOp.load false 1 (Operand.tmp 23)) none, AOper.mk (some 25) (AOp.fadr 1
  (Operand.tmp 5)) none, AOper.mk (some 26) (AOp.load false 1 (Operand.tmp 25)) none, AOper.mk (some 27) (AOp.bld [PV.v (Value.int IntKind.i64 0), PV.v
  (Value.int IntKind.i64 0)] [(0, 1), (1, 1)] [(0, Operand.tmp 24), (1, Operand.tmp 26)]) none, AOper.mk (some 6) (AOp.zro 142 (PV.agg [PV.v (Value.int
  IntKind.i64 0), PV.v (Value.int IntKind.i64 0)])) none, AOper.mk none (AOp.store 2 (Operand.tmp 6) (Operand.tmp 27)) none]) (AC.seq (AC.block 2 (AC.seq
  (AC.ops [AOper.mk (some 29) (AOp.fadr 0 (Operand.tmp 1)) none, AOper.mk (some 30) (AOp.load false 1 (Operand.tmp 29)) none, AOper.mk (some 31)
  (AOp.fadr 0 (Operand.tmp 5)) none, AOper.mk (some 32) (AOp.load false 1 (Operand.tmp 31)) none, AOper.mk (some 33) (AOp.call 99 [Operand.tmp 30,
  Operand.tmp 32]) none, AOper.mk (some 34) (AOp.un UnOp.not (Operand.tmp 33)) none, AOper.mk (some 35) (AOp.mov (Operand.tmp 34)) none, AOper.mk (some
  36) (AOp.fadr 0 (Operand.tmp 1)) (some (35, false)), AOper.mk (some 37) (AOp.load false 1 (Operand.tmp 36)) (some (35, false)), AOper.mk (some 38)
  (AOp.fadr 1 (Operand.tmp 5)) (some (35, false)), AOper.mk (some 39) (AOp.load false 1 (Operand.tmp 38)) (some (35, false)), AOper.mk (some 40)
  (AOp.call 99 [Operand.tmp 37, Operand.tmp 39]) (some (35, false)), AOper.mk (some 41) (AOp.un UnOp.not (Operand.tmp 40)) (some (35, false)), AOper.mk
  (some 42) (AOp.pick (Operand.tmp 35) (Operand.const (Value.bool true)) (Operand.tmp 41)) none, AOper.mk (some 43) (AOp.mov (Operand.tmp 42)) none,
  AOper.mk (some 44) (AOp.fadr 2 (Operand.tmp 5)) (some (43, false)), AOper.mk (some 45) (AOp.load false 1 (Operand.tmp 44)) (some (43, false)), AOper.mk
  (some 46) (AOp.bin false BinOp.lss (Operand.tmp 45) (Operand.const (Value.int IntKind.i64 1))) (some (43, false)), AOper.mk (some 47) (AOp.pick
  (Operand.tmp 43) (Operand.const (Value.bool true)) (Operand.tmp 46)) none, AOper.mk (some 48) (AOp.mov (Operand.tmp 47)) none, AOper.mk (some 49)
  (AOp.fadr 2 (Operand.tmp 5)) (some (48, false)), AOper.mk (some 50) (AOp.load false 1 (Operand.tmp 49)) (some (48, false)), AOper.mk (some 51) (AOp.bin
  false BinOp.gtr (Operand.tmp 50) (Operand.const (Value.int IntKind.i64 50))) (some (48, false)), AOper.mk (some 52) (AOp.pick (Operand.tmp 48)
  (Operand.const (Value.bool true)) (Operand.tmp 51)) none, AOper.mk (some 28) (AOp.mov (Operand.tmp 52)) none]) (AC.cond (Operand.tmp 28) (AC.seq
  (AC.ops [AOper.mk (some 2) (AOp.mov (Operand.const (Value.int IntKind.i64 2))) none]) AC.ret) (AC.seq (AC.ops [AOper.mk (some 54) (AOp.fadr 0
  (Operand.tmp 5)) none, AOper.mk (some 55) (AOp.load false 1 (Operand.tmp 54)) none, AOper.mk (some 56) (AOp.fadr 1 (Operand.tmp 5)) none, AOper.mk
  (some 57) (AOp.load false 1 (Operand.tmp 56)) none, AOper.mk (some 58) (AOp.bin false BinOp.gtr (Operand.tmp 55) (Operand.tmp 57)) none, AOper.mk (some
  59) (AOp.mov (Operand.tmp 58)) none, AOper.mk (some 60) (AOp.load true 2 (Operand.tmp 3)) (some (59, false)), AOper.mk (some 61) (AOp.load true 2
  (Operand.tmp 6)) (some (59, false)), AOper.mk (some 62) (AOp.call 100 [Operand.tmp 60, Operand.tmp 61]) (some (59, false)), AOper.mk (some 63) (AOp.bin
  false BinOp.geq (Operand.tmp 62) (Operand.const (Value.int IntKind.i64 0))) (some (59, false)), AOper.mk (some 64) (AOp.pick (Operand.tmp 59)
  (Operand.const (Value.bool true)) (Operand.tmp 63)) none, AOper.mk (some 53) (AOp.mov (Operand.tmp 64)) none]) (AC.cond (Operand.tmp 53) (AC.seq
  (AC.ops [AOper.mk (some 2) (AOp.mov (Operand.const (Value.int IntKind.i64 9))) none]) AC.ret) AC.skip))))) (AC.ops [AOper.mk (some 65) (AOp.load true 2
  (Operand.tmp 6)) none, AOper.mk none (AOp.store 2 (Operand.tmp 3) (Operand.tmp 65)) none]))))) (AC.ops [AOper.mk (some 66) (AOp.bin false BinOp.add
  (Operand.tmp 19) (Operand.const (Value.int IntKind.i64 1))) none, AOper.mk (some 19) (AOp.mov (Operand.tmp 66)) none]))))))) (AC.seq (AC.ops [AOper.mk
  (some 2) (AOp.mov (Operand.const (Value.int IntKind.i64 0))) none]) AC.ret))))) [ARes.tmp 2]
theorem cfn76 : cfn Try.prog 76 1 = some c76 := by kernel_rfl
def c77 : AFn :=
  AFn.mk 19 (AC.seq (AC.ops [AOper.mk (some 4) (AOp.mov (Operand.const (Value.int IntKind.i64 0))) none]) (AC.seq (AC.seq (AC.ops [AOper.mk (some 6)
  (AOp.mov (Operand.tmp 0)) none, AOper.mk (some 7) (AOp.len (Operand.tmp 6)) none, AOper.mk (some 8) (AOp.mov (Operand.const (Value.int IntKind.i64 0)))
  none]) (AC.block 0 (AC.loop (AC.seq (AC.ops [AOper.mk (some 9) (AOp.bin false BinOp.lss (Operand.tmp 8) (Operand.tmp 7)) none]) (AC.seq (AC.cond
  (Operand.tmp 9) AC.skip (AC.exit 0)) (AC.seq (AC.block 1 (AC.seq (AC.ops [AOper.mk (some 10) (AOp.mov (Operand.tmp 8)) none, AOper.mk (some 5) (AOp.mov
  (Operand.tmp 10)) none]) (AC.seq (AC.ops [AOper.mk (some 11) (AOp.mov (Operand.tmp 1)) none, AOper.mk (some 12) (AOp.mov (Operand.tmp 0)) none,
  AOper.mk (some 13) (AOp.mov (Operand.tmp 5)) none, AOper.mk (some 14) (AOp.iadr 1 (Operand.tmp 12) (Operand.tmp 13)) none, AOper.mk (some 15) (AOp.load
  false 1 (Operand.tmp 14)) none, AOper.mk (some 16) (AOp.bin false BinOp.eql (Operand.tmp 11) (Operand.tmp 15)) none]) (AC.cond (Operand.tmp 16) (AC.seq
  (AC.ops [AOper.mk (some 17) (AOp.mov (Operand.tmp 5)) none, AOper.mk (some 4) (AOp.mov (Operand.tmp 17)) none]) AC.ret) AC.skip)))) (AC.ops [AOper.mk
  (some 18) (AOp.bin false BinOp.add (Operand.tmp 8) (Operand.const (Value.int IntKind.i64 1))) none, AOper.mk (some 8) (AOp.mov (Operand.tmp 18))
  none]))))))) (AC.seq (AC.ops [AOper.mk (some 4) (AOp.mov (Operand.const (Value.int IntKind.i64 (-1)))) none]) AC.ret))) [ARes.tmp 4]
theorem cfn77 : cfn Try.prog 77 2 = some c77 := by kernel_rfl
def c78 : AFn :=
  AFn.mk 24 (AC.seq (AC.ops [AOper.mk (some 3) (AOp.box 24 (Operand.tmp 0)) none, AOper.mk (some 6) (AOp.mov (Operand.const (Value.bool false))) none])
  (AC.seq (AC.seq (AC.ops [AOper.mk (some 7) (AOp.fadr 1 (Operand.tmp 3)) none, AOper.mk (some 8) (AOp.load false 1 (Operand.tmp 7)) none, AOper.mk (some
  9) (AOp.len (Operand.tmp 8)) none, AOper.mk (some 10) (AOp.bin false BinOp.gtr (Operand.tmp 9) (Operand.const (Value.int IntKind.i64 40))) none])
  (AC.cond (Operand.tmp 10) (AC.seq (AC.ops [AOper.mk (some 6) (AOp.mov (Operand.const (Value.bool false))) none]) AC.ret) AC.skip)) (AC.seq (AC.seq
  (AC.ops [AOper.mk (some 11) (AOp.load true 2 (Operand.tmp 3)) none, AOper.mk (some 12) (AOp.call 87 [Operand.tmp 11]) none, AOper.mk (some 13) (AOp.bin
  false BinOp.neq (Operand.tmp 12) (Operand.const (Value.int IntKind.i64 0))) none]) (AC.cond (Operand.tmp 13) (AC.seq (AC.ops [AOper.mk (some 6)
  (AOp.mov (Operand.const (Value.bool true))) none]) AC.ret) AC.skip)) (AC.seq (AC.ops [AOper.mk (some 14) (AOp.fadr 0 (Operand.tmp 3)) none, AOper.mk
  (some 15) (AOp.load false 1 (Operand.tmp 14)) none, AOper.mk (some 16) (AOp.mov (Operand.tmp 1)) none, AOper.mk (some 17) (AOp.bin false BinOp.leq
  (Operand.tmp 15) (Operand.tmp 16)) none, AOper.mk (some 18) (AOp.mov (Operand.tmp 17)) none, AOper.mk (some 19) (AOp.load true 2 (Operand.tmp 3)) (some
  (18, true)), AOper.mk (some 20) (AOp.call 101 [Operand.tmp 19]) (some (18, true)), AOper.mk (some 21) (AOp.mov (Operand.tmp 2)) (some (18, true)),
  AOper.mk (some 22) (AOp.bin false BinOp.leq (Operand.tmp 20) (Operand.tmp 21)) (some (18, true)), AOper.mk (some 23) (AOp.pick (Operand.tmp 18)
  (Operand.tmp 22) (Operand.const (Value.bool false))) none, AOper.mk (some 6) (AOp.mov (Operand.tmp 23)) none]) AC.ret)))) [ARes.tmp 6]
theorem cfn78 : cfn Try.prog 78 3 = some c78 := by kernel_rfl
def c79 : AFn :=
  AFn.mk 35 (AC.seq (AC.ops [AOper.mk (some 1) (AOp.box 24 (Operand.tmp 0)) none, AOper.mk (some 2) (AOp.mov (Operand.const (Value.slice none 0 0)))
  none]) (AC.seq (AC.ops [AOper.mk (some 6) (AOp.fadr 0 (Operand.tmp 1)) none, AOper.mk (some 7) (AOp.load false 1 (Operand.tmp 6)) none, AOper.mk (some
  8) (AOp.call 102 [Operand.tmp 7]) none, AOper.mk (some 3) (AOp.mov (Operand.tmp 8)) none]) (AC.seq (AC.seq (AC.ops [AOper.mk (some 4) (AOp.mov
  (Operand.const (Value.int IntKind.i64 0))) none]) (AC.block 0 (AC.loop (AC.seq (AC.seq (AC.ops [AOper.mk (some 9) (AOp.mov (Operand.tmp 4)) none,
  AOper.mk (some 10) (AOp.fadr 0 (Operand.tmp 1)) none, AOper.mk (some 11) (AOp.load false 1 (Operand.tmp 10)) none, AOper.mk (some 12) (AOp.bin false
  BinOp.lss (Operand.tmp 9) (Operand.tmp 11)) none]) (AC.cond (Operand.tmp 12) AC.skip (AC.exit 0))) (AC.seq (AC.block 1 (AC.seq (AC.ops [AOper.mk (some
  5) (AOp.mov (Operand.const (Value.int IntKind.i64 0))) none]) (AC.block 2 (AC.loop (AC.seq (AC.seq (AC.ops [AOper.mk (some 15) (AOp.mov (Operand.tmp
  5)) none, AOper.mk (some 16) (AOp.fadr 0 (Operand.tmp 1)) none, AOper.mk (some 17) (AOp.load false 1 (Operand.tmp 16)) none, AOper.mk (some 18)
  (AOp.bin false BinOp.lss (Operand.tmp 15) (Operand.tmp 17)) none]) (AC.cond (Operand.tmp 18) AC.skip (AC.exit 2))) (AC.seq (AC.block 3 (AC.seq (AC.ops
  [AOper.mk (some 21) (AOp.mov (Operand.tmp 4)) none, AOper.mk (some 22) (AOp.mov (Operand.tmp 5)) none, AOper.mk (some 23) (AOp.bin false BinOp.neq
  (Operand.tmp 21) (Operand.tmp 22)) none]) (AC.cond (Operand.tmp 23) (AC.segs [([AOper.mk (some 24) (AOp.mov (Operand.tmp 3)) none, AOper.mk (some 25)
  (AOp.mov (Operand.tmp 4)) none, AOper.mk (some 26) (AOp.iadr 1 (Operand.tmp 24) (Operand.tmp 25)) none, AOper.mk (some 27) (AOp.load false 1
  (Operand.tmp 26)) none, AOper.mk (some 28) (AOp.mov (Operand.tmp 5)) none, AOper.mk (some 29) (AOp.load true 2 (Operand.tmp 1)) none, AOper.mk (some
  30) (AOp.mov (Operand.tmp 4)) none, AOper.mk (some 31) (AOp.mov (Operand.tmp 5)) none], some (true, AOper.mk (some 32) (AOp.call 71 [Operand.tmp 29,
  Operand.tmp 30, Operand.tmp 31]) none)), ([AOper.mk (some 33) (AOp.iadr 1 (Operand.tmp 27) (Operand.tmp 28)) none], some (false, AOper.mk none
  (AOp.store 1 (Operand.tmp 33) (Operand.tmp 32)) none))]) AC.skip))) (AC.ops [AOper.mk (some 19) (AOp.mov (Operand.tmp 5)) none, AOper.mk (some 20)
  (AOp.bin false BinOp.add (Operand.tmp 19) (Operand.const (Value.int IntKind.i64 1))) none, AOper.mk (some 5) (AOp.mov (Operand.tmp 20)) none])))))))
  (AC.ops [AOper.mk (some 13) (AOp.mov (Operand.tmp 4)) none, AOper.mk (some 14) (AOp.bin false BinOp.add (Operand.tmp 13) (Operand.const (Value.int
  IntKind.i64 1))) none, AOper.mk (some 4) (AOp.mov (Operand.tmp 14)) none])))))) (AC.seq (AC.ops [AOper.mk (some 34) (AOp.mov (Operand.tmp 3)) none,
  AOper.mk (some 2) (AOp.mov (Operand.tmp 34)) none]) AC.ret)))) [ARes.tmp 2]
theorem cfn79 : cfn Try.prog 79 1 = some c79 := by kernel_rfl
def c80 : AFn :=
  AFn.mk 18 (AC.seq (AC.ops [AOper.mk (some 1) (AOp.box 24 (Operand.tmp 0)) none, AOper.mk (some 2) (AOp.mov (Operand.const (Value.slice none 0 0)))
  none]) (AC.seq (AC.ops [AOper.mk (some 3) (AOp.mov (Operand.const (Value.slice none 0 0))) none]) (AC.seq (AC.seq (AC.ops [AOper.mk (some 4) (AOp.mov
  (Operand.const (Value.int IntKind.i64 0))) none]) (AC.block 0 (AC.loop (AC.seq (AC.seq (AC.ops [AOper.mk (some 5) (AOp.mov (Operand.tmp 4)) none,
  AOper.mk (some 6) (AOp.fadr 0 (Operand.tmp 1)) none, AOper.mk (some 7) (AOp.load false 1 (Operand.tmp 6)) none, AOper.mk (some 8) (AOp.bin false
  BinOp.lss (Operand.tmp 5) (Operand.tmp 7)) none]) (AC.cond (Operand.tmp 8) AC.skip (AC.exit 0))) (AC.seq (AC.block 1 (AC.ops [AOper.mk (some 11)
  (AOp.mov (Operand.tmp 3)) none, AOper.mk (some 12) (AOp.load true 2 (Operand.tmp 1)) none, AOper.mk (some 13) (AOp.mov (Operand.tmp 4)) none, AOper.mk
  (some 14) (AOp.call 37 [Operand.tmp 12, Operand.tmp 13]) none, AOper.mk (some 15) (AOp.bsl 3 1 [Operand.tmp 14]) none, AOper.mk (some 16) (AOp.app 3 1
  (Operand.tmp 11) (Operand.tmp 15)) none, AOper.mk (some 3) (AOp.mov (Operand.tmp 16)) none])) (AC.ops [AOper.mk (some 9) (AOp.mov (Operand.tmp 4))
  none, AOper.mk (some 10) (AOp.bin false BinOp.add (Operand.tmp 9) (Operand.const (Value.int IntKind.i64 1))) none, AOper.mk (some 4) (AOp.mov
  (Operand.tmp 10)) none])))))) (AC.seq (AC.ops [AOper.mk (some 17) (AOp.mov (Operand.tmp 3)) none, AOper.mk (some 2) (AOp.mov (Operand.tmp 17)) none])
  AC.ret)))) [ARes.tmp 2]
theorem cfn80 : cfn Try.prog 80 1 = some c80 := by kernel_rfl
def c81 : AFn :=
  AFn.mk 29 (AC.seq (AC.ops [AOper.mk (some 6) (AOp.mov (Operand.const (Value.int IntKind.i64 0))) none]) (AC.seq (AC.seq (AC.ops [AOper.mk (some 7)
  (AOp.mov (Operand.const (Value.int IntKind.i64 0))) none]) (AC.block 0 (AC.loop (AC.seq (AC.seq (AC.ops [AOper.mk (some 8) (AOp.mov (Operand.tmp 7))
  none, AOper.mk (some 9) (AOp.mov (Operand.tmp 0)) none, AOper.mk (some 10) (AOp.len (Operand.tmp 9)) none, AOper.mk (some 11) (AOp.bin false BinOp.lss
  (Operand.tmp 8) (Operand.tmp 10)) none]) (AC.cond (Operand.tmp 11) AC.skip (AC.exit 0))) (AC.seq (AC.block 1 (AC.seq (AC.segs [([AOper.mk (some 14)
  (AOp.mov (Operand.tmp 7)) none, AOper.mk (some 15) (AOp.mov (Operand.tmp 1)) none, AOper.mk (some 16) (AOp.bin false BinOp.neq (Operand.tmp 14)
  (Operand.tmp 15)) none, AOper.mk (some 17) (AOp.mov (Operand.tmp 16)) none, AOper.mk (some 18) (AOp.mov (Operand.tmp 0)) (some (17, true)), AOper.mk
  (some 19) (AOp.mov (Operand.tmp 7)) (some (17, true)), AOper.mk (some 20) (AOp.iadr 1 (Operand.tmp 18) (Operand.tmp 19)) (some (17, true)), AOper.mk
  (some 21) (AOp.load false 1 (Operand.tmp 20)) (some (17, true)), AOper.mk (some 22) (AOp.mov (Operand.tmp 2)) (some (17, true)), AOper.mk (some 23)
  (AOp.mov (Operand.tmp 7)) (some (17, true)), AOper.mk (some 24) (AOp.iadr 1 (Operand.tmp 22) (Operand.tmp 23)) (some (17, true)), AOper.mk (some 25)
  (AOp.load false 1 (Operand.tmp 24)) (some (17, true)), AOper.mk (some 26) (AOp.bin false BinOp.geq (Operand.tmp 21) (Operand.tmp 25)) (some (17,
  true)), AOper.mk (some 27) (AOp.pick (Operand.tmp 17) (Operand.tmp 26) (Operand.const (Value.bool false))) none], none)]) (AC.cond (Operand.tmp 27)
  (AC.seq (AC.ops [AOper.mk (some 28) (AOp.mov (Operand.tmp 7)) none, AOper.mk (some 6) (AOp.mov (Operand.tmp 28)) none]) AC.ret) AC.skip))) (AC.ops
  [AOper.mk (some 12) (AOp.mov (Operand.tmp 7)) none, AOper.mk (some 13) (AOp.bin false BinOp.add (Operand.tmp 12) (Operand.const (Value.int IntKind.i64
  1))) none, AOper.mk (some 7) (AOp.mov (Operand.tmp 13)) none])))))) (AC.seq (AC.ops [AOper.mk (some 6) (AOp.mov (Operand.const (Value.int IntKind.i64
  (-1)))) none]) AC.ret))) [ARes.tmp 6]
theorem cfn81 : cfn Try.prog 81 3 = some c81 := by kernel_rfl
def c82 : AFn :=
  AFn.mk 19 (AC.seq (AC.ops [AOper.mk (some 4) (AOp.mov (Operand.const (Value.int IntKind.i64 0))) none]) (AC.seq (AC.seq (AC.ops [AOper.mk (some 6)
  (AOp.mov (Operand.tmp 0)) none, AOper.mk (some 7) (AOp.len (Operand.tmp 6)) none, AOper.mk (some 8) (AOp.mov (Operand.const (Value.int IntKind.i64 0)))
  none]) (AC.block 0 (AC.loop (AC.seq (AC.ops [AOper.mk (some 9) (AOp.bin false BinOp.lss (Operand.tmp 8) (Operand.tmp 7)) none]) (AC.seq (AC.cond
  (Operand.tmp 9) AC.skip (AC.exit 0)) (AC.seq (AC.block 1 (AC.seq (AC.ops [AOper.mk (some 10) (AOp.mov (Operand.tmp 8)) none, AOper.mk (some 5) (AOp.mov
  (Operand.tmp 10)) none]) (AC.seq (AC.ops [AOper.mk (some 11) (AOp.mov (Operand.tmp 1)) none, AOper.mk (some 12) (AOp.mov (Operand.tmp 0)) none,
  AOper.mk (some 13) (AOp.mov (Operand.tmp 5)) none, AOper.mk (some 14) (AOp.iadr 1 (Operand.tmp 12) (Operand.tmp 13)) none, AOper.mk (some 15) (AOp.load
  false 1 (Operand.tmp 14)) none, AOper.mk (some 16) (AOp.bin true BinOp.eql (Operand.tmp 11) (Operand.tmp 15)) none]) (AC.cond (Operand.tmp 16) (AC.seq
  (AC.ops [AOper.mk (some 17) (AOp.mov (Operand.tmp 5)) none, AOper.mk (some 4) (AOp.mov (Operand.tmp 17)) none]) AC.ret) AC.skip)))) (AC.ops [AOper.mk
  (some 18) (AOp.bin false BinOp.add (Operand.tmp 8) (Operand.const (Value.int IntKind.i64 1))) none, AOper.mk (some 8) (AOp.mov (Operand.tmp 18))
  none]))))))) (AC.seq (AC.ops [AOper.mk (some 4) (AOp.mov (Operand.const (Value.int IntKind.i64 (-1)))) none]) AC.ret))) [ARes.tmp 4]
theorem cfn82 : cfn Try.prog 82 2 = some c82 := by kernel_rfl
def c83 : AFn :=
  AFn.mk 12 (AC.segs [([AOper.mk (some 4) (AOp.mov (Operand.tmp 0)) none, AOper.mk (some 5) (AOp.mov (Operand.tmp 1)) none, AOper.mk (some 6) (AOp.mov
  (Operand.tmp 0)) none, AOper.mk (some 7) (AOp.mov (Operand.tmp 1)) none, AOper.mk (some 9) (AOp.nilc (Operand.tmp 4)) none, AOper.mk (some 10)
  (AOp.fadr 6 (Operand.tmp 9)) none], some (true, AOper.mk (some 8) (AOp.call 103 [Operand.tmp 6, Operand.tmp 7]) none)), ([AOper.mk (some 11) (AOp.iadrA
  12 1 (Operand.tmp 10) (Operand.tmp 5)) none], some (false, AOper.mk none (AOp.store 1 (Operand.tmp 11) (Operand.tmp 8)) none))]) []
theorem cfn83 : cfn Try.prog 83 2 = some c83 := by kernel_rfl
def c84 : AFn :=
  AFn.mk 15 (AC.seq (AC.ops [AOper.mk (some 1) (AOp.box 24 (Operand.tmp 0)) none, AOper.mk (some 2) (AOp.mov (Operand.const (Value.bool false))) none,
  AOper.mk (some 3) (AOp.mov (Operand.const (Value.int IntKind.i64 0))) none]) (AC.seq (AC.ops [AOper.mk (some 7) (AOp.load true 2 (Operand.tmp 1)) none,
  AOper.mk (some 8) (AOp.call 104 [Operand.tmp 7]) none, AOper.mk (some 6) (AOp.mov (Operand.tmp 8)) none, AOper.mk (some 9) (AOp.ext (Operand.tmp 6) 0)
  none, AOper.mk (some 10) (AOp.ext (Operand.tmp 6) 1) none, AOper.mk (some 4) (AOp.mov (Operand.tmp 9)) none, AOper.mk (some 5) (AOp.mov (Operand.tmp
  10)) none]) (AC.seq (AC.ops [AOper.mk (some 11) (AOp.mov (Operand.tmp 4)) none, AOper.mk (some 12) (AOp.len (Operand.tmp 11)) none, AOper.mk (some 13)
  (AOp.bin false BinOp.eql (Operand.tmp 12) (Operand.const (Value.int IntKind.i64 1))) none, AOper.mk (some 14) (AOp.mov (Operand.tmp 5)) none, AOper.mk
  (some 2) (AOp.mov (Operand.tmp 13)) none, AOper.mk (some 3) (AOp.mov (Operand.tmp 14)) none]) AC.ret))) [ARes.tmp 2, ARes.tmp 3]
theorem cfn84 : cfn Try.prog 84 1 = some c84 := by kernel_rfl
def c85 : AFn :=
  AFn.mk 8 (AC.seq (AC.ops [AOper.mk (some 2) (AOp.mov (Operand.const (Value.slice none 0 0))) none]) (AC.seq (AC.seq (AC.ops [AOper.mk (some 3) (AOp.mov
  (Operand.tmp 0)) none, AOper.mk (some 4) (AOp.eqn false (Operand.tmp 3)) none]) (AC.cond (Operand.tmp 4) (AC.seq (AC.ops [AOper.mk (some 2) (AOp.mov
  (Operand.const (Value.slice none 0 0))) none]) AC.ret) AC.skip)) (AC.seq (AC.ops [AOper.mk (some 5) (AOp.bsl 3 1 []) none, AOper.mk (some 6) (AOp.mov
  (Operand.tmp 0)) none, AOper.mk (some 7) (AOp.app 3 1 (Operand.tmp 5) (Operand.tmp 6)) none, AOper.mk (some 2) (AOp.mov (Operand.tmp 7)) none])
  AC.ret))) [ARes.tmp 2]
theorem cfn85 : cfn Try.prog 85 1 = some c85 := by kernel_rfl
noncomputable def rc86_0a : Go.Code := rngA Try.prog 86 0
def ra86_0a : AC :=
  AC.ops [AOper.mk (some 7) (AOp.zro 142 (PV.agg [PV.v (Value.int IntKind.i64 0), PV.v (Value.int IntKind.i64 0)])) none, AOper.mk none (AOp.store 2
  (Operand.tmp 7) (Operand.tmp 16)) none]
theorem rcc86_0a : ccode Try.prog 26 rc86_0a = some ra86_0a := by kernel_rfl
noncomputable def rc86_0c : Go.Code := rngC Try.prog 86 0
def ra86_0c : AC :=
  AC.block 1 (AC.ops [AOper.mk (some 17) (AOp.load false 1 (Operand.tmp 5)) none, AOper.mk (some 18) (AOp.fadr 0 (Operand.tmp 7)) none, AOper.mk (some
  19) (AOp.load false 1 (Operand.tmp 18)) none, AOper.mk (some 20) (AOp.fadr 1 (Operand.tmp 7)) none, AOper.mk (some 21) (AOp.load false 1 (Operand.tmp
  20)) none, AOper.mk (some 22) (AOp.bld [PV.v (Value.int IntKind.i64 0), PV.v (Value.int IntKind.i64 0)] [(0, 1), (1, 1)] [(0, Operand.tmp 19), (1,
  Operand.tmp 21)]) none, AOper.mk (some 23) (AOp.bsl 131 2 [Operand.tmp 22]) none, AOper.mk (some 24) (AOp.app 131 2 (Operand.tmp 17) (Operand.tmp 23))
  none, AOper.mk none (AOp.store 1 (Operand.tmp 5) (Operand.tmp 24)) none])
theorem rcc86_0c : ccode Try.prog 26 rc86_0c = some ra86_0c := by kernel_rfl
noncomputable def c86 : AFn :=
  AFn.mk 26 (AC.seq (AC.ops [AOper.mk (some 1) (AOp.box 24 (Operand.tmp 0)) none, AOper.mk (some 2) (AOp.mov (Operand.const (Value.slice none 0 0)))
  none, AOper.mk (some 3) (AOp.mov (Operand.const (Value.int IntKind.i64 0))) none]) (AC.seq (AC.seq (AC.ops [AOper.mk (some 8) (AOp.load true 2
  (Operand.tmp 1)) none, AOper.mk (some 9) (AOp.call 76 [Operand.tmp 8]) none, AOper.mk (some 4) (AOp.mov (Operand.tmp 9)) none]) (AC.seq (AC.ops
  [AOper.mk (some 10) (AOp.mov (Operand.tmp 4)) none, AOper.mk (some 11) (AOp.bin false BinOp.neq (Operand.tmp 10) (Operand.const (Value.int IntKind.i64
  0))) none]) (AC.cond (Operand.tmp 11) (AC.seq (AC.ops [AOper.mk (some 12) (AOp.mov (Operand.tmp 4)) none, AOper.mk (some 2) (AOp.mov (Operand.const
  (Value.slice none 0 0))) none, AOper.mk (some 3) (AOp.mov (Operand.tmp 12)) none]) AC.ret) AC.skip))) (AC.seq (AC.ops [AOper.mk (some 5) (AOp.zro 128
  (PV.v (Value.slice none 0 0))) none]) (AC.seq (AC.seq (AC.ops [AOper.mk (some 13) (AOp.load true 2 (Operand.tmp 1)) none, AOper.mk (some 14) (AOp.call
  105 [Operand.tmp 13]) none]) (AC.block 0 (AC.rangeF 26 (Operand.tmp 14) [15, 16] rc86_0a rc86_0c))) (AC.seq (AC.ops [AOper.mk (some 25) (AOp.load false 1
  (Operand.tmp 5)) none, AOper.mk (some 2) (AOp.mov (Operand.tmp 25)) none, AOper.mk (some 3) (AOp.mov (Operand.const (Value.int IntKind.i64 0))) none])
  AC.ret))))) [ARes.tmp 2, ARes.tmp 3]
theorem cfn86 : cfn Try.prog 86 1 = some c86 := by kernel_rfl
def c87 : AFn :=
  AFn.mk 26 (AC.seq (AC.ops [AOper.mk (some 1) (AOp.box 24 (Operand.tmp 0)) none, AOper.mk (some 2) (AOp.mov (Operand.const (Value.int IntKind.i64 0)))
  none]) (AC.seq (AC.seq (AC.ops [AOper.mk (some 5) (AOp.fadr 0 (Operand.tmp 1)) none, AOper.mk (some 6) (AOp.load false 1 (Operand.tmp 5)) none,
  AOper.mk (some 7) (AOp.bin false BinOp.lss (Operand.tmp 6) (Operand.const (Value.int IntKind.i64 1))) none, AOper.mk (some 8) (AOp.mov (Operand.tmp 7))
  none, AOper.mk (some 9) (AOp.fadr 0 (Operand.tmp 1)) (some (8, false)), AOper.mk (some 10) (AOp.load false 1 (Operand.tmp 9)) (some (8, false)),
  AOper.mk (some 11) (AOp.bin false BinOp.gtr (Operand.tmp 10) (Operand.const (Value.int IntKind.i64 12))) (some (8, false)), AOper.mk (some 12)
  (AOp.pick (Operand.tmp 8) (Operand.const (Value.bool true)) (Operand.tmp 11)) none]) (AC.cond (Operand.tmp 12) (AC.seq (AC.ops [AOper.mk (some 2)
  (AOp.mov (Operand.const (Value.int IntKind.i64 2))) none]) AC.ret) AC.skip)) (AC.seq (AC.seq (AC.ops [AOper.mk (some 3) (AOp.mov (Operand.const
  (Value.int IntKind.i64 0))) none]) (AC.block 0 (AC.loop (AC.seq (AC.seq (AC.ops [AOper.mk (some 13) (AOp.mov (Operand.tmp 3)) none, AOper.mk (some 14)
  (AOp.fadr 1 (Operand.tmp 1)) none, AOper.mk (some 15) (AOp.load false 1 (Operand.tmp 14)) none, AOper.mk (some 16) (AOp.len (Operand.tmp 15)) none,
  AOper.mk (some 17) (AOp.bin false BinOp.lss (Operand.tmp 13) (Operand.tmp 16)) none]) (AC.cond (Operand.tmp 17) AC.skip (AC.exit 0))) (AC.seq (AC.block
  1 (AC.seq (AC.ops [AOper.mk (some 20) (AOp.load true 2 (Operand.tmp 1)) none, AOper.mk (some 21) (AOp.mov (Operand.tmp 3)) none, AOper.mk (some 22)
  (AOp.call 106 [Operand.tmp 20, Operand.tmp 21]) none, AOper.mk (some 4) (AOp.mov (Operand.tmp 22)) none]) (AC.seq (AC.ops [AOper.mk (some 23) (AOp.mov
  (Operand.tmp 4)) none, AOper.mk (some 24) (AOp.bin false BinOp.neq (Operand.tmp 23) (Operand.const (Value.int IntKind.i64 0))) none]) (AC.cond
  (Operand.tmp 24) (AC.seq (AC.ops [AOper.mk (some 25) (AOp.mov (Operand.tmp 4)) none, AOper.mk (some 2) (AOp.mov (Operand.tmp 25)) none]) AC.ret)
  AC.skip)))) (AC.ops [AOper.mk (some 18) (AOp.mov (Operand.tmp 3)) none, AOper.mk (some 19) (AOp.bin false BinOp.add (Operand.tmp 18) (Operand.const
  (Value.int IntKind.i64 1))) none, AOper.mk (some 3) (AOp.mov (Operand.tmp 19)) none])))))) (AC.seq (AC.ops [AOper.mk (some 2) (AOp.mov (Operand.const
  (Value.int IntKind.i64 0))) none]) AC.ret)))) [ARes.tmp 2]
theorem cfn87 : cfn Try.prog 87 1 = some c87 := by kernel_rfl
def c88 : AFn :=
  AFn.mk 6 (AC.seq (AC.ops [AOper.mk (some 1) (AOp.box 24 (Operand.tmp 0)) none, AOper.mk (some 2) (AOp.mov (Operand.const (Value.bool false))) none])
  (AC.seq (AC.ops [AOper.mk (some 3) (AOp.load true 2 (Operand.tmp 1)) none, AOper.mk (some 4) (AOp.call 107 [Operand.tmp 3]) none, AOper.mk (some 5)
  (AOp.bin false BinOp.eql (Operand.tmp 4) (Operand.const (Value.int IntKind.i64 1))) none, AOper.mk (some 2) (AOp.mov (Operand.tmp 5)) none]) AC.ret))
  [ARes.tmp 2]
theorem cfn88 : cfn Try.prog 88 1 = some c88 := by kernel_rfl
def c89 : AFn :=
  AFn.mk 9 (AC.seq (AC.ops [AOper.mk (some 2) (AOp.mov (Operand.const (Value.int IntKind.i64 0))) none]) (AC.seq (AC.seq (AC.ops [AOper.mk (some 3)
  (AOp.mov (Operand.tmp 0)) none, AOper.mk (some 4) (AOp.bin false BinOp.lss (Operand.tmp 3) (Operand.const (Value.int IntKind.i64 1))) none, AOper.mk
  (some 5) (AOp.mov (Operand.tmp 4)) none, AOper.mk (some 6) (AOp.mov (Operand.tmp 0)) (some (5, false)), AOper.mk (some 7) (AOp.bin false BinOp.gtr
  (Operand.tmp 6) (Operand.const (Value.int IntKind.i64 12))) (some (5, false)), AOper.mk (some 8) (AOp.pick (Operand.tmp 5) (Operand.const (Value.bool
  true)) (Operand.tmp 7)) none]) (AC.cond (Operand.tmp 8) (AC.seq (AC.ops [AOper.mk (some 2) (AOp.mov (Operand.const (Value.int IntKind.i64 2))) none])
  AC.ret) AC.skip)) (AC.seq (AC.ops [AOper.mk (some 2) (AOp.mov (Operand.const (Value.int IntKind.i64 0))) none]) AC.ret))) [ARes.tmp 2]
theorem cfn89 : cfn Try.prog 89 1 = some c89 := by kernel_rfl
def c90 : AFn :=
  AFn.mk 9 (AC.seq (AC.ops [AOper.mk (some 2) (AOp.mov (Operand.const (Value.bool false))) none]) (AC.seq (AC.ops [AOper.mk (some 3) (AOp.mov
  (Operand.tmp 0)) none, AOper.mk (some 4) (AOp.bin false BinOp.geq (Operand.tmp 3) (Operand.const (Value.int IntKind.i64 (-1048576)))) none, AOper.mk
  (some 5) (AOp.mov (Operand.tmp 4)) none, AOper.mk (some 6) (AOp.mov (Operand.tmp 0)) (some (5, true)), AOper.mk (some 7) (AOp.bin false BinOp.leq
  (Operand.tmp 6) (Operand.const (Value.int IntKind.i64 1048576))) (some (5, true)), AOper.mk (some 8) (AOp.pick (Operand.tmp 5) (Operand.tmp 7)
  (Operand.const (Value.bool false))) none, AOper.mk (some 2) (AOp.mov (Operand.tmp 8)) none]) AC.ret)) [ARes.tmp 2]
theorem cfn90 : cfn Try.prog 90 1 = some c90 := by kernel_rfl
def c91 : AFn :=
  AFn.mk 36 (AC.seq (AC.ops [AOper.mk (some 2) (AOp.mov (Operand.const (Value.int IntKind.i64 0))) none]) (AC.seq (AC.seq (AC.ops [AOper.mk (some 8)
  (AOp.mov (Operand.tmp 0)) none, AOper.mk (some 9) (AOp.len (Operand.tmp 8)) none, AOper.mk (some 10) (AOp.mov (Operand.const (Value.int IntKind.i64
  0))) none]) (AC.block 0 (AC.loop (AC.seq (AC.ops [AOper.mk (some 11) (AOp.bin false BinOp.lss (Operand.tmp 10) (Operand.tmp 9)) none]) (AC.seq (AC.cond
  (Operand.tmp 11) AC.skip (AC.exit 0)) (AC.seq (AC.block 1 (AC.seq (AC.ops [AOper.mk (some 12) (AOp.iadr 1 (Operand.tmp 8) (Operand.tmp 10)) none,
  AOper.mk (some 13) (AOp.load false 1 (Operand.tmp 12)) none, AOper.mk (some 4) (AOp.mov (Operand.tmp 13)) none]) (AC.seq (AC.ops [AOper.mk (some 14)
  (AOp.mov (Operand.tmp 4)) none, AOper.mk (some 15) (AOp.mov (Operand.tmp 4)) none, AOper.mk (some 16) (AOp.len (Operand.tmp 15)) none, AOper.mk (some
  17) (AOp.call 62 [Operand.tmp 14, Operand.tmp 16]) none, AOper.mk (some 5) (AOp.mov (Operand.tmp 17)) none]) (AC.seq (AC.ops [AOper.mk (some 18)
  (AOp.mov (Operand.tmp 5)) none, AOper.mk (some 19) (AOp.bin false BinOp.neq (Operand.tmp 18) (Operand.const (Value.int IntKind.i64 0))) none]) (AC.cond
  (Operand.tmp 19) (AC.seq (AC.ops [AOper.mk (some 20) (AOp.mov (Operand.tmp 5)) none, AOper.mk (some 2) (AOp.mov (Operand.tmp 20)) none]) AC.ret)
  AC.skip))))) (AC.ops [AOper.mk (some 21) (AOp.bin false BinOp.add (Operand.tmp 10) (Operand.const (Value.int IntKind.i64 1))) none, AOper.mk (some 10)
  (AOp.mov (Operand.tmp 21)) none]))))))) (AC.seq (AC.seq (AC.ops [AOper.mk (some 22) (AOp.mov (Operand.tmp 0)) none, AOper.mk (some 23) (AOp.len
  (Operand.tmp 22)) none, AOper.mk (some 24) (AOp.mov (Operand.const (Value.int IntKind.i64 0))) none]) (AC.block 2 (AC.loop (AC.seq (AC.ops [AOper.mk
  (some 25) (AOp.bin false BinOp.lss (Operand.tmp 24) (Operand.tmp 23)) none]) (AC.seq (AC.cond (Operand.tmp 25) AC.skip (AC.exit 2)) (AC.seq (AC.block 3
  (AC.seq (AC.ops [AOper.mk (some 26) (AOp.iadr 1 (Operand.tmp 22) (Operand.tmp 24)) none, AOper.mk (some 27) (AOp.load false 1 (Operand.tmp 26)) none,
  AOper.mk (some 7) (AOp.mov (Operand.tmp 27)) none]) (AC.seq (AC.ops [AOper.mk (some 28) (AOp.mov (Operand.tmp 7)) none, AOper.mk (some 29) (AOp.len
  (Operand.tmp 28)) none, AOper.mk (some 30) (AOp.mov (Operand.tmp 0)) none, AOper.mk (some 31) (AOp.iadr 1 (Operand.tmp 30) (Operand.const (Value.int
  IntKind.i64 0))) none, AOper.mk (some 32) (AOp.load false 1 (Operand.tmp 31)) none, AOper.mk (some 33) (AOp.len (Operand.tmp 32)) none, AOper.mk (some
  34) (AOp.bin false BinOp.neq (Operand.tmp 29) (Operand.tmp 33)) none]) (AC.cond (Operand.tmp 34) (AC.seq (AC.ops [AOper.mk (some 2) (AOp.mov
  (Operand.const (Value.int IntKind.i64 8))) none]) AC.ret) AC.skip)))) (AC.ops [AOper.mk (some 35) (AOp.bin false BinOp.add (Operand.tmp 24)
  (Operand.const (Value.int IntKind.i64 1))) none, AOper.mk (some 24) (AOp.mov (Operand.tmp 35)) none]))))))) (AC.seq (AC.ops [AOper.mk (some 2) (AOp.mov
  (Operand.const (Value.int IntKind.i64 0))) none]) AC.ret)))) [ARes.tmp 2]
theorem cfn91 : cfn Try.prog 91 1 = some c91 := by kernel_rfl
def c92 : AFn :=
  AFn.mk 9 (AC.seq (AC.ops [AOper.mk (some 4) (AOp.mov (Operand.const (Value.bool false))) none]) (AC.seq (AC.ops [AOper.mk (some 5) (AOp.mov
  (Operand.tmp 0)) none, AOper.mk (some 6) (AOp.mov (Operand.tmp 1)) none, AOper.mk (some 7) (AOp.call 108 [Operand.tmp 5, Operand.tmp 6]) none, AOper.mk
  (some 8) (AOp.bin false BinOp.geq (Operand.tmp 7) (Operand.const (Value.int IntKind.i64 0))) none, AOper.mk (some 4) (AOp.mov (Operand.tmp 8)) none])
  AC.ret)) [ARes.tmp 4]
theorem cfn92 : cfn Try.prog 92 2 = some c92 := by kernel_rfl
def c93 : AFn :=
  AFn.mk 9 (AC.seq (AC.ops [AOper.mk (some 2) (AOp.mov (Operand.const (Value.bool false))) none]) (AC.seq (AC.ops [AOper.mk (some 3) (AOp.mov
  (Operand.tmp 0)) none, AOper.mk (some 4) (AOp.bin false BinOp.lss (Operand.tmp 3) (Operand.const (Value.int IntKind.i64 (-1048576)))) none, AOper.mk
  (some 5) (AOp.mov (Operand.tmp 4)) none, AOper.mk (some 6) (AOp.mov (Operand.tmp 0)) (some (5, false)), AOper.mk (some 7) (AOp.bin false BinOp.gtr
  (Operand.tmp 6) (Operand.const (Value.int IntKind.i64 1048576))) (some (5, false)), AOper.mk (some 8) (AOp.pick (Operand.tmp 5) (Operand.const
  (Value.bool true)) (Operand.tmp 7)) none, AOper.mk (some 2) (AOp.mov (Operand.tmp 8)) none]) AC.ret)) [ARes.tmp 2]
theorem cfn93 : cfn Try.prog 93 1 = some c93 := by kernel_rfl
def c94 : AFn :=
  AFn.mk 35 (AC.seq (AC.ops [AOper.mk (some 3) (AOp.box 120 (Operand.tmp 0)) none]) (AC.seq (AC.segs [([AOper.mk (some 5) (AOp.fadr 2 (Operand.tmp 3))
  none, AOper.mk (some 6) (AOp.load false 1 (Operand.tmp 5)) none, AOper.mk (some 7) (AOp.load false 1 (Operand.tmp 1)) none, AOper.mk (some 8) (AOp.fadr
  0 (Operand.tmp 3)) none, AOper.mk (some 9) (AOp.load false 1 (Operand.tmp 8)) none, AOper.mk (some 10) (AOp.iadr 1 (Operand.tmp 7) (Operand.tmp 9))
  none, AOper.mk (some 11) (AOp.load false 1 (Operand.tmp 10)) none, AOper.mk (some 12) (AOp.load false 1 (Operand.tmp 1)) none, AOper.mk (some 13)
  (AOp.fadr 1 (Operand.tmp 3)) none, AOper.mk (some 14) (AOp.load false 1 (Operand.tmp 13)) none, AOper.mk (some 15) (AOp.iadr 1 (Operand.tmp 12)
  (Operand.tmp 14)) none, AOper.mk (some 16) (AOp.load false 1 (Operand.tmp 15)) none, AOper.mk (some 17) (AOp.bin false BinOp.sub (Operand.tmp 11)
  (Operand.tmp 16)) none, AOper.mk (some 18) (AOp.bin false BinOp.mul (Operand.tmp 6) (Operand.tmp 17)) none, AOper.mk (some 4) (AOp.mov (Operand.tmp
  18)) none], none)]) (AC.seq (AC.ops [AOper.mk (some 19) (AOp.load false 1 (Operand.tmp 2)) none, AOper.mk (some 20) (AOp.fadr 0 (Operand.tmp 3)) none,
  AOper.mk (some 21) (AOp.load false 1 (Operand.tmp 20)) none, AOper.mk (some 22) (AOp.iadr 1 (Operand.tmp 19) (Operand.tmp 21)) none, AOper.mk (some 23)
  (AOp.load false 1 (Operand.tmp 22)) none, AOper.mk (some 24) (AOp.mov (Operand.tmp 4)) none, AOper.mk (some 25) (AOp.bin false BinOp.sub (Operand.tmp
  23) (Operand.tmp 24)) none, AOper.mk (some 26) (AOp.iadr 1 (Operand.tmp 19) (Operand.tmp 21)) none, AOper.mk none (AOp.store 1 (Operand.tmp 26)
  (Operand.tmp 25)) none]) (AC.ops [AOper.mk (some 27) (AOp.load false 1 (Operand.tmp 2)) none, AOper.mk (some 28) (AOp.fadr 1 (Operand.tmp 3)) none,
  AOper.mk (some 29) (AOp.load false 1 (Operand.tmp 28)) none, AOper.mk (some 30) (AOp.iadr 1 (Operand.tmp 27) (Operand.tmp 29)) none, AOper.mk (some 31)
  (AOp.load false 1 (Operand.tmp 30)) none, AOper.mk (some 32) (AOp.mov (Operand.tmp 4)) none, AOper.mk (some 33) (AOp.bin false BinOp.add (Operand.tmp
  31) (Operand.tmp 32)) none, AOper.mk (some 34) (AOp.iadr 1 (Operand.tmp 27) (Operand.tmp 29)) none, AOper.mk none (AOp.store 1 (Operand.tmp 34)
  (Operand.tmp 33)) none])))) []
theorem cfn94 : cfn Try.prog 94 3 = some c94 := by kernel_rfl
def c95 : AFn :=
  AFn.mk 9 (AC.seq (AC.ops [AOper.mk (some 4) (AOp.mov (Operand.const (Value.bool false))) none]) (AC.seq (AC.ops [AOper.mk (some 5) (AOp.mov
  (Operand.tmp 0)) none, AOper.mk (some 6) (AOp.mov (Operand.tmp 1)) none, AOper.mk (some 7) (AOp.call 109 [Operand.tmp 5, Operand.tmp 6]) none, AOper.mk
  (some 8) (AOp.bin false BinOp.geq (Operand.tmp 7) (Operand.const (Value.int IntKind.i64 0))) none, AOper.mk (some 4) (AOp.mov (Operand.tmp 8)) none])
  AC.ret)) [ARes.tmp 4]
theorem cfn95 : cfn Try.prog 95 2 = some c95 := by kernel_rfl
def c96 : AFn :=
  AFn.mk 12 (AC.seq (AC.ops [AOper.mk (some 3) (AOp.mov (Operand.const (Value.bool false))) none]) (AC.seq (AC.ops [AOper.mk (some 4) (AOp.mov
  (Operand.tmp 0)) none, AOper.mk (some 5) (AOp.bin false BinOp.lss (Operand.tmp 4) (Operand.const (Value.int IntKind.i64 0))) none, AOper.mk (some 6)
  (AOp.mov (Operand.tmp 5)) none, AOper.mk (some 7) (AOp.mov (Operand.tmp 0)) (some (6, false)), AOper.mk (some 8) (AOp.fadr 0 (Operand.tmp 1)) (some (6,
  false)), AOper.mk (some 9) (AOp.load false 1 (Operand.tmp 8)) (some (6, false)), AOper.mk (some 10) (AOp.bin false BinOp.geq (Operand.tmp 7)
  (Operand.tmp 9)) (some (6, false)), AOper.mk (some 11) (AOp.pick (Operand.tmp 6) (Operand.const (Value.bool true)) (Operand.tmp 10)) none, AOper.mk
  (some 3) (AOp.mov (Operand.tmp 11)) none]) AC.ret)) [ARes.tmp 3]
theorem cfn96 : cfn Try.prog 96 2 = some c96 := by kernel_rfl
def c97 : AFn :=
  AFn.mk 47 (AC.seq (AC.ops [AOper.mk (some 2) (AOp.box 24 (Operand.tmp 0)) none, AOper.mk (some 4) (AOp.mov (Operand.const (Value.int IntKind.i64 0)))
  none, AOper.mk (some 5) (AOp.mov (Operand.const (Value.int IntKind.i64 0))) none]) (AC.seq (AC.seq (AC.ops [AOper.mk (some 10) (AOp.load true 2
  (Operand.tmp 2)) none, AOper.mk (some 11) (AOp.mov (Operand.tmp 1)) none, AOper.mk (some 12) (AOp.bsl 3 1 [Operand.tmp 11]) none, AOper.mk (some 13)
  (AOp.call 110 [Operand.tmp 10, Operand.tmp 12]) none, AOper.mk (some 6) (AOp.mov (Operand.tmp 13)) none]) (AC.seq (AC.ops [AOper.mk (some 14) (AOp.mov
  (Operand.tmp 6)) none, AOper.mk (some 15) (AOp.bin false BinOp.neq (Operand.tmp 14) (Operand.const (Value.int IntKind.i64 0))) none]) (AC.cond
  (Operand.tmp 15) (AC.seq (AC.ops [AOper.mk (some 16) (AOp.mov (Operand.tmp 6)) none, AOper.mk (some 4) (AOp.mov (Operand.const (Value.int IntKind.i64
  0))) none, AOper.mk (some 5) (AOp.mov (Operand.tmp 16)) none]) AC.ret) AC.skip))) (AC.seq (AC.ops [AOper.mk (some 7) (AOp.mov (Operand.const (Value.int
  IntKind.i64 0))) none]) (AC.seq (AC.seq (AC.ops [AOper.mk (some 17) (AOp.fadr 1 (Operand.tmp 2)) none, AOper.mk (some 18) (AOp.load false 1
  (Operand.tmp 17)) none, AOper.mk (some 19) (AOp.len (Operand.tmp 18)) none, AOper.mk (some 20) (AOp.mov (Operand.const (Value.int IntKind.i64 0)))
  none]) (AC.block 0 (AC.loop (AC.seq (AC.ops [AOper.mk (some 21) (AOp.bin false BinOp.lss (Operand.tmp 20) (Operand.tmp 19)) none]) (AC.seq (AC.cond
  (Operand.tmp 21) AC.skip (AC.exit 0)) (AC.seq (AC.block 1 (AC.seq (AC.ops [AOper.mk (some 22) (AOp.iadr 3 (Operand.tmp 18) (Operand.tmp 20)) none,
  AOper.mk (some 23) (AOp.load true 3 (Operand.tmp 22)) none, AOper.mk (some 9) (AOp.zro 120 (PV.agg [PV.v (Value.int IntKind.i64 0), PV.v (Value.int
  IntKind.i64 0), PV.v (Value.int IntKind.i64 0)])) none, AOper.mk none (AOp.store 3 (Operand.tmp 9) (Operand.tmp 23)) none]) (AC.seq (AC.ops [AOper.mk
  (some 24) (AOp.fadr 0 (Operand.tmp 9)) none, AOper.mk (some 25) (AOp.load false 1 (Operand.tmp 24)) none, AOper.mk (some 26) (AOp.fadr 1 (Operand.tmp
  9)) none, AOper.mk (some 27) (AOp.load false 1 (Operand.tmp 26)) none, AOper.mk (some 28) (AOp.bin false BinOp.neq (Operand.tmp 25) (Operand.tmp 27))
  none, AOper.mk (some 29) (AOp.mov (Operand.tmp 28)) none, AOper.mk (some 30) (AOp.fadr 0 (Operand.tmp 9)) (some (29, true)), AOper.mk (some 31)
  (AOp.load false 1 (Operand.tmp 30)) (some (29, true)), AOper.mk (some 32) (AOp.mov (Operand.tmp 1)) (some (29, true)), AOper.mk (some 33) (AOp.bin
  false BinOp.eql (Operand.tmp 31) (Operand.tmp 32)) (some (29, true)), AOper.mk (some 34) (AOp.mov (Operand.tmp 33)) (some (29, true)), AOper.mk (some
  35) (AOp.fadr 1 (Operand.tmp 9)) (some (34, false)), AOper.mk (some 36) (AOp.load false 1 (Operand.tmp 35)) (some (34, false)), AOper.mk (some 37)
  (AOp.mov (Operand.tmp 1)) (some (34, false)), AOper.mk (some 38) (AOp.bin false BinOp.eql (Operand.tmp 36) (Operand.tmp 37)) (some (34, false)),
  AOper.mk (some 39) (AOp.pick (Operand.tmp 34) (Operand.const (Value.bool true)) (Operand.tmp 38)) (some (29, true)), AOper.mk (some 40) (AOp.pick
  (Operand.tmp 29) (Operand.tmp 39) (Operand.const (Value.bool false))) none]) (AC.cond (Operand.tmp 40) (AC.ops [AOper.mk (some 41) (AOp.mov
  (Operand.tmp 7)) none, AOper.mk (some 42) (AOp.fadr 2 (Operand.tmp 9)) none, AOper.mk (some 43) (AOp.load false 1 (Operand.tmp 42)) none, AOper.mk
  (some 44) (AOp.bin false BinOp.add (Operand.tmp 41) (Operand.tmp 43)) none, AOper.mk (some 7) (AOp.mov (Operand.tmp 44)) none]) AC.skip)))) (AC.ops
  [AOper.mk (some 45) (AOp.bin false BinOp.add (Operand.tmp 20) (Operand.const (Value.int IntKind.i64 1))) none, AOper.mk (some 20) (AOp.mov (Operand.tmp
  45)) none]))))))) (AC.seq (AC.ops [AOper.mk (some 46) (AOp.mov (Operand.tmp 7)) none, AOper.mk (some 4) (AOp.mov (Operand.tmp 46)) none, AOper.mk (some
  5) (AOp.mov (Operand.const (Value.int IntKind.i64 0))) none]) AC.ret))))) [ARes.tmp 4, ARes.tmp 5]
theorem cfn97 : cfn Try.prog 97 2 = some c97 := by kernel_rfl
def c98 : AFn :=
  AFn.mk 25 (AC.seq (AC.ops [AOper.mk (some 3) (AOp.box 24 (Operand.tmp 0)) none, AOper.mk (some 6) (AOp.mov (Operand.const (Value.slice none 0 0)))
  none]) (AC.seq (AC.ops [AOper.mk (some 10) (AOp.fadr 0 (Operand.tmp 3)) none, AOper.mk (some 11) (AOp.load false 1 (Operand.tmp 10)) none, AOper.mk
  (some 12) (AOp.mk 3 1 (PV.v (Value.int IntKind.i64 0)) (Operand.tmp 11) (Operand.tmp 11)) none, AOper.mk (some 7) (AOp.mov (Operand.tmp 12)) none])
  (AC.seq (AC.seq (AC.ops [AOper.mk (some 13) (AOp.mov (Operand.tmp 1)) none, AOper.mk (some 14) (AOp.len (Operand.tmp 13)) none, AOper.mk (some 15)
  (AOp.mov (Operand.const (Value.int IntKind.i64 0))) none]) (AC.block 0 (AC.loop (AC.seq (AC.ops [AOper.mk (some 16) (AOp.bin false BinOp.lss
  (Operand.tmp 15) (Operand.tmp 14)) none]) (AC.seq (AC.cond (Operand.tmp 16) AC.skip (AC.exit 0)) (AC.seq (AC.block 1 (AC.seq (AC.ops [AOper.mk (some
  17) (AOp.iadr 1 (Operand.tmp 13) (Operand.tmp 15)) none, AOper.mk (some 18) (AOp.load false 1 (Operand.tmp 17)) none, AOper.mk (some 9) (AOp.mov
  (Operand.tmp 18)) none]) (AC.ops [AOper.mk (some 19) (AOp.mov (Operand.tmp 7)) none, AOper.mk (some 20) (AOp.mov (Operand.tmp 9)) none, AOper.mk (some
  21) (AOp.mov (Operand.tmp 2)) none, AOper.mk (some 22) (AOp.iadr 1 (Operand.tmp 19) (Operand.tmp 20)) none, AOper.mk none (AOp.store 1 (Operand.tmp 22)
  (Operand.tmp 21)) none]))) (AC.ops [AOper.mk (some 23) (AOp.bin false BinOp.add (Operand.tmp 15) (Operand.const (Value.int IntKind.i64 1))) none,
  AOper.mk (some 15) (AOp.mov (Operand.tmp 23)) none]))))))) (AC.seq (AC.ops [AOper.mk (some 24) (AOp.mov (Operand.tmp 7)) none, AOper.mk (some 6)
  (AOp.mov (Operand.tmp 24)) none]) AC.ret)))) [ARes.tmp 6]
theorem cfn98 : cfn Try.prog 98 3 = some c98 := by kernel_rfl
def c99 : AFn :=
  AFn.mk 12 (AC.seq (AC.ops [AOper.mk (some 4) (AOp.mov (Operand.const (Value.bool false))) none]) (AC.seq (AC.ops [AOper.mk (some 5) (AOp.mov
  (Operand.tmp 1)) none, AOper.mk (some 6) (AOp.bin false BinOp.geq (Operand.tmp 5) (Operand.const (Value.int IntKind.i64 0))) none, AOper.mk (some 7)
  (AOp.mov (Operand.tmp 6)) none, AOper.mk (some 8) (AOp.mov (Operand.tmp 1)) (some (7, true)), AOper.mk (some 9) (AOp.mov (Operand.tmp 0)) (some (7,
  true)), AOper.mk (some 10) (AOp.bin false BinOp.lss (Operand.tmp 8) (Operand.tmp 9)) (some (7, true)), AOper.mk (some 11) (AOp.pick (Operand.tmp 7)
  (Operand.tmp 10) (Operand.const (Value.bool false))) none, AOper.mk (some 4) (AOp.mov (Operand.tmp 11)) none]) AC.ret)) [ARes.tmp 4]
theorem cfn99 : cfn Try.prog 99 2 = some c99 := by kernel_rfl
def c100 : AFn :=
  AFn.mk 17 (AC.seq (AC.ops [AOper.mk (some 2) (AOp.box 142 (Operand.tmp 0)) none, AOper.mk (some 3) (AOp.box 142 (Operand.tmp 1)) none, AOper.mk (some
  4) (AOp.mov (Operand.const (Value.int IntKind.i64 0))) none]) (AC.seq (AC.segs [([AOper.mk (some 5) (AOp.fadr 0 (Operand.tmp 2)) none, AOper.mk (some
  6) (AOp.load false 1 (Operand.tmp 5)) none, AOper.mk (some 7) (AOp.fadr 0 (Operand.tmp 3)) none, AOper.mk (some 8) (AOp.load false 1 (Operand.tmp 7))
  none, AOper.mk (some 10) (AOp.fadr 1 (Operand.tmp 2)) none, AOper.mk (some 11) (AOp.load false 1 (Operand.tmp 10)) none, AOper.mk (some 12) (AOp.fadr 1
  (Operand.tmp 3)) none, AOper.mk (some 13) (AOp.load false 1 (Operand.tmp 12)) none], some (true, AOper.mk (some 9) (AOp.call 112 [Operand.tmp 6,
  Operand.tmp 8]) none)), ([], some (true, AOper.mk (some 14) (AOp.call 112 [Operand.tmp 11, Operand.tmp 13]) none)), ([], some (true, AOper.mk (some 15)
  (AOp.bsl 3 1 [Operand.tmp 9, Operand.tmp 14]) none)), ([], some (true, AOper.mk (some 16) (AOp.call 111 [Operand.tmp 15]) none)), ([AOper.mk (some 4)
  (AOp.mov (Operand.tmp 16)) none], none)]) AC.ret)) [ARes.tmp 4]
theorem cfn100 : cfn Try.prog 100 2 = some c100 := by kernel_rfl
def c101 : AFn :=
  AFn.mk 6 (AC.seq (AC.ops [AOper.mk (some 1) (AOp.box 24 (Operand.tmp 0)) none, AOper.mk (some 2) (AOp.mov (Operand.const (Value.int IntKind.i64 0)))
  none]) (AC.seq (AC.ops [AOper.mk (some 3) (AOp.load true 2 (Operand.tmp 1)) none, AOper.mk (some 4) (AOp.call 113 [Operand.tmp 3]) none, AOper.mk (some
  5) (AOp.len (Operand.tmp 4)) none, AOper.mk (some 2) (AOp.mov (Operand.tmp 5)) none]) AC.ret)) [ARes.tmp 2]
theorem cfn101 : cfn Try.prog 101 1 = some c101 := by kernel_rfl
def c102 : AFn :=
  AFn.mk 16 (AC.seq (AC.ops [AOper.mk (some 2) (AOp.mov (Operand.const (Value.slice none 0 0))) none]) (AC.seq (AC.ops [AOper.mk (some 3) (AOp.mov
  (Operand.const (Value.slice none 0 0))) none]) (AC.seq (AC.seq (AC.ops [AOper.mk (some 4) (AOp.mov (Operand.const (Value.int IntKind.i64 0))) none])
  (AC.block 0 (AC.loop (AC.seq (AC.seq (AC.ops [AOper.mk (some 5) (AOp.mov (Operand.tmp 4)) none, AOper.mk (some 6) (AOp.mov (Operand.tmp 0)) none,
  AOper.mk (some 7) (AOp.bin false BinOp.lss (Operand.tmp 5) (Operand.tmp 6)) none]) (AC.cond (Operand.tmp 7) AC.skip (AC.exit 0))) (AC.seq (AC.block 1
  (AC.ops [AOper.mk (some 10) (AOp.mov (Operand.tmp 3)) none, AOper.mk (some 11) (AOp.mov (Operand.tmp 0)) none, AOper.mk (some 12) (AOp.mk 3 1 (PV.v
  (Value.int IntKind.i64 0)) (Operand.tmp 11) (Operand.tmp 11)) none, AOper.mk (some 13) (AOp.bslT 25 [Operand.tmp 12]) none, AOper.mk (some 14)
  (AOp.appT 25 (Operand.tmp 10) (Operand.tmp 13)) none, AOper.mk (some 3) (AOp.mov (Operand.tmp 14)) none])) (AC.ops [AOper.mk (some 8) (AOp.mov
  (Operand.tmp 4)) none, AOper.mk (some 9) (AOp.bin false BinOp.add (Operand.tmp 8) (Operand.const (Value.int IntKind.i64 1))) none, AOper.mk (some 4)
  (AOp.mov (Operand.tmp 9)) none])))))) (AC.seq (AC.ops [AOper.mk (some 15) (AOp.mov (Operand.tmp 3)) none, AOper.mk (some 2) (AOp.mov (Operand.tmp 15))
  none]) AC.ret)))) [ARes.tmp 2]
theorem cfn102 : cfn Try.prog 102 1 = some c102 := by kernel_rfl
def c103 : AFn :=
  AFn.mk 28 (AC.seq (AC.ops [AOper.mk (some 4) (AOp.mov (Operand.const (Value.bool false))) none]) (AC.seq (AC.segs [([AOper.mk (some 5) (AOp.mov
  (Operand.tmp 1)) none, AOper.mk (some 6) (AOp.mov (Operand.tmp 0)) none, AOper.mk (some 7) (AOp.nilc (Operand.tmp 6)) none, AOper.mk (some 8) (AOp.fadr
  1 (Operand.tmp 7)) none, AOper.mk (some 9) (AOp.load false 1 (Operand.tmp 8)) none, AOper.mk (some 10) (AOp.bin false BinOp.neq (Operand.tmp 5)
  (Operand.tmp 9)) none, AOper.mk (some 11) (AOp.mov (Operand.tmp 10)) none, AOper.mk (some 12) (AOp.mov (Operand.tmp 0)) (some (11, true)), AOper.mk
  (some 13) (AOp.nilc (Operand.tmp 12)) (some (11, true)), AOper.mk (some 14) (AOp.fadr 0 (Operand.tmp 13)) (some (11, true)), AOper.mk (some 15)
  (AOp.load false 1 (Operand.tmp 14)) (some (11, true)), AOper.mk (some 16) (AOp.mov (Operand.tmp 1)) (some (11, true)), AOper.mk (some 17) (AOp.iadr 1
  (Operand.tmp 15) (Operand.tmp 16)) (some (11, true)), AOper.mk (some 18) (AOp.load false 1 (Operand.tmp 17)) (some (11, true)), AOper.mk (some 19)
  (AOp.mov (Operand.tmp 0)) (some (11, true)), AOper.mk (some 20) (AOp.nilc (Operand.tmp 19)) (some (11, true)), AOper.mk (some 21) (AOp.fadr 3
  (Operand.tmp 20)) (some (11, true)), AOper.mk (some 22) (AOp.load false 1 (Operand.tmp 21)) (some (11, true)), AOper.mk (some 23) (AOp.mov (Operand.tmp
  1)) (some (11, true)), AOper.mk (some 24) (AOp.iadr 1 (Operand.tmp 22) (Operand.tmp 23)) (some (11, true)), AOper.mk (some 25) (AOp.load false 1
  (Operand.tmp 24)) (some (11, true)), AOper.mk (some 26) (AOp.bin false BinOp.geq (Operand.tmp 18) (Operand.tmp 25)) (some (11, true)), AOper.mk (some
  27) (AOp.pick (Operand.tmp 11) (Operand.tmp 26) (Operand.const (Value.bool false))) none, AOper.mk (some 4) (AOp.mov (Operand.tmp 27)) none], none)])
  AC.ret)) [ARes.tmp 4]
theorem cfn103 : cfn Try.prog 103 2 = some c103 := by kernel_rfl
def c104 : AFn :=
  AFn.mk 16 (AC.seq (AC.ops [AOper.mk (some 1) (AOp.box 24 (Operand.tmp 0)) none, AOper.mk (some 2) (AOp.mov (Operand.const (Value.slice none 0 0)))
  none, AOper.mk (some 3) (AOp.mov (Operand.const (Value.int IntKind.i64 0))) none]) (AC.seq (AC.seq (AC.ops [AOper.mk (some 6) (AOp.load true 2
  (Operand.tmp 1)) none, AOper.mk (some 7) (AOp.call 76 [Operand.tmp 6]) none, AOper.mk (some 4) (AOp.mov (Operand.tmp 7)) none]) (AC.seq (AC.ops
  [AOper.mk (some 8) (AOp.mov (Operand.tmp 4)) none, AOper.mk (some 9) (AOp.bin false BinOp.neq (Operand.tmp 8) (Operand.const (Value.int IntKind.i64
  0))) none]) (AC.cond (Operand.tmp 9) (AC.seq (AC.ops [AOper.mk (some 10) (AOp.mov (Operand.tmp 4)) none, AOper.mk (some 2) (AOp.mov (Operand.const
  (Value.slice none 0 0))) none, AOper.mk (some 3) (AOp.mov (Operand.tmp 10)) none]) AC.ret) AC.skip))) (AC.seq (AC.ops [AOper.mk (some 11) (AOp.load
  true 2 (Operand.tmp 1)) none, AOper.mk (some 12) (AOp.call 114 [Operand.tmp 11]) none, AOper.mk (some 5) (AOp.zro 158 (PV.agg [PV.v (Value.int
  IntKind.i64 0), PV.v (Value.int IntKind.i64 0), PV.v (Value.int IntKind.i64 0), PV.v (Value.int IntKind.i64 0), PV.v (Value.int IntKind.i64 0), PV.v
  (Value.int IntKind.i64 0), PV.v (Value.int IntKind.i64 0), PV.v (Value.int IntKind.i64 0), PV.v (Value.int IntKind.i64 0), PV.v (Value.int IntKind.i64
  0), PV.v (Value.int IntKind.i64 0), PV.v (Value.int IntKind.i64 0)])) none, AOper.mk none (AOp.store 12 (Operand.tmp 5) (Operand.tmp 12)) none])
  (AC.seq (AC.ops [AOper.mk (some 13) (AOp.fadr 0 (Operand.tmp 1)) none, AOper.mk (some 14) (AOp.load false 1 (Operand.tmp 13)) none, AOper.mk (some 15)
  (AOp.call 115 [Operand.tmp 5, Operand.tmp 14]) none, AOper.mk (some 2) (AOp.mov (Operand.tmp 15)) none, AOper.mk (some 3) (AOp.mov (Operand.const
  (Value.int IntKind.i64 0))) none]) AC.ret)))) [ARes.tmp 2, ARes.tmp 3]
theorem cfn104 : cfn Try.prog 104 1 = some c104 := by kernel_rfl
def c105 : AFn :=
  AFn.mk 4 (AC.seq (AC.ops [AOper.mk (some 1) (AOp.box 24 (Operand.tmp 0)) none, AOper.mk (some 2) (AOp.mov (Operand.const Value.nilFunc)) none]) (AC.seq
  (AC.ops [AOper.mk (some 3) (AOp.fn (Fn.func 116) [] [Operand.tmp 1]) none, AOper.mk (some 2) (AOp.mov (Operand.tmp 3)) none]) AC.ret)) [ARes.tmp 2]
theorem cfn105 : cfn Try.prog 105 1 = some c105 := by kernel_rfl
def c106 : AFn :=
  AFn.mk 66 (AC.seq (AC.ops [AOper.mk (some 2) (AOp.box 24 (Operand.tmp 0)) none, AOper.mk (some 4) (AOp.mov (Operand.const (Value.int IntKind.i64 0)))
  none]) (AC.seq (AC.ops [AOper.mk (some 7) (AOp.fadr 1 (Operand.tmp 2)) none, AOper.mk (some 8) (AOp.load false 1 (Operand.tmp 7)) none, AOper.mk (some
  9) (AOp.mov (Operand.tmp 1)) none, AOper.mk (some 10) (AOp.iadr 3 (Operand.tmp 8) (Operand.tmp 9)) none, AOper.mk (some 11) (AOp.load true 3
  (Operand.tmp 10)) none, AOper.mk (some 5) (AOp.zro 120 (PV.agg [PV.v (Value.int IntKind.i64 0), PV.v (Value.int IntKind.i64 0), PV.v (Value.int
  IntKind.i64 0)])) none, AOper.mk none (AOp.store 3 (Operand.tmp 5) (Operand.tmp 11)) none]) (AC.seq (AC.seq (AC.ops [AOper.mk (some 12) (AOp.load true
  2 (Operand.tmp 2)) none, AOper.mk (some 13) (AOp.fadr 0 (Operand.tmp 5)) none, AOper.mk (some 14) (AOp.load false 1 (Operand.tmp 13)) none, AOper.mk
  (some 15) (AOp.call 57 [Operand.tmp 12, Operand.tmp 14]) none, AOper.mk (some 16) (AOp.un UnOp.not (Operand.tmp 15)) none, AOper.mk (some 17) (AOp.mov
  (Operand.tmp 16)) none, AOper.mk (some 18) (AOp.load true 2 (Operand.tmp 2)) (some (17, false)), AOper.mk (some 19) (AOp.fadr 1 (Operand.tmp 5)) (some
  (17, false)), AOper.mk (some 20) (AOp.load false 1 (Operand.tmp 19)) (some (17, false)), AOper.mk (some 21) (AOp.call 57 [Operand.tmp 18, Operand.tmp
  20]) (some (17, false)), AOper.mk (some 22) (AOp.un UnOp.not (Operand.tmp 21)) (some (17, false)), AOper.mk (some 23) (AOp.pick (Operand.tmp 17)
  (Operand.const (Value.bool true)) (Operand.tmp 22)) none, AOper.mk (some 24) (AOp.mov (Operand.tmp 23)) none, AOper.mk (some 25) (AOp.fadr 2
  (Operand.tmp 5)) (some (24, false)), AOper.mk (some 26) (AOp.load false 1 (Operand.tmp 25)) (some (24, false)), AOper.mk (some 27) (AOp.bin false
  BinOp.lss (Operand.tmp 26) (Operand.const (Value.int IntKind.i64 1))) (some (24, false)), AOper.mk (some 28) (AOp.pick (Operand.tmp 24) (Operand.const
  (Value.bool true)) (Operand.tmp 27)) none, AOper.mk (some 29) (AOp.mov (Operand.tmp 28)) none, AOper.mk (some 30) (AOp.fadr 2 (Operand.tmp 5)) (some
  (29, false)), AOper.mk (some 31) (AOp.load false 1 (Operand.tmp 30)) (some (29, false)), AOper.mk (some 32) (AOp.bin false BinOp.gtr (Operand.tmp 31)
  (Operand.const (Value.int IntKind.i64 50))) (some (29, false)), AOper.mk (some 33) (AOp.pick (Operand.tmp 29) (Operand.const (Value.bool true))
  (Operand.tmp 32)) none]) (AC.cond (Operand.tmp 33) (AC.seq (AC.ops [AOper.mk (some 4) (AOp.mov (Operand.const (Value.int IntKind.i64 2))) none])
  AC.ret) AC.skip)) (AC.seq (AC.seq (AC.ops [AOper.mk (some 34) (AOp.fadr 0 (Operand.tmp 5)) none, AOper.mk (some 35) (AOp.load false 1 (Operand.tmp 34))
  none, AOper.mk (some 36) (AOp.fadr 1 (Operand.tmp 5)) none, AOper.mk (some 37) (AOp.load false 1 (Operand.tmp 36)) none, AOper.mk (some 38) (AOp.bin
  false BinOp.gtr (Operand.tmp 35) (Operand.tmp 37)) none]) (AC.cond (Operand.tmp 38) (AC.seq (AC.ops [AOper.mk (some 4) (AOp.mov (Operand.const
  (Value.int IntKind.i64 9))) none]) AC.ret) AC.skip)) (AC.seq (AC.seq (AC.ops [AOper.mk (some 39) (AOp.mov (Operand.tmp 1)) none, AOper.mk (some 40)
  (AOp.bin false BinOp.gtr (Operand.tmp 39) (Operand.const (Value.int IntKind.i64 0))) none]) (AC.cond (Operand.tmp 40) (AC.seq (AC.ops [AOper.mk (some
  41) (AOp.fadr 1 (Operand.tmp 2)) none, AOper.mk (some 42) (AOp.load false 1 (Operand.tmp 41)) none, AOper.mk (some 43) (AOp.mov (Operand.tmp 1)) none,
  AOper.mk (some 44) (AOp.bin false BinOp.sub (Operand.tmp 43) (Operand.const (Value.int IntKind.i64 1))) none, AOper.mk (some 45) (AOp.iadr 3
  (Operand.tmp 42) (Operand.tmp 44)) none, AOper.mk (some 46) (AOp.load true 3 (Operand.tmp 45)) none, AOper.mk (some 6) (AOp.zro 120 (PV.agg [PV.v
  (Value.int IntKind.i64 0), PV.v (Value.int IntKind.i64 0), PV.v (Value.int IntKind.i64 0)])) none, AOper.mk none (AOp.store 3 (Operand.tmp 6)
  (Operand.tmp 46)) none]) (AC.seq (AC.ops [AOper.mk (some 47) (AOp.fadr 0 (Operand.tmp 5)) none, AOper.mk (some 48) (AOp.load false 1 (Operand.tmp 47))
  none, AOper.mk (some 49) (AOp.fadr 0 (Operand.tmp 6)) none, AOper.mk (some 50) (AOp.load false 1 (Operand.tmp 49)) none, AOper.mk (some 51) (AOp.bin
  false BinOp.lss (Operand.tmp 48) (Operand.tmp 50)) none, AOper.mk (some 52) (AOp.mov (Operand.tmp 51)) none, AOper.mk (some 53) (AOp.fadr 0
  (Operand.tmp 5)) (some (52, false)), AOper.mk (some 54) (AOp.load false 1 (Operand.tmp 53)) (some (52, false)), AOper.mk (some 55) (AOp.fadr 0
  (Operand.tmp 6)) (some (52, false)), AOper.mk (some 56) (AOp.load false 1 (Operand.tmp 55)) (some (52, false)), AOper.mk (some 57) (AOp.bin false
  BinOp.eql (Operand.tmp 54) (Operand.tmp 56)) (some (52, false)), AOper.mk (some 58) (AOp.mov (Operand.tmp 57)) (some (52, false)), AOper.mk (some 59)
  (AOp.fadr 1 (Operand.tmp 5)) (some (58, true)), AOper.mk (some 60) (AOp.load false 1 (Operand.tmp 59)) (some (58, true)), AOper.mk (some 61) (AOp.fadr
  1 (Operand.tmp 6)) (some (58, true)), AOper.mk (some 62) (AOp.load false 1 (Operand.tmp 61)) (some (58, true)), AOper.mk (some 63) (AOp.bin false
  BinOp.leq (Operand.tmp 60) (Operand.tmp 62)) (some (58, true)), AOper.mk (some 64) (AOp.pick (Operand.tmp 58) (Operand.tmp 63) (Operand.const
  (Value.bool false))) (some (52, false)), AOper.mk (some 65) (AOp.pick (Operand.tmp 52) (Operand.const (Value.bool true)) (Operand.tmp 64)) none])
  (AC.cond (Operand.tmp 65) (AC.seq (AC.ops [AOper.mk (some 4) (AOp.mov (Operand.const (Value.int IntKind.i64 9))) none]) AC.ret) AC.skip))) AC.skip))
  (AC.seq (AC.ops [AOper.mk (some 4) (AOp.mov (Operand.const (Value.int IntKind.i64 0))) none]) AC.ret)))))) [ARes.tmp 4]
theorem cfn106 : cfn Try.prog 106 2 = some c106 := by kernel_rfl
def c107 : AFn :=
  AFn.mk 46 (AC.seq (AC.ops [AOper.mk (some 1) (AOp.box 24 (Operand.tmp 0)) none, AOper.mk (some 2) (AOp.mov (Operand.const (Value.int IntKind.i64 0)))
  none]) (AC.seq (AC.ops [AOper.mk (some 3) (AOp.mov (Operand.const (Value.int IntKind.i64 0))) none]) (AC.seq (AC.ops [AOper.mk (some 8) (AOp.fadr 0
  (Operand.tmp 1)) none, AOper.mk (some 9) (AOp.load false 1 (Operand.tmp 8)) none, AOper.mk (some 10) (AOp.mk 4 1 (PV.v (Value.bool false)) (Operand.tmp
  9) (Operand.tmp 9)) none, AOper.mk (some 4) (AOp.mov (Operand.tmp 10)) none]) (AC.seq (AC.seq (AC.ops [AOper.mk (some 5) (AOp.mov (Operand.const
  (Value.int IntKind.i64 0))) none]) (AC.block 0 (AC.loop (AC.seq (AC.seq (AC.ops [AOper.mk (some 11) (AOp.mov (Operand.tmp 5)) none, AOper.mk (some 12)
  (AOp.fadr 0 (Operand.tmp 1)) none, AOper.mk (some 13) (AOp.load false 1 (Operand.tmp 12)) none, AOper.mk (some 14) (AOp.bin false BinOp.lss
  (Operand.tmp 11) (Operand.tmp 13)) none]) (AC.cond (Operand.tmp 14) AC.skip (AC.exit 0))) (AC.seq (AC.block 1 (AC.seq (AC.seq (AC.ops [AOper.mk (some
  17) (AOp.mov (Operand.tmp 4)) none, AOper.mk (some 18) (AOp.mov (Operand.tmp 5)) none, AOper.mk (some 19) (AOp.iadr 1 (Operand.tmp 17) (Operand.tmp
  18)) none, AOper.mk (some 20) (AOp.load false 1 (Operand.tmp 19)) none]) (AC.cond (Operand.tmp 20) (AC.exit 1) AC.skip)) (AC.seq (AC.ops [AOper.mk
  (some 21) (AOp.mov (Operand.tmp 3)) none, AOper.mk (some 22) (AOp.bin false BinOp.add (Operand.tmp 21) (Operand.const (Value.int IntKind.i64 1))) none,
  AOper.mk (some 3) (AOp.mov (Operand.tmp 22)) none]) (AC.seq (AC.ops [AOper.mk (some 23) (AOp.load true 2 (Operand.tmp 1)) none, AOper.mk (some 24)
  (AOp.mov (Operand.tmp 5)) none, AOper.mk (some 25) (AOp.call 117 [Operand.tmp 23, Operand.tmp 24]) none, AOper.mk (some 6) (AOp.mov (Operand.tmp 25))
  none]) (AC.seq (AC.ops [AOper.mk (some 7) (AOp.mov (Operand.const (Value.int IntKind.i64 0))) none]) (AC.block 2 (AC.loop (AC.seq (AC.seq (AC.ops
  [AOper.mk (some 26) (AOp.mov (Operand.tmp 7)) none, AOper.mk (some 27) (AOp.fadr 0 (Operand.tmp 1)) none, AOper.mk (some 28) (AOp.load false 1
  (Operand.tmp 27)) none, AOper.mk (some 29) (AOp.bin false BinOp.lss (Operand.tmp 26) (Operand.tmp 28)) none]) (AC.cond (Operand.tmp 29) AC.skip
  (AC.exit 2))) (AC.seq (AC.block 3 (AC.ops [AOper.mk (some 32) (AOp.mov (Operand.tmp 4)) none, AOper.mk (some 33) (AOp.mov (Operand.tmp 7)) none,
  AOper.mk (some 34) (AOp.mov (Operand.tmp 4)) none, AOper.mk (some 35) (AOp.mov (Operand.tmp 7)) none, AOper.mk (some 36) (AOp.iadr 1 (Operand.tmp 34)
  (Operand.tmp 35)) none, AOper.mk (some 37) (AOp.load false 1 (Operand.tmp 36)) none, AOper.mk (some 38) (AOp.mov (Operand.tmp 37)) none, AOper.mk (some
  39) (AOp.mov (Operand.tmp 6)) (some (38, false)), AOper.mk (some 40) (AOp.mov (Operand.tmp 7)) (some (38, false)), AOper.mk (some 41) (AOp.iadr 1
  (Operand.tmp 39) (Operand.tmp 40)) (some (38, false)), AOper.mk (some 42) (AOp.load false 1 (Operand.tmp 41)) (some (38, false)), AOper.mk (some 43)
  (AOp.pick (Operand.tmp 38) (Operand.const (Value.bool true)) (Operand.tmp 42)) none, AOper.mk (some 44) (AOp.iadr 1 (Operand.tmp 32) (Operand.tmp 33))
  none, AOper.mk none (AOp.store 1 (Operand.tmp 44) (Operand.tmp 43)) none])) (AC.ops [AOper.mk (some 30) (AOp.mov (Operand.tmp 7)) none, AOper.mk (some
  31) (AOp.bin false BinOp.add (Operand.tmp 30) (Operand.const (Value.int IntKind.i64 1))) none, AOper.mk (some 7) (AOp.mov (Operand.tmp 31))
  none])))))))))) (AC.ops [AOper.mk (some 15) (AOp.mov (Operand.tmp 5)) none, AOper.mk (some 16) (AOp.bin false BinOp.add (Operand.tmp 15) (Operand.const
  (Value.int IntKind.i64 1))) none, AOper.mk (some 5) (AOp.mov (Operand.tmp 16)) none])))))) (AC.seq (AC.ops [AOper.mk (some 45) (AOp.mov (Operand.tmp
  3)) none, AOper.mk (some 2) (AOp.mov (Operand.tmp 45)) none]) AC.ret))))) [ARes.tmp 2]
theorem cfn107 : cfn Try.prog 107 1 = some c107 := by kernel_rfl
def c108 : AFn :=
  AFn.mk 19 (AC.seq (AC.ops [AOper.mk (some 4) (AOp.mov (Operand.const (Value.int IntKind.i64 0))) none]) (AC.seq (AC.seq (AC.ops [AOper.mk (some 6)
  (AOp.mov (Operand.tmp 0)) none, AOper.mk (some 7) (AOp.len (Operand.tmp 6)) none, AOper.mk (some 8) (AOp.mov (Operand.const (Value.int IntKind.i64 0)))
  none]) (AC.block 0 (AC.loop (AC.seq (AC.ops [AOper.mk (some 9) (AOp.bin false BinOp.lss (Operand.tmp 8) (Operand.tmp 7)) none]) (AC.seq (AC.cond
  (Operand.tmp 9) AC.skip (AC.exit 0)) (AC.seq (AC.block 1 (AC.seq (AC.ops [AOper.mk (some 10) (AOp.mov (Operand.tmp 8)) none, AOper.mk (some 5) (AOp.mov
  (Operand.tmp 10)) none]) (AC.seq (AC.ops [AOper.mk (some 11) (AOp.mov (Operand.tmp 1)) none, AOper.mk (some 12) (AOp.mov (Operand.tmp 0)) none,
  AOper.mk (some 13) (AOp.mov (Operand.tmp 5)) none, AOper.mk (some 14) (AOp.iadr 1 (Operand.tmp 12) (Operand.tmp 13)) none, AOper.mk (some 15) (AOp.load
  false 1 (Operand.tmp 14)) none, AOper.mk (some 16) (AOp.callv (Operand.tmp 11) [Operand.tmp 15]) none]) (AC.cond (Operand.tmp 16) (AC.seq (AC.ops
  [AOper.mk (some 17) (AOp.mov (Operand.tmp 5)) none, AOper.mk (some 4) (AOp.mov (Operand.tmp 17)) none]) AC.ret) AC.skip)))) (AC.ops [AOper.mk (some 18)
  (AOp.bin false BinOp.add (Operand.tmp 8) (Operand.const (Value.int IntKind.i64 1))) none, AOper.mk (some 8) (AOp.mov (Operand.tmp 18)) none])))))))
  (AC.seq (AC.ops [AOper.mk (some 4) (AOp.mov (Operand.const (Value.int IntKind.i64 (-1)))) none]) AC.ret))) [ARes.tmp 4]
theorem cfn108 : cfn Try.prog 108 2 = some c108 := by kernel_rfl
def c109 : AFn :=
  AFn.mk 19 (AC.seq (AC.ops [AOper.mk (some 4) (AOp.mov (Operand.const (Value.int IntKind.i64 0))) none]) (AC.seq (AC.seq (AC.ops [AOper.mk (some 6)
  (AOp.mov (Operand.tmp 0)) none, AOper.mk (some 7) (AOp.len (Operand.tmp 6)) none, AOper.mk (some 8) (AOp.mov (Operand.const (Value.int IntKind.i64 0)))
  none]) (AC.block 0 (AC.loop (AC.seq (AC.ops [AOper.mk (some 9) (AOp.bin false BinOp.lss (Operand.tmp 8) (Operand.tmp 7)) none]) (AC.seq (AC.cond
  (Operand.tmp 9) AC.skip (AC.exit 0)) (AC.seq (AC.block 1 (AC.seq (AC.ops [AOper.mk (some 10) (AOp.mov (Operand.tmp 8)) none, AOper.mk (some 5) (AOp.mov
  (Operand.tmp 10)) none]) (AC.seq (AC.ops [AOper.mk (some 11) (AOp.mov (Operand.tmp 1)) none, AOper.mk (some 12) (AOp.mov (Operand.tmp 0)) none,
  AOper.mk (some 13) (AOp.mov (Operand.tmp 5)) none, AOper.mk (some 14) (AOp.iadr 1 (Operand.tmp 12) (Operand.tmp 13)) none, AOper.mk (some 15) (AOp.load
  false 1 (Operand.tmp 14)) none, AOper.mk (some 16) (AOp.callv (Operand.tmp 11) [Operand.tmp 15]) none]) (AC.cond (Operand.tmp 16) (AC.seq (AC.ops
  [AOper.mk (some 17) (AOp.mov (Operand.tmp 5)) none, AOper.mk (some 4) (AOp.mov (Operand.tmp 17)) none]) AC.ret) AC.skip)))) (AC.ops [AOper.mk (some 18)
  (AOp.bin false BinOp.add (Operand.tmp 8) (Operand.const (Value.int IntKind.i64 1))) none, AOper.mk (some 8) (AOp.mov (Operand.tmp 18)) none])))))))
  (AC.seq (AC.ops [AOper.mk (some 4) (AOp.mov (Operand.const (Value.int IntKind.i64 (-1)))) none]) AC.ret))) [ARes.tmp 4]
theorem cfn109 : cfn Try.prog 109 2 = some c109 := by kernel_rfl
def c110 : AFn :=
  AFn.mk 25 (AC.seq (AC.ops [AOper.mk (some 2) (AOp.box 24 (Operand.tmp 0)) none, AOper.mk (some 4) (AOp.mov (Operand.const (Value.int IntKind.i64 0)))
  none]) (AC.seq (AC.seq (AC.ops [AOper.mk (some 8) (AOp.load true 2 (Operand.tmp 2)) none, AOper.mk (some 9) (AOp.call 76 [Operand.tmp 8]) none,
  AOper.mk (some 5) (AOp.mov (Operand.tmp 9)) none]) (AC.seq (AC.ops [AOper.mk (some 10) (AOp.mov (Operand.tmp 5)) none, AOper.mk (some 11) (AOp.bin
  false BinOp.neq (Operand.tmp 10) (Operand.const (Value.int IntKind.i64 0))) none]) (AC.cond (Operand.tmp 11) (AC.seq (AC.ops [AOper.mk (some 12)
  (AOp.mov (Operand.tmp 5)) none, AOper.mk (some 4) (AOp.mov (Operand.tmp 12)) none]) AC.ret) AC.skip))) (AC.seq (AC.seq (AC.ops [AOper.mk (some 13)
  (AOp.mov (Operand.tmp 1)) none, AOper.mk (some 14) (AOp.len (Operand.tmp 13)) none, AOper.mk (some 15) (AOp.mov (Operand.const (Value.int IntKind.i64
  0))) none]) (AC.block 0 (AC.loop (AC.seq (AC.ops [AOper.mk (some 16) (AOp.bin false BinOp.lss (Operand.tmp 15) (Operand.tmp 14)) none]) (AC.seq
  (AC.cond (Operand.tmp 16) AC.skip (AC.exit 0)) (AC.seq (AC.block 1 (AC.seq (AC.ops [AOper.mk (some 17) (AOp.iadr 1 (Operand.tmp 13) (Operand.tmp 15))
  none, AOper.mk (some 18) (AOp.load false 1 (Operand.tmp 17)) none, AOper.mk (some 7) (AOp.mov (Operand.tmp 18)) none]) (AC.seq (AC.ops [AOper.mk (some
  19) (AOp.fadr 0 (Operand.tmp 2)) none, AOper.mk (some 20) (AOp.load false 1 (Operand.tmp 19)) none, AOper.mk (some 21) (AOp.mov (Operand.tmp 7)) none,
  AOper.mk (some 22) (AOp.call 99 [Operand.tmp 20, Operand.tmp 21]) none, AOper.mk (some 23) (AOp.un UnOp.not (Operand.tmp 22)) none]) (AC.cond
  (Operand.tmp 23) (AC.seq (AC.ops [AOper.mk (some 4) (AOp.mov (Operand.const (Value.int IntKind.i64 2))) none]) AC.ret) AC.skip)))) (AC.ops [AOper.mk
  (some 24) (AOp.bin false BinOp.add (Operand.tmp 15) (Operand.const (Value.int IntKind.i64 1))) none, AOper.mk (some 15) (AOp.mov (Operand.tmp 24))
  none]))))))) (AC.seq (AC.ops [AOper.mk (some 4) (AOp.mov (Operand.const (Value.int IntKind.i64 0))) none]) AC.ret)))) [ARes.tmp 4]
theorem cfn110 : cfn Try.prog 110 2 = some c110 := by kernel_rfl
def c111 : AFn :=
  AFn.mk 18 (AC.seq (AC.ops [AOper.mk (some 2) (AOp.mov (Operand.const (Value.int IntKind.i64 0))) none]) (AC.seq (AC.ops [AOper.mk (some 3) (AOp.mov
  (Operand.const (Value.int IntKind.i64 0))) none]) (AC.seq (AC.seq (AC.ops [AOper.mk (some 6) (AOp.mov (Operand.tmp 0)) none, AOper.mk (some 7) (AOp.len
  (Operand.tmp 6)) none, AOper.mk (some 8) (AOp.mov (Operand.const (Value.int IntKind.i64 0))) none]) (AC.block 0 (AC.loop (AC.seq (AC.ops [AOper.mk
  (some 9) (AOp.bin false BinOp.lss (Operand.tmp 8) (Operand.tmp 7)) none]) (AC.seq (AC.cond (Operand.tmp 9) AC.skip (AC.exit 0)) (AC.seq (AC.block 1
  (AC.seq (AC.ops [AOper.mk (some 10) (AOp.iadr 1 (Operand.tmp 6) (Operand.tmp 8)) none, AOper.mk (some 11) (AOp.load false 1 (Operand.tmp 10)) none,
  AOper.mk (some 5) (AOp.mov (Operand.tmp 11)) none]) (AC.seq (AC.ops [AOper.mk (some 12) (AOp.mov (Operand.tmp 5)) none, AOper.mk (some 13) (AOp.mov
  (Operand.tmp 3)) none, AOper.mk (some 14) (AOp.bin false BinOp.neq (Operand.tmp 12) (Operand.tmp 13)) none]) (AC.cond (Operand.tmp 14) (AC.seq (AC.ops
  [AOper.mk (some 15) (AOp.mov (Operand.tmp 5)) none, AOper.mk (some 2) (AOp.mov (Operand.tmp 15)) none]) AC.ret) AC.skip)))) (AC.ops [AOper.mk (some 16)
  (AOp.bin false BinOp.add (Operand.tmp 8) (Operand.const (Value.int IntKind.i64 1))) none, AOper.mk (some 8) (AOp.mov (Operand.tmp 16)) none])))))))
  (AC.seq (AC.ops [AOper.mk (some 17) (AOp.mov (Operand.tmp 3)) none, AOper.mk (some 2) (AOp.mov (Operand.tmp 17)) none]) AC.ret)))) [ARes.tmp 2]
theorem cfn111 : cfn Try.prog 111 1 = some c111 := by kernel_rfl
def c112 : AFn :=
  AFn.mk 20 (AC.seq (AC.ops [AOper.mk (some 4) (AOp.mov (Operand.const (Value.int IntKind.i64 0))) none]) (AC.seq (AC.ops [AOper.mk (some 7) (AOp.mov
  (Operand.tmp 0)) none, AOper.mk (some 8) (AOp.call 118 [Operand.tmp 7]) none, AOper.mk (some 5) (AOp.mov (Operand.tmp 8)) none]) (AC.seq (AC.ops
  [AOper.mk (some 9) (AOp.mov (Operand.tmp 1)) none, AOper.mk (some 10) (AOp.call 118 [Operand.tmp 9]) none, AOper.mk (some 6) (AOp.mov (Operand.tmp 10))
  none]) (AC.seq (AC.seq (AC.ops [AOper.mk (some 11) (AOp.mov (Operand.tmp 5)) none]) (AC.cond (Operand.tmp 11) (AC.seq (AC.seq (AC.ops [AOper.mk (some
  12) (AOp.mov (Operand.tmp 6)) none]) (AC.cond (Operand.tmp 12) (AC.seq (AC.ops [AOper.mk (some 4) (AOp.mov (Operand.const (Value.int IntKind.i64 0)))
  none]) AC.ret) AC.skip)) (AC.seq (AC.ops [AOper.mk (some 4) (AOp.mov (Operand.const (Value.int IntKind.i64 (-1)))) none]) AC.ret)) AC.skip)) (AC.seq
  (AC.seq (AC.ops [AOper.mk (some 13) (AOp.mov (Operand.tmp 6)) none]) (AC.cond (Operand.tmp 13) (AC.seq (AC.ops [AOper.mk (some 4) (AOp.mov
  (Operand.const (Value.int IntKind.i64 1))) none]) AC.ret) AC.skip)) (AC.seq (AC.seq (AC.ops [AOper.mk (some 14) (AOp.mov (Operand.tmp 0)) none,
  AOper.mk (some 15) (AOp.mov (Operand.tmp 1)) none, AOper.mk (some 16) (AOp.bin false BinOp.lss (Operand.tmp 14) (Operand.tmp 15)) none]) (AC.cond
  (Operand.tmp 16) (AC.seq (AC.ops [AOper.mk (some 4) (AOp.mov (Operand.const (Value.int IntKind.i64 (-1)))) none]) AC.ret) AC.skip)) (AC.seq (AC.seq
  (AC.ops [AOper.mk (some 17) (AOp.mov (Operand.tmp 0)) none, AOper.mk (some 18) (AOp.mov (Operand.tmp 1)) none, AOper.mk (some 19) (AOp.bin false
  BinOp.gtr (Operand.tmp 17) (Operand.tmp 18)) none]) (AC.cond (Operand.tmp 19) (AC.seq (AC.ops [AOper.mk (some 4) (AOp.mov (Operand.const (Value.int
  IntKind.i64 1))) none]) AC.ret) AC.skip)) (AC.seq (AC.ops [AOper.mk (some 4) (AOp.mov (Operand.const (Value.int IntKind.i64 0))) none]) AC.ret))))))))
  [ARes.tmp 4]
theorem cfn112 : cfn Try.prog 112 2 = some c112 := by kernel_rfl
def c113 : AFn :=
  AFn.mk 40 (AC.seq (AC.ops [AOper.mk (some 1) (AOp.box 24 (Operand.tmp 0)) none, AOper.mk (some 2) (AOp.mov (Operand.const (Value.slice none 0 0)))
  none]) (AC.seq (AC.ops [AOper.mk (some 3) (AOp.mov (Operand.const (Value.slice none 0 0))) none]) (AC.seq (AC.seq (AC.ops [AOper.mk (some 4) (AOp.mov
  (Operand.const (Value.int IntKind.i64 0))) none]) (AC.block 0 (AC.loop (AC.seq (AC.seq (AC.ops [AOper.mk (some 6) (AOp.mov (Operand.tmp 4)) none,
  AOper.mk (some 7) (AOp.fadr 1 (Operand.tmp 1)) none, AOper.mk (some 8) (AOp.load false 1 (Operand.tmp 7)) none, AOper.mk (some 9) (AOp.len (Operand.tmp
  8)) none, AOper.mk (some 10) (AOp.bin false BinOp.lss (Operand.tmp 6) (Operand.tmp 9)) none]) (AC.cond (Operand.tmp 10) AC.skip (AC.exit 0))) (AC.seq
  (AC.block 1 (AC.seq (AC.ops [AOper.mk (some 5) (AOp.mov (Operand.const (Value.int IntKind.i64 0))) none]) (AC.block 2 (AC.loop (AC.seq (AC.seq (AC.ops
  [AOper.mk (some 13) (AOp.mov (Operand.tmp 5)) none, AOper.mk (some 14) (AOp.fadr 1 (Operand.tmp 1)) none, AOper.mk (some 15) (AOp.load false 1
  (Operand.tmp 14)) none, AOper.mk (some 16) (AOp.mov (Operand.tmp 4)) none, AOper.mk (some 17) (AOp.iadr 3 (Operand.tmp 15) (Operand.tmp 16)) none,
  AOper.mk (some 18) (AOp.fadr 2 (Operand.tmp 17)) none, AOper.mk (some 19) (AOp.load false 1 (Operand.tmp 18)) none, AOper.mk (some 20) (AOp.bin false
  BinOp.lss (Operand.tmp 13) (Operand.tmp 19)) none]) (AC.cond (Operand.tmp 20) AC.skip (AC.exit 2))) (AC.seq (AC.block 3 (AC.segs [([AOper.mk (some 23)
  (AOp.mov (Operand.tmp 3)) none, AOper.mk (some 24) (AOp.fadr 1 (Operand.tmp 1)) none, AOper.mk (some 25) (AOp.load false 1 (Operand.tmp 24)) none,
  AOper.mk (some 26) (AOp.mov (Operand.tmp 4)) none, AOper.mk (some 27) (AOp.iadr 3 (Operand.tmp 25) (Operand.tmp 26)) none, AOper.mk (some 28) (AOp.fadr
  0 (Operand.tmp 27)) none, AOper.mk (some 29) (AOp.load false 1 (Operand.tmp 28)) none, AOper.mk (some 30) (AOp.fadr 1 (Operand.tmp 1)) none, AOper.mk
  (some 31) (AOp.load false 1 (Operand.tmp 30)) none, AOper.mk (some 32) (AOp.mov (Operand.tmp 4)) none, AOper.mk (some 33) (AOp.iadr 3 (Operand.tmp 31)
  (Operand.tmp 32)) none, AOper.mk (some 34) (AOp.fadr 1 (Operand.tmp 33)) none, AOper.mk (some 35) (AOp.load false 1 (Operand.tmp 34)) none, AOper.mk
  (some 36) (AOp.bld [PV.v (Value.int IntKind.i64 0), PV.v (Value.int IntKind.i64 0)] [(0, 1), (1, 1)] [(0, Operand.tmp 29), (1, Operand.tmp 35)]) none],
  some (true, AOper.mk (some 37) (AOp.bsl 131 2 [Operand.tmp 36]) none)), ([], some (false, AOper.mk (some 38) (AOp.app 131 2 (Operand.tmp 23)
  (Operand.tmp 37)) none)), ([AOper.mk (some 3) (AOp.mov (Operand.tmp 38)) none], none)])) (AC.ops [AOper.mk (some 21) (AOp.mov (Operand.tmp 5)) none,
  AOper.mk (some 22) (AOp.bin false BinOp.add (Operand.tmp 21) (Operand.const (Value.int IntKind.i64 1))) none, AOper.mk (some 5) (AOp.mov (Operand.tmp
  22)) none]))))))) (AC.ops [AOper.mk (some 11) (AOp.mov (Operand.tmp 4)) none, AOper.mk (some 12) (AOp.bin false BinOp.add (Operand.tmp 11)
  (Operand.const (Value.int IntKind.i64 1))) none, AOper.mk (some 4) (AOp.mov (Operand.tmp 12)) none])))))) (AC.seq (AC.ops [AOper.mk (some 39) (AOp.mov
  (Operand.tmp 3)) none, AOper.mk (some 2) (AOp.mov (Operand.tmp 39)) none]) AC.ret)))) [ARes.tmp 2]
theorem cfn113 : cfn Try.prog 113 1 = some c113 := by kernel_rfl
def c114 : AFn :=
  AFn.mk 21 (AC.seq (AC.ops [AOper.mk (some 1) (AOp.box 24 (Operand.tmp 0)) none, AOper.mk (some 2) (AOp.zro 158 (PV.agg [PV.v (Value.int IntKind.i64 0),
  PV.v (Value.int IntKind.i64 0), PV.v (Value.int IntKind.i64 0), PV.v (Value.int IntKind.i64 0), PV.v (Value.int IntKind.i64 0), PV.v (Value.int
  IntKind.i64 0), PV.v (Value.int IntKind.i64 0), PV.v (Value.int IntKind.i64 0), PV.v (Value.int IntKind.i64 0), PV.v (Value.int IntKind.i64 0), PV.v
  (Value.int IntKind.i64 0), PV.v (Value.int IntKind.i64 0)])) none]) (AC.seq (AC.ops [AOper.mk (some 6) (AOp.call 119 []) none, AOper.mk (some 3)
  (AOp.zro 158 (PV.agg [PV.v (Value.int IntKind.i64 0), PV.v (Value.int IntKind.i64 0), PV.v (Value.int IntKind.i64 0), PV.v (Value.int IntKind.i64 0),
  PV.v (Value.int IntKind.i64 0), PV.v (Value.int IntKind.i64 0), PV.v (Value.int IntKind.i64 0), PV.v (Value.int IntKind.i64 0), PV.v (Value.int
  IntKind.i64 0), PV.v (Value.int IntKind.i64 0), PV.v (Value.int IntKind.i64 0), PV.v (Value.int IntKind.i64 0)])) none, AOper.mk none (AOp.store 12
  (Operand.tmp 3) (Operand.tmp 6)) none]) (AC.seq (AC.seq (AC.ops [AOper.mk (some 7) (AOp.fadr 1 (Operand.tmp 1)) none, AOper.mk (some 8) (AOp.load false
  1 (Operand.tmp 7)) none, AOper.mk (some 9) (AOp.len (Operand.tmp 8)) none, AOper.mk (some 10) (AOp.mov (Operand.const (Value.int IntKind.i64 0)))
  none]) (AC.block 0 (AC.loop (AC.seq (AC.ops [AOper.mk (some 11) (AOp.bin false BinOp.lss (Operand.tmp 10) (Operand.tmp 9)) none]) (AC.seq (AC.cond
  (Operand.tmp 11) AC.skip (AC.exit 0)) (AC.seq (AC.block 1 (AC.seq (AC.ops [AOper.mk (some 12) (AOp.iadr 3 (Operand.tmp 8) (Operand.tmp 10)) none,
  AOper.mk (some 13) (AOp.load true 3 (Operand.tmp 12)) none, AOper.mk (some 5) (AOp.zro 120 (PV.agg [PV.v (Value.int IntKind.i64 0), PV.v (Value.int
  IntKind.i64 0), PV.v (Value.int IntKind.i64 0)])) none, AOper.mk none (AOp.store 3 (Operand.tmp 5) (Operand.tmp 13)) none]) (AC.ops [AOper.mk (some 14)
  (AOp.fadr 0 (Operand.tmp 5)) none, AOper.mk (some 15) (AOp.load false 1 (Operand.tmp 14)) none, AOper.mk (some 16) (AOp.fadr 1 (Operand.tmp 5)) none,
  AOper.mk (some 17) (AOp.load false 1 (Operand.tmp 16)) none, AOper.mk (some 18) (AOp.call 120 [Operand.tmp 3, Operand.tmp 15, Operand.tmp 17]) none])))
  (AC.ops [AOper.mk (some 19) (AOp.bin false BinOp.add (Operand.tmp 10) (Operand.const (Value.int IntKind.i64 1))) none, AOper.mk (some 10) (AOp.mov
  (Operand.tmp 19)) none]))))))) (AC.seq (AC.ops [AOper.mk (some 20) (AOp.load true 12 (Operand.tmp 3)) none, AOper.mk none (AOp.store 12 (Operand.tmp 2)
  (Operand.tmp 20)) none]) AC.ret)))) [ARes.cell 2 true 12]
theorem cfn114 : cfn Try.prog 114 1 = some c114 := by kernel_rfl
def c115 : AFn :=
  AFn.mk 43 (AC.seq (AC.ops [AOper.mk (some 4) (AOp.mov (Operand.const (Value.slice none 0 0))) none]) (AC.seq (AC.ops [AOper.mk (some 5) (AOp.mov
  (Operand.const (Value.slice none 0 0))) none]) (AC.seq (AC.ops [AOper.mk (some 9) (AOp.mkm (KD.int IntKind.i64)) none, AOper.mk (some 6) (AOp.mov
  (Operand.tmp 9)) none]) (AC.seq (AC.seq (AC.ops [AOper.mk (some 10) (AOp.mov (Operand.tmp 1)) none, AOper.mk (some 11) (AOp.mov (Operand.const
  (Value.int IntKind.i64 0))) none]) (AC.block 0 (AC.loop (AC.seq (AC.ops [AOper.mk (some 12) (AOp.bin false BinOp.lss (Operand.tmp 11) (Operand.tmp 10))
  none]) (AC.seq (AC.cond (Operand.tmp 12) AC.skip (AC.exit 0)) (AC.seq (AC.block 1 (AC.seq (AC.ops [AOper.mk (some 13) (AOp.mov (Operand.tmp 11)) none,
  AOper.mk (some 7) (AOp.mov (Operand.tmp 13)) none]) (AC.seq (AC.ops [AOper.mk (some 14) (AOp.mov (Operand.tmp 0)) none, AOper.mk (some 15) (AOp.mov
  (Operand.tmp 7)) none, AOper.mk (some 16) (AOp.call 121 [Operand.tmp 14, Operand.tmp 15]) none, AOper.mk (some 8) (AOp.mov (Operand.tmp 16)) none])
  (AC.seq (AC.seq (AC.ops [AOper.mk (some 17) (AOp.mov (Operand.tmp 8)) none, AOper.mk (some 18) (AOp.mov (Operand.tmp 7)) none, AOper.mk (some 19)
  (AOp.bin false BinOp.eql (Operand.tmp 17) (Operand.tmp 18)) none]) (AC.cond (Operand.tmp 19) (AC.seq (AC.ops [AOper.mk (some 20) (AOp.mov (Operand.tmp
  6)) none, AOper.mk (some 21) (AOp.mov (Operand.tmp 7)) none, AOper.mk (some 22) (AOp.mov (Operand.tmp 5)) none, AOper.mk (some 23) (AOp.len
  (Operand.tmp 22)) none, AOper.mk none (AOp.mset (KD.int IntKind.i64) (Operand.tmp 20) (Operand.tmp 21) (Operand.tmp 23)) none]) (AC.ops [AOper.mk (some
  24) (AOp.mov (Operand.tmp 5)) none, AOper.mk (some 25) (AOp.bslT 25 [Operand.const (Value.slice none 0 0)]) none, AOper.mk (some 26) (AOp.appT 25
  (Operand.tmp 24) (Operand.tmp 25)) none, AOper.mk (some 5) (AOp.mov (Operand.tmp 26)) none])) AC.skip)) (AC.tree (AT.look [AOper.mk (some 27) (AOp.mov
  (Operand.tmp 5)) none, AOper.mk (some 28) (AOp.mov (Operand.tmp 6)) none, AOper.mk (some 29) (AOp.mov (Operand.tmp 8)) none, AOper.mk (some 31)
  (AOp.mov (Operand.tmp 5)) none, AOper.mk (some 32) (AOp.mov (Operand.tmp 6)) none, AOper.mk (some 33) (AOp.mov (Operand.tmp 8)) none, AOper.mk (some
  34) (AOp.look (KD.int IntKind.i64) (PV.v (Value.int IntKind.i64 0)) false (Operand.tmp 32) (Operand.tmp 33)) none, AOper.mk (some 35) (AOp.iadr 1
  (Operand.tmp 31) (Operand.tmp 34)) none, AOper.mk (some 36) (AOp.load false 1 (Operand.tmp 35)) none, AOper.mk (some 37) (AOp.mov (Operand.tmp 7))
  none] (AT.fork true (AOper.mk (some 30) (AOp.look (KD.int IntKind.i64) (PV.v (Value.int IntKind.i64 0)) false (Operand.tmp 28) (Operand.tmp 29)) none)
  (AT.act true (AOper.mk (some 38) (AOp.bsl 3 1 [Operand.tmp 37]) none) (AT.act false (AOper.mk (some 39) (AOp.app 3 1 (Operand.tmp 36) (Operand.tmp 38))
  none) (AT.look [AOper.mk (some 40) (AOp.iadr 1 (Operand.tmp 27) (Operand.tmp 30)) none] (AT.act false (AOper.mk none (AOp.store 1 (Operand.tmp 40)
  (Operand.tmp 39)) none) AT.done)))) (AT.act true (AOper.mk (some 38) (AOp.bsl 3 1 [Operand.tmp 37]) none) (AT.fork true (AOper.mk (some 30) (AOp.look
  (KD.int IntKind.i64) (PV.v (Value.int IntKind.i64 0)) false (Operand.tmp 28) (Operand.tmp 29)) none) (AT.act false (AOper.mk (some 39) (AOp.app 3 1
  (Operand.tmp 36) (Operand.tmp 38)) none) (AT.look [AOper.mk (some 40) (AOp.iadr 1 (Operand.tmp 27) (Operand.tmp 30)) none] (AT.act false (AOper.mk none
  (AOp.store 1 (Operand.tmp 40) (Operand.tmp 39)) none) AT.done))) (AT.act false (AOper.mk (some 39) (AOp.app 3 1 (Operand.tmp 36) (Operand.tmp 38))
  none) (AT.look [AOper.mk (some 30) (AOp.look (KD.int IntKind.i64) (PV.v (Value.int IntKind.i64 0)) false (Operand.tmp 28) (Operand.tmp 29)) none,
  AOper.mk (some 40) (AOp.iadr 1 (Operand.tmp 27) (Operand.tmp 30)) none] (AT.act false (AOper.mk none (AOp.store 1 (Operand.tmp 40) (Operand.tmp 39))
  none) AT.done)))))))))))) (AC.ops [AOper.mk (some 41) (AOp.bin false BinOp.add (Operand.tmp 11) (Operand.const (Value.int IntKind.i64 1))) none,
  AOper.mk (some 11) (AOp.mov (Operand.tmp 41)) none]))))))) (AC.seq (AC.ops [AOper.mk (some 42) (AOp.mov (Operand.tmp 5)) none, AOper.mk (some 4)
  (AOp.mov (Operand.tmp 42)) none]) AC.ret))))) [ARes.tmp 4]
theorem cfn115 : cfn Try.prog 115 2 = some c115 := by kernel_rfl
def c116 : AFn :=
  AFn.mk 30 (AC.seq (AC.ops [AOper.mk (some 3) (AOp.mov (Operand.const (Value.int IntKind.i64 0))) none]) (AC.seq (AC.ops [AOper.mk (some 6) (AOp.fadr 1
  (Operand.tmp 1)) none, AOper.mk (some 7) (AOp.load false 1 (Operand.tmp 6)) none, AOper.mk (some 8) (AOp.len (Operand.tmp 7)) none, AOper.mk (some 9)
  (AOp.mov (Operand.const (Value.int IntKind.i64 0))) none]) (AC.block 0 (AC.loop (AC.seq (AC.ops [AOper.mk (some 10) (AOp.bin false BinOp.lss
  (Operand.tmp 9) (Operand.tmp 8)) none]) (AC.seq (AC.cond (Operand.tmp 10) AC.skip (AC.exit 0)) (AC.seq (AC.block 1 (AC.seq (AC.ops [AOper.mk (some 11)
  (AOp.iadr 3 (Operand.tmp 7) (Operand.tmp 9)) none, AOper.mk (some 12) (AOp.load true 3 (Operand.tmp 11)) none, AOper.mk (some 5) (AOp.zro 120 (PV.agg
  [PV.v (Value.int IntKind.i64 0), PV.v (Value.int IntKind.i64 0), PV.v (Value.int IntKind.i64 0)])) none, AOper.mk none (AOp.store 3 (Operand.tmp 5)
  (Operand.tmp 12)) none]) (AC.seq (AC.ops [AOper.mk (some 13) (AOp.fadr 2 (Operand.tmp 5)) none, AOper.mk (some 14) (AOp.load false 1 (Operand.tmp 13))
  none, AOper.mk (some 15) (AOp.mov (Operand.const (Value.int IntKind.i64 0))) none]) (AC.block 2 (AC.loop (AC.seq (AC.ops [AOper.mk (some 16) (AOp.bin
  false BinOp.lss (Operand.tmp 15) (Operand.tmp 14)) none]) (AC.seq (AC.cond (Operand.tmp 16) AC.skip (AC.exit 2)) (AC.seq (AC.block 3 (AC.seq (AC.seq
  (AC.ops [AOper.mk (some 17) (AOp.mov (Operand.tmp 0)) none, AOper.mk (some 18) (AOp.mov (Operand.tmp 3)) none, AOper.mk (some 19) (AOp.fadr 0
  (Operand.tmp 5)) none, AOper.mk (some 20) (AOp.load false 1 (Operand.tmp 19)) none, AOper.mk (some 21) (AOp.fadr 1 (Operand.tmp 5)) none, AOper.mk
  (some 22) (AOp.load false 1 (Operand.tmp 21)) none, AOper.mk (some 23) (AOp.bld [PV.v (Value.int IntKind.i64 0), PV.v (Value.int IntKind.i64 0)] [(0,
  1), (1, 1)] [(0, Operand.tmp 20), (1, Operand.tmp 22)]) none, AOper.mk (some 24) (AOp.callv (Operand.tmp 17) [Operand.tmp 18, Operand.tmp 23]) none,
  AOper.mk (some 25) (AOp.un UnOp.not (Operand.tmp 24)) none]) (AC.cond (Operand.tmp 25) AC.ret AC.skip)) (AC.ops [AOper.mk (some 26) (AOp.mov
  (Operand.tmp 3)) none, AOper.mk (some 27) (AOp.bin false BinOp.add (Operand.tmp 26) (Operand.const (Value.int IntKind.i64 1))) none, AOper.mk (some 3)
  (AOp.mov (Operand.tmp 27)) none]))) (AC.ops [AOper.mk (some 28) (AOp.bin false BinOp.add (Operand.tmp 15) (Operand.const (Value.int IntKind.i64 1)))
  none, AOper.mk (some 15) (AOp.mov (Operand.tmp 28)) none]))))))))) (AC.ops [AOper.mk (some 29) (AOp.bin false BinOp.add (Operand.tmp 9) (Operand.const
  (Value.int IntKind.i64 1))) none, AOper.mk (some 9) (AOp.mov (Operand.tmp 29)) none])))))))) []
theorem cfn116 : cfn Try.prog 116 2 = some c116 := by kernel_rfl
def c117 : AFn :=
  AFn.mk 48 (AC.seq (AC.ops [AOper.mk (some 2) (AOp.box 24 (Operand.tmp 0)) none, AOper.mk (some 4) (AOp.mov (Operand.const (Value.slice none 0 0)))
  none]) (AC.seq (AC.ops [AOper.mk (some 9) (AOp.fadr 0 (Operand.tmp 2)) none, AOper.mk (some 10) (AOp.load false 1 (Operand.tmp 9)) none, AOper.mk (some
  11) (AOp.mk 4 1 (PV.v (Value.bool false)) (Operand.tmp 10) (Operand.tmp 10)) none, AOper.mk (some 5) (AOp.mov (Operand.tmp 11)) none]) (AC.seq (AC.ops
  [AOper.mk (some 12) (AOp.mov (Operand.tmp 5)) none, AOper.mk (some 13) (AOp.mov (Operand.tmp 1)) none, AOper.mk (some 14) (AOp.iadr 1 (Operand.tmp 12)
  (Operand.tmp 13)) none, AOper.mk none (AOp.store 1 (Operand.tmp 14) (Operand.const (Value.bool true))) none]) (AC.seq (AC.seq (AC.ops [AOper.mk (some
  6) (AOp.mov (Operand.const (Value.int IntKind.i64 0))) none]) (AC.block 0 (AC.loop (AC.seq (AC.seq (AC.ops [AOper.mk (some 15) (AOp.mov (Operand.tmp
  6)) none, AOper.mk (some 16) (AOp.fadr 0 (Operand.tmp 2)) none, AOper.mk (some 17) (AOp.load false 1 (Operand.tmp 16)) none, AOper.mk (some 18)
  (AOp.bin false BinOp.lss (Operand.tmp 15) (Operand.tmp 17)) none]) (AC.cond (Operand.tmp 18) AC.skip (AC.exit 0))) (AC.seq (AC.block 1 (AC.seq (AC.ops
  [AOper.mk (some 7) (AOp.mov (Operand.const (Value.int IntKind.i64 0))) none]) (AC.block 2 (AC.loop (AC.seq (AC.seq (AC.ops [AOper.mk (some 21) (AOp.mov
  (Operand.tmp 7)) none, AOper.mk (some 22) (AOp.fadr 0 (Operand.tmp 2)) none, AOper.mk (some 23) (AOp.load false 1 (Operand.tmp 22)) none, AOper.mk
  (some 24) (AOp.bin false BinOp.lss (Operand.tmp 21) (Operand.tmp 23)) none]) (AC.cond (Operand.tmp 24) AC.skip (AC.exit 2))) (AC.seq (AC.block 3
  (AC.seq (AC.ops [AOper.mk (some 8) (AOp.mov (Operand.const (Value.int IntKind.i64 0))) none]) (AC.block 4 (AC.loop (AC.seq (AC.seq (AC.ops [AOper.mk
  (some 27) (AOp.mov (Operand.tmp 8)) none, AOper.mk (some 28) (AOp.fadr 0 (Operand.tmp 2)) none, AOper.mk (some 29) (AOp.load false 1 (Operand.tmp 28))
  none, AOper.mk (some 30) (AOp.bin false BinOp.lss (Operand.tmp 27) (Operand.tmp 29)) none]) (AC.cond (Operand.tmp 30) AC.skip (AC.exit 4))) (AC.seq
  (AC.block 5 (AC.seq (AC.ops [AOper.mk (some 33) (AOp.mov (Operand.tmp 5)) none, AOper.mk (some 34) (AOp.mov (Operand.tmp 7)) none, AOper.mk (some 35)
  (AOp.iadr 1 (Operand.tmp 33) (Operand.tmp 34)) none, AOper.mk (some 36) (AOp.load false 1 (Operand.tmp 35)) none, AOper.mk (some 37) (AOp.mov
  (Operand.tmp 36)) none, AOper.mk (some 38) (AOp.load true 2 (Operand.tmp 2)) (some (37, true)), AOper.mk (some 39) (AOp.mov (Operand.tmp 7)) (some (37,
  true)), AOper.mk (some 40) (AOp.mov (Operand.tmp 8)) (some (37, true)), AOper.mk (some 41) (AOp.call 71 [Operand.tmp 38, Operand.tmp 39, Operand.tmp
  40]) (some (37, true)), AOper.mk (some 42) (AOp.bin false BinOp.gtr (Operand.tmp 41) (Operand.const (Value.int IntKind.i64 0))) (some (37, true)),
  AOper.mk (some 43) (AOp.pick (Operand.tmp 37) (Operand.tmp 42) (Operand.const (Value.bool false))) none]) (AC.cond (Operand.tmp 43) (AC.ops [AOper.mk
  (some 44) (AOp.mov (Operand.tmp 5)) none, AOper.mk (some 45) (AOp.mov (Operand.tmp 8)) none, AOper.mk (some 46) (AOp.iadr 1 (Operand.tmp 44)
  (Operand.tmp 45)) none, AOper.mk none (AOp.store 1 (Operand.tmp 46) (Operand.const (Value.bool true))) none]) AC.skip))) (AC.ops [AOper.mk (some 31)
  (AOp.mov (Operand.tmp 8)) none, AOper.mk (some 32) (AOp.bin false BinOp.add (Operand.tmp 31) (Operand.const (Value.int IntKind.i64 1))) none, AOper.mk
  (some 8) (AOp.mov (Operand.tmp 32)) none]))))))) (AC.ops [AOper.mk (some 25) (AOp.mov (Operand.tmp 7)) none, AOper.mk (some 26) (AOp.bin false
  BinOp.add (Operand.tmp 25) (Operand.const (Value.int IntKind.i64 1))) none, AOper.mk (some 7) (AOp.mov (Operand.tmp 26)) none]))))))) (AC.ops [AOper.mk
  (some 19) (AOp.mov (Operand.tmp 6)) none, AOper.mk (some 20) (AOp.bin false BinOp.add (Operand.tmp 19) (Operand.const (Value.int IntKind.i64 1))) none,
  AOper.mk (some 6) (AOp.mov (Operand.tmp 20)) none])))))) (AC.seq (AC.ops [AOper.mk (some 47) (AOp.mov (Operand.tmp 5)) none, AOper.mk (some 4) (AOp.mov
  (Operand.tmp 47)) none]) AC.ret))))) [ARes.tmp 4]
theorem cfn117 : cfn Try.prog 117 2 = some c117 := by kernel_rfl
def c118 : AFn :=
  AFn.mk 6 (AC.seq (AC.ops [AOper.mk (some 2) (AOp.mov (Operand.const (Value.bool false))) none]) (AC.seq (AC.ops [AOper.mk (some 3) (AOp.mov
  (Operand.tmp 0)) none, AOper.mk (some 4) (AOp.mov (Operand.tmp 0)) none, AOper.mk (some 5) (AOp.bin false BinOp.neq (Operand.tmp 3) (Operand.tmp 4))
  none, AOper.mk (some 2) (AOp.mov (Operand.tmp 5)) none]) AC.ret)) [ARes.tmp 2]
theorem cfn118 : cfn Try.prog 118 1 = some c118 := by kernel_rfl
def c119 : AFn :=
  AFn.mk 11 (AC.seq (AC.ops [AOper.mk (some 0) (AOp.zro 158 (PV.agg [PV.v (Value.int IntKind.i64 0), PV.v (Value.int IntKind.i64 0), PV.v (Value.int
  IntKind.i64 0), PV.v (Value.int IntKind.i64 0), PV.v (Value.int IntKind.i64 0), PV.v (Value.int IntKind.i64 0), PV.v (Value.int IntKind.i64 0), PV.v
  (Value.int IntKind.i64 0), PV.v (Value.int IntKind.i64 0), PV.v (Value.int IntKind.i64 0), PV.v (Value.int IntKind.i64 0), PV.v (Value.int IntKind.i64
  0)])) none]) (AC.seq (AC.ops [AOper.mk (some 1) (AOp.zro 158 (PV.agg [PV.v (Value.int IntKind.i64 0), PV.v (Value.int IntKind.i64 0), PV.v (Value.int
  IntKind.i64 0), PV.v (Value.int IntKind.i64 0), PV.v (Value.int IntKind.i64 0), PV.v (Value.int IntKind.i64 0), PV.v (Value.int IntKind.i64 0), PV.v
  (Value.int IntKind.i64 0), PV.v (Value.int IntKind.i64 0), PV.v (Value.int IntKind.i64 0), PV.v (Value.int IntKind.i64 0), PV.v (Value.int IntKind.i64
  0)])) none]) (AC.seq (AC.seq (AC.ops [AOper.mk (some 3) (AOp.mov (Operand.const (Value.int IntKind.i64 0))) none]) (AC.block 0 (AC.loop (AC.seq (AC.ops
  [AOper.mk (some 4) (AOp.bin false BinOp.lss (Operand.tmp 3) (Operand.const (Value.int IntKind.i64 12))) none]) (AC.seq (AC.cond (Operand.tmp 4) AC.skip
  (AC.exit 0)) (AC.seq (AC.block 1 (AC.seq (AC.ops [AOper.mk (some 5) (AOp.mov (Operand.tmp 3)) none, AOper.mk (some 2) (AOp.mov (Operand.tmp 5)) none])
  (AC.ops [AOper.mk (some 6) (AOp.mov (Operand.tmp 2)) none, AOper.mk (some 7) (AOp.mov (Operand.tmp 2)) none, AOper.mk (some 8) (AOp.iadrA 12 1
  (Operand.tmp 1) (Operand.tmp 6)) none, AOper.mk none (AOp.store 1 (Operand.tmp 8) (Operand.tmp 7)) none]))) (AC.ops [AOper.mk (some 9) (AOp.bin false
  BinOp.add (Operand.tmp 3) (Operand.const (Value.int IntKind.i64 1))) none, AOper.mk (some 3) (AOp.mov (Operand.tmp 9)) none]))))))) (AC.seq (AC.ops
  [AOper.mk (some 10) (AOp.load true 12 (Operand.tmp 1)) none, AOper.mk none (AOp.store 12 (Operand.tmp 0) (Operand.tmp 10)) none]) AC.ret)))) [ARes.cell
  0 true 12]
theorem cfn119 : cfn Try.prog 119 0 = some c119 := by kernel_rfl
def c120 : AFn :=
  AFn.mk 21 (AC.seq (AC.ops [AOper.mk (some 6) (AOp.mov (Operand.tmp 0)) none, AOper.mk (some 7) (AOp.mov (Operand.tmp 1)) none, AOper.mk (some 8)
  (AOp.call 121 [Operand.tmp 6, Operand.tmp 7]) none, AOper.mk (some 9) (AOp.mov (Operand.tmp 0)) none, AOper.mk (some 10) (AOp.mov (Operand.tmp 2))
  none, AOper.mk (some 11) (AOp.call 121 [Operand.tmp 9, Operand.tmp 10]) none, AOper.mk (some 1) (AOp.mov (Operand.tmp 8)) none, AOper.mk (some 2)
  (AOp.mov (Operand.tmp 11)) none]) (AC.ops [AOper.mk (some 12) (AOp.mov (Operand.tmp 0)) none, AOper.mk (some 13) (AOp.mov (Operand.tmp 1)) none,
  AOper.mk (some 14) (AOp.mov (Operand.tmp 2)) none, AOper.mk (some 15) (AOp.mm true (Operand.tmp 13) (Operand.tmp 14)) none, AOper.mk (some 16) (AOp.mov
  (Operand.tmp 1)) none, AOper.mk (some 17) (AOp.mov (Operand.tmp 2)) none, AOper.mk (some 18) (AOp.mm false (Operand.tmp 16) (Operand.tmp 17)) none,
  AOper.mk (some 19) (AOp.nilc (Operand.tmp 12)) none, AOper.mk (some 20) (AOp.iadrA 12 1 (Operand.tmp 19) (Operand.tmp 15)) none, AOper.mk none
  (AOp.store 1 (Operand.tmp 20) (Operand.tmp 18)) none])) []
theorem cfn120 : cfn Try.prog 120 3 = some c120 := by kernel_rfl
def c121 : AFn :=
  AFn.mk 18 (AC.seq (AC.ops [AOper.mk (some 4) (AOp.mov (Operand.const (Value.int IntKind.i64 0))) none]) (AC.seq (AC.block 0 (AC.loop (AC.seq (AC.seq
  (AC.ops [AOper.mk (some 5) (AOp.mov (Operand.tmp 0)) none, AOper.mk (some 6) (AOp.mov (Operand.tmp 1)) none, AOper.mk (some 7) (AOp.nilc (Operand.tmp
  5)) none, AOper.mk (some 8) (AOp.iadrA 12 1 (Operand.tmp 7) (Operand.tmp 6)) none, AOper.mk (some 9) (AOp.load false 1 (Operand.tmp 8)) none, AOper.mk
  (some 10) (AOp.mov (Operand.tmp 1)) none, AOper.mk (some 11) (AOp.bin false BinOp.neq (Operand.tmp 9) (Operand.tmp 10)) none]) (AC.cond (Operand.tmp
  11) AC.skip (AC.exit 0))) (AC.block 1 (AC.ops [AOper.mk (some 12) (AOp.mov (Operand.tmp 0)) none, AOper.mk (some 13) (AOp.mov (Operand.tmp 1)) none,
  AOper.mk (some 14) (AOp.nilc (Operand.tmp 12)) none, AOper.mk (some 15) (AOp.iadrA 12 1 (Operand.tmp 14) (Operand.tmp 13)) none, AOper.mk (some 16)
  (AOp.load false 1 (Operand.tmp 15)) none, AOper.mk (some 1) (AOp.mov (Operand.tmp 16)) none]))))) (AC.seq (AC.ops [AOper.mk (some 17) (AOp.mov
  (Operand.tmp 1)) none, AOper.mk (some 4) (AOp.mov (Operand.tmp 17)) none]) AC.ret))) [ARes.tmp 4]
theorem cfn121 : cfn Try.prog 121 2 = some c121 := by kernel_rfl
end Go.Proofs.Ythdbmoflbnggpaa
