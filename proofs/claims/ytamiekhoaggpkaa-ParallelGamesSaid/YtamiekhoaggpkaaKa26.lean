/-
  Texts joined: Wg.
-/
import Derived.Test.YtamiekhoaggpkaaKa25

section
set_option linter.unusedSimpArgs false
set_option linter.unusedVariables false
namespace Go.Proofs.Ytamiekhoaggpkaa
open Go.Abs Go.Sand
section
variable (n : Nat) (eds : List PV) (d : List Int) (kx y1 y2 y3 : PV)
@[simp] abbrev kTS (l : List (Nat × AV)) : List (Nat × AV) := ((12, AV.ptr 6 1 0 0) :: (11, AV.ptr 5 1 0 0) :: (10, AV.ptr 4 1 0 0) :: (9, AV.ptr 3 1 0 0) :: (8, AV.ptr 2 1 0 0) :: (7, AV.ptr 1 1 0 0) :: (4, AV.ptr 0 1 0 0) :: (2, AV.p (.is d)) :: l)
@[simp] abbrev kBS (l : List AO) : List AO := (AO.box (.p (.agg [.i n, .sl eds])) :: AO.box (.p kx) :: AO.box (.p .nil) :: AO.box (.p .nil) :: AO.box (.i 0) :: AO.box (.i 0) :: AO.box (.agg [.p y1, .p y2, .p y3]) :: l)
@[simp] abbrev ko13 : AOper := (AOper.mk (some 13) (AOp.zro 26 (PV.v (Value.slice none 0 0))) none)
@[simp] abbrev ko14 : AOper := (AOper.mk (some 14) (AOp.zro 36 (PV.v (Value.slice none 0 0))) none)
@[simp] abbrev ko15 : AOper := (AOper.mk (some 15) (AOp.zro 3 (PV.v (Value.int IntKind.i64 0))) none)
@[simp] abbrev ko16 : AOper := (AOper.mk (some 16) (AOp.zro 3 (PV.v (Value.int IntKind.i64 0))) none)
@[simp] abbrev ko25 : AOper := (AOper.mk (some 25) (AOp.mov (Operand.tmp 2)) none)
@[simp] abbrev ko26 : AOper := (AOper.mk (some 26) (AOp.call 78 [Operand.tmp 25]) none)
@[simp] abbrev ko27 : AOper := (AOper.mk (some 27) (AOp.fadr 0 (Operand.tmp 4)) none)
@[simp] abbrev ko28 : AOper := (AOper.mk (some 28) (AOp.load false 1 (Operand.tmp 27)) none)
@[simp] abbrev ko29 : AOper := (AOper.mk (some 29) (AOp.mk 3 1 (PV.v (Value.int IntKind.i64 0)) (Operand.tmp 28) (Operand.tmp 28)) none)
@[simp] abbrev kos13 : AOper := (AOper.mk none (AOp.store 1 (Operand.tmp 13) (Operand.tmp 26)) none)
@[simp] abbrev kos14 : AOper := (AOper.mk none (AOp.store 1 (Operand.tmp 14) (Operand.tmp 29)) none)
@[simp] abbrev kos15 : AOper := (AOper.mk none (AOp.store 1 (Operand.tmp 15) (Operand.const (Value.int IntKind.i64 0))) none)
@[simp] abbrev kos16 : AOper := (AOper.mk none (AOp.store 1 (Operand.tmp 16) (Operand.const (Value.int IntKind.i64 0))) none)
@[simp] abbrev kRW : AO := (AO.row (List.replicate n (PV.v (Value.int .i64 0))) 1 3 false)
def kS0 : St := ⟨kTS d [], kBS n eds kx y1 y2 y3 []⟩
def kS1 : St := ⟨kTS d [(25, .p (.is d)), (26, .p (.is d))], kBS n eds kx y1 y2 y3 []⟩
def kS2 : St := ⟨kTS d [(25, .p (.is d)), (27, .ptr 0 1 0 0)], kBS n eds kx y1 y2 y3 []⟩
def kS3 : St := ⟨kTS d [(25, .p (.is d)), (13, .ptr 7 1 0 0)], kBS n eds kx y1 y2 y3 [.box (.p .nil)]⟩
def kS4 : St := ⟨kTS d [(25, .p (.is d)), (14, .ptr 7 1 0 0)], kBS n eds kx y1 y2 y3 [.box (.p .nil)]⟩
def kS5 : St := ⟨kTS d [(25, .p (.is d)), (15, .ptr 7 1 0 0)], kBS n eds kx y1 y2 y3 [.box (.i 0)]⟩
def kS6 : St := ⟨kTS d [(25, .p (.is d)), (16, .ptr 7 1 0 0)], kBS n eds kx y1 y2 y3 [.box (.i 0)]⟩
def kS7 : St := ⟨kTS d [(25, .p (.is d)), (26, .p (.is d)), (27, .ptr 0 1 0 0)], kBS n eds kx y1 y2 y3 []⟩
def kS8 : St := ⟨kTS d [(25, .p (.is d)), (26, .p (.is d)), (13, .ptr 7 1 0 0)], kBS n eds kx y1 y2 y3 [.box (.p .nil)]⟩
def kS9 : St := ⟨kTS d [(25, .p (.is d)), (26, .p (.is d)), (14, .ptr 7 1 0 0)], kBS n eds kx y1 y2 y3 [.box (.p .nil)]⟩
def kS10 : St := ⟨kTS d [(25, .p (.is d)), (26, .p (.is d)), (15, .ptr 7 1 0 0)], kBS n eds kx y1 y2 y3 [.box (.i 0)]⟩
def kS11 : St := ⟨kTS d [(25, .p (.is d)), (26, .p (.is d)), (16, .ptr 7 1 0 0)], kBS n eds kx y1 y2 y3 [.box (.i 0)]⟩
def kS12 : St := ⟨kTS d [(25, .p (.is d)), (27, .ptr 0 1 0 0), (28, .i n)], kBS n eds kx y1 y2 y3 []⟩
def kS13 : St := ⟨kTS d [(25, .p (.is d)), (27, .ptr 0 1 0 0), (13, .ptr 7 1 0 0)], kBS n eds kx y1 y2 y3 [.box (.p .nil)]⟩
def kS14 : St := ⟨kTS d [(25, .p (.is d)), (27, .ptr 0 1 0 0), (14, .ptr 7 1 0 0)], kBS n eds kx y1 y2 y3 [.box (.p .nil)]⟩
def kS15 : St := ⟨kTS d [(25, .p (.is d)), (27, .ptr 0 1 0 0), (15, .ptr 7 1 0 0)], kBS n eds kx y1 y2 y3 [.box (.i 0)]⟩
def kS16 : St := ⟨kTS d [(25, .p (.is d)), (27, .ptr 0 1 0 0), (16, .ptr 7 1 0 0)], kBS n eds kx y1 y2 y3 [.box (.i 0)]⟩
def kS17 : St := ⟨kTS d [(25, .p (.is d)), (13, .ptr 7 1 0 0), (14, .ptr 8 1 0 0)], kBS n eds kx y1 y2 y3 [.box (.p .nil), .box (.p .nil)]⟩
def kS18 : St := ⟨kTS d [(25, .p (.is d)), (13, .ptr 7 1 0 0), (15, .ptr 8 1 0 0)], kBS n eds kx y1 y2 y3 [.box (.p .nil), .box (.i 0)]⟩
def kS19 : St := ⟨kTS d [(25, .p (.is d)), (13, .ptr 7 1 0 0), (16, .ptr 8 1 0 0)], kBS n eds kx y1 y2 y3 [.box (.p .nil), .box (.i 0)]⟩
def kS20 : St := ⟨kTS d [(25, .p (.is d)), (14, .ptr 7 1 0 0), (15, .ptr 8 1 0 0)], kBS n eds kx y1 y2 y3 [.box (.p .nil), .box (.i 0)]⟩
def kS21 : St := ⟨kTS d [(25, .p (.is d)), (14, .ptr 7 1 0 0), (16, .ptr 8 1 0 0)], kBS n eds kx y1 y2 y3 [.box (.p .nil), .box (.i 0)]⟩
def kS22 : St := ⟨kTS d [(25, .p (.is d)), (15, .ptr 7 1 0 0), (16, .ptr 8 1 0 0)], kBS n eds kx y1 y2 y3 [.box (.i 0), .box (.i 0)]⟩
def kS23 : St := ⟨kTS d [(25, .p (.is d)), (26, .p (.is d)), (27, .ptr 0 1 0 0), (28, .i n)], kBS n eds kx y1 y2 y3 []⟩
def kS24 : St := ⟨kTS d [(25, .p (.is d)), (26, .p (.is d)), (27, .ptr 0 1 0 0), (13, .ptr 7 1 0 0)], kBS n eds kx y1 y2 y3 [.box (.p .nil)]⟩
def kS25 : St := ⟨kTS d [(25, .p (.is d)), (26, .p (.is d)), (27, .ptr 0 1 0 0), (14, .ptr 7 1 0 0)], kBS n eds kx y1 y2 y3 [.box (.p .nil)]⟩
def kS26 : St := ⟨kTS d [(25, .p (.is d)), (26, .p (.is d)), (27, .ptr 0 1 0 0), (15, .ptr 7 1 0 0)], kBS n eds kx y1 y2 y3 [.box (.i 0)]⟩
def kS27 : St := ⟨kTS d [(25, .p (.is d)), (26, .p (.is d)), (27, .ptr 0 1 0 0), (16, .ptr 7 1 0 0)], kBS n eds kx y1 y2 y3 [.box (.i 0)]⟩
def kS28 : St := ⟨kTS d [(25, .p (.is d)), (26, .p (.is d)), (13, .ptr 7 1 0 0), (14, .ptr 8 1 0 0)], kBS n eds kx y1 y2 y3 [.box (.p .nil), .box (.p .nil)]⟩
def kS29 : St := ⟨kTS d [(25, .p (.is d)), (26, .p (.is d)), (13, .ptr 7 1 0 0), (15, .ptr 8 1 0 0)], kBS n eds kx y1 y2 y3 [.box (.p .nil), .box (.i 0)]⟩
def kS30 : St := ⟨kTS d [(25, .p (.is d)), (26, .p (.is d)), (13, .ptr 7 1 0 0), (16, .ptr 8 1 0 0)], kBS n eds kx y1 y2 y3 [.box (.p .nil), .box (.i 0)]⟩
def kS31 : St := ⟨kTS d [(25, .p (.is d)), (26, .p (.is d)), (14, .ptr 7 1 0 0), (15, .ptr 8 1 0 0)], kBS n eds kx y1 y2 y3 [.box (.p .nil), .box (.i 0)]⟩
def kS32 : St := ⟨kTS d [(25, .p (.is d)), (26, .p (.is d)), (14, .ptr 7 1 0 0), (16, .ptr 8 1 0 0)], kBS n eds kx y1 y2 y3 [.box (.p .nil), .box (.i 0)]⟩
def kS33 : St := ⟨kTS d [(25, .p (.is d)), (26, .p (.is d)), (15, .ptr 7 1 0 0), (16, .ptr 8 1 0 0)], kBS n eds kx y1 y2 y3 [.box (.i 0), .box (.i 0)]⟩
def kS34 : St := ⟨kTS d [(25, .p (.is d)), (27, .ptr 0 1 0 0), (28, .i n), (29, .os 7 0 n)], kBS n eds kx y1 y2 y3 [(kRW n)]⟩
def kS35 : St := ⟨kTS d [(25, .p (.is d)), (27, .ptr 0 1 0 0), (28, .i n), (13, .ptr 7 1 0 0)], kBS n eds kx y1 y2 y3 [.box (.p .nil)]⟩
def kS36 : St := ⟨kTS d [(25, .p (.is d)), (27, .ptr 0 1 0 0), (28, .i n), (14, .ptr 7 1 0 0)], kBS n eds kx y1 y2 y3 [.box (.p .nil)]⟩
def kS37 : St := ⟨kTS d [(25, .p (.is d)), (27, .ptr 0 1 0 0), (28, .i n), (15, .ptr 7 1 0 0)], kBS n eds kx y1 y2 y3 [.box (.i 0)]⟩
def kS38 : St := ⟨kTS d [(25, .p (.is d)), (27, .ptr 0 1 0 0), (28, .i n), (16, .ptr 7 1 0 0)], kBS n eds kx y1 y2 y3 [.box (.i 0)]⟩
def kS39 : St := ⟨kTS d [(25, .p (.is d)), (27, .ptr 0 1 0 0), (13, .ptr 7 1 0 0), (14, .ptr 8 1 0 0)], kBS n eds kx y1 y2 y3 [.box (.p .nil), .box (.p .nil)]⟩
def kS40 : St := ⟨kTS d [(25, .p (.is d)), (27, .ptr 0 1 0 0), (13, .ptr 7 1 0 0), (15, .ptr 8 1 0 0)], kBS n eds kx y1 y2 y3 [.box (.p .nil), .box (.i 0)]⟩
def kS41 : St := ⟨kTS d [(25, .p (.is d)), (27, .ptr 0 1 0 0), (13, .ptr 7 1 0 0), (16, .ptr 8 1 0 0)], kBS n eds kx y1 y2 y3 [.box (.p .nil), .box (.i 0)]⟩
def kS42 : St := ⟨kTS d [(25, .p (.is d)), (27, .ptr 0 1 0 0), (14, .ptr 7 1 0 0), (15, .ptr 8 1 0 0)], kBS n eds kx y1 y2 y3 [.box (.p .nil), .box (.i 0)]⟩
def kS43 : St := ⟨kTS d [(25, .p (.is d)), (27, .ptr 0 1 0 0), (14, .ptr 7 1 0 0), (16, .ptr 8 1 0 0)], kBS n eds kx y1 y2 y3 [.box (.p .nil), .box (.i 0)]⟩
def kS44 : St := ⟨kTS d [(25, .p (.is d)), (27, .ptr 0 1 0 0), (15, .ptr 7 1 0 0), (16, .ptr 8 1 0 0)], kBS n eds kx y1 y2 y3 [.box (.i 0), .box (.i 0)]⟩
def kS45 : St := ⟨kTS d [(25, .p (.is d)), (13, .ptr 7 1 0 0), (14, .ptr 8 1 0 0), (15, .ptr 9 1 0 0)], kBS n eds kx y1 y2 y3 [.box (.p .nil), .box (.p .nil), .box (.i 0)]⟩
def kS46 : St := ⟨kTS d [(25, .p (.is d)), (13, .ptr 7 1 0 0), (14, .ptr 8 1 0 0), (16, .ptr 9 1 0 0)], kBS n eds kx y1 y2 y3 [.box (.p .nil), .box (.p .nil), .box (.i 0)]⟩
def kS47 : St := ⟨kTS d [(25, .p (.is d)), (13, .ptr 7 1 0 0), (15, .ptr 8 1 0 0), (16, .ptr 9 1 0 0)], kBS n eds kx y1 y2 y3 [.box (.p .nil), .box (.i 0), .box (.i 0)]⟩
def kS48 : St := ⟨kTS d [(25, .p (.is d)), (14, .ptr 7 1 0 0), (15, .ptr 8 1 0 0), (16, .ptr 9 1 0 0)], kBS n eds kx y1 y2 y3 [.box (.p .nil), .box (.i 0), .box (.i 0)]⟩
def kS49 : St := ⟨kTS d [(25, .p (.is d)), (26, .p (.is d)), (27, .ptr 0 1 0 0), (28, .i n), (29, .os 7 0 n)], kBS n eds kx y1 y2 y3 [(kRW n)]⟩
def kS50 : St := ⟨kTS d [(25, .p (.is d)), (26, .p (.is d)), (27, .ptr 0 1 0 0), (28, .i n), (13, .ptr 7 1 0 0)], kBS n eds kx y1 y2 y3 [.box (.p .nil)]⟩
def kS51 : St := ⟨kTS d [(25, .p (.is d)), (26, .p (.is d)), (27, .ptr 0 1 0 0), (28, .i n), (14, .ptr 7 1 0 0)], kBS n eds kx y1 y2 y3 [.box (.p .nil)]⟩
def kS52 : St := ⟨kTS d [(25, .p (.is d)), (26, .p (.is d)), (27, .ptr 0 1 0 0), (28, .i n), (15, .ptr 7 1 0 0)], kBS n eds kx y1 y2 y3 [.box (.i 0)]⟩
def kS53 : St := ⟨kTS d [(25, .p (.is d)), (26, .p (.is d)), (27, .ptr 0 1 0 0), (28, .i n), (16, .ptr 7 1 0 0)], kBS n eds kx y1 y2 y3 [.box (.i 0)]⟩
def kS54 : St := ⟨kTS d [(25, .p (.is d)), (26, .p (.is d)), (27, .ptr 0 1 0 0), (13, .ptr 7 1 0 0), (14, .ptr 8 1 0 0)], kBS n eds kx y1 y2 y3 [.box (.p .nil), .box (.p .nil)]⟩
def kS55 : St := ⟨kTS d [(25, .p (.is d)), (26, .p (.is d)), (27, .ptr 0 1 0 0), (13, .ptr 7 1 0 0), (15, .ptr 8 1 0 0)], kBS n eds kx y1 y2 y3 [.box (.p .nil), .box (.i 0)]⟩
def kS56 : St := ⟨kTS d [(25, .p (.is d)), (26, .p (.is d)), (27, .ptr 0 1 0 0), (13, .ptr 7 1 0 0), (16, .ptr 8 1 0 0)], kBS n eds kx y1 y2 y3 [.box (.p .nil), .box (.i 0)]⟩
def kS57 : St := ⟨kTS d [(25, .p (.is d)), (26, .p (.is d)), (27, .ptr 0 1 0 0), (14, .ptr 7 1 0 0), (15, .ptr 8 1 0 0)], kBS n eds kx y1 y2 y3 [.box (.p .nil), .box (.i 0)]⟩
def kS58 : St := ⟨kTS d [(25, .p (.is d)), (26, .p (.is d)), (27, .ptr 0 1 0 0), (14, .ptr 7 1 0 0), (16, .ptr 8 1 0 0)], kBS n eds kx y1 y2 y3 [.box (.p .nil), .box (.i 0)]⟩
def kS59 : St := ⟨kTS d [(25, .p (.is d)), (26, .p (.is d)), (27, .ptr 0 1 0 0), (15, .ptr 7 1 0 0), (16, .ptr 8 1 0 0)], kBS n eds kx y1 y2 y3 [.box (.i 0), .box (.i 0)]⟩
def kS60 : St := ⟨kTS d [(25, .p (.is d)), (26, .p (.is d)), (13, .ptr 7 1 0 0), (14, .ptr 8 1 0 0), (15, .ptr 9 1 0 0)], kBS n eds kx y1 y2 y3 [.box (.p .nil), .box (.p .nil), .box (.i 0)]⟩
def kS61 : St := ⟨kTS d [(25, .p (.is d)), (26, .p (.is d)), (13, .ptr 7 1 0 0), (14, .ptr 8 1 0 0), (16, .ptr 9 1 0 0)], kBS n eds kx y1 y2 y3 [.box (.p .nil), .box (.p .nil), .box (.i 0)]⟩
def kS62 : St := ⟨kTS d [(25, .p (.is d)), (26, .p (.is d)), (13, .ptr 7 1 0 0), (15, .ptr 8 1 0 0), (16, .ptr 9 1 0 0)], kBS n eds kx y1 y2 y3 [.box (.p .nil), .box (.i 0), .box (.i 0)]⟩
def kS63 : St := ⟨kTS d [(25, .p (.is d)), (26, .p (.is d)), (14, .ptr 7 1 0 0), (15, .ptr 8 1 0 0), (16, .ptr 9 1 0 0)], kBS n eds kx y1 y2 y3 [.box (.p .nil), .box (.i 0), .box (.i 0)]⟩
def kS64 : St := ⟨kTS d [(25, .p (.is d)), (27, .ptr 0 1 0 0), (28, .i n), (29, .os 8 0 n), (13, .ptr 7 1 0 0)], kBS n eds kx y1 y2 y3 [.box (.p .nil), (kRW n)]⟩
def kS65 : St := ⟨kTS d [(25, .p (.is d)), (27, .ptr 0 1 0 0), (28, .i n), (29, .os 8 0 n), (14, .ptr 7 1 0 0)], kBS n eds kx y1 y2 y3 [.box (.p .nil), (kRW n)]⟩
def kS66 : St := ⟨kTS d [(25, .p (.is d)), (27, .ptr 0 1 0 0), (28, .i n), (29, .os 8 0 n), (15, .ptr 7 1 0 0)], kBS n eds kx y1 y2 y3 [.box (.i 0), (kRW n)]⟩
def kS67 : St := ⟨kTS d [(25, .p (.is d)), (27, .ptr 0 1 0 0), (28, .i n), (29, .os 8 0 n), (16, .ptr 7 1 0 0)], kBS n eds kx y1 y2 y3 [.box (.i 0), (kRW n)]⟩
def kS68 : St := ⟨kTS d [(25, .p (.is d)), (27, .ptr 0 1 0 0), (28, .i n), (13, .ptr 7 1 0 0), (14, .ptr 8 1 0 0)], kBS n eds kx y1 y2 y3 [.box (.p .nil), .box (.p .nil)]⟩
def kS69 : St := ⟨kTS d [(25, .p (.is d)), (27, .ptr 0 1 0 0), (28, .i n), (13, .ptr 7 1 0 0), (15, .ptr 8 1 0 0)], kBS n eds kx y1 y2 y3 [.box (.p .nil), .box (.i 0)]⟩
def kS70 : St := ⟨kTS d [(25, .p (.is d)), (27, .ptr 0 1 0 0), (28, .i n), (13, .ptr 7 1 0 0), (16, .ptr 8 1 0 0)], kBS n eds kx y1 y2 y3 [.box (.p .nil), .box (.i 0)]⟩
def kS71 : St := ⟨kTS d [(25, .p (.is d)), (27, .ptr 0 1 0 0), (28, .i n), (14, .ptr 7 1 0 0), (15, .ptr 8 1 0 0)], kBS n eds kx y1 y2 y3 [.box (.p .nil), .box (.i 0)]⟩
def kS72 : St := ⟨kTS d [(25, .p (.is d)), (27, .ptr 0 1 0 0), (28, .i n), (14, .ptr 7 1 0 0), (16, .ptr 8 1 0 0)], kBS n eds kx y1 y2 y3 [.box (.p .nil), .box (.i 0)]⟩
def kS73 : St := ⟨kTS d [(25, .p (.is d)), (27, .ptr 0 1 0 0), (28, .i n), (15, .ptr 7 1 0 0), (16, .ptr 8 1 0 0)], kBS n eds kx y1 y2 y3 [.box (.i 0), .box (.i 0)]⟩
def kS74 : St := ⟨kTS d [(25, .p (.is d)), (27, .ptr 0 1 0 0), (13, .ptr 7 1 0 0), (14, .ptr 8 1 0 0), (15, .ptr 9 1 0 0)], kBS n eds kx y1 y2 y3 [.box (.p .nil), .box (.p .nil), .box (.i 0)]⟩
def kS75 : St := ⟨kTS d [(25, .p (.is d)), (27, .ptr 0 1 0 0), (13, .ptr 7 1 0 0), (14, .ptr 8 1 0 0), (16, .ptr 9 1 0 0)], kBS n eds kx y1 y2 y3 [.box (.p .nil), .box (.p .nil), .box (.i 0)]⟩
def kS76 : St := ⟨kTS d [(25, .p (.is d)), (27, .ptr 0 1 0 0), (13, .ptr 7 1 0 0), (15, .ptr 8 1 0 0), (16, .ptr 9 1 0 0)], kBS n eds kx y1 y2 y3 [.box (.p .nil), .box (.i 0), .box (.i 0)]⟩
def kS77 : St := ⟨kTS d [(25, .p (.is d)), (27, .ptr 0 1 0 0), (14, .ptr 7 1 0 0), (15, .ptr 8 1 0 0), (16, .ptr 9 1 0 0)], kBS n eds kx y1 y2 y3 [.box (.p .nil), .box (.i 0), .box (.i 0)]⟩
def kS78 : St := ⟨kTS d [(25, .p (.is d)), (13, .ptr 7 1 0 0), (14, .ptr 8 1 0 0), (15, .ptr 9 1 0 0), (16, .ptr 10 1 0 0)], kBS n eds kx y1 y2 y3 [.box (.p .nil), .box (.p .nil), .box (.i 0), .box (.i 0)]⟩
def kS79 : St := ⟨kTS d [(25, .p (.is d)), (26, .p (.is d)), (27, .ptr 0 1 0 0), (28, .i n), (29, .os 8 0 n), (13, .ptr 7 1 0 0)], kBS n eds kx y1 y2 y3 [.box (.p .nil), (kRW n)]⟩
def kS80 : St := ⟨kTS d [(25, .p (.is d)), (26, .p (.is d)), (27, .ptr 0 1 0 0), (28, .i n), (29, .os 8 0 n), (14, .ptr 7 1 0 0)], kBS n eds kx y1 y2 y3 [.box (.p .nil), (kRW n)]⟩
def kS81 : St := ⟨kTS d [(25, .p (.is d)), (26, .p (.is d)), (27, .ptr 0 1 0 0), (28, .i n), (29, .os 8 0 n), (15, .ptr 7 1 0 0)], kBS n eds kx y1 y2 y3 [.box (.i 0), (kRW n)]⟩
def kS82 : St := ⟨kTS d [(25, .p (.is d)), (26, .p (.is d)), (27, .ptr 0 1 0 0), (28, .i n), (29, .os 8 0 n), (16, .ptr 7 1 0 0)], kBS n eds kx y1 y2 y3 [.box (.i 0), (kRW n)]⟩
def kS83 : St := ⟨kTS d [(25, .p (.is d)), (26, .p (.is d)), (27, .ptr 0 1 0 0), (28, .i n), (13, .ptr 7 1 0 0), (14, .ptr 8 1 0 0)], kBS n eds kx y1 y2 y3 [.box (.p .nil), .box (.p .nil)]⟩
def kS84 : St := ⟨kTS d [(25, .p (.is d)), (26, .p (.is d)), (27, .ptr 0 1 0 0), (28, .i n), (13, .ptr 7 1 0 0), (15, .ptr 8 1 0 0)], kBS n eds kx y1 y2 y3 [.box (.p .nil), .box (.i 0)]⟩
def kS85 : St := ⟨kTS d [(25, .p (.is d)), (26, .p (.is d)), (27, .ptr 0 1 0 0), (28, .i n), (13, .ptr 7 1 0 0), (16, .ptr 8 1 0 0)], kBS n eds kx y1 y2 y3 [.box (.p .nil), .box (.i 0)]⟩
def kS86 : St := ⟨kTS d [(25, .p (.is d)), (26, .p (.is d)), (27, .ptr 0 1 0 0), (28, .i n), (14, .ptr 7 1 0 0), (15, .ptr 8 1 0 0)], kBS n eds kx y1 y2 y3 [.box (.p .nil), .box (.i 0)]⟩
def kS87 : St := ⟨kTS d [(25, .p (.is d)), (26, .p (.is d)), (27, .ptr 0 1 0 0), (28, .i n), (14, .ptr 7 1 0 0), (16, .ptr 8 1 0 0)], kBS n eds kx y1 y2 y3 [.box (.p .nil), .box (.i 0)]⟩
def kS88 : St := ⟨kTS d [(25, .p (.is d)), (26, .p (.is d)), (27, .ptr 0 1 0 0), (28, .i n), (15, .ptr 7 1 0 0), (16, .ptr 8 1 0 0)], kBS n eds kx y1 y2 y3 [.box (.i 0), .box (.i 0)]⟩
def kS89 : St := ⟨kTS d [(25, .p (.is d)), (26, .p (.is d)), (27, .ptr 0 1 0 0), (13, .ptr 7 1 0 0), (14, .ptr 8 1 0 0), (15, .ptr 9 1 0 0)], kBS n eds kx y1 y2 y3 [.box (.p .nil), .box (.p .nil), .box (.i 0)]⟩
def kS90 : St := ⟨kTS d [(25, .p (.is d)), (26, .p (.is d)), (27, .ptr 0 1 0 0), (13, .ptr 7 1 0 0), (14, .ptr 8 1 0 0), (16, .ptr 9 1 0 0)], kBS n eds kx y1 y2 y3 [.box (.p .nil), .box (.p .nil), .box (.i 0)]⟩
def kS91 : St := ⟨kTS d [(25, .p (.is d)), (26, .p (.is d)), (27, .ptr 0 1 0 0), (13, .ptr 7 1 0 0), (15, .ptr 8 1 0 0), (16, .ptr 9 1 0 0)], kBS n eds kx y1 y2 y3 [.box (.p .nil), .box (.i 0), .box (.i 0)]⟩
def kS92 : St := ⟨kTS d [(25, .p (.is d)), (26, .p (.is d)), (27, .ptr 0 1 0 0), (14, .ptr 7 1 0 0), (15, .ptr 8 1 0 0), (16, .ptr 9 1 0 0)], kBS n eds kx y1 y2 y3 [.box (.p .nil), .box (.i 0), .box (.i 0)]⟩
def kS93 : St := ⟨kTS d [(25, .p (.is d)), (26, .p (.is d)), (13, .ptr 7 1 0 0), (14, .ptr 8 1 0 0), (15, .ptr 9 1 0 0), (16, .ptr 10 1 0 0)], kBS n eds kx y1 y2 y3 [.box (.p .nil), .box (.p .nil), .box (.i 0), .box (.i 0)]⟩
def kS94 : St := ⟨kTS d [(25, .p (.is d)), (27, .ptr 0 1 0 0), (28, .i n), (29, .os 9 0 n), (13, .ptr 7 1 0 0), (14, .ptr 8 1 0 0)], kBS n eds kx y1 y2 y3 [.box (.p .nil), .box (.p .nil), (kRW n)]⟩
def kS95 : St := ⟨kTS d [(25, .p (.is d)), (27, .ptr 0 1 0 0), (28, .i n), (29, .os 9 0 n), (13, .ptr 7 1 0 0), (15, .ptr 8 1 0 0)], kBS n eds kx y1 y2 y3 [.box (.p .nil), .box (.i 0), (kRW n)]⟩
def kS96 : St := ⟨kTS d [(25, .p (.is d)), (27, .ptr 0 1 0 0), (28, .i n), (29, .os 9 0 n), (13, .ptr 7 1 0 0), (16, .ptr 8 1 0 0)], kBS n eds kx y1 y2 y3 [.box (.p .nil), .box (.i 0), (kRW n)]⟩
def kS97 : St := ⟨kTS d [(25, .p (.is d)), (27, .ptr 0 1 0 0), (28, .i n), (29, .os 9 0 n), (14, .ptr 7 1 0 0), (15, .ptr 8 1 0 0)], kBS n eds kx y1 y2 y3 [.box (.p .nil), .box (.i 0), (kRW n)]⟩
def kS98 : St := ⟨kTS d [(25, .p (.is d)), (27, .ptr 0 1 0 0), (28, .i n), (29, .os 9 0 n), (14, .ptr 7 1 0 0), (16, .ptr 8 1 0 0)], kBS n eds kx y1 y2 y3 [.box (.p .nil), .box (.i 0), (kRW n)]⟩
def kS99 : St := ⟨kTS d [(25, .p (.is d)), (27, .ptr 0 1 0 0), (28, .i n), (29, .os 9 0 n), (15, .ptr 7 1 0 0), (16, .ptr 8 1 0 0)], kBS n eds kx y1 y2 y3 [.box (.i 0), .box (.i 0), (kRW n)]⟩
def kS100 : St := ⟨kTS d [(25, .p (.is d)), (27, .ptr 0 1 0 0), (28, .i n), (13, .ptr 7 1 0 0), (14, .ptr 8 1 0 0), (15, .ptr 9 1 0 0)], kBS n eds kx y1 y2 y3 [.box (.p .nil), .box (.p .nil), .box (.i 0)]⟩
def kS101 : St := ⟨kTS d [(25, .p (.is d)), (27, .ptr 0 1 0 0), (28, .i n), (13, .ptr 7 1 0 0), (14, .ptr 8 1 0 0), (16, .ptr 9 1 0 0)], kBS n eds kx y1 y2 y3 [.box (.p .nil), .box (.p .nil), .box (.i 0)]⟩
def kS102 : St := ⟨kTS d [(25, .p (.is d)), (27, .ptr 0 1 0 0), (28, .i n), (13, .ptr 7 1 0 0), (15, .ptr 8 1 0 0), (16, .ptr 9 1 0 0)], kBS n eds kx y1 y2 y3 [.box (.p .nil), .box (.i 0), .box (.i 0)]⟩
def kS103 : St := ⟨kTS d [(25, .p (.is d)), (27, .ptr 0 1 0 0), (28, .i n), (14, .ptr 7 1 0 0), (15, .ptr 8 1 0 0), (16, .ptr 9 1 0 0)], kBS n eds kx y1 y2 y3 [.box (.p .nil), .box (.i 0), .box (.i 0)]⟩
def kS104 : St := ⟨kTS d [(25, .p (.is d)), (27, .ptr 0 1 0 0), (13, .ptr 7 1 0 0), (14, .ptr 8 1 0 0), (15, .ptr 9 1 0 0), (16, .ptr 10 1 0 0)], kBS n eds kx y1 y2 y3 [.box (.p .nil), .box (.p .nil), .box (.i 0), .box (.i 0)]⟩
def kS105 : St := ⟨kTS d [(25, .p (.is d)), (26, .p (.is d)), (27, .ptr 0 1 0 0), (28, .i n), (29, .os 9 0 n), (13, .ptr 7 1 0 0), (14, .ptr 8 1 0 0)], kBS n eds kx y1 y2 y3 [.box (.p .nil), .box (.p .nil), (kRW n)]⟩
def kS106 : St := ⟨kTS d [(25, .p (.is d)), (26, .p (.is d)), (27, .ptr 0 1 0 0), (28, .i n), (29, .os 9 0 n), (13, .ptr 7 1 0 0), (15, .ptr 8 1 0 0)], kBS n eds kx y1 y2 y3 [.box (.p .nil), .box (.i 0), (kRW n)]⟩
def kS107 : St := ⟨kTS d [(25, .p (.is d)), (26, .p (.is d)), (27, .ptr 0 1 0 0), (28, .i n), (29, .os 9 0 n), (13, .ptr 7 1 0 0), (16, .ptr 8 1 0 0)], kBS n eds kx y1 y2 y3 [.box (.p .nil), .box (.i 0), (kRW n)]⟩
def kS108 : St := ⟨kTS d [(25, .p (.is d)), (26, .p (.is d)), (27, .ptr 0 1 0 0), (28, .i n), (29, .os 9 0 n), (14, .ptr 7 1 0 0), (15, .ptr 8 1 0 0)], kBS n eds kx y1 y2 y3 [.box (.p .nil), .box (.i 0), (kRW n)]⟩
def kS109 : St := ⟨kTS d [(25, .p (.is d)), (26, .p (.is d)), (27, .ptr 0 1 0 0), (28, .i n), (29, .os 9 0 n), (14, .ptr 7 1 0 0), (16, .ptr 8 1 0 0)], kBS n eds kx y1 y2 y3 [.box (.p .nil), .box (.i 0), (kRW n)]⟩
def kS110 : St := ⟨kTS d [(25, .p (.is d)), (26, .p (.is d)), (27, .ptr 0 1 0 0), (28, .i n), (29, .os 9 0 n), (15, .ptr 7 1 0 0), (16, .ptr 8 1 0 0)], kBS n eds kx y1 y2 y3 [.box (.i 0), .box (.i 0), (kRW n)]⟩
def kS111 : St := ⟨kTS d [(25, .p (.is d)), (26, .p (.is d)), (27, .ptr 0 1 0 0), (28, .i n), (13, .ptr 7 1 0 0), (14, .ptr 8 1 0 0), (15, .ptr 9 1 0 0)], kBS n eds kx y1 y2 y3 [.box (.p .nil), .box (.p .nil), .box (.i 0)]⟩
def kS112 : St := ⟨kTS d [(25, .p (.is d)), (26, .p (.is d)), (27, .ptr 0 1 0 0), (28, .i n), (13, .ptr 7 1 0 0), (14, .ptr 8 1 0 0), (16, .ptr 9 1 0 0)], kBS n eds kx y1 y2 y3 [.box (.p .nil), .box (.p .nil), .box (.i 0)]⟩
def kS113 : St := ⟨kTS d [(25, .p (.is d)), (26, .p (.is d)), (27, .ptr 0 1 0 0), (28, .i n), (13, .ptr 7 1 0 0), (15, .ptr 8 1 0 0), (16, .ptr 9 1 0 0)], kBS n eds kx y1 y2 y3 [.box (.p .nil), .box (.i 0), .box (.i 0)]⟩
def kS114 : St := ⟨kTS d [(25, .p (.is d)), (26, .p (.is d)), (27, .ptr 0 1 0 0), (28, .i n), (14, .ptr 7 1 0 0), (15, .ptr 8 1 0 0), (16, .ptr 9 1 0 0)], kBS n eds kx y1 y2 y3 [.box (.p .nil), .box (.i 0), .box (.i 0)]⟩
def kS115 : St := ⟨kTS d [(25, .p (.is d)), (26, .p (.is d)), (27, .ptr 0 1 0 0), (13, .ptr 7 1 0 0), (14, .ptr 8 1 0 0), (15, .ptr 9 1 0 0), (16, .ptr 10 1 0 0)], kBS n eds kx y1 y2 y3 [.box (.p .nil), .box (.p .nil), .box (.i 0), .box (.i 0)]⟩
def kS116 : St := ⟨kTS d [(25, .p (.is d)), (26, .p (.is d)), (13, .ptr 7 1 0 0), (14, .ptr 8 1 0 0), (15, .ptr 9 1 0 0), (16, .ptr 10 1 0 0)], kBS n eds kx y1 y2 y3 [.box (.p (.is d)), .box (.p .nil), .box (.i 0), .box (.i 0)]⟩
def kS117 : St := ⟨kTS d [(25, .p (.is d)), (27, .ptr 0 1 0 0), (28, .i n), (29, .os 10 0 n), (13, .ptr 7 1 0 0), (14, .ptr 8 1 0 0), (15, .ptr 9 1 0 0)], kBS n eds kx y1 y2 y3 [.box (.p .nil), .box (.p .nil), .box (.i 0), (kRW n)]⟩
def kS118 : St := ⟨kTS d [(25, .p (.is d)), (27, .ptr 0 1 0 0), (28, .i n), (29, .os 10 0 n), (13, .ptr 7 1 0 0), (14, .ptr 8 1 0 0), (16, .ptr 9 1 0 0)], kBS n eds kx y1 y2 y3 [.box (.p .nil), .box (.p .nil), .box (.i 0), (kRW n)]⟩
def kS119 : St := ⟨kTS d [(25, .p (.is d)), (27, .ptr 0 1 0 0), (28, .i n), (29, .os 10 0 n), (13, .ptr 7 1 0 0), (15, .ptr 8 1 0 0), (16, .ptr 9 1 0 0)], kBS n eds kx y1 y2 y3 [.box (.p .nil), .box (.i 0), .box (.i 0), (kRW n)]⟩
def kS120 : St := ⟨kTS d [(25, .p (.is d)), (27, .ptr 0 1 0 0), (28, .i n), (29, .os 10 0 n), (14, .ptr 7 1 0 0), (15, .ptr 8 1 0 0), (16, .ptr 9 1 0 0)], kBS n eds kx y1 y2 y3 [.box (.p .nil), .box (.i 0), .box (.i 0), (kRW n)]⟩
def kS121 : St := ⟨kTS d [(25, .p (.is d)), (27, .ptr 0 1 0 0), (28, .i n), (13, .ptr 7 1 0 0), (14, .ptr 8 1 0 0), (15, .ptr 9 1 0 0), (16, .ptr 10 1 0 0)], kBS n eds kx y1 y2 y3 [.box (.p .nil), .box (.p .nil), .box (.i 0), .box (.i 0)]⟩
def kS122 : St := ⟨kTS d [(25, .p (.is d)), (26, .p (.is d)), (27, .ptr 0 1 0 0), (28, .i n), (29, .os 10 0 n), (13, .ptr 7 1 0 0), (14, .ptr 8 1 0 0), (15, .ptr 9 1 0 0)], kBS n eds kx y1 y2 y3 [.box (.p .nil), .box (.p .nil), .box (.i 0), (kRW n)]⟩
def kS123 : St := ⟨kTS d [(25, .p (.is d)), (26, .p (.is d)), (27, .ptr 0 1 0 0), (28, .i n), (29, .os 10 0 n), (13, .ptr 7 1 0 0), (14, .ptr 8 1 0 0), (16, .ptr 9 1 0 0)], kBS n eds kx y1 y2 y3 [.box (.p .nil), .box (.p .nil), .box (.i 0), (kRW n)]⟩
def kS124 : St := ⟨kTS d [(25, .p (.is d)), (26, .p (.is d)), (27, .ptr 0 1 0 0), (28, .i n), (29, .os 10 0 n), (13, .ptr 7 1 0 0), (15, .ptr 8 1 0 0), (16, .ptr 9 1 0 0)], kBS n eds kx y1 y2 y3 [.box (.p .nil), .box (.i 0), .box (.i 0), (kRW n)]⟩
def kS125 : St := ⟨kTS d [(25, .p (.is d)), (26, .p (.is d)), (27, .ptr 0 1 0 0), (28, .i n), (29, .os 10 0 n), (14, .ptr 7 1 0 0), (15, .ptr 8 1 0 0), (16, .ptr 9 1 0 0)], kBS n eds kx y1 y2 y3 [.box (.p .nil), .box (.i 0), .box (.i 0), (kRW n)]⟩
def kS126 : St := ⟨kTS d [(25, .p (.is d)), (26, .p (.is d)), (27, .ptr 0 1 0 0), (28, .i n), (13, .ptr 7 1 0 0), (14, .ptr 8 1 0 0), (15, .ptr 9 1 0 0), (16, .ptr 10 1 0 0)], kBS n eds kx y1 y2 y3 [.box (.p .nil), .box (.p .nil), .box (.i 0), .box (.i 0)]⟩
def kS127 : St := ⟨kTS d [(25, .p (.is d)), (26, .p (.is d)), (27, .ptr 0 1 0 0), (13, .ptr 7 1 0 0), (14, .ptr 8 1 0 0), (15, .ptr 9 1 0 0), (16, .ptr 10 1 0 0)], kBS n eds kx y1 y2 y3 [.box (.p (.is d)), .box (.p .nil), .box (.i 0), .box (.i 0)]⟩
def kS128 : St := ⟨kTS d [(25, .p (.is d)), (26, .p (.is d)), (27, .ptr 0 1 0 0), (28, .i n), (29, .os 11 0 n), (13, .ptr 7 1 0 0), (14, .ptr 8 1 0 0), (15, .ptr 9 1 0 0), (16, .ptr 10 1 0 0)], kBS n eds kx y1 y2 y3 [.box (.p (.is d)), .box (.p .nil), .box (.i 0), .box (.i 0), (kRW n)]⟩
def kS129 : St := ⟨kTS d [(25, .p (.is d)), (27, .ptr 0 1 0 0), (28, .i n), (29, .os 11 0 n), (13, .ptr 7 1 0 0), (14, .ptr 8 1 0 0), (15, .ptr 9 1 0 0), (16, .ptr 10 1 0 0)], kBS n eds kx y1 y2 y3 [.box (.p .nil), .box (.p .nil), .box (.i 0), .box (.i 0), (kRW n)]⟩
def kS130 : St := ⟨kTS d [(25, .p (.is d)), (26, .p (.is d)), (27, .ptr 0 1 0 0), (28, .i n), (29, .os 11 0 n), (13, .ptr 7 1 0 0), (14, .ptr 8 1 0 0), (15, .ptr 9 1 0 0), (16, .ptr 10 1 0 0)], kBS n eds kx y1 y2 y3 [.box (.p .nil), .box (.p .nil), .box (.i 0), .box (.i 0), (kRW n)]⟩
def kS131 : St := ⟨kTS d [(25, .p (.is d)), (26, .p (.is d)), (27, .ptr 0 1 0 0), (28, .i n), (13, .ptr 7 1 0 0), (14, .ptr 8 1 0 0), (15, .ptr 9 1 0 0), (16, .ptr 10 1 0 0)], kBS n eds kx y1 y2 y3 [.box (.p (.is d)), .box (.p .nil), .box (.i 0), .box (.i 0)]⟩
def kS132 : St := ⟨kTS d [(25, .p (.is d)), (26, .p (.is d)), (27, .ptr 0 1 0 0), (28, .i n), (29, .os 11 0 n), (13, .ptr 7 1 0 0), (14, .ptr 8 1 0 0), (15, .ptr 9 1 0 0), (16, .ptr 10 1 0 0)], kBS n eds kx y1 y2 y3 [.box (.p (.is d)), .box (.os 11 0 n), .box (.i 0), .box (.i 0), (kRW n)]⟩
def kS133 : St := ⟨kTS d [(25, .p (.is d)), (26, .p (.is d)), (27, .ptr 0 1 0 0), (28, .i n), (29, .os 11 0 n), (13, .ptr 7 1 0 0), (14, .ptr 8 1 0 0), (15, .ptr 9 1 0 0), (16, .ptr 10 1 0 0)], kBS n eds kx y1 y2 y3 [.box (.p (.is d)), .box (.os 11 0 n), .box (.i 0), .box (.i 0), (kRW n)]⟩
def kS134 : St := ⟨kTS d [(25, .p (.is d)), (26, .p (.is d)), (27, .ptr 0 1 0 0), (28, .i n), (29, .os 11 0 n), (13, .ptr 7 1 0 0), (14, .ptr 8 1 0 0), (15, .ptr 9 1 0 0), (16, .ptr 10 1 0 0)], kBS n eds kx y1 y2 y3 [.box (.p (.is d)), .box (.os 11 0 n), .box (.i 0), .box (.i 0), (kRW n)]⟩
def knL : List St := [kS0 n eds d kx y1 y2 y3, kS1 n eds d kx y1 y2 y3, kS2 n eds d kx y1 y2 y3, kS3 n eds d kx y1 y2 y3, kS4 n eds d kx y1 y2 y3, kS5 n eds d kx y1 y2 y3, kS6 n eds d kx y1 y2 y3, kS7 n eds d kx y1 y2 y3, kS8 n eds d kx y1 y2 y3, kS9 n eds d kx y1 y2 y3, kS10 n eds d kx y1 y2 y3, kS11 n eds d kx y1 y2 y3, kS12 n eds d kx y1 y2 y3, kS13 n eds d kx y1 y2 y3, kS14 n eds d kx y1 y2 y3, kS15 n eds d kx y1 y2 y3, kS16 n eds d kx y1 y2 y3, kS17 n eds d kx y1 y2 y3, kS18 n eds d kx y1 y2 y3, kS19 n eds d kx y1 y2 y3, kS20 n eds d kx y1 y2 y3, kS21 n eds d kx y1 y2 y3, kS22 n eds d kx y1 y2 y3, kS23 n eds d kx y1 y2 y3, kS24 n eds d kx y1 y2 y3, kS25 n eds d kx y1 y2 y3, kS26 n eds d kx y1 y2 y3, kS27 n eds d kx y1 y2 y3, kS28 n eds d kx y1 y2 y3, kS29 n eds d kx y1 y2 y3, kS30 n eds d kx y1 y2 y3, kS31 n eds d kx y1 y2 y3, kS32 n eds d kx y1 y2 y3, kS33 n eds d kx y1 y2 y3, kS34 n eds d kx y1 y2 y3, kS35 n eds d kx y1 y2 y3, kS36 n eds d kx y1 y2 y3, kS37 n eds d kx y1 y2 y3, kS38 n eds d kx y1 y2 y3, kS39 n eds d kx y1 y2 y3, kS40 n eds d kx y1 y2 y3, kS41 n eds d kx y1 y2 y3, kS42 n eds d kx y1 y2 y3, kS43 n eds d kx y1 y2 y3, kS44 n eds d kx y1 y2 y3, kS45 n eds d kx y1 y2 y3, kS46 n eds d kx y1 y2 y3, kS47 n eds d kx y1 y2 y3, kS48 n eds d kx y1 y2 y3, kS49 n eds d kx y1 y2 y3, kS50 n eds d kx y1 y2 y3, kS51 n eds d kx y1 y2 y3, kS52 n eds d kx y1 y2 y3, kS53 n eds d kx y1 y2 y3, kS54 n eds d kx y1 y2 y3, kS55 n eds d kx y1 y2 y3, kS56 n eds d kx y1 y2 y3, kS57 n eds d kx y1 y2 y3, kS58 n eds d kx y1 y2 y3, kS59 n eds d kx y1 y2 y3, kS60 n eds d kx y1 y2 y3, kS61 n eds d kx y1 y2 y3, kS62 n eds d kx y1 y2 y3, kS63 n eds d kx y1 y2 y3, kS64 n eds d kx y1 y2 y3, kS65 n eds d kx y1 y2 y3, kS66 n eds d kx y1 y2 y3, kS67 n eds d kx y1 y2 y3, kS68 n eds d kx y1 y2 y3, kS69 n eds d kx y1 y2 y3, kS70 n eds d kx y1 y2 y3, kS71 n eds d kx y1 y2 y3, kS72 n eds d kx y1 y2 y3, kS73 n eds d kx y1 y2 y3, kS74 n eds d kx y1 y2 y3, kS75 n eds d kx y1 y2 y3, kS76 n eds d kx y1 y2 y3, kS77 n eds d kx y1 y2 y3, kS78 n eds d kx y1 y2 y3, kS79 n eds d kx y1 y2 y3, kS80 n eds d kx y1 y2 y3, kS81 n eds d kx y1 y2 y3, kS82 n eds d kx y1 y2 y3, kS83 n eds d kx y1 y2 y3, kS84 n eds d kx y1 y2 y3, kS85 n eds d kx y1 y2 y3, kS86 n eds d kx y1 y2 y3, kS87 n eds d kx y1 y2 y3, kS88 n eds d kx y1 y2 y3, kS89 n eds d kx y1 y2 y3, kS90 n eds d kx y1 y2 y3, kS91 n eds d kx y1 y2 y3, kS92 n eds d kx y1 y2 y3, kS93 n eds d kx y1 y2 y3, kS94 n eds d kx y1 y2 y3, kS95 n eds d kx y1 y2 y3, kS96 n eds d kx y1 y2 y3, kS97 n eds d kx y1 y2 y3, kS98 n eds d kx y1 y2 y3, kS99 n eds d kx y1 y2 y3, kS100 n eds d kx y1 y2 y3, kS101 n eds d kx y1 y2 y3, kS102 n eds d kx y1 y2 y3, kS103 n eds d kx y1 y2 y3, kS104 n eds d kx y1 y2 y3, kS105 n eds d kx y1 y2 y3, kS106 n eds d kx y1 y2 y3, kS107 n eds d kx y1 y2 y3, kS108 n eds d kx y1 y2 y3, kS109 n eds d kx y1 y2 y3, kS110 n eds d kx y1 y2 y3, kS111 n eds d kx y1 y2 y3, kS112 n eds d kx y1 y2 y3, kS113 n eds d kx y1 y2 y3, kS114 n eds d kx y1 y2 y3, kS115 n eds d kx y1 y2 y3, kS116 n eds d kx y1 y2 y3, kS117 n eds d kx y1 y2 y3, kS118 n eds d kx y1 y2 y3, kS119 n eds d kx y1 y2 y3, kS120 n eds d kx y1 y2 y3, kS121 n eds d kx y1 y2 y3, kS122 n eds d kx y1 y2 y3, kS123 n eds d kx y1 y2 y3, kS124 n eds d kx y1 y2 y3, kS125 n eds d kx y1 y2 y3, kS126 n eds d kx y1 y2 y3, kS127 n eds d kx y1 y2 y3, kS128 n eds d kx y1 y2 y3, kS129 n eds d kx y1 y2 y3, kS130 n eds d kx y1 y2 y3, kS131 n eds d kx y1 y2 y3, kS132 n eds d kx y1 y2 y3, kS133 n eds d kx y1 y2 y3, kS134 n eds d kx y1 y2 y3]
def GoodC (K : St → Prop) (c : ADN) (s : St) : Prop := Wops Try.prog c.look (fun s1 => (c.acts = [] → K s1) ∧ ∀ x ∈ c.acts, Wop Try.prog x.1 x.2.1 (fun s2 => ∃ s3, Wk 0 s2 s3 ∧ (knL n eds d kx y1 y2 y3)[x.2.2]? = some s3) s1) s
theorem kNx {n : Nat} {eds : List PV} {d : List Int} {kx y1 y2 y3 : PV} {s s' : St} {k : Nat} (σ keep : List Nat) (h : okσ ([0, 1, 2, 3, 4, 5, 6] ++ σ) 0 s.H = true) (e : Abs.norm ([0, 1, 2, 3, 4, 5, 6] ++ σ) ([12, 11, 10, 9, 8, 7, 4, 2, 25] ++ keep) s = s') (e2 : (knL n eds d kx y1 y2 y3)[k]? = some s') : ∃ s3, Wk 0 s s3 ∧ (knL n eds d kx y1 y2 y3)[k]? = some s3 := ⟨s', wk_norm _ _ h e, e2⟩
def dC0 : ADN := .mk [ko25] [(true, ko26, 1), (true, ko27, 2), (true, ko13, 3), (true, ko14, 4), (true, ko15, 5), (true, ko16, 6)]
def dC1 : ADN := .mk [] [(true, ko27, 7), (true, ko13, 8), (true, ko14, 9), (true, ko15, 10), (true, ko16, 11)]
def dC2 : ADN := .mk [] [(true, ko26, 7), (true, ko28, 12), (true, ko13, 13), (true, ko14, 14), (true, ko15, 15), (true, ko16, 16)]
def dC3 : ADN := .mk [] [(true, ko26, 8), (true, ko27, 13), (true, ko14, 17), (true, ko15, 18), (true, ko16, 19)]
def dC4 : ADN := .mk [] [(true, ko26, 9), (true, ko27, 14), (true, ko13, 17), (true, ko15, 20), (true, ko16, 21)]
def dC5 : ADN := .mk [] [(true, ko26, 10), (true, ko27, 15), (true, ko13, 18), (true, ko14, 20), (true, ko16, 22)]
def dC6 : ADN := .mk [] [(true, ko26, 11), (true, ko27, 16), (true, ko13, 19), (true, ko14, 21), (true, ko15, 22)]
def dC7 : ADN := .mk [] [(true, ko28, 23), (true, ko13, 24), (true, ko14, 25), (true, ko15, 26), (true, ko16, 27)]
def dC8 : ADN := .mk [] [(true, ko27, 24), (true, ko14, 28), (true, ko15, 29), (true, ko16, 30)]
def dC9 : ADN := .mk [] [(true, ko27, 25), (true, ko13, 28), (true, ko15, 31), (true, ko16, 32)]
def dC10 : ADN := .mk [] [(true, ko27, 26), (true, ko13, 29), (true, ko14, 31), (true, ko16, 33)]
def dC11 : ADN := .mk [] [(true, ko27, 27), (true, ko13, 30), (true, ko14, 32), (true, ko15, 33)]
def dC12 : ADN := .mk [] [(true, ko26, 23), (true, ko29, 34), (true, ko13, 35), (true, ko14, 36), (true, ko15, 37), (true, ko16, 38)]
def dC13 : ADN := .mk [] [(true, ko26, 24), (true, ko28, 35), (true, ko14, 39), (true, ko15, 40), (true, ko16, 41)]
def dC14 : ADN := .mk [] [(true, ko26, 25), (true, ko28, 36), (true, ko13, 39), (true, ko15, 42), (true, ko16, 43)]
def dC15 : ADN := .mk [] [(true, ko26, 26), (true, ko28, 37), (true, ko13, 40), (true, ko14, 42), (true, ko16, 44)]
def dC16 : ADN := .mk [] [(true, ko26, 27), (true, ko28, 38), (true, ko13, 41), (true, ko14, 43), (true, ko15, 44)]
def dC17 : ADN := .mk [] [(true, ko26, 28), (true, ko27, 39), (true, ko15, 45), (true, ko16, 46)]
def dC18 : ADN := .mk [] [(true, ko26, 29), (true, ko27, 40), (true, ko14, 45), (true, ko16, 47)]
def dC19 : ADN := .mk [] [(true, ko26, 30), (true, ko27, 41), (true, ko14, 46), (true, ko15, 47)]
def dC20 : ADN := .mk [] [(true, ko26, 31), (true, ko27, 42), (true, ko13, 45), (true, ko16, 48)]
def dC21 : ADN := .mk [] [(true, ko26, 32), (true, ko27, 43), (true, ko13, 46), (true, ko15, 48)]
def dC22 : ADN := .mk [] [(true, ko26, 33), (true, ko27, 44), (true, ko13, 47), (true, ko14, 48)]
def dC23 : ADN := .mk [] [(true, ko29, 49), (true, ko13, 50), (true, ko14, 51), (true, ko15, 52), (true, ko16, 53)]
def dC24 : ADN := .mk [] [(true, ko28, 50), (true, ko14, 54), (true, ko15, 55), (true, ko16, 56)]
def dC25 : ADN := .mk [] [(true, ko28, 51), (true, ko13, 54), (true, ko15, 57), (true, ko16, 58)]
def dC26 : ADN := .mk [] [(true, ko28, 52), (true, ko13, 55), (true, ko14, 57), (true, ko16, 59)]
def dC27 : ADN := .mk [] [(true, ko28, 53), (true, ko13, 56), (true, ko14, 58), (true, ko15, 59)]
def dC28 : ADN := .mk [] [(true, ko27, 54), (true, ko15, 60), (true, ko16, 61)]
def dC29 : ADN := .mk [] [(true, ko27, 55), (true, ko14, 60), (true, ko16, 62)]
def dC30 : ADN := .mk [] [(true, ko27, 56), (true, ko14, 61), (true, ko15, 62)]
def dC31 : ADN := .mk [] [(true, ko27, 57), (true, ko13, 60), (true, ko16, 63)]
def dC32 : ADN := .mk [] [(true, ko27, 58), (true, ko13, 61), (true, ko15, 63)]
def dC33 : ADN := .mk [] [(true, ko27, 59), (true, ko13, 62), (true, ko14, 63)]
def dC34 : ADN := .mk [] [(true, ko26, 49), (true, ko13, 64), (true, ko14, 65), (true, ko15, 66), (true, ko16, 67)]
def dC35 : ADN := .mk [] [(true, ko26, 50), (true, ko29, 64), (true, ko14, 68), (true, ko15, 69), (true, ko16, 70)]
def dC36 : ADN := .mk [] [(true, ko26, 51), (true, ko29, 65), (true, ko13, 68), (true, ko15, 71), (true, ko16, 72)]
def dC37 : ADN := .mk [] [(true, ko26, 52), (true, ko29, 66), (true, ko13, 69), (true, ko14, 71), (true, ko16, 73)]
def dC38 : ADN := .mk [] [(true, ko26, 53), (true, ko29, 67), (true, ko13, 70), (true, ko14, 72), (true, ko15, 73)]
def dC39 : ADN := .mk [] [(true, ko26, 54), (true, ko28, 68), (true, ko15, 74), (true, ko16, 75)]
def dC40 : ADN := .mk [] [(true, ko26, 55), (true, ko28, 69), (true, ko14, 74), (true, ko16, 76)]
def dC41 : ADN := .mk [] [(true, ko26, 56), (true, ko28, 70), (true, ko14, 75), (true, ko15, 76)]
def dC42 : ADN := .mk [] [(true, ko26, 57), (true, ko28, 71), (true, ko13, 74), (true, ko16, 77)]
def dC43 : ADN := .mk [] [(true, ko26, 58), (true, ko28, 72), (true, ko13, 75), (true, ko15, 77)]
def dC44 : ADN := .mk [] [(true, ko26, 59), (true, ko28, 73), (true, ko13, 76), (true, ko14, 77)]
def dC45 : ADN := .mk [] [(true, ko26, 60), (true, ko27, 74), (true, ko16, 78)]
def dC46 : ADN := .mk [] [(true, ko26, 61), (true, ko27, 75), (true, ko15, 78)]
def dC47 : ADN := .mk [] [(true, ko26, 62), (true, ko27, 76), (true, ko14, 78)]
def dC48 : ADN := .mk [] [(true, ko26, 63), (true, ko27, 77), (true, ko13, 78)]
def dC49 : ADN := .mk [] [(true, ko13, 79), (true, ko14, 80), (true, ko15, 81), (true, ko16, 82)]
def dC50 : ADN := .mk [] [(true, ko29, 79), (true, ko14, 83), (true, ko15, 84), (true, ko16, 85)]
def dC51 : ADN := .mk [] [(true, ko29, 80), (true, ko13, 83), (true, ko15, 86), (true, ko16, 87)]
def dC52 : ADN := .mk [] [(true, ko29, 81), (true, ko13, 84), (true, ko14, 86), (true, ko16, 88)]
def dC53 : ADN := .mk [] [(true, ko29, 82), (true, ko13, 85), (true, ko14, 87), (true, ko15, 88)]
def dC54 : ADN := .mk [] [(true, ko28, 83), (true, ko15, 89), (true, ko16, 90)]
def dC55 : ADN := .mk [] [(true, ko28, 84), (true, ko14, 89), (true, ko16, 91)]
def dC56 : ADN := .mk [] [(true, ko28, 85), (true, ko14, 90), (true, ko15, 91)]
def dC57 : ADN := .mk [] [(true, ko28, 86), (true, ko13, 89), (true, ko16, 92)]
def dC58 : ADN := .mk [] [(true, ko28, 87), (true, ko13, 90), (true, ko15, 92)]
def dC59 : ADN := .mk [] [(true, ko28, 88), (true, ko13, 91), (true, ko14, 92)]
def dC60 : ADN := .mk [] [(true, ko27, 89), (true, ko16, 93)]
def dC61 : ADN := .mk [] [(true, ko27, 90), (true, ko15, 93)]
def dC62 : ADN := .mk [] [(true, ko27, 91), (true, ko14, 93)]
def dC63 : ADN := .mk [] [(true, ko27, 92), (true, ko13, 93)]
def dC64 : ADN := .mk [] [(true, ko26, 79), (true, ko14, 94), (true, ko15, 95), (true, ko16, 96)]
def dC65 : ADN := .mk [] [(true, ko26, 80), (true, ko13, 94), (true, ko15, 97), (true, ko16, 98)]
def dC66 : ADN := .mk [] [(true, ko26, 81), (true, ko13, 95), (true, ko14, 97), (true, ko16, 99)]
def dC67 : ADN := .mk [] [(true, ko26, 82), (true, ko13, 96), (true, ko14, 98), (true, ko15, 99)]
def dC68 : ADN := .mk [] [(true, ko26, 83), (true, ko29, 94), (true, ko15, 100), (true, ko16, 101)]
def dC69 : ADN := .mk [] [(true, ko26, 84), (true, ko29, 95), (true, ko14, 100), (true, ko16, 102)]
def dC70 : ADN := .mk [] [(true, ko26, 85), (true, ko29, 96), (true, ko14, 101), (true, ko15, 102)]
def dC71 : ADN := .mk [] [(true, ko26, 86), (true, ko29, 97), (true, ko13, 100), (true, ko16, 103)]
def dC72 : ADN := .mk [] [(true, ko26, 87), (true, ko29, 98), (true, ko13, 101), (true, ko15, 103)]
def dC73 : ADN := .mk [] [(true, ko26, 88), (true, ko29, 99), (true, ko13, 102), (true, ko14, 103)]
def dC74 : ADN := .mk [] [(true, ko26, 89), (true, ko28, 100), (true, ko16, 104)]
def dC75 : ADN := .mk [] [(true, ko26, 90), (true, ko28, 101), (true, ko15, 104)]
def dC76 : ADN := .mk [] [(true, ko26, 91), (true, ko28, 102), (true, ko14, 104)]
def dC77 : ADN := .mk [] [(true, ko26, 92), (true, ko28, 103), (true, ko13, 104)]
def dC78 : ADN := .mk [] [(true, ko26, 93), (true, ko27, 104)]
def dC79 : ADN := .mk [] [(true, ko14, 105), (true, ko15, 106), (true, ko16, 107)]
def dC80 : ADN := .mk [] [(true, ko13, 105), (true, ko15, 108), (true, ko16, 109)]
def dC81 : ADN := .mk [] [(true, ko13, 106), (true, ko14, 108), (true, ko16, 110)]
def dC82 : ADN := .mk [] [(true, ko13, 107), (true, ko14, 109), (true, ko15, 110)]
def dC83 : ADN := .mk [] [(true, ko29, 105), (true, ko15, 111), (true, ko16, 112)]
def dC84 : ADN := .mk [] [(true, ko29, 106), (true, ko14, 111), (true, ko16, 113)]
def dC85 : ADN := .mk [] [(true, ko29, 107), (true, ko14, 112), (true, ko15, 113)]
def dC86 : ADN := .mk [] [(true, ko29, 108), (true, ko13, 111), (true, ko16, 114)]
def dC87 : ADN := .mk [] [(true, ko29, 109), (true, ko13, 112), (true, ko15, 114)]
def dC88 : ADN := .mk [] [(true, ko29, 110), (true, ko13, 113), (true, ko14, 114)]
def dC89 : ADN := .mk [] [(true, ko28, 111), (true, ko16, 115)]
def dC90 : ADN := .mk [] [(true, ko28, 112), (true, ko15, 115)]
def dC91 : ADN := .mk [] [(true, ko28, 113), (true, ko14, 115)]
def dC92 : ADN := .mk [] [(true, ko28, 114), (true, ko13, 115)]
def dC93 : ADN := .mk [] [(true, ko27, 115), (false, kos13, 116)]
def dC94 : ADN := .mk [] [(true, ko26, 105), (true, ko15, 117), (true, ko16, 118)]
def dC95 : ADN := .mk [] [(true, ko26, 106), (true, ko14, 117), (true, ko16, 119)]
def dC96 : ADN := .mk [] [(true, ko26, 107), (true, ko14, 118), (true, ko15, 119)]
def dC97 : ADN := .mk [] [(true, ko26, 108), (true, ko13, 117), (true, ko16, 120)]
def dC98 : ADN := .mk [] [(true, ko26, 109), (true, ko13, 118), (true, ko15, 120)]
def dC99 : ADN := .mk [] [(true, ko26, 110), (true, ko13, 119), (true, ko14, 120)]
def dC100 : ADN := .mk [] [(true, ko26, 111), (true, ko29, 117), (true, ko16, 121)]
def dC101 : ADN := .mk [] [(true, ko26, 112), (true, ko29, 118), (true, ko15, 121)]
def dC102 : ADN := .mk [] [(true, ko26, 113), (true, ko29, 119), (true, ko14, 121)]
def dC103 : ADN := .mk [] [(true, ko26, 114), (true, ko29, 120), (true, ko13, 121)]
def dC104 : ADN := .mk [] [(true, ko26, 115), (true, ko28, 121)]
def dC105 : ADN := .mk [] [(true, ko15, 122), (true, ko16, 123)]
def dC106 : ADN := .mk [] [(true, ko14, 122), (true, ko16, 124)]
def dC107 : ADN := .mk [] [(true, ko14, 123), (true, ko15, 124)]
def dC108 : ADN := .mk [] [(true, ko13, 122), (true, ko16, 125)]
def dC109 : ADN := .mk [] [(true, ko13, 123), (true, ko15, 125)]
def dC110 : ADN := .mk [] [(true, ko13, 124), (true, ko14, 125)]
def dC111 : ADN := .mk [] [(true, ko29, 122), (true, ko16, 126)]
def dC112 : ADN := .mk [] [(true, ko29, 123), (true, ko15, 126)]
def dC113 : ADN := .mk [] [(true, ko29, 124), (true, ko14, 126)]
def dC114 : ADN := .mk [] [(true, ko29, 125), (true, ko13, 126)]
def dC115 : ADN := .mk [] [(true, ko28, 126), (false, kos13, 127)]
def dC116 : ADN := .mk [ko27, ko28] [(true, ko29, 128)]
def dC117 : ADN := .mk [] [(true, ko26, 122), (true, ko16, 129)]
def dC118 : ADN := .mk [] [(true, ko26, 123), (true, ko15, 129)]
def dC119 : ADN := .mk [] [(true, ko26, 124), (true, ko14, 129)]
def dC120 : ADN := .mk [] [(true, ko26, 125), (true, ko13, 129)]
def dC121 : ADN := .mk [] [(true, ko26, 126), (true, ko29, 129)]
def dC122 : ADN := .mk [] [(true, ko16, 130)]
def dC123 : ADN := .mk [] [(true, ko15, 130)]
def dC124 : ADN := .mk [] [(true, ko14, 130)]
def dC125 : ADN := .mk [] [(true, ko13, 130)]
def dC126 : ADN := .mk [] [(true, ko29, 130), (false, kos13, 131)]
def dC127 : ADN := .mk [ko28] [(true, ko29, 128)]
def dC128 : ADN := .mk [] [(false, kos14, 132)]
def dC129 : ADN := .mk [] [(true, ko26, 130)]
def dC130 : ADN := .mk [] [(false, kos13, 128)]
def dC131 : ADN := .mk [] [(true, ko29, 128)]
def dC132 : ADN := .mk [] [(false, kos15, 133)]
def dC133 : ADN := .mk [] [(false, kos16, 134)]
def dC134 : ADN := .mk [] []
theorem g0 {K : St → Prop} (hn : n ≤ 1048576) (hd : d.length ≤ 1000000) : GoodC n eds d kx y1 y2 y3 K dC0 (kS0 n eds d kx y1 y2 y3) := by
  unfold GoodC dC0 kS0
  simp -implicitDefEqProofs (disch := omega) [List.getElem?_cons_zero, List.getElem?_cons_succ, wrap_id, hn, List.forall_mem_cons]
  refine ⟨?_, ?_, ?_, ?_, ?_, ?_⟩
  · refine HC_of_PC rfl (cloneP_ok d hd) ?_
    simp -implicitDefEqProofs (disch := omega) [List.getElem?_cons_zero, List.getElem?_cons_succ, wrap_id]
    exact kNx [] [26] rfl rfl rfl
  · exact kNx [] [27] rfl rfl rfl
  · exact kNx [7] [13] rfl rfl rfl
  · exact kNx [7] [14] rfl rfl rfl
  · exact kNx [7] [15] rfl rfl rfl
  · exact kNx [7] [16] rfl rfl rfl
theorem g1 {K : St → Prop} (hn : n ≤ 1048576) (hd : d.length ≤ 1000000) : GoodC n eds d kx y1 y2 y3 K dC1 (kS1 n eds d kx y1 y2 y3) := by
  unfold GoodC dC1 kS1
  simp -implicitDefEqProofs (disch := omega) [List.getElem?_cons_zero, List.getElem?_cons_succ, wrap_id, hn, List.forall_mem_cons]
  refine ⟨?_, ?_, ?_, ?_, ?_⟩
  · exact kNx [] [26, 27] rfl rfl rfl
  · exact kNx [7] [26, 13] rfl rfl rfl
  · exact kNx [7] [26, 14] rfl rfl rfl
  · exact kNx [7] [26, 15] rfl rfl rfl
  · exact kNx [7] [26, 16] rfl rfl rfl
theorem g2 {K : St → Prop} (hn : n ≤ 1048576) (hd : d.length ≤ 1000000) : GoodC n eds d kx y1 y2 y3 K dC2 (kS2 n eds d kx y1 y2 y3) := by
  unfold GoodC dC2 kS2
  simp -implicitDefEqProofs (disch := omega) [List.getElem?_cons_zero, List.getElem?_cons_succ, wrap_id, hn, List.forall_mem_cons]
  refine ⟨?_, ?_, ?_, ?_, ?_, ?_⟩
  · refine HC_of_PC rfl (cloneP_ok d hd) ?_
    simp -implicitDefEqProofs (disch := omega) [List.getElem?_cons_zero, List.getElem?_cons_succ, wrap_id]
    exact kNx [] [26, 27] rfl rfl rfl
  · exact kNx [] [27, 28] rfl rfl rfl
  · exact kNx [7] [27, 13] rfl rfl rfl
  · exact kNx [7] [27, 14] rfl rfl rfl
  · exact kNx [7] [27, 15] rfl rfl rfl
  · exact kNx [7] [27, 16] rfl rfl rfl
theorem g3 {K : St → Prop} (hn : n ≤ 1048576) (hd : d.length ≤ 1000000) : GoodC n eds d kx y1 y2 y3 K dC3 (kS3 n eds d kx y1 y2 y3) := by
  unfold GoodC dC3 kS3
  simp -implicitDefEqProofs (disch := omega) [List.getElem?_cons_zero, List.getElem?_cons_succ, wrap_id, hn, List.forall_mem_cons]
  refine ⟨?_, ?_, ?_, ?_, ?_⟩
  · refine HC_of_PC rfl (cloneP_ok d hd) ?_
    simp -implicitDefEqProofs (disch := omega) [List.getElem?_cons_zero, List.getElem?_cons_succ, wrap_id]
    exact kNx [7] [26, 13] rfl rfl rfl
  · exact kNx [7] [27, 13] rfl rfl rfl
  · exact kNx [7, 8] [13, 14] rfl rfl rfl
  · exact kNx [7, 8] [13, 15] rfl rfl rfl
  · exact kNx [7, 8] [13, 16] rfl rfl rfl
theorem g4 {K : St → Prop} (hn : n ≤ 1048576) (hd : d.length ≤ 1000000) : GoodC n eds d kx y1 y2 y3 K dC4 (kS4 n eds d kx y1 y2 y3) := by
  unfold GoodC dC4 kS4
  simp -implicitDefEqProofs (disch := omega) [List.getElem?_cons_zero, List.getElem?_cons_succ, wrap_id, hn, List.forall_mem_cons]
  refine ⟨?_, ?_, ?_, ?_, ?_⟩
  · refine HC_of_PC rfl (cloneP_ok d hd) ?_
    simp -implicitDefEqProofs (disch := omega) [List.getElem?_cons_zero, List.getElem?_cons_succ, wrap_id]
    exact kNx [7] [26, 14] rfl rfl rfl
  · exact kNx [7] [27, 14] rfl rfl rfl
  · exact kNx [8, 7] [13, 14] rfl rfl rfl
  · exact kNx [7, 8] [14, 15] rfl rfl rfl
  · exact kNx [7, 8] [14, 16] rfl rfl rfl
theorem g5 {K : St → Prop} (hn : n ≤ 1048576) (hd : d.length ≤ 1000000) : GoodC n eds d kx y1 y2 y3 K dC5 (kS5 n eds d kx y1 y2 y3) := by
  unfold GoodC dC5 kS5
  simp -implicitDefEqProofs (disch := omega) [List.getElem?_cons_zero, List.getElem?_cons_succ, wrap_id, hn, List.forall_mem_cons]
  refine ⟨?_, ?_, ?_, ?_, ?_⟩
  · refine HC_of_PC rfl (cloneP_ok d hd) ?_
    simp -implicitDefEqProofs (disch := omega) [List.getElem?_cons_zero, List.getElem?_cons_succ, wrap_id]
    exact kNx [7] [26, 15] rfl rfl rfl
  · exact kNx [7] [27, 15] rfl rfl rfl
  · exact kNx [8, 7] [13, 15] rfl rfl rfl
  · exact kNx [8, 7] [14, 15] rfl rfl rfl
  · exact kNx [7, 8] [15, 16] rfl rfl rfl
theorem g6 {K : St → Prop} (hn : n ≤ 1048576) (hd : d.length ≤ 1000000) : GoodC n eds d kx y1 y2 y3 K dC6 (kS6 n eds d kx y1 y2 y3) := by
  unfold GoodC dC6 kS6
  simp -implicitDefEqProofs (disch := omega) [List.getElem?_cons_zero, List.getElem?_cons_succ, wrap_id, hn, List.forall_mem_cons]
  refine ⟨?_, ?_, ?_, ?_, ?_⟩
  · refine HC_of_PC rfl (cloneP_ok d hd) ?_
    simp -implicitDefEqProofs (disch := omega) [List.getElem?_cons_zero, List.getElem?_cons_succ, wrap_id]
    exact kNx [7] [26, 16] rfl rfl rfl
  · exact kNx [7] [27, 16] rfl rfl rfl
  · exact kNx [8, 7] [13, 16] rfl rfl rfl
  · exact kNx [8, 7] [14, 16] rfl rfl rfl
  · exact kNx [8, 7] [15, 16] rfl rfl rfl
theorem g7 {K : St → Prop} (hn : n ≤ 1048576) (hd : d.length ≤ 1000000) : GoodC n eds d kx y1 y2 y3 K dC7 (kS7 n eds d kx y1 y2 y3) := by
  unfold GoodC dC7 kS7
  simp -implicitDefEqProofs (disch := omega) [List.getElem?_cons_zero, List.getElem?_cons_succ, wrap_id, hn, List.forall_mem_cons]
  refine ⟨?_, ?_, ?_, ?_, ?_⟩
  · exact kNx [] [26, 27, 28] rfl rfl rfl
  · exact kNx [7] [26, 27, 13] rfl rfl rfl
  · exact kNx [7] [26, 27, 14] rfl rfl rfl
  · exact kNx [7] [26, 27, 15] rfl rfl rfl
  · exact kNx [7] [26, 27, 16] rfl rfl rfl
theorem g8 {K : St → Prop} (hn : n ≤ 1048576) (hd : d.length ≤ 1000000) : GoodC n eds d kx y1 y2 y3 K dC8 (kS8 n eds d kx y1 y2 y3) := by
  unfold GoodC dC8 kS8
  simp -implicitDefEqProofs (disch := omega) [List.getElem?_cons_zero, List.getElem?_cons_succ, wrap_id, hn, List.forall_mem_cons]
  refine ⟨?_, ?_, ?_, ?_⟩
  · exact kNx [7] [26, 27, 13] rfl rfl rfl
  · exact kNx [7, 8] [26, 13, 14] rfl rfl rfl
  · exact kNx [7, 8] [26, 13, 15] rfl rfl rfl
  · exact kNx [7, 8] [26, 13, 16] rfl rfl rfl
theorem g9 {K : St → Prop} (hn : n ≤ 1048576) (hd : d.length ≤ 1000000) : GoodC n eds d kx y1 y2 y3 K dC9 (kS9 n eds d kx y1 y2 y3) := by
  unfold GoodC dC9 kS9
  simp -implicitDefEqProofs (disch := omega) [List.getElem?_cons_zero, List.getElem?_cons_succ, wrap_id, hn, List.forall_mem_cons]
  refine ⟨?_, ?_, ?_, ?_⟩
  · exact kNx [7] [26, 27, 14] rfl rfl rfl
  · exact kNx [8, 7] [26, 13, 14] rfl rfl rfl
  · exact kNx [7, 8] [26, 14, 15] rfl rfl rfl
  · exact kNx [7, 8] [26, 14, 16] rfl rfl rfl
theorem g10 {K : St → Prop} (hn : n ≤ 1048576) (hd : d.length ≤ 1000000) : GoodC n eds d kx y1 y2 y3 K dC10 (kS10 n eds d kx y1 y2 y3) := by
  unfold GoodC dC10 kS10
  simp -implicitDefEqProofs (disch := omega) [List.getElem?_cons_zero, List.getElem?_cons_succ, wrap_id, hn, List.forall_mem_cons]
  refine ⟨?_, ?_, ?_, ?_⟩
  · exact kNx [7] [26, 27, 15] rfl rfl rfl
  · exact kNx [8, 7] [26, 13, 15] rfl rfl rfl
  · exact kNx [8, 7] [26, 14, 15] rfl rfl rfl
  · exact kNx [7, 8] [26, 15, 16] rfl rfl rfl
theorem g11 {K : St → Prop} (hn : n ≤ 1048576) (hd : d.length ≤ 1000000) : GoodC n eds d kx y1 y2 y3 K dC11 (kS11 n eds d kx y1 y2 y3) := by
  unfold GoodC dC11 kS11
  simp -implicitDefEqProofs (disch := omega) [List.getElem?_cons_zero, List.getElem?_cons_succ, wrap_id, hn, List.forall_mem_cons]
  refine ⟨?_, ?_, ?_, ?_⟩
  · exact kNx [7] [26, 27, 16] rfl rfl rfl
  · exact kNx [8, 7] [26, 13, 16] rfl rfl rfl
  · exact kNx [8, 7] [26, 14, 16] rfl rfl rfl
  · exact kNx [8, 7] [26, 15, 16] rfl rfl rfl
theorem g12 {K : St → Prop} (hn : n ≤ 1048576) (hd : d.length ≤ 1000000) : GoodC n eds d kx y1 y2 y3 K dC12 (kS12 n eds d kx y1 y2 y3) := by
  unfold GoodC dC12 kS12
  simp -implicitDefEqProofs (disch := omega) [List.getElem?_cons_zero, List.getElem?_cons_succ, wrap_id, hn, List.forall_mem_cons]
  refine ⟨?_, ?_, ?_, ?_, ?_, ?_⟩
  · refine HC_of_PC rfl (cloneP_ok d hd) ?_
    simp -implicitDefEqProofs (disch := omega) [List.getElem?_cons_zero, List.getElem?_cons_succ, wrap_id]
    exact kNx [] [26, 27, 28] rfl rfl rfl
  · exact kNx [7] [27, 28, 29] rfl rfl rfl
  · exact kNx [7] [27, 28, 13] rfl rfl rfl
  · exact kNx [7] [27, 28, 14] rfl rfl rfl
  · exact kNx [7] [27, 28, 15] rfl rfl rfl
  · exact kNx [7] [27, 28, 16] rfl rfl rfl
theorem g13 {K : St → Prop} (hn : n ≤ 1048576) (hd : d.length ≤ 1000000) : GoodC n eds d kx y1 y2 y3 K dC13 (kS13 n eds d kx y1 y2 y3) := by
  unfold GoodC dC13 kS13
  simp -implicitDefEqProofs (disch := omega) [List.getElem?_cons_zero, List.getElem?_cons_succ, wrap_id, hn, List.forall_mem_cons]
  refine ⟨?_, ?_, ?_, ?_, ?_⟩
  · refine HC_of_PC rfl (cloneP_ok d hd) ?_
    simp -implicitDefEqProofs (disch := omega) [List.getElem?_cons_zero, List.getElem?_cons_succ, wrap_id]
    exact kNx [7] [26, 27, 13] rfl rfl rfl
  · exact kNx [7] [27, 28, 13] rfl rfl rfl
  · exact kNx [7, 8] [27, 13, 14] rfl rfl rfl
  · exact kNx [7, 8] [27, 13, 15] rfl rfl rfl
  · exact kNx [7, 8] [27, 13, 16] rfl rfl rfl
theorem g14 {K : St → Prop} (hn : n ≤ 1048576) (hd : d.length ≤ 1000000) : GoodC n eds d kx y1 y2 y3 K dC14 (kS14 n eds d kx y1 y2 y3) := by
  unfold GoodC dC14 kS14
  simp -implicitDefEqProofs (disch := omega) [List.getElem?_cons_zero, List.getElem?_cons_succ, wrap_id, hn, List.forall_mem_cons]
  refine ⟨?_, ?_, ?_, ?_, ?_⟩
  · refine HC_of_PC rfl (cloneP_ok d hd) ?_
    simp -implicitDefEqProofs (disch := omega) [List.getElem?_cons_zero, List.getElem?_cons_succ, wrap_id]
    exact kNx [7] [26, 27, 14] rfl rfl rfl
  · exact kNx [7] [27, 28, 14] rfl rfl rfl
  · exact kNx [8, 7] [27, 13, 14] rfl rfl rfl
  · exact kNx [7, 8] [27, 14, 15] rfl rfl rfl
  · exact kNx [7, 8] [27, 14, 16] rfl rfl rfl
theorem g15 {K : St → Prop} (hn : n ≤ 1048576) (hd : d.length ≤ 1000000) : GoodC n eds d kx y1 y2 y3 K dC15 (kS15 n eds d kx y1 y2 y3) := by
  unfold GoodC dC15 kS15
  simp -implicitDefEqProofs (disch := omega) [List.getElem?_cons_zero, List.getElem?_cons_succ, wrap_id, hn, List.forall_mem_cons]
  refine ⟨?_, ?_, ?_, ?_, ?_⟩
  · refine HC_of_PC rfl (cloneP_ok d hd) ?_
    simp -implicitDefEqProofs (disch := omega) [List.getElem?_cons_zero, List.getElem?_cons_succ, wrap_id]
    exact kNx [7] [26, 27, 15] rfl rfl rfl
  · exact kNx [7] [27, 28, 15] rfl rfl rfl
  · exact kNx [8, 7] [27, 13, 15] rfl rfl rfl
  · exact kNx [8, 7] [27, 14, 15] rfl rfl rfl
  · exact kNx [7, 8] [27, 15, 16] rfl rfl rfl
theorem g16 {K : St → Prop} (hn : n ≤ 1048576) (hd : d.length ≤ 1000000) : GoodC n eds d kx y1 y2 y3 K dC16 (kS16 n eds d kx y1 y2 y3) := by
  unfold GoodC dC16 kS16
  simp -implicitDefEqProofs (disch := omega) [List.getElem?_cons_zero, List.getElem?_cons_succ, wrap_id, hn, List.forall_mem_cons]
  refine ⟨?_, ?_, ?_, ?_, ?_⟩
  · refine HC_of_PC rfl (cloneP_ok d hd) ?_
    simp -implicitDefEqProofs (disch := omega) [List.getElem?_cons_zero, List.getElem?_cons_succ, wrap_id]
    exact kNx [7] [26, 27, 16] rfl rfl rfl
  · exact kNx [7] [27, 28, 16] rfl rfl rfl
  · exact kNx [8, 7] [27, 13, 16] rfl rfl rfl
  · exact kNx [8, 7] [27, 14, 16] rfl rfl rfl
  · exact kNx [8, 7] [27, 15, 16] rfl rfl rfl
theorem g17 {K : St → Prop} (hn : n ≤ 1048576) (hd : d.length ≤ 1000000) : GoodC n eds d kx y1 y2 y3 K dC17 (kS17 n eds d kx y1 y2 y3) := by
  unfold GoodC dC17 kS17
  simp -implicitDefEqProofs (disch := omega) [List.getElem?_cons_zero, List.getElem?_cons_succ, wrap_id, hn, List.forall_mem_cons]
  refine ⟨?_, ?_, ?_, ?_⟩
  · refine HC_of_PC rfl (cloneP_ok d hd) ?_
    simp -implicitDefEqProofs (disch := omega) [List.getElem?_cons_zero, List.getElem?_cons_succ, wrap_id]
    exact kNx [7, 8] [26, 13, 14] rfl rfl rfl
  · exact kNx [7, 8] [27, 13, 14] rfl rfl rfl
  · exact kNx [7, 8, 9] [13, 14, 15] rfl rfl rfl
  · exact kNx [7, 8, 9] [13, 14, 16] rfl rfl rfl
theorem g18 {K : St → Prop} (hn : n ≤ 1048576) (hd : d.length ≤ 1000000) : GoodC n eds d kx y1 y2 y3 K dC18 (kS18 n eds d kx y1 y2 y3) := by
  unfold GoodC dC18 kS18
  simp -implicitDefEqProofs (disch := omega) [List.getElem?_cons_zero, List.getElem?_cons_succ, wrap_id, hn, List.forall_mem_cons]
  refine ⟨?_, ?_, ?_, ?_⟩
  · refine HC_of_PC rfl (cloneP_ok d hd) ?_
    simp -implicitDefEqProofs (disch := omega) [List.getElem?_cons_zero, List.getElem?_cons_succ, wrap_id]
    exact kNx [7, 8] [26, 13, 15] rfl rfl rfl
  · exact kNx [7, 8] [27, 13, 15] rfl rfl rfl
  · exact kNx [7, 9, 8] [13, 14, 15] rfl rfl rfl
  · exact kNx [7, 8, 9] [13, 15, 16] rfl rfl rfl
theorem g19 {K : St → Prop} (hn : n ≤ 1048576) (hd : d.length ≤ 1000000) : GoodC n eds d kx y1 y2 y3 K dC19 (kS19 n eds d kx y1 y2 y3) := by
  unfold GoodC dC19 kS19
  simp -implicitDefEqProofs (disch := omega) [List.getElem?_cons_zero, List.getElem?_cons_succ, wrap_id, hn, List.forall_mem_cons]
  refine ⟨?_, ?_, ?_, ?_⟩
  · refine HC_of_PC rfl (cloneP_ok d hd) ?_
    simp -implicitDefEqProofs (disch := omega) [List.getElem?_cons_zero, List.getElem?_cons_succ, wrap_id]
    exact kNx [7, 8] [26, 13, 16] rfl rfl rfl
  · exact kNx [7, 8] [27, 13, 16] rfl rfl rfl
  · exact kNx [7, 9, 8] [13, 14, 16] rfl rfl rfl
  · exact kNx [7, 9, 8] [13, 15, 16] rfl rfl rfl
theorem g20 {K : St → Prop} (hn : n ≤ 1048576) (hd : d.length ≤ 1000000) : GoodC n eds d kx y1 y2 y3 K dC20 (kS20 n eds d kx y1 y2 y3) := by
  unfold GoodC dC20 kS20
  simp -implicitDefEqProofs (disch := omega) [List.getElem?_cons_zero, List.getElem?_cons_succ, wrap_id, hn, List.forall_mem_cons]
  refine ⟨?_, ?_, ?_, ?_⟩
  · refine HC_of_PC rfl (cloneP_ok d hd) ?_
    simp -implicitDefEqProofs (disch := omega) [List.getElem?_cons_zero, List.getElem?_cons_succ, wrap_id]
    exact kNx [7, 8] [26, 14, 15] rfl rfl rfl
  · exact kNx [7, 8] [27, 14, 15] rfl rfl rfl
  · exact kNx [9, 7, 8] [13, 14, 15] rfl rfl rfl
  · exact kNx [7, 8, 9] [14, 15, 16] rfl rfl rfl
theorem g21 {K : St → Prop} (hn : n ≤ 1048576) (hd : d.length ≤ 1000000) : GoodC n eds d kx y1 y2 y3 K dC21 (kS21 n eds d kx y1 y2 y3) := by
  unfold GoodC dC21 kS21
  simp -implicitDefEqProofs (disch := omega) [List.getElem?_cons_zero, List.getElem?_cons_succ, wrap_id, hn, List.forall_mem_cons]
  refine ⟨?_, ?_, ?_, ?_⟩
  · refine HC_of_PC rfl (cloneP_ok d hd) ?_
    simp -implicitDefEqProofs (disch := omega) [List.getElem?_cons_zero, List.getElem?_cons_succ, wrap_id]
    exact kNx [7, 8] [26, 14, 16] rfl rfl rfl
  · exact kNx [7, 8] [27, 14, 16] rfl rfl rfl
  · exact kNx [9, 7, 8] [13, 14, 16] rfl rfl rfl
  · exact kNx [7, 9, 8] [14, 15, 16] rfl rfl rfl
theorem g22 {K : St → Prop} (hn : n ≤ 1048576) (hd : d.length ≤ 1000000) : GoodC n eds d kx y1 y2 y3 K dC22 (kS22 n eds d kx y1 y2 y3) := by
  unfold GoodC dC22 kS22
  simp -implicitDefEqProofs (disch := omega) [List.getElem?_cons_zero, List.getElem?_cons_succ, wrap_id, hn, List.forall_mem_cons]
  refine ⟨?_, ?_, ?_, ?_⟩
  · refine HC_of_PC rfl (cloneP_ok d hd) ?_
    simp -implicitDefEqProofs (disch := omega) [List.getElem?_cons_zero, List.getElem?_cons_succ, wrap_id]
    exact kNx [7, 8] [26, 15, 16] rfl rfl rfl
  · exact kNx [7, 8] [27, 15, 16] rfl rfl rfl
  · exact kNx [9, 7, 8] [13, 15, 16] rfl rfl rfl
  · exact kNx [9, 7, 8] [14, 15, 16] rfl rfl rfl
theorem g23 {K : St → Prop} (hn : n ≤ 1048576) (hd : d.length ≤ 1000000) : GoodC n eds d kx y1 y2 y3 K dC23 (kS23 n eds d kx y1 y2 y3) := by
  unfold GoodC dC23 kS23
  simp -implicitDefEqProofs (disch := omega) [List.getElem?_cons_zero, List.getElem?_cons_succ, wrap_id, hn, List.forall_mem_cons]
  refine ⟨?_, ?_, ?_, ?_, ?_⟩
  · exact kNx [7] [26, 27, 28, 29] rfl rfl rfl
  · exact kNx [7] [26, 27, 28, 13] rfl rfl rfl
  · exact kNx [7] [26, 27, 28, 14] rfl rfl rfl
  · exact kNx [7] [26, 27, 28, 15] rfl rfl rfl
  · exact kNx [7] [26, 27, 28, 16] rfl rfl rfl
theorem g24 {K : St → Prop} (hn : n ≤ 1048576) (hd : d.length ≤ 1000000) : GoodC n eds d kx y1 y2 y3 K dC24 (kS24 n eds d kx y1 y2 y3) := by
  unfold GoodC dC24 kS24
  simp -implicitDefEqProofs (disch := omega) [List.getElem?_cons_zero, List.getElem?_cons_succ, wrap_id, hn, List.forall_mem_cons]
  refine ⟨?_, ?_, ?_, ?_⟩
  · exact kNx [7] [26, 27, 28, 13] rfl rfl rfl
  · exact kNx [7, 8] [26, 27, 13, 14] rfl rfl rfl
  · exact kNx [7, 8] [26, 27, 13, 15] rfl rfl rfl
  · exact kNx [7, 8] [26, 27, 13, 16] rfl rfl rfl
theorem g25 {K : St → Prop} (hn : n ≤ 1048576) (hd : d.length ≤ 1000000) : GoodC n eds d kx y1 y2 y3 K dC25 (kS25 n eds d kx y1 y2 y3) := by
  unfold GoodC dC25 kS25
  simp -implicitDefEqProofs (disch := omega) [List.getElem?_cons_zero, List.getElem?_cons_succ, wrap_id, hn, List.forall_mem_cons]
  refine ⟨?_, ?_, ?_, ?_⟩
  · exact kNx [7] [26, 27, 28, 14] rfl rfl rfl
  · exact kNx [8, 7] [26, 27, 13, 14] rfl rfl rfl
  · exact kNx [7, 8] [26, 27, 14, 15] rfl rfl rfl
  · exact kNx [7, 8] [26, 27, 14, 16] rfl rfl rfl
theorem g26 {K : St → Prop} (hn : n ≤ 1048576) (hd : d.length ≤ 1000000) : GoodC n eds d kx y1 y2 y3 K dC26 (kS26 n eds d kx y1 y2 y3) := by
  unfold GoodC dC26 kS26
  simp -implicitDefEqProofs (disch := omega) [List.getElem?_cons_zero, List.getElem?_cons_succ, wrap_id, hn, List.forall_mem_cons]
  refine ⟨?_, ?_, ?_, ?_⟩
  · exact kNx [7] [26, 27, 28, 15] rfl rfl rfl
  · exact kNx [8, 7] [26, 27, 13, 15] rfl rfl rfl
  · exact kNx [8, 7] [26, 27, 14, 15] rfl rfl rfl
  · exact kNx [7, 8] [26, 27, 15, 16] rfl rfl rfl
theorem g27 {K : St → Prop} (hn : n ≤ 1048576) (hd : d.length ≤ 1000000) : GoodC n eds d kx y1 y2 y3 K dC27 (kS27 n eds d kx y1 y2 y3) := by
  unfold GoodC dC27 kS27
  simp -implicitDefEqProofs (disch := omega) [List.getElem?_cons_zero, List.getElem?_cons_succ, wrap_id, hn, List.forall_mem_cons]
  refine ⟨?_, ?_, ?_, ?_⟩
  · exact kNx [7] [26, 27, 28, 16] rfl rfl rfl
  · exact kNx [8, 7] [26, 27, 13, 16] rfl rfl rfl
  · exact kNx [8, 7] [26, 27, 14, 16] rfl rfl rfl
  · exact kNx [8, 7] [26, 27, 15, 16] rfl rfl rfl
theorem g28 {K : St → Prop} (hn : n ≤ 1048576) (hd : d.length ≤ 1000000) : GoodC n eds d kx y1 y2 y3 K dC28 (kS28 n eds d kx y1 y2 y3) := by
  unfold GoodC dC28 kS28
  simp -implicitDefEqProofs (disch := omega) [List.getElem?_cons_zero, List.getElem?_cons_succ, wrap_id, hn, List.forall_mem_cons]
  refine ⟨?_, ?_, ?_⟩
  · exact kNx [7, 8] [26, 27, 13, 14] rfl rfl rfl
  · exact kNx [7, 8, 9] [26, 13, 14, 15] rfl rfl rfl
  · exact kNx [7, 8, 9] [26, 13, 14, 16] rfl rfl rfl
theorem g29 {K : St → Prop} (hn : n ≤ 1048576) (hd : d.length ≤ 1000000) : GoodC n eds d kx y1 y2 y3 K dC29 (kS29 n eds d kx y1 y2 y3) := by
  unfold GoodC dC29 kS29
  simp -implicitDefEqProofs (disch := omega) [List.getElem?_cons_zero, List.getElem?_cons_succ, wrap_id, hn, List.forall_mem_cons]
  refine ⟨?_, ?_, ?_⟩
  · exact kNx [7, 8] [26, 27, 13, 15] rfl rfl rfl
  · exact kNx [7, 9, 8] [26, 13, 14, 15] rfl rfl rfl
  · exact kNx [7, 8, 9] [26, 13, 15, 16] rfl rfl rfl
theorem g30 {K : St → Prop} (hn : n ≤ 1048576) (hd : d.length ≤ 1000000) : GoodC n eds d kx y1 y2 y3 K dC30 (kS30 n eds d kx y1 y2 y3) := by
  unfold GoodC dC30 kS30
  simp -implicitDefEqProofs (disch := omega) [List.getElem?_cons_zero, List.getElem?_cons_succ, wrap_id, hn, List.forall_mem_cons]
  refine ⟨?_, ?_, ?_⟩
  · exact kNx [7, 8] [26, 27, 13, 16] rfl rfl rfl
  · exact kNx [7, 9, 8] [26, 13, 14, 16] rfl rfl rfl
  · exact kNx [7, 9, 8] [26, 13, 15, 16] rfl rfl rfl
theorem g31 {K : St → Prop} (hn : n ≤ 1048576) (hd : d.length ≤ 1000000) : GoodC n eds d kx y1 y2 y3 K dC31 (kS31 n eds d kx y1 y2 y3) := by
  unfold GoodC dC31 kS31
  simp -implicitDefEqProofs (disch := omega) [List.getElem?_cons_zero, List.getElem?_cons_succ, wrap_id, hn, List.forall_mem_cons]
  refine ⟨?_, ?_, ?_⟩
  · exact kNx [7, 8] [26, 27, 14, 15] rfl rfl rfl
  · exact kNx [9, 7, 8] [26, 13, 14, 15] rfl rfl rfl
  · exact kNx [7, 8, 9] [26, 14, 15, 16] rfl rfl rfl
theorem g32 {K : St → Prop} (hn : n ≤ 1048576) (hd : d.length ≤ 1000000) : GoodC n eds d kx y1 y2 y3 K dC32 (kS32 n eds d kx y1 y2 y3) := by
  unfold GoodC dC32 kS32
  simp -implicitDefEqProofs (disch := omega) [List.getElem?_cons_zero, List.getElem?_cons_succ, wrap_id, hn, List.forall_mem_cons]
  refine ⟨?_, ?_, ?_⟩
  · exact kNx [7, 8] [26, 27, 14, 16] rfl rfl rfl
  · exact kNx [9, 7, 8] [26, 13, 14, 16] rfl rfl rfl
  · exact kNx [7, 9, 8] [26, 14, 15, 16] rfl rfl rfl
theorem g33 {K : St → Prop} (hn : n ≤ 1048576) (hd : d.length ≤ 1000000) : GoodC n eds d kx y1 y2 y3 K dC33 (kS33 n eds d kx y1 y2 y3) := by
  unfold GoodC dC33 kS33
  simp -implicitDefEqProofs (disch := omega) [List.getElem?_cons_zero, List.getElem?_cons_succ, wrap_id, hn, List.forall_mem_cons]
  refine ⟨?_, ?_, ?_⟩
  · exact kNx [7, 8] [26, 27, 15, 16] rfl rfl rfl
  · exact kNx [9, 7, 8] [26, 13, 15, 16] rfl rfl rfl
  · exact kNx [9, 7, 8] [26, 14, 15, 16] rfl rfl rfl
theorem g34 {K : St → Prop} (hn : n ≤ 1048576) (hd : d.length ≤ 1000000) : GoodC n eds d kx y1 y2 y3 K dC34 (kS34 n eds d kx y1 y2 y3) := by
  unfold GoodC dC34 kS34
  simp -implicitDefEqProofs (disch := omega) [List.getElem?_cons_zero, List.getElem?_cons_succ, wrap_id, hn, List.forall_mem_cons]
  refine ⟨?_, ?_, ?_, ?_, ?_⟩
  · refine HC_of_PC rfl (cloneP_ok d hd) ?_
    simp -implicitDefEqProofs (disch := omega) [List.getElem?_cons_zero, List.getElem?_cons_succ, wrap_id]
    exact kNx [7] [26, 27, 28, 29] rfl rfl rfl
  · exact kNx [8, 7] [27, 28, 29, 13] rfl rfl rfl
  · exact kNx [8, 7] [27, 28, 29, 14] rfl rfl rfl
  · exact kNx [8, 7] [27, 28, 29, 15] rfl rfl rfl
  · exact kNx [8, 7] [27, 28, 29, 16] rfl rfl rfl
theorem g35 {K : St → Prop} (hn : n ≤ 1048576) (hd : d.length ≤ 1000000) : GoodC n eds d kx y1 y2 y3 K dC35 (kS35 n eds d kx y1 y2 y3) := by
  unfold GoodC dC35 kS35
  simp -implicitDefEqProofs (disch := omega) [List.getElem?_cons_zero, List.getElem?_cons_succ, wrap_id, hn, List.forall_mem_cons]
  refine ⟨?_, ?_, ?_, ?_, ?_⟩
  · refine HC_of_PC rfl (cloneP_ok d hd) ?_
    simp -implicitDefEqProofs (disch := omega) [List.getElem?_cons_zero, List.getElem?_cons_succ, wrap_id]
    exact kNx [7] [26, 27, 28, 13] rfl rfl rfl
  · exact kNx [7, 8] [27, 28, 29, 13] rfl rfl rfl
  · exact kNx [7, 8] [27, 28, 13, 14] rfl rfl rfl
  · exact kNx [7, 8] [27, 28, 13, 15] rfl rfl rfl
  · exact kNx [7, 8] [27, 28, 13, 16] rfl rfl rfl
theorem g36 {K : St → Prop} (hn : n ≤ 1048576) (hd : d.length ≤ 1000000) : GoodC n eds d kx y1 y2 y3 K dC36 (kS36 n eds d kx y1 y2 y3) := by
  unfold GoodC dC36 kS36
  simp -implicitDefEqProofs (disch := omega) [List.getElem?_cons_zero, List.getElem?_cons_succ, wrap_id, hn, List.forall_mem_cons]
  refine ⟨?_, ?_, ?_, ?_, ?_⟩
  · refine HC_of_PC rfl (cloneP_ok d hd) ?_
    simp -implicitDefEqProofs (disch := omega) [List.getElem?_cons_zero, List.getElem?_cons_succ, wrap_id]
    exact kNx [7] [26, 27, 28, 14] rfl rfl rfl
  · exact kNx [7, 8] [27, 28, 29, 14] rfl rfl rfl
  · exact kNx [8, 7] [27, 28, 13, 14] rfl rfl rfl
  · exact kNx [7, 8] [27, 28, 14, 15] rfl rfl rfl
  · exact kNx [7, 8] [27, 28, 14, 16] rfl rfl rfl
theorem g37 {K : St → Prop} (hn : n ≤ 1048576) (hd : d.length ≤ 1000000) : GoodC n eds d kx y1 y2 y3 K dC37 (kS37 n eds d kx y1 y2 y3) := by
  unfold GoodC dC37 kS37
  simp -implicitDefEqProofs (disch := omega) [List.getElem?_cons_zero, List.getElem?_cons_succ, wrap_id, hn, List.forall_mem_cons]
  refine ⟨?_, ?_, ?_, ?_, ?_⟩
  · refine HC_of_PC rfl (cloneP_ok d hd) ?_
    simp -implicitDefEqProofs (disch := omega) [List.getElem?_cons_zero, List.getElem?_cons_succ, wrap_id]
    exact kNx [7] [26, 27, 28, 15] rfl rfl rfl
  · exact kNx [7, 8] [27, 28, 29, 15] rfl rfl rfl
  · exact kNx [8, 7] [27, 28, 13, 15] rfl rfl rfl
  · exact kNx [8, 7] [27, 28, 14, 15] rfl rfl rfl
  · exact kNx [7, 8] [27, 28, 15, 16] rfl rfl rfl
theorem g38 {K : St → Prop} (hn : n ≤ 1048576) (hd : d.length ≤ 1000000) : GoodC n eds d kx y1 y2 y3 K dC38 (kS38 n eds d kx y1 y2 y3) := by
  unfold GoodC dC38 kS38
  simp -implicitDefEqProofs (disch := omega) [List.getElem?_cons_zero, List.getElem?_cons_succ, wrap_id, hn, List.forall_mem_cons]
  refine ⟨?_, ?_, ?_, ?_, ?_⟩
  · refine HC_of_PC rfl (cloneP_ok d hd) ?_
    simp -implicitDefEqProofs (disch := omega) [List.getElem?_cons_zero, List.getElem?_cons_succ, wrap_id]
    exact kNx [7] [26, 27, 28, 16] rfl rfl rfl
  · exact kNx [7, 8] [27, 28, 29, 16] rfl rfl rfl
  · exact kNx [8, 7] [27, 28, 13, 16] rfl rfl rfl
  · exact kNx [8, 7] [27, 28, 14, 16] rfl rfl rfl
  · exact kNx [8, 7] [27, 28, 15, 16] rfl rfl rfl
theorem g39 {K : St → Prop} (hn : n ≤ 1048576) (hd : d.length ≤ 1000000) : GoodC n eds d kx y1 y2 y3 K dC39 (kS39 n eds d kx y1 y2 y3) := by
  unfold GoodC dC39 kS39
  simp -implicitDefEqProofs (disch := omega) [List.getElem?_cons_zero, List.getElem?_cons_succ, wrap_id, hn, List.forall_mem_cons]
  refine ⟨?_, ?_, ?_, ?_⟩
  · refine HC_of_PC rfl (cloneP_ok d hd) ?_
    simp -implicitDefEqProofs (disch := omega) [List.getElem?_cons_zero, List.getElem?_cons_succ, wrap_id]
    exact kNx [7, 8] [26, 27, 13, 14] rfl rfl rfl
  · exact kNx [7, 8] [27, 28, 13, 14] rfl rfl rfl
  · exact kNx [7, 8, 9] [27, 13, 14, 15] rfl rfl rfl
  · exact kNx [7, 8, 9] [27, 13, 14, 16] rfl rfl rfl
theorem g40 {K : St → Prop} (hn : n ≤ 1048576) (hd : d.length ≤ 1000000) : GoodC n eds d kx y1 y2 y3 K dC40 (kS40 n eds d kx y1 y2 y3) := by
  unfold GoodC dC40 kS40
  simp -implicitDefEqProofs (disch := omega) [List.getElem?_cons_zero, List.getElem?_cons_succ, wrap_id, hn, List.forall_mem_cons]
  refine ⟨?_, ?_, ?_, ?_⟩
  · refine HC_of_PC rfl (cloneP_ok d hd) ?_
    simp -implicitDefEqProofs (disch := omega) [List.getElem?_cons_zero, List.getElem?_cons_succ, wrap_id]
    exact kNx [7, 8] [26, 27, 13, 15] rfl rfl rfl
  · exact kNx [7, 8] [27, 28, 13, 15] rfl rfl rfl
  · exact kNx [7, 9, 8] [27, 13, 14, 15] rfl rfl rfl
  · exact kNx [7, 8, 9] [27, 13, 15, 16] rfl rfl rfl
theorem g41 {K : St → Prop} (hn : n ≤ 1048576) (hd : d.length ≤ 1000000) : GoodC n eds d kx y1 y2 y3 K dC41 (kS41 n eds d kx y1 y2 y3) := by
  unfold GoodC dC41 kS41
  simp -implicitDefEqProofs (disch := omega) [List.getElem?_cons_zero, List.getElem?_cons_succ, wrap_id, hn, List.forall_mem_cons]
  refine ⟨?_, ?_, ?_, ?_⟩
  · refine HC_of_PC rfl (cloneP_ok d hd) ?_
    simp -implicitDefEqProofs (disch := omega) [List.getElem?_cons_zero, List.getElem?_cons_succ, wrap_id]
    exact kNx [7, 8] [26, 27, 13, 16] rfl rfl rfl
  · exact kNx [7, 8] [27, 28, 13, 16] rfl rfl rfl
  · exact kNx [7, 9, 8] [27, 13, 14, 16] rfl rfl rfl
  · exact kNx [7, 9, 8] [27, 13, 15, 16] rfl rfl rfl
theorem g42 {K : St → Prop} (hn : n ≤ 1048576) (hd : d.length ≤ 1000000) : GoodC n eds d kx y1 y2 y3 K dC42 (kS42 n eds d kx y1 y2 y3) := by
  unfold GoodC dC42 kS42
  simp -implicitDefEqProofs (disch := omega) [List.getElem?_cons_zero, List.getElem?_cons_succ, wrap_id, hn, List.forall_mem_cons]
  refine ⟨?_, ?_, ?_, ?_⟩
  · refine HC_of_PC rfl (cloneP_ok d hd) ?_
    simp -implicitDefEqProofs (disch := omega) [List.getElem?_cons_zero, List.getElem?_cons_succ, wrap_id]
    exact kNx [7, 8] [26, 27, 14, 15] rfl rfl rfl
  · exact kNx [7, 8] [27, 28, 14, 15] rfl rfl rfl
  · exact kNx [9, 7, 8] [27, 13, 14, 15] rfl rfl rfl
  · exact kNx [7, 8, 9] [27, 14, 15, 16] rfl rfl rfl
theorem g43 {K : St → Prop} (hn : n ≤ 1048576) (hd : d.length ≤ 1000000) : GoodC n eds d kx y1 y2 y3 K dC43 (kS43 n eds d kx y1 y2 y3) := by
  unfold GoodC dC43 kS43
  simp -implicitDefEqProofs (disch := omega) [List.getElem?_cons_zero, List.getElem?_cons_succ, wrap_id, hn, List.forall_mem_cons]
  refine ⟨?_, ?_, ?_, ?_⟩
  · refine HC_of_PC rfl (cloneP_ok d hd) ?_
    simp -implicitDefEqProofs (disch := omega) [List.getElem?_cons_zero, List.getElem?_cons_succ, wrap_id]
    exact kNx [7, 8] [26, 27, 14, 16] rfl rfl rfl
  · exact kNx [7, 8] [27, 28, 14, 16] rfl rfl rfl
  · exact kNx [9, 7, 8] [27, 13, 14, 16] rfl rfl rfl
  · exact kNx [7, 9, 8] [27, 14, 15, 16] rfl rfl rfl
theorem g44 {K : St → Prop} (hn : n ≤ 1048576) (hd : d.length ≤ 1000000) : GoodC n eds d kx y1 y2 y3 K dC44 (kS44 n eds d kx y1 y2 y3) := by
  unfold GoodC dC44 kS44
  simp -implicitDefEqProofs (disch := omega) [List.getElem?_cons_zero, List.getElem?_cons_succ, wrap_id, hn, List.forall_mem_cons]
  refine ⟨?_, ?_, ?_, ?_⟩
  · refine HC_of_PC rfl (cloneP_ok d hd) ?_
    simp -implicitDefEqProofs (disch := omega) [List.getElem?_cons_zero, List.getElem?_cons_succ, wrap_id]
    exact kNx [7, 8] [26, 27, 15, 16] rfl rfl rfl
  · exact kNx [7, 8] [27, 28, 15, 16] rfl rfl rfl
  · exact kNx [9, 7, 8] [27, 13, 15, 16] rfl rfl rfl
  · exact kNx [9, 7, 8] [27, 14, 15, 16] rfl rfl rfl
theorem g45 {K : St → Prop} (hn : n ≤ 1048576) (hd : d.length ≤ 1000000) : GoodC n eds d kx y1 y2 y3 K dC45 (kS45 n eds d kx y1 y2 y3) := by
  unfold GoodC dC45 kS45
  simp -implicitDefEqProofs (disch := omega) [List.getElem?_cons_zero, List.getElem?_cons_succ, wrap_id, hn, List.forall_mem_cons]
  refine ⟨?_, ?_, ?_⟩
  · refine HC_of_PC rfl (cloneP_ok d hd) ?_
    simp -implicitDefEqProofs (disch := omega) [List.getElem?_cons_zero, List.getElem?_cons_succ, wrap_id]
    exact kNx [7, 8, 9] [26, 13, 14, 15] rfl rfl rfl
  · exact kNx [7, 8, 9] [27, 13, 14, 15] rfl rfl rfl
  · exact kNx [7, 8, 9, 10] [13, 14, 15, 16] rfl rfl rfl
theorem g46 {K : St → Prop} (hn : n ≤ 1048576) (hd : d.length ≤ 1000000) : GoodC n eds d kx y1 y2 y3 K dC46 (kS46 n eds d kx y1 y2 y3) := by
  unfold GoodC dC46 kS46
  simp -implicitDefEqProofs (disch := omega) [List.getElem?_cons_zero, List.getElem?_cons_succ, wrap_id, hn, List.forall_mem_cons]
  refine ⟨?_, ?_, ?_⟩
  · refine HC_of_PC rfl (cloneP_ok d hd) ?_
    simp -implicitDefEqProofs (disch := omega) [List.getElem?_cons_zero, List.getElem?_cons_succ, wrap_id]
    exact kNx [7, 8, 9] [26, 13, 14, 16] rfl rfl rfl
  · exact kNx [7, 8, 9] [27, 13, 14, 16] rfl rfl rfl
  · exact kNx [7, 8, 10, 9] [13, 14, 15, 16] rfl rfl rfl
theorem g47 {K : St → Prop} (hn : n ≤ 1048576) (hd : d.length ≤ 1000000) : GoodC n eds d kx y1 y2 y3 K dC47 (kS47 n eds d kx y1 y2 y3) := by
  unfold GoodC dC47 kS47
  simp -implicitDefEqProofs (disch := omega) [List.getElem?_cons_zero, List.getElem?_cons_succ, wrap_id, hn, List.forall_mem_cons]
  refine ⟨?_, ?_, ?_⟩
  · refine HC_of_PC rfl (cloneP_ok d hd) ?_
    simp -implicitDefEqProofs (disch := omega) [List.getElem?_cons_zero, List.getElem?_cons_succ, wrap_id]
    exact kNx [7, 8, 9] [26, 13, 15, 16] rfl rfl rfl
  · exact kNx [7, 8, 9] [27, 13, 15, 16] rfl rfl rfl
  · exact kNx [7, 10, 8, 9] [13, 14, 15, 16] rfl rfl rfl
theorem g48 {K : St → Prop} (hn : n ≤ 1048576) (hd : d.length ≤ 1000000) : GoodC n eds d kx y1 y2 y3 K dC48 (kS48 n eds d kx y1 y2 y3) := by
  unfold GoodC dC48 kS48
  simp -implicitDefEqProofs (disch := omega) [List.getElem?_cons_zero, List.getElem?_cons_succ, wrap_id, hn, List.forall_mem_cons]
  refine ⟨?_, ?_, ?_⟩
  · refine HC_of_PC rfl (cloneP_ok d hd) ?_
    simp -implicitDefEqProofs (disch := omega) [List.getElem?_cons_zero, List.getElem?_cons_succ, wrap_id]
    exact kNx [7, 8, 9] [26, 14, 15, 16] rfl rfl rfl
  · exact kNx [7, 8, 9] [27, 14, 15, 16] rfl rfl rfl
  · exact kNx [10, 7, 8, 9] [13, 14, 15, 16] rfl rfl rfl
theorem g49 {K : St → Prop} (hn : n ≤ 1048576) (hd : d.length ≤ 1000000) : GoodC n eds d kx y1 y2 y3 K dC49 (kS49 n eds d kx y1 y2 y3) := by
  unfold GoodC dC49 kS49
  simp -implicitDefEqProofs (disch := omega) [List.getElem?_cons_zero, List.getElem?_cons_succ, wrap_id, hn, List.forall_mem_cons]
  refine ⟨?_, ?_, ?_, ?_⟩
  · exact kNx [8, 7] [26, 27, 28, 29, 13] rfl rfl rfl
  · exact kNx [8, 7] [26, 27, 28, 29, 14] rfl rfl rfl
  · exact kNx [8, 7] [26, 27, 28, 29, 15] rfl rfl rfl
  · exact kNx [8, 7] [26, 27, 28, 29, 16] rfl rfl rfl
theorem g50 {K : St → Prop} (hn : n ≤ 1048576) (hd : d.length ≤ 1000000) : GoodC n eds d kx y1 y2 y3 K dC50 (kS50 n eds d kx y1 y2 y3) := by
  unfold GoodC dC50 kS50
  simp -implicitDefEqProofs (disch := omega) [List.getElem?_cons_zero, List.getElem?_cons_succ, wrap_id, hn, List.forall_mem_cons]
  refine ⟨?_, ?_, ?_, ?_⟩
  · exact kNx [7, 8] [26, 27, 28, 29, 13] rfl rfl rfl
  · exact kNx [7, 8] [26, 27, 28, 13, 14] rfl rfl rfl
  · exact kNx [7, 8] [26, 27, 28, 13, 15] rfl rfl rfl
  · exact kNx [7, 8] [26, 27, 28, 13, 16] rfl rfl rfl
theorem g51 {K : St → Prop} (hn : n ≤ 1048576) (hd : d.length ≤ 1000000) : GoodC n eds d kx y1 y2 y3 K dC51 (kS51 n eds d kx y1 y2 y3) := by
  unfold GoodC dC51 kS51
  simp -implicitDefEqProofs (disch := omega) [List.getElem?_cons_zero, List.getElem?_cons_succ, wrap_id, hn, List.forall_mem_cons]
  refine ⟨?_, ?_, ?_, ?_⟩
  · exact kNx [7, 8] [26, 27, 28, 29, 14] rfl rfl rfl
  · exact kNx [8, 7] [26, 27, 28, 13, 14] rfl rfl rfl
  · exact kNx [7, 8] [26, 27, 28, 14, 15] rfl rfl rfl
  · exact kNx [7, 8] [26, 27, 28, 14, 16] rfl rfl rfl
theorem g52 {K : St → Prop} (hn : n ≤ 1048576) (hd : d.length ≤ 1000000) : GoodC n eds d kx y1 y2 y3 K dC52 (kS52 n eds d kx y1 y2 y3) := by
  unfold GoodC dC52 kS52
  simp -implicitDefEqProofs (disch := omega) [List.getElem?_cons_zero, List.getElem?_cons_succ, wrap_id, hn, List.forall_mem_cons]
  refine ⟨?_, ?_, ?_, ?_⟩
  · exact kNx [7, 8] [26, 27, 28, 29, 15] rfl rfl rfl
  · exact kNx [8, 7] [26, 27, 28, 13, 15] rfl rfl rfl
  · exact kNx [8, 7] [26, 27, 28, 14, 15] rfl rfl rfl
  · exact kNx [7, 8] [26, 27, 28, 15, 16] rfl rfl rfl
theorem g53 {K : St → Prop} (hn : n ≤ 1048576) (hd : d.length ≤ 1000000) : GoodC n eds d kx y1 y2 y3 K dC53 (kS53 n eds d kx y1 y2 y3) := by
  unfold GoodC dC53 kS53
  simp -implicitDefEqProofs (disch := omega) [List.getElem?_cons_zero, List.getElem?_cons_succ, wrap_id, hn, List.forall_mem_cons]
  refine ⟨?_, ?_, ?_, ?_⟩
  · exact kNx [7, 8] [26, 27, 28, 29, 16] rfl rfl rfl
  · exact kNx [8, 7] [26, 27, 28, 13, 16] rfl rfl rfl
  · exact kNx [8, 7] [26, 27, 28, 14, 16] rfl rfl rfl
  · exact kNx [8, 7] [26, 27, 28, 15, 16] rfl rfl rfl
theorem g54 {K : St → Prop} (hn : n ≤ 1048576) (hd : d.length ≤ 1000000) : GoodC n eds d kx y1 y2 y3 K dC54 (kS54 n eds d kx y1 y2 y3) := by
  unfold GoodC dC54 kS54
  simp -implicitDefEqProofs (disch := omega) [List.getElem?_cons_zero, List.getElem?_cons_succ, wrap_id, hn, List.forall_mem_cons]
  refine ⟨?_, ?_, ?_⟩
  · exact kNx [7, 8] [26, 27, 28, 13, 14] rfl rfl rfl
  · exact kNx [7, 8, 9] [26, 27, 13, 14, 15] rfl rfl rfl
  · exact kNx [7, 8, 9] [26, 27, 13, 14, 16] rfl rfl rfl
theorem g55 {K : St → Prop} (hn : n ≤ 1048576) (hd : d.length ≤ 1000000) : GoodC n eds d kx y1 y2 y3 K dC55 (kS55 n eds d kx y1 y2 y3) := by
  unfold GoodC dC55 kS55
  simp -implicitDefEqProofs (disch := omega) [List.getElem?_cons_zero, List.getElem?_cons_succ, wrap_id, hn, List.forall_mem_cons]
  refine ⟨?_, ?_, ?_⟩
  · exact kNx [7, 8] [26, 27, 28, 13, 15] rfl rfl rfl
  · exact kNx [7, 9, 8] [26, 27, 13, 14, 15] rfl rfl rfl
  · exact kNx [7, 8, 9] [26, 27, 13, 15, 16] rfl rfl rfl
theorem g56 {K : St → Prop} (hn : n ≤ 1048576) (hd : d.length ≤ 1000000) : GoodC n eds d kx y1 y2 y3 K dC56 (kS56 n eds d kx y1 y2 y3) := by
  unfold GoodC dC56 kS56
  simp -implicitDefEqProofs (disch := omega) [List.getElem?_cons_zero, List.getElem?_cons_succ, wrap_id, hn, List.forall_mem_cons]
  refine ⟨?_, ?_, ?_⟩
  · exact kNx [7, 8] [26, 27, 28, 13, 16] rfl rfl rfl
  · exact kNx [7, 9, 8] [26, 27, 13, 14, 16] rfl rfl rfl
  · exact kNx [7, 9, 8] [26, 27, 13, 15, 16] rfl rfl rfl
theorem g57 {K : St → Prop} (hn : n ≤ 1048576) (hd : d.length ≤ 1000000) : GoodC n eds d kx y1 y2 y3 K dC57 (kS57 n eds d kx y1 y2 y3) := by
  unfold GoodC dC57 kS57
  simp -implicitDefEqProofs (disch := omega) [List.getElem?_cons_zero, List.getElem?_cons_succ, wrap_id, hn, List.forall_mem_cons]
  refine ⟨?_, ?_, ?_⟩
  · exact kNx [7, 8] [26, 27, 28, 14, 15] rfl rfl rfl
  · exact kNx [9, 7, 8] [26, 27, 13, 14, 15] rfl rfl rfl
  · exact kNx [7, 8, 9] [26, 27, 14, 15, 16] rfl rfl rfl
theorem g58 {K : St → Prop} (hn : n ≤ 1048576) (hd : d.length ≤ 1000000) : GoodC n eds d kx y1 y2 y3 K dC58 (kS58 n eds d kx y1 y2 y3) := by
  unfold GoodC dC58 kS58
  simp -implicitDefEqProofs (disch := omega) [List.getElem?_cons_zero, List.getElem?_cons_succ, wrap_id, hn, List.forall_mem_cons]
  refine ⟨?_, ?_, ?_⟩
  · exact kNx [7, 8] [26, 27, 28, 14, 16] rfl rfl rfl
  · exact kNx [9, 7, 8] [26, 27, 13, 14, 16] rfl rfl rfl
  · exact kNx [7, 9, 8] [26, 27, 14, 15, 16] rfl rfl rfl
theorem g59 {K : St → Prop} (hn : n ≤ 1048576) (hd : d.length ≤ 1000000) : GoodC n eds d kx y1 y2 y3 K dC59 (kS59 n eds d kx y1 y2 y3) := by
  unfold GoodC dC59 kS59
  simp -implicitDefEqProofs (disch := omega) [List.getElem?_cons_zero, List.getElem?_cons_succ, wrap_id, hn, List.forall_mem_cons]
  refine ⟨?_, ?_, ?_⟩
  · exact kNx [7, 8] [26, 27, 28, 15, 16] rfl rfl rfl
  · exact kNx [9, 7, 8] [26, 27, 13, 15, 16] rfl rfl rfl
  · exact kNx [9, 7, 8] [26, 27, 14, 15, 16] rfl rfl rfl
theorem g60 {K : St → Prop} (hn : n ≤ 1048576) (hd : d.length ≤ 1000000) : GoodC n eds d kx y1 y2 y3 K dC60 (kS60 n eds d kx y1 y2 y3) := by
  unfold GoodC dC60 kS60
  simp -implicitDefEqProofs (disch := omega) [List.getElem?_cons_zero, List.getElem?_cons_succ, wrap_id, hn, List.forall_mem_cons]
  refine ⟨?_, ?_⟩
  · exact kNx [7, 8, 9] [26, 27, 13, 14, 15] rfl rfl rfl
  · exact kNx [7, 8, 9, 10] [26, 13, 14, 15, 16] rfl rfl rfl
theorem g61 {K : St → Prop} (hn : n ≤ 1048576) (hd : d.length ≤ 1000000) : GoodC n eds d kx y1 y2 y3 K dC61 (kS61 n eds d kx y1 y2 y3) := by
  unfold GoodC dC61 kS61
  simp -implicitDefEqProofs (disch := omega) [List.getElem?_cons_zero, List.getElem?_cons_succ, wrap_id, hn, List.forall_mem_cons]
  refine ⟨?_, ?_⟩
  · exact kNx [7, 8, 9] [26, 27, 13, 14, 16] rfl rfl rfl
  · exact kNx [7, 8, 10, 9] [26, 13, 14, 15, 16] rfl rfl rfl
theorem g62 {K : St → Prop} (hn : n ≤ 1048576) (hd : d.length ≤ 1000000) : GoodC n eds d kx y1 y2 y3 K dC62 (kS62 n eds d kx y1 y2 y3) := by
  unfold GoodC dC62 kS62
  simp -implicitDefEqProofs (disch := omega) [List.getElem?_cons_zero, List.getElem?_cons_succ, wrap_id, hn, List.forall_mem_cons]
  refine ⟨?_, ?_⟩
  · exact kNx [7, 8, 9] [26, 27, 13, 15, 16] rfl rfl rfl
  · exact kNx [7, 10, 8, 9] [26, 13, 14, 15, 16] rfl rfl rfl
theorem g63 {K : St → Prop} (hn : n ≤ 1048576) (hd : d.length ≤ 1000000) : GoodC n eds d kx y1 y2 y3 K dC63 (kS63 n eds d kx y1 y2 y3) := by
  unfold GoodC dC63 kS63
  simp -implicitDefEqProofs (disch := omega) [List.getElem?_cons_zero, List.getElem?_cons_succ, wrap_id, hn, List.forall_mem_cons]
  refine ⟨?_, ?_⟩
  · exact kNx [7, 8, 9] [26, 27, 14, 15, 16] rfl rfl rfl
  · exact kNx [10, 7, 8, 9] [26, 13, 14, 15, 16] rfl rfl rfl
theorem g64 {K : St → Prop} (hn : n ≤ 1048576) (hd : d.length ≤ 1000000) : GoodC n eds d kx y1 y2 y3 K dC64 (kS64 n eds d kx y1 y2 y3) := by
  unfold GoodC dC64 kS64
  simp -implicitDefEqProofs (disch := omega) [List.getElem?_cons_zero, List.getElem?_cons_succ, wrap_id, hn, List.forall_mem_cons]
  refine ⟨?_, ?_, ?_, ?_⟩
  · refine HC_of_PC rfl (cloneP_ok d hd) ?_
    simp -implicitDefEqProofs (disch := omega) [List.getElem?_cons_zero, List.getElem?_cons_succ, wrap_id]
    exact kNx [7, 8] [26, 27, 28, 29, 13] rfl rfl rfl
  · exact kNx [7, 9, 8] [27, 28, 29, 13, 14] rfl rfl rfl
  · exact kNx [7, 9, 8] [27, 28, 29, 13, 15] rfl rfl rfl
  · exact kNx [7, 9, 8] [27, 28, 29, 13, 16] rfl rfl rfl
theorem g65 {K : St → Prop} (hn : n ≤ 1048576) (hd : d.length ≤ 1000000) : GoodC n eds d kx y1 y2 y3 K dC65 (kS65 n eds d kx y1 y2 y3) := by
  unfold GoodC dC65 kS65
  simp -implicitDefEqProofs (disch := omega) [List.getElem?_cons_zero, List.getElem?_cons_succ, wrap_id, hn, List.forall_mem_cons]
  refine ⟨?_, ?_, ?_, ?_⟩
  · refine HC_of_PC rfl (cloneP_ok d hd) ?_
    simp -implicitDefEqProofs (disch := omega) [List.getElem?_cons_zero, List.getElem?_cons_succ, wrap_id]
    exact kNx [7, 8] [26, 27, 28, 29, 14] rfl rfl rfl
  · exact kNx [9, 7, 8] [27, 28, 29, 13, 14] rfl rfl rfl
  · exact kNx [7, 9, 8] [27, 28, 29, 14, 15] rfl rfl rfl
  · exact kNx [7, 9, 8] [27, 28, 29, 14, 16] rfl rfl rfl
theorem g66 {K : St → Prop} (hn : n ≤ 1048576) (hd : d.length ≤ 1000000) : GoodC n eds d kx y1 y2 y3 K dC66 (kS66 n eds d kx y1 y2 y3) := by
  unfold GoodC dC66 kS66
  simp -implicitDefEqProofs (disch := omega) [List.getElem?_cons_zero, List.getElem?_cons_succ, wrap_id, hn, List.forall_mem_cons]
  refine ⟨?_, ?_, ?_, ?_⟩
  · refine HC_of_PC rfl (cloneP_ok d hd) ?_
    simp -implicitDefEqProofs (disch := omega) [List.getElem?_cons_zero, List.getElem?_cons_succ, wrap_id]
    exact kNx [7, 8] [26, 27, 28, 29, 15] rfl rfl rfl
  · exact kNx [9, 7, 8] [27, 28, 29, 13, 15] rfl rfl rfl
  · exact kNx [9, 7, 8] [27, 28, 29, 14, 15] rfl rfl rfl
  · exact kNx [7, 9, 8] [27, 28, 29, 15, 16] rfl rfl rfl
theorem g67 {K : St → Prop} (hn : n ≤ 1048576) (hd : d.length ≤ 1000000) : GoodC n eds d kx y1 y2 y3 K dC67 (kS67 n eds d kx y1 y2 y3) := by
  unfold GoodC dC67 kS67
  simp -implicitDefEqProofs (disch := omega) [List.getElem?_cons_zero, List.getElem?_cons_succ, wrap_id, hn, List.forall_mem_cons]
  refine ⟨?_, ?_, ?_, ?_⟩
  · refine HC_of_PC rfl (cloneP_ok d hd) ?_
    simp -implicitDefEqProofs (disch := omega) [List.getElem?_cons_zero, List.getElem?_cons_succ, wrap_id]
    exact kNx [7, 8] [26, 27, 28, 29, 16] rfl rfl rfl
  · exact kNx [9, 7, 8] [27, 28, 29, 13, 16] rfl rfl rfl
  · exact kNx [9, 7, 8] [27, 28, 29, 14, 16] rfl rfl rfl
  · exact kNx [9, 7, 8] [27, 28, 29, 15, 16] rfl rfl rfl
theorem g68 {K : St → Prop} (hn : n ≤ 1048576) (hd : d.length ≤ 1000000) : GoodC n eds d kx y1 y2 y3 K dC68 (kS68 n eds d kx y1 y2 y3) := by
  unfold GoodC dC68 kS68
  simp -implicitDefEqProofs (disch := omega) [List.getElem?_cons_zero, List.getElem?_cons_succ, wrap_id, hn, List.forall_mem_cons]
  refine ⟨?_, ?_, ?_, ?_⟩
  · refine HC_of_PC rfl (cloneP_ok d hd) ?_
    simp -implicitDefEqProofs (disch := omega) [List.getElem?_cons_zero, List.getElem?_cons_succ, wrap_id]
    exact kNx [7, 8] [26, 27, 28, 13, 14] rfl rfl rfl
  · exact kNx [7, 8, 9] [27, 28, 29, 13, 14] rfl rfl rfl
  · exact kNx [7, 8, 9] [27, 28, 13, 14, 15] rfl rfl rfl
  · exact kNx [7, 8, 9] [27, 28, 13, 14, 16] rfl rfl rfl
theorem g69 {K : St → Prop} (hn : n ≤ 1048576) (hd : d.length ≤ 1000000) : GoodC n eds d kx y1 y2 y3 K dC69 (kS69 n eds d kx y1 y2 y3) := by
  unfold GoodC dC69 kS69
  simp -implicitDefEqProofs (disch := omega) [List.getElem?_cons_zero, List.getElem?_cons_succ, wrap_id, hn, List.forall_mem_cons]
  refine ⟨?_, ?_, ?_, ?_⟩
  · refine HC_of_PC rfl (cloneP_ok d hd) ?_
    simp -implicitDefEqProofs (disch := omega) [List.getElem?_cons_zero, List.getElem?_cons_succ, wrap_id]
    exact kNx [7, 8] [26, 27, 28, 13, 15] rfl rfl rfl
  · exact kNx [7, 8, 9] [27, 28, 29, 13, 15] rfl rfl rfl
  · exact kNx [7, 9, 8] [27, 28, 13, 14, 15] rfl rfl rfl
  · exact kNx [7, 8, 9] [27, 28, 13, 15, 16] rfl rfl rfl
theorem g70 {K : St → Prop} (hn : n ≤ 1048576) (hd : d.length ≤ 1000000) : GoodC n eds d kx y1 y2 y3 K dC70 (kS70 n eds d kx y1 y2 y3) := by
  unfold GoodC dC70 kS70
  simp -implicitDefEqProofs (disch := omega) [List.getElem?_cons_zero, List.getElem?_cons_succ, wrap_id, hn, List.forall_mem_cons]
  refine ⟨?_, ?_, ?_, ?_⟩
  · refine HC_of_PC rfl (cloneP_ok d hd) ?_
    simp -implicitDefEqProofs (disch := omega) [List.getElem?_cons_zero, List.getElem?_cons_succ, wrap_id]
    exact kNx [7, 8] [26, 27, 28, 13, 16] rfl rfl rfl
  · exact kNx [7, 8, 9] [27, 28, 29, 13, 16] rfl rfl rfl
  · exact kNx [7, 9, 8] [27, 28, 13, 14, 16] rfl rfl rfl
  · exact kNx [7, 9, 8] [27, 28, 13, 15, 16] rfl rfl rfl
theorem g71 {K : St → Prop} (hn : n ≤ 1048576) (hd : d.length ≤ 1000000) : GoodC n eds d kx y1 y2 y3 K dC71 (kS71 n eds d kx y1 y2 y3) := by
  unfold GoodC dC71 kS71
  simp -implicitDefEqProofs (disch := omega) [List.getElem?_cons_zero, List.getElem?_cons_succ, wrap_id, hn, List.forall_mem_cons]
  refine ⟨?_, ?_, ?_, ?_⟩
  · refine HC_of_PC rfl (cloneP_ok d hd) ?_
    simp -implicitDefEqProofs (disch := omega) [List.getElem?_cons_zero, List.getElem?_cons_succ, wrap_id]
    exact kNx [7, 8] [26, 27, 28, 14, 15] rfl rfl rfl
  · exact kNx [7, 8, 9] [27, 28, 29, 14, 15] rfl rfl rfl
  · exact kNx [9, 7, 8] [27, 28, 13, 14, 15] rfl rfl rfl
  · exact kNx [7, 8, 9] [27, 28, 14, 15, 16] rfl rfl rfl
theorem g72 {K : St → Prop} (hn : n ≤ 1048576) (hd : d.length ≤ 1000000) : GoodC n eds d kx y1 y2 y3 K dC72 (kS72 n eds d kx y1 y2 y3) := by
  unfold GoodC dC72 kS72
  simp -implicitDefEqProofs (disch := omega) [List.getElem?_cons_zero, List.getElem?_cons_succ, wrap_id, hn, List.forall_mem_cons]
  refine ⟨?_, ?_, ?_, ?_⟩
  · refine HC_of_PC rfl (cloneP_ok d hd) ?_
    simp -implicitDefEqProofs (disch := omega) [List.getElem?_cons_zero, List.getElem?_cons_succ, wrap_id]
    exact kNx [7, 8] [26, 27, 28, 14, 16] rfl rfl rfl
  · exact kNx [7, 8, 9] [27, 28, 29, 14, 16] rfl rfl rfl
  · exact kNx [9, 7, 8] [27, 28, 13, 14, 16] rfl rfl rfl
  · exact kNx [7, 9, 8] [27, 28, 14, 15, 16] rfl rfl rfl
theorem g73 {K : St → Prop} (hn : n ≤ 1048576) (hd : d.length ≤ 1000000) : GoodC n eds d kx y1 y2 y3 K dC73 (kS73 n eds d kx y1 y2 y3) := by
  unfold GoodC dC73 kS73
  simp -implicitDefEqProofs (disch := omega) [List.getElem?_cons_zero, List.getElem?_cons_succ, wrap_id, hn, List.forall_mem_cons]
  refine ⟨?_, ?_, ?_, ?_⟩
  · refine HC_of_PC rfl (cloneP_ok d hd) ?_
    simp -implicitDefEqProofs (disch := omega) [List.getElem?_cons_zero, List.getElem?_cons_succ, wrap_id]
    exact kNx [7, 8] [26, 27, 28, 15, 16] rfl rfl rfl
  · exact kNx [7, 8, 9] [27, 28, 29, 15, 16] rfl rfl rfl
  · exact kNx [9, 7, 8] [27, 28, 13, 15, 16] rfl rfl rfl
  · exact kNx [9, 7, 8] [27, 28, 14, 15, 16] rfl rfl rfl
theorem g74 {K : St → Prop} (hn : n ≤ 1048576) (hd : d.length ≤ 1000000) : GoodC n eds d kx y1 y2 y3 K dC74 (kS74 n eds d kx y1 y2 y3) := by
  unfold GoodC dC74 kS74
  simp -implicitDefEqProofs (disch := omega) [List.getElem?_cons_zero, List.getElem?_cons_succ, wrap_id, hn, List.forall_mem_cons]
  refine ⟨?_, ?_, ?_⟩
  · refine HC_of_PC rfl (cloneP_ok d hd) ?_
    simp -implicitDefEqProofs (disch := omega) [List.getElem?_cons_zero, List.getElem?_cons_succ, wrap_id]
    exact kNx [7, 8, 9] [26, 27, 13, 14, 15] rfl rfl rfl
  · exact kNx [7, 8, 9] [27, 28, 13, 14, 15] rfl rfl rfl
  · exact kNx [7, 8, 9, 10] [27, 13, 14, 15, 16] rfl rfl rfl
theorem g75 {K : St → Prop} (hn : n ≤ 1048576) (hd : d.length ≤ 1000000) : GoodC n eds d kx y1 y2 y3 K dC75 (kS75 n eds d kx y1 y2 y3) := by
  unfold GoodC dC75 kS75
  simp -implicitDefEqProofs (disch := omega) [List.getElem?_cons_zero, List.getElem?_cons_succ, wrap_id, hn, List.forall_mem_cons]
  refine ⟨?_, ?_, ?_⟩
  · refine HC_of_PC rfl (cloneP_ok d hd) ?_
    simp -implicitDefEqProofs (disch := omega) [List.getElem?_cons_zero, List.getElem?_cons_succ, wrap_id]
    exact kNx [7, 8, 9] [26, 27, 13, 14, 16] rfl rfl rfl
  · exact kNx [7, 8, 9] [27, 28, 13, 14, 16] rfl rfl rfl
  · exact kNx [7, 8, 10, 9] [27, 13, 14, 15, 16] rfl rfl rfl
theorem g76 {K : St → Prop} (hn : n ≤ 1048576) (hd : d.length ≤ 1000000) : GoodC n eds d kx y1 y2 y3 K dC76 (kS76 n eds d kx y1 y2 y3) := by
  unfold GoodC dC76 kS76
  simp -implicitDefEqProofs (disch := omega) [List.getElem?_cons_zero, List.getElem?_cons_succ, wrap_id, hn, List.forall_mem_cons]
  refine ⟨?_, ?_, ?_⟩
  · refine HC_of_PC rfl (cloneP_ok d hd) ?_
    simp -implicitDefEqProofs (disch := omega) [List.getElem?_cons_zero, List.getElem?_cons_succ, wrap_id]
    exact kNx [7, 8, 9] [26, 27, 13, 15, 16] rfl rfl rfl
  · exact kNx [7, 8, 9] [27, 28, 13, 15, 16] rfl rfl rfl
  · exact kNx [7, 10, 8, 9] [27, 13, 14, 15, 16] rfl rfl rfl
theorem g77 {K : St → Prop} (hn : n ≤ 1048576) (hd : d.length ≤ 1000000) : GoodC n eds d kx y1 y2 y3 K dC77 (kS77 n eds d kx y1 y2 y3) := by
  unfold GoodC dC77 kS77
  simp -implicitDefEqProofs (disch := omega) [List.getElem?_cons_zero, List.getElem?_cons_succ, wrap_id, hn, List.forall_mem_cons]
  refine ⟨?_, ?_, ?_⟩
  · refine HC_of_PC rfl (cloneP_ok d hd) ?_
    simp -implicitDefEqProofs (disch := omega) [List.getElem?_cons_zero, List.getElem?_cons_succ, wrap_id]
    exact kNx [7, 8, 9] [26, 27, 14, 15, 16] rfl rfl rfl
  · exact kNx [7, 8, 9] [27, 28, 14, 15, 16] rfl rfl rfl
  · exact kNx [10, 7, 8, 9] [27, 13, 14, 15, 16] rfl rfl rfl
theorem g78 {K : St → Prop} (hn : n ≤ 1048576) (hd : d.length ≤ 1000000) : GoodC n eds d kx y1 y2 y3 K dC78 (kS78 n eds d kx y1 y2 y3) := by
  unfold GoodC dC78 kS78
  simp -implicitDefEqProofs (disch := omega) [List.getElem?_cons_zero, List.getElem?_cons_succ, wrap_id, hn, List.forall_mem_cons]
  refine ⟨?_, ?_⟩
  · refine HC_of_PC rfl (cloneP_ok d hd) ?_
    simp -implicitDefEqProofs (disch := omega) [List.getElem?_cons_zero, List.getElem?_cons_succ, wrap_id]
    exact kNx [7, 8, 9, 10] [26, 13, 14, 15, 16] rfl rfl rfl
  · exact kNx [7, 8, 9, 10] [27, 13, 14, 15, 16] rfl rfl rfl
theorem g79 {K : St → Prop} (hn : n ≤ 1048576) (hd : d.length ≤ 1000000) : GoodC n eds d kx y1 y2 y3 K dC79 (kS79 n eds d kx y1 y2 y3) := by
  unfold GoodC dC79 kS79
  simp -implicitDefEqProofs (disch := omega) [List.getElem?_cons_zero, List.getElem?_cons_succ, wrap_id, hn, List.forall_mem_cons]
  refine ⟨?_, ?_, ?_⟩
  · exact kNx [7, 9, 8] [26, 27, 28, 29, 13, 14] rfl rfl rfl
  · exact kNx [7, 9, 8] [26, 27, 28, 29, 13, 15] rfl rfl rfl
  · exact kNx [7, 9, 8] [26, 27, 28, 29, 13, 16] rfl rfl rfl
theorem g80 {K : St → Prop} (hn : n ≤ 1048576) (hd : d.length ≤ 1000000) : GoodC n eds d kx y1 y2 y3 K dC80 (kS80 n eds d kx y1 y2 y3) := by
  unfold GoodC dC80 kS80
  simp -implicitDefEqProofs (disch := omega) [List.getElem?_cons_zero, List.getElem?_cons_succ, wrap_id, hn, List.forall_mem_cons]
  refine ⟨?_, ?_, ?_⟩
  · exact kNx [9, 7, 8] [26, 27, 28, 29, 13, 14] rfl rfl rfl
  · exact kNx [7, 9, 8] [26, 27, 28, 29, 14, 15] rfl rfl rfl
  · exact kNx [7, 9, 8] [26, 27, 28, 29, 14, 16] rfl rfl rfl
theorem g81 {K : St → Prop} (hn : n ≤ 1048576) (hd : d.length ≤ 1000000) : GoodC n eds d kx y1 y2 y3 K dC81 (kS81 n eds d kx y1 y2 y3) := by
  unfold GoodC dC81 kS81
  simp -implicitDefEqProofs (disch := omega) [List.getElem?_cons_zero, List.getElem?_cons_succ, wrap_id, hn, List.forall_mem_cons]
  refine ⟨?_, ?_, ?_⟩
  · exact kNx [9, 7, 8] [26, 27, 28, 29, 13, 15] rfl rfl rfl
  · exact kNx [9, 7, 8] [26, 27, 28, 29, 14, 15] rfl rfl rfl
  · exact kNx [7, 9, 8] [26, 27, 28, 29, 15, 16] rfl rfl rfl
theorem g82 {K : St → Prop} (hn : n ≤ 1048576) (hd : d.length ≤ 1000000) : GoodC n eds d kx y1 y2 y3 K dC82 (kS82 n eds d kx y1 y2 y3) := by
  unfold GoodC dC82 kS82
  simp -implicitDefEqProofs (disch := omega) [List.getElem?_cons_zero, List.getElem?_cons_succ, wrap_id, hn, List.forall_mem_cons]
  refine ⟨?_, ?_, ?_⟩
  · exact kNx [9, 7, 8] [26, 27, 28, 29, 13, 16] rfl rfl rfl
  · exact kNx [9, 7, 8] [26, 27, 28, 29, 14, 16] rfl rfl rfl
  · exact kNx [9, 7, 8] [26, 27, 28, 29, 15, 16] rfl rfl rfl
theorem g83 {K : St → Prop} (hn : n ≤ 1048576) (hd : d.length ≤ 1000000) : GoodC n eds d kx y1 y2 y3 K dC83 (kS83 n eds d kx y1 y2 y3) := by
  unfold GoodC dC83 kS83
  simp -implicitDefEqProofs (disch := omega) [List.getElem?_cons_zero, List.getElem?_cons_succ, wrap_id, hn, List.forall_mem_cons]
  refine ⟨?_, ?_, ?_⟩
  · exact kNx [7, 8, 9] [26, 27, 28, 29, 13, 14] rfl rfl rfl
  · exact kNx [7, 8, 9] [26, 27, 28, 13, 14, 15] rfl rfl rfl
  · exact kNx [7, 8, 9] [26, 27, 28, 13, 14, 16] rfl rfl rfl
theorem g84 {K : St → Prop} (hn : n ≤ 1048576) (hd : d.length ≤ 1000000) : GoodC n eds d kx y1 y2 y3 K dC84 (kS84 n eds d kx y1 y2 y3) := by
  unfold GoodC dC84 kS84
  simp -implicitDefEqProofs (disch := omega) [List.getElem?_cons_zero, List.getElem?_cons_succ, wrap_id, hn, List.forall_mem_cons]
  refine ⟨?_, ?_, ?_⟩
  · exact kNx [7, 8, 9] [26, 27, 28, 29, 13, 15] rfl rfl rfl
  · exact kNx [7, 9, 8] [26, 27, 28, 13, 14, 15] rfl rfl rfl
  · exact kNx [7, 8, 9] [26, 27, 28, 13, 15, 16] rfl rfl rfl
theorem g85 {K : St → Prop} (hn : n ≤ 1048576) (hd : d.length ≤ 1000000) : GoodC n eds d kx y1 y2 y3 K dC85 (kS85 n eds d kx y1 y2 y3) := by
  unfold GoodC dC85 kS85
  simp -implicitDefEqProofs (disch := omega) [List.getElem?_cons_zero, List.getElem?_cons_succ, wrap_id, hn, List.forall_mem_cons]
  refine ⟨?_, ?_, ?_⟩
  · exact kNx [7, 8, 9] [26, 27, 28, 29, 13, 16] rfl rfl rfl
  · exact kNx [7, 9, 8] [26, 27, 28, 13, 14, 16] rfl rfl rfl
  · exact kNx [7, 9, 8] [26, 27, 28, 13, 15, 16] rfl rfl rfl
theorem g86 {K : St → Prop} (hn : n ≤ 1048576) (hd : d.length ≤ 1000000) : GoodC n eds d kx y1 y2 y3 K dC86 (kS86 n eds d kx y1 y2 y3) := by
  unfold GoodC dC86 kS86
  simp -implicitDefEqProofs (disch := omega) [List.getElem?_cons_zero, List.getElem?_cons_succ, wrap_id, hn, List.forall_mem_cons]
  refine ⟨?_, ?_, ?_⟩
  · exact kNx [7, 8, 9] [26, 27, 28, 29, 14, 15] rfl rfl rfl
  · exact kNx [9, 7, 8] [26, 27, 28, 13, 14, 15] rfl rfl rfl
  · exact kNx [7, 8, 9] [26, 27, 28, 14, 15, 16] rfl rfl rfl
theorem g87 {K : St → Prop} (hn : n ≤ 1048576) (hd : d.length ≤ 1000000) : GoodC n eds d kx y1 y2 y3 K dC87 (kS87 n eds d kx y1 y2 y3) := by
  unfold GoodC dC87 kS87
  simp -implicitDefEqProofs (disch := omega) [List.getElem?_cons_zero, List.getElem?_cons_succ, wrap_id, hn, List.forall_mem_cons]
  refine ⟨?_, ?_, ?_⟩
  · exact kNx [7, 8, 9] [26, 27, 28, 29, 14, 16] rfl rfl rfl
  · exact kNx [9, 7, 8] [26, 27, 28, 13, 14, 16] rfl rfl rfl
  · exact kNx [7, 9, 8] [26, 27, 28, 14, 15, 16] rfl rfl rfl
theorem g88 {K : St → Prop} (hn : n ≤ 1048576) (hd : d.length ≤ 1000000) : GoodC n eds d kx y1 y2 y3 K dC88 (kS88 n eds d kx y1 y2 y3) := by
  unfold GoodC dC88 kS88
  simp -implicitDefEqProofs (disch := omega) [List.getElem?_cons_zero, List.getElem?_cons_succ, wrap_id, hn, List.forall_mem_cons]
  refine ⟨?_, ?_, ?_⟩
  · exact kNx [7, 8, 9] [26, 27, 28, 29, 15, 16] rfl rfl rfl
  · exact kNx [9, 7, 8] [26, 27, 28, 13, 15, 16] rfl rfl rfl
  · exact kNx [9, 7, 8] [26, 27, 28, 14, 15, 16] rfl rfl rfl
theorem g89 {K : St → Prop} (hn : n ≤ 1048576) (hd : d.length ≤ 1000000) : GoodC n eds d kx y1 y2 y3 K dC89 (kS89 n eds d kx y1 y2 y3) := by
  unfold GoodC dC89 kS89
  simp -implicitDefEqProofs (disch := omega) [List.getElem?_cons_zero, List.getElem?_cons_succ, wrap_id, hn, List.forall_mem_cons]
  refine ⟨?_, ?_⟩
  · exact kNx [7, 8, 9] [26, 27, 28, 13, 14, 15] rfl rfl rfl
  · exact kNx [7, 8, 9, 10] [26, 27, 13, 14, 15, 16] rfl rfl rfl
theorem g90 {K : St → Prop} (hn : n ≤ 1048576) (hd : d.length ≤ 1000000) : GoodC n eds d kx y1 y2 y3 K dC90 (kS90 n eds d kx y1 y2 y3) := by
  unfold GoodC dC90 kS90
  simp -implicitDefEqProofs (disch := omega) [List.getElem?_cons_zero, List.getElem?_cons_succ, wrap_id, hn, List.forall_mem_cons]
  refine ⟨?_, ?_⟩
  · exact kNx [7, 8, 9] [26, 27, 28, 13, 14, 16] rfl rfl rfl
  · exact kNx [7, 8, 10, 9] [26, 27, 13, 14, 15, 16] rfl rfl rfl
theorem g91 {K : St → Prop} (hn : n ≤ 1048576) (hd : d.length ≤ 1000000) : GoodC n eds d kx y1 y2 y3 K dC91 (kS91 n eds d kx y1 y2 y3) := by
  unfold GoodC dC91 kS91
  simp -implicitDefEqProofs (disch := omega) [List.getElem?_cons_zero, List.getElem?_cons_succ, wrap_id, hn, List.forall_mem_cons]
  refine ⟨?_, ?_⟩
  · exact kNx [7, 8, 9] [26, 27, 28, 13, 15, 16] rfl rfl rfl
  · exact kNx [7, 10, 8, 9] [26, 27, 13, 14, 15, 16] rfl rfl rfl
theorem g92 {K : St → Prop} (hn : n ≤ 1048576) (hd : d.length ≤ 1000000) : GoodC n eds d kx y1 y2 y3 K dC92 (kS92 n eds d kx y1 y2 y3) := by
  unfold GoodC dC92 kS92
  simp -implicitDefEqProofs (disch := omega) [List.getElem?_cons_zero, List.getElem?_cons_succ, wrap_id, hn, List.forall_mem_cons]
  refine ⟨?_, ?_⟩
  · exact kNx [7, 8, 9] [26, 27, 28, 14, 15, 16] rfl rfl rfl
  · exact kNx [10, 7, 8, 9] [26, 27, 13, 14, 15, 16] rfl rfl rfl
theorem g93 {K : St → Prop} (hn : n ≤ 1048576) (hd : d.length ≤ 1000000) : GoodC n eds d kx y1 y2 y3 K dC93 (kS93 n eds d kx y1 y2 y3) := by
  unfold GoodC dC93 kS93
  simp -implicitDefEqProofs (disch := omega) [List.getElem?_cons_zero, List.getElem?_cons_succ, wrap_id, hn, List.forall_mem_cons]
  refine ⟨?_, ?_⟩
  · exact kNx [7, 8, 9, 10] [26, 27, 13, 14, 15, 16] rfl rfl rfl
  · exact kNx [7, 8, 9, 10] [26, 13, 14, 15, 16] rfl rfl rfl
theorem g94 {K : St → Prop} (hn : n ≤ 1048576) (hd : d.length ≤ 1000000) : GoodC n eds d kx y1 y2 y3 K dC94 (kS94 n eds d kx y1 y2 y3) := by
  unfold GoodC dC94 kS94
  simp -implicitDefEqProofs (disch := omega) [List.getElem?_cons_zero, List.getElem?_cons_succ, wrap_id, hn, List.forall_mem_cons]
  refine ⟨?_, ?_, ?_⟩
  · refine HC_of_PC rfl (cloneP_ok d hd) ?_
    simp -implicitDefEqProofs (disch := omega) [List.getElem?_cons_zero, List.getElem?_cons_succ, wrap_id]
    exact kNx [7, 8, 9] [26, 27, 28, 29, 13, 14] rfl rfl rfl
  · exact kNx [7, 8, 10, 9] [27, 28, 29, 13, 14, 15] rfl rfl rfl
  · exact kNx [7, 8, 10, 9] [27, 28, 29, 13, 14, 16] rfl rfl rfl
theorem g95 {K : St → Prop} (hn : n ≤ 1048576) (hd : d.length ≤ 1000000) : GoodC n eds d kx y1 y2 y3 K dC95 (kS95 n eds d kx y1 y2 y3) := by
  unfold GoodC dC95 kS95
  simp -implicitDefEqProofs (disch := omega) [List.getElem?_cons_zero, List.getElem?_cons_succ, wrap_id, hn, List.forall_mem_cons]
  refine ⟨?_, ?_, ?_⟩
  · refine HC_of_PC rfl (cloneP_ok d hd) ?_
    simp -implicitDefEqProofs (disch := omega) [List.getElem?_cons_zero, List.getElem?_cons_succ, wrap_id]
    exact kNx [7, 8, 9] [26, 27, 28, 29, 13, 15] rfl rfl rfl
  · exact kNx [7, 10, 8, 9] [27, 28, 29, 13, 14, 15] rfl rfl rfl
  · exact kNx [7, 8, 10, 9] [27, 28, 29, 13, 15, 16] rfl rfl rfl
theorem g96 {K : St → Prop} (hn : n ≤ 1048576) (hd : d.length ≤ 1000000) : GoodC n eds d kx y1 y2 y3 K dC96 (kS96 n eds d kx y1 y2 y3) := by
  unfold GoodC dC96 kS96
  simp -implicitDefEqProofs (disch := omega) [List.getElem?_cons_zero, List.getElem?_cons_succ, wrap_id, hn, List.forall_mem_cons]
  refine ⟨?_, ?_, ?_⟩
  · refine HC_of_PC rfl (cloneP_ok d hd) ?_
    simp -implicitDefEqProofs (disch := omega) [List.getElem?_cons_zero, List.getElem?_cons_succ, wrap_id]
    exact kNx [7, 8, 9] [26, 27, 28, 29, 13, 16] rfl rfl rfl
  · exact kNx [7, 10, 8, 9] [27, 28, 29, 13, 14, 16] rfl rfl rfl
  · exact kNx [7, 10, 8, 9] [27, 28, 29, 13, 15, 16] rfl rfl rfl
theorem g97 {K : St → Prop} (hn : n ≤ 1048576) (hd : d.length ≤ 1000000) : GoodC n eds d kx y1 y2 y3 K dC97 (kS97 n eds d kx y1 y2 y3) := by
  unfold GoodC dC97 kS97
  simp -implicitDefEqProofs (disch := omega) [List.getElem?_cons_zero, List.getElem?_cons_succ, wrap_id, hn, List.forall_mem_cons]
  refine ⟨?_, ?_, ?_⟩
  · refine HC_of_PC rfl (cloneP_ok d hd) ?_
    simp -implicitDefEqProofs (disch := omega) [List.getElem?_cons_zero, List.getElem?_cons_succ, wrap_id]
    exact kNx [7, 8, 9] [26, 27, 28, 29, 14, 15] rfl rfl rfl
  · exact kNx [10, 7, 8, 9] [27, 28, 29, 13, 14, 15] rfl rfl rfl
  · exact kNx [7, 8, 10, 9] [27, 28, 29, 14, 15, 16] rfl rfl rfl
theorem g98 {K : St → Prop} (hn : n ≤ 1048576) (hd : d.length ≤ 1000000) : GoodC n eds d kx y1 y2 y3 K dC98 (kS98 n eds d kx y1 y2 y3) := by
  unfold GoodC dC98 kS98
  simp -implicitDefEqProofs (disch := omega) [List.getElem?_cons_zero, List.getElem?_cons_succ, wrap_id, hn, List.forall_mem_cons]
  refine ⟨?_, ?_, ?_⟩
  · refine HC_of_PC rfl (cloneP_ok d hd) ?_
    simp -implicitDefEqProofs (disch := omega) [List.getElem?_cons_zero, List.getElem?_cons_succ, wrap_id]
    exact kNx [7, 8, 9] [26, 27, 28, 29, 14, 16] rfl rfl rfl
  · exact kNx [10, 7, 8, 9] [27, 28, 29, 13, 14, 16] rfl rfl rfl
  · exact kNx [7, 10, 8, 9] [27, 28, 29, 14, 15, 16] rfl rfl rfl
theorem g99 {K : St → Prop} (hn : n ≤ 1048576) (hd : d.length ≤ 1000000) : GoodC n eds d kx y1 y2 y3 K dC99 (kS99 n eds d kx y1 y2 y3) := by
  unfold GoodC dC99 kS99
  simp -implicitDefEqProofs (disch := omega) [List.getElem?_cons_zero, List.getElem?_cons_succ, wrap_id, hn, List.forall_mem_cons]
  refine ⟨?_, ?_, ?_⟩
  · refine HC_of_PC rfl (cloneP_ok d hd) ?_
    simp -implicitDefEqProofs (disch := omega) [List.getElem?_cons_zero, List.getElem?_cons_succ, wrap_id]
    exact kNx [7, 8, 9] [26, 27, 28, 29, 15, 16] rfl rfl rfl
  · exact kNx [10, 7, 8, 9] [27, 28, 29, 13, 15, 16] rfl rfl rfl
  · exact kNx [10, 7, 8, 9] [27, 28, 29, 14, 15, 16] rfl rfl rfl
theorem g100 {K : St → Prop} (hn : n ≤ 1048576) (hd : d.length ≤ 1000000) : GoodC n eds d kx y1 y2 y3 K dC100 (kS100 n eds d kx y1 y2 y3) := by
  unfold GoodC dC100 kS100
  simp -implicitDefEqProofs (disch := omega) [List.getElem?_cons_zero, List.getElem?_cons_succ, wrap_id, hn, List.forall_mem_cons]
  refine ⟨?_, ?_, ?_⟩
  · refine HC_of_PC rfl (cloneP_ok d hd) ?_
    simp -implicitDefEqProofs (disch := omega) [List.getElem?_cons_zero, List.getElem?_cons_succ, wrap_id]
    exact kNx [7, 8, 9] [26, 27, 28, 13, 14, 15] rfl rfl rfl
  · exact kNx [7, 8, 9, 10] [27, 28, 29, 13, 14, 15] rfl rfl rfl
  · exact kNx [7, 8, 9, 10] [27, 28, 13, 14, 15, 16] rfl rfl rfl
theorem g101 {K : St → Prop} (hn : n ≤ 1048576) (hd : d.length ≤ 1000000) : GoodC n eds d kx y1 y2 y3 K dC101 (kS101 n eds d kx y1 y2 y3) := by
  unfold GoodC dC101 kS101
  simp -implicitDefEqProofs (disch := omega) [List.getElem?_cons_zero, List.getElem?_cons_succ, wrap_id, hn, List.forall_mem_cons]
  refine ⟨?_, ?_, ?_⟩
  · refine HC_of_PC rfl (cloneP_ok d hd) ?_
    simp -implicitDefEqProofs (disch := omega) [List.getElem?_cons_zero, List.getElem?_cons_succ, wrap_id]
    exact kNx [7, 8, 9] [26, 27, 28, 13, 14, 16] rfl rfl rfl
  · exact kNx [7, 8, 9, 10] [27, 28, 29, 13, 14, 16] rfl rfl rfl
  · exact kNx [7, 8, 10, 9] [27, 28, 13, 14, 15, 16] rfl rfl rfl
theorem g102 {K : St → Prop} (hn : n ≤ 1048576) (hd : d.length ≤ 1000000) : GoodC n eds d kx y1 y2 y3 K dC102 (kS102 n eds d kx y1 y2 y3) := by
  unfold GoodC dC102 kS102
  simp -implicitDefEqProofs (disch := omega) [List.getElem?_cons_zero, List.getElem?_cons_succ, wrap_id, hn, List.forall_mem_cons]
  refine ⟨?_, ?_, ?_⟩
  · refine HC_of_PC rfl (cloneP_ok d hd) ?_
    simp -implicitDefEqProofs (disch := omega) [List.getElem?_cons_zero, List.getElem?_cons_succ, wrap_id]
    exact kNx [7, 8, 9] [26, 27, 28, 13, 15, 16] rfl rfl rfl
  · exact kNx [7, 8, 9, 10] [27, 28, 29, 13, 15, 16] rfl rfl rfl
  · exact kNx [7, 10, 8, 9] [27, 28, 13, 14, 15, 16] rfl rfl rfl
theorem g103 {K : St → Prop} (hn : n ≤ 1048576) (hd : d.length ≤ 1000000) : GoodC n eds d kx y1 y2 y3 K dC103 (kS103 n eds d kx y1 y2 y3) := by
  unfold GoodC dC103 kS103
  simp -implicitDefEqProofs (disch := omega) [List.getElem?_cons_zero, List.getElem?_cons_succ, wrap_id, hn, List.forall_mem_cons]
  refine ⟨?_, ?_, ?_⟩
  · refine HC_of_PC rfl (cloneP_ok d hd) ?_
    simp -implicitDefEqProofs (disch := omega) [List.getElem?_cons_zero, List.getElem?_cons_succ, wrap_id]
    exact kNx [7, 8, 9] [26, 27, 28, 14, 15, 16] rfl rfl rfl
  · exact kNx [7, 8, 9, 10] [27, 28, 29, 14, 15, 16] rfl rfl rfl
  · exact kNx [10, 7, 8, 9] [27, 28, 13, 14, 15, 16] rfl rfl rfl
theorem g104 {K : St → Prop} (hn : n ≤ 1048576) (hd : d.length ≤ 1000000) : GoodC n eds d kx y1 y2 y3 K dC104 (kS104 n eds d kx y1 y2 y3) := by
  unfold GoodC dC104 kS104
  simp -implicitDefEqProofs (disch := omega) [List.getElem?_cons_zero, List.getElem?_cons_succ, wrap_id, hn, List.forall_mem_cons]
  refine ⟨?_, ?_⟩
  · refine HC_of_PC rfl (cloneP_ok d hd) ?_
    simp -implicitDefEqProofs (disch := omega) [List.getElem?_cons_zero, List.getElem?_cons_succ, wrap_id]
    exact kNx [7, 8, 9, 10] [26, 27, 13, 14, 15, 16] rfl rfl rfl
  · exact kNx [7, 8, 9, 10] [27, 28, 13, 14, 15, 16] rfl rfl rfl
theorem g105 {K : St → Prop} (hn : n ≤ 1048576) (hd : d.length ≤ 1000000) : GoodC n eds d kx y1 y2 y3 K dC105 (kS105 n eds d kx y1 y2 y3) := by
  unfold GoodC dC105 kS105
  simp -implicitDefEqProofs (disch := omega) [List.getElem?_cons_zero, List.getElem?_cons_succ, wrap_id, hn, List.forall_mem_cons]
  refine ⟨?_, ?_⟩
  · exact kNx [7, 8, 10, 9] [26, 27, 28, 29, 13, 14, 15] rfl rfl rfl
  · exact kNx [7, 8, 10, 9] [26, 27, 28, 29, 13, 14, 16] rfl rfl rfl
theorem g106 {K : St → Prop} (hn : n ≤ 1048576) (hd : d.length ≤ 1000000) : GoodC n eds d kx y1 y2 y3 K dC106 (kS106 n eds d kx y1 y2 y3) := by
  unfold GoodC dC106 kS106
  simp -implicitDefEqProofs (disch := omega) [List.getElem?_cons_zero, List.getElem?_cons_succ, wrap_id, hn, List.forall_mem_cons]
  refine ⟨?_, ?_⟩
  · exact kNx [7, 10, 8, 9] [26, 27, 28, 29, 13, 14, 15] rfl rfl rfl
  · exact kNx [7, 8, 10, 9] [26, 27, 28, 29, 13, 15, 16] rfl rfl rfl
theorem g107 {K : St → Prop} (hn : n ≤ 1048576) (hd : d.length ≤ 1000000) : GoodC n eds d kx y1 y2 y3 K dC107 (kS107 n eds d kx y1 y2 y3) := by
  unfold GoodC dC107 kS107
  simp -implicitDefEqProofs (disch := omega) [List.getElem?_cons_zero, List.getElem?_cons_succ, wrap_id, hn, List.forall_mem_cons]
  refine ⟨?_, ?_⟩
  · exact kNx [7, 10, 8, 9] [26, 27, 28, 29, 13, 14, 16] rfl rfl rfl
  · exact kNx [7, 10, 8, 9] [26, 27, 28, 29, 13, 15, 16] rfl rfl rfl
theorem g108 {K : St → Prop} (hn : n ≤ 1048576) (hd : d.length ≤ 1000000) : GoodC n eds d kx y1 y2 y3 K dC108 (kS108 n eds d kx y1 y2 y3) := by
  unfold GoodC dC108 kS108
  simp -implicitDefEqProofs (disch := omega) [List.getElem?_cons_zero, List.getElem?_cons_succ, wrap_id, hn, List.forall_mem_cons]
  refine ⟨?_, ?_⟩
  · exact kNx [10, 7, 8, 9] [26, 27, 28, 29, 13, 14, 15] rfl rfl rfl
  · exact kNx [7, 8, 10, 9] [26, 27, 28, 29, 14, 15, 16] rfl rfl rfl
theorem g109 {K : St → Prop} (hn : n ≤ 1048576) (hd : d.length ≤ 1000000) : GoodC n eds d kx y1 y2 y3 K dC109 (kS109 n eds d kx y1 y2 y3) := by
  unfold GoodC dC109 kS109
  simp -implicitDefEqProofs (disch := omega) [List.getElem?_cons_zero, List.getElem?_cons_succ, wrap_id, hn, List.forall_mem_cons]
  refine ⟨?_, ?_⟩
  · exact kNx [10, 7, 8, 9] [26, 27, 28, 29, 13, 14, 16] rfl rfl rfl
  · exact kNx [7, 10, 8, 9] [26, 27, 28, 29, 14, 15, 16] rfl rfl rfl
theorem g110 {K : St → Prop} (hn : n ≤ 1048576) (hd : d.length ≤ 1000000) : GoodC n eds d kx y1 y2 y3 K dC110 (kS110 n eds d kx y1 y2 y3) := by
  unfold GoodC dC110 kS110
  simp -implicitDefEqProofs (disch := omega) [List.getElem?_cons_zero, List.getElem?_cons_succ, wrap_id, hn, List.forall_mem_cons]
  refine ⟨?_, ?_⟩
  · exact kNx [10, 7, 8, 9] [26, 27, 28, 29, 13, 15, 16] rfl rfl rfl
  · exact kNx [10, 7, 8, 9] [26, 27, 28, 29, 14, 15, 16] rfl rfl rfl
theorem g111 {K : St → Prop} (hn : n ≤ 1048576) (hd : d.length ≤ 1000000) : GoodC n eds d kx y1 y2 y3 K dC111 (kS111 n eds d kx y1 y2 y3) := by
  unfold GoodC dC111 kS111
  simp -implicitDefEqProofs (disch := omega) [List.getElem?_cons_zero, List.getElem?_cons_succ, wrap_id, hn, List.forall_mem_cons]
  refine ⟨?_, ?_⟩
  · exact kNx [7, 8, 9, 10] [26, 27, 28, 29, 13, 14, 15] rfl rfl rfl
  · exact kNx [7, 8, 9, 10] [26, 27, 28, 13, 14, 15, 16] rfl rfl rfl
theorem g112 {K : St → Prop} (hn : n ≤ 1048576) (hd : d.length ≤ 1000000) : GoodC n eds d kx y1 y2 y3 K dC112 (kS112 n eds d kx y1 y2 y3) := by
  unfold GoodC dC112 kS112
  simp -implicitDefEqProofs (disch := omega) [List.getElem?_cons_zero, List.getElem?_cons_succ, wrap_id, hn, List.forall_mem_cons]
  refine ⟨?_, ?_⟩
  · exact kNx [7, 8, 9, 10] [26, 27, 28, 29, 13, 14, 16] rfl rfl rfl
  · exact kNx [7, 8, 10, 9] [26, 27, 28, 13, 14, 15, 16] rfl rfl rfl
theorem g113 {K : St → Prop} (hn : n ≤ 1048576) (hd : d.length ≤ 1000000) : GoodC n eds d kx y1 y2 y3 K dC113 (kS113 n eds d kx y1 y2 y3) := by
  unfold GoodC dC113 kS113
  simp -implicitDefEqProofs (disch := omega) [List.getElem?_cons_zero, List.getElem?_cons_succ, wrap_id, hn, List.forall_mem_cons]
  refine ⟨?_, ?_⟩
  · exact kNx [7, 8, 9, 10] [26, 27, 28, 29, 13, 15, 16] rfl rfl rfl
  · exact kNx [7, 10, 8, 9] [26, 27, 28, 13, 14, 15, 16] rfl rfl rfl
theorem g114 {K : St → Prop} (hn : n ≤ 1048576) (hd : d.length ≤ 1000000) : GoodC n eds d kx y1 y2 y3 K dC114 (kS114 n eds d kx y1 y2 y3) := by
  unfold GoodC dC114 kS114
  simp -implicitDefEqProofs (disch := omega) [List.getElem?_cons_zero, List.getElem?_cons_succ, wrap_id, hn, List.forall_mem_cons]
  refine ⟨?_, ?_⟩
  · exact kNx [7, 8, 9, 10] [26, 27, 28, 29, 14, 15, 16] rfl rfl rfl
  · exact kNx [10, 7, 8, 9] [26, 27, 28, 13, 14, 15, 16] rfl rfl rfl
theorem g115 {K : St → Prop} (hn : n ≤ 1048576) (hd : d.length ≤ 1000000) : GoodC n eds d kx y1 y2 y3 K dC115 (kS115 n eds d kx y1 y2 y3) := by
  unfold GoodC dC115 kS115
  simp -implicitDefEqProofs (disch := omega) [List.getElem?_cons_zero, List.getElem?_cons_succ, wrap_id, hn, List.forall_mem_cons]
  refine ⟨?_, ?_⟩
  · exact kNx [7, 8, 9, 10] [26, 27, 28, 13, 14, 15, 16] rfl rfl rfl
  · exact kNx [7, 8, 9, 10] [26, 27, 13, 14, 15, 16] rfl rfl rfl
theorem g116 {K : St → Prop} (hn : n ≤ 1048576) (hd : d.length ≤ 1000000) : GoodC n eds d kx y1 y2 y3 K dC116 (kS116 n eds d kx y1 y2 y3) := by
  unfold GoodC dC116 kS116
  simp -implicitDefEqProofs (disch := omega) [List.getElem?_cons_zero, List.getElem?_cons_succ, wrap_id, hn, List.forall_mem_cons]
  exact kNx [7, 8, 9, 10, 11] [26, 27, 28, 29, 13, 14, 15, 16] rfl rfl rfl
theorem g117 {K : St → Prop} (hn : n ≤ 1048576) (hd : d.length ≤ 1000000) : GoodC n eds d kx y1 y2 y3 K dC117 (kS117 n eds d kx y1 y2 y3) := by
  unfold GoodC dC117 kS117
  simp -implicitDefEqProofs (disch := omega) [List.getElem?_cons_zero, List.getElem?_cons_succ, wrap_id, hn, List.forall_mem_cons]
  refine ⟨?_, ?_⟩
  · refine HC_of_PC rfl (cloneP_ok d hd) ?_
    simp -implicitDefEqProofs (disch := omega) [List.getElem?_cons_zero, List.getElem?_cons_succ, wrap_id]
    exact kNx [7, 8, 9, 10] [26, 27, 28, 29, 13, 14, 15] rfl rfl rfl
  · exact kNx [7, 8, 9, 11, 10] [27, 28, 29, 13, 14, 15, 16] rfl rfl rfl
theorem g118 {K : St → Prop} (hn : n ≤ 1048576) (hd : d.length ≤ 1000000) : GoodC n eds d kx y1 y2 y3 K dC118 (kS118 n eds d kx y1 y2 y3) := by
  unfold GoodC dC118 kS118
  simp -implicitDefEqProofs (disch := omega) [List.getElem?_cons_zero, List.getElem?_cons_succ, wrap_id, hn, List.forall_mem_cons]
  refine ⟨?_, ?_⟩
  · refine HC_of_PC rfl (cloneP_ok d hd) ?_
    simp -implicitDefEqProofs (disch := omega) [List.getElem?_cons_zero, List.getElem?_cons_succ, wrap_id]
    exact kNx [7, 8, 9, 10] [26, 27, 28, 29, 13, 14, 16] rfl rfl rfl
  · exact kNx [7, 8, 11, 9, 10] [27, 28, 29, 13, 14, 15, 16] rfl rfl rfl
theorem g119 {K : St → Prop} (hn : n ≤ 1048576) (hd : d.length ≤ 1000000) : GoodC n eds d kx y1 y2 y3 K dC119 (kS119 n eds d kx y1 y2 y3) := by
  unfold GoodC dC119 kS119
  simp -implicitDefEqProofs (disch := omega) [List.getElem?_cons_zero, List.getElem?_cons_succ, wrap_id, hn, List.forall_mem_cons]
  refine ⟨?_, ?_⟩
  · refine HC_of_PC rfl (cloneP_ok d hd) ?_
    simp -implicitDefEqProofs (disch := omega) [List.getElem?_cons_zero, List.getElem?_cons_succ, wrap_id]
    exact kNx [7, 8, 9, 10] [26, 27, 28, 29, 13, 15, 16] rfl rfl rfl
  · exact kNx [7, 11, 8, 9, 10] [27, 28, 29, 13, 14, 15, 16] rfl rfl rfl
theorem g120 {K : St → Prop} (hn : n ≤ 1048576) (hd : d.length ≤ 1000000) : GoodC n eds d kx y1 y2 y3 K dC120 (kS120 n eds d kx y1 y2 y3) := by
  unfold GoodC dC120 kS120
  simp -implicitDefEqProofs (disch := omega) [List.getElem?_cons_zero, List.getElem?_cons_succ, wrap_id, hn, List.forall_mem_cons]
  refine ⟨?_, ?_⟩
  · refine HC_of_PC rfl (cloneP_ok d hd) ?_
    simp -implicitDefEqProofs (disch := omega) [List.getElem?_cons_zero, List.getElem?_cons_succ, wrap_id]
    exact kNx [7, 8, 9, 10] [26, 27, 28, 29, 14, 15, 16] rfl rfl rfl
  · exact kNx [11, 7, 8, 9, 10] [27, 28, 29, 13, 14, 15, 16] rfl rfl rfl
theorem g121 {K : St → Prop} (hn : n ≤ 1048576) (hd : d.length ≤ 1000000) : GoodC n eds d kx y1 y2 y3 K dC121 (kS121 n eds d kx y1 y2 y3) := by
  unfold GoodC dC121 kS121
  simp -implicitDefEqProofs (disch := omega) [List.getElem?_cons_zero, List.getElem?_cons_succ, wrap_id, hn, List.forall_mem_cons]
  refine ⟨?_, ?_⟩
  · refine HC_of_PC rfl (cloneP_ok d hd) ?_
    simp -implicitDefEqProofs (disch := omega) [List.getElem?_cons_zero, List.getElem?_cons_succ, wrap_id]
    exact kNx [7, 8, 9, 10] [26, 27, 28, 13, 14, 15, 16] rfl rfl rfl
  · exact kNx [7, 8, 9, 10, 11] [27, 28, 29, 13, 14, 15, 16] rfl rfl rfl
theorem g122 {K : St → Prop} (hn : n ≤ 1048576) (hd : d.length ≤ 1000000) : GoodC n eds d kx y1 y2 y3 K dC122 (kS122 n eds d kx y1 y2 y3) := by
  unfold GoodC dC122 kS122
  simp -implicitDefEqProofs (disch := omega) [List.getElem?_cons_zero, List.getElem?_cons_succ, wrap_id, hn, List.forall_mem_cons]
  exact kNx [7, 8, 9, 11, 10] [26, 27, 28, 29, 13, 14, 15, 16] rfl rfl rfl
theorem g123 {K : St → Prop} (hn : n ≤ 1048576) (hd : d.length ≤ 1000000) : GoodC n eds d kx y1 y2 y3 K dC123 (kS123 n eds d kx y1 y2 y3) := by
  unfold GoodC dC123 kS123
  simp -implicitDefEqProofs (disch := omega) [List.getElem?_cons_zero, List.getElem?_cons_succ, wrap_id, hn, List.forall_mem_cons]
  exact kNx [7, 8, 11, 9, 10] [26, 27, 28, 29, 13, 14, 15, 16] rfl rfl rfl
theorem g124 {K : St → Prop} (hn : n ≤ 1048576) (hd : d.length ≤ 1000000) : GoodC n eds d kx y1 y2 y3 K dC124 (kS124 n eds d kx y1 y2 y3) := by
  unfold GoodC dC124 kS124
  simp -implicitDefEqProofs (disch := omega) [List.getElem?_cons_zero, List.getElem?_cons_succ, wrap_id, hn, List.forall_mem_cons]
  exact kNx [7, 11, 8, 9, 10] [26, 27, 28, 29, 13, 14, 15, 16] rfl rfl rfl
theorem g125 {K : St → Prop} (hn : n ≤ 1048576) (hd : d.length ≤ 1000000) : GoodC n eds d kx y1 y2 y3 K dC125 (kS125 n eds d kx y1 y2 y3) := by
  unfold GoodC dC125 kS125
  simp -implicitDefEqProofs (disch := omega) [List.getElem?_cons_zero, List.getElem?_cons_succ, wrap_id, hn, List.forall_mem_cons]
  exact kNx [11, 7, 8, 9, 10] [26, 27, 28, 29, 13, 14, 15, 16] rfl rfl rfl
theorem g126 {K : St → Prop} (hn : n ≤ 1048576) (hd : d.length ≤ 1000000) : GoodC n eds d kx y1 y2 y3 K dC126 (kS126 n eds d kx y1 y2 y3) := by
  unfold GoodC dC126 kS126
  simp -implicitDefEqProofs (disch := omega) [List.getElem?_cons_zero, List.getElem?_cons_succ, wrap_id, hn, List.forall_mem_cons]
  refine ⟨?_, ?_⟩
  · exact kNx [7, 8, 9, 10, 11] [26, 27, 28, 29, 13, 14, 15, 16] rfl rfl rfl
  · exact kNx [7, 8, 9, 10] [26, 27, 28, 13, 14, 15, 16] rfl rfl rfl
theorem g127 {K : St → Prop} (hn : n ≤ 1048576) (hd : d.length ≤ 1000000) : GoodC n eds d kx y1 y2 y3 K dC127 (kS127 n eds d kx y1 y2 y3) := by
  unfold GoodC dC127 kS127
  simp -implicitDefEqProofs (disch := omega) [List.getElem?_cons_zero, List.getElem?_cons_succ, wrap_id, hn, List.forall_mem_cons]
  exact kNx [7, 8, 9, 10, 11] [26, 27, 28, 29, 13, 14, 15, 16] rfl rfl rfl
theorem g128 {K : St → Prop} (hn : n ≤ 1048576) (hd : d.length ≤ 1000000) : GoodC n eds d kx y1 y2 y3 K dC128 (kS128 n eds d kx y1 y2 y3) := by
  unfold GoodC dC128 kS128
  simp -implicitDefEqProofs (disch := omega) [List.getElem?_cons_zero, List.getElem?_cons_succ, wrap_id, hn, List.forall_mem_cons]
  exact kNx [7, 8, 9, 10, 11] [26, 27, 28, 29, 13, 14, 15, 16] rfl rfl rfl
theorem g129 {K : St → Prop} (hn : n ≤ 1048576) (hd : d.length ≤ 1000000) : GoodC n eds d kx y1 y2 y3 K dC129 (kS129 n eds d kx y1 y2 y3) := by
  unfold GoodC dC129 kS129
  simp -implicitDefEqProofs (disch := omega) [List.getElem?_cons_zero, List.getElem?_cons_succ, wrap_id, hn, List.forall_mem_cons]
  refine HC_of_PC rfl (cloneP_ok d hd) ?_
  simp -implicitDefEqProofs (disch := omega) [List.getElem?_cons_zero, List.getElem?_cons_succ, wrap_id]
  exact kNx [7, 8, 9, 10, 11] [26, 27, 28, 29, 13, 14, 15, 16] rfl rfl rfl
theorem g130 {K : St → Prop} (hn : n ≤ 1048576) (hd : d.length ≤ 1000000) : GoodC n eds d kx y1 y2 y3 K dC130 (kS130 n eds d kx y1 y2 y3) := by
  unfold GoodC dC130 kS130
  simp -implicitDefEqProofs (disch := omega) [List.getElem?_cons_zero, List.getElem?_cons_succ, wrap_id, hn, List.forall_mem_cons]
  exact kNx [7, 8, 9, 10, 11] [26, 27, 28, 29, 13, 14, 15, 16] rfl rfl rfl
theorem g131 {K : St → Prop} (hn : n ≤ 1048576) (hd : d.length ≤ 1000000) : GoodC n eds d kx y1 y2 y3 K dC131 (kS131 n eds d kx y1 y2 y3) := by
  unfold GoodC dC131 kS131
  simp -implicitDefEqProofs (disch := omega) [List.getElem?_cons_zero, List.getElem?_cons_succ, wrap_id, hn, List.forall_mem_cons]
  exact kNx [7, 8, 9, 10, 11] [26, 27, 28, 29, 13, 14, 15, 16] rfl rfl rfl
theorem g132 {K : St → Prop} (hn : n ≤ 1048576) (hd : d.length ≤ 1000000) : GoodC n eds d kx y1 y2 y3 K dC132 (kS132 n eds d kx y1 y2 y3) := by
  unfold GoodC dC132 kS132
  simp -implicitDefEqProofs (disch := omega) [List.getElem?_cons_zero, List.getElem?_cons_succ, wrap_id, hn, List.forall_mem_cons]
  exact kNx [7, 8, 9, 10, 11] [26, 27, 28, 29, 13, 14, 15, 16] rfl rfl rfl
theorem g133 {K : St → Prop} (hn : n ≤ 1048576) (hd : d.length ≤ 1000000) : GoodC n eds d kx y1 y2 y3 K dC133 (kS133 n eds d kx y1 y2 y3) := by
  unfold GoodC dC133 kS133
  simp -implicitDefEqProofs (disch := omega) [List.getElem?_cons_zero, List.getElem?_cons_succ, wrap_id, hn, List.forall_mem_cons]
  exact kNx [7, 8, 9, 10, 11] [26, 27, 28, 29, 13, 14, 15, 16] rfl rfl rfl
theorem g134 {K : St → Prop} (hK : K (kS134 n eds d kx y1 y2 y3)) : GoodC n eds d kx y1 y2 y3 K dC134 (kS134 n eds d kx y1 y2 y3) := ⟨fun _ => hK, fun x hx => by cases hx⟩
theorem playedD_eq : playedD = [dC0, dC1, dC2, dC3, dC4, dC5, dC6, dC7, dC8, dC9, dC10, dC11, dC12, dC13, dC14, dC15, dC16, dC17, dC18, dC19, dC20, dC21, dC22, dC23, dC24, dC25, dC26, dC27, dC28, dC29, dC30, dC31, dC32, dC33, dC34, dC35, dC36, dC37, dC38, dC39, dC40, dC41, dC42, dC43, dC44, dC45, dC46, dC47, dC48, dC49, dC50, dC51, dC52, dC53, dC54, dC55, dC56, dC57, dC58, dC59, dC60, dC61, dC62, dC63, dC64, dC65, dC66, dC67, dC68, dC69, dC70, dC71, dC72, dC73, dC74, dC75, dC76, dC77, dC78, dC79, dC80, dC81, dC82, dC83, dC84, dC85, dC86, dC87, dC88, dC89, dC90, dC91, dC92, dC93, dC94, dC95, dC96, dC97, dC98, dC99, dC100, dC101, dC102, dC103, dC104, dC105, dC106, dC107, dC108, dC109, dC110, dC111, dC112, dC113, dC114, dC115, dC116, dC117, dC118, dC119, dC120, dC121, dC122, dC123, dC124, dC125, dC126, dC127, dC128, dC129, dC130, dC131, dC132, dC133, dC134] := by kernel_rfl
theorem played_dag {Q : AExit → St → Prop} (hn : n ≤ 1048576) (hd : d.length ≤ 1000000) (hQ : Q .normal (kS134 n eds d kx y1 y2 y3)) : W Try.prog 0 (.dag playedD) Q (kS0 n eds d kx y1 y2 y3) := by
  have hz : ∀ p ∈ List.zip [dC0, dC1, dC2, dC3, dC4, dC5, dC6, dC7, dC8, dC9, dC10, dC11, dC12, dC13, dC14, dC15, dC16, dC17, dC18, dC19, dC20, dC21, dC22, dC23, dC24, dC25, dC26, dC27, dC28, dC29, dC30, dC31, dC32, dC33, dC34, dC35, dC36, dC37, dC38, dC39, dC40, dC41, dC42, dC43, dC44, dC45, dC46, dC47, dC48, dC49, dC50, dC51, dC52, dC53, dC54, dC55, dC56, dC57, dC58, dC59, dC60, dC61, dC62, dC63, dC64, dC65, dC66, dC67, dC68, dC69, dC70, dC71, dC72, dC73, dC74, dC75, dC76, dC77, dC78, dC79, dC80, dC81, dC82, dC83, dC84, dC85, dC86, dC87, dC88, dC89, dC90, dC91, dC92, dC93, dC94, dC95, dC96, dC97, dC98, dC99, dC100, dC101, dC102, dC103, dC104, dC105, dC106, dC107, dC108, dC109, dC110, dC111, dC112, dC113, dC114, dC115, dC116, dC117, dC118, dC119, dC120, dC121, dC122, dC123, dC124, dC125, dC126, dC127, dC128, dC129, dC130, dC131, dC132, dC133, dC134] (knL n eds d kx y1 y2 y3), GoodC n eds d kx y1 y2 y3 (Q .normal) p.1 p.2 := by
    unfold knL
    simp only [List.zip_cons_cons, List.zip_nil_left, List.forall_mem_cons]
    exact ⟨g0 n eds d kx y1 y2 y3 hn hd, g1 n eds d kx y1 y2 y3 hn hd, g2 n eds d kx y1 y2 y3 hn hd, g3 n eds d kx y1 y2 y3 hn hd, g4 n eds d kx y1 y2 y3 hn hd, g5 n eds d kx y1 y2 y3 hn hd, g6 n eds d kx y1 y2 y3 hn hd, g7 n eds d kx y1 y2 y3 hn hd, g8 n eds d kx y1 y2 y3 hn hd, g9 n eds d kx y1 y2 y3 hn hd, g10 n eds d kx y1 y2 y3 hn hd, g11 n eds d kx y1 y2 y3 hn hd, g12 n eds d kx y1 y2 y3 hn hd, g13 n eds d kx y1 y2 y3 hn hd, g14 n eds d kx y1 y2 y3 hn hd, g15 n eds d kx y1 y2 y3 hn hd, g16 n eds d kx y1 y2 y3 hn hd, g17 n eds d kx y1 y2 y3 hn hd, g18 n eds d kx y1 y2 y3 hn hd, g19 n eds d kx y1 y2 y3 hn hd, g20 n eds d kx y1 y2 y3 hn hd, g21 n eds d kx y1 y2 y3 hn hd, g22 n eds d kx y1 y2 y3 hn hd, g23 n eds d kx y1 y2 y3 hn hd, g24 n eds d kx y1 y2 y3 hn hd, g25 n eds d kx y1 y2 y3 hn hd, g26 n eds d kx y1 y2 y3 hn hd, g27 n eds d kx y1 y2 y3 hn hd, g28 n eds d kx y1 y2 y3 hn hd, g29 n eds d kx y1 y2 y3 hn hd, g30 n eds d kx y1 y2 y3 hn hd, g31 n eds d kx y1 y2 y3 hn hd, g32 n eds d kx y1 y2 y3 hn hd, g33 n eds d kx y1 y2 y3 hn hd, g34 n eds d kx y1 y2 y3 hn hd, g35 n eds d kx y1 y2 y3 hn hd, g36 n eds d kx y1 y2 y3 hn hd, g37 n eds d kx y1 y2 y3 hn hd, g38 n eds d kx y1 y2 y3 hn hd, g39 n eds d kx y1 y2 y3 hn hd, g40 n eds d kx y1 y2 y3 hn hd, g41 n eds d kx y1 y2 y3 hn hd, g42 n eds d kx y1 y2 y3 hn hd, g43 n eds d kx y1 y2 y3 hn hd, g44 n eds d kx y1 y2 y3 hn hd, g45 n eds d kx y1 y2 y3 hn hd, g46 n eds d kx y1 y2 y3 hn hd, g47 n eds d kx y1 y2 y3 hn hd, g48 n eds d kx y1 y2 y3 hn hd, g49 n eds d kx y1 y2 y3 hn hd, g50 n eds d kx y1 y2 y3 hn hd, g51 n eds d kx y1 y2 y3 hn hd, g52 n eds d kx y1 y2 y3 hn hd, g53 n eds d kx y1 y2 y3 hn hd, g54 n eds d kx y1 y2 y3 hn hd, g55 n eds d kx y1 y2 y3 hn hd, g56 n eds d kx y1 y2 y3 hn hd, g57 n eds d kx y1 y2 y3 hn hd, g58 n eds d kx y1 y2 y3 hn hd, g59 n eds d kx y1 y2 y3 hn hd, g60 n eds d kx y1 y2 y3 hn hd, g61 n eds d kx y1 y2 y3 hn hd, g62 n eds d kx y1 y2 y3 hn hd, g63 n eds d kx y1 y2 y3 hn hd, g64 n eds d kx y1 y2 y3 hn hd, g65 n eds d kx y1 y2 y3 hn hd, g66 n eds d kx y1 y2 y3 hn hd, g67 n eds d kx y1 y2 y3 hn hd, g68 n eds d kx y1 y2 y3 hn hd, g69 n eds d kx y1 y2 y3 hn hd, g70 n eds d kx y1 y2 y3 hn hd, g71 n eds d kx y1 y2 y3 hn hd, g72 n eds d kx y1 y2 y3 hn hd, g73 n eds d kx y1 y2 y3 hn hd, g74 n eds d kx y1 y2 y3 hn hd, g75 n eds d kx y1 y2 y3 hn hd, g76 n eds d kx y1 y2 y3 hn hd, g77 n eds d kx y1 y2 y3 hn hd, g78 n eds d kx y1 y2 y3 hn hd, g79 n eds d kx y1 y2 y3 hn hd, g80 n eds d kx y1 y2 y3 hn hd, g81 n eds d kx y1 y2 y3 hn hd, g82 n eds d kx y1 y2 y3 hn hd, g83 n eds d kx y1 y2 y3 hn hd, g84 n eds d kx y1 y2 y3 hn hd, g85 n eds d kx y1 y2 y3 hn hd, g86 n eds d kx y1 y2 y3 hn hd, g87 n eds d kx y1 y2 y3 hn hd, g88 n eds d kx y1 y2 y3 hn hd, g89 n eds d kx y1 y2 y3 hn hd, g90 n eds d kx y1 y2 y3 hn hd, g91 n eds d kx y1 y2 y3 hn hd, g92 n eds d kx y1 y2 y3 hn hd, g93 n eds d kx y1 y2 y3 hn hd, g94 n eds d kx y1 y2 y3 hn hd, g95 n eds d kx y1 y2 y3 hn hd, g96 n eds d kx y1 y2 y3 hn hd, g97 n eds d kx y1 y2 y3 hn hd, g98 n eds d kx y1 y2 y3 hn hd, g99 n eds d kx y1 y2 y3 hn hd, g100 n eds d kx y1 y2 y3 hn hd, g101 n eds d kx y1 y2 y3 hn hd, g102 n eds d kx y1 y2 y3 hn hd, g103 n eds d kx y1 y2 y3 hn hd, g104 n eds d kx y1 y2 y3 hn hd, g105 n eds d kx y1 y2 y3 hn hd, g106 n eds d kx y1 y2 y3 hn hd, g107 n eds d kx y1 y2 y3 hn hd, g108 n eds d kx y1 y2 y3 hn hd, g109 n eds d kx y1 y2 y3 hn hd, g110 n eds d kx y1 y2 y3 hn hd, g111 n eds d kx y1 y2 y3 hn hd, g112 n eds d kx y1 y2 y3 hn hd, g113 n eds d kx y1 y2 y3 hn hd, g114 n eds d kx y1 y2 y3 hn hd, g115 n eds d kx y1 y2 y3 hn hd, g116 n eds d kx y1 y2 y3 hn hd, g117 n eds d kx y1 y2 y3 hn hd, g118 n eds d kx y1 y2 y3 hn hd, g119 n eds d kx y1 y2 y3 hn hd, g120 n eds d kx y1 y2 y3 hn hd, g121 n eds d kx y1 y2 y3 hn hd, g122 n eds d kx y1 y2 y3 hn hd, g123 n eds d kx y1 y2 y3 hn hd, g124 n eds d kx y1 y2 y3 hn hd, g125 n eds d kx y1 y2 y3 hn hd, g126 n eds d kx y1 y2 y3 hn hd, g127 n eds d kx y1 y2 y3 hn hd, g128 n eds d kx y1 y2 y3 hn hd, g129 n eds d kx y1 y2 y3 hn hd, g130 n eds d kx y1 y2 y3 hn hd, g131 n eds d kx y1 y2 y3 hn hd, g132 n eds d kx y1 y2 y3 hn hd, g133 n eds d kx y1 y2 y3 hn hd, g134 n eds d kx y1 y2 y3 hQ, fun x hx => by cases hx⟩
  refine ⟨fun i s => (knL n eds d kx y1 y2 y3)[i]? = some s, ⟨_, Wk.refl _ _, rfl⟩, fun i c hc s hs => ?_⟩
  rw [playedD_eq] at hc
  exact hz (c, s) (List.mem_iff_getElem?.2 ⟨i, by rw [List.getElem?_zip_eq_some]; exact ⟨hc, hs⟩⟩)
end
end Go.Proofs.Ytamiekhoaggpkaa
end
