/-
  Texts joined: Dj.
-/
import Derived.Test.YtojamfbdlfgedaaKg17

section
set_option linter.unusedSimpArgs false
set_option linter.unusedVariables false
namespace Go.Proofs.Ytojamfbdlfgedaa
open Go.Abs Go.Sand
attribute [local simp] ap_0 ap_i
def dagOf40 : AC → Option (List ADN)
  | .dag t => some t
  | .seq a b => match dagOf40 a with
    | some t => some t
    | none => dagOf40 b
  | .block _ a => dagOf40 a
  | .loop a => dagOf40 a
  | _ => none
/-- The graph of cuts in a round of grow. -/
noncomputable def grD : List ADN := (dagOf40 c36.body).getD []
/-- What stands ahead of the graph of cuts, and behind it. -/
abbrev grB (fb nz : Nat) (y : AV) (e : Int) : List (Nat × AV) := [(11, .i e), (9, .ptr fb 1 0 0), (0, y), (3, .ptr 4 1 0 0), (4, .ptr 8 1 0 0), (5, .ptr 5 1 0 0), (6, .ptr 9 1 0 0), (12, .ptr (nz + 10) 1 0 0)]
@[simp] abbrev grO38 : AOper := AOper.mk (some 38) (.load false 1 (.tmp 5)) none
@[simp] abbrev grO39 : AOper := AOper.mk (some 39) (.mov (.tmp 11)) none
@[simp] abbrev grO40 : AOper := AOper.mk (some 40) (.iadr 2 (.tmp 38) (.tmp 39)) none
@[simp] abbrev grO41 : AOper := AOper.mk (some 41) (.load true 2 (.tmp 40)) none
@[simp] abbrev grO42 : AOper := AOper.mk (some 42) (.call 34 [.tmp 12, .tmp 41]) none
@[simp] abbrev grO43 : AOper := AOper.mk (some 43) (.mov (.tmp 42)) none
@[simp] abbrev grO44 : AOper := AOper.mk (some 44) (.load false 1 (.tmp 6)) (some (43, true))
@[simp] abbrev grO45 : AOper := AOper.mk (some 45) (.mov (.tmp 0)) (some (43, true))
@[simp] abbrev grO46 : AOper := AOper.mk (some 46) (.mov (.tmp 11)) (some (43, true))
@[simp] abbrev grO47 : AOper := AOper.mk (some 47) (.bsl 3 1 [.tmp 46]) (some (43, true))
@[simp] abbrev grO48 : AOper := AOper.mk (some 48) (.app 3 1 (.tmp 45) (.tmp 47)) (some (43, true))
@[simp] abbrev grO49 : AOper := AOper.mk (some 49) (.mov (.tmp 11)) (some (43, true))
@[simp] abbrev grO50 : AOper := AOper.mk (some 50) (.bin false .add (.tmp 49) (.const (.int .i64 1))) (some (43, true))
@[simp] abbrev grO51 : AOper := AOper.mk (some 51) (.load true 12 (.tmp 12)) (some (43, true))
@[simp] abbrev grO52 : AOper := AOper.mk (some 52) (.callv (.tmp 44) [.tmp 48, .tmp 50, .tmp 51]) (some (43, true))
@[simp] abbrev grO53 : AOper := AOper.mk (some 53) (.un .not (.tmp 52)) (some (43, true))
@[simp] abbrev grO54 : AOper := AOper.mk (some 54) (.pick (.tmp 43) (.tmp 53) (.const (.bool false))) none
def grD0 : ADN := .mk [grO38, grO39, grO40, grO41] [(false, grO42, 1)]
def grD1 : ADN := .mk [grO43, grO45, grO46, grO49] [(true, grO44, 2), (true, grO47, 3), (true, grO50, 4), (true, grO51, 5)]
def grD2 : ADN := .mk [] [(true, grO47, 6), (true, grO50, 7), (true, grO51, 8)]
def grD3 : ADN := .mk [] [(true, grO44, 6), (false, grO48, 9), (true, grO50, 10), (true, grO51, 11)]
def grD4 : ADN := .mk [] [(true, grO44, 7), (true, grO47, 10), (true, grO51, 12)]
def grD5 : ADN := .mk [] [(true, grO44, 8), (true, grO47, 11), (true, grO50, 12)]
def grD6 : ADN := .mk [] [(false, grO48, 13), (true, grO50, 14), (true, grO51, 15)]
def grD7 : ADN := .mk [] [(true, grO47, 14), (true, grO51, 16)]
def grD8 : ADN := .mk [] [(true, grO47, 15), (true, grO50, 16)]
def grD9 : ADN := .mk [grO44, grO50, grO51] [(false, grO52, 17)]
def grD10 : ADN := .mk [] [(true, grO44, 14), (false, grO48, 18), (true, grO51, 19)]
def grD11 : ADN := .mk [] [(true, grO44, 15), (false, grO48, 20), (true, grO50, 19)]
def grD12 : ADN := .mk [] [(true, grO44, 16), (true, grO47, 19)]
def grD13 : ADN := .mk [grO50, grO51] [(false, grO52, 17)]
def grD14 : ADN := .mk [] [(false, grO48, 21), (true, grO51, 22)]
def grD15 : ADN := .mk [] [(false, grO48, 23), (true, grO50, 22)]
def grD16 : ADN := .mk [] [(true, grO47, 22)]
def grD17 : ADN := .mk [grO53, grO54] []
def grD18 : ADN := .mk [grO44, grO51] [(false, grO52, 17)]
def grD19 : ADN := .mk [] [(true, grO44, 22), (false, grO48, 24)]
def grD20 : ADN := .mk [grO44, grO50] [(false, grO52, 17)]
def grD21 : ADN := .mk [grO51] [(false, grO52, 17)]
def grD22 : ADN := .mk [] [(false, grO48, 25)]
def grD23 : ADN := .mk [grO50] [(false, grO52, 17)]
def grD24 : ADN := .mk [grO44] [(false, grO52, 17)]
def grD25 : ADN := .mk [] [(false, grO52, 17)]
theorem grD_eq : grD = [grD0, grD1, grD2, grD3, grD4, grD5, grD6, grD7, grD8, grD9, grD10, grD11, grD12, grD13, grD14, grD15, grD16, grD17, grD18, grD19, grD20, grD21, grD22, grD23, grD24, grD25] := by kernel_rfl
section
variable (n : Nat) (es : List Ed) (L : List (Int × Int)) (lp : AO) (T : List AV) (fb nz : Nat) (y : AV) (xs : List Int) (e : Int) (F2 : List Int) (m0 : Nat) (Zb Z0 : List AO) (cnt : Nat)
def grS1 (ZJ : List AO) (y2 : AV) (Z2 : List AO) : St := ⟨[(42, .b true)] ++ grB fb nz y e, trA n es L lp T ++ ZJ⟩
def grS2 (ZJ : List AO) (y2 : AV) (Z2 : List AO) : St := ⟨[(43, .b true), (45, y), (46, .i e), (49, .i e), (44, .fn (.func 36) [] [.ptr 4 1 0 0, .ptr 8 1 0 0, .ptr 5 1 0 0, .ptr 9 1 0 0])] ++ grB fb nz y e, trA n es L lp T ++ ZJ⟩
def grS3 (ZJ : List AO) (y2 : AV) (Z2 : List AO) : St := ⟨[(43, .b true), (45, y), (46, .i e), (49, .i e), (47, .os (ZJ.length + 10) 0 1)] ++ grB fb nz y e, trA n es L lp T ++ (ZJ ++ [.row [PV.i e] 1 3 false])⟩
def grS4 (ZJ : List AO) (y2 : AV) (Z2 : List AO) : St := ⟨[(43, .b true), (45, y), (46, .i e), (49, .i e), (50, .i (e + 1))] ++ grB fb nz y e, trA n es L lp T ++ ZJ⟩
def grS5 (ZJ : List AO) (y2 : AV) (Z2 : List AO) : St := ⟨[(43, .b true), (45, y), (46, .i e), (49, .i e), (51, .p (.agg (F2.map PV.i)))] ++ grB fb nz y e, trA n es L lp T ++ ZJ⟩
def grS6 (ZJ : List AO) (y2 : AV) (Z2 : List AO) : St := ⟨[(43, .b true), (45, y), (46, .i e), (49, .i e), (44, .fn (.func 36) [] [.ptr 4 1 0 0, .ptr 8 1 0 0, .ptr 5 1 0 0, .ptr 9 1 0 0]), (47, .os (ZJ.length + 10) 0 1)] ++ grB fb nz y e, trA n es L lp T ++ (ZJ ++ [.row [PV.i e] 1 3 false])⟩
def grS7 (ZJ : List AO) (y2 : AV) (Z2 : List AO) : St := ⟨[(43, .b true), (45, y), (46, .i e), (49, .i e), (44, .fn (.func 36) [] [.ptr 4 1 0 0, .ptr 8 1 0 0, .ptr 5 1 0 0, .ptr 9 1 0 0]), (50, .i (e + 1))] ++ grB fb nz y e, trA n es L lp T ++ ZJ⟩
def grS8 (ZJ : List AO) (y2 : AV) (Z2 : List AO) : St := ⟨[(43, .b true), (45, y), (46, .i e), (49, .i e), (44, .fn (.func 36) [] [.ptr 4 1 0 0, .ptr 8 1 0 0, .ptr 5 1 0 0, .ptr 9 1 0 0]), (51, .p (.agg (F2.map PV.i)))] ++ grB fb nz y e, trA n es L lp T ++ ZJ⟩
def grS9 (ZJ : List AO) (y2 : AV) (Z2 : List AO) : St := ⟨[(43, .b true), (45, y), (46, .i e), (49, .i e), (47, .os (ZJ.length + 10) 0 1), (48, y2)] ++ grB fb nz y e, trA n es L lp T ++ Z2⟩
def grS10 (ZJ : List AO) (y2 : AV) (Z2 : List AO) : St := ⟨[(43, .b true), (45, y), (46, .i e), (49, .i e), (47, .os (ZJ.length + 10) 0 1), (50, .i (e + 1))] ++ grB fb nz y e, trA n es L lp T ++ (ZJ ++ [.row [PV.i e] 1 3 false])⟩
def grS11 (ZJ : List AO) (y2 : AV) (Z2 : List AO) : St := ⟨[(43, .b true), (45, y), (46, .i e), (49, .i e), (47, .os (ZJ.length + 10) 0 1), (51, .p (.agg (F2.map PV.i)))] ++ grB fb nz y e, trA n es L lp T ++ (ZJ ++ [.row [PV.i e] 1 3 false])⟩
def grS12 (ZJ : List AO) (y2 : AV) (Z2 : List AO) : St := ⟨[(43, .b true), (45, y), (46, .i e), (49, .i e), (50, .i (e + 1)), (51, .p (.agg (F2.map PV.i)))] ++ grB fb nz y e, trA n es L lp T ++ ZJ⟩
def grS13 (ZJ : List AO) (y2 : AV) (Z2 : List AO) : St := ⟨[(43, .b true), (45, y), (46, .i e), (49, .i e), (44, .fn (.func 36) [] [.ptr 4 1 0 0, .ptr 8 1 0 0, .ptr 5 1 0 0, .ptr 9 1 0 0]), (47, .os (ZJ.length + 10) 0 1), (48, y2)] ++ grB fb nz y e, trA n es L lp T ++ Z2⟩
def grS14 (ZJ : List AO) (y2 : AV) (Z2 : List AO) : St := ⟨[(43, .b true), (45, y), (46, .i e), (49, .i e), (44, .fn (.func 36) [] [.ptr 4 1 0 0, .ptr 8 1 0 0, .ptr 5 1 0 0, .ptr 9 1 0 0]), (47, .os (ZJ.length + 10) 0 1), (50, .i (e + 1))] ++ grB fb nz y e, trA n es L lp T ++ (ZJ ++ [.row [PV.i e] 1 3 false])⟩
def grS15 (ZJ : List AO) (y2 : AV) (Z2 : List AO) : St := ⟨[(43, .b true), (45, y), (46, .i e), (49, .i e), (44, .fn (.func 36) [] [.ptr 4 1 0 0, .ptr 8 1 0 0, .ptr 5 1 0 0, .ptr 9 1 0 0]), (47, .os (ZJ.length + 10) 0 1), (51, .p (.agg (F2.map PV.i)))] ++ grB fb nz y e, trA n es L lp T ++ (ZJ ++ [.row [PV.i e] 1 3 false])⟩
def grS16 (ZJ : List AO) (y2 : AV) (Z2 : List AO) : St := ⟨[(43, .b true), (45, y), (46, .i e), (49, .i e), (44, .fn (.func 36) [] [.ptr 4 1 0 0, .ptr 8 1 0 0, .ptr 5 1 0 0, .ptr 9 1 0 0]), (50, .i (e + 1)), (51, .p (.agg (F2.map PV.i)))] ++ grB fb nz y e, trA n es L lp T ++ ZJ⟩
def grS18 (ZJ : List AO) (y2 : AV) (Z2 : List AO) : St := ⟨[(43, .b true), (45, y), (46, .i e), (49, .i e), (47, .os (ZJ.length + 10) 0 1), (48, y2), (50, .i (e + 1))] ++ grB fb nz y e, trA n es L lp T ++ Z2⟩
def grS19 (ZJ : List AO) (y2 : AV) (Z2 : List AO) : St := ⟨[(43, .b true), (45, y), (46, .i e), (49, .i e), (47, .os (ZJ.length + 10) 0 1), (50, .i (e + 1)), (51, .p (.agg (F2.map PV.i)))] ++ grB fb nz y e, trA n es L lp T ++ (ZJ ++ [.row [PV.i e] 1 3 false])⟩
def grS20 (ZJ : List AO) (y2 : AV) (Z2 : List AO) : St := ⟨[(43, .b true), (45, y), (46, .i e), (49, .i e), (47, .os (ZJ.length + 10) 0 1), (48, y2), (51, .p (.agg (F2.map PV.i)))] ++ grB fb nz y e, trA n es L lp T ++ Z2⟩
def grS21 (ZJ : List AO) (y2 : AV) (Z2 : List AO) : St := ⟨[(43, .b true), (45, y), (46, .i e), (49, .i e), (44, .fn (.func 36) [] [.ptr 4 1 0 0, .ptr 8 1 0 0, .ptr 5 1 0 0, .ptr 9 1 0 0]), (47, .os (ZJ.length + 10) 0 1), (48, y2), (50, .i (e + 1))] ++ grB fb nz y e, trA n es L lp T ++ Z2⟩
def grS22 (ZJ : List AO) (y2 : AV) (Z2 : List AO) : St := ⟨[(43, .b true), (45, y), (46, .i e), (49, .i e), (44, .fn (.func 36) [] [.ptr 4 1 0 0, .ptr 8 1 0 0, .ptr 5 1 0 0, .ptr 9 1 0 0]), (47, .os (ZJ.length + 10) 0 1), (50, .i (e + 1)), (51, .p (.agg (F2.map PV.i)))] ++ grB fb nz y e, trA n es L lp T ++ (ZJ ++ [.row [PV.i e] 1 3 false])⟩
def grS23 (ZJ : List AO) (y2 : AV) (Z2 : List AO) : St := ⟨[(43, .b true), (45, y), (46, .i e), (49, .i e), (44, .fn (.func 36) [] [.ptr 4 1 0 0, .ptr 8 1 0 0, .ptr 5 1 0 0, .ptr 9 1 0 0]), (47, .os (ZJ.length + 10) 0 1), (48, y2), (51, .p (.agg (F2.map PV.i)))] ++ grB fb nz y e, trA n es L lp T ++ Z2⟩
def grS24 (ZJ : List AO) (y2 : AV) (Z2 : List AO) : St := ⟨[(43, .b true), (45, y), (46, .i e), (49, .i e), (47, .os (ZJ.length + 10) 0 1), (48, y2), (50, .i (e + 1)), (51, .p (.agg (F2.map PV.i)))] ++ grB fb nz y e, trA n es L lp T ++ Z2⟩
def grS25 (ZJ : List AO) (y2 : AV) (Z2 : List AO) : St := ⟨[(43, .b true), (45, y), (46, .i e), (49, .i e), (44, .fn (.func 36) [] [.ptr 4 1 0 0, .ptr 8 1 0 0, .ptr 5 1 0 0, .ptr 9 1 0 0]), (47, .os (ZJ.length + 10) 0 1), (48, y2), (50, .i (e + 1)), (51, .p (.agg (F2.map PV.i)))] ++ grB fb nz y e, trA n es L lp T ++ Z2⟩
/-- What join leaves. -/
def grJ (ZJ : List AO) : Prop := ZJ[nz]? = some (boxF F2) ∧ TOk ZJ y xs ∧ FrT y xs Zb ZJ
def grS0 : St := ⟨grB fb nz y e, trA n es L lp T ++ Z0⟩
/-- What stands in the end. -/
def grE (s : St) : Prop := ∃ (T' : List AV) (Z3 : List AO), T'.length = T.length + cnt ∧ FrT y xs Zb Z3 ∧ s = ⟨[(52, .b true), (43, .b true)] ++ grB fb nz y e, trA n es L lp T' ++ Z3⟩
def grP : List (St → Prop) := [fun s => s = grS0 n es L lp T fb nz y e Z0,
  fun s => ∃ ZJ y2 Z2, grJ nz y xs F2 Zb ZJ ∧ OutT ZJ y xs e y2 Z2 ∧ s = grS1 n es L lp T fb nz y e ZJ y2 Z2,
  fun s => ∃ ZJ y2 Z2, grJ nz y xs F2 Zb ZJ ∧ OutT ZJ y xs e y2 Z2 ∧ s = grS2 n es L lp T fb nz y e ZJ y2 Z2,
  fun s => ∃ ZJ y2 Z2, grJ nz y xs F2 Zb ZJ ∧ OutT ZJ y xs e y2 Z2 ∧ s = grS3 n es L lp T fb nz y e ZJ y2 Z2,
  fun s => ∃ ZJ y2 Z2, grJ nz y xs F2 Zb ZJ ∧ OutT ZJ y xs e y2 Z2 ∧ s = grS4 n es L lp T fb nz y e ZJ y2 Z2,
  fun s => ∃ ZJ y2 Z2, grJ nz y xs F2 Zb ZJ ∧ OutT ZJ y xs e y2 Z2 ∧ s = grS5 n es L lp T fb nz y e F2 ZJ y2 Z2,
  fun s => ∃ ZJ y2 Z2, grJ nz y xs F2 Zb ZJ ∧ OutT ZJ y xs e y2 Z2 ∧ s = grS6 n es L lp T fb nz y e ZJ y2 Z2,
  fun s => ∃ ZJ y2 Z2, grJ nz y xs F2 Zb ZJ ∧ OutT ZJ y xs e y2 Z2 ∧ s = grS7 n es L lp T fb nz y e ZJ y2 Z2,
  fun s => ∃ ZJ y2 Z2, grJ nz y xs F2 Zb ZJ ∧ OutT ZJ y xs e y2 Z2 ∧ s = grS8 n es L lp T fb nz y e F2 ZJ y2 Z2,
  fun s => ∃ ZJ y2 Z2, grJ nz y xs F2 Zb ZJ ∧ OutT ZJ y xs e y2 Z2 ∧ s = grS9 n es L lp T fb nz y e ZJ y2 Z2,
  fun s => ∃ ZJ y2 Z2, grJ nz y xs F2 Zb ZJ ∧ OutT ZJ y xs e y2 Z2 ∧ s = grS10 n es L lp T fb nz y e ZJ y2 Z2,
  fun s => ∃ ZJ y2 Z2, grJ nz y xs F2 Zb ZJ ∧ OutT ZJ y xs e y2 Z2 ∧ s = grS11 n es L lp T fb nz y e F2 ZJ y2 Z2,
  fun s => ∃ ZJ y2 Z2, grJ nz y xs F2 Zb ZJ ∧ OutT ZJ y xs e y2 Z2 ∧ s = grS12 n es L lp T fb nz y e F2 ZJ y2 Z2,
  fun s => ∃ ZJ y2 Z2, grJ nz y xs F2 Zb ZJ ∧ OutT ZJ y xs e y2 Z2 ∧ s = grS13 n es L lp T fb nz y e ZJ y2 Z2,
  fun s => ∃ ZJ y2 Z2, grJ nz y xs F2 Zb ZJ ∧ OutT ZJ y xs e y2 Z2 ∧ s = grS14 n es L lp T fb nz y e ZJ y2 Z2,
  fun s => ∃ ZJ y2 Z2, grJ nz y xs F2 Zb ZJ ∧ OutT ZJ y xs e y2 Z2 ∧ s = grS15 n es L lp T fb nz y e F2 ZJ y2 Z2,
  fun s => ∃ ZJ y2 Z2, grJ nz y xs F2 Zb ZJ ∧ OutT ZJ y xs e y2 Z2 ∧ s = grS16 n es L lp T fb nz y e F2 ZJ y2 Z2,
  grE n es L lp T fb nz y xs e Zb cnt,
  fun s => ∃ ZJ y2 Z2, grJ nz y xs F2 Zb ZJ ∧ OutT ZJ y xs e y2 Z2 ∧ s = grS18 n es L lp T fb nz y e ZJ y2 Z2,
  fun s => ∃ ZJ y2 Z2, grJ nz y xs F2 Zb ZJ ∧ OutT ZJ y xs e y2 Z2 ∧ s = grS19 n es L lp T fb nz y e F2 ZJ y2 Z2,
  fun s => ∃ ZJ y2 Z2, grJ nz y xs F2 Zb ZJ ∧ OutT ZJ y xs e y2 Z2 ∧ s = grS20 n es L lp T fb nz y e F2 ZJ y2 Z2,
  fun s => ∃ ZJ y2 Z2, grJ nz y xs F2 Zb ZJ ∧ OutT ZJ y xs e y2 Z2 ∧ s = grS21 n es L lp T fb nz y e ZJ y2 Z2,
  fun s => ∃ ZJ y2 Z2, grJ nz y xs F2 Zb ZJ ∧ OutT ZJ y xs e y2 Z2 ∧ s = grS22 n es L lp T fb nz y e F2 ZJ y2 Z2,
  fun s => ∃ ZJ y2 Z2, grJ nz y xs F2 Zb ZJ ∧ OutT ZJ y xs e y2 Z2 ∧ s = grS23 n es L lp T fb nz y e F2 ZJ y2 Z2,
  fun s => ∃ ZJ y2 Z2, grJ nz y xs F2 Zb ZJ ∧ OutT ZJ y xs e y2 Z2 ∧ s = grS24 n es L lp T fb nz y e F2 ZJ y2 Z2,
  fun s => ∃ ZJ y2 Z2, grJ nz y xs F2 Zb ZJ ∧ OutT ZJ y xs e y2 Z2 ∧ s = grS25 n es L lp T fb nz y e F2 ZJ y2 Z2]
def grI (k : Nat) (s : St) : Prop := ∃ p, (grP n es L lp T fb nz y xs e F2 Zb Z0 cnt)[k]? = some p ∧ p s
def grG (K : St → Prop) (c : ADN) (s : St) : Prop := Wops Try.prog c.look (fun s1 => (c.acts = [] → K s1) ∧ ∀ x ∈ c.acts, Wop Try.prog x.1 x.2.1 (fun s2 => ∃ s3, Wk m0 s2 s3 ∧ grI n es L lp T fb nz y xs e F2 Zb Z0 cnt x.2.2 s3) s1) s
theorem grg1 {K : St → Prop} (hlen : xs.length ≤ 1000) (he : 0 ≤ e ∧ e ≤ 1000000) (hF2 : F2.length = 12)  (ZJ : List AO) (y2 : AV) (Z2 : List AO) (hJ : grJ nz y xs F2 Zb ZJ) (hO : OutT ZJ y xs e y2 Z2) : grG n es L lp T fb nz y xs e F2 m0 Zb Z0 cnt K grD1 (grS1 n es L lp T fb nz y e ZJ y2 Z2) := by
  have hn := hJ.1
  have hn1 : ∀ X : List AO, (ZJ ++ X)[nz]? = some (boxF F2) := fun X => by rw [List.getElem?_append_left (List.getElem?_eq_some_iff.1 hn).1]; exact hn
  have hT := hJ.2.1
  obtain ⟨o, cap, rfl, -⟩ := hJ.2.1
  unfold grG grD1 grS1
  dsimp only [List.cons_append, List.nil_append]
  simp -implicitDefEqProofs (disch := omega) [List.getElem?_cons_zero, List.getElem?_cons_succ, wrap_id, -appP_none, hn, hn1, hF2]
  refine ⟨?_, ?_, ?_, ?_⟩
  · exact ⟨_, Wk_keep [43, 45, 46, 49, 44, 11, 9, 0, 3, 4, 5, 6, 12], _, rfl, ZJ, y2, Z2, hJ, hO, rfl⟩
  · exact ⟨_, Wk_keep [43, 45, 46, 49, 47, 11, 9, 0, 3, 4, 5, 6, 12], _, rfl, ZJ, y2, Z2, hJ, hO, rfl⟩
  · exact ⟨_, Wk_keep [43, 45, 46, 49, 50, 11, 9, 0, 3, 4, 5, 6, 12], _, rfl, ZJ, y2, Z2, hJ, hO, rfl⟩
  · exact ⟨_, Wk_keep [43, 45, 46, 49, 51, 11, 9, 0, 3, 4, 5, 6, 12], _, rfl, ZJ, y2, Z2, hJ, hO, rfl⟩
theorem grg2 {K : St → Prop} (hlen : xs.length ≤ 1000) (he : 0 ≤ e ∧ e ≤ 1000000) (hF2 : F2.length = 12)  (ZJ : List AO) (y2 : AV) (Z2 : List AO) (hJ : grJ nz y xs F2 Zb ZJ) (hO : OutT ZJ y xs e y2 Z2) : grG n es L lp T fb nz y xs e F2 m0 Zb Z0 cnt K grD2 (grS2 n es L lp T fb nz y e ZJ y2 Z2) := by
  have hn := hJ.1
  have hn1 : ∀ X : List AO, (ZJ ++ X)[nz]? = some (boxF F2) := fun X => by rw [List.getElem?_append_left (List.getElem?_eq_some_iff.1 hn).1]; exact hn
  have hT := hJ.2.1
  obtain ⟨o, cap, rfl, -⟩ := hJ.2.1
  unfold grG grD2 grS2
  dsimp only [List.cons_append, List.nil_append]
  simp -implicitDefEqProofs (disch := omega) [List.getElem?_cons_zero, List.getElem?_cons_succ, wrap_id, -appP_none, hn, hn1, hF2]
  refine ⟨?_, ?_, ?_⟩
  · exact ⟨_, Wk_keep [43, 45, 46, 49, 44, 47, 11, 9, 0, 3, 4, 5, 6, 12], _, rfl, ZJ, y2, Z2, hJ, hO, rfl⟩
  · exact ⟨_, Wk_keep [43, 45, 46, 49, 44, 50, 11, 9, 0, 3, 4, 5, 6, 12], _, rfl, ZJ, y2, Z2, hJ, hO, rfl⟩
  · exact ⟨_, Wk_keep [43, 45, 46, 49, 44, 51, 11, 9, 0, 3, 4, 5, 6, 12], _, rfl, ZJ, y2, Z2, hJ, hO, rfl⟩
theorem grg3 {K : St → Prop} (hlen : xs.length ≤ 1000) (he : 0 ≤ e ∧ e ≤ 1000000) (hF2 : F2.length = 12)  (ZJ : List AO) (y2 : AV) (Z2 : List AO) (hJ : grJ nz y xs F2 Zb ZJ) (hO : OutT ZJ y xs e y2 Z2) : grG n es L lp T fb nz y xs e F2 m0 Zb Z0 cnt K grD3 (grS3 n es L lp T fb nz y e ZJ y2 Z2) := by
  have hn := hJ.1
  have hn1 : ∀ X : List AO, (ZJ ++ X)[nz]? = some (boxF F2) := fun X => by rw [List.getElem?_append_left (List.getElem?_eq_some_iff.1 hn).1]; exact hn
  have hT := hJ.2.1
  obtain ⟨o, cap, rfl, -⟩ := hJ.2.1
  unfold grG grD3 grS3
  dsimp only [List.cons_append, List.nil_append]
  simp -implicitDefEqProofs (disch := omega) [List.getElem?_cons_zero, List.getElem?_cons_succ, wrap_id, -appP_none, hn, hn1, hF2]
  refine ⟨?_, ?_, ?_, ?_⟩
  · exact ⟨_, Wk_keep [43, 45, 46, 49, 44, 47, 11, 9, 0, 3, 4, 5, 6, 12], _, rfl, ZJ, y2, Z2, hJ, hO, rfl⟩
  · refine appP_T n es L lp T hT hlen fun y3 Z3 hO3 => ?_
    exact ⟨_, Wk_keep [43, 45, 46, 49, 47, 48, 11, 9, 0, 3, 4, 5, 6, 12], _, rfl, ZJ, y3, Z3, hJ, hO3, rfl⟩
  · exact ⟨_, Wk_keep [43, 45, 46, 49, 47, 50, 11, 9, 0, 3, 4, 5, 6, 12], _, rfl, ZJ, y2, Z2, hJ, hO, rfl⟩
  · exact ⟨_, Wk_keep [43, 45, 46, 49, 47, 51, 11, 9, 0, 3, 4, 5, 6, 12], _, rfl, ZJ, y2, Z2, hJ, hO, rfl⟩
theorem grg4 {K : St → Prop} (hlen : xs.length ≤ 1000) (he : 0 ≤ e ∧ e ≤ 1000000) (hF2 : F2.length = 12)  (ZJ : List AO) (y2 : AV) (Z2 : List AO) (hJ : grJ nz y xs F2 Zb ZJ) (hO : OutT ZJ y xs e y2 Z2) : grG n es L lp T fb nz y xs e F2 m0 Zb Z0 cnt K grD4 (grS4 n es L lp T fb nz y e ZJ y2 Z2) := by
  have hn := hJ.1
  have hn1 : ∀ X : List AO, (ZJ ++ X)[nz]? = some (boxF F2) := fun X => by rw [List.getElem?_append_left (List.getElem?_eq_some_iff.1 hn).1]; exact hn
  have hT := hJ.2.1
  obtain ⟨o, cap, rfl, -⟩ := hJ.2.1
  unfold grG grD4 grS4
  dsimp only [List.cons_append, List.nil_append]
  simp -implicitDefEqProofs (disch := omega) [List.getElem?_cons_zero, List.getElem?_cons_succ, wrap_id, -appP_none, hn, hn1, hF2]
  refine ⟨?_, ?_, ?_⟩
  · exact ⟨_, Wk_keep [43, 45, 46, 49, 44, 50, 11, 9, 0, 3, 4, 5, 6, 12], _, rfl, ZJ, y2, Z2, hJ, hO, rfl⟩
  · exact ⟨_, Wk_keep [43, 45, 46, 49, 47, 50, 11, 9, 0, 3, 4, 5, 6, 12], _, rfl, ZJ, y2, Z2, hJ, hO, rfl⟩
  · exact ⟨_, Wk_keep [43, 45, 46, 49, 50, 51, 11, 9, 0, 3, 4, 5, 6, 12], _, rfl, ZJ, y2, Z2, hJ, hO, rfl⟩
theorem grg5 {K : St → Prop} (hlen : xs.length ≤ 1000) (he : 0 ≤ e ∧ e ≤ 1000000) (hF2 : F2.length = 12)  (ZJ : List AO) (y2 : AV) (Z2 : List AO) (hJ : grJ nz y xs F2 Zb ZJ) (hO : OutT ZJ y xs e y2 Z2) : grG n es L lp T fb nz y xs e F2 m0 Zb Z0 cnt K grD5 (grS5 n es L lp T fb nz y e F2 ZJ y2 Z2) := by
  have hn := hJ.1
  have hn1 : ∀ X : List AO, (ZJ ++ X)[nz]? = some (boxF F2) := fun X => by rw [List.getElem?_append_left (List.getElem?_eq_some_iff.1 hn).1]; exact hn
  have hT := hJ.2.1
  obtain ⟨o, cap, rfl, -⟩ := hJ.2.1
  unfold grG grD5 grS5
  dsimp only [List.cons_append, List.nil_append]
  simp -implicitDefEqProofs (disch := omega) [List.getElem?_cons_zero, List.getElem?_cons_succ, wrap_id, -appP_none, hn, hn1, hF2]
  refine ⟨?_, ?_, ?_⟩
  · exact ⟨_, Wk_keep [43, 45, 46, 49, 44, 51, 11, 9, 0, 3, 4, 5, 6, 12], _, rfl, ZJ, y2, Z2, hJ, hO, rfl⟩
  · exact ⟨_, Wk_keep [43, 45, 46, 49, 47, 51, 11, 9, 0, 3, 4, 5, 6, 12], _, rfl, ZJ, y2, Z2, hJ, hO, rfl⟩
  · exact ⟨_, Wk_keep [43, 45, 46, 49, 50, 51, 11, 9, 0, 3, 4, 5, 6, 12], _, rfl, ZJ, y2, Z2, hJ, hO, rfl⟩
theorem grg6 {K : St → Prop} (hlen : xs.length ≤ 1000) (he : 0 ≤ e ∧ e ≤ 1000000) (hF2 : F2.length = 12)  (ZJ : List AO) (y2 : AV) (Z2 : List AO) (hJ : grJ nz y xs F2 Zb ZJ) (hO : OutT ZJ y xs e y2 Z2) : grG n es L lp T fb nz y xs e F2 m0 Zb Z0 cnt K grD6 (grS6 n es L lp T fb nz y e ZJ y2 Z2) := by
  have hn := hJ.1
  have hn1 : ∀ X : List AO, (ZJ ++ X)[nz]? = some (boxF F2) := fun X => by rw [List.getElem?_append_left (List.getElem?_eq_some_iff.1 hn).1]; exact hn
  have hT := hJ.2.1
  obtain ⟨o, cap, rfl, -⟩ := hJ.2.1
  unfold grG grD6 grS6
  dsimp only [List.cons_append, List.nil_append]
  simp -implicitDefEqProofs (disch := omega) [List.getElem?_cons_zero, List.getElem?_cons_succ, wrap_id, -appP_none, hn, hn1, hF2]
  refine ⟨?_, ?_, ?_⟩
  · refine appP_T n es L lp T hT hlen fun y3 Z3 hO3 => ?_
    exact ⟨_, Wk_keep [43, 45, 46, 49, 44, 47, 48, 11, 9, 0, 3, 4, 5, 6, 12], _, rfl, ZJ, y3, Z3, hJ, hO3, rfl⟩
  · exact ⟨_, Wk_keep [43, 45, 46, 49, 44, 47, 50, 11, 9, 0, 3, 4, 5, 6, 12], _, rfl, ZJ, y2, Z2, hJ, hO, rfl⟩
  · exact ⟨_, Wk_keep [43, 45, 46, 49, 44, 47, 51, 11, 9, 0, 3, 4, 5, 6, 12], _, rfl, ZJ, y2, Z2, hJ, hO, rfl⟩
theorem grg7 {K : St → Prop} (hlen : xs.length ≤ 1000) (he : 0 ≤ e ∧ e ≤ 1000000) (hF2 : F2.length = 12)  (ZJ : List AO) (y2 : AV) (Z2 : List AO) (hJ : grJ nz y xs F2 Zb ZJ) (hO : OutT ZJ y xs e y2 Z2) : grG n es L lp T fb nz y xs e F2 m0 Zb Z0 cnt K grD7 (grS7 n es L lp T fb nz y e ZJ y2 Z2) := by
  have hn := hJ.1
  have hn1 : ∀ X : List AO, (ZJ ++ X)[nz]? = some (boxF F2) := fun X => by rw [List.getElem?_append_left (List.getElem?_eq_some_iff.1 hn).1]; exact hn
  have hT := hJ.2.1
  obtain ⟨o, cap, rfl, -⟩ := hJ.2.1
  unfold grG grD7 grS7
  dsimp only [List.cons_append, List.nil_append]
  simp -implicitDefEqProofs (disch := omega) [List.getElem?_cons_zero, List.getElem?_cons_succ, wrap_id, -appP_none, hn, hn1, hF2]
  refine ⟨?_, ?_⟩
  · exact ⟨_, Wk_keep [43, 45, 46, 49, 44, 47, 50, 11, 9, 0, 3, 4, 5, 6, 12], _, rfl, ZJ, y2, Z2, hJ, hO, rfl⟩
  · exact ⟨_, Wk_keep [43, 45, 46, 49, 44, 50, 51, 11, 9, 0, 3, 4, 5, 6, 12], _, rfl, ZJ, y2, Z2, hJ, hO, rfl⟩
theorem grg8 {K : St → Prop} (hlen : xs.length ≤ 1000) (he : 0 ≤ e ∧ e ≤ 1000000) (hF2 : F2.length = 12)  (ZJ : List AO) (y2 : AV) (Z2 : List AO) (hJ : grJ nz y xs F2 Zb ZJ) (hO : OutT ZJ y xs e y2 Z2) : grG n es L lp T fb nz y xs e F2 m0 Zb Z0 cnt K grD8 (grS8 n es L lp T fb nz y e F2 ZJ y2 Z2) := by
  have hn := hJ.1
  have hn1 : ∀ X : List AO, (ZJ ++ X)[nz]? = some (boxF F2) := fun X => by rw [List.getElem?_append_left (List.getElem?_eq_some_iff.1 hn).1]; exact hn
  have hT := hJ.2.1
  obtain ⟨o, cap, rfl, -⟩ := hJ.2.1
  unfold grG grD8 grS8
  dsimp only [List.cons_append, List.nil_append]
  simp -implicitDefEqProofs (disch := omega) [List.getElem?_cons_zero, List.getElem?_cons_succ, wrap_id, -appP_none, hn, hn1, hF2]
  refine ⟨?_, ?_⟩
  · exact ⟨_, Wk_keep [43, 45, 46, 49, 44, 47, 51, 11, 9, 0, 3, 4, 5, 6, 12], _, rfl, ZJ, y2, Z2, hJ, hO, rfl⟩
  · exact ⟨_, Wk_keep [43, 45, 46, 49, 44, 50, 51, 11, 9, 0, 3, 4, 5, 6, 12], _, rfl, ZJ, y2, Z2, hJ, hO, rfl⟩
theorem grg9 {K : St → Prop} (hlen : xs.length ≤ 1000) (he : 0 ≤ e ∧ e ≤ 1000000) (hF2 : F2.length = 12) (hcall : ∀ ZJ y2 Z2, grJ nz y xs F2 Zb ZJ → OutT ZJ y xs e y2 Z2 → ∀ K : AV → List AO → Prop, (∀ (T' : List AV) (Z3 : List AO), T'.length = T.length + cnt → FrT y xs Zb Z3 → K (.b true) (trA n es L lp T' ++ Z3)) → HC Try.prog false 36 [y2, .i (e + 1), .p (.agg (F2.map PV.i)), .ptr 4 1 0 0, .ptr 8 1 0 0, .ptr 5 1 0 0, .ptr 9 1 0 0] (trA n es L lp T ++ Z2) K) (ZJ : List AO) (y2 : AV) (Z2 : List AO) (hJ : grJ nz y xs F2 Zb ZJ) (hO : OutT ZJ y xs e y2 Z2) : grG n es L lp T fb nz y xs e F2 m0 Zb Z0 cnt K grD9 (grS9 n es L lp T fb nz y e ZJ y2 Z2) := by
  have hn := hJ.1
  have hn1 : ∀ X : List AO, (ZJ ++ X)[nz]? = some (boxF F2) := fun X => by rw [List.getElem?_append_left (List.getElem?_eq_some_iff.1 hn).1]; exact hn
  have hn2 := hO.2.1 nz _ hn (fun x h => by cases h)
  have hT := hJ.2.1
  obtain ⟨o, cap, rfl, -⟩ := hJ.2.1
  unfold grG grD9 grS9
  dsimp only [List.cons_append, List.nil_append]
  simp -implicitDefEqProofs (disch := omega) [List.getElem?_cons_zero, List.getElem?_cons_succ, wrap_id, -appP_none, hn, hn1, hn2, hF2]
  refine ⟨by kernel_rfl, hcall ZJ y2 Z2 hJ hO _ fun T' Z3 h1 h2 => ?_⟩
  exact ⟨_, Wk_keep [52, 43, 11, 9, 0, 3, 4, 5, 6, 12], _, rfl, T', Z3, h1, h2, rfl⟩
theorem grg10 {K : St → Prop} (hlen : xs.length ≤ 1000) (he : 0 ≤ e ∧ e ≤ 1000000) (hF2 : F2.length = 12)  (ZJ : List AO) (y2 : AV) (Z2 : List AO) (hJ : grJ nz y xs F2 Zb ZJ) (hO : OutT ZJ y xs e y2 Z2) : grG n es L lp T fb nz y xs e F2 m0 Zb Z0 cnt K grD10 (grS10 n es L lp T fb nz y e ZJ y2 Z2) := by
  have hn := hJ.1
  have hn1 : ∀ X : List AO, (ZJ ++ X)[nz]? = some (boxF F2) := fun X => by rw [List.getElem?_append_left (List.getElem?_eq_some_iff.1 hn).1]; exact hn
  have hT := hJ.2.1
  obtain ⟨o, cap, rfl, -⟩ := hJ.2.1
  unfold grG grD10 grS10
  dsimp only [List.cons_append, List.nil_append]
  simp -implicitDefEqProofs (disch := omega) [List.getElem?_cons_zero, List.getElem?_cons_succ, wrap_id, -appP_none, hn, hn1, hF2]
  refine ⟨?_, ?_, ?_⟩
  · exact ⟨_, Wk_keep [43, 45, 46, 49, 44, 47, 50, 11, 9, 0, 3, 4, 5, 6, 12], _, rfl, ZJ, y2, Z2, hJ, hO, rfl⟩
  · refine appP_T n es L lp T hT hlen fun y3 Z3 hO3 => ?_
    exact ⟨_, Wk_keep [43, 45, 46, 49, 47, 48, 50, 11, 9, 0, 3, 4, 5, 6, 12], _, rfl, ZJ, y3, Z3, hJ, hO3, rfl⟩
  · exact ⟨_, Wk_keep [43, 45, 46, 49, 47, 50, 51, 11, 9, 0, 3, 4, 5, 6, 12], _, rfl, ZJ, y2, Z2, hJ, hO, rfl⟩
theorem grg11 {K : St → Prop} (hlen : xs.length ≤ 1000) (he : 0 ≤ e ∧ e ≤ 1000000) (hF2 : F2.length = 12)  (ZJ : List AO) (y2 : AV) (Z2 : List AO) (hJ : grJ nz y xs F2 Zb ZJ) (hO : OutT ZJ y xs e y2 Z2) : grG n es L lp T fb nz y xs e F2 m0 Zb Z0 cnt K grD11 (grS11 n es L lp T fb nz y e F2 ZJ y2 Z2) := by
  have hn := hJ.1
  have hn1 : ∀ X : List AO, (ZJ ++ X)[nz]? = some (boxF F2) := fun X => by rw [List.getElem?_append_left (List.getElem?_eq_some_iff.1 hn).1]; exact hn
  have hT := hJ.2.1
  obtain ⟨o, cap, rfl, -⟩ := hJ.2.1
  unfold grG grD11 grS11
  dsimp only [List.cons_append, List.nil_append]
  simp -implicitDefEqProofs (disch := omega) [List.getElem?_cons_zero, List.getElem?_cons_succ, wrap_id, -appP_none, hn, hn1, hF2]
  refine ⟨?_, ?_, ?_⟩
  · exact ⟨_, Wk_keep [43, 45, 46, 49, 44, 47, 51, 11, 9, 0, 3, 4, 5, 6, 12], _, rfl, ZJ, y2, Z2, hJ, hO, rfl⟩
  · refine appP_T n es L lp T hT hlen fun y3 Z3 hO3 => ?_
    exact ⟨_, Wk_keep [43, 45, 46, 49, 47, 48, 51, 11, 9, 0, 3, 4, 5, 6, 12], _, rfl, ZJ, y3, Z3, hJ, hO3, rfl⟩
  · exact ⟨_, Wk_keep [43, 45, 46, 49, 47, 50, 51, 11, 9, 0, 3, 4, 5, 6, 12], _, rfl, ZJ, y2, Z2, hJ, hO, rfl⟩
theorem grg12 {K : St → Prop} (hlen : xs.length ≤ 1000) (he : 0 ≤ e ∧ e ≤ 1000000) (hF2 : F2.length = 12)  (ZJ : List AO) (y2 : AV) (Z2 : List AO) (hJ : grJ nz y xs F2 Zb ZJ) (hO : OutT ZJ y xs e y2 Z2) : grG n es L lp T fb nz y xs e F2 m0 Zb Z0 cnt K grD12 (grS12 n es L lp T fb nz y e F2 ZJ y2 Z2) := by
  have hn := hJ.1
  have hn1 : ∀ X : List AO, (ZJ ++ X)[nz]? = some (boxF F2) := fun X => by rw [List.getElem?_append_left (List.getElem?_eq_some_iff.1 hn).1]; exact hn
  have hT := hJ.2.1
  obtain ⟨o, cap, rfl, -⟩ := hJ.2.1
  unfold grG grD12 grS12
  dsimp only [List.cons_append, List.nil_append]
  simp -implicitDefEqProofs (disch := omega) [List.getElem?_cons_zero, List.getElem?_cons_succ, wrap_id, -appP_none, hn, hn1, hF2]
  refine ⟨?_, ?_⟩
  · exact ⟨_, Wk_keep [43, 45, 46, 49, 44, 50, 51, 11, 9, 0, 3, 4, 5, 6, 12], _, rfl, ZJ, y2, Z2, hJ, hO, rfl⟩
  · exact ⟨_, Wk_keep [43, 45, 46, 49, 47, 50, 51, 11, 9, 0, 3, 4, 5, 6, 12], _, rfl, ZJ, y2, Z2, hJ, hO, rfl⟩
theorem grg13 {K : St → Prop} (hlen : xs.length ≤ 1000) (he : 0 ≤ e ∧ e ≤ 1000000) (hF2 : F2.length = 12) (hcall : ∀ ZJ y2 Z2, grJ nz y xs F2 Zb ZJ → OutT ZJ y xs e y2 Z2 → ∀ K : AV → List AO → Prop, (∀ (T' : List AV) (Z3 : List AO), T'.length = T.length + cnt → FrT y xs Zb Z3 → K (.b true) (trA n es L lp T' ++ Z3)) → HC Try.prog false 36 [y2, .i (e + 1), .p (.agg (F2.map PV.i)), .ptr 4 1 0 0, .ptr 8 1 0 0, .ptr 5 1 0 0, .ptr 9 1 0 0] (trA n es L lp T ++ Z2) K) (ZJ : List AO) (y2 : AV) (Z2 : List AO) (hJ : grJ nz y xs F2 Zb ZJ) (hO : OutT ZJ y xs e y2 Z2) : grG n es L lp T fb nz y xs e F2 m0 Zb Z0 cnt K grD13 (grS13 n es L lp T fb nz y e ZJ y2 Z2) := by
  have hn := hJ.1
  have hn1 : ∀ X : List AO, (ZJ ++ X)[nz]? = some (boxF F2) := fun X => by rw [List.getElem?_append_left (List.getElem?_eq_some_iff.1 hn).1]; exact hn
  have hn2 := hO.2.1 nz _ hn (fun x h => by cases h)
  have hT := hJ.2.1
  obtain ⟨o, cap, rfl, -⟩ := hJ.2.1
  unfold grG grD13 grS13
  dsimp only [List.cons_append, List.nil_append]
  simp -implicitDefEqProofs (disch := omega) [List.getElem?_cons_zero, List.getElem?_cons_succ, wrap_id, -appP_none, hn, hn1, hn2, hF2]
  refine ⟨by kernel_rfl, hcall ZJ y2 Z2 hJ hO _ fun T' Z3 h1 h2 => ?_⟩
  exact ⟨_, Wk_keep [52, 43, 11, 9, 0, 3, 4, 5, 6, 12], _, rfl, T', Z3, h1, h2, rfl⟩
theorem grg14 {K : St → Prop} (hlen : xs.length ≤ 1000) (he : 0 ≤ e ∧ e ≤ 1000000) (hF2 : F2.length = 12)  (ZJ : List AO) (y2 : AV) (Z2 : List AO) (hJ : grJ nz y xs F2 Zb ZJ) (hO : OutT ZJ y xs e y2 Z2) : grG n es L lp T fb nz y xs e F2 m0 Zb Z0 cnt K grD14 (grS14 n es L lp T fb nz y e ZJ y2 Z2) := by
  have hn := hJ.1
  have hn1 : ∀ X : List AO, (ZJ ++ X)[nz]? = some (boxF F2) := fun X => by rw [List.getElem?_append_left (List.getElem?_eq_some_iff.1 hn).1]; exact hn
  have hT := hJ.2.1
  obtain ⟨o, cap, rfl, -⟩ := hJ.2.1
  unfold grG grD14 grS14
  dsimp only [List.cons_append, List.nil_append]
  simp -implicitDefEqProofs (disch := omega) [List.getElem?_cons_zero, List.getElem?_cons_succ, wrap_id, -appP_none, hn, hn1, hF2]
  refine ⟨?_, ?_⟩
  · refine appP_T n es L lp T hT hlen fun y3 Z3 hO3 => ?_
    exact ⟨_, Wk_keep [43, 45, 46, 49, 44, 47, 48, 50, 11, 9, 0, 3, 4, 5, 6, 12], _, rfl, ZJ, y3, Z3, hJ, hO3, rfl⟩
  · exact ⟨_, Wk_keep [43, 45, 46, 49, 44, 47, 50, 51, 11, 9, 0, 3, 4, 5, 6, 12], _, rfl, ZJ, y2, Z2, hJ, hO, rfl⟩
theorem grg15 {K : St → Prop} (hlen : xs.length ≤ 1000) (he : 0 ≤ e ∧ e ≤ 1000000) (hF2 : F2.length = 12)  (ZJ : List AO) (y2 : AV) (Z2 : List AO) (hJ : grJ nz y xs F2 Zb ZJ) (hO : OutT ZJ y xs e y2 Z2) : grG n es L lp T fb nz y xs e F2 m0 Zb Z0 cnt K grD15 (grS15 n es L lp T fb nz y e F2 ZJ y2 Z2) := by
  have hn := hJ.1
  have hn1 : ∀ X : List AO, (ZJ ++ X)[nz]? = some (boxF F2) := fun X => by rw [List.getElem?_append_left (List.getElem?_eq_some_iff.1 hn).1]; exact hn
  have hT := hJ.2.1
  obtain ⟨o, cap, rfl, -⟩ := hJ.2.1
  unfold grG grD15 grS15
  dsimp only [List.cons_append, List.nil_append]
  simp -implicitDefEqProofs (disch := omega) [List.getElem?_cons_zero, List.getElem?_cons_succ, wrap_id, -appP_none, hn, hn1, hF2]
  refine ⟨?_, ?_⟩
  · refine appP_T n es L lp T hT hlen fun y3 Z3 hO3 => ?_
    exact ⟨_, Wk_keep [43, 45, 46, 49, 44, 47, 48, 51, 11, 9, 0, 3, 4, 5, 6, 12], _, rfl, ZJ, y3, Z3, hJ, hO3, rfl⟩
  · exact ⟨_, Wk_keep [43, 45, 46, 49, 44, 47, 50, 51, 11, 9, 0, 3, 4, 5, 6, 12], _, rfl, ZJ, y2, Z2, hJ, hO, rfl⟩
theorem grg16 {K : St → Prop} (hlen : xs.length ≤ 1000) (he : 0 ≤ e ∧ e ≤ 1000000) (hF2 : F2.length = 12)  (ZJ : List AO) (y2 : AV) (Z2 : List AO) (hJ : grJ nz y xs F2 Zb ZJ) (hO : OutT ZJ y xs e y2 Z2) : grG n es L lp T fb nz y xs e F2 m0 Zb Z0 cnt K grD16 (grS16 n es L lp T fb nz y e F2 ZJ y2 Z2) := by
  have hn := hJ.1
  have hn1 : ∀ X : List AO, (ZJ ++ X)[nz]? = some (boxF F2) := fun X => by rw [List.getElem?_append_left (List.getElem?_eq_some_iff.1 hn).1]; exact hn
  have hT := hJ.2.1
  obtain ⟨o, cap, rfl, -⟩ := hJ.2.1
  unfold grG grD16 grS16
  dsimp only [List.cons_append, List.nil_append]
  simp -implicitDefEqProofs (disch := omega) [List.getElem?_cons_zero, List.getElem?_cons_succ, wrap_id, -appP_none, hn, hn1, hF2]
  exact ⟨_, Wk_keep [43, 45, 46, 49, 44, 47, 50, 51, 11, 9, 0, 3, 4, 5, 6, 12], _, rfl, ZJ, y2, Z2, hJ, hO, rfl⟩
theorem grg18 {K : St → Prop} (hlen : xs.length ≤ 1000) (he : 0 ≤ e ∧ e ≤ 1000000) (hF2 : F2.length = 12) (hcall : ∀ ZJ y2 Z2, grJ nz y xs F2 Zb ZJ → OutT ZJ y xs e y2 Z2 → ∀ K : AV → List AO → Prop, (∀ (T' : List AV) (Z3 : List AO), T'.length = T.length + cnt → FrT y xs Zb Z3 → K (.b true) (trA n es L lp T' ++ Z3)) → HC Try.prog false 36 [y2, .i (e + 1), .p (.agg (F2.map PV.i)), .ptr 4 1 0 0, .ptr 8 1 0 0, .ptr 5 1 0 0, .ptr 9 1 0 0] (trA n es L lp T ++ Z2) K) (ZJ : List AO) (y2 : AV) (Z2 : List AO) (hJ : grJ nz y xs F2 Zb ZJ) (hO : OutT ZJ y xs e y2 Z2) : grG n es L lp T fb nz y xs e F2 m0 Zb Z0 cnt K grD18 (grS18 n es L lp T fb nz y e ZJ y2 Z2) := by
  have hn := hJ.1
  have hn1 : ∀ X : List AO, (ZJ ++ X)[nz]? = some (boxF F2) := fun X => by rw [List.getElem?_append_left (List.getElem?_eq_some_iff.1 hn).1]; exact hn
  have hn2 := hO.2.1 nz _ hn (fun x h => by cases h)
  have hT := hJ.2.1
  obtain ⟨o, cap, rfl, -⟩ := hJ.2.1
  unfold grG grD18 grS18
  dsimp only [List.cons_append, List.nil_append]
  simp -implicitDefEqProofs (disch := omega) [List.getElem?_cons_zero, List.getElem?_cons_succ, wrap_id, -appP_none, hn, hn1, hn2, hF2]
  refine ⟨by kernel_rfl, hcall ZJ y2 Z2 hJ hO _ fun T' Z3 h1 h2 => ?_⟩
  exact ⟨_, Wk_keep [52, 43, 11, 9, 0, 3, 4, 5, 6, 12], _, rfl, T', Z3, h1, h2, rfl⟩
theorem grg19 {K : St → Prop} (hlen : xs.length ≤ 1000) (he : 0 ≤ e ∧ e ≤ 1000000) (hF2 : F2.length = 12)  (ZJ : List AO) (y2 : AV) (Z2 : List AO) (hJ : grJ nz y xs F2 Zb ZJ) (hO : OutT ZJ y xs e y2 Z2) : grG n es L lp T fb nz y xs e F2 m0 Zb Z0 cnt K grD19 (grS19 n es L lp T fb nz y e F2 ZJ y2 Z2) := by
  have hn := hJ.1
  have hn1 : ∀ X : List AO, (ZJ ++ X)[nz]? = some (boxF F2) := fun X => by rw [List.getElem?_append_left (List.getElem?_eq_some_iff.1 hn).1]; exact hn
  have hT := hJ.2.1
  obtain ⟨o, cap, rfl, -⟩ := hJ.2.1
  unfold grG grD19 grS19
  dsimp only [List.cons_append, List.nil_append]
  simp -implicitDefEqProofs (disch := omega) [List.getElem?_cons_zero, List.getElem?_cons_succ, wrap_id, -appP_none, hn, hn1, hF2]
  refine ⟨?_, ?_⟩
  · exact ⟨_, Wk_keep [43, 45, 46, 49, 44, 47, 50, 51, 11, 9, 0, 3, 4, 5, 6, 12], _, rfl, ZJ, y2, Z2, hJ, hO, rfl⟩
  · refine appP_T n es L lp T hT hlen fun y3 Z3 hO3 => ?_
    exact ⟨_, Wk_keep [43, 45, 46, 49, 47, 48, 50, 51, 11, 9, 0, 3, 4, 5, 6, 12], _, rfl, ZJ, y3, Z3, hJ, hO3, rfl⟩
theorem grg20 {K : St → Prop} (hlen : xs.length ≤ 1000) (he : 0 ≤ e ∧ e ≤ 1000000) (hF2 : F2.length = 12) (hcall : ∀ ZJ y2 Z2, grJ nz y xs F2 Zb ZJ → OutT ZJ y xs e y2 Z2 → ∀ K : AV → List AO → Prop, (∀ (T' : List AV) (Z3 : List AO), T'.length = T.length + cnt → FrT y xs Zb Z3 → K (.b true) (trA n es L lp T' ++ Z3)) → HC Try.prog false 36 [y2, .i (e + 1), .p (.agg (F2.map PV.i)), .ptr 4 1 0 0, .ptr 8 1 0 0, .ptr 5 1 0 0, .ptr 9 1 0 0] (trA n es L lp T ++ Z2) K) (ZJ : List AO) (y2 : AV) (Z2 : List AO) (hJ : grJ nz y xs F2 Zb ZJ) (hO : OutT ZJ y xs e y2 Z2) : grG n es L lp T fb nz y xs e F2 m0 Zb Z0 cnt K grD20 (grS20 n es L lp T fb nz y e F2 ZJ y2 Z2) := by
  have hn := hJ.1
  have hn1 : ∀ X : List AO, (ZJ ++ X)[nz]? = some (boxF F2) := fun X => by rw [List.getElem?_append_left (List.getElem?_eq_some_iff.1 hn).1]; exact hn
  have hn2 := hO.2.1 nz _ hn (fun x h => by cases h)
  have hT := hJ.2.1
  obtain ⟨o, cap, rfl, -⟩ := hJ.2.1
  unfold grG grD20 grS20
  dsimp only [List.cons_append, List.nil_append]
  simp -implicitDefEqProofs (disch := omega) [List.getElem?_cons_zero, List.getElem?_cons_succ, wrap_id, -appP_none, hn, hn1, hn2, hF2]
  refine ⟨by kernel_rfl, hcall ZJ y2 Z2 hJ hO _ fun T' Z3 h1 h2 => ?_⟩
  exact ⟨_, Wk_keep [52, 43, 11, 9, 0, 3, 4, 5, 6, 12], _, rfl, T', Z3, h1, h2, rfl⟩
theorem grg21 {K : St → Prop} (hlen : xs.length ≤ 1000) (he : 0 ≤ e ∧ e ≤ 1000000) (hF2 : F2.length = 12) (hcall : ∀ ZJ y2 Z2, grJ nz y xs F2 Zb ZJ → OutT ZJ y xs e y2 Z2 → ∀ K : AV → List AO → Prop, (∀ (T' : List AV) (Z3 : List AO), T'.length = T.length + cnt → FrT y xs Zb Z3 → K (.b true) (trA n es L lp T' ++ Z3)) → HC Try.prog false 36 [y2, .i (e + 1), .p (.agg (F2.map PV.i)), .ptr 4 1 0 0, .ptr 8 1 0 0, .ptr 5 1 0 0, .ptr 9 1 0 0] (trA n es L lp T ++ Z2) K) (ZJ : List AO) (y2 : AV) (Z2 : List AO) (hJ : grJ nz y xs F2 Zb ZJ) (hO : OutT ZJ y xs e y2 Z2) : grG n es L lp T fb nz y xs e F2 m0 Zb Z0 cnt K grD21 (grS21 n es L lp T fb nz y e ZJ y2 Z2) := by
  have hn := hJ.1
  have hn1 : ∀ X : List AO, (ZJ ++ X)[nz]? = some (boxF F2) := fun X => by rw [List.getElem?_append_left (List.getElem?_eq_some_iff.1 hn).1]; exact hn
  have hn2 := hO.2.1 nz _ hn (fun x h => by cases h)
  have hT := hJ.2.1
  obtain ⟨o, cap, rfl, -⟩ := hJ.2.1
  unfold grG grD21 grS21
  dsimp only [List.cons_append, List.nil_append]
  simp -implicitDefEqProofs (disch := omega) [List.getElem?_cons_zero, List.getElem?_cons_succ, wrap_id, -appP_none, hn, hn1, hn2, hF2]
  refine ⟨by kernel_rfl, hcall ZJ y2 Z2 hJ hO _ fun T' Z3 h1 h2 => ?_⟩
  exact ⟨_, Wk_keep [52, 43, 11, 9, 0, 3, 4, 5, 6, 12], _, rfl, T', Z3, h1, h2, rfl⟩
theorem grg22 {K : St → Prop} (hlen : xs.length ≤ 1000) (he : 0 ≤ e ∧ e ≤ 1000000) (hF2 : F2.length = 12)  (ZJ : List AO) (y2 : AV) (Z2 : List AO) (hJ : grJ nz y xs F2 Zb ZJ) (hO : OutT ZJ y xs e y2 Z2) : grG n es L lp T fb nz y xs e F2 m0 Zb Z0 cnt K grD22 (grS22 n es L lp T fb nz y e F2 ZJ y2 Z2) := by
  have hn := hJ.1
  have hn1 : ∀ X : List AO, (ZJ ++ X)[nz]? = some (boxF F2) := fun X => by rw [List.getElem?_append_left (List.getElem?_eq_some_iff.1 hn).1]; exact hn
  have hT := hJ.2.1
  obtain ⟨o, cap, rfl, -⟩ := hJ.2.1
  unfold grG grD22 grS22
  dsimp only [List.cons_append, List.nil_append]
  simp -implicitDefEqProofs (disch := omega) [List.getElem?_cons_zero, List.getElem?_cons_succ, wrap_id, -appP_none, hn, hn1, hF2]
  refine appP_T n es L lp T hT hlen fun y3 Z3 hO3 => ?_
  exact ⟨_, Wk_keep [43, 45, 46, 49, 44, 47, 48, 50, 51, 11, 9, 0, 3, 4, 5, 6, 12], _, rfl, ZJ, y3, Z3, hJ, hO3, rfl⟩
theorem grg23 {K : St → Prop} (hlen : xs.length ≤ 1000) (he : 0 ≤ e ∧ e ≤ 1000000) (hF2 : F2.length = 12) (hcall : ∀ ZJ y2 Z2, grJ nz y xs F2 Zb ZJ → OutT ZJ y xs e y2 Z2 → ∀ K : AV → List AO → Prop, (∀ (T' : List AV) (Z3 : List AO), T'.length = T.length + cnt → FrT y xs Zb Z3 → K (.b true) (trA n es L lp T' ++ Z3)) → HC Try.prog false 36 [y2, .i (e + 1), .p (.agg (F2.map PV.i)), .ptr 4 1 0 0, .ptr 8 1 0 0, .ptr 5 1 0 0, .ptr 9 1 0 0] (trA n es L lp T ++ Z2) K) (ZJ : List AO) (y2 : AV) (Z2 : List AO) (hJ : grJ nz y xs F2 Zb ZJ) (hO : OutT ZJ y xs e y2 Z2) : grG n es L lp T fb nz y xs e F2 m0 Zb Z0 cnt K grD23 (grS23 n es L lp T fb nz y e F2 ZJ y2 Z2) := by
  have hn := hJ.1
  have hn1 : ∀ X : List AO, (ZJ ++ X)[nz]? = some (boxF F2) := fun X => by rw [List.getElem?_append_left (List.getElem?_eq_some_iff.1 hn).1]; exact hn
  have hn2 := hO.2.1 nz _ hn (fun x h => by cases h)
  have hT := hJ.2.1
  obtain ⟨o, cap, rfl, -⟩ := hJ.2.1
  unfold grG grD23 grS23
  dsimp only [List.cons_append, List.nil_append]
  simp -implicitDefEqProofs (disch := omega) [List.getElem?_cons_zero, List.getElem?_cons_succ, wrap_id, -appP_none, hn, hn1, hn2, hF2]
  refine ⟨by kernel_rfl, hcall ZJ y2 Z2 hJ hO _ fun T' Z3 h1 h2 => ?_⟩
  exact ⟨_, Wk_keep [52, 43, 11, 9, 0, 3, 4, 5, 6, 12], _, rfl, T', Z3, h1, h2, rfl⟩
theorem grg24 {K : St → Prop} (hlen : xs.length ≤ 1000) (he : 0 ≤ e ∧ e ≤ 1000000) (hF2 : F2.length = 12) (hcall : ∀ ZJ y2 Z2, grJ nz y xs F2 Zb ZJ → OutT ZJ y xs e y2 Z2 → ∀ K : AV → List AO → Prop, (∀ (T' : List AV) (Z3 : List AO), T'.length = T.length + cnt → FrT y xs Zb Z3 → K (.b true) (trA n es L lp T' ++ Z3)) → HC Try.prog false 36 [y2, .i (e + 1), .p (.agg (F2.map PV.i)), .ptr 4 1 0 0, .ptr 8 1 0 0, .ptr 5 1 0 0, .ptr 9 1 0 0] (trA n es L lp T ++ Z2) K) (ZJ : List AO) (y2 : AV) (Z2 : List AO) (hJ : grJ nz y xs F2 Zb ZJ) (hO : OutT ZJ y xs e y2 Z2) : grG n es L lp T fb nz y xs e F2 m0 Zb Z0 cnt K grD24 (grS24 n es L lp T fb nz y e F2 ZJ y2 Z2) := by
  have hn := hJ.1
  have hn1 : ∀ X : List AO, (ZJ ++ X)[nz]? = some (boxF F2) := fun X => by rw [List.getElem?_append_left (List.getElem?_eq_some_iff.1 hn).1]; exact hn
  have hn2 := hO.2.1 nz _ hn (fun x h => by cases h)
  have hT := hJ.2.1
  obtain ⟨o, cap, rfl, -⟩ := hJ.2.1
  unfold grG grD24 grS24
  dsimp only [List.cons_append, List.nil_append]
  simp -implicitDefEqProofs (disch := omega) [List.getElem?_cons_zero, List.getElem?_cons_succ, wrap_id, -appP_none, hn, hn1, hn2, hF2]
  refine ⟨by kernel_rfl, hcall ZJ y2 Z2 hJ hO _ fun T' Z3 h1 h2 => ?_⟩
  exact ⟨_, Wk_keep [52, 43, 11, 9, 0, 3, 4, 5, 6, 12], _, rfl, T', Z3, h1, h2, rfl⟩
theorem grg25 {K : St → Prop} (hlen : xs.length ≤ 1000) (he : 0 ≤ e ∧ e ≤ 1000000) (hF2 : F2.length = 12) (hcall : ∀ ZJ y2 Z2, grJ nz y xs F2 Zb ZJ → OutT ZJ y xs e y2 Z2 → ∀ K : AV → List AO → Prop, (∀ (T' : List AV) (Z3 : List AO), T'.length = T.length + cnt → FrT y xs Zb Z3 → K (.b true) (trA n es L lp T' ++ Z3)) → HC Try.prog false 36 [y2, .i (e + 1), .p (.agg (F2.map PV.i)), .ptr 4 1 0 0, .ptr 8 1 0 0, .ptr 5 1 0 0, .ptr 9 1 0 0] (trA n es L lp T ++ Z2) K) (ZJ : List AO) (y2 : AV) (Z2 : List AO) (hJ : grJ nz y xs F2 Zb ZJ) (hO : OutT ZJ y xs e y2 Z2) : grG n es L lp T fb nz y xs e F2 m0 Zb Z0 cnt K grD25 (grS25 n es L lp T fb nz y e F2 ZJ y2 Z2) := by
  have hn := hJ.1
  have hn1 : ∀ X : List AO, (ZJ ++ X)[nz]? = some (boxF F2) := fun X => by rw [List.getElem?_append_left (List.getElem?_eq_some_iff.1 hn).1]; exact hn
  have hn2 := hO.2.1 nz _ hn (fun x h => by cases h)
  have hT := hJ.2.1
  obtain ⟨o, cap, rfl, -⟩ := hJ.2.1
  unfold grG grD25 grS25
  dsimp only [List.cons_append, List.nil_append]
  simp -implicitDefEqProofs (disch := omega) [List.getElem?_cons_zero, List.getElem?_cons_succ, wrap_id, -appP_none, hn, hn1, hn2, hF2]
  refine ⟨by kernel_rfl, hcall ZJ y2 Z2 hJ hO _ fun T' Z3 h1 h2 => ?_⟩
  exact ⟨_, Wk_keep [52, 43, 11, 9, 0, 3, 4, 5, 6, 12], _, rfl, T', Z3, h1, h2, rfl⟩
end
end Go.Proofs.Ytojamfbdlfgedaa
end
