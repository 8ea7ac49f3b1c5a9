/-
  Texts joined: Acb.
-/
import Derived.Test.YtgbmdikkdjogpaaKb15

section
namespace Go
namespace Abs
open Go.RowKit
def shrN (m k : Nat) : Nat := m / 2 ^ k
def bitN (m k : Nat) : Nat := m / 2 ^ k % 2
def powN (n : Nat) : Nat := 2 ^ n
theorem bitN_01 (m k : Nat) : bitN m k = 0 ∨ bitN m k = 1 := by unfold bitN; omega
theorem wrap_nat {x : Nat} (h : x < 9223372036854775808) : IntKind.i64.wrap (x : Int) = x := wrap_id (by omega) (by omega)
theorem lit_shr {m k : Nat} (hk : k ≤ 63) : litBin false .shr (.int .i64 (m : Int)) (.int .i64 (k : Int)) = some (.int .i64 (shrN m k : Nat)) := by
  have hb : (IntKind.i64.bits : Nat) = 64 := rfl
  simp only [litBin, if_true]
  rw [if_neg (by omega), hb, Int.toNat_natCast, Nat.min_eq_left (by omega)]
  congr 2
  rw [Int.fdiv_eq_ediv_of_nonneg _ (Int.pow_nonneg (by omega)), shrN]
  push_cast
  rfl
theorem bits_and {x y : Nat} (hx : x < 9223372036854775808) (hy : y < 9223372036854775808) : (BitVec.ofInt 64 (x : Int) &&& BitVec.ofInt 64 (y : Int)).toNat = x &&& y := by
  rw [BitVec.ofInt_natCast, BitVec.ofInt_natCast, BitVec.toNat_and, BitVec.toNat_ofNat, BitVec.toNat_ofNat, Nat.mod_eq_of_lt (by omega), Nat.mod_eq_of_lt (by omega)]
theorem lit_and {m k : Nat} (hm : m < 9223372036854775808) : litBin false .and (.int .i64 (shrN m k : Nat)) (.int .i64 1) = some (.int .i64 (bitN m k : Nat)) := by
  have hle : shrN m k ≤ m := Nat.div_le_self _ _
  have e : IntKind.i64.wrap (((BitVec.ofInt 64 ((shrN m k : Nat) : Int) &&& BitVec.ofInt 64 ((1 : Nat) : Int)).toNat : Nat) : Int) = bitN m k := by
    rw [bits_and (by omega) (by omega), Nat.and_one_is_mod, shrN, ← bitN]
    exact wrap_nat (by have := bitN_01 m k; omega)
  show (if IntKind.i64 = IntKind.i64 then some (Value.int .i64 (IntKind.i64.wrap (((BitVec.ofInt 64 ((shrN m k : Nat) : Int) &&& BitVec.ofInt 64 ((1 : Nat) : Int)).toNat : Nat) : Int))) else none) = _
  rw [if_pos rfl, e]
theorem lit_shl {n : Nat} (hn : n ≤ 62) : litBin false .shl (.int .i64 1) (.int .i64 (n : Int)) = some (.int .i64 (powN n : Nat)) := by
  have hb : (IntKind.i64.bits : Nat) = 64 := rfl
  simp only [litBin, if_true]
  rw [if_neg (by omega), hb, Int.toNat_natCast, Nat.min_eq_left (by omega), Int.one_mul]
  congr 2
  have : (2 : Nat) ^ n ≤ 2 ^ 62 := Nat.pow_le_pow_right (by omega) hn
  have h2 : ((2 : Int) ^ n) = ((2 ^ n : Nat) : Int) := by push_cast; rfl
  rw [h2]
  exact wrap_nat (by omega)
end Abs
end Go
end
