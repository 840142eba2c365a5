/- Plain laws of bit operations of 64-bit numbers, at their lowest three bits. No condition. -/
import Derived.Laws.BitsLemmas
import Derived.RowKit
namespace Go.Proofs.Ytiehdiohoehcpaa.PB
open Go.RowKit

theorem i64_wrap (n : Int) : IntKind.i64.wrap n = (n + 9223372036854775808) % 18446744073709551616 - 9223372036854775808 := IntKind.wrap_i64 n

theorem ofInt_toNat8 (x : Int) : (BitVec.ofInt 64 x).toNat % 2 ^ 3 = (x % 8).toNat := by
  rw [BitVec.toNat_ofInt]
  have : ((2 ^ 64 : Nat) : Int) = 18446744073709551616 := rfl
  rw [this]
  omega

theorem wrap_mod8 (n : Nat) : (IntKind.i64.wrap (n : Int)) % 8 = ((n % 2 ^ 3 : Nat) : Int) := by
  rw [i64_wrap]
  omega

theorem and_mod8 (x y : Int) : Go.bits .and .i64 x y % 8 = (((x % 8).toNat &&& (y % 8).toNat : Nat) : Int) := by
  show IntKind.i64.wrap ((BitVec.ofInt 64 x &&& BitVec.ofInt 64 y).toNat : Int) % 8 = _
  rw [wrap_mod8, BitVec.toNat_and, Nat.and_mod_two_pow, ofInt_toNat8, ofInt_toNat8]
theorem or_mod8 (x y : Int) : Go.bits .or .i64 x y % 8 = (((x % 8).toNat ||| (y % 8).toNat : Nat) : Int) := by
  show IntKind.i64.wrap ((BitVec.ofInt 64 x ||| BitVec.ofInt 64 y).toNat : Int) % 8 = _
  rw [wrap_mod8, BitVec.toNat_or, Nat.or_mod_two_pow, ofInt_toNat8, ofInt_toNat8]
theorem xor_mod8 (x y : Int) : Go.bits .xor .i64 x y % 8 = (((x % 8).toNat ^^^ (y % 8).toNat : Nat) : Int) := by
  show IntKind.i64.wrap ((BitVec.ofInt 64 x ^^^ BitVec.ofInt 64 y).toNat : Int) % 8 = _
  rw [wrap_mod8, BitVec.toNat_xor, Nat.xor_mod_two_pow, ofInt_toNat8, ofInt_toNat8]
theorem not_toNat8 (b : BitVec 64) : (~~~b).toNat % 2 ^ 3 = 7 - b.toNat % 2 ^ 3 := by
  rw [BitVec.toNat_not]
  have := b.isLt
  omega
theorem andNot_mod8 (x y : Int) : Go.bits .andNot .i64 x y % 8 = (((x % 8).toNat &&& (7 - (y % 8).toNat) : Nat) : Int) := by
  show IntKind.i64.wrap ((BitVec.ofInt 64 x &&& ~~~BitVec.ofInt 64 y).toNat : Int) % 8 = _
  rw [wrap_mod8, BitVec.toNat_and, Nat.and_mod_two_pow, ofInt_toNat8, not_toNat8, ofInt_toNat8]

theorem and_mask (x m : Int) (h0 : 0 ≤ m) (h : m < 8) : Go.bits .and .i64 x m = (((x % 8).toNat &&& m.toNat : Nat) : Int) := by
  have hm : (BitVec.ofInt 64 m).toNat = m.toNat := by
    rw [BitVec.toNat_ofInt]
    have : ((2 ^ 64 : Nat) : Int) = 18446744073709551616 := rfl
    rw [this]
    omega
  have e : (BitVec.ofInt 64 x &&& BitVec.ofInt 64 m).toNat = (x % 8).toNat &&& m.toNat := by
    rw [BitVec.toNat_and, hm]
    have l : (BitVec.ofInt 64 x).toNat &&& m.toNat < 2 ^ 3 := Nat.lt_of_le_of_lt Nat.and_le_right (by omega)
    have := Nat.and_mod_two_pow (a := (BitVec.ofInt 64 x).toNat) (b := m.toNat) (n := 3)
    rw [Nat.mod_eq_of_lt l, ofInt_toNat8, Nat.mod_eq_of_lt (show m.toNat < 2 ^ 3 by omega)] at this
    exact this
  show IntKind.i64.wrap ((BitVec.ofInt 64 x &&& BitVec.ofInt 64 m).toNat : Int) = _
  rw [e, i64_wrap]
  have : (x % 8).toNat &&& m.toNat ≤ m.toNat := Nat.and_le_right
  omega
end Go.Proofs.Ytiehdiohoehcpaa.PB
