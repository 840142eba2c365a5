/- Bit operations of 64-bit numbers by their signs, and with 0. No condition but that the numbers fit. -/
import Derived.Laws.BitsLemmas
import Derived.RowKit
namespace Go.Proofs.Ytcgjfkaipbhpkaa.PB
open Go.RowKit

theorem wrap_toInt (v : BitVec 64) : IntKind.i64.wrap (v.toNat : Int) = v.toInt := by
  rw [IntKind.wrap_i64, BitVec.toInt_eq_toNat_cond]
  have := v.isLt
  split <;> omega
theorem and_toInt (x y : Int) : Go.bits .and .i64 x y = (BitVec.ofInt 64 x &&& BitVec.ofInt 64 y).toInt := wrap_toInt _
theorem or_toInt (x y : Int) : Go.bits .or .i64 x y = (BitVec.ofInt 64 x ||| BitVec.ofInt 64 y).toInt := wrap_toInt _
theorem xor_toInt (x y : Int) : Go.bits .xor .i64 x y = (BitVec.ofInt 64 x ^^^ BitVec.ofInt 64 y).toInt := wrap_toInt _
/-- A number that fits is what its bits tell. -/
theorem ofInt_toInt {x : Int} (h0 : -9223372036854775808 ≤ x) (h1 : x ≤ 9223372036854775807) : (BitVec.ofInt 64 x).toInt = x := by
  rw [BitVec.toInt_ofInt]
  unfold Int.bmod
  have : ((2 ^ 64 : Nat) : Int) = 18446744073709551616 := rfl
  simp only [this]
  split <;> omega
theorem msb_ofInt {x : Int} (h0 : -9223372036854775808 ≤ x) (h1 : x ≤ 9223372036854775807) : (BitVec.ofInt 64 x).msb = decide (x < 0) := by
  rw [BitVec.msb_eq_toInt, ofInt_toInt h0 h1]
theorem and_neg {x y : Int} (x0 : -9223372036854775808 ≤ x) (x1 : x ≤ 9223372036854775807) (y0 : -9223372036854775808 ≤ y) (y1 : y ≤ 9223372036854775807) : Go.bits .and .i64 x y < 0 ↔ x < 0 ∧ y < 0 := by
  have h : (BitVec.ofInt 64 x &&& BitVec.ofInt 64 y).msb = decide (Go.bits .and .i64 x y < 0) := by rw [BitVec.msb_eq_toInt, and_toInt]
  rw [BitVec.msb_and, msb_ofInt x0 x1, msb_ofInt y0 y1] at h
  have := congrArg (· = true) h
  simp at this
  omega
theorem xor_neg {x y : Int} (x0 : -9223372036854775808 ≤ x) (x1 : x ≤ 9223372036854775807) (y0 : -9223372036854775808 ≤ y) (y1 : y ≤ 9223372036854775807) : Go.bits .xor .i64 x y < 0 ↔ ¬ (x < 0 ↔ y < 0) := by
  have h : (BitVec.ofInt 64 x ^^^ BitVec.ofInt 64 y).msb = decide (Go.bits .xor .i64 x y < 0) := by rw [BitVec.msb_eq_toInt, xor_toInt]
  rw [BitVec.msb_xor, msb_ofInt x0 x1, msb_ofInt y0 y1] at h
  by_cases a : x < 0 <;> by_cases b : y < 0 <;> simp [a, b] at h ⊢ <;> omega
theorem and_zero_l (y : Int) : Go.bits .and .i64 0 y = 0 := by
  rw [and_toInt]; simp
theorem and_zero_r (x : Int) : Go.bits .and .i64 x 0 = 0 := by
  rw [and_toInt]; simp
theorem xor_zero_l {y : Int} (y0 : -9223372036854775808 ≤ y) (y1 : y ≤ 9223372036854775807) : Go.bits .xor .i64 0 y = y := by
  rw [xor_toInt]; simp [ofInt_toInt y0 y1]
theorem xor_zero_r {x : Int} (x0 : -9223372036854775808 ≤ x) (x1 : x ≤ 9223372036854775807) : Go.bits .xor .i64 x 0 = x := by
  rw [xor_toInt]; simp [ofInt_toInt x0 x1]
theorem rng {x : Int} (h : (Lit.int .i64 x).wf = true) : -9223372036854775808 ≤ x ∧ x ≤ 9223372036854775807 := by
  simpa [Lit.wf, IntKind.min, IntKind.max, IntKind.signed, IntKind.bits] using h
end Go.Proofs.Ytcgjfkaipbhpkaa.PB
