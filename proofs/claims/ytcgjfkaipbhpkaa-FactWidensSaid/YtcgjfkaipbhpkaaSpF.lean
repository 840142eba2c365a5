/- Plain facts: bits of two numbers, parts of a product and of a quotient. No condition. -/
import Derived.Test.YtcgjfkaipbhpkaaWMore
import Derived.Test.YtcgjfkaipbhpkaaSpN

set_option linter.unusedSimpArgs false
set_option linter.unusedVariables false
namespace Go.Proofs.Ytcgjfkaipbhpkaa.Sn
open Go.RowKit Go.Proofs.YtcgjfkaipbhpkaaW.PrintWords Go.Proofs.YtcgjfkaipbhpkaaW.PrintLast Go.Proofs.YtcgjfkaipbhpkaaW.PrintMore
theorem toNat_of {x : Int} (h : fits x) : ((BitVec.ofInt 64 x).toNat : Int) = if x < 0 then x + 18446744073709551616 else x := by
  have t := BitVec.toInt_eq_toNat_cond (BitVec.ofInt 64 x)
  rw [PB.ofInt_toInt h.1 h.2] at t
  have l := (BitVec.ofInt 64 x).isLt
  unfold fits at h
  split at t <;> split <;> omega
theorem not_toInt (v : BitVec 64) : (~~~v).toInt = -1 - v.toInt := by
  have t := BitVec.toInt_eq_toNat_cond (~~~v)
  have t2 := BitVec.toInt_eq_toNat_cond v
  have l := v.isLt
  rw [BitVec.toNat_not] at t
  omega
theorem and_l {x y : Int} (hx : fits x) (hy : fits y) (h : 0 ≤ x) : 0 ≤ Go.bits .and .i64 x y ∧ Go.bits .and .i64 x y ≤ x := by
  have n := toNat_of hx
  rw [if_neg (by omega)] at n
  rw [PB.and_toInt]
  have t := BitVec.toInt_eq_toNat_cond (BitVec.ofInt 64 x &&& BitVec.ofInt 64 y)
  rw [BitVec.toNat_and] at t
  have b : (BitVec.ofInt 64 x).toNat &&& (BitVec.ofInt 64 y).toNat ≤ (BitVec.ofInt 64 x).toNat := Nat.and_le_left
  unfold fits at hx
  split at t <;> omega
theorem and_comm' (x y : Int) : Go.bits .and .i64 x y = Go.bits .and .i64 y x := by
  rw [PB.and_toInt, PB.and_toInt, BitVec.and_comm]
theorem and_r {x y : Int} (hx : fits x) (hy : fits y) (h : 0 ≤ y) : 0 ≤ Go.bits .and .i64 x y ∧ Go.bits .and .i64 x y ≤ y := by
  rw [and_comm']; exact and_l hy hx h
theorem and_nn {x y : Int} (hx : fits x) (hy : fits y) (h : x < 0) (g : y < 0) : Go.bits .and .i64 x y ≤ x ∧ Go.bits .and .i64 x y ≤ y := by
  have neg := (PB.and_neg hx.1 hx.2 hy.1 hy.2).mpr ⟨h, g⟩
  have n := toNat_of hx
  have m := toNat_of hy
  rw [if_pos h] at n
  rw [if_pos g] at m
  rw [PB.and_toInt] at *
  have t := BitVec.toInt_eq_toNat_cond (BitVec.ofInt 64 x &&& BitVec.ofInt 64 y)
  rw [BitVec.toNat_and] at t
  have b : (BitVec.ofInt 64 x).toNat &&& (BitVec.ofInt 64 y).toNat ≤ (BitVec.ofInt 64 x).toNat := Nat.and_le_left
  have c : (BitVec.ofInt 64 x).toNat &&& (BitVec.ofInt 64 y).toNat ≤ (BitVec.ofInt 64 y).toNat := Nat.and_le_right
  split at t <;> omega
theorem xor_comm' (x y : Int) : Go.bits .xor .i64 x y = Go.bits .xor .i64 y x := by
  rw [PB.xor_toInt, PB.xor_toInt, BitVec.xor_comm]
theorem xor_nn {x y : Int} (hx : fits x) (hy : fits y) (h : 0 ≤ x) (g : 0 ≤ y) : 0 ≤ Go.bits .xor .i64 x y ∧ Go.bits .xor .i64 x y ≤ ones0 (mx x y) := by
  have n := toNat_of hx
  have m := toNat_of hy
  rw [if_neg (by omega)] at n
  rw [if_neg (by omega)] at m
  rw [PB.xor_toInt]
  have t := BitVec.toInt_eq_toNat_cond (BitVec.ofInt 64 x ^^^ BitVec.ofInt 64 y)
  rw [BitVec.toNat_xor] at t
  have s := mx_spec x y
  have lx : (BitVec.ofInt 64 x).toNat < 2 ^ bl (mx x y).toNat := Nat.lt_of_le_of_lt (by omega) (bl_lt (mx x y).toNat)
  have ly : (BitVec.ofInt 64 y).toNat < 2 ^ bl (mx x y).toNat := Nat.lt_of_le_of_lt (by omega) (bl_lt (mx x y).toNat)
  have b := Nat.xor_lt_two_pow lx ly
  have o := ones_fits (n := mx x y) (by unfold fits at *; omega)
  unfold ones0 at *
  split at t <;> omega
theorem not_ofInt {x : Int} (h : fits x) : BitVec.ofInt 64 (-1 - x) = ~~~(BitVec.ofInt 64 x) := by
  apply BitVec.eq_of_toInt_eq
  rw [not_toInt, PB.ofInt_toInt h.1 h.2, PB.ofInt_toInt (by unfold fits at h; omega) (by unfold fits at h; omega)]
theorem xor_not_l {x : Int} (y : Int) (h : fits x) : Go.bits .xor .i64 (-1 - x) y = -1 - Go.bits .xor .i64 x y := by
  rw [PB.xor_toInt, PB.xor_toInt, not_ofInt h, ← not_toInt, BitVec.not_xor_left]
theorem mul_btw {p x q : Int} (y : Int) (h : p ≤ x) (g : x ≤ q) : (p * y ≤ x * y ∧ x * y ≤ q * y) ∨ (q * y ≤ x * y ∧ x * y ≤ p * y) := by
  rcases Int.le_total 0 y with s | s
  · exact .inl ⟨Int.mul_le_mul_of_nonneg_right h s, Int.mul_le_mul_of_nonneg_right g s⟩
  · exact .inr ⟨Int.mul_le_mul_of_nonpos_right g s, Int.mul_le_mul_of_nonpos_right h s⟩
theorem tdiv_pos_mono {x z y : Int} (hy : 0 < y) (h : x ≤ z) : x.tdiv y ≤ z.tdiv y := Int.tdiv_le_tdiv hy h
theorem tdiv_btw {p x q : Int} (y : Int) (h : p ≤ x) (g : x ≤ q) : (p.tdiv y ≤ x.tdiv y ∧ x.tdiv y ≤ q.tdiv y) ∨ (q.tdiv y ≤ x.tdiv y ∧ x.tdiv y ≤ p.tdiv y) := by
  rcases Int.lt_trichotomy 0 y with s | s | s
  · exact .inl ⟨tdiv_pos_mono s h, tdiv_pos_mono s g⟩
  · subst s; simp
  · have a := tdiv_pos_mono (show 0 < -y by omega) h
    have b := tdiv_pos_mono (show 0 < -y by omega) g
    rw [Int.tdiv_neg, Int.tdiv_neg] at a b
    exact .inr ⟨by omega, by omega⟩
theorem tdiv_down {x y z : Int} (hx : 0 ≤ x) (hy : 0 < y) (h : y ≤ z) : x.tdiv z ≤ x.tdiv y := by
  obtain ⟨n, rfl⟩ := Int.eq_ofNat_of_zero_le hx
  obtain ⟨m, rfl⟩ := Int.eq_ofNat_of_zero_le (show 0 ≤ y by omega)
  obtain ⟨l, rfl⟩ := Int.eq_ofNat_of_zero_le (show 0 ≤ z by omega)
  have := Nat.div_le_div_left (a := n) (show m ≤ l by omega) (by omega)
  rw [← Int.ofNat_tdiv, ← Int.ofNat_tdiv]
  omega
/-- By what one parts moved to either end, of one sign. -/
theorem tdiv_by {y e f : Int} (x : Int) (h : e ≤ y) (g : y ≤ f) (s : 0 < e ∨ f < 0) : (x.tdiv e ≤ x.tdiv y ∧ x.tdiv y ≤ x.tdiv f) ∨ (x.tdiv f ≤ x.tdiv y ∧ x.tdiv y ≤ x.tdiv e) := by
  rcases s with s | s
  · rcases Int.le_total 0 x with t | t
    · exact .inr ⟨tdiv_down t (by omega) g, tdiv_down t s h⟩
    · have a := tdiv_down (show 0 ≤ -x by omega) (show 0 < y by omega) g
      have b := tdiv_down (show 0 ≤ -x by omega) s h
      rw [Int.neg_tdiv, Int.neg_tdiv] at a b
      exact .inl ⟨by omega, by omega⟩
  · rcases Int.le_total 0 x with t | t
    · have a := tdiv_down t (show 0 < -f by omega) (show -f ≤ -y by omega)
      have b := tdiv_down t (show 0 < -y by omega) (show -y ≤ -e by omega)
      rw [Int.tdiv_neg, Int.tdiv_neg] at a b
      exact .inr ⟨by omega, by omega⟩
    · have a := tdiv_down (show 0 ≤ -x by omega) (show 0 < -f by omega) (show -f ≤ -y by omega)
      have b := tdiv_down (show 0 ≤ -x by omega) (show 0 < -y by omega) (show -y ≤ -e by omega)
      rw [Int.neg_tdiv_neg, Int.neg_tdiv_neg] at a b
      exact .inl ⟨by omega, by omega⟩
theorem tmod_bounds {x y : Int} (hy : y ≠ 0) : (x.tmod y).natAbs < y.natAbs ∧ (x.tmod y).natAbs ≤ x.natAbs ∧ (0 ≤ x → 0 ≤ x.tmod y) ∧ (x ≤ 0 → x.tmod y ≤ 0) := by
  refine ⟨?_, ?_, fun h => Int.tmod_nonneg _ h, fun h => ?_⟩
  · rw [Int.natAbs_tmod]; exact Nat.mod_lt _ (by omega)
  · rw [Int.natAbs_tmod]; exact Nat.mod_le _ _
  · have := Int.tmod_nonneg y (show 0 ≤ -x by omega)
    rw [Int.neg_tmod] at this
    omega
end Go.Proofs.Ytcgjfkaipbhpkaa.Sn
