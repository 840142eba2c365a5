/- Plain facts of numbers that fit: sums, products, quotients. No condition. -/
import Derived.Test.YtcgjfkaipbhpkaaWMore
import Derived.Test.YtcgjfkaipbhpkaaBv

set_option linter.unusedSimpArgs false
set_option linter.unusedVariables false
namespace Go.Proofs.Ytcgjfkaipbhpkaa.Sn
open Go.RowKit Go.Proofs.YtcgjfkaipbhpkaaW.PrintWords Go.Proofs.YtcgjfkaipbhpkaaW.PrintLast Go.Proofs.YtcgjfkaipbhpkaaW.PrintMore
theorem bs {α β : Type} (x : α) (f : α → Option β) : (some x).bind f = f x := by cases h : f x <;> simp [h]
/-- A number fits. -/
def fits (x : Int) : Prop := -9223372036854775808 ≤ x ∧ x ≤ 9223372036854775807
instance (x : Int) : Decidable (fits x) := inferInstanceAs (Decidable (_ ∧ _))
theorem fits_of {x : Int} (h : (Lit.int .i64 x).wf = true) : fits x := by
  simpa [fits, Lit.wf, IntKind.min, IntKind.max, IntKind.signed, IntKind.bits] using h
theorem wr {x : Int} (h : fits x) : wrap64 x = x := by unfold fits at h; unfold wrap64; omega
theorem wr_fits (x : Int) : fits (wrap64 x) := by unfold fits wrap64; omega
theorem wr_ne {x : Int} (h : ¬ fits x) : wrap64 x ≠ x := fun e => h (e ▸ wr_fits x)
theorem mn_spec (a b : Int) : mn a b ≤ a ∧ mn a b ≤ b ∧ (mn a b = a ∨ mn a b = b) := by unfold mn; split <;> omega
theorem mx_spec (a b : Int) : a ≤ mx a b ∧ b ≤ mx a b ∧ (mx a b = a ∨ mx a b = b) := by unfold mx; split <;> omega
theorem xor_fits (x y : Int) : fits (Go.bits .xor .i64 x y) := by
  rw [PB.xor_toInt]
  have h := (BitVec.ofInt 64 x ^^^ BitVec.ofInt 64 y).isLt
  have e := BitVec.toInt_eq_toNat_cond (BitVec.ofInt 64 x ^^^ BitVec.ofInt 64 y)
  unfold fits
  rw [e]
  split <;> omega
theorem and_fits (x y : Int) : fits (Go.bits .and .i64 x y) := by
  rw [PB.and_toInt]
  have h := (BitVec.ofInt 64 x &&& BitVec.ofInt 64 y).isLt
  have e := BitVec.toInt_eq_toNat_cond (BitVec.ofInt 64 x &&& BitVec.ofInt 64 y)
  unfold fits
  rw [e]
  split <;> omega
theorem sum_ok {x y : Int} (hx : fits x) (hy : fits y) : (Go.bits .and .i64 (Go.bits .xor .i64 x (wrap64 (x + y))) (Go.bits .xor .i64 y (wrap64 (x + y))) ≥ 0) ↔ fits (x + y) := by
  have f1 := xor_fits x (wrap64 (x + y)); have f2 := xor_fits y (wrap64 (x + y))
  have n1 := PB.xor_neg hx.1 hx.2 (wr_fits (x + y)).1 (wr_fits (x + y)).2
  have n2 := PB.xor_neg hy.1 hy.2 (wr_fits (x + y)).1 (wr_fits (x + y)).2
  have n3 := PB.and_neg f1.1 f1.2 f2.1 f2.2
  generalize hA : Go.bits .and .i64 (Go.bits .xor .i64 x (wrap64 (x + y))) (Go.bits .xor .i64 y (wrap64 (x + y))) = A at *
  generalize Go.bits .xor .i64 x (wrap64 (x + y)) = B at *
  generalize Go.bits .xor .i64 y (wrap64 (x + y)) = C at *
  unfold fits at *
  unfold wrap64 at *
  omega
theorem less_ok {x y : Int} (hx : fits x) (hy : fits y) : (Go.bits .and .i64 (Go.bits .xor .i64 x y) (Go.bits .xor .i64 x (wrap64 (x - y))) ≥ 0) ↔ fits (x - y) := by
  have f1 := xor_fits x y; have f2 := xor_fits x (wrap64 (x - y))
  have n1 := PB.xor_neg hx.1 hx.2 hy.1 hy.2
  have n2 := PB.xor_neg hx.1 hx.2 (wr_fits (x - y)).1 (wr_fits (x - y)).2
  have n3 := PB.and_neg f1.1 f1.2 f2.1 f2.2
  generalize hA : Go.bits .and .i64 (Go.bits .xor .i64 x y) (Go.bits .xor .i64 x (wrap64 (x - y))) = A at *
  generalize Go.bits .xor .i64 x (wrap64 (x - y)) = B at *
  generalize Go.bits .xor .i64 x y = C at *
  unfold fits at *
  unfold wrap64 at *
  omega
theorem abs_tdiv_le (x y : Int) : (x.tdiv y).natAbs ≤ x.natAbs := by
  rw [Int.natAbs_tdiv]; exact Nat.div_le_self _ _
/-- A quotient fits but where the least number is parted by -1. -/
theorem tdiv_fits {x y : Int} (hx : fits x) (h : ¬ (x = -9223372036854775808 ∧ y = -1)) : fits (x.tdiv y) := by
  have h1 := abs_tdiv_le x y
  unfold fits at *
  by_cases m : x.tdiv y = 9223372036854775808
  · have e : x = -9223372036854775808 := by omega
    have n : y ≠ -1 := fun q => h ⟨e, q⟩
    subst e
    have h2 : ((-9223372036854775808 : Int).tdiv y).natAbs = 9223372036854775808 / y.natAbs := by rw [Int.natAbs_tdiv]; rfl
    rw [m] at h2
    have h3 : y.natAbs = 1 := by
      rcases Nat.lt_or_ge y.natAbs 2 with g | g
      · rcases Nat.eq_zero_or_pos y.natAbs with z | z
        · rw [z] at h2; simp at h2
        · omega
      · have := Nat.div_le_div_left (a := 9223372036854775808) g (by decide : 0 < 2)
        have q : (9223372036854775808 : Int).natAbs = 9223372036854775808 := rfl
        omega
    have : y = 1 := by omega
    subst this
    simp at m
  · omega
/-- A product that is parted again is whole just where it fits. -/
theorem back_ok {x y : Int} (hx : fits x) (hy : fits y) (y0 : y ≠ 0) (y1 : y ≠ -1) : wrap64 ((wrap64 (x * y)).tdiv y) = x ↔ fits (x * y) := by
  constructor
  · intro h
    rw [wr (tdiv_fits (wr_fits _) (fun q => y1 q.2))] at h
    have e := Int.mul_tdiv_add_tmod (wrap64 (x * y)) y
    rw [h, Int.mul_comm y x] at e
    have r : (Int.tmod (wrap64 (x * y)) y).natAbs < y.natAbs := by
      rw [Int.natAbs_tmod]; exact Nat.mod_lt _ (by omega)
    have w := wr_fits (x * y)
    have c : wrap64 (x * y) = x * y := by
      generalize x * y = p at *
      generalize Int.tmod (wrap64 p) y = t at *
      unfold fits wrap64 at *
      omega
    rw [← c]; exact w
  · intro h
    rw [wr h, Int.mul_tdiv_cancel _ y0, wr hx]
/-- How many binary digits a number has. -/
def bl (n : Nat) : Nat := if n = 0 then 0 else n.log2 + 1
/-- All ones, from the first digit of a number. -/
def ones0 (n : Int) : Int := ((2 ^ bl n.toNat : Nat) : Int) - 1
theorem bl_lt (n : Nat) : n < 2 ^ bl n := by
  unfold bl
  split
  · rename_i h; subst h; decide
  · exact Nat.lt_log2_self
theorem bl_le {n k : Nat} : bl n ≤ k ↔ n < 2 ^ k := by
  unfold bl
  split
  · rename_i h; subst h; simp [Nat.pow_pos]
  · rename_i h; rw [← Nat.log2_lt h]; exact Iff.rfl
theorem bl_ge {n : Nat} {k : Nat} (h : k < bl n) : 2 ^ k ≤ n := by
  have : ¬ bl n ≤ k := by omega
  rw [bl_le] at this
  omega
theorem bl_eq {n k : Nat} (h1 : n < 2 ^ k) (h2 : k = 0 ∨ 2 ^ (k - 1) ≤ n) : bl n = k := by
  have a := bl_le.mpr h1
  rcases Nat.lt_or_ge (bl n) k with g | g
  · rcases h2 with h2 | h2
    · omega
    · have := bl_le.mp (show bl n ≤ k - 1 by omega)
      omega
  · omega
theorem bl_shift {n j : Nat} (h : 2 ^ j ≤ n) : bl n = j + bl (n / 2 ^ j) := by
  have p : 0 < 2 ^ j := Nat.pow_pos (by decide)
  have m0 : 0 < n / 2 ^ j := Nat.div_pos h p
  have b0 : bl (n / 2 ^ j) ≠ 0 := by unfold bl; rw [if_neg (by omega)]; omega
  apply bl_eq
  · rw [Nat.pow_add, Nat.mul_comm]
    exact (Nat.div_lt_iff_lt_mul p).mp (bl_lt _)
  · right
    rw [show j + bl (n / 2 ^ j) - 1 = (bl (n / 2 ^ j) - 1) + j by omega, Nat.pow_add]
    exact (Nat.le_div_iff_mul_le p).mp (bl_ge (by omega))
theorem ones_le {n m : Int} (h : n ≤ m) : ones0 n ≤ ones0 m := by
  unfold ones0
  have : bl n.toNat ≤ bl m.toNat := bl_le.mpr (Nat.lt_of_le_of_lt (by omega) (bl_lt m.toNat))
  have := Nat.pow_le_pow_right (show 0 < 2 by decide) this
  omega
theorem le_ones (n : Int) : n ≤ ones0 n := by
  unfold ones0
  have := bl_lt n.toNat
  omega
theorem ones_ge (n : Int) : 0 ≤ ones0 n := by
  unfold ones0
  have : 0 < 2 ^ bl n.toNat := Nat.pow_pos (by decide)
  omega
theorem ones_fits {n : Int} (h : fits n) : ones0 n ≤ 9223372036854775807 := by
  unfold ones0 fits at *
  have : bl n.toNat ≤ 63 := bl_le.mpr (by omega)
  have := Nat.pow_le_pow_right (show 0 < 2 by decide) this
  omega
end Go.Proofs.Ytcgjfkaipbhpkaa.Sn
