/- Own work. No condition. -/
import Derived.Laws.BitsLemmas
import Derived.RowKit

set_option linter.unusedSimpArgs false
set_option linter.unusedVariables false
set_option linter.unusedSectionVars false
namespace Go.Proofs.YtdjkdmjdcdljmaaGreat.Sr
open Go.RowKit
def mn (a b : Int) : Int := if b < a then b else a
def mx (a b : Int) : Int := if b > a then b else a
def an (x y : Int) : Int := IntKind.i64.wrap ((BitVec.ofInt IntKind.i64.bits x &&& BitVec.ofInt IntKind.i64.bits y).toNat : Int)
def xo (x y : Int) : Int := IntKind.i64.wrap ((BitVec.ofInt IntKind.i64.bits x ^^^ BitVec.ofInt IntKind.i64.bits y).toNat : Int)
theorem wrap_toInt (v : BitVec 64) : IntKind.i64.wrap (v.toNat : Int) = v.toInt := by
  rw [IntKind.wrap_i64, BitVec.toInt_eq_toNat_cond]
  have := v.isLt
  split <;> omega
theorem and_toInt (x y : Int) : an x y = (BitVec.ofInt 64 x &&& BitVec.ofInt 64 y).toInt := wrap_toInt _
theorem xor_toInt (x y : Int) : xo x y = (BitVec.ofInt 64 x ^^^ BitVec.ofInt 64 y).toInt := wrap_toInt _
theorem ofInt_toInt {x : Int} (h0 : -9223372036854775808 ≤ x) (h1 : x ≤ 9223372036854775807) : (BitVec.ofInt 64 x).toInt = x := by
  rw [BitVec.toInt_ofInt]
  unfold Int.bmod
  have : ((2 ^ 64 : Nat) : Int) = 18446744073709551616 := rfl
  simp only [this]
  split <;> omega
theorem msb_ofInt {x : Int} (h0 : -9223372036854775808 ≤ x) (h1 : x ≤ 9223372036854775807) : (BitVec.ofInt 64 x).msb = decide (x < 0) := by
  rw [BitVec.msb_eq_toInt, ofInt_toInt h0 h1]
theorem and_neg {x y : Int} (x0 : -9223372036854775808 ≤ x) (x1 : x ≤ 9223372036854775807) (y0 : -9223372036854775808 ≤ y) (y1 : y ≤ 9223372036854775807) : an x y < 0 ↔ x < 0 ∧ y < 0 := by
  have h : (BitVec.ofInt 64 x &&& BitVec.ofInt 64 y).msb = decide (an x y < 0) := by rw [BitVec.msb_eq_toInt, and_toInt]
  rw [BitVec.msb_and, msb_ofInt x0 x1, msb_ofInt y0 y1] at h
  have := congrArg (· = true) h
  simp at this
  omega
theorem xor_neg {x y : Int} (x0 : -9223372036854775808 ≤ x) (x1 : x ≤ 9223372036854775807) (y0 : -9223372036854775808 ≤ y) (y1 : y ≤ 9223372036854775807) : xo x y < 0 ↔ ¬ (x < 0 ↔ y < 0) := by
  have h : (BitVec.ofInt 64 x ^^^ BitVec.ofInt 64 y).msb = decide (xo x y < 0) := by rw [BitVec.msb_eq_toInt, xor_toInt]
  rw [BitVec.msb_xor, msb_ofInt x0 x1, msb_ofInt y0 y1] at h
  by_cases a : x < 0 <;> by_cases b : y < 0 <;> simp [a, b] at h ⊢ <;> omega
theorem and_zero_l (y : Int) : an 0 y = 0 := by
  rw [and_toInt]; simp
theorem and_zero_r (x : Int) : an x 0 = 0 := by
  rw [and_toInt]; simp
theorem xor_zero_l {y : Int} (y0 : -9223372036854775808 ≤ y) (y1 : y ≤ 9223372036854775807) : xo 0 y = y := by
  rw [xor_toInt]; simp [ofInt_toInt y0 y1]
theorem xor_zero_r {x : Int} (x0 : -9223372036854775808 ≤ x) (x1 : x ≤ 9223372036854775807) : xo x 0 = x := by
  rw [xor_toInt]; simp [ofInt_toInt x0 x1]
def fit64 (x : Int) : Prop := -9223372036854775808 ≤ x ∧ x ≤ 9223372036854775807
instance (x : Int) : Decidable (fit64 x) := inferInstanceAs (Decidable (_ ∧ _))
theorem wr {x : Int} (h : fit64 x) : wrap64 x = x := by unfold fit64 at h; unfold wrap64; omega
theorem wr_fits (x : Int) : fit64 (wrap64 x) := by unfold fit64 wrap64; omega
theorem mn_spec (a b : Int) : mn a b ≤ a ∧ mn a b ≤ b ∧ (mn a b = a ∨ mn a b = b) := by unfold mn; split <;> omega
theorem mx_spec (a b : Int) : a ≤ mx a b ∧ b ≤ mx a b ∧ (mx a b = a ∨ mx a b = b) := by unfold mx; split <;> omega
theorem xor_fits (x y : Int) : fit64 (xo x y) := by
  rw [xor_toInt]
  have h := (BitVec.ofInt 64 x ^^^ BitVec.ofInt 64 y).isLt
  have e := BitVec.toInt_eq_toNat_cond (BitVec.ofInt 64 x ^^^ BitVec.ofInt 64 y)
  unfold fit64
  rw [e]
  split <;> omega
theorem and_fits (x y : Int) : fit64 (an x y) := by
  rw [and_toInt]
  have h := (BitVec.ofInt 64 x &&& BitVec.ofInt 64 y).isLt
  have e := BitVec.toInt_eq_toNat_cond (BitVec.ofInt 64 x &&& BitVec.ofInt 64 y)
  unfold fit64
  rw [e]
  split <;> omega
theorem sum_ok {x y : Int} (hx : fit64 x) (hy : fit64 y) : (an (xo x (wrap64 (x + y))) (xo y (wrap64 (x + y))) ≥ 0) ↔ fit64 (x + y) := by
  have f1 := xor_fits x (wrap64 (x + y)); have f2 := xor_fits y (wrap64 (x + y))
  have n1 := xor_neg hx.1 hx.2 (wr_fits (x + y)).1 (wr_fits (x + y)).2
  have n2 := xor_neg hy.1 hy.2 (wr_fits (x + y)).1 (wr_fits (x + y)).2
  have n3 := and_neg f1.1 f1.2 f2.1 f2.2
  generalize hA : an (xo x (wrap64 (x + y))) (xo y (wrap64 (x + y))) = A at *
  generalize xo x (wrap64 (x + y)) = B at *
  generalize xo y (wrap64 (x + y)) = C at *
  unfold fit64 at *
  unfold wrap64 at *
  omega
theorem less_ok {x y : Int} (hx : fit64 x) (hy : fit64 y) : (an (xo x y) (xo x (wrap64 (x - y))) ≥ 0) ↔ fit64 (x - y) := by
  have f1 := xor_fits x y; have f2 := xor_fits x (wrap64 (x - y))
  have n1 := xor_neg hx.1 hx.2 hy.1 hy.2
  have n2 := xor_neg hx.1 hx.2 (wr_fits (x - y)).1 (wr_fits (x - y)).2
  have n3 := and_neg f1.1 f1.2 f2.1 f2.2
  generalize hA : an (xo x y) (xo x (wrap64 (x - y))) = A at *
  generalize xo x (wrap64 (x - y)) = B at *
  generalize xo x y = C at *
  unfold fit64 at *
  unfold wrap64 at *
  omega
theorem abs_tdiv_le (x y : Int) : (x.tdiv y).natAbs ≤ x.natAbs := by
  rw [Int.natAbs_tdiv]; exact Nat.div_le_self _ _
theorem tdiv_fits {x y : Int} (hx : fit64 x) (h : ¬ (x = -9223372036854775808 ∧ y = -1)) : fit64 (x.tdiv y) := by
  have h1 := abs_tdiv_le x y
  unfold fit64 at *
  by_cases m : x.tdiv y = 9223372036854775808
  · have e : x = -9223372036854775808 := by omega
    have n : y ≠ -1 := fun q => h ⟨e, q⟩
    subst e
    have h2 : ((-9223372036854775808 : Int).tdiv y).natAbs = 9223372036854775808 / y.natAbs := by rw [Int.natAbs_tdiv]; rfl
    rw [m] at h2
    have h3 : y.natAbs = 1 := by
      rcases Nat.lt_or_ge y.natAbs 2 with g | g
      · rcases Nat.eq_zero_or_pos y.natAbs with z | z
        · rw [z] at h2; simp at h2
        · omega
      · have := Nat.div_le_div_left (a := 9223372036854775808) g (by decide : 0 < 2)
        have q : (9223372036854775808 : Int).natAbs = 9223372036854775808 := rfl
        omega
    have : y = 1 := by omega
    subst this
    simp at m
  · omega
theorem back_ok {x y : Int} (hx : fit64 x) (hy : fit64 y) (y0 : y ≠ 0) (y1 : y ≠ -1) : wrap64 ((wrap64 (x * y)).tdiv y) = x ↔ fit64 (x * y) := by
  constructor
  · intro h
    rw [wr (tdiv_fits (wr_fits _) (fun q => y1 q.2))] at h
    have e := Int.mul_tdiv_add_tmod (wrap64 (x * y)) y
    rw [h, Int.mul_comm y x] at e
    have r : (Int.tmod (wrap64 (x * y)) y).natAbs < y.natAbs := by
      rw [Int.natAbs_tmod]; exact Nat.mod_lt _ (by omega)
    have w := wr_fits (x * y)
    have c : wrap64 (x * y) = x * y := by
      generalize x * y = p at *
      generalize Int.tmod (wrap64 p) y = t at *
      unfold fit64 wrap64 at *
      omega
    rw [← c]; exact w
  · intro h
    rw [wr h, Int.mul_tdiv_cancel _ y0, wr hx]
def bl (n : Nat) : Nat := if n = 0 then 0 else n.log2 + 1
def ones0 (n : Int) : Int := ((2 ^ bl n.toNat : Nat) : Int) - 1
theorem bl_lt (n : Nat) : n < 2 ^ bl n := by
  unfold bl
  split
  · rename_i h; subst h; decide
  · exact Nat.lt_log2_self
theorem bl_le {n k : Nat} : bl n ≤ k ↔ n < 2 ^ k := by
  unfold bl
  split
  · rename_i h; subst h; simp [Nat.pow_pos]
  · rename_i h; rw [← Nat.log2_lt h]; exact Iff.rfl
theorem bl_ge {n : Nat} {k : Nat} (h : k < bl n) : 2 ^ k ≤ n := by
  have : ¬ bl n ≤ k := by omega
  rw [bl_le] at this
  omega
theorem bl_eq {n k : Nat} (h1 : n < 2 ^ k) (h2 : k = 0 ∨ 2 ^ (k - 1) ≤ n) : bl n = k := by
  have a := bl_le.mpr h1
  rcases Nat.lt_or_ge (bl n) k with g | g
  · rcases h2 with h2 | h2
    · omega
    · have := bl_le.mp (show bl n ≤ k - 1 by omega)
      omega
  · omega
theorem bl_shift {n j : Nat} (h : 2 ^ j ≤ n) : bl n = j + bl (n / 2 ^ j) := by
  have p : 0 < 2 ^ j := Nat.pow_pos (by decide)
  have m0 : 0 < n / 2 ^ j := Nat.div_pos h p
  have b0 : bl (n / 2 ^ j) ≠ 0 := by unfold bl; rw [if_neg (by omega)]; omega
  apply bl_eq
  · rw [Nat.pow_add, Nat.mul_comm]
    exact (Nat.div_lt_iff_lt_mul p).mp (bl_lt _)
  · right
    rw [show j + bl (n / 2 ^ j) - 1 = (bl (n / 2 ^ j) - 1) + j by omega, Nat.pow_add]
    exact (Nat.le_div_iff_mul_le p).mp (bl_ge (by omega))
theorem ones_le {n m : Int} (h : n ≤ m) : ones0 n ≤ ones0 m := by
  unfold ones0
  have : bl n.toNat ≤ bl m.toNat := bl_le.mpr (Nat.lt_of_le_of_lt (by omega) (bl_lt m.toNat))
  have := Nat.pow_le_pow_right (show 0 < 2 by decide) this
  omega
theorem ones_ge (n : Int) : 0 ≤ ones0 n := by
  unfold ones0
  have : 0 < 2 ^ bl n.toNat := Nat.pow_pos (by decide)
  omega
theorem ones_fits {n : Int} (h : fit64 n) : ones0 n ≤ 9223372036854775807 := by
  unfold ones0 fit64 at *
  have : bl n.toNat ≤ 63 := bl_le.mpr (by omega)
  have := Nat.pow_le_pow_right (show 0 < 2 by decide) this
  omega
theorem toNat_of {x : Int} (h : fit64 x) : ((BitVec.ofInt 64 x).toNat : Int) = if x < 0 then x + 18446744073709551616 else x := by
  have t := BitVec.toInt_eq_toNat_cond (BitVec.ofInt 64 x)
  rw [ofInt_toInt h.1 h.2] at t
  have l := (BitVec.ofInt 64 x).isLt
  unfold fit64 at h
  split at t <;> split <;> omega
theorem not_toInt (v : BitVec 64) : (~~~v).toInt = -1 - v.toInt := by
  have t := BitVec.toInt_eq_toNat_cond (~~~v)
  have t2 := BitVec.toInt_eq_toNat_cond v
  have l := v.isLt
  rw [BitVec.toNat_not] at t
  omega
theorem and_l {x y : Int} (hx : fit64 x) (hy : fit64 y) (h : 0 ≤ x) : 0 ≤ an x y ∧ an x y ≤ x := by
  have n := toNat_of hx
  rw [if_neg (by omega)] at n
  rw [and_toInt]
  have t := BitVec.toInt_eq_toNat_cond (BitVec.ofInt 64 x &&& BitVec.ofInt 64 y)
  rw [BitVec.toNat_and] at t
  have b : (BitVec.ofInt 64 x).toNat &&& (BitVec.ofInt 64 y).toNat ≤ (BitVec.ofInt 64 x).toNat := Nat.and_le_left
  unfold fit64 at hx
  split at t <;> omega
theorem and_comm' (x y : Int) : an x y = an y x := by
  rw [and_toInt, and_toInt, BitVec.and_comm]
theorem and_r {x y : Int} (hx : fit64 x) (hy : fit64 y) (h : 0 ≤ y) : 0 ≤ an x y ∧ an x y ≤ y := by
  rw [and_comm']; exact and_l hy hx h
theorem and_nn {x y : Int} (hx : fit64 x) (hy : fit64 y) (h : x < 0) (g : y < 0) : an x y ≤ x ∧ an x y ≤ y := by
  have neg := (and_neg hx.1 hx.2 hy.1 hy.2).mpr ⟨h, g⟩
  have n := toNat_of hx
  have m := toNat_of hy
  rw [if_pos h] at n
  rw [if_pos g] at m
  rw [and_toInt] at *
  have t := BitVec.toInt_eq_toNat_cond (BitVec.ofInt 64 x &&& BitVec.ofInt 64 y)
  rw [BitVec.toNat_and] at t
  have b : (BitVec.ofInt 64 x).toNat &&& (BitVec.ofInt 64 y).toNat ≤ (BitVec.ofInt 64 x).toNat := Nat.and_le_left
  have c : (BitVec.ofInt 64 x).toNat &&& (BitVec.ofInt 64 y).toNat ≤ (BitVec.ofInt 64 y).toNat := Nat.and_le_right
  split at t <;> omega
theorem xor_comm' (x y : Int) : xo x y = xo y x := by
  rw [xor_toInt, xor_toInt, BitVec.xor_comm]
theorem xor_nn {x y : Int} (hx : fit64 x) (hy : fit64 y) (h : 0 ≤ x) (g : 0 ≤ y) : 0 ≤ xo x y ∧ xo x y ≤ ones0 (mx x y) := by
  have n := toNat_of hx
  have m := toNat_of hy
  rw [if_neg (by omega)] at n
  rw [if_neg (by omega)] at m
  rw [xor_toInt]
  have t := BitVec.toInt_eq_toNat_cond (BitVec.ofInt 64 x ^^^ BitVec.ofInt 64 y)
  rw [BitVec.toNat_xor] at t
  have s := mx_spec x y
  have lx : (BitVec.ofInt 64 x).toNat < 2 ^ bl (mx x y).toNat := Nat.lt_of_le_of_lt (by omega) (bl_lt (mx x y).toNat)
  have ly : (BitVec.ofInt 64 y).toNat < 2 ^ bl (mx x y).toNat := Nat.lt_of_le_of_lt (by omega) (bl_lt (mx x y).toNat)
  have b := Nat.xor_lt_two_pow lx ly
  have o := ones_fits (n := mx x y) (by unfold fit64 at *; omega)
  unfold ones0 at *
  split at t <;> omega
theorem not_ofInt {x : Int} (h : fit64 x) : BitVec.ofInt 64 (-1 - x) = ~~~(BitVec.ofInt 64 x) := by
  apply BitVec.eq_of_toInt_eq
  rw [not_toInt, ofInt_toInt h.1 h.2, ofInt_toInt (by unfold fit64 at h; omega) (by unfold fit64 at h; omega)]
theorem xor_not_l {x : Int} (y : Int) (h : fit64 x) : xo (-1 - x) y = -1 - xo x y := by
  rw [xor_toInt, xor_toInt, not_ofInt h, ← not_toInt, BitVec.not_xor_left]
theorem mul_btw {p x q : Int} (y : Int) (h : p ≤ x) (g : x ≤ q) : (p * y ≤ x * y ∧ x * y ≤ q * y) ∨ (q * y ≤ x * y ∧ x * y ≤ p * y) := by
  rcases Int.le_total 0 y with s | s
  · exact .inl ⟨Int.mul_le_mul_of_nonneg_right h s, Int.mul_le_mul_of_nonneg_right g s⟩
  · exact .inr ⟨Int.mul_le_mul_of_nonpos_right g s, Int.mul_le_mul_of_nonpos_right h s⟩
theorem tdiv_pos_mono {x z y : Int} (hy : 0 < y) (h : x ≤ z) : x.tdiv y ≤ z.tdiv y := Int.tdiv_le_tdiv hy h
theorem tdiv_btw {p x q : Int} (y : Int) (h : p ≤ x) (g : x ≤ q) : (p.tdiv y ≤ x.tdiv y ∧ x.tdiv y ≤ q.tdiv y) ∨ (q.tdiv y ≤ x.tdiv y ∧ x.tdiv y ≤ p.tdiv y) := by
  rcases Int.lt_trichotomy 0 y with s | s | s
  · exact .inl ⟨tdiv_pos_mono s h, tdiv_pos_mono s g⟩
  · subst s; simp
  · have a := tdiv_pos_mono (show 0 < -y by omega) h
    have b := tdiv_pos_mono (show 0 < -y by omega) g
    rw [Int.tdiv_neg, Int.tdiv_neg] at a b
    exact .inr ⟨by omega, by omega⟩
theorem tdiv_down {x y z : Int} (hx : 0 ≤ x) (hy : 0 < y) (h : y ≤ z) : x.tdiv z ≤ x.tdiv y := by
  obtain ⟨n, rfl⟩ := Int.eq_ofNat_of_zero_le hx
  obtain ⟨m, rfl⟩ := Int.eq_ofNat_of_zero_le (show 0 ≤ y by omega)
  obtain ⟨l, rfl⟩ := Int.eq_ofNat_of_zero_le (show 0 ≤ z by omega)
  have := Nat.div_le_div_left (a := n) (show m ≤ l by omega) (by omega)
  rw [← Int.ofNat_tdiv, ← Int.ofNat_tdiv]
  omega
theorem tdiv_by {y e f : Int} (x : Int) (h : e ≤ y) (g : y ≤ f) (s : 0 < e ∨ f < 0) : (x.tdiv e ≤ x.tdiv y ∧ x.tdiv y ≤ x.tdiv f) ∨ (x.tdiv f ≤ x.tdiv y ∧ x.tdiv y ≤ x.tdiv e) := by
  rcases s with s | s
  · rcases Int.le_total 0 x with t | t
    · exact .inr ⟨tdiv_down t (by omega) g, tdiv_down t s h⟩
    · have a := tdiv_down (show 0 ≤ -x by omega) (show 0 < y by omega) g
      have b := tdiv_down (show 0 ≤ -x by omega) s h
      rw [Int.neg_tdiv, Int.neg_tdiv] at a b
      exact .inl ⟨by omega, by omega⟩
  · rcases Int.le_total 0 x with t | t
    · have a := tdiv_down t (show 0 < -f by omega) (show -f ≤ -y by omega)
      have b := tdiv_down t (show 0 < -y by omega) (show -y ≤ -e by omega)
      rw [Int.tdiv_neg, Int.tdiv_neg] at a b
      exact .inr ⟨by omega, by omega⟩
    · have a := tdiv_down (show 0 ≤ -x by omega) (show 0 < -f by omega) (show -f ≤ -y by omega)
      have b := tdiv_down (show 0 ≤ -x by omega) (show 0 < -y by omega) (show -y ≤ -e by omega)
      rw [Int.neg_tdiv_neg, Int.neg_tdiv_neg] at a b
      exact .inl ⟨by omega, by omega⟩
theorem tmod_bounds {x y : Int} (hy : y ≠ 0) : (x.tmod y).natAbs < y.natAbs ∧ (x.tmod y).natAbs ≤ x.natAbs ∧ (0 ≤ x → 0 ≤ x.tmod y) ∧ (x ≤ 0 → x.tmod y ≤ 0) := by
  refine ⟨?_, ?_, fun h => Int.tmod_nonneg _ h, fun h => ?_⟩
  · rw [Int.natAbs_tmod]; exact Nat.mod_lt _ (by omega)
  · rw [Int.natAbs_tmod]; exact Nat.mod_le _ _
  · have := Int.tmod_nonneg y (show 0 ≤ -x by omega)
    rw [Int.neg_tmod] at this
    omega
abbrev any : Int × Int × Bool := (-9223372036854775808, 9223372036854775807, true)
def grow (p : Int × Int) (v : Int) : Int × Int := (mn p.1 v, mx p.2 v)
def hull : List Int → Int × Int
  | [] => (0, 0)
  | x :: r => r.foldl grow (x, x)
def hullT (l : List Int) : Int × Int × Bool := if ∀ x ∈ l, fit64 x then ((hull l).1, (hull l).2, true) else any
def eds (c d : Int) : List Int := (if c < 0 then [c, mn d (-1)] else []) ++ (if d > 0 then [mx c 1, d] else [])
def quos (a b : Int) : List Int → List Int
  | [] => []
  | e :: r => a.tdiv e :: b.tdiv e :: quos a b r
def divV (a b c d : Int) : Int × Int × Bool :=
  if eds c d = [] then (0, 0, false) else if a = -9223372036854775808 ∧ c ≤ -1 ∧ -1 ≤ d then any else ((hull (quos a b (eds c d))).1, (hull (quos a b (eds c d))).2, true)
def far (c d : Int) : Int := mx (if c < 0 then -1 - c else 0) (if d > 0 then d - 1 else 0)
def remV (a b c d : Int) : Int × Int × Bool :=
  if c = 0 ∧ d = 0 then (0, 0, false) else (if a < 0 then mx a (-far c d) else 0, if b > 0 then mn b (far c d) else 0, true)
def andV (a b c d : Int) : Int × Int :=
  if a ≥ 0 ∧ c ≥ 0 then (0, mn b d) else if a ≥ 0 then (0, b) else if c ≥ 0 then (0, d) else if b < 0 ∧ d < 0 then (-9223372036854775808, mn b d) else (-9223372036854775808, mx b d)
def xorV (a b c d : Int) : Int × Int :=
  if a ≥ 0 ∧ c ≥ 0 then (0, ones0 (mx b d)) else if b < 0 ∧ d < 0 then (0, ones0 (mx (-1 - a) (-1 - c))) else if b < 0 ∧ c ≥ 0 then (-1 - ones0 (mx (-1 - a) d), -1)
  else if a ≥ 0 ∧ d < 0 then (-1 - ones0 (mx b (-1 - c)), -1) else (-9223372036854775808, 9223372036854775807)
def twoV (op a b c d : Int) : Int × Int × Bool :=
  if op = 4 then hullT [a + c, b + d] else if op = 5 then hullT [a - d, b - c] else if op = 6 then hullT [a * c, a * d, b * c, b * d]
  else if op = 7 then divV a b c d else if op = 8 then remV a b c d else if op = 9 then ((andV a b c d).1, (andV a b c d).2, true) else if op = 10 then ((xorV a b c d).1, (xorV a b c d).2, true)
  else if op = 11 then (if b < c then (1, 1, true) else if a ≥ d then (0, 0, true) else (0, 1, true))
  else if op = 12 then (if a = b ∧ a = c ∧ b = d then (1, 1, true) else if b < c ∨ d < a then (0, 0, true) else (0, 1, true))
  else (0, 0, false)
theorem ne_of_mem_eds {c d e : Int} (h : c ≤ d) (he : e ∈ eds c d) : e ≠ 0 ∧ c ≤ e ∧ e ≤ d := by
  unfold eds at he
  have m1 := mn_spec d (-1); have m2 := mx_spec c 1
  rcases List.mem_append.mp he with h1 | h1
  · split at h1
    · simp only [List.mem_cons, List.not_mem_nil, or_false] at h1; omega
    · cases h1
  · split at h1
    · simp only [List.mem_cons, List.not_mem_nil, or_false] at h1; omega
    · cases h1
theorem xor_m1 {x : Int} (h : fit64 x) : xo (-1) x = -1 - x := by
  rw [xor_toInt]
  have e : BitVec.ofInt 64 (-1) = BitVec.allOnes 64 := by decide
  have q := ofInt_toInt h.1 h.2
  generalize BitVec.ofInt 64 x = v at *
  have n : BitVec.allOnes 64 ^^^ v = ~~~v := (BitVec.not_def).symm
  have t := BitVec.toInt_eq_toNat_cond (~~~v)
  have t2 := BitVec.toInt_eq_toNat_cond v
  have l := v.isLt
  rw [BitVec.toNat_not] at t
  rw [e, n]
  omega
theorem far_ge (c d : Int) : 0 ≤ far c d := by
  unfold far mx
  split <;> split <;> split <;> omega
theorem far_fits {c d : Int} (hc : fit64 c) (hd : fit64 d) : far c d ≤ 9223372036854775807 := by
  unfold far mx fit64 at *
  split <;> split <;> split <;> omega
theorem rest_ends (F a b : Int) (h : 0 ≤ F) : mn 0 (mx a (-F)) = (if a < 0 then mx a (-F) else 0) ∧ mx 0 (mn b F) = (if b > 0 then mn b F else 0) := by
  have m1 := mn_spec 0 (mx a (-F)); have m2 := mx_spec a (-F); have m3 := mx_spec 0 (mn b F); have m4 := mn_spec b F
  refine ⟨?_, ?_⟩
  · by_cases h : a < 0
    · rw [if_pos h]; omega
    · rw [if_neg h]; omega
  · by_cases h : b > 0
    · rw [if_pos h]; omega
    · rw [if_neg h]; omega
theorem fits_not {a : Int} (h : fit64 a) : fit64 (-1 - a) := by unfold fit64 at *; omega
theorem fits_mx {a b : Int} (h : fit64 a) (g : fit64 b) : fit64 (mx a b) := by unfold mx; split <;> assumption
theorem fits_mn {a b : Int} (h : fit64 a) (g : fit64 b) : fit64 (mn a b) := by unfold mn; split <;> assumption
def within (v : Int × Int × Bool) (n : Int) : Prop := v.2.2 = true ∧ v.1 ≤ n ∧ n ≤ v.2.1
theorem hull_bounds : ∀ (l : List Int) (p : Int × Int), ((l.foldl grow p).1 ≤ p.1 ∧ p.2 ≤ (l.foldl grow p).2) ∧ ∀ v ∈ l, (l.foldl grow p).1 ≤ v ∧ v ≤ (l.foldl grow p).2
  | [], p => ⟨⟨Int.le_refl _, Int.le_refl _⟩, fun v h => by cases h⟩
  | x :: r, p => by
    obtain ⟨⟨h1, h2⟩, h3⟩ := hull_bounds r (grow p x)
    have m1 := mn_spec p.1 x; have m2 := mx_spec p.2 x
    have e1 : (grow p x).1 = mn p.1 x := rfl
    have e2 : (grow p x).2 = mx p.2 x := rfl
    rw [List.foldl_cons]
    refine ⟨⟨by omega, by omega⟩, fun v hv => ?_⟩
    rcases List.mem_cons.mp hv with rfl | hv
    · exact ⟨by omega, by omega⟩
    · exact h3 v hv
theorem hull_has {l : List Int} {v : Int} (h : v ∈ l) : (hull l).1 ≤ v ∧ v ≤ (hull l).2 := by
  cases l with
  | nil => cases h
  | cons x r =>
    obtain ⟨⟨h1, h2⟩, h3⟩ := hull_bounds r (x, x)
    rcases List.mem_cons.mp h with rfl | h
    · exact ⟨h1, h2⟩
    · exact h3 v h
theorem hullT_has {l : List Int} {u v n : Int} (hu : u ∈ l) (hv : v ∈ l) (h1 : u ≤ n) (h2 : n ≤ v) : within (hullT l) (wrap64 n) := by
  unfold hullT
  by_cases f : ∀ x ∈ l, fit64 x
  · have a := f u hu; have b := f v hv
    rw [if_pos f, wr (by unfold fit64 at *; omega)]
    have c := hull_has hu; have d := hull_has hv
    exact ⟨rfl, by show (hull l).1 ≤ n; omega, by show n ≤ (hull l).2; omega⟩
  · rw [if_neg f]
    have w := wr_fits n
    exact ⟨rfl, w.1, w.2⟩
theorem quos_has (a b : Int) : ∀ (l : List Int) (e : Int), e ∈ l → a.tdiv e ∈ quos a b l ∧ b.tdiv e ∈ quos a b l
  | [], e, h => by cases h
  | x :: r, e, h => by
    rw [quos]
    rcases List.mem_cons.mp h with rfl | h
    · exact ⟨by simp, by simp⟩
    · obtain ⟨h1, h2⟩ := quos_has a b r e h
      exact ⟨by simp [h1], by simp [h2]⟩
theorem sound4 {p q r s x y : Int} (h1 : p ≤ x) (h2 : x ≤ q) (h3 : r ≤ y) (h4 : y ≤ s) : within (hullT [p + r, q + s]) (wrap64 (x + y)) :=
  hullT_has (u := p + r) (v := q + s) (by simp) (by simp) (by omega) (by omega)
theorem sound5 {p q r s x y : Int} (h1 : p ≤ x) (h2 : x ≤ q) (h3 : r ≤ y) (h4 : y ≤ s) : within (hullT [p - s, q - r]) (wrap64 (x - y)) :=
  hullT_has (u := p - s) (v := q - r) (by simp) (by simp) (by omega) (by omega)
theorem sound6 {p q r s x y : Int} (h1 : p ≤ x) (h2 : x ≤ q) (h3 : r ≤ y) (h4 : y ≤ s) : within (hullT [p * r, p * s, q * r, q * s]) (wrap64 (x * y)) := by
  have a := mul_btw y h1 h2
  have b := mul_btw p h3 h4
  have c := mul_btw q h3 h4
  rw [Int.mul_comm r p, Int.mul_comm y p, Int.mul_comm s p] at b
  rw [Int.mul_comm r q, Int.mul_comm y q, Int.mul_comm s q] at c
  have u : ∃ u ∈ [p * r, p * s, q * r, q * s], u ≤ x * y := by
    rcases a with a | a <;> rcases b with b | b <;> rcases c with c | c <;> first
      | exact ⟨p * r, by simp, by omega⟩
      | exact ⟨p * s, by simp, by omega⟩
      | exact ⟨q * r, by simp, by omega⟩
      | exact ⟨q * s, by simp, by omega⟩
  have v : ∃ v ∈ [p * r, p * s, q * r, q * s], x * y ≤ v := by
    rcases a with a | a <;> rcases b with b | b <;> rcases c with c | c <;> first
      | exact ⟨p * r, by simp, by omega⟩
      | exact ⟨p * s, by simp, by omega⟩
      | exact ⟨q * r, by simp, by omega⟩
      | exact ⟨q * s, by simp, by omega⟩
  obtain ⟨u, hu, u1⟩ := u
  obtain ⟨v, hv, v1⟩ := v
  exact hullT_has hu hv u1 v1
theorem sound7 {p q r s x y : Int} (hx : fit64 x) (h1 : p ≤ x) (h2 : x ≤ q) (h3 : r ≤ y) (h4 : y ≤ s) (y0 : y ≠ 0) (hp : fit64 p) : within (divV p q r s) (wrap64 (x.tdiv y)) := by
  have m1 := mn_spec s (-1); have m2 := mx_spec r 1
  obtain ⟨e, f, he, hf, e1, f1, es⟩ : ∃ e f, e ∈ eds r s ∧ f ∈ eds r s ∧ e ≤ y ∧ y ≤ f ∧ (0 < e ∨ f < 0) := by
    unfold eds
    rcases Int.lt_or_gt_of_ne y0 with g | g
    · rw [if_pos (show r < 0 by omega)]
      exact ⟨r, mn s (-1), by simp, by simp, h3, by omega, .inr (by omega)⟩
    · rw [if_pos (show s > 0 by omega)]
      exact ⟨mx r 1, s, by simp, by simp, by omega, h4, .inl (by omega)⟩
  have ne : eds r s ≠ [] := fun h => by rw [h] at he; cases he
  unfold divV
  rw [if_neg ne]
  by_cases full : p = -9223372036854775808 ∧ r ≤ -1 ∧ -1 ≤ s
  · rw [if_pos full]
    have w := wr_fits (x.tdiv y)
    exact ⟨rfl, w.1, w.2⟩
  rw [if_neg full, wr (tdiv_fits hx (fun h => full (by unfold fit64 at *; omega)))]
  obtain ⟨pe, qe⟩ := quos_has p q _ e he
  obtain ⟨pf, qf⟩ := quos_has p q _ f hf
  have b1 := hull_has pe; have b2 := hull_has qe; have b3 := hull_has pf; have b4 := hull_has qf
  have a := tdiv_btw y h1 h2
  have b := tdiv_by p e1 f1 es
  have c := tdiv_by q e1 f1 es
  refine ⟨rfl, ?_, ?_⟩
  · show (hull (quos p q (eds r s))).1 ≤ x.tdiv y
    omega
  · show x.tdiv y ≤ (hull (quos p q (eds r s))).2
    omega
theorem sound8 {p q r s x y : Int} (h1 : p ≤ x) (h2 : x ≤ q) (h3 : r ≤ y) (h4 : y ≤ s) (y0 : y ≠ 0) : within (remV p q r s) (x.tmod y) := by
  obtain ⟨b1, b2, b3, b4⟩ := tmod_bounds (x := x) y0
  have F : (y.natAbs : Int) - 1 ≤ far r s := by
    unfold far
    have m := mx_spec (if r < 0 then -1 - r else 0) (if s > 0 then s - 1 else 0)
    by_cases g : r < 0
    · rw [if_pos g] at m ⊢
      by_cases h : s > 0
      · rw [if_pos h] at m ⊢; omega
      · rw [if_neg h] at m ⊢; omega
    · rw [if_neg g] at m ⊢
      by_cases h : s > 0
      · rw [if_pos h] at m ⊢; omega
      · rw [if_neg h] at m ⊢; omega
  unfold remV
  rw [if_neg (by omega)]
  have m1 := mx_spec p (-far r s); have m2 := mn_spec q (far r s)
  refine ⟨rfl, ?_, ?_⟩
  · show (if p < 0 then mx p (-far r s) else 0) ≤ x.tmod y
    split <;> omega
  · show x.tmod y ≤ (if q > 0 then mn q (far r s) else 0)
    split <;> omega
theorem sound9 {p q r s x y : Int} (hx : fit64 x) (hy : fit64 y) (h1 : p ≤ x) (h2 : x ≤ q) (h3 : r ≤ y) (h4 : y ≤ s) : (andV p q r s).1 ≤ an x y ∧ an x y ≤ (andV p q r s).2 := by
  have f := and_fits x y
  have m1 := mn_spec q s; have m2 := mx_spec q s
  have a := fun h => and_l hx hy h
  have b := fun h => and_r hx hy h
  have c := fun h g => and_nn hx hy h g
  unfold andV
  generalize an x y = n at *
  unfold fit64 at *
  by_cases p0 : 0 ≤ x
  · have a := a p0
    by_cases r0 : 0 ≤ y
    · have b := b r0
      split
      · exact ⟨by omega, by show n ≤ mn q s; omega⟩
      split
      · exact ⟨by omega, by show n ≤ q; omega⟩
      split
      · exact ⟨by omega, by show n ≤ s; omega⟩
      split
      · omega
      · exact ⟨by show -9223372036854775808 ≤ n; omega, by show n ≤ mx q s; omega⟩
    · split
      · omega
      split
      · exact ⟨by omega, by show n ≤ q; omega⟩
      split
      · omega
      split
      · omega
      · exact ⟨by show -9223372036854775808 ≤ n; omega, by show n ≤ mx q s; omega⟩
  · by_cases r0 : 0 ≤ y
    · have b := b r0
      split
      · omega
      split
      · omega
      split
      · exact ⟨by omega, by show n ≤ s; omega⟩
      split
      · omega
      · exact ⟨by show -9223372036854775808 ≤ n; omega, by show n ≤ mx q s; omega⟩
    · have c := c (by omega) (by omega)
      split
      · omega
      split
      · omega
      split
      · omega
      split
      · exact ⟨by show -9223372036854775808 ≤ n; omega, by show n ≤ mn q s; omega⟩
      · exact ⟨by show -9223372036854775808 ≤ n; omega, by show n ≤ mx q s; omega⟩
theorem sound10 {p q r s x y : Int} (hx : fit64 x) (hy : fit64 y) (h1 : p ≤ x) (h2 : x ≤ q) (h3 : r ≤ y) (h4 : y ≤ s) : (xorV p q r s).1 ≤ xo x y ∧ xo x y ≤ (xorV p q r s).2 := by
  have f := xor_fits x y
  have nx := xor_not_l y hx
  have ny : xo x (-1 - y) = -1 - xo x y := by rw [xor_comm', xor_not_l x hy, xor_comm']
  have nn : xo (-1 - x) (-1 - y) = xo x y := by
    rw [xor_not_l _ hx, ny]; omega
  unfold xorV
  by_cases g1 : p ≥ 0 ∧ r ≥ 0
  · rw [if_pos g1]
    have a := xor_nn hx hy (by omega) (by omega)
    have m1 := mx_spec x y; have m2 := mx_spec q s
    have b := ones_le (show mx x y ≤ mx q s by omega)
    exact ⟨a.1, by show _ ≤ ones0 (mx q s); omega⟩
  rw [if_neg g1]
  by_cases g2 : q < 0 ∧ s < 0
  · rw [if_pos g2]
    have a := xor_nn (fits_not hx) (fits_not hy) (by omega) (by omega)
    have m1 := mx_spec (-1 - x) (-1 - y); have m2 := mx_spec (-1 - p) (-1 - r)
    have b := ones_le (show mx (-1 - x) (-1 - y) ≤ mx (-1 - p) (-1 - r) by omega)
    rw [nn] at a
    exact ⟨a.1, by show _ ≤ ones0 (mx (-1 - p) (-1 - r)); omega⟩
  rw [if_neg g2]
  by_cases g3 : q < 0 ∧ r ≥ 0
  · rw [if_pos g3]
    have a := xor_nn (fits_not hx) hy (by omega) (by omega)
    have m1 := mx_spec (-1 - x) y; have m2 := mx_spec (-1 - p) s
    have b := ones_le (show mx (-1 - x) y ≤ mx (-1 - p) s by omega)
    rw [nx] at a
    exact ⟨by show -1 - ones0 (mx (-1 - p) s) ≤ _; omega, by show _ ≤ (-1 : Int); omega⟩
  rw [if_neg g3]
  by_cases g4 : p ≥ 0 ∧ s < 0
  · rw [if_pos g4]
    have a := xor_nn hx (fits_not hy) (by omega) (by omega)
    have m1 := mx_spec x (-1 - y); have m2 := mx_spec q (-1 - r)
    have b := ones_le (show mx x (-1 - y) ≤ mx q (-1 - r) by omega)
    rw [ny] at a
    exact ⟨by show -1 - ones0 (mx q (-1 - r)) ≤ _; omega, by show _ ≤ (-1 : Int); omega⟩
  rw [if_neg g4]
  exact f
def oneV (op a b : Int) : Int × Int × Bool :=
  if op = 2 then (a, b, true) else if op = 3 then (if a = -9223372036854775808 then (if b = -9223372036854775808 then (a, b, true) else any) else (-b, -a, true)) else (0, 0, false)
def branchV (a b : Int) (yes : Bool) : Int × Int × Bool :=
  if yes = true then (if a = 0 ∧ b = 0 then (0, 0, false) else if a = 0 then (1, b, true) else if b = 0 then (a, -1, true) else (a, b, true)) else (0, 0, decide (a ≤ 0) && decide (0 ≤ b))
end Go.Proofs.YtdjkdmjdcdljmaaGreat.Sr
