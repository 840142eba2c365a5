/- Numbers as bytes, and back. No condition beside those stated. -/
import Derived.Test.YtdjkdmjdcdljmaaGreatRg

namespace Go.Proofs.YtdjkdmjdcdljmaaGreat.AR
open Go.Proofs.YtdjkdmjdcdljmaaGreatX
set_option linter.unusedVariables false
set_option linter.unusedSimpArgs false
set_option maxRecDepth 100000
set_option maxHeartbeats 4000000
variable {K : Nat}

/-- A number's bytes. -/
def encN : Nat → Nat → List Int
  | 0, n => [((n : Nat) : Int)]
  | f + 1, n => if n < 128 then [((n : Nat) : Int)] else (((n % 128 + 128 : Nat)) : Int) :: encN f (n / 128)
abbrev encU (n : Nat) : List Int := encN 9 n
theorem encU_small {n : Nat} (h : n < 128) : encU n = [((n : Nat) : Int)] := by simp [encU, encN, h]
theorem encN_len : ∀ (f n : Nat), 1 ≤ (encN f n).length ∧ (encN f n).length ≤ f + 1
  | 0, n => by simp [encN]
  | f + 1, n => by
    have := encN_len f (n / 128)
    unfold encN
    split <;> simp <;> omega
theorem toNat_of {n : Nat} (h : n < 18446744073709551616) : (BitVec.ofInt 64 ((n : Nat) : Int)).toNat = n := by
  simp [BitVec.toNat_ofInt]; omega
theorem toNat8_of {n : Nat} (h : n < 256) : (BitVec.ofInt 8 ((n : Nat) : Int)).toNat = n := by
  simp [BitVec.toNat_ofInt]; omega
theorem and127 {n : Nat} (h : n < 18446744073709551616) : (BitVec.ofInt 64 ((n : Nat) : Int) &&& BitVec.ofInt 64 (127 : Int)).toNat = n % 128 := by
  rw [BitVec.toNat_and, toNat_of h]
  show n &&& 127 = n % 128
  exact Nat.and_two_pow_sub_one_eq_mod n 7
theorem and127b {n : Nat} (h : n < 256) : (BitVec.ofInt 8 ((n : Nat) : Int) &&& BitVec.ofInt 8 (127 : Int)).toNat = n % 128 := by
  rw [BitVec.toNat_and, toNat8_of h]
  show n &&& 127 = n % 128
  exact Nat.and_two_pow_sub_one_eq_mod n 7
theorem or128 : ∀ n : Fin 128, (BitVec.ofInt 8 ((n.val : Nat) : Int) ||| BitVec.ofInt 8 (128 : Int)).toNat = n.val + 128 := by decide +kernel
theorem and128 : ∀ n : Fin 256, (BitVec.ofInt 8 ((n.val : Nat) : Int) &&& BitVec.ofInt 8 (128 : Int)).toNat = if n.val < 128 then 0 else 128 := by decide +kernel
theorem byte_val {b : Int} {l : List Int} (h : l.length < 100000) : wire_Writer_Byte.f K b l = some (l ++ [b]) := by
  unfold wire_Writer_Byte.f
  have : Nat.ble (l.length + [b].length) 100000 = true := Nat.ble_eq_true_of_le (by simp; omega)
  rw [this]; rfl
theorem uint_l0 : ∀ (f n k : Nat) (l : List Int), n < 128 ^ (f + 1) → n < 18446744073709551616 → f < k → l.length + f + 1 ≤ 100000 → ∃ m : Nat, m < 128 ∧ ∃ l', wire_Writer_Uint.l0.f K k ((n : Nat) : Int) l = some (((m : Nat) : Int), l') ∧ l' ++ [((m : Nat) : Int)] = l ++ encN f n ∧ l'.length < 100000
  | f, n, 0, l, hn, hn2, hk, hl => by omega
  | f, n, k + 1, l, hn, hn2, hk, hl => by
    rw [wire_Writer_Uint.l0.f]
    by_cases h : n < 128
    · have e : decide (((n : Nat) : Int) > (127 : Int)) = false := by simp; omega
      simp only [e, cond_false]
      refine ⟨n, h, l, rfl, ?_, by omega⟩
      cases f <;> simp [encN, h]
    · have e : decide (((n : Nat) : Int) > (127 : Int)) = true := by simp; omega
      have b1 : IntKind.u8.wrap (IntKind.u64.wrap (((BitVec.ofInt 64 ((n : Nat) : Int) &&& BitVec.ofInt 64 (127 : Int)).toNat : Nat) : Int)) = ((n % 128 : Nat) : Int) := by
        rw [and127 hn2, wrapU_of (by omega) (by omega), wrap8_of (by omega) (by omega)]
      have b2 : IntKind.u8.wrap (((BitVec.ofInt 8 ((n % 128 : Nat) : Int) ||| BitVec.ofInt 8 (128 : Int)).toNat : Nat) : Int) = ((n % 128 + 128 : Nat) : Int) := by
        rw [or128 ⟨n % 128, by omega⟩, wrap8_of (by omega) (by omega)]
      have b3 : (((n : Nat) : Int).fdiv ((2 : Int) ^ 7)) = ((n / 128 : Nat) : Int) := by
        rw [Int.fdiv_eq_ediv_of_nonneg _ (by decide)]; simp
      match f, hn, hk, hl with
      | 0, hn, _, _ => exact absurd hn (by simpa using h)
      | f + 1, hn, hk, hl =>
        simp only [e, cond_true, b1, b2, b3, byte_val (K := K) (l := l) (show l.length < 100000 by omega), some_bind]
        obtain ⟨m, h1, l', h2, h3, h4⟩ := uint_l0 f (n / 128) k (l ++ [((n % 128 + 128 : Nat) : Int)]) (by rw [Nat.pow_succ] at hn; exact Nat.div_lt_of_lt_mul (by rw [Nat.mul_comm]; exact hn)) (by omega) (by omega) (by simp; omega)
        refine ⟨m, h1, l', h2, ?_, h4⟩
        rw [h3]
        simp [encN, h]
theorem uint_val (hK : 2000 ≤ K) {n : Nat} {l : List Int} (hn : n < 18446744073709551616) (hl : l.length + 10 ≤ 100000) : wire_Writer_Uint.f K ((n : Nat) : Int) l = some (l ++ encU n) := by
  unfold wire_Writer_Uint.f
  obtain ⟨m, h1, l', h2, h3, h4⟩ := uint_l0 (K := K) 9 n K l (by omega) hn (by omega) hl
  rw [h2]
  simp only [some_bind, wrap8_of (n := ((m : Nat) : Int)) (by omega) (by omega), byte_val (K := K) (l := l') h4, h3]
/-- As the program lays small numbers. -/
theorem uintS_val (hK : 2000 ≤ K) {n : Int} {l : List Int} (h0 : 0 ≤ n) (hn : n < 128) (hl : l.length + 10 ≤ 100000) : wire_Writer_Uint.f K (IntKind.u64.wrap n) l = some (l ++ [n]) := by
  obtain ⟨m, rfl⟩ : ∃ m : Nat, n = m := ⟨n.toNat, by omega⟩
  rw [wrapU_of (by omega) (by omega), uint_val hK (by omega) hl, encU_small (by omega)]
/-! ### Back -/
theorem or_add {a b i : Nat} (h : b < 2 ^ i) : b ||| a * 2 ^ i = b + a * 2 ^ i := by
  rw [Nat.or_comm, ← Nat.shiftLeft_eq, Nat.add_comm]
  exact (Nat.shiftLeft_add_eq_or_of_lt h a).symm
theorem look_l0 {most : Nat} : ∀ (f i acc n k : Nat) (l pre post : List Int) (p : Nat), acc < 2 ^ (7 * i) → acc + n * 2 ^ (7 * i) < 18446744073709551616 → n < 128 ^ (f + 1) → (0 < i → 0 < n) → i ≤ 9 → l = pre ++ (encN f n ++ post) → pre.length = p + i → l.length ≤ 100000 → f < k → acc + n * 2 ^ (7 * i) ≤ most →
    wire_Reader_look.l0.f K k ((most : Nat) : Int) ((acc : Nat) : Int) ((i : Nat) : Int) l ((p : Nat) : Int) = some (.inr (((acc + n * 2 ^ (7 * i) : Nat) : Int), ((i + (encN f n).length : Nat) : Int), 0))
  | f, i, acc, n, 0, l, pre, post, p, ha, hv, hn, hi, h9, h, hp, hl, hk, hm => by omega
  | f, i, acc, n, k + 1, l, pre, post, p, ha, hv, hn, hi, h9, h, hp, hl, hk, hm => by
    rw [wire_Reader_look.l0.f]
    have hpl : p + i < l.length := by
      have := congrArg List.length h
      have := encN_len f n
      simp at *
      omega
    have e1 : decide (((i : Nat) : Int) < (10 : Int)) = true := by simp; omega
    have w1 : IntKind.i64.wrap (((p : Nat) : Int) + ((i : Nat) : Int)) = ((p + i : Nat) : Int) := by rw [wrap64_of (by omega) (by omega)]; simp
    have e2 : (((p + i : Nat) : Int) == ((l.length : Nat) : Int)) = false := beq_eq_false_iff_ne.2 (by omega)
    have w2 : IntKind.i64.wrap ((7 : Int) * ((i : Nat) : Int)) = ((7 * i : Nat) : Int) := by rw [wrap64_of (by omega) (by omega)]; simp
    have w3 : IntKind.i64.wrap (((i : Nat) : Int) + (1 : Int)) = ((i + 1 : Nat) : Int) := by rw [wrap64_of (by omega) (by omega)]; simp
    have e3 : decide (((7 * i : Nat) : Int) < (0 : Int)) = false := by simp; omega
    have hmin : min (7 * i) 64 = 7 * i := by omega
    have hP : 0 < 2 ^ (7 * i) := Nat.two_pow_pos _
    -- what the bits come to
    have bits : ∀ c : Nat, c < 256 → acc + (c % 128) * 2 ^ (7 * i) < 18446744073709551616 → IntKind.u64.wrap (((BitVec.ofInt 64 ((acc : Nat) : Int) ||| BitVec.ofInt 64 (IntKind.u64.wrap (IntKind.u64.wrap (IntKind.u8.wrap (((BitVec.ofInt 8 ((c : Nat) : Int) &&& BitVec.ofInt 8 (127 : Int)).toNat : Nat) : Int)) * (2 : Int) ^ min (7 * i) 64))).toNat : Nat) : Int) = ((acc + (c % 128) * 2 ^ (7 * i) : Nat) : Int) := by
      intro c hc hb
      have hle : (c % 128) * 2 ^ (7 * i) < 18446744073709551616 := by omega
      have q : ((c % 128 : Nat) : Int) * (2 : Int) ^ (7 * i) = (((c % 128) * 2 ^ (7 * i) : Nat) : Int) := by simp
      rw [and127b hc, wrap8_of (by omega) (by omega), wrapU_of (n := ((c % 128 : Nat) : Int)) (by omega) (by omega), hmin, q, wrapU_of (n := (((c % 128) * 2 ^ (7 * i) : Nat) : Int)) (Int.natCast_nonneg _) (by omega), BitVec.toNat_or, toNat_of (by omega), toNat_of hle, or_add ha, wrapU_of (by omega) (by omega)]
    have small : ∀ c : Nat, c < 256 → IntKind.u8.wrap (((BitVec.ofInt 8 ((c : Nat) : Int) &&& BitVec.ofInt 8 (128 : Int)).toNat : Nat) : Int) = if c < 128 then 0 else 128 := by
      intro c hc
      rw [and128 ⟨c, hc⟩]
      split <;> simp_all [wrap8_of] <;> (first | rfl | skip)
    by_cases h128 : n < 128
    · have hc : l[p + i]? = some ((n : Nat) : Int) := by
        have : encN f n = [((n : Nat) : Int)] := by cases f <;> simp [encN, h128]
        rw [h, this, ← hp]
        simp
      have hlen : (encN f n).length = 1 := by cases f <;> simp [encN, h128]
      have hm9 : i = 9 → n ≤ 1 := fun h9 => by
        subst h9
        have : 2 ^ (7 * 9) = 9223372036854775808 := rfl
        rw [this] at hv
        omega
      have e4 : (bif ((i : Nat) : Int) == (9 : Int) then some (decide (((n : Nat) : Int) > (1 : Int))) else some false) = some false := by
        by_cases hi9 : i = 9
        · have := hm9 hi9
          have e : decide (((n : Nat) : Int) > (1 : Int)) = false := by simp; omega
          simp [e]
        · have : (((i : Nat) : Int) == (9 : Int)) = false := beq_eq_false_iff_ne.2 (by omega)
          simp [this]
      have e5 : (bif ((n : Nat) : Int) == (0 : Int) then some (decide (((i : Nat) : Int) > (0 : Int))) else some false) = some false := by
        by_cases hn0 : n = 0
        · subst hn0
          have : i = 0 := Decidable.byContradiction fun hh => absurd (hi (by omega)) (by omega)
          subst this
          rfl
        · have : (((n : Nat) : Int) == (0 : Int)) = false := beq_eq_false_iff_ne.2 (by omega)
          simp [this]
      have hmod : n % 128 = n := Nat.mod_eq_of_lt h128
      have bb := bits n (by omega) (by rw [hmod]; exact hv)
      rw [hmod] at bb
      have e6 : decide (((acc + n * 2 ^ (7 * i) : Nat) : Int) > ((most : Nat) : Int)) = false := by
        have : ¬ (((acc + n * 2 ^ (7 * i) : Nat) : Int) > ((most : Nat) : Int)) := by omega
        exact decide_eq_false this
      have sm := small n (by omega)
      rw [if_pos h128] at sm
      simp only [e1, cond_true, w1, e2, cond_false, ge0, hc, some_bind, bindC_def, e4, w2, e3, sm, show ((0 : Int) != 0) = false from rfl, e5, Int.toNat_natCast, bb, e6, w3, hlen]
    · match f, hn, hk with
      | 0, hn, _ => exact absurd hn (by simpa using h128)
      | f + 1, hn, hk =>
        have henc : encN (f + 1) n = ((n % 128 + 128 : Nat) : Int) :: encN f (n / 128) := by simp [encN, h128]
        have hc : l[p + i]? = some ((n % 128 + 128 : Nat) : Int) := by
          rw [h, henc, ← hp]
          simp
        have hi8 : i ≤ 8 := Decidable.byContradiction fun hh => by
          have : i = 9 := by omega
          subst this
          have : 2 ^ (7 * 9) = 9223372036854775808 := rfl
          rw [this] at hv
          omega
        have e4 : (((i : Nat) : Int) == (9 : Int)) = false := beq_eq_false_iff_ne.2 (by omega)
        have hmod : (n % 128 + 128) % 128 = n % 128 := by omega
        have hsplit : n * 2 ^ (7 * i) = (n % 128) * 2 ^ (7 * i) + (n / 128) * 2 ^ (7 * (i + 1)) := by
          have e : 2 ^ (7 * (i + 1)) = 128 * 2 ^ (7 * i) := by rw [show 7 * (i + 1) = 7 + 7 * i by omega, Nat.pow_add]
          rw [e, ← Nat.mul_assoc, ← Nat.add_mul]
          congr 1
          omega
        have bb := bits (n % 128 + 128) (by omega) (by rw [hmod]; omega)
        rw [hmod] at bb
        have sm := small (n % 128 + 128) (by omega)
        rw [if_neg (by omega)] at sm
        simp only [e1, cond_true, w1, e2, cond_false, ge0, hc, some_bind, bindC_def, e4, w2, e3, sm, show ((128 : Int) != 0) = true from rfl, Int.toNat_natCast, bb, w3]
        have ih := look_l0 (most := most) f (i + 1) (acc + n % 128 * 2 ^ (7 * i)) (n / 128) k l (pre ++ [((n % 128 + 128 : Nat) : Int)]) post p ?_ (by omega) ?_ (by omega) (by omega) (by rw [h, henc]; simp) (by simp; omega) hl (by omega) (by omega)
        · rw [ih, henc]
          simp only [List.length_cons]
          congr 4
          · omega
          · congr 1; omega
        · have e : 2 ^ (7 * (i + 1)) = 128 * 2 ^ (7 * i) := by rw [show 7 * (i + 1) = 7 + 7 * i by omega, Nat.pow_add]
          rw [e]
          have : n % 128 * 2 ^ (7 * i) ≤ 127 * 2 ^ (7 * i) := Nat.mul_le_mul_right _ (by omega)
          omega
        · rw [Nat.pow_succ] at hn; exact Nat.div_lt_of_lt_mul (by rw [Nat.mul_comm]; exact hn)
theorem look_val (hK : 2000 ≤ K) {most n : Nat} {l pre post : List Int} (h : l = pre ++ (encU n ++ post)) (hl : l.length ≤ 100000) (hn : n < 18446744073709551616) (hm : n ≤ most) : wire_Reader_look.f K ((most : Nat) : Int) l ((pre.length : Nat) : Int) = some (((n : Nat) : Int), (((encU n).length : Nat) : Int), 0) := by
  unfold wire_Reader_look.f
  have := look_l0 (K := K) (most := most) 9 0 0 n K l pre post pre.length (by simp) (by simpa using hn) (by omega) (by omega) (by omega) h (by simp) hl (by omega) (by simpa using hm)
  simp only [Nat.zero_add, Nat.mul_zero, Nat.pow_zero, Nat.mul_one] at this
  rw [show wire_Reader_look.l0.f K K ((most : Nat) : Int) (0 : Int) (0 : Int) l ((pre.length : Nat) : Int) = _ from this]
  rfl
theorem runit_val (hK : 2000 ≤ K) {most n : Nat} {l pre post : List Int} (h : l = pre ++ (encU n ++ post)) (hl : l.length ≤ 100000) (hn : n < 18446744073709551616) (hm : n ≤ most) : wire_Reader_Uint.f K ((most : Nat) : Int) l ((pre.length : Nat) : Int) = some (((n : Nat) : Int), Err.nil, (((pre ++ encU n).length : Nat) : Int)) := by
  unfold wire_Reader_Uint.f
  have hlen : (pre ++ encU n).length ≤ 100000 := by have := congrArg List.length h; simp at *; omega
  simp only [look_val hK h hl hn hm, some_bind, show ((0 : Int) != 0) = false from rfl, cond_false]
  rw [wrap64_of (by omega) (by simp at hlen; omega)]
  simp
end Go.Proofs.YtdjkdmjdcdljmaaGreat.AR
