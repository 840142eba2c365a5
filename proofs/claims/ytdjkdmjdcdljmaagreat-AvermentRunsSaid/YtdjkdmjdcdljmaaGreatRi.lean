/- Modules as bytes: what is written. No condition beside those stated. -/
import Derived.Test.YtdjkdmjdcdljmaaGreatRh

namespace Go.Proofs.YtdjkdmjdcdljmaaGreat.AR
open Go.Proofs.YtdjkdmjdcdljmaaGreatX
set_option linter.unusedVariables false
set_option linter.unusedSimpArgs false
set_option maxRecDepth 100000
set_option maxHeartbeats 4000000
variable {K : Nat}

/-! ### Numbers with signs -/
def i64 (n : Int) : Prop := -9223372036854775808 ≤ n ∧ n < 9223372036854775808
def zz (n : Int) : Nat := if 0 ≤ n then (2 * n).toNat else (-2 * n - 1).toNat
abbrev encI (n : Int) : List Int := encU (zz n)
theorem zz_lt {n : Int} (h : i64 n) : zz n < 18446744073709551616 := by unfold zz; unfold i64 at h; split <;> omega
theorem xor_ones {n : Nat} (h : n < 18446744073709551616) : (BitVec.ofInt 64 ((n : Nat) : Int) ^^^ BitVec.allOnes 64).toNat = 18446744073709551615 - n := by
  rw [BitVec.xor_allOnes, BitVec.toNat_not, toNat_of h]
theorem ofInt_neg1 : BitVec.ofInt 64 (18446744073709551615 : Int) = BitVec.allOnes 64 := by decide
theorem ofInt_m1 : BitVec.ofInt 64 (-1 : Int) = BitVec.allOnes 64 := by decide
theorem xor_zero' {n : Nat} (h : n < 18446744073709551616) : (BitVec.ofInt 64 ((n : Nat) : Int) ^^^ BitVec.ofInt 64 (0 : Int)).toNat = n := by
  have : BitVec.ofInt 64 (0 : Int) = 0#64 := by decide
  rw [this, BitVec.xor_zero, toNat_of h]
theorem wrapU (n : Int) : IntKind.u64.wrap n = n % 18446744073709551616 := by simp [Go.IntKind.wrap, Go.IntKind.bits, Go.IntKind.signed]
theorem zig_val {n : Int} (h : i64 n) : IntKind.u64.wrap (((BitVec.ofInt 64 (IntKind.u64.wrap (IntKind.u64.wrap n * (2 : Int) ^ 1)) ^^^ BitVec.ofInt 64 (IntKind.u64.wrap (n.fdiv ((2 : Int) ^ 63)))).toNat : Nat) : Int) = ((zz n : Nat) : Int) := by
  unfold i64 at h
  unfold zz
  have e63 : n.fdiv ((2 : Int) ^ 63) = n / 9223372036854775808 := by rw [Int.fdiv_eq_ediv_of_nonneg _ (by decide)]; rfl
  rw [e63]
  by_cases h0 : 0 ≤ n
  · rw [if_pos h0]
    have a1 : IntKind.u64.wrap n = n := wrapU_of h0 (by omega)
    have a2 : IntKind.u64.wrap (n * (2 : Int) ^ 1) = ((2 * n).toNat : Nat) := by rw [wrapU]; omega
    have a3 : IntKind.u64.wrap (n / 9223372036854775808) = 0 := by rw [wrapU]; omega
    rw [a1, a2, a3, xor_zero' (by omega), wrapU_of (by omega) (by omega)]
  · rw [if_neg h0]
    have a2 : IntKind.u64.wrap (IntKind.u64.wrap n * (2 : Int) ^ 1) = ((2 * n + 18446744073709551616).toNat : Nat) := by rw [wrapU, wrapU]; omega
    have a3 : IntKind.u64.wrap (n / 9223372036854775808) = 18446744073709551615 := by rw [wrapU]; omega
    rw [a2, a3, ofInt_neg1, xor_ones (by omega), wrapU_of (by omega) (by omega)]
    omega
theorem zag_val {n : Int} (h : i64 n) : IntKind.i64.wrap (((BitVec.ofInt 64 (IntKind.i64.wrap (((zz n : Nat) : Int).fdiv ((2 : Int) ^ 1))) ^^^ BitVec.ofInt 64 (IntKind.i64.wrap ((0 : Int) - IntKind.i64.wrap (IntKind.u64.wrap (((BitVec.ofInt 64 ((zz n : Nat) : Int) &&& BitVec.ofInt 64 (1 : Int)).toNat : Nat) : Int))))).toNat : Nat) : Int) = n := by
  have hz := zz_lt h
  have e1 : ((zz n : Nat) : Int).fdiv ((2 : Int) ^ 1) = ((zz n / 2 : Nat) : Int) := by rw [Int.fdiv_eq_ediv_of_nonneg _ (by decide)]; simp
  have e2 : (BitVec.ofInt 64 ((zz n : Nat) : Int) &&& BitVec.ofInt 64 (1 : Int)).toNat = zz n % 2 := by
    rw [BitVec.toNat_and, toNat_of hz]
    show zz n &&& 1 = zz n % 2
    exact Nat.and_two_pow_sub_one_eq_mod (zz n) 1
  rw [e1, e2, wrap64_of (n := ((zz n / 2 : Nat) : Int)) (by omega) (by omega), wrapU_of (by omega) (by omega), wrap64_of (n := ((zz n % 2 : Nat) : Int)) (by omega) (by omega), wrap64_of (n := (0 : Int) - ((zz n % 2 : Nat) : Int)) (by omega) (by omega)]
  unfold i64 at h
  by_cases h0 : 0 ≤ n
  · have e : zz n = (2 * n).toNat := by unfold zz; rw [if_pos h0]
    have e3 : (0 : Int) - ((zz n % 2 : Nat) : Int) = 0 := by omega
    rw [e3, xor_zero' (by omega), wrap64_of (by omega) (by omega)]
    omega
  · have e : zz n = (-2 * n - 1).toNat := by unfold zz; rw [if_neg h0]
    have e3 : (0 : Int) - ((zz n % 2 : Nat) : Int) = -1 := by omega
    rw [e3, ofInt_m1, xor_ones (by omega), Go.IntKind.wrap_i64]
    omega
theorem wint_val (hK : 2000 ≤ K) {n : Int} {l : List Int} (h : i64 n) (hl : l.length + 10 ≤ 100000) : wire_Writer_Int.f K n l = some (l ++ encI n) := by
  unfold wire_Writer_Int.f
  rw [zig_val h, uint_val hK (zz_lt h) hl]

/-! ### Instructions and ends -/
def hasB' (op : Int) : Bool := usesB op || (op == 13 || (op == 14 || op == 17))
def encInsn (x : LInsn) : List Int :=
  [x.1] ++ ((if usesD x.1 then [x.2.1] else []) ++ ((if usesA x.1 then [x.2.2.1] else []) ++ ((if hasB' x.1 then [x.2.2.2.1] else []) ++
    ((if x.1 = 1 then encI x.2.2.2.2.1 else []) ++ (if x.1 = 17 then ((x.2.2.2.2.2.length : Nat) : Int) :: x.2.2.2.2.2 else [])))))
theorem raw_val {a l : List Int} (h : l.length + a.length ≤ 100000) : wire_Writer_Raw.f K a l = some (l ++ a) := by
  unfold wire_Writer_Raw.f
  rw [Nat.ble_eq_true_of_le h]; rfl
theorem putInsn_l0 (hK : 2000 ≤ K) {l : List Int} (hl : l.length ≤ 1000) (hr : ∀ v ∈ l, 0 ≤ v ∧ v < 128) : ∀ (l2 l1 : List Int) (k : Nat) (w : List Int), l = l1 ++ l2 → l2.length < k → w.length + l2.length + 10 ≤ 100000 →
    code_putInsn.l0.f K k l ((l.length : Nat) : Int) ((l1.length : Nat) : Int) w = some (w ++ l2)
  | l2, l1, 0, w, h, hk, hw => by omega
  | [], l1, k + 1, w, h, hk, hw => by
    rw [code_putInsn.l0.f]
    simp only [lt_end h, cond_false, List.append_nil]
  | x :: l2, l1, k + 1, w, h, hk, hw => by
    rw [code_putInsn.l0.f]
    have hl1 : l1.length ≤ 1000 := by rw [h] at hl; simp at hl; omega
    have hx := hr x (by rw [h]; simp)
    simp only [lt_mid h, ge0, at_mid h, cond_true, some_bind, uintS_val hK hx.1 hx.2 (l := w) (by simp at hw; omega), wrap_next (l1 := l1) (x := x) (by omega)]
    rw [putInsn_l0 hK hl hr l2 (l1 ++ [x]) k (w ++ [x]) (mid_next h) (by simp at hk; omega) (by simp at hw ⊢; omega)]
    simp
/-- What is small in an instruction. -/
structure lowI (x : LInsn) : Prop where
  op : 1 ≤ x.1 ∧ x.1 ≤ 17
  d : 0 ≤ x.2.1 ∧ x.2.1 < 128
  a : 0 ≤ x.2.2.1 ∧ x.2.2.1 < 128
  b : 0 ≤ x.2.2.2.1 ∧ x.2.2.2.1 < 128
  n : i64 x.2.2.2.2.1
  len : x.2.2.2.2.2.length ≤ 4
  args : ∀ v ∈ x.2.2.2.2.2, 0 ≤ v ∧ v < 128
theorem okInsn.low {nc : Nat} {ar : List Int} {regs : Int} {x : LInsn} (h : okInsn nc ar regs x) (hr : regs ≤ 8) (hc : nc ≤ 16) (har : ar.length ≤ 24) (ha : ∀ v ∈ ar, v ≤ 4) (hn : i64 x.2.2.2.2.1) : lowI x := by
  obtain ⟨op, d, a, b, n, g⟩ := h
  refine ⟨op, ?_, ?_, ?_, hn, argsLen ⟨op, d, a, b, n, g⟩ ha, ?_⟩
  · split at d
    · unfold reg at d; omega
    · omega
  · split at a
    · unfold reg at a; omega
    · omega
  · split at b
    · unfold reg at b; omega
    · split at b
      · unfold reg at b; omega
      · split at b
        · have := b.1; unfold reg at this; omega
        · omega
  · split at g
    · intro v hv; have := g v hv; unfold reg at this; omega
    · rw [g]; intro v hv; simp at hv
theorem putInsn_val (hK : 2000 ≤ K) {op d a b n : Int} {args w : List Int} (h : lowI (op, d, a, b, n, args)) (hw : w.length + 60 ≤ 100000) : code_putInsn.f K op d a b n args w = some (w ++ encInsn (op, d, a, b, n, args)) := by
  obtain ⟨⟨h1, h2⟩, hd, ha, hb, hn, hl, hg⟩ := h
  dsimp only at *
  unfold code_putInsn.f encInsn
  dsimp only
  have hop := op_cases h1 h2
  have u : ∀ {v : Int} {l : List Int}, 0 ≤ v ∧ v < 128 → l.length + 10 ≤ 100000 → wire_Writer_Uint.f K (IntKind.u64.wrap v) l = some (l ++ [v]) := fun hv hl => uintS_val hK hv.1 hv.2 hl
  have by_ : wire_Writer_Byte.f K (IntKind.u8.wrap op) w = some (w ++ [op]) := by rw [wrap8_of (by omega) (by omega)]; exact byte_val (by omega)
  rw [by_]
  by_cases h17 : op = 17
  · subst h17
    have e := putInsn_l0 (K := K) hK (l := args) (by omega) hg args [] K (w ++ [17] ++ [d] ++ [b] ++ [((args.length : Nat) : Int)]) rfl (by omega) (by simp; omega)
    have e' : code_putInsn.l0.f K K args ((args.length : Nat) : Int) (0 : Int) (w ++ [17] ++ [d] ++ [b] ++ [((args.length : Nat) : Int)]) = _ := e
    simp only [code_of.f, show ((17 : Int) == 1) = false from rfl, show ((17 : Int) == 15) = false from rfl, show ((17 : Int) == 2) = false from rfl, show ((17 : Int) == 3) = false from rfl, show ((17 : Int) == 4) = false from rfl, show ((17 : Int) == 5) = false from rfl, show ((17 : Int) == 6) = false from rfl, show ((17 : Int) == 7) = false from rfl, show ((17 : Int) == 8) = false from rfl, show ((17 : Int) == 9) = false from rfl, show ((17 : Int) == 10) = false from rfl, show ((17 : Int) == 11) = false from rfl, show ((17 : Int) == 12) = false from rfl, show ((17 : Int) == 13) = false from rfl, show ((17 : Int) == 14) = false from rfl, show ((17 : Int) == 16) = false from rfl, show ((17 : Int) == 17) = true from rfl, cond_true, cond_false, some_bind,
      u hd (l := w ++ [17]) (by simp; omega), u hb (l := w ++ [17] ++ [d]) (by simp; omega), u (v := ((args.length : Nat) : Int)) (by omega) (l := w ++ [17] ++ [d] ++ [b]) (by simp; omega), e']
    simp [usesD, usesA, usesB, hasB']
  · rcases hop with rfl | rfl | rfl | rfl | rfl | rfl | rfl | rfl | rfl | rfl | rfl | rfl | rfl | rfl | rfl | rfl | rfl <;> first | exact absurd rfl h17 | skip
    case inl =>
      have i := wint_val (K := K) hK hn (l := w ++ [1] ++ [d]) (by simp; omega)
      simp only [List.append_assoc, List.cons_append, List.nil_append] at i
      simp [code_of.f, u hd (l := w ++ [1]) (by simp; omega), i, usesD, usesA, usesB, hasB']
    all_goals
      first
      | (simp [code_of.f, u hd (l := w ++ [_]) (by simp; omega), u ha (l := w ++ [_, d]) (by simp; omega), u hb (l := w ++ [_, d, a]) (by simp; omega), u hb (l := w ++ [_, d]) (by simp; omega), u ha (l := w ++ [_]) (by simp; omega), u hb (l := w ++ [_, a]) (by simp; omega), usesD, usesA, usesB, hasB']; done)
end Go.Proofs.YtdjkdmjdcdljmaaGreat.AR
