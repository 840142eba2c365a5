/- All ones from a number's first digit: the program's way, by a table. No condition. -/
import Derived.Test.YtpacmhhaabhdjaaSM7
import Derived.Test.YtpacmhhaabhdjaaSpN

set_option linter.unusedSimpArgs false
set_option linter.unusedVariables false
namespace Go.Proofs.Ytpacmhhaabhdjaa.Sv
open Go.RowKit Go.Proofs.Ytpacmhhaabhdjaa.SM Go.Proofs.Ytpacmhhaabhdjaa.Sn Go.Proofs.YtpacmhhaabhdjaaW.PrintWords Go.Proofs.YtpacmhhaabhdjaaW.PrintLast Go.Proofs.YtpacmhhaabhdjaaW.PrintMore
def tab : ByteArray := ⟨#[0, 1, 2, 2, 3, 3, 3, 3, 4, 4, 4, 4, 4, 4, 4, 4, 5, 5, 5, 5, 5, 5, 5, 5, 5, 5, 5, 5, 5, 5, 5, 5, 6, 6, 6, 6, 6, 6, 6, 6, 6, 6, 6, 6, 6, 6, 6, 6, 6, 6, 6, 6, 6, 6, 6, 6, 6, 6, 6, 6, 6, 6, 6, 6, 7, 7, 7, 7, 7, 7, 7, 7, 7, 7, 7, 7, 7, 7, 7, 7, 7, 7, 7, 7, 7, 7, 7, 7, 7, 7, 7, 7, 7, 7, 7, 7, 7, 7, 7, 7, 7, 7, 7, 7, 7, 7, 7, 7, 7, 7, 7, 7, 7, 7, 7, 7, 7, 7, 7, 7, 7, 7, 7, 7, 7, 7, 7, 7, 8, 8, 8, 8, 8, 8, 8, 8, 8, 8, 8, 8, 8, 8, 8, 8, 8, 8, 8, 8, 8, 8, 8, 8, 8, 8, 8, 8, 8, 8, 8, 8, 8, 8, 8, 8, 8, 8, 8, 8, 8, 8, 8, 8, 8, 8, 8, 8, 8, 8, 8, 8, 8, 8, 8, 8, 8, 8, 8, 8, 8, 8, 8, 8, 8, 8, 8, 8, 8, 8, 8, 8, 8, 8, 8, 8, 8, 8, 8, 8, 8, 8, 8, 8, 8, 8, 8, 8, 8, 8, 8, 8, 8, 8, 8, 8, 8, 8, 8, 8, 8, 8, 8, 8, 8, 8, 8, 8, 8, 8, 8, 8, 8, 8, 8, 8, 8, 8, 8, 8, 8, 8, 8, 8, 8, 8, 8, 8]⟩
theorem tab_val : ∀ i : Fin 256, bt tab ((i.val : Nat) : Int) = ((bl i.val : Nat) : Int) := by decide +kernel
theorem tab_at {i : Nat} (h : i < 256) : bt tab (i : Int) = ((bl i : Nat) : Int) := tab_val ⟨i, h⟩
theorem j0_eq (k : Nat) (x0 x2 : Int) : bits_Len64.j0 (k + 1) x0 x2 = if x0 ≥ 65536 then (if (x0 / 65536) ≥ 256 then (if 0 ≤ (((x0 / 65536) / 256) % 256) then (if (((x0 / 65536) / 256) % 256) < 256 then (some (wrap64 ((wrap64 ((wrap64 (x2 + 16)) + 8)) + (wrap64 (bt tab (((x0 / 65536) / 256) % 256)))))) else (none)) else (none)) else (if 0 ≤ ((x0 / 65536) % 256) then (if ((x0 / 65536) % 256) < 256 then (some (wrap64 ((wrap64 (x2 + 16)) + (wrap64 (bt tab ((x0 / 65536) % 256)))))) else (none)) else (none))) else (if x0 ≥ 256 then (if 0 ≤ ((x0 / 256) % 256) then (if ((x0 / 256) % 256) < 256 then (some (wrap64 ((wrap64 (x2 + 8)) + (wrap64 (bt tab ((x0 / 256) % 256)))))) else (none)) else (none)) else (if 0 ≤ ((x0) % 256) then (if ((x0) % 256) < 256 then (some (wrap64 (x2 + (wrap64 (bt tab ((x0) % 256)))))) else (none)) else (none))) := rfl
theorem small_bl {i : Nat} (h : i < 256) : bl i ≤ 8 := bl_le.mpr h
theorem j0_val (k n : Nat) (x2 : Int) (h : n < 4294967296) (h2 : x2 = 0 ∨ x2 = 32) : bits_Len64.j0 (k + 1) (n : Int) x2 = some (x2 + ((bl n : Nat) : Int)) := by
  rw [j0_eq]
  by_cases a : n ≥ 65536
  · rw [if_pos (by omega)]
    have s : bl n = 16 + bl (n / 2 ^ 16) := bl_shift a
    by_cases b : n / 65536 ≥ 256
    · have i1 : (((n : Int) / 65536) / 256) % 256 = ((n / 65536 / 256 : Nat) : Int) := by omega
      have s2 : bl (n / 2 ^ 16) = 8 + bl (n / 2 ^ 16 / 2 ^ 8) := bl_shift b
      have s3 := small_bl (show n / 2 ^ 16 / 2 ^ 8 < 256 by omega)
      rw [if_pos (by omega), if_pos (by omega), if_pos (by omega), i1, tab_at (by omega), s, s2]
      show some _ = some _
      have e : n / 65536 / 256 = n / 2 ^ 16 / 2 ^ 8 := rfl
      rw [e]
      generalize bl (n / 2 ^ 16 / 2 ^ 8) = q at *
      congr 1
      unfold wrap64
      omega
    · have i1 : ((n : Int) / 65536) % 256 = ((n / 65536 : Nat) : Int) := by omega
      have s3 := small_bl (show n / 2 ^ 16 < 256 by omega)
      rw [if_neg (by omega), if_pos (by omega), if_pos (by omega), i1, tab_at (by omega), s]
      have e : n / 65536 = n / 2 ^ 16 := rfl
      rw [e]
      generalize bl (n / 2 ^ 16) = q at *
      congr 1
      unfold wrap64
      omega
  · rw [if_neg (by omega)]
    by_cases b : n ≥ 256
    · have i1 : ((n : Int) / 256) % 256 = ((n / 256 : Nat) : Int) := by omega
      have s : bl n = 8 + bl (n / 2 ^ 8) := bl_shift b
      have s3 := small_bl (show n / 2 ^ 8 < 256 by omega)
      rw [if_pos (by omega), if_pos (by omega), if_pos (by omega), i1, tab_at (by omega), s]
      have e : n / 256 = n / 2 ^ 8 := rfl
      rw [e]
      generalize bl (n / 2 ^ 8) = q at *
      congr 1
      unfold wrap64
      omega
    · have i1 : (n : Int) % 256 = (n : Int) := by omega
      have s3 := small_bl (show n < 256 by omega)
      rw [if_neg (by omega), if_pos (by omega), if_pos (by omega), i1, tab_at (by omega)]
      generalize bl n = q at *
      congr 1
      unfold wrap64
      omega
theorem len_val (k n : Nat) (h : n < 9223372036854775808) : bits_Len64.f (k + 1) (n : Int) = some ((bl n : Nat) : Int) := by
  unfold bits_Len64.f
  by_cases a : n ≥ 4294967296
  · have i1 : (n : Int) / 4294967296 = ((n / 4294967296 : Nat) : Int) := by omega
    have s : bl n = 32 + bl (n / 2 ^ 32) := bl_shift a
    rw [if_pos (by omega), i1, j0_val _ _ _ (by omega) (.inr rfl), s]
    have e : n / 4294967296 = n / 2 ^ 32 := rfl
    rw [e, Int.natCast_add]
    rfl
  · rw [if_neg (by omega), j0_val _ _ _ (by omega) (.inl rfl), Int.zero_add]
theorem shl_val : ∀ L : Fin 64, wrap64 (IntKind.u64.wrap ((shl .u64 1 ((L.val : Nat) : Int)) - 1)) = ((2 ^ L.val : Nat) : Int) - 1 := by decide +kernel
theorem ones_val (k : Nat) {n : Int} (h0 : 0 ≤ n) (h1 : n ≤ 9223372036854775807) : span_ones.f (k + 1) n = some (ones0 n) := by
  unfold span_ones.f
  have w : IntKind.u64.wrap n = ((n.toNat : Nat) : Int) := by
    rw [IntKind.wrap_u64]; omega
  have L : bl n.toNat < 64 := by
    have : bl n.toNat ≤ 63 := bl_le.mpr (by omega)
    omega
  rw [w, len_val k _ (by omega)]
  rw [bs, if_pos (by omega), shl_val ⟨_, L⟩]
  rfl
end Go.Proofs.Ytpacmhhaabhdjaa.Sv
