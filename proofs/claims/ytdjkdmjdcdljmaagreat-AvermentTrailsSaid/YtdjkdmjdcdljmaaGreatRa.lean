/- Own work. No condition. -/
import Derived.Test.YtdjkdmjdcdljmaaGreatAT2

namespace Go.Proofs.YtdjkdmjdcdljmaaGreat.AT
open Go.Proofs.YtdjkdmjdcdljmaaGreatX
set_option linter.unusedVariables false
set_option linter.unusedSimpArgs false

theorem wrap64_of {n : Int} (h1 : -9223372036854775808 ≤ n) (h2 : n < 9223372036854775808) : IntKind.i64.wrap n = n := by
  rw [Go.IntKind.wrap_i64]; omega
theorem wrapU_of {n : Int} (h1 : 0 ≤ n) (h2 : n < 18446744073709551616) : IntKind.u64.wrap n = n := by
  rw [show IntKind.u64.wrap n = n % 18446744073709551616 by simp [Go.IntKind.wrap, Go.IntKind.bits, Go.IntKind.signed]]; omega
theorem at_mid {α : Type} {l l1 l2 : List α} {x : α} (h : l = l1 ++ x :: l2) : l[((l1.length : Nat) : Int).toNat]? = some x := by
  subst h; simp
theorem lt_mid {α : Type} {l l1 l2 : List α} {x : α} (h : l = l1 ++ x :: l2) : decide (((l1.length : Nat) : Int) < ((l.length : Nat) : Int)) = true := by
  subst h; simp; omega
theorem lt_end {α : Type} {l l1 : List α} (h : l = l1 ++ []) : decide (((l1.length : Nat) : Int) < ((l.length : Nat) : Int)) = false := by
  subst h; simp
theorem ge0 {n : Nat} : (decide ((0 : Int) ≤ ((n : Nat) : Int)) && true) = true := by simp
theorem ge0' {n : Nat} : decide ((0 : Int) ≤ ((n : Nat) : Int)) = true := by simp
theorem wrap_next {α : Type} {l1 : List α} {x : α} (h : l1.length < 1000000000) : IntKind.i64.wrap (((l1.length : Nat) : Int) + (1 : Int)) = (((l1 ++ [x]).length : Nat) : Int) := by
  rw [wrap64_of (by omega) (by omega)]; simp
theorem mid_next {α : Type} {l l1 l2 : List α} {x : α} (h : l = l1 ++ x :: l2) : l = (l1 ++ [x]) ++ l2 := by subst h; simp
theorem bindC_def {A B : Type} {o : Option A} {f : A → Option B} : bindC o f = o.bind f := rfl
theorem min6 {n : Nat} {c : Int} (hc : 0 ≤ c) : (decide (((0 : Nat) : Int) ≤ if c < (n : Int) then c else (n : Int)) && decide ((if c < (n : Int) then c else (n : Int)) ≤ (n : Int)) && true) = true := by
  split <;> simp <;> omega
theorem take6 {α : Type} {l : List α} {c : Int} (hc : 0 ≤ c) : List.take (if c < (l.length : Int) then c else (l.length : Int)).toNat l = l.take c.toNat := by
  split
  · rfl
  · rename_i h
    rw [List.take_of_length_le (i := c.toNat) (by omega)]
    simp
end Go.Proofs.YtdjkdmjdcdljmaaGreat.AT
