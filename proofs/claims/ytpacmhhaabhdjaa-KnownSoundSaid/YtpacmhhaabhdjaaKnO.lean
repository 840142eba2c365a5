/- Known numbers are sound. -/
import Derived.Test.YtpacmhhaabhdjaaKN12
import Derived.Test.YtpacmhhaabhdjaaKnT

set_option linter.unusedSimpArgs false
set_option linter.unusedVariables false
namespace Go.Proofs.Ytpacmhhaabhdjaa.Kn
open Go.RowKit Go.Proofs.Ytpacmhhaabhdjaa.KN Go.Proofs.YtpacmhhaabhdjaaW.PrintWords Go.Proofs.YtpacmhhaabhdjaaW.PrintLast Go.Proofs.YtpacmhhaabhdjaaW.PrintMore
theorem sound (op x y : Int) (a b : Bool) (k : Nat) (hk : 20 ≤ k) : avermentlaw09_KnownSound.f (k + 1) op x y a b = some true := by
  obtain ⟨k, rfl⟩ : ∃ m, k = m + 3 := ⟨k - 3, by omega⟩
  have wv : ∀ z c, avermentlaw09_with.f z c = some (c, if c = true then z else 0) := fun z c => by cases c <;> rfl
  have hv : ∀ a x n, known_Has.f a x n = some (!a || x == n) := fun a x n => by unfold known_Has.f; cases a <;> rfl
  have tail : avermentlaw09_KnownSound.j0 (k + 3 + 1) x false a (if a = true then x else 0) = some true := by
    simp only [avermentlaw09_KnownSound.j0, hv]
    cases a <;> by_cases z : x = 0 <;> simp [known_One.f, known_Known_tidy.f, known_Branch.f, known_Branch.j0, known_Branch.j1, known_Known_is.f, known_Has.f, known_Of.f, known_Any.f, z]
  unfold avermentlaw09_KnownSound.f
  obtain ⟨c, hc⟩ := arith_fst op x y
  rw [wv, wv, hc, told_k (k + 3 + 1) (by omega)]
  simp only [bs]
  rw [two_val]
  simp only [bs, if_true, hv]
  cases c with
  | false => simp only [Bool.false_eq_true, if_false]; exact tail
  | true =>
    have n : ¬ (op < 4 ∨ 12 < op ∨ ((op = 7 ∨ op = 8) ∧ b = true ∧ (if b = true then y else 0) = 0)) := by
      rintro (h | h | h)
      · unfold avermentref07_Arith.f at hc
        rw [if_neg (by omega), if_neg (by omega), if_neg (by omega), if_neg (by omega), if_neg (by omega), if_neg (by omega), if_neg (by omega), if_neg (by omega), if_neg (by omega)] at hc
        simp at hc
      · unfold avermentref07_Arith.f at hc
        rw [if_neg (by omega), if_neg (by omega), if_neg (by omega), if_neg (by omega), if_neg (by omega), if_neg (by omega), if_neg (by omega), if_neg (by omega), if_neg (by omega)] at hc
        simp at hc
      · obtain ⟨h78, hb, hy⟩ := h
        rw [if_pos hb] at hy
        unfold avermentref07_Arith.f at hc
        rcases h78 with h | h <;> simp [h, hy] at hc
    unfold kTwo
    rw [if_neg n]
    cases a <;> cases b <;> simp only [Bool.false_eq_true, if_false, if_true, and_self, and_false, false_and, Bool.not_true, Bool.not_false, Bool.true_or, Bool.false_or, beq_self_eq_true] <;> first | exact tail | (simpa using tail)
end Go.Proofs.Ytpacmhhaabhdjaa.Kn
