/- Known numbers rise. -/
import Derived.Test.YtpacmhhaabhdjaaKN7
import Derived.Test.YtpacmhhaabhdjaaKnT

set_option linter.unusedSimpArgs false
set_option linter.unusedVariables false
namespace Go.Proofs.Ytpacmhhaabhdjaa.Kn
open Go.RowKit Go.Proofs.Ytpacmhhaabhdjaa.KN Go.Proofs.YtpacmhhaabhdjaaW.PrintWords Go.Proofs.YtpacmhhaabhdjaaW.PrintLast Go.Proofs.YtpacmhhaabhdjaaW.PrintMore
theorem rises (op : Int) (a : Bool) (x : Int) (b : Bool) (y : Int) (k : Nat) (hk : 20 ≤ k) : avermentlaw09_KnownRises.f (k + 1) op a x b y = some true := by
  obtain ⟨k, rfl⟩ : ∃ m, k = m + 3 := ⟨k - 3, by omega⟩
  have t1 : ∀ a x, avermentlaw09_To.f a x = some (a, x) := fun _ _ => rfl
  have t2 : known_Any.f = some (false, 0) := rfl
  have w1 : ∀ a x b y, known_Within.f a x b y = some (!b || (a && x == y)) := fun a x b y => by
    unfold known_Within.f known_Known_is.f
    cases a <;> cases b <;> rfl
  have sy : (y = x) = (x = y) := propext eq_comm
  have tail : avermentlaw09_KnownRises.j0 (k + 3 + 1) false a x b y = some true := by
    simp only [avermentlaw09_KnownRises.j0, t1, w1]
    cases a <;> cases b <;> by_cases e : x = y <;> simp [known_Meet.f, known_Has.f, known_Any.f, known_Known_tidy.f, known_Join.f, known_Known_is.f, sy, e]
  unfold avermentlaw09_KnownRises.f
  simp only [t1, t2, two_val, told_k (k + 3 + 1) (by omega), bs, w1, if_true]
  by_cases n : op < 4 ∨ 12 < op ∨ ((op = 7 ∨ op = 8) ∧ b = true ∧ y = 0)
  · have e1 : kTwo op a x b y = (false, 0, false) := by unfold kTwo; rw [if_pos n]
    rw [e1]
    simp only [Bool.false_eq_true, if_false]
    exact tail
  · have e2 : kTwo op false 0 b y = (false, 0, true) := by unfold kTwo; rw [if_neg n, if_neg (by simp)]
    have n3 : ¬ (op < 4 ∨ 12 < op ∨ ((op = 7 ∨ op = 8) ∧ false = true ∧ (0 : Int) = 0)) := by
      rintro (h | h | h)
      · exact n (.inl h)
      · exact n (.inr (.inl h))
      · exact Bool.false_ne_true h.2.1
    have e3 : kTwo op a x false 0 = (false, 0, true) := by unfold kTwo; rw [if_neg n3, if_neg (by simp)]
    have e1 : ∃ u v, kTwo op a x b y = (u, v, true) := by
      unfold kTwo
      rw [if_neg n]
      split <;> exact ⟨_, _, rfl⟩
    obtain ⟨u, v, e1⟩ := e1
    rw [e1, e2, e3]
    simp only [if_true, Bool.not_false, Bool.true_or, Bool.not_true]
    exact tail
end Go.Proofs.Ytpacmhhaabhdjaa.Kn
