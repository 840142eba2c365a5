/- Known numbers made. -/
import Derived.Test.YtpacmhhaabhdjaaKN10
import Derived.Test.YtpacmhhaabhdjaaKnT

set_option linter.unusedSimpArgs false
set_option linter.unusedVariables false
namespace Go.Proofs.Ytpacmhhaabhdjaa.Kn
open Go.RowKit Go.Proofs.Ytpacmhhaabhdjaa.KN Go.Proofs.YtpacmhhaabhdjaaW.PrintWords Go.Proofs.YtpacmhhaabhdjaaW.PrintLast Go.Proofs.YtpacmhhaabhdjaaW.PrintMore
/-- What one register's operation makes. -/
theorem one_val (op : Int) (a : Bool) (x : Int) : ∃ r, known_One.f op a x = some r ∧ avermentref09_One.f op a x = some r := by
  unfold known_One.f avermentref09_One.f
  by_cases h2 : op = 2
  · rw [if_neg (by omega), if_pos h2, if_pos h2]
    cases a <;> exact ⟨_, rfl, rfl⟩
  · by_cases h3 : op = 3
    · rw [if_pos h3, if_neg h2, if_pos h3, beq_iff_eq.mpr h3]
      cases a
      · exact ⟨_, rfl, rfl⟩
      · exact ⟨_, rfl, rfl⟩
    · rw [if_neg h3, if_neg h2, if_neg h2, if_neg h3, beq_eq_false_iff_ne.mpr h3]
      exact ⟨_, rfl, rfl⟩
theorem branch_val (a : Bool) (x : Int) (c : Bool) (k : Nat) : ∃ r, known_Branch.f (k + 2) a x c = some r ∧ avermentref09_Branch.f (k + 2) a x c = some r := by
  cases a <;> cases c <;> by_cases z : x = 0 <;>
    simp [known_Branch.f, avermentref09_Branch.f, known_Known_is.f, known_Branch.j0, known_Branch.j1, known_Known_tidy.f, known_Has.f, known_Of.f, known_Any.f, avermentref09_Branch.j0, avermentref09_Clean.f, z]
theorem makes (op : Int) (a : Bool) (x : Int) (b : Bool) (y : Int) : ∃ k, avermentlaw09_KnownMakes.f k op a x b y = some true := by
  refine ⟨40, ?_⟩
  have t1 : ∀ a x, avermentlaw09_To.f a x = some (a, x) := fun _ _ => rfl
  have f1 : ∀ a x, avermentlaw09_From.f a x = some (a, x) := fun _ _ => rfl
  have l0 : ∀ k, avermentlaw09_KnownMakes.l0 (k + 5) 0 a x = some true := by
    intro k
    obtain ⟨⟨u1, u2, u3⟩, h1, h2⟩ := branch_val a x false (k + 2)
    obtain ⟨⟨v1, v2, v3⟩, g1, g2⟩ := branch_val a x true (k + 1)
    have w0 : wrap64 (0 + 1) = 1 := by decide +kernel
    have w1 : wrap64 (1 + 1) = 2 := by decide +kernel
    rw [avermentlaw09_KnownMakes.l0, if_pos (by decide), t1, bs, show ((0 : Int) == 1) = false from rfl, h1, h2, bs, bs, f1, bs, w0]
    simp only [beq_self_eq_true, Bool.not_true, Bool.or_self, Bool.false_eq_true, if_false, bne_self_eq_false]
    rw [avermentlaw09_KnownMakes.l0, if_pos (by decide), t1, bs, show ((1 : Int) == 1) = true from rfl, g1, g2, bs, bs, f1, bs, w1]
    simp only [beq_self_eq_true, Bool.not_true, Bool.or_self, Bool.false_eq_true, if_false, bne_self_eq_false]
    rw [avermentlaw09_KnownMakes.l0, if_neg (by decide)]
  obtain ⟨⟨u1, u2, u3⟩, h1, h2⟩ := one_val op a x
  unfold avermentlaw09_KnownMakes.f
  rw [t1, bs, h1, h2, bs, bs, told_k 40 (by decide), bs, if_pos rfl, f1, bs]
  simp only [beq_self_eq_true, Bool.not_true, Bool.or_self, Bool.false_eq_true, if_false, bne_self_eq_false]
  rw [avermentlaw09_KnownMakes.j0, if_neg Bool.false_ne_true, t1, bs, t1, bs, two_val op x y a b 35, rtwo_val op x y a b 38, bs, bs, f1, bs]
  simp only [beq_self_eq_true, Bool.not_true, Bool.or_self, Bool.false_eq_true, if_false, bne_self_eq_false]
  rw [avermentlaw09_KnownMakes.j1, if_neg Bool.false_ne_true]
  exact l0 33
end Go.Proofs.Ytpacmhhaabhdjaa.Kn
