/- Small functions on two ends. No condition. -/
import Derived.Test.YtpacmhhaabhdjaaSM7
import Derived.Test.YtpacmhhaabhdjaaSM9

set_option linter.unusedSimpArgs false
set_option linter.unusedVariables false
namespace Go.Proofs.Ytpacmhhaabhdjaa.Sp
open Go.RowKit Go.Proofs.Ytpacmhhaabhdjaa.SM Go.Proofs.YtpacmhhaabhdjaaW.PrintWords Go.Proofs.YtpacmhhaabhdjaaW.PrintLast Go.Proofs.YtpacmhhaabhdjaaW.PrintMore
/-- What is there is handed on. -/
theorem bs {α β : Type} (x : α) (f : α → Option β) : (some x).bind f = f x := by cases h : f x <;> simp [h]
theorem told_k (k : Nat) (hk : 100 ≤ k) : avermentlaw10_told.f k = some true := at_rounds avermentlaw10_told.mono hk (by decide +kernel)
theorem fix_val (a b : Int) : avermentref10_Fix.f a b = some (if a > b then (b, a) else (a, b)) := by
  unfold avermentref10_Fix.f; split <;> rfl
theorem meet_val (a b c d : Int) : span_Meet.f a b c d = some (if mx a c > mn b d then (0, 0, false) else (mx a c, mn b d, true)) := by
  unfold span_Meet.f span_Right.f
  rw [bs]
  by_cases h : mx a c > mn b d
  · rw [if_pos h, if_neg (by simp only [decide_eq_true_eq]; omega)]
  · rw [if_neg h, if_pos (by simp only [decide_eq_true_eq]; omega)]
theorem has_val (a b c : Int) : span_Has.f a b c = some (decide (a ≤ c) && decide (c ≤ b)) := by
  unfold span_Has.f
  by_cases h : a ≤ c <;> simp [h]
theorem rhas_val (a b c : Int) : avermentref10_Has.f a b c = some (decide (a ≤ c) && decide (c ≤ b)) := by
  unfold avermentref10_Has.f
  by_cases h : a ≤ c <;> simp [h]
/-- A number fits. -/
def fits (x : Int) : Prop := -9223372036854775808 ≤ x ∧ x ≤ 9223372036854775807
theorem fits_of {x : Int} (h : (Lit.int .i64 x).wf = true) : fits x := by
  simpa [fits, Lit.wf, IntKind.min, IntKind.max, IntKind.signed, IntKind.bits] using h
end Go.Proofs.Ytpacmhhaabhdjaa.Sp
