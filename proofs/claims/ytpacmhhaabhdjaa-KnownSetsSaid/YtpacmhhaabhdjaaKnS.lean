/- Sets of known numbers. -/
import Derived.Test.YtpacmhhaabhdjaaKN6

set_option linter.unusedSimpArgs false
set_option linter.unusedVariables false
namespace Go.Proofs.Ytpacmhhaabhdjaa.Kn
open Go.RowKit Go.Proofs.Ytpacmhhaabhdjaa.KN Go.Proofs.YtpacmhhaabhdjaaW.PrintWords Go.Proofs.YtpacmhhaabhdjaaW.PrintLast Go.Proofs.YtpacmhhaabhdjaaW.PrintMore
/-- What is there is handed on. -/
theorem bs {α β : Type} (x : α) (f : α → Option β) : (some x).bind f = f x := by cases h : f x <;> simp [h]
theorem told_k (k : Nat) (hk : 20 ≤ k) : avermentlaw09_told.f k = some true := at_rounds avermentlaw09_told.mono hk (by decide +kernel)
theorem sets (a : Bool) (x : Int) (b : Bool) (y n : Int) (k : Nat) (hk : 20 ≤ k) : avermentlaw09_KnownSets.f (k + 1) a x b y n = some true := by
  unfold avermentlaw09_KnownSets.f
  rw [told_k (k + 1) (by omega)]
  have e' : (y = x) = (x = y) := propext eq_comm
  have g' : (n = x) = (x = n) := propext eq_comm
  have h' : (n = y) = (y = n) := propext eq_comm
  cases a <;> cases b <;> by_cases e : x = y <;> by_cases g : x = n <;> by_cases h : y = n <;>
    simp [avermentlaw09_To.f, known_Meet.f, known_Has.f, known_Any.f, known_Known_tidy.f, avermentref09_Meet.f, avermentref09_Meet.j0, avermentref09_Clean.f, avermentlaw09_From.f, known_Right.f, avermentlaw09_KnownSets.j0, known_Of.f, avermentref09_Has.f,
      known_Join.f, known_Known_is.f, avermentref09_Join.f, known_Within.f, avermentref09_Within.f, e', g', h', e, g, h]

end Go.Proofs.Ytpacmhhaabhdjaa.Kn
