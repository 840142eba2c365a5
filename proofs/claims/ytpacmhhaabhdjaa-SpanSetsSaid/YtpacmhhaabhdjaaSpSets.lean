/- Sets of whole numbers between two ends. No condition. -/
import Derived.Test.YtpacmhhaabhdjaaSP11
import Derived.Test.YtpacmhhaabhdjaaSpB

set_option linter.unusedSimpArgs false
set_option linter.unusedVariables false
namespace Go.Proofs.Ytpacmhhaabhdjaa.Sp
open Go.RowKit Go.Proofs.Ytpacmhhaabhdjaa.SP Go.Proofs.YtpacmhhaabhdjaaW.PrintWords Go.Proofs.YtpacmhhaabhdjaaW.PrintLast Go.Proofs.YtpacmhhaabhdjaaW.PrintMore
theorem sets_tail (x a b c d : Int) (k : Nat) : avermentlaw10_SpanSets.j0 (k + 1) x false a b c d = some true := by
  unfold avermentlaw10_SpanSets.j0
  simp only [Bool.false_eq_true, if_false, span_Of.f, avermentlaw10_From.f, avermentlaw10_To.f, span_Any.f, avermentref10_Any.f, has_val, rhas_val, span_Join.f, avermentref10_Join.f, ← within_same, ← widen_same, within_some, widen_some, bs, beq_self_eq_true, Bool.and_self, if_true]
theorem sets (a b c d x : Int) (k : Nat) (hk : 100 ≤ k) : avermentlaw10_SpanSets.f (k + 1) a b c d x = some true := by
  unfold avermentlaw10_SpanSets.f
  rw [told_k (k + 1) (by omega)]
  simp only [fix_val, avermentlaw10_To.f, span_Right.f, meet_val, rmeet_val, avermentlaw10_From.f, bs, if_true, beq_self_eq_true, bne_self_eq_false, Bool.not_true, Bool.or_self, Bool.false_eq_true, if_false]
  exact sets_tail _ _ _ _ _ _
end Go.Proofs.Ytpacmhhaabhdjaa.Sp
