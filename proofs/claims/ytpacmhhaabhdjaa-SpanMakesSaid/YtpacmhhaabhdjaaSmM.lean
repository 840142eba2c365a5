/- The statement on what spans make. No condition. -/
import Derived.Test.YtpacmhhaabhdjaaSM15
import Derived.Test.YtpacmhhaabhdjaaSmP

set_option linter.unusedSimpArgs false
set_option linter.unusedVariables false
namespace Go.Proofs.Ytpacmhhaabhdjaa.Sv
open Go.RowKit Go.Proofs.Ytpacmhhaabhdjaa.SM Go.Proofs.Ytpacmhhaabhdjaa.Sn Go.Proofs.YtpacmhhaabhdjaaW.PrintWords Go.Proofs.YtpacmhhaabhdjaaW.PrintLast Go.Proofs.YtpacmhhaabhdjaaW.PrintMore
theorem one_same (k : Nat) (op : Int) {a b : Int} (ha : fits a) (hb : fits b) (hab : a ≤ b) : ∃ r, span_One.f (k + 5) op a b = some r ∧ avermentref10_One.f op a b = some r := by
  unfold span_One.f avermentref10_One.f
  by_cases h2 : op = 2
  · rw [if_pos h2, if_pos h2, beq_iff_eq.mpr h2, span_One.j0, if_pos rfl]
    exact ⟨_, rfl, rfl⟩
  rw [if_neg h2, if_neg h2]
  by_cases h3 : op = 3
  · rw [if_pos h3, if_pos h3, show span_Of.f (-9223372036854775808) = some (-9223372036854775808, -9223372036854775808) from rfl, bs]
    by_cases m : a = -9223372036854775808
    · rw [if_neg (show ¬ a > -9223372036854775808 by omega)]
      by_cases n : b = -9223372036854775808
      · rw [if_pos n, beq_iff_eq.mpr m, beq_iff_eq.mpr n, span_One.j0, Bool.and_self, if_pos rfl]
        exact ⟨_, rfl, rfl⟩
      · rw [if_neg n, beq_eq_false_iff_ne.mpr n, Bool.and_false, span_One.j0, if_neg Bool.false_ne_true, if_pos h3, beq_iff_eq.mpr m, span_One.j1, if_pos rfl]
        exact ⟨_, rfl, rfl⟩
    · rw [if_pos (show a > -9223372036854775808 by unfold fits at ha; omega), beq_eq_false_iff_ne.mpr m, Bool.false_and, span_One.j0, if_neg Bool.false_ne_true, if_pos h3, span_One.j1, beq_eq_false_iff_ne.mpr m, if_neg Bool.false_ne_true, if_pos h3]
      exact ⟨_, rfl, rfl⟩
  · rw [if_neg h3, if_neg h3, span_One.j0, if_neg Bool.false_ne_true, if_neg h3, span_One.j1, if_neg Bool.false_ne_true, if_neg h3]
    exact ⟨_, rfl, rfl⟩
theorem branch_same (k : Nat) (a b : Int) (t : Bool) : ∃ r, span_Branch.f a b t = some r ∧ avermentref10_Branch.f (k + 3) a b t = some r := by
  unfold span_Branch.f avermentref10_Branch.f
  simp only [show span_Of.f 0 = some (0, 0) from rfl, bs, Sp.has_val, Sp.rhas_val]
  cases t
  · exact ⟨_, rfl, rfl⟩
  · rw [if_pos rfl, if_pos rfl]
    by_cases p : a = 0 <;> by_cases q : b = 0 <;> simp [p, q, avermentref10_Branch.j0]
theorem makes_loop (k : Nat) (a b : Int) : avermentlaw10_SpanMakes.l0 (k + 10) 0 a b = some true := by
  obtain ⟨⟨u1, u2, u3⟩, h1, h2⟩ := branch_same (k + 6) a b false
  obtain ⟨⟨v1, v2, v3⟩, g1, g2⟩ := branch_same (k + 5) a b true
  have w0 : wrap64 (0 + 1) = 1 := by decide +kernel
  have w1 : wrap64 (1 + 1) = 2 := by decide +kernel
  have t1 : ∀ a b, avermentlaw10_To.f a b = some (a, b) := fun _ _ => rfl
  have f1 : ∀ a b, avermentlaw10_From.f a b = some (a, b) := fun _ _ => rfl
  rw [avermentlaw10_SpanMakes.l0, if_pos (by decide), t1, bs, show ((0 : Int) == 1) = false from rfl, h1, h2, bs, bs, f1, bs, w0]
  simp only [beq_self_eq_true, Bool.not_true, Bool.or_self, Bool.false_eq_true, if_false, bne_self_eq_false]
  rw [avermentlaw10_SpanMakes.l0, if_pos (by decide), t1, bs, show ((1 : Int) == 1) = true from rfl, g1, g2, bs, bs, f1, bs, w1]
  simp only [beq_self_eq_true, Bool.not_true, Bool.or_self, Bool.false_eq_true, if_false, bne_self_eq_false]
  rw [avermentlaw10_SpanMakes.l0, if_neg (by decide)]
theorem makes (op a b c d : Int) (ha : fits a) (hb : fits b) (hc : fits c) (hd : fits d) : ∃ k, avermentlaw10_SpanMakes.f k op a b c d = some true := by
  refine ⟨200, ?_⟩
  obtain ⟨p, q, e1, hp, hq, hpq, -⟩ := fix_ok ha hb
  obtain ⟨r, s, e2, hr, hs, hrs, -⟩ := fix_ok hc hd
  obtain ⟨⟨u1, u2, u3⟩, h1, h2⟩ := one_same 195 op hp hq hpq
  have t1 : ∀ a b, avermentlaw10_To.f a b = some (a, b) := fun _ _ => rfl
  have f1 : ∀ a b, avermentlaw10_From.f a b = some (a, b) := fun _ _ => rfl
  unfold avermentlaw10_SpanMakes.f
  rw [e1, bs, e2, bs, t1, bs, h1, bs, h2, bs, Sp.told_k 200 (by decide), bs, if_pos rfl, f1, bs]
  simp only [beq_self_eq_true, Bool.not_true, Bool.or_self, Bool.false_eq_true, if_false, bne_self_eq_false]
  rw [avermentlaw10_SpanMakes.j0, if_neg Bool.false_ne_true, t1, bs, t1, bs, two_val 189 op hp hq hr hs hpq hrs, bs, rtwo_val 109 op hp hq hr hs hpq hrs, bs, f1, bs]
  simp only [beq_self_eq_true, Bool.not_true, Bool.or_self, Bool.false_eq_true, if_false, bne_self_eq_false]
  rw [avermentlaw10_SpanMakes.j1, if_neg Bool.false_ne_true]
  exact makes_loop 188 p q
end Go.Proofs.Ytpacmhhaabhdjaa.Sv
