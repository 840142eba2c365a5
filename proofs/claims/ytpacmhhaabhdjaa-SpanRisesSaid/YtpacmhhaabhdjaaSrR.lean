/- Of more numbers as many come about, or more: the plain law. No condition. -/
import Derived.Test.YtpacmhhaabhdjaaSrB

set_option linter.unusedSimpArgs false
set_option linter.unusedVariables false
namespace Go.Proofs.Ytpacmhhaabhdjaa.SR
open Go.RowKit Go.Proofs.YtpacmhhaabhdjaaX Go.Proofs.Ytpacmhhaabhdjaa.Sr
theorem sTold_val : avermentlaw10_told.f = some true := by decide +kernel
theorem sFix_ok {a b : Int} (ha : fits a) (hb : fits b) : ∃ p q, avermentref10_Fix.f a b = some (p, q) ∧ fits p ∧ fits q ∧ p ≤ q := by
  unfold avermentref10_Fix.f
  by_cases h : a > b
  · rw [decide_eq_true h]; exact ⟨_, _, rfl, hb, ha, by omega⟩
  · rw [decide_eq_false h]; exact ⟨_, _, rfl, ha, hb, by omega⟩
theorem sTo_val (a b : Int) : avermentlaw10_To.f a b = some (a, b) := rfl
theorem fall {x y : Int × Int × Bool} (h : Up x y) (K : Option Bool) : (bif x.2.2 then bif !y.2.2 then some false else bif !(decide (y.1 ≤ x.1) && decide (x.2.1 ≤ y.2.1)) then some false else K else K) = K := by
  unfold Up at h
  cases e : x.2.2 with
  | false => rfl
  | true => obtain ⟨h1, h2, h3⟩ := h e; rw [h1, decide_eq_true h2, decide_eq_true h3]; rfl
theorem fall2 {x y z : Int × Int × Bool} (h : Up x y) (g : Up x z) (K : Option Bool) : (bif x.2.2 then bif !y.2.2 then some false else bif !z.2.2 then some false else bif !(decide (y.1 ≤ x.1) && decide (x.2.1 ≤ y.2.1)) then some false else bif !(decide (z.1 ≤ x.1) && decide (x.2.1 ≤ z.2.1)) then some false else K else K) = K := by
  unfold Up at h g
  cases e : x.2.2 with
  | false => rfl
  | true => obtain ⟨h1, h2, h3⟩ := h e; obtain ⟨g1, g2, g3⟩ := g e; rw [h1, g1, decide_eq_true h2, decide_eq_true h3, decide_eq_true g2, decide_eq_true g3]; rfl
set_option maxHeartbeats 4000000 in
theorem SpanRises (op a0 a1 b0 b1 c0 c1 : Int) (hop : (Lit.int .i64 op).wf = true) (h1 : (Lit.int .i64 a0).wf = true) (h2 : (Lit.int .i64 a1).wf = true) (h3 : (Lit.int .i64 b0).wf = true) (h4 : (Lit.int .i64 b1).wf = true) (h5 : (Lit.int .i64 c0).wf = true) (h6 : (Lit.int .i64 c1).wf = true) :
    avermentlaw10_SpanRises.f op a0 a1 b0 b1 c0 c1 = some true := by
  obtain ⟨a, b, ea, ha, hb, hab⟩ := sFix_ok (fits_of h1) (fits_of h2)
  obtain ⟨c, d, ec, hc, hd, hcd⟩ := sFix_ok (fits_of h3) (fits_of h4)
  obtain ⟨p, q, ep, hp, hq, hpq⟩ := sFix_ok (fits_of h5) (fits_of h6)
  have n1 := mn_spec a p; have n2 := mx_spec b q; have n3 := mn_spec c p; have n4 := mx_spec d q
  have f1 := fits_mn ha hp; have f2 := fits_mx hb hq; have f3 := fits_mn hc hp; have f4 := fits_mx hd hq
  have u1 := two_up ha hb hc hd f1 f2 hc hd hab hcd n1.1 n2.1 (Int.le_refl _) (Int.le_refl _) op
  have u2 := two_up ha hb hc hd ha hb f3 f4 hab hcd (Int.le_refl _) (Int.le_refl _) n3.1 n4.1 op
  have u3 := one_up (op := op) ha hb f1 f2 hab n1.1 n2.1
  have u4 := branch_up false hab n1.1 n2.1
  have u5 := branch_up true hab n1.1 n2.1
  have v1 := two_val op ha hb hc hd hab hcd
  have v2 := two_val op f1 f2 hc hd (by omega) hcd
  have v3 := two_val op ha hb f3 f4 hab (by omega)
  have v4 := one_val op ha hb hab
  have v5 := one_val op f1 f2 (by omega)
  have b0 : ((0 : Int) == 1) = false := rfl
  have b00 : ((0 : Nat) == 1) = false := rfl
  have b1 : (IntKind.i64.wrap (0 + 1) == 1) = true := by decide +kernel
  unfold avermentlaw10_SpanRises.f
  simp only [ea, ec, ep, some_bind, sTo_val, sJoin_val, v1, v2, v3, v4, v5, sTold_val, b0, b00, b1, branch_val, sWithin_val, Bool.not_true, cond_false]
  simp only [fall u5, fall u4, fall u3, fall2 u1 u2]
end Go.Proofs.Ytpacmhhaabhdjaa.SR
