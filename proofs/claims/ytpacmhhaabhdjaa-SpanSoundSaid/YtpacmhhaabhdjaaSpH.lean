/- The statement on what is sound. No condition. -/
import Derived.Test.YtpacmhhaabhdjaaSP21
import Derived.Test.YtpacmhhaabhdjaaSpD

set_option linter.unusedSimpArgs false
set_option linter.unusedVariables false
namespace Go.Proofs.Ytpacmhhaabhdjaa.Sv
open Go.RowKit Go.Proofs.Ytpacmhhaabhdjaa.SP Go.Proofs.Ytpacmhhaabhdjaa.Sn Go.Proofs.YtpacmhhaabhdjaaW.PrintWords Go.Proofs.YtpacmhhaabhdjaaW.PrintLast Go.Proofs.YtpacmhhaabhdjaaW.PrintMore
theorem about_val {a b n : Int} (ha : fits a) (hb : fits b) (hn : fits n) : ∃ p q, avermentlaw10_about.f a b n = some (p, q) ∧ fits p ∧ fits q ∧ p ≤ n ∧ n ≤ q := by
  obtain ⟨u, v, e, hu, hv, huv, -⟩ := fix_ok ha hb
  have m1 := mn_spec u n; have m2 := mx_spec v n
  refine ⟨mn u n, mx v n, ?_, fits_mn hu hn, fits_mx hv hn, by omega, by omega⟩
  unfold avermentlaw10_about.f
  rw [e, bs]
  rfl
theorem one3 (k : Nat) {p q x : Int} (hp : fits p) (hq : fits q) (h1 : p ≤ x) (h2 : x ≤ q) : ∃ u v, span_One.f (k + 5) 3 p q = some (u, v, true) ∧ u ≤ wrap64 (-x) ∧ wrap64 (-x) ≤ v := by
  have w := wr_fits (-x)
  unfold span_One.f
  rw [if_neg (by decide), if_pos rfl, show span_Of.f (-9223372036854775808) = some (-9223372036854775808, -9223372036854775808) from rfl, bs]
  by_cases m : p = -9223372036854775808
  · by_cases n : q = -9223372036854775808
    · rw [beq_iff_eq.mpr m, beq_iff_eq.mpr n, Bool.and_self, span_One.j0, if_pos rfl]
      refine ⟨p, q, rfl, ?_⟩
      have : x = -9223372036854775808 := by omega
      subst this
      rw [m, n]
      decide +kernel
    · rw [beq_eq_false_iff_ne.mpr n, Bool.and_false, span_One.j0, if_neg Bool.false_ne_true, if_pos rfl, beq_iff_eq.mpr m, span_One.j1, if_pos rfl]
      exact ⟨_, _, rfl, w.1, w.2⟩
  · have f1 : fits (-q) := by unfold fits at *; omega
    have f2 : fits (-p) := by unfold fits at *; omega
    have f3 : fits (-x) := by unfold fits at *; omega
    rw [beq_eq_false_iff_ne.mpr m, Bool.false_and, span_One.j0, if_neg Bool.false_ne_true, if_pos rfl, beq_eq_false_iff_ne.mpr m, span_One.j1, if_neg Bool.false_ne_true, if_pos rfl, wr f1, wr f2, wr f3]
    exact ⟨_, _, rfl, by omega, by omega⟩
theorem one2 (k : Nat) (p q : Int) : span_One.f (k + 1) 2 p q = some (p, q, true) := by
  unfold span_One.f
  rw [if_pos rfl, span_One.j0, if_pos (show ((2 : Int) == 2) = true from rfl)]
theorem branch_has {p q x : Int} (h1 : p ≤ x) (h2 : x ≤ q) : ∃ u v, span_Branch.f p q (x != 0) = some (u, v, true) ∧ u ≤ x ∧ x ≤ v := by
  unfold span_Branch.f
  rw [show span_Of.f 0 = some (0, 0) from rfl, Sp.has_val, bs, bs]
  by_cases z : x = 0
  · rw [show (x != 0) = false from by rw [z]; rfl, if_neg Bool.false_ne_true]
    subst z
    rw [decide_eq_true h1, decide_eq_true h2]
    exact ⟨_, _, rfl, by omega, by omega⟩
  · rw [bne_iff_ne.mpr z, if_pos rfl]
    have n : ¬ (p = 0 ∧ q = 0) := by omega
    rw [if_neg (by simpa using n)]
    by_cases a : p = 0
    · rw [if_pos a]; exact ⟨_, _, rfl, by omega, h2⟩
    · rw [if_neg a]
      by_cases b : q = 0
      · rw [if_pos b]; exact ⟨_, _, rfl, h1, by omega⟩
      · rw [if_neg b]; exact ⟨_, _, rfl, h1, h2⟩
theorem sound_tail (k : Nat) {p q x : Int} (hp : fits p) (hq : fits q) (h1 : p ≤ x) (h2 : x ≤ q) : avermentlaw10_SpanSound.j0 (k + 10) x false p q = some true := by
  obtain ⟨u, v, e1, a1, a2⟩ := one3 (k + 4) hp hq h1 h2
  obtain ⟨s, t, e2, b1, b2⟩ := branch_has h1 h2
  rw [avermentlaw10_SpanSound.j0, if_neg Bool.false_ne_true, e1, bs, one2 (k + 8), bs, e2, bs, if_pos rfl, Sp.has_val, bs, decide_eq_true a1, decide_eq_true a2, Bool.and_self, if_pos rfl, if_pos rfl, Sp.has_val, bs, decide_eq_true h1, decide_eq_true h2, Bool.and_self, if_pos rfl, if_pos rfl, Sp.has_val, bs, decide_eq_true b1, decide_eq_true b2, Bool.and_self]
theorem arith_some2 (op x y : Int) : ∃ n ok, avermentref07_Arith.f op x y = some (n, ok) := by
  unfold avermentref07_Arith.f
  repeat' (first | exact ⟨_, _, rfl⟩ | split)
theorem sound_at (k : Nat) (op x y a b c d : Int) (hx : fits x) (hy : fits y) (ha : fits a) (hb : fits b) (hc : fits c) (hd : fits d) : avermentlaw10_SpanSound.f (k + 110) op x y a b c d = some true := by
  obtain ⟨p, q, e1, hp, hq, h1, h2⟩ := about_val ha hb hx
  obtain ⟨r, s, e2, hr, hs, h3, h4⟩ := about_val hc hd hy
  obtain ⟨n, ok, e3⟩ := arith_some2 op x y
  have e4 := two_val (k + 100) op hp hq hr hs (by omega) (by omega)
  have e5 := Sp.told_k (k + 110) (by omega)
  have e6 := sound_tail (k + 100) hp hq h1 h2
  unfold avermentlaw10_SpanSound.f
  rw [e1, bs, e2, bs, e3, bs, e4, bs, e5, bs, if_pos rfl]
  cases ok with
  | false => rw [if_neg Bool.false_ne_true]; exact e6
  | true =>
    obtain ⟨w1, w2, w3⟩ := sound2 hx hy hp h1 h2 h3 h4 e3
    rw [if_pos rfl, if_pos w1, Sp.has_val, bs, decide_eq_true w2, decide_eq_true w3, Bool.and_self, Bool.not_true]
    exact e6
theorem sound (op x y a b c d : Int) (hx : fits x) (hy : fits y) (ha : fits a) (hb : fits b) (hc : fits c) (hd : fits d) : ∃ k, avermentlaw10_SpanSound.f k op x y a b c d = some true :=
  ⟨_, sound_at 0 op x y a b c d hx hy ha hb hc hd⟩
end Go.Proofs.Ytpacmhhaabhdjaa.Sv
