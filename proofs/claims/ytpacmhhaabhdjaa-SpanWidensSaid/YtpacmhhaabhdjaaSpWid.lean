/- Widening comes to an end: each end moves but once. No condition. -/
import Derived.Test.YtpacmhhaabhdjaaSP22
import Derived.Test.YtpacmhhaabhdjaaSpB

set_option linter.unusedSimpArgs false
set_option linter.unusedVariables false
namespace Go.Proofs.Ytpacmhhaabhdjaa.Sp
open Go.RowKit Go.Proofs.Ytpacmhhaabhdjaa.SP Go.Proofs.YtpacmhhaabhdjaaW.PrintWords Go.Proofs.YtpacmhhaabhdjaaW.PrintLast Go.Proofs.YtpacmhhaabhdjaaW.PrintMore
/-- How many ends stand at the edge. -/
def edge (lo hi : Int) : Int := (if lo = -9223372036854775808 then 1 else 0) + (if hi = 9223372036854775807 then 1 else 0)
theorem edge_le (lo hi : Int) : edge lo hi ≤ 2 := by unfold edge; split <;> split <;> omega
theorem small_step (x : Int) (h0 : 0 ≤ x) (h1 : x ≤ 1000) : wrap64 (x + 1) = x + 1 := by unfold wrap64; omega
theorem rd_fits {l : List S56} (hl : ∀ x ∈ l, fits x.f0 ∧ fits x.f1) {i : Int} (h0 : 0 ≤ i) (h1 : i < (l.length : Int)) : fits (rd_T56 l i).f0 ∧ fits (rd_T56 l i).f1 := by
  unfold rd_T56
  have h : i.toNat < l.length := by omega
  rw [List.getD_eq_getElem?_getD, List.getElem?_eq_getElem h]
  exact hl _ (List.getElem_mem h)
theorem widen_loop {l : List S56} (hl : ∀ x ∈ l, fits x.f0 ∧ fits x.f1) : ∀ (m : Nat) (x6 x7 lo hi : Int), m ≤ 100 → x7 = 100 - m → fits lo → fits hi → 0 ≤ x6 → x6 ≤ edge lo hi → ∀ k, 3 * m + 110 ≤ k → avermentlaw10_SpanWidens.l0 k l x6 x7 lo hi = some true := by
  have stop : ∀ (x6 x7 lo hi : Int) k, x6 ≤ edge lo hi → 105 ≤ k → avermentlaw10_SpanWidens.j1 k l x6 x7 false lo hi = some true := by
    intro x6 x7 lo hi k h hk
    obtain ⟨k, rfl⟩ : ∃ q, k = q + 1 := ⟨k - 1, by omega⟩
    have := edge_le lo hi
    rw [avermentlaw10_SpanWidens.j1, if_neg Bool.false_ne_true, told_k k (by omega), bs, if_pos rfl, decide_eq_true (by omega)]
  intro m
  induction m with
  | zero =>
    intro x6 x7 lo hi hm e f0 f1 g0 g1 k hk
    obtain ⟨k, rfl⟩ : ∃ q, k = q + 1 := ⟨k - 1, by omega⟩
    rw [avermentlaw10_SpanWidens.l0, show decide (x7 < 100) = false from decide_eq_false (by omega)]
    split <;> exact stop _ _ _ _ _ g1 (by omega)
  | succ m ih =>
    intro x6 x7 lo hi hm e f0 f1 g0 g1 k hk
    obtain ⟨k, rfl⟩ : ∃ q, k = q + 3 := ⟨k - 3, by omega⟩
    rw [avermentlaw10_SpanWidens.l0]
    by_cases hlen : x7 < (l.length : Int)
    · have h7 : 0 ≤ x7 := by omega
      obtain ⟨r0, r1⟩ := rd_fits hl h7 hlen
      rw [if_pos hlen, show decide (x7 < 100) = true from decide_eq_true (by omega), avermentlaw10_SpanWidens.j1, if_pos rfl, if_pos h7, if_pos hlen, fix_val]
      obtain ⟨p, q, hpq, p0, q0⟩ : ∃ p q, (if (rd_T56 l x7).f0 > (rd_T56 l x7).f1 then ((rd_T56 l x7).f1, (rd_T56 l x7).f0) else ((rd_T56 l x7).f0, (rd_T56 l x7).f1)) = (p, q) ∧ fits p ∧ fits q := by
        split
        · exact ⟨_, _, rfl, r1, r0⟩
        · exact ⟨_, _, rfl, r0, r1⟩
      rw [hpq]
      simp only [bs, avermentlaw10_To.f, widen_some, within_some]
      obtain ⟨lo', hlo⟩ : ∃ z, z = (if p < lo then (-9223372036854775808 : Int) else lo) := ⟨_, rfl⟩
      obtain ⟨hi', hhi⟩ : ∃ z, z = (if q > hi then (9223372036854775807 : Int) else hi) := ⟨_, rfl⟩
      rw [← hlo, ← hhi]
      have a1 : lo' ≤ lo ∧ lo' ≤ p ∧ fits lo' ∧ (lo' = lo ∨ lo' = -9223372036854775808 ∧ lo ≠ -9223372036854775808) := by
        unfold fits at *
        by_cases h : p < lo
        · rw [if_pos h] at hlo; omega
        · rw [if_neg h] at hlo; omega
      have a2 : hi ≤ hi' ∧ q ≤ hi' ∧ fits hi' ∧ (hi' = hi ∨ hi' = 9223372036854775807 ∧ hi ≠ 9223372036854775807) := by
        unfold fits at *
        by_cases h : q > hi
        · rw [if_pos h] at hhi; omega
        · rw [if_neg h] at hhi; omega
      rw [decide_eq_true a1.1, decide_eq_true a2.1, decide_eq_true a1.2.1, decide_eq_true a2.2.1]
      simp only [Bool.and_self, if_true, Bool.not_true]
      rw [avermentlaw10_SpanWidens.j2, if_neg Bool.false_ne_true, small_step x7 h7 (by omega)]
      by_cases ch : (!(lo' == lo) || (!(hi' == hi))) = true
      · rw [if_pos ch, small_step x6 g0 (by have := edge_le lo hi; omega)]
        have mv : lo' ≠ lo ∨ hi' ≠ hi := by simpa using ch
        refine ih _ _ _ _ (by omega) (by omega) a1.2.2.1 a2.2.2.1 (by omega) ?_ k (by omega)
        have : edge lo hi + 1 ≤ edge lo' hi' := by
          unfold edge
          obtain ⟨-, -, -, b1⟩ := a1
          obtain ⟨-, -, -, b2⟩ := a2
          by_cases c1 : lo = -9223372036854775808 <;> by_cases c2 : hi = 9223372036854775807 <;> by_cases c3 : lo' = -9223372036854775808 <;> by_cases c4 : hi' = 9223372036854775807 <;> simp only [c1, c2, c3, c4, if_true, if_false] <;> omega
        omega
      · have st : lo' = lo ∧ hi' = hi := by simpa using ch
        rw [if_neg ch]
        obtain ⟨st1, st2⟩ := st
        rw [st1, st2]
        exact ih _ _ _ _ (by omega) (by omega) f0 f1 g0 g1 k (by omega)
    · rw [if_neg hlen]
      exact stop _ _ _ _ _ g1 (by omega)
theorem widens {l : List S56} (hl : ∀ x ∈ l, fits x.f0 ∧ fits x.f1) (a b : Int) (ha : fits a) (hb : fits b) : ∃ k, avermentlaw10_SpanWidens.f k a b l = some true := by
  refine ⟨500, ?_⟩
  unfold avermentlaw10_SpanWidens.f
  rw [fix_val, bs]
  simp only [avermentlaw10_To.f, bs]
  refine widen_loop hl 100 _ _ _ _ (by omega) (by omega) ?_ ?_ (by omega) ?_ 500 (by omega)
  · split <;> assumption
  · split <;> assumption
  · unfold edge; split <;> split <;> omega
end Go.Proofs.Ytpacmhhaabhdjaa.Sp
