/- What the document makes of two spans, all operations. No condition. -/
import Derived.Test.YtpacmhhaabhdjaaSmQ

set_option linter.unusedSimpArgs false
set_option linter.unusedVariables false
namespace Go.Proofs.Ytpacmhhaabhdjaa.Sv
open Go.RowKit Go.Proofs.Ytpacmhhaabhdjaa.SM Go.Proofs.Ytpacmhhaabhdjaa.Sn Go.Proofs.YtpacmhhaabhdjaaW.PrintWords Go.Proofs.YtpacmhhaabhdjaaW.PrintLast Go.Proofs.YtpacmhhaabhdjaaW.PrintMore
theorem not_w {x : Int} (h : fits x) : wrap64 ((-1) - x) = -1 - x := wr (fits_not h)
theorem r10 (k : Nat) {a b c d : Int} (ha : fits a) (hb : fits b) (hc : fits c) (hd : fits d) (hab : a ≤ b) (hcd : c ≤ d) : avermentref10_xor.f (k + 80) a b c d = some (xorV a b c d) := by
  unfold xorV
  by_cases g1 : a ≥ 0 ∧ c ≥ 0
  · have m := mx_spec b d
    unfold avermentref10_xor.f
    rw [if_pos g1, if_pos g1.1, decide_eq_true g1.2, avermentref10_xor.j0, if_pos rfl, rones (k + 79) (by omega) (fits_mx hb hd).2 (by omega), bs]
  rw [if_neg g1]
  have st : avermentref10_xor.f (k + 80) a b c d = avermentref10_xor.j0 (k + 80) false a b c d := by
    unfold avermentref10_xor.f
    by_cases a0 : a ≥ 0
    · rw [if_pos a0, decide_eq_false (fun h => g1 ⟨a0, h⟩)]
    · rw [if_neg a0]
  rw [st, avermentref10_xor.j0, if_neg Bool.false_ne_true]
  by_cases g2 : b < 0 ∧ d < 0
  · have m := mx_spec (-1 - a) (-1 - c)
    rw [if_pos g2, if_pos g2.1, decide_eq_true g2.2, avermentref10_xor.j1, if_pos rfl, not_w ha, not_w hc, rones (k + 78) (by omega) (fits_mx (fits_not ha) (fits_not hc)).2 (by omega), bs]
  rw [if_neg g2]
  have st1 : (if b < 0 then avermentref10_xor.j1 (k + 79) (decide (d < 0)) a b c d else avermentref10_xor.j1 (k + 79) false a b c d) = avermentref10_xor.j1 (k + 79) false a b c d := by
    by_cases b0 : b < 0
    · rw [if_pos b0, decide_eq_false (fun h => g2 ⟨b0, h⟩)]
    · rw [if_neg b0]
  rw [st1, avermentref10_xor.j1, if_neg Bool.false_ne_true]
  by_cases g3 : b < 0 ∧ c ≥ 0
  · have m := mx_spec (-1 - a) d
    have f := fits_mx (fits_not ha) hd
    have o1 := ones_ge (mx (-1 - a) d)
    have o2 := ones_fits f
    rw [if_pos g3, if_pos g3.1, decide_eq_true g3.2, avermentref10_xor.j2, if_pos rfl, not_w ha, rones (k + 77) (by omega) f.2 (by omega), bs, not_w (by unfold fits; omega)]
  rw [if_neg g3]
  have st2 : (if b < 0 then avermentref10_xor.j2 (k + 78) (decide (c ≥ 0)) a b c d else avermentref10_xor.j2 (k + 78) false a b c d) = avermentref10_xor.j2 (k + 78) false a b c d := by
    by_cases b0 : b < 0
    · rw [if_pos b0, decide_eq_false (fun h => g3 ⟨b0, h⟩)]
    · rw [if_neg b0]
  rw [st2, avermentref10_xor.j2, if_neg Bool.false_ne_true]
  by_cases g4 : a ≥ 0 ∧ d < 0
  · have m := mx_spec b (-1 - c)
    have f := fits_mx hb (fits_not hc)
    have o1 := ones_ge (mx b (-1 - c))
    have o2 := ones_fits f
    rw [if_pos g4, if_pos g4.1, decide_eq_true g4.2, avermentref10_xor.j3, if_pos rfl, not_w hc, rones (k + 76) (by omega) f.2 (by omega), bs, not_w (by unfold fits; omega)]
  rw [if_neg g4]
  have st3 : (if a ≥ 0 then avermentref10_xor.j3 (k + 77) (decide (d < 0)) a b c d else avermentref10_xor.j3 (k + 77) false a b c d) = avermentref10_xor.j3 (k + 77) false a b c d := by
    by_cases a0 : a ≥ 0
    · rw [if_pos a0, decide_eq_false (fun h => g4 ⟨a0, h⟩)]
    · rw [if_neg a0]
  rw [st3, avermentref10_xor.j3, if_neg Bool.false_ne_true]
  rfl
theorem rj1 (k : Nat) (t : Bool) (a b c d : Int) : avermentref10_Two.j1 (k + 1) t a b c d = some (if t = true then (1, 1, true) else if b < c ∨ d < a then (0, 0, true) else (0, 1, true)) := by
  rw [avermentref10_Two.j1]
  cases t
  · by_cases p : b < c <;> by_cases q : d < a <;> simp [p, q]
  · rfl
theorem rtwo_val (k : Nat) (op : Int) {a b c d : Int} (ha : fits a) (hb : fits b) (hc : fits c) (hd : fits d) (hab : a ≤ b) (hcd : c ≤ d) : avermentref10_Two.f (k + 90) op a b c d = some (twoV op a b c d) := by
  unfold twoV avermentref10_Two.f
  by_cases o4 : op = 4
  · rw [if_pos o4, if_pos o4, radd ha hc, bs, radd hb hd, bs, bs]
    exact ref4 _ (by omega)
  rw [if_neg o4, if_neg o4]
  by_cases o5 : op = 5
  · rw [if_pos o5, if_pos o5, rsub ha hd, bs, rsub hb hc, bs, bs]
    exact ref4 _ (by omega)
  rw [if_neg o5, if_neg o5]
  by_cases o6 : op = 6
  · rw [if_pos o6, if_pos o6]
    exact r6 (k + 85) ha hb hc hd (by omega)
  rw [if_neg o6, if_neg o6]
  by_cases o7 : op = 7
  · rw [if_pos o7, if_pos o7, r7 (k + 50) ha hb hc hd hab hcd, bs]
  rw [if_neg o7, if_neg o7]
  by_cases o8 : op = 8
  · rw [if_pos o8, if_pos o8, r8 (k + 89) hc hd, bs]
  rw [if_neg o8, if_neg o8]
  by_cases o9 : op = 9
  · rw [if_pos o9, if_pos o9, r9 (k + 89), bs]
  rw [if_neg o9, if_neg o9]
  by_cases o10 : op = 10
  · rw [if_pos o10, if_pos o10, r10 (k + 10) ha hb hc hd hab hcd, bs]
  rw [if_neg o10, if_neg o10]
  by_cases o11 : op = 11
  · rw [if_pos o11, if_pos o11]
    by_cases p : b < c <;> by_cases q : a ≥ d <;> simp [p, q]
  rw [if_neg o11, if_neg o11]
  by_cases o12 : op = 12
  · rw [if_pos o12, if_pos o12, rj1 (k + 89), rj1 (k + 89)]
    by_cases u : a = b
    · rw [if_pos u]
      by_cases v : a = c ∧ b = d
      · rw [if_pos (by simpa using v), if_pos ⟨u, v⟩]
      · have n : ¬ (a = b ∧ a = c ∧ b = d) := fun h => v h.2
        rw [if_neg (by simpa using v), if_neg n]
    · have n : ¬ (a = b ∧ a = c ∧ b = d) := fun h => u h.1
      rw [if_neg u, if_neg Bool.false_ne_true, if_neg n]
  rw [if_neg o12, if_neg o12]
end Go.Proofs.Ytpacmhhaabhdjaa.Sv
