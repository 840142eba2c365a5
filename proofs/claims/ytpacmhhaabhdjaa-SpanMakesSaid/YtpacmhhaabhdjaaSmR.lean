/- What the document makes of two spans is the same plain value. No condition. -/
import Derived.Test.YtpacmhhaabhdjaaSM13
import Derived.Test.YtpacmhhaabhdjaaSmU

set_option linter.unusedSimpArgs false
set_option linter.unusedVariables false
namespace Go.Proofs.Ytpacmhhaabhdjaa.Sv
open Go.RowKit Go.Proofs.Ytpacmhhaabhdjaa.SM Go.Proofs.Ytpacmhhaabhdjaa.Sn Go.Proofs.YtpacmhhaabhdjaaW.PrintWords Go.Proofs.YtpacmhhaabhdjaaW.PrintLast Go.Proofs.YtpacmhhaabhdjaaW.PrintMore
theorem radd {x y : Int} (hx : fits x) (hy : fits y) : avermentref10_add.f x y = some (wrap64 (x + y), decide (fits (x + y))) := by
  unfold avermentref10_add.f
  have w := wr_fits (x + y)
  by_cases x0 : x ≥ 0 <;> by_cases y0 : y ≥ 0
  · have e : decide (wrap64 (x + y) ≥ 0) = decide (fits (x + y)) := decide_eq_decide.mpr (by unfold fits wrap64 at *; omega)
    rw [decide_eq_true x0, decide_eq_true y0, if_neg (by decide), e]
    simp
  · have e : fits (x + y) := by unfold fits at *; omega
    rw [decide_eq_true x0, decide_eq_false y0, if_pos (by decide), decide_eq_true e]
  · have e : fits (x + y) := by unfold fits at *; omega
    rw [decide_eq_false x0, decide_eq_true y0, if_pos (by decide), decide_eq_true e]
  · have e : decide (wrap64 (x + y) ≥ 0) = !decide (fits (x + y)) := by
      rw [← decide_not]
      exact decide_eq_decide.mpr (by unfold fits wrap64 at *; omega)
    rw [decide_eq_false x0, decide_eq_false y0, if_neg (by decide), e]
    cases decide (fits (x + y)) <;> rfl
theorem rsub {x y : Int} (hx : fits x) (hy : fits y) : avermentref10_sub.f x y = some (wrap64 (x - y), decide (fits (x - y))) := by
  unfold avermentref10_sub.f
  have w := wr_fits (x - y)
  by_cases x0 : x ≥ 0 <;> by_cases y0 : y ≥ 0
  · have e : fits (x - y) := by unfold fits at *; omega
    rw [decide_eq_true x0, decide_eq_true y0, if_pos (by decide), decide_eq_true e]
  · have e : decide (wrap64 (x - y) ≥ 0) = decide (fits (x - y)) := decide_eq_decide.mpr (by unfold fits wrap64 at *; omega)
    rw [decide_eq_true x0, decide_eq_false y0, if_neg (by decide), e]
    simp
  · have e : decide (wrap64 (x - y) ≥ 0) = !decide (fits (x - y)) := by
      rw [← decide_not]
      exact decide_eq_decide.mpr (by unfold fits wrap64 at *; omega)
    rw [decide_eq_false x0, decide_eq_true y0, if_neg (by decide), e]
    cases decide (fits (x - y)) <;> rfl
  · have e : fits (x - y) := by unfold fits at *; omega
    rw [decide_eq_false x0, decide_eq_false y0, if_pos (by decide), decide_eq_true e]
theorem rtimes (k : Nat) {x y : Int} (hx : fits x) (hy : fits y) : avermentref10_times.f (k + 1) x y = some (wrap64 (x * y), decide (fits (x * y))) := by
  unfold avermentref10_times.f
  by_cases x0 : x = 0
  · subst x0; rw [if_pos rfl, avermentref10_times.j0, if_pos rfl, Int.zero_mul]; decide +kernel
  rw [if_neg x0]
  by_cases y0 : y = 0
  · subst y0; rw [avermentref10_times.j0, if_pos (by decide), Int.mul_zero]; decide +kernel
  rw [beq_eq_false_iff_ne.mpr y0, avermentref10_times.j0, if_neg Bool.false_ne_true]
  by_cases x1 : x = -1
  · have e : x * y = -y := by subst x1; omega
    rw [if_pos x1, if_neg (by omega), e]
    by_cases m : y = -9223372036854775808
    · subst m; decide +kernel
    · have f : fits (-y) := by unfold fits at *; omega
      rw [decide_eq_true f, bne_iff_ne.mpr m]
  rw [if_neg x1]
  by_cases y1 : y = -1
  · have e : x * y = -x := by subst y1; omega
    rw [if_pos y1, e]
    by_cases m : x = -9223372036854775808
    · subst m; rw [if_pos rfl]; decide +kernel
    · have f : fits (-x) := by unfold fits at *; omega
      have n : y ≠ -9223372036854775808 := by omega
      rw [if_neg m, decide_eq_true f, bne_iff_ne.mpr n]
  rw [if_neg y1, if_neg y0]
  have b := back_ok hx hy y0 y1
  by_cases f : fits (x * y)
  · rw [decide_eq_true f, beq_iff_eq.mpr (b.mpr f)]
  · rw [decide_eq_false f, beq_eq_false_iff_ne.mpr (fun h => f (b.mp h))]
theorem rd_mid (pre rest : List Int) (v : Int) (i : Int) (h : i = (pre.length : Int)) : rd (pre ++ v :: rest) i = v := by
  subst h
  simp [rd]
theorem hull_loop : ∀ (rest pre l : List Int) (i lo hi : Int) (k : Nat), l = pre ++ rest → i = (pre.length : Int) → l.length ≤ 1000 → rest.length + 1 ≤ k →
    avermentref10_hull.l0 k l i lo hi = some ((rest.foldl grow (lo, hi)).1, (rest.foldl grow (lo, hi)).2, true)
  | [], pre, l, i, lo, hi, k, e, hi', hl, hk => by
    obtain ⟨k, rfl⟩ : ∃ q, k = q + 1 := ⟨k - 1, by simp at hk; omega⟩
    have n : l.length = pre.length := by rw [e]; simp
    rw [avermentref10_hull.l0, if_neg (by omega)]
    rfl
  | v :: rest, pre, l, i, lo, hi, k, e, hi', hl, hk => by
    obtain ⟨k, rfl⟩ : ∃ q, k = q + 1 := ⟨k - 1, by simp at hk; omega⟩
    have n : l.length = pre.length + rest.length + 1 := by rw [e, List.length_append, List.length_cons]; omega
    have w : wrap64 (i + 1) = i + 1 := by unfold wrap64; omega
    rw [avermentref10_hull.l0, if_pos (by omega), if_pos (by omega), w, e, rd_mid pre rest v i hi', show avermentref10_Join.f lo hi v v = some (mn lo v, mx hi v) from rfl, bs, ← e]
    exact hull_loop rest (pre ++ [v]) l (i + 1) _ _ k (by rw [e]; simp) (by simp; omega) hl (by simp at hk; omega)
theorem hull_ok (k : Nat) (x : Int) (r : List Int) (h : r.length ≤ 900) (hk : r.length + 1 ≤ k) : avermentref10_hull.f k (x :: r) true = some ((hull (x :: r)).1, (hull (x :: r)).2, true) := by
  unfold avermentref10_hull.f
  rw [if_pos rfl, if_pos (by simp)]
  exact hull_loop r [x] (x :: r) 1 x x k rfl rfl (by simp; omega) hk
theorem hull_no (k : Nat) (l : List Int) : avermentref10_hull.f k l false = some any := by
  unfold avermentref10_hull.f
  rw [if_neg Bool.false_ne_true]
  rfl
theorem ref4 (k : Nat) {x y : Int} (hk : 5 ≤ k) : (if decide (fits x) = true then ((avermentref10_hull.f k [wrap64 x, wrap64 y] (decide (fits y))).bind fun t => some (t.1, t.2.1, t.2.2)) else ((avermentref10_hull.f k [wrap64 x, wrap64 y] false).bind fun t => some (t.1, t.2.1, t.2.2))) = some (hullT [x, y]) := by
  rw [hullT2, hull_no, bs]
  by_cases f : fits x
  · rw [if_pos (decide_eq_true f), if_pos f, wr f]
    by_cases g : fits y
    · rw [decide_eq_true g, if_pos g, wr g, hull_ok k _ _ (by simp) (by simp; omega), bs]; rfl
    · rw [decide_eq_false g, if_neg g, hull_no, bs]
  · rw [if_neg (by simpa using f), if_neg f]
theorem r6_step (k : Nat) (l : List Int) (ok : Bool) (i a b c d p q : Int) (ha : fits p) (hc : fits q) (hl : l.length ≤ 4) (h : i < 4) (j1 : 0 ≤ wrap64 (i.tdiv 2)) (j2 : wrap64 (i.tdiv 2) < 2) (j3 : 0 ≤ i.tmod 2) (j4 : i.tmod 2 < 2)
    (e1 : rd [a, b] (wrap64 (i.tdiv 2)) = p) (e2 : rd [c, d] (i.tmod 2) = q) (w : wrap64 (i + 1) = i + 1) :
    avermentref10_Two.l0 (k + 2) l ok i a b c d = avermentref10_Two.l0 (k + 1) (l ++ [wrap64 (p * q)]) (ok && decide (fits (p * q))) (i + 1) a b c d := by
  rw [avermentref10_Two.l0, if_pos h, bs, if_pos j1, if_pos (by simpa using j2), bs, if_pos j3, if_pos (by simpa using j4), e1, e2, rtimes k ha hc, bs, if_pos (by omega), bs, w]
  cases ok <;> rfl
theorem r6 (k : Nat) {a b c d : Int} (ha : fits a) (hb : fits b) (hc : fits c) (hd : fits d) (hk : 10 ≤ k) : avermentref10_Two.l0 (k + 5) [] true 0 a b c d = some (hullT [a * c, a * d, b * c, b * d]) := by
  have u0 : wrap64 (Int.tdiv 0 2) = 0 := by decide +kernel
  have v0 : Int.tmod 0 2 = 0 := by decide
  rw [r6_step (k + 3) [] true 0 a b c d a c ha hc (by decide) (by decide) (by decide +kernel) (by decide +kernel) (by decide) (by decide) (by rw [u0]; rfl) (by rw [v0]; rfl) (by decide +kernel)]
  have u1 : wrap64 (Int.tdiv (0 + 1) 2) = 0 := by decide +kernel
  have v1 : Int.tmod (0 + 1) 2 = 1 := by decide
  rw [r6_step (k + 2) _ _ (0 + 1) a b c d a d ha hd (by simp) (by decide) (by decide +kernel) (by decide +kernel) (by decide) (by decide) (by rw [u1]; rfl) (by rw [v1]; rfl) (by decide +kernel)]
  have u2 : wrap64 (Int.tdiv (0 + 1 + 1) 2) = 1 := by decide +kernel
  have v2 : Int.tmod (0 + 1 + 1) 2 = 0 := by decide
  rw [r6_step (k + 1) _ _ (0 + 1 + 1) a b c d b c hb hc (by simp) (by decide) (by decide +kernel) (by decide +kernel) (by decide) (by decide) (by rw [u2]; rfl) (by rw [v2]; rfl) (by decide +kernel)]
  have u3 : wrap64 (Int.tdiv (0 + 1 + 1 + 1) 2) = 1 := by decide +kernel
  have v3 : Int.tmod (0 + 1 + 1 + 1) 2 = 1 := by decide
  rw [r6_step k _ _ (0 + 1 + 1 + 1) a b c d b d hb hd (by simp) (by decide) (by decide +kernel) (by decide +kernel) (by decide) (by decide) (by rw [u3]; rfl) (by rw [v3]; rfl) (by decide +kernel)]
  rw [avermentref10_Two.l0, if_neg (by decide)]
  rw [hullT4]
  by_cases f : fits (a * c)
  · rw [if_pos f, decide_eq_true f]
    by_cases g : fits (a * d)
    · rw [if_pos g, decide_eq_true g]
      by_cases h : fits (b * c)
      · rw [if_pos h, decide_eq_true h]
        by_cases i : fits (b * d)
        · rw [if_pos i, decide_eq_true i, wr f, wr g, wr h, wr i]
          simp only [Bool.and_self, List.nil_append, List.cons_append]
          rw [hull_ok k _ _ (by simp) (by simp; omega), bs]; rfl
        · rw [if_neg i, decide_eq_false i]; simp only [Bool.and_false, hull_no, bs]
      · rw [if_neg h, decide_eq_false h]; simp only [Bool.and_false, Bool.false_and, hull_no, bs]
    · rw [if_neg g, decide_eq_false g]; simp only [Bool.and_false, Bool.false_and, hull_no, bs]
  · rw [if_neg f, decide_eq_false f]; simp only [Bool.and_false, Bool.false_and, hull_no, bs]
end Go.Proofs.Ytpacmhhaabhdjaa.Sv
