/- What two spans come to: its value, as plain whole numbers. No condition. -/
import Derived.Test.YtpacmhhaabhdjaaSM7
import Derived.Test.YtpacmhhaabhdjaaSmO

set_option linter.unusedSimpArgs false
set_option linter.unusedVariables false
namespace Go.Proofs.Ytpacmhhaabhdjaa.Sv
open Go.RowKit Go.Proofs.Ytpacmhhaabhdjaa.SM Go.Proofs.Ytpacmhhaabhdjaa.Sn Go.Proofs.YtpacmhhaabhdjaaW.PrintWords Go.Proofs.YtpacmhhaabhdjaaW.PrintLast Go.Proofs.YtpacmhhaabhdjaaW.PrintMore
abbrev any : Int × Int × Bool := (-9223372036854775808, 9223372036854775807, true)
/-- The least and the greatest of some numbers. -/
def grow (p : Int × Int) (v : Int) : Int × Int := (mn p.1 v, mx p.2 v)
def hull : List Int → Int × Int
  | [] => (0, 0)
  | x :: r => r.foldl grow (x, x)
/-- Ends of what some numbers come to, or all. -/
def hullT (l : List Int) : Int × Int × Bool := if ∀ x ∈ l, fits x then ((hull l).1, (hull l).2, true) else any
/-- The numbers at the ends by which one parts. -/
def eds (c d : Int) : List Int := (if c < 0 then [c, mn d (-1)] else []) ++ (if d > 0 then [mx c 1, d] else [])
def quos (a b : Int) : List Int → List Int
  | [] => []
  | e :: r => a.tdiv e :: b.tdiv e :: quos a b r
def divV (a b c d : Int) : Int × Int × Bool :=
  if eds c d = [] then (0, 0, false) else if a = -9223372036854775808 ∧ c ≤ -1 ∧ -1 ≤ d then any else ((hull (quos a b (eds c d))).1, (hull (quos a b (eds c d))).2, true)
/-- How far a rest may be from 0. -/
def far (c d : Int) : Int := mx (if c < 0 then -1 - c else 0) (if d > 0 then d - 1 else 0)
def remV (a b c d : Int) : Int × Int × Bool :=
  if c = 0 ∧ d = 0 then (0, 0, false) else (if a < 0 then mx a (-far c d) else 0, if b > 0 then mn b (far c d) else 0, true)
def andV (a b c d : Int) : Int × Int :=
  if a ≥ 0 ∧ c ≥ 0 then (0, mn b d) else if a ≥ 0 then (0, b) else if c ≥ 0 then (0, d) else if b < 0 ∧ d < 0 then (-9223372036854775808, mn b d) else (-9223372036854775808, mx b d)
def xorV (a b c d : Int) : Int × Int :=
  if a ≥ 0 ∧ c ≥ 0 then (0, ones0 (mx b d)) else if b < 0 ∧ d < 0 then (0, ones0 (mx (-1 - a) (-1 - c))) else if b < 0 ∧ c ≥ 0 then (-1 - ones0 (mx (-1 - a) d), -1)
  else if a ≥ 0 ∧ d < 0 then (-1 - ones0 (mx b (-1 - c)), -1) else (-9223372036854775808, 9223372036854775807)
def twoV (op a b c d : Int) : Int × Int × Bool :=
  if op = 4 then hullT [a + c, b + d] else if op = 5 then hullT [a - d, b - c] else if op = 6 then hullT [a * c, a * d, b * c, b * d]
  else if op = 7 then divV a b c d else if op = 8 then remV a b c d else if op = 9 then ((andV a b c d).1, (andV a b c d).2, true) else if op = 10 then ((xorV a b c d).1, (xorV a b c d).2, true)
  else if op = 11 then (if b < c then (1, 1, true) else if a ≥ d then (0, 0, true) else (0, 1, true))
  else if op = 12 then (if a = b ∧ a = c ∧ b = d then (1, 1, true) else if b < c ∨ d < a then (0, 0, true) else (0, 1, true))
  else (0, 0, false)
/-! ### The program's own -/
theorem sum_val {x y : Int} (hx : fits x) (hy : fits y) : span_sum.f x y = some (wrap64 (x + y), decide (fits (x + y))) := by
  unfold span_sum.f
  rw [decide_eq_decide.mpr (sum_ok hx hy)]
theorem less_val {x y : Int} (hx : fits x) (hy : fits y) : span_less.f x y = some (wrap64 (x - y), decide (fits (x - y))) := by
  unfold span_less.f
  rw [decide_eq_decide.mpr (less_ok hx hy)]
theorem product_val {x y : Int} (hx : fits x) (hy : fits y) : span_product.f x y = some (wrap64 (x * y), decide (fits (x * y))) := by
  unfold span_product.f
  by_cases x0 : x = 0
  · subst x0; rw [if_pos rfl, Int.zero_mul]; decide +kernel
  rw [if_neg x0]
  by_cases y0 : y = 0
  · subst y0; rw [if_pos rfl, Int.mul_zero]; decide +kernel
  rw [if_neg y0]
  by_cases y1 : y = -1
  · subst y1
    have e : x * -1 = -x := by omega
    rw [e]
    by_cases m : x = -9223372036854775808
    · subst m; decide +kernel
    · have f : fits (-x) := by unfold fits at *; omega
      have t : wrap64 ((wrap64 (-x)).tdiv (-1)) = x := by rw [wr f, Int.tdiv_neg, Int.tdiv_one, Int.neg_neg, wr hx]
      rw [t, if_pos rfl, if_pos rfl, if_neg m, decide_eq_true f]
      split <;> rfl
  · by_cases f : fits (x * y)
    · rw [if_pos ((back_ok hx hy y0 y1).mpr f), if_neg y1, decide_eq_true f]
      split
      · rename_i h; subst h
        have : y ≠ -9223372036854775808 := by rintro rfl; revert f; decide +kernel
        rw [beq_eq_false_iff_ne.mpr this]; rfl
      · rfl
    · rw [if_neg (fun h => f ((back_ok hx hy y0 y1).mp h)), decide_eq_false f]
/-- One number more, where it fits. -/
theorem put_val (lo hi : Int) (seen out : Bool) (v : Int) : span_ends_put.f lo hi seen out (wrap64 v) (decide (fits v)) = some (if fits v then (if seen = true then (mn lo v, mx hi v, true, out) else (v, v, true, out)) else (lo, hi, seen, true)) := by
  unfold span_ends_put.f
  by_cases f : fits v
  · rw [if_pos (decide_eq_true f), if_pos f, wr f]
    cases seen <;> simp
  · rw [if_neg (by simp [f]), if_neg f]
theorem put_ok (lo hi : Int) (seen out : Bool) (v : Int) : span_ends_put.f lo hi seen out v true = some (if seen = true then (mn lo v, mx hi v, true, out) else (v, v, true, out)) := by
  unfold span_ends_put.f
  cases seen <;> simp
theorem all_val (lo hi : Int) (seen out : Bool) : span_ends_all.f lo hi seen out = some (if out = true then (-9223372036854775808, 9223372036854775807, true, lo, hi, seen, out) else (lo, hi, seen, lo, hi, seen, out)) := by
  unfold span_ends_all.f; split <;> rfl
end Go.Proofs.Ytpacmhhaabhdjaa.Sv
