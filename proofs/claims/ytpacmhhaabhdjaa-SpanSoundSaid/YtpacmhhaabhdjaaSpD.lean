/- What two numbers come to lies in what their spans come to. No condition. -/
import Derived.Test.YtpacmhhaabhdjaaSpU
import Derived.Test.YtpacmhhaabhdjaaSpF

set_option linter.unusedSimpArgs false
set_option linter.unusedVariables false
namespace Go.Proofs.Ytpacmhhaabhdjaa.Sv
open Go.RowKit Go.Proofs.Ytpacmhhaabhdjaa.SP Go.Proofs.Ytpacmhhaabhdjaa.Sn Go.Proofs.YtpacmhhaabhdjaaW.PrintWords Go.Proofs.YtpacmhhaabhdjaaW.PrintLast Go.Proofs.YtpacmhhaabhdjaaW.PrintMore
/-- A number lies in a span that is told. -/
def within (v : Int × Int × Bool) (n : Int) : Prop := v.2.2 = true ∧ v.1 ≤ n ∧ n ≤ v.2.1
theorem hull_bounds : ∀ (l : List Int) (p : Int × Int), ((l.foldl grow p).1 ≤ p.1 ∧ p.2 ≤ (l.foldl grow p).2) ∧ ∀ v ∈ l, (l.foldl grow p).1 ≤ v ∧ v ≤ (l.foldl grow p).2
  | [], p => ⟨⟨Int.le_refl _, Int.le_refl _⟩, fun v h => by cases h⟩
  | x :: r, p => by
    obtain ⟨⟨h1, h2⟩, h3⟩ := hull_bounds r (grow p x)
    have m1 := mn_spec p.1 x; have m2 := mx_spec p.2 x
    have e1 : (grow p x).1 = mn p.1 x := rfl
    have e2 : (grow p x).2 = mx p.2 x := rfl
    rw [List.foldl_cons]
    refine ⟨⟨by omega, by omega⟩, fun v hv => ?_⟩
    rcases List.mem_cons.mp hv with rfl | hv
    · exact ⟨by omega, by omega⟩
    · exact h3 v hv
theorem hull_has {l : List Int} {v : Int} (h : v ∈ l) : (hull l).1 ≤ v ∧ v ≤ (hull l).2 := by
  cases l with
  | nil => cases h
  | cons x r =>
    obtain ⟨⟨h1, h2⟩, h3⟩ := hull_bounds r (x, x)
    rcases List.mem_cons.mp h with rfl | h
    · exact ⟨h1, h2⟩
    · exact h3 v h
theorem hullT_has {l : List Int} {u v n : Int} (hu : u ∈ l) (hv : v ∈ l) (h1 : u ≤ n) (h2 : n ≤ v) : within (hullT l) (wrap64 n) := by
  unfold hullT
  by_cases f : ∀ x ∈ l, fits x
  · have a := f u hu; have b := f v hv
    rw [if_pos f, wr (by unfold fits at *; omega)]
    have c := hull_has hu; have d := hull_has hv
    exact ⟨rfl, by show (hull l).1 ≤ n; omega, by show n ≤ (hull l).2; omega⟩
  · rw [if_neg f]
    have w := wr_fits n
    exact ⟨rfl, w.1, w.2⟩
theorem quos_has (a b : Int) : ∀ (l : List Int) (e : Int), e ∈ l → a.tdiv e ∈ quos a b l ∧ b.tdiv e ∈ quos a b l
  | [], e, h => by cases h
  | x :: r, e, h => by
    rw [quos]
    rcases List.mem_cons.mp h with rfl | h
    · exact ⟨by simp, by simp⟩
    · obtain ⟨h1, h2⟩ := quos_has a b r e h
      exact ⟨by simp [h1], by simp [h2]⟩
theorem sound4 {p q r s x y : Int} (h1 : p ≤ x) (h2 : x ≤ q) (h3 : r ≤ y) (h4 : y ≤ s) : within (hullT [p + r, q + s]) (wrap64 (x + y)) :=
  hullT_has (u := p + r) (v := q + s) (by simp) (by simp) (by omega) (by omega)
theorem sound5 {p q r s x y : Int} (h1 : p ≤ x) (h2 : x ≤ q) (h3 : r ≤ y) (h4 : y ≤ s) : within (hullT [p - s, q - r]) (wrap64 (x - y)) :=
  hullT_has (u := p - s) (v := q - r) (by simp) (by simp) (by omega) (by omega)
theorem sound6 {p q r s x y : Int} (h1 : p ≤ x) (h2 : x ≤ q) (h3 : r ≤ y) (h4 : y ≤ s) : within (hullT [p * r, p * s, q * r, q * s]) (wrap64 (x * y)) := by
  have a := mul_btw y h1 h2
  have b := mul_btw p h3 h4
  have c := mul_btw q h3 h4
  rw [Int.mul_comm r p, Int.mul_comm y p, Int.mul_comm s p] at b
  rw [Int.mul_comm r q, Int.mul_comm y q, Int.mul_comm s q] at c
  have u : ∃ u ∈ [p * r, p * s, q * r, q * s], u ≤ x * y := by
    rcases a with a | a <;> rcases b with b | b <;> rcases c with c | c <;> first
      | exact ⟨p * r, by simp, by omega⟩
      | exact ⟨p * s, by simp, by omega⟩
      | exact ⟨q * r, by simp, by omega⟩
      | exact ⟨q * s, by simp, by omega⟩
  have v : ∃ v ∈ [p * r, p * s, q * r, q * s], x * y ≤ v := by
    rcases a with a | a <;> rcases b with b | b <;> rcases c with c | c <;> first
      | exact ⟨p * r, by simp, by omega⟩
      | exact ⟨p * s, by simp, by omega⟩
      | exact ⟨q * r, by simp, by omega⟩
      | exact ⟨q * s, by simp, by omega⟩
  obtain ⟨u, hu, u1⟩ := u
  obtain ⟨v, hv, v1⟩ := v
  exact hullT_has hu hv u1 v1
theorem sound7 {p q r s x y : Int} (hx : fits x) (h1 : p ≤ x) (h2 : x ≤ q) (h3 : r ≤ y) (h4 : y ≤ s) (y0 : y ≠ 0) (hp : fits p) : within (divV p q r s) (wrap64 (x.tdiv y)) := by
  have m1 := mn_spec s (-1); have m2 := mx_spec r 1
  obtain ⟨e, f, he, hf, e1, f1, es⟩ : ∃ e f, e ∈ eds r s ∧ f ∈ eds r s ∧ e ≤ y ∧ y ≤ f ∧ (0 < e ∨ f < 0) := by
    unfold eds
    rcases Int.lt_or_gt_of_ne y0 with g | g
    · rw [if_pos (show r < 0 by omega)]
      exact ⟨r, mn s (-1), by simp, by simp, h3, by omega, .inr (by omega)⟩
    · rw [if_pos (show s > 0 by omega)]
      exact ⟨mx r 1, s, by simp, by simp, by omega, h4, .inl (by omega)⟩
  have ne : eds r s ≠ [] := fun h => by rw [h] at he; cases he
  unfold divV
  rw [if_neg ne]
  by_cases full : p = -9223372036854775808 ∧ r ≤ -1 ∧ -1 ≤ s
  · rw [if_pos full]
    have w := wr_fits (x.tdiv y)
    exact ⟨rfl, w.1, w.2⟩
  rw [if_neg full, wr (tdiv_fits hx (fun h => full (by unfold fits at *; omega)))]
  obtain ⟨pe, qe⟩ := quos_has p q _ e he
  obtain ⟨pf, qf⟩ := quos_has p q _ f hf
  have b1 := hull_has pe; have b2 := hull_has qe; have b3 := hull_has pf; have b4 := hull_has qf
  have a := tdiv_btw y h1 h2
  have b := tdiv_by p e1 f1 es
  have c := tdiv_by q e1 f1 es
  refine ⟨rfl, ?_, ?_⟩
  · show (hull (quos p q (eds r s))).1 ≤ x.tdiv y
    omega
  · show x.tdiv y ≤ (hull (quos p q (eds r s))).2
    omega
theorem sound8 {p q r s x y : Int} (h1 : p ≤ x) (h2 : x ≤ q) (h3 : r ≤ y) (h4 : y ≤ s) (y0 : y ≠ 0) : within (remV p q r s) (x.tmod y) := by
  obtain ⟨b1, b2, b3, b4⟩ := tmod_bounds (x := x) y0
  have F : (y.natAbs : Int) - 1 ≤ far r s := by
    unfold far
    have m := mx_spec (if r < 0 then -1 - r else 0) (if s > 0 then s - 1 else 0)
    by_cases g : r < 0
    · rw [if_pos g] at m ⊢
      by_cases h : s > 0
      · rw [if_pos h] at m ⊢; omega
      · rw [if_neg h] at m ⊢; omega
    · rw [if_neg g] at m ⊢
      by_cases h : s > 0
      · rw [if_pos h] at m ⊢; omega
      · rw [if_neg h] at m ⊢; omega
  unfold remV
  rw [if_neg (by omega)]
  have m1 := mx_spec p (-far r s); have m2 := mn_spec q (far r s)
  refine ⟨rfl, ?_, ?_⟩
  · show (if p < 0 then mx p (-far r s) else 0) ≤ x.tmod y
    split <;> omega
  · show x.tmod y ≤ (if q > 0 then mn q (far r s) else 0)
    split <;> omega
theorem sound9 {p q r s x y : Int} (hx : fits x) (hy : fits y) (h1 : p ≤ x) (h2 : x ≤ q) (h3 : r ≤ y) (h4 : y ≤ s) : (andV p q r s).1 ≤ Go.bits .and .i64 x y ∧ Go.bits .and .i64 x y ≤ (andV p q r s).2 := by
  have f := and_fits x y
  have m1 := mn_spec q s; have m2 := mx_spec q s
  have a := fun h => and_l hx hy h
  have b := fun h => and_r hx hy h
  have c := fun h g => and_nn hx hy h g
  unfold andV
  generalize Go.bits .and .i64 x y = n at *
  unfold fits at *
  by_cases p0 : 0 ≤ x
  · have a := a p0
    by_cases r0 : 0 ≤ y
    · have b := b r0
      split
      · exact ⟨by omega, by show n ≤ mn q s; omega⟩
      split
      · exact ⟨by omega, by show n ≤ q; omega⟩
      split
      · exact ⟨by omega, by show n ≤ s; omega⟩
      split
      · omega
      · exact ⟨by show -9223372036854775808 ≤ n; omega, by show n ≤ mx q s; omega⟩
    · split
      · omega
      split
      · exact ⟨by omega, by show n ≤ q; omega⟩
      split
      · omega
      split
      · omega
      · exact ⟨by show -9223372036854775808 ≤ n; omega, by show n ≤ mx q s; omega⟩
  · by_cases r0 : 0 ≤ y
    · have b := b r0
      split
      · omega
      split
      · omega
      split
      · exact ⟨by omega, by show n ≤ s; omega⟩
      split
      · omega
      · exact ⟨by show -9223372036854775808 ≤ n; omega, by show n ≤ mx q s; omega⟩
    · have c := c (by omega) (by omega)
      split
      · omega
      split
      · omega
      split
      · omega
      split
      · exact ⟨by show -9223372036854775808 ≤ n; omega, by show n ≤ mn q s; omega⟩
      · exact ⟨by show -9223372036854775808 ≤ n; omega, by show n ≤ mx q s; omega⟩
theorem sound10 {p q r s x y : Int} (hx : fits x) (hy : fits y) (h1 : p ≤ x) (h2 : x ≤ q) (h3 : r ≤ y) (h4 : y ≤ s) : (xorV p q r s).1 ≤ Go.bits .xor .i64 x y ∧ Go.bits .xor .i64 x y ≤ (xorV p q r s).2 := by
  have f := xor_fits x y
  have nx := xor_not_l y hx
  have ny : Go.bits .xor .i64 x (-1 - y) = -1 - Go.bits .xor .i64 x y := by rw [xor_comm', xor_not_l x hy, xor_comm']
  have nn : Go.bits .xor .i64 (-1 - x) (-1 - y) = Go.bits .xor .i64 x y := by
    rw [xor_not_l _ hx, ny]; omega
  unfold xorV
  by_cases g1 : p ≥ 0 ∧ r ≥ 0
  · rw [if_pos g1]
    have a := xor_nn hx hy (by omega) (by omega)
    have m1 := mx_spec x y; have m2 := mx_spec q s
    have b := ones_le (show mx x y ≤ mx q s by omega)
    exact ⟨a.1, by show _ ≤ ones0 (mx q s); omega⟩
  rw [if_neg g1]
  by_cases g2 : q < 0 ∧ s < 0
  · rw [if_pos g2]
    have a := xor_nn (fits_not hx) (fits_not hy) (by omega) (by omega)
    have m1 := mx_spec (-1 - x) (-1 - y); have m2 := mx_spec (-1 - p) (-1 - r)
    have b := ones_le (show mx (-1 - x) (-1 - y) ≤ mx (-1 - p) (-1 - r) by omega)
    rw [nn] at a
    exact ⟨a.1, by show _ ≤ ones0 (mx (-1 - p) (-1 - r)); omega⟩
  rw [if_neg g2]
  by_cases g3 : q < 0 ∧ r ≥ 0
  · rw [if_pos g3]
    have a := xor_nn (fits_not hx) hy (by omega) (by omega)
    have m1 := mx_spec (-1 - x) y; have m2 := mx_spec (-1 - p) s
    have b := ones_le (show mx (-1 - x) y ≤ mx (-1 - p) s by omega)
    rw [nx] at a
    exact ⟨by show -1 - ones0 (mx (-1 - p) s) ≤ _; omega, by show _ ≤ (-1 : Int); omega⟩
  rw [if_neg g3]
  by_cases g4 : p ≥ 0 ∧ s < 0
  · rw [if_pos g4]
    have a := xor_nn hx (fits_not hy) (by omega) (by omega)
    have m1 := mx_spec x (-1 - y); have m2 := mx_spec q (-1 - r)
    have b := ones_le (show mx x (-1 - y) ≤ mx q (-1 - r) by omega)
    rw [ny] at a
    exact ⟨by show -1 - ones0 (mx q (-1 - r)) ≤ _; omega, by show _ ≤ (-1 : Int); omega⟩
  rw [if_neg g4]
  exact f
/-- What two numbers come to lies in what two spans that have them come to. -/
theorem sound2 {op p q r s x y n : Int} (hx : fits x) (hy : fits y) (hp : fits p) (h1 : p ≤ x) (h2 : x ≤ q) (h3 : r ≤ y) (h4 : y ≤ s) (h : avermentref07_Arith.f op x y = some (n, true)) : within (twoV op p q r s) n := by
  unfold avermentref07_Arith.f at h
  unfold twoV
  by_cases o4 : op = 4
  · rw [if_pos o4] at h ⊢
    simp only [Option.some.injEq, Prod.mk.injEq, and_true] at h
    rw [← h]; exact sound4 h1 h2 h3 h4
  rw [if_neg o4] at h ⊢
  by_cases o5 : op = 5
  · rw [if_pos o5] at h ⊢
    simp only [Option.some.injEq, Prod.mk.injEq, and_true] at h
    rw [← h]; exact sound5 h1 h2 h3 h4
  rw [if_neg o5] at h ⊢
  by_cases o6 : op = 6
  · rw [if_pos o6] at h ⊢
    simp only [Option.some.injEq, Prod.mk.injEq, and_true] at h
    rw [← h]; exact sound6 h1 h2 h3 h4
  rw [if_neg o6] at h ⊢
  by_cases o7 : op = 7
  · rw [if_pos o7] at h ⊢
    by_cases y0 : y = 0
    · rw [if_pos y0] at h; simp at h
    rw [if_neg y0] at h
    have e : n = wrap64 (x.tdiv y) := by
      by_cases y1 : y = -1
      · rw [if_pos y1] at h
        simp only [Option.some.injEq, Prod.mk.injEq, and_true] at h
        rw [← h, y1, Int.tdiv_neg, Int.tdiv_one]
      · rw [if_neg y1] at h
        simp only [Option.some.injEq, Prod.mk.injEq, and_true] at h
        exact h.symm
    rw [e]; exact sound7 hx h1 h2 h3 h4 y0 hp
  rw [if_neg o7] at h ⊢
  by_cases o8 : op = 8
  · rw [if_pos o8] at h ⊢
    by_cases y0 : y = 0
    · rw [if_pos y0] at h; simp at h
    rw [if_neg y0] at h
    have e : n = x.tmod y := by
      by_cases y1 : y = -1
      · rw [if_pos y1] at h
        simp only [Option.some.injEq, Prod.mk.injEq, and_true] at h
        rw [← h, y1, Int.tmod_neg, Int.tmod_one]
      · rw [if_neg y1] at h
        simp only [Option.some.injEq, Prod.mk.injEq, and_true] at h
        exact h.symm
    rw [e]; exact sound8 h1 h2 h3 h4 y0
  rw [if_neg o8] at h ⊢
  by_cases o9 : op = 9
  · rw [if_pos o9] at h ⊢
    simp only [Option.some.injEq, Prod.mk.injEq, and_true] at h
    rw [← h]
    obtain ⟨a, b⟩ := sound9 hx hy h1 h2 h3 h4
    exact ⟨rfl, a, b⟩
  rw [if_neg o9] at h ⊢
  by_cases o10 : op = 10
  · rw [if_pos o10] at h ⊢
    simp only [Option.some.injEq, Prod.mk.injEq, and_true] at h
    rw [← h]
    obtain ⟨a, b⟩ := sound10 hx hy h1 h2 h3 h4
    exact ⟨rfl, a, b⟩
  rw [if_neg o10] at h ⊢
  by_cases o11 : op = 11
  · rw [if_pos o11] at h ⊢
    by_cases l : x < y
    · rw [if_pos l] at h
      simp only [Option.some.injEq, Prod.mk.injEq, and_true] at h
      subst h
      split
      · exact ⟨rfl, by decide, by decide⟩
      split
      · omega
      · exact ⟨rfl, by decide, by decide⟩
    · rw [if_neg l] at h
      simp only [Option.some.injEq, Prod.mk.injEq, and_true] at h
      subst h
      split
      · omega
      split
      · exact ⟨rfl, by decide, by decide⟩
      · exact ⟨rfl, by decide, by decide⟩
  rw [if_neg o11] at h ⊢
  by_cases o12 : op = 12
  · rw [if_pos o12] at h ⊢
    by_cases l : x = y
    · rw [if_pos l] at h
      simp only [Option.some.injEq, Prod.mk.injEq, and_true] at h
      subst h
      split
      · exact ⟨rfl, by decide, by decide⟩
      split
      · omega
      · exact ⟨rfl, by decide, by decide⟩
    · rw [if_neg l] at h
      simp only [Option.some.injEq, Prod.mk.injEq, and_true] at h
      subst h
      split
      · omega
      split
      · exact ⟨rfl, by decide, by decide⟩
      · exact ⟨rfl, by decide, by decide⟩
  rw [if_neg o12] at h
  simp at h
end Go.Proofs.Ytpacmhhaabhdjaa.Sv
