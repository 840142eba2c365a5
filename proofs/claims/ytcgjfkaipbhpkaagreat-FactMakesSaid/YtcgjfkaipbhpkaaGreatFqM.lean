/- Of all operations and Values the program tells what the document tells: the plain law. No condition. -/
import Derived.Test.YtcgjfkaipbhpkaaGreatFqV

namespace Go.Proofs.YtcgjfkaipbhpkaaGreat.FM
open Go.RowKit Go.Proofs.YtcgjfkaipbhpkaaGreatX Go.Proofs.YtcgjfkaipbhpkaaGreat.Sr
set_option linter.unusedVariables false
set_option linter.unusedSimpArgs false
theorem rAdd_val {x y : Int} (hx : fits x) (hy : fits y) : avermentref10_add.f x y = some (wrap64 (x + y), decide (fits (x + y))) := by
  unfold avermentref10_add.f
  rw [w64]
  have w := wr_fits (x + y)
  by_cases x0 : x ≥ 0 <;> by_cases y0 : y ≥ 0
  · have e : decide (wrap64 (x + y) ≥ 0) = decide (fits (x + y)) := decide_eq_decide.mpr (by unfold fits wrap64 at *; omega)
    rw [decide_eq_true x0, decide_eq_true y0, e]
    cases decide (fits (x + y)) <;> rfl
  · have e : fits (x + y) := by unfold fits at *; omega
    rw [decide_eq_true x0, decide_eq_false y0, decide_eq_true e]; rfl
  · have e : fits (x + y) := by unfold fits at *; omega
    rw [decide_eq_false x0, decide_eq_true y0, decide_eq_true e]; rfl
  · have e : decide (wrap64 (x + y) ≥ 0) = !decide (fits (x + y)) := by
      rw [← decide_not]
      exact decide_eq_decide.mpr (by unfold fits wrap64 at *; omega)
    rw [decide_eq_false x0, decide_eq_false y0, e]
    cases decide (fits (x + y)) <;> rfl
theorem rSub_val {x y : Int} (hx : fits x) (hy : fits y) : avermentref10_sub.f x y = some (wrap64 (x - y), decide (fits (x - y))) := by
  unfold avermentref10_sub.f
  rw [w64]
  have w := wr_fits (x - y)
  by_cases x0 : x ≥ 0 <;> by_cases y0 : y ≥ 0
  · have e : fits (x - y) := by unfold fits at *; omega
    rw [decide_eq_true x0, decide_eq_true y0, decide_eq_true e]; rfl
  · have e : decide (wrap64 (x - y) ≥ 0) = decide (fits (x - y)) := decide_eq_decide.mpr (by unfold fits wrap64 at *; omega)
    rw [decide_eq_true x0, decide_eq_false y0, e]
    cases decide (fits (x - y)) <;> rfl
  · have e : decide (wrap64 (x - y) ≥ 0) = !decide (fits (x - y)) := by
      rw [← decide_not]
      exact decide_eq_decide.mpr (by unfold fits wrap64 at *; omega)
    rw [decide_eq_false x0, decide_eq_true y0, e]
    cases decide (fits (x - y)) <;> rfl
  · have e : fits (x - y) := by unfold fits at *; omega
    rw [decide_eq_false x0, decide_eq_false y0, decide_eq_true e]; rfl
theorem rTimes_val {x y : Int} (hx : fits x) (hy : fits y) : avermentref10_times.f x y = some (wrap64 (x * y), decide (fits (x * y))) := by
  unfold avermentref10_times.f
  by_cases x0 : x = 0
  · subst x0; rw [Int.zero_mul]; simp; decide +kernel
  by_cases y0 : y = 0
  · subst y0; rw [Int.mul_zero]; simp; decide +kernel
  rw [beq_eq_false_iff_ne.mpr x0, beq_eq_false_iff_ne.mpr y0]
  simp only [cond_false, w64]
  by_cases x1 : x = -1
  · have e : x * y = -y := by subst x1; omega
    have xn : (x != -9223372036854775808) = true := bne_iff_ne.mpr (by omega)
    rw [beq_iff_eq.mpr x1, cond_true, xn, cond_true, e]
    by_cases m : y = -9223372036854775808
    · subst m; decide +kernel
    · have f : fits (-y) := by unfold fits at *; omega
      rw [decide_eq_true f, bne_iff_ne.mpr m]
  rw [beq_eq_false_iff_ne.mpr x1, cond_false]
  by_cases y1 : y = -1
  · have e : x * y = -x := by subst y1; omega
    rw [beq_iff_eq.mpr y1, cond_true, e]
    by_cases m : x = -9223372036854775808
    · subst m; rw [y1]; decide +kernel
    · have f : fits (-x) := by unfold fits at *; omega
      have n : y ≠ -9223372036854775808 := by omega
      rw [bne_iff_ne.mpr m, cond_true, decide_eq_true f, bne_iff_ne.mpr n]
  rw [beq_eq_false_iff_ne.mpr y1, cond_false]
  have b := back_ok hx hy y0 y1
  by_cases f : fits (x * y)
  · rw [decide_eq_true f, beq_iff_eq.mpr (b.mpr f)]
  · rw [decide_eq_false f, beq_eq_false_iff_ne.mpr (fun h => f (b.mp h))]
theorem rSJoin_val (a b c d : Int) : avermentref10_Join.f a b c d = some (mn a c, mx b d) := rfl
theorem rSAny_val : avermentref10_Any.f = some (-9223372036854775808, 9223372036854775807) := rfl
theorem rSHas_val (a b c : Int) : avermentref10_Has.f a b c = some (decide (a ≤ c) && decide (c ≤ b)) := by
  show (bif decide (a ≤ c) then _ else _) = _
  cases decide (a ≤ c) <;> rfl
theorem r4 {a b c d : Int} (ha : fits a) (hb : fits b) (hc : fits c) (hd : fits d) : avermentref10_Two.f 4 a b c d = some (hullT [a + c, b + d]) := by
  unfold avermentref10_Two.f
  rw [beq_self_eq_true, cond_true, rAdd_val ha hc, rAdd_val hb hd, hullT2]
  by_cases f : fits (a + c) <;> by_cases g : fits (b + d) <;> simp [f, g, wr, rSJoin_val, rSAny_val]
theorem r5 {a b c d : Int} (ha : fits a) (hb : fits b) (hc : fits c) (hd : fits d) : avermentref10_Two.f 5 a b c d = some (hullT [a - d, b - c]) := by
  unfold avermentref10_Two.f
  rw [show ((5 : Int) == 4) = false from rfl, cond_false, beq_self_eq_true, cond_true, rSub_val ha hd, rSub_val hb hc, hullT2]
  by_cases f : fits (a - d) <;> by_cases g : fits (b - c) <;> simp [f, g, wr, rSJoin_val, rSAny_val]
set_option maxHeartbeats 2000000 in
theorem r6 {a b c d : Int} (ha : fits a) (hb : fits b) (hc : fits c) (hd : fits d) : avermentref10_Two.f 6 a b c d = some (hullT [a * c, a * d, b * c, b * d]) := by
  unfold avermentref10_Two.f
  rw [show ((6 : Int) == 4) = false from rfl, show ((6 : Int) == 5) = false from rfl, cond_false, cond_false, beq_self_eq_true, cond_true, rTimes_val ha hc, rTimes_val ha hd, rTimes_val hb hc, rTimes_val hb hd, hullT4]
  by_cases f : fits (a * c) <;> by_cases g : fits (a * d) <;> by_cases h : fits (b * c) <;> by_cases i : fits (b * d) <;> simp [f, g, h, i, wr, rSJoin_val, rSAny_val]
set_option maxHeartbeats 4000000 in
theorem r7 {a b c d : Int} (ha : fits a) (hb : fits b) (hc : fits c) (hd : fits d) (hab : a ≤ b) (hcd : c ≤ d) : avermentref10_div.f a b c d = some (divV a b c d) := by
  have H := rSHas_val c d (-1)
  have k1 : (if -1 < d then -1 else d) = mn d (-1) := rfl
  have k2 : (if 1 > c then 1 else c) = mx c 1 := rfl
  have fd : ¬ (a = -9223372036854775808 ∧ c ≤ -1 ∧ -1 ≤ d) → ∀ x e, a ≤ x → fits x → e ∈ eds c d → wrap64 (x.tdiv e) = x.tdiv e := fun full x e hx fx he => by
    obtain ⟨-, h1, h2⟩ := ne_of_mem_eds hcd he
    refine wr (tdiv_fits fx (fun q => full ?_))
    unfold fits at *
    omega
  have z := fun v hv => (ne_of_mem_eds (e := v) hcd hv).1
  unfold avermentref10_div.f
  rw [H]
  simp only [k1, k2, some_bind, rSAny_val, rSJoin_val, w64]
  clear H k1 k2
  unfold divV
  by_cases full : a = -9223372036854775808 ∧ c ≤ -1 ∧ -1 ≤ d
  · have n : c < 0 := by omega
    have ne : eds c d ≠ [] := by unfold eds; rw [if_pos n]; simp
    rw [if_neg ne, if_pos full]
    clear fd z
    rw [decide_eq_true n, beq_iff_eq.mpr full.1, decide_eq_true full.2.1, decide_eq_true full.2.2]
    cases decide (d > 0) <;> rfl
  · rw [if_neg full]
    have hb2 : (bif a == -9223372036854775808 then (decide (c ≤ -1) && decide (-1 ≤ d)) else false) = false := by
      by_cases m : a = -9223372036854775808
      · have : (decide (c ≤ -1) && decide (-1 ≤ d)) = false := by
          have : ¬ (c ≤ -1 ∧ -1 ≤ d) := fun q => full ⟨m, q⟩
          simpa using this
        rw [this]; cases (a == -9223372036854775808) <;> rfl
      · rw [beq_eq_false_iff_ne.mpr m]; rfl
    have sk : ∀ {α : Type} (A B : Option α), (bif a == -9223372036854775808 then (bif (decide (c ≤ -1) && decide (-1 ≤ d)) then A else B) else B) = B := fun A B => by
      cases h1 : (a == -9223372036854775808)
      · rfl
      · rw [h1, cond_true] at hb2
        rw [hb2]; rfl
    have fd := fd full
    by_cases n : c < 0 <;> by_cases p : d > 0
    · have e : eds c d = [c, mn d (-1), mx c 1, d] := by unfold eds; rw [if_pos n, if_pos p]; rfl
      rw [e] at fd z ⊢
      have q0 := fun x hx fx => fd x c hx fx (by simp)
      have q1 := fun x hx fx => fd x (mn d (-1)) hx fx (by simp)
      have q2 := fun x hx fx => fd x (mx c 1) hx fx (by simp)
      have q3 := fun x hx fx => fd x d hx fx (by simp)
      have z0 := beq_eq_false_iff_ne.mpr (z c (by simp)); have z1 := beq_eq_false_iff_ne.mpr (z (mn d (-1)) (by simp)); have z2 := beq_eq_false_iff_ne.mpr (z (mx c 1) (by simp)); have z3 := beq_eq_false_iff_ne.mpr (z d (by simp))
      simp only [decide_eq_true n, decide_eq_true p, cond_true, sk]
      simp only [z0, z1, z2, z3, cond_false, q0 a (Int.le_refl _) ha, q0 b hab hb, q1 a (Int.le_refl _) ha, q1 b hab hb, q2 a (Int.le_refl _) ha, q2 b hab hb, q3 a (Int.le_refl _) ha, q3 b hab hb]
      simp [quos, hull, grow]
    · have e : eds c d = [c, mn d (-1)] := by unfold eds; rw [if_pos n, if_neg p]; rfl
      rw [e] at fd z ⊢
      have q0 := fun x hx fx => fd x c hx fx (by simp)
      have q1 := fun x hx fx => fd x (mn d (-1)) hx fx (by simp)
      have z0 := beq_eq_false_iff_ne.mpr (z c (by simp)); have z1 := beq_eq_false_iff_ne.mpr (z (mn d (-1)) (by simp))
      simp only [decide_eq_true n, decide_eq_false p, cond_true, cond_false, sk]
      simp only [z0, z1, cond_false, q0 a (Int.le_refl _) ha, q0 b hab hb, q1 a (Int.le_refl _) ha, q1 b hab hb]
      simp [quos, hull, grow]
    · have e : eds c d = [mx c 1, d] := by unfold eds; rw [if_neg n, if_pos p]; rfl
      rw [e] at fd z ⊢
      have q2 := fun x hx fx => fd x (mx c 1) hx fx (by simp)
      have q3 := fun x hx fx => fd x d hx fx (by simp)
      have z2 := beq_eq_false_iff_ne.mpr (z (mx c 1) (by simp)); have z3 := beq_eq_false_iff_ne.mpr (z d (by simp))
      simp only [decide_eq_false n, decide_eq_true p, cond_true, cond_false, sk]
      simp only [z2, z3, cond_false, q2 a (Int.le_refl _) ha, q2 b hab hb, q3 a (Int.le_refl _) ha, q3 b hab hb]
      simp [quos, hull, grow]
    · have e : eds c d = [] := by unfold eds; rw [if_neg n, if_neg p]; rfl
      rw [e, if_pos rfl]
      simp only [decide_eq_false n, decide_eq_false p, cond_false]
theorem rFar_val {c d : Int} (hc : fits c) (hd : fits d) : avermentref10_far.f c d = some (far c d) := by
  unfold avermentref10_far.f far
  simp only [w64]
  by_cases n : c < 0
  · have w1 : wrap64 (c + 1) = c + 1 := wr (by unfold fits at *; omega)
    have w2 : wrap64 (0 - (c + 1)) = -1 - c := by rw [wr (by unfold fits at *; omega)]; omega
    rw [decide_eq_true n, if_pos n, w1, w2]
    by_cases p : d > 0
    · have w3 : wrap64 (d - 1) = d - 1 := wr (by unfold fits at *; omega)
      rw [decide_eq_true p, if_pos p, w3]; rfl
    · rw [decide_eq_false p, if_neg p]
      have := mx_spec (-1 - c) 0
      show some _ = some _
      congr 1
      omega
  · rw [decide_eq_false n, if_neg n]
    by_cases p : d > 0
    · have w3 : wrap64 (d - 1) = d - 1 := wr (by unfold fits at *; omega)
      rw [decide_eq_true p, if_pos p, w3]; rfl
    · rw [decide_eq_false p, if_neg p]; rfl
theorem r8 {a b c d : Int} (hc : fits c) (hd : fits d) : avermentref10_rem.f a b c d = some (remV a b c d) := by
  have fg := far_ge c d
  have ff := far_fits hc hd
  have wn : IntKind.i64.wrap (0 - far c d) = -far c d := by rw [w64, Int.zero_sub]; exact wr (by unfold fits; omega)
  have k1 : (if -far c d > a then -far c d else a) = mx a (-far c d) := rfl
  have k2 : (if far c d < b then far c d else b) = mn b (far c d) := rfl
  unfold avermentref10_rem.f remV
  simp only [rFar_val hc hd, some_bind, wn, k1, k2]
  by_cases z : c = 0 ∧ d = 0
  · rw [if_pos z, beq_iff_eq.mpr z.1, beq_iff_eq.mpr z.2]; rfl
  · rw [if_neg z]
    have zz : ∀ (A B : Option (Int × Int × Bool)), (bif c == 0 then (bif d == 0 then A else B) else B) = B := fun A B => by
      by_cases y : c = 0
      · have : d ≠ 0 := fun h => z ⟨y, h⟩
        rw [beq_iff_eq.mpr y, beq_eq_false_iff_ne.mpr this]; rfl
      · rw [beq_eq_false_iff_ne.mpr y]; rfl
    rw [zz]
    by_cases p : a < 0 <;> by_cases q : b > 0 <;> simp [p, q]
theorem r9 (a b c d : Int) : avermentref10_and.f a b c d = some (andV a b c d) := by
  unfold avermentref10_and.f andV
  by_cases a0 : a ≥ 0 <;> by_cases c0 : c ≥ 0 <;> by_cases b0 : b < 0 <;> by_cases d0 : d < 0 <;> simp [a0, c0, b0, d0, mn, mx]
set_option maxHeartbeats 4000000 in
theorem r10 {a b c d : Int} (ha : fits a) (hb : fits b) (hc : fits c) (hd : fits d) (hab : a ≤ b) (hcd : c ≤ d) : avermentref10_xor.f a b c d = some (xorV a b c d) := by
  have wa : IntKind.i64.wrap (-1 - a) = -1 - a := by rw [w64]; exact wr (fits_not ha)
  have wc : IntKind.i64.wrap (-1 - c) = -1 - c := by rw [w64]; exact wr (fits_not hc)
  have m1 : (if d > b then d else b) = mx b d := rfl
  have m2 : (if -1 - c > -1 - a then -1 - c else -1 - a) = mx (-1 - a) (-1 - c) := rfl
  have m3 : (if d > -1 - a then d else -1 - a) = mx (-1 - a) d := rfl
  have m4 : (if -1 - c > b then -1 - c else b) = mx b (-1 - c) := rfl
  have s1 := mx_spec b d; have s2 := mx_spec (-1 - a) (-1 - c); have s3 := mx_spec (-1 - a) d; have s4 := mx_spec b (-1 - c)
  have f1 := fits_mx hb hd; have f2 := fits_mx (fits_not ha) (fits_not hc); have f3 := fits_mx (fits_not ha) hd; have f4 := fits_mx hb (fits_not hc)
  have w : ∀ n, 0 ≤ ones0 n → ones0 n ≤ 9223372036854775807 → IntKind.i64.wrap (-1 - ones0 n) = -1 - ones0 n := fun n h g => by rw [w64]; exact wr (by unfold fits; omega)
  have w3 := w _ (ones_ge (mx (-1 - a) d)) (ones_fits f3)
  have w4 := w _ (ones_ge (mx b (-1 - c))) (ones_fits f4)
  unfold avermentref10_xor.f xorV
  simp only [wa, wc, m1, m2, m3, m4]
  by_cases g1 : a ≥ 0 ∧ c ≥ 0
  · rw [if_pos g1, rones_val (n := mx b d) (by omega) f1.2]
    simp only [decide_eq_true g1.1, decide_eq_true g1.2, cond_true, some_bind]
  rw [if_neg g1]
  by_cases g2 : b < 0 ∧ d < 0
  · have a0 : ¬ a ≥ 0 := by omega
    rw [if_pos g2, rones_val (n := mx (-1 - a) (-1 - c)) (by omega) f2.2]
    simp only [decide_eq_false a0, decide_eq_true g2.1, decide_eq_true g2.2, cond_true, cond_false, some_bind]
  rw [if_neg g2]
  by_cases g3 : b < 0 ∧ c ≥ 0
  · have a0 : ¬ a ≥ 0 := by omega
    have d0 : ¬ d < 0 := by omega
    rw [if_pos g3, rones_val (n := mx (-1 - a) d) (by omega) f3.2]
    simp only [decide_eq_false a0, decide_eq_true g3.1, decide_eq_false d0, decide_eq_true g3.2, cond_true, cond_false, some_bind, w3]
  rw [if_neg g3]
  by_cases g4 : a ≥ 0 ∧ d < 0
  · have b0 : ¬ b < 0 := by omega
    have c0 : ¬ c ≥ 0 := by omega
    rw [if_pos g4, rones_val (n := mx b (-1 - c)) (by omega) f4.2]
    simp only [decide_eq_true g4.1, decide_eq_false b0, decide_eq_false c0, decide_eq_true g4.2, cond_true, cond_false, some_bind, w4]
  rw [if_neg g4]
  by_cases a0 : a ≥ 0 <;> by_cases b0 : b < 0 <;> by_cases c0 : c ≥ 0 <;> by_cases d0 : d < 0 <;> first
    | (exfalso; omega)
    | (simp only [a0, b0, c0, d0, cond_false, cond_true, rSAny_val, some_bind, decide_true, decide_false])
theorem rSTwo_val (op : Int) {a b c d : Int} (ha : fits a) (hb : fits b) (hc : fits c) (hd : fits d) (hab : a ≤ b) (hcd : c ≤ d) : avermentref10_Two.f op a b c d = some (twoV op a b c d) := by
  unfold twoV
  by_cases o4 : op = 4
  · subst o4; rw [if_pos rfl]; exact r4 ha hb hc hd
  rw [if_neg o4]
  by_cases o5 : op = 5
  · subst o5; rw [if_pos rfl]; exact r5 ha hb hc hd
  rw [if_neg o5]
  by_cases o6 : op = 6
  · subst o6; rw [if_pos rfl]; exact r6 ha hb hc hd
  rw [if_neg o6]
  unfold avermentref10_Two.f
  rw [beq_eq_false_iff_ne.mpr o4, beq_eq_false_iff_ne.mpr o5, beq_eq_false_iff_ne.mpr o6, cond_false, cond_false, cond_false]
  by_cases o7 : op = 7
  · rw [if_pos o7, beq_iff_eq.mpr o7, cond_true, r7 ha hb hc hd hab hcd, some_bind]
  rw [if_neg o7, beq_eq_false_iff_ne.mpr o7, cond_false]
  by_cases o8 : op = 8
  · rw [if_pos o8, beq_iff_eq.mpr o8, cond_true, r8 hc hd, some_bind]
  rw [if_neg o8, beq_eq_false_iff_ne.mpr o8, cond_false]
  by_cases o9 : op = 9
  · rw [if_pos o9, beq_iff_eq.mpr o9, cond_true, r9, some_bind]
  rw [if_neg o9, beq_eq_false_iff_ne.mpr o9, cond_false]
  by_cases o10 : op = 10
  · rw [if_pos o10, beq_iff_eq.mpr o10, cond_true, r10 ha hb hc hd hab hcd, some_bind]
  rw [if_neg o10, beq_eq_false_iff_ne.mpr o10, cond_false]
  by_cases o11 : op = 11
  · rw [if_pos o11, beq_iff_eq.mpr o11, cond_true]
    by_cases p : b < c <;> by_cases q : a ≥ d <;> simp [p, q]
  rw [if_neg o11, beq_eq_false_iff_ne.mpr o11, cond_false]
  by_cases o12 : op = 12
  · rw [if_pos o12, beq_iff_eq.mpr o12, cond_true]
    have tail : (bif decide (b < c) then some ((0, 0, true) : Int × Int × Bool) else bif decide (d < a) then some (0, 0, true) else some (0, 1, true)) = some (if b < c ∨ d < a then (0, 0, true) else (0, 1, true)) := by
      by_cases p : b < c <;> by_cases q : d < a <;> simp [p, q]
    rw [tail]
    by_cases u : a = b
    · rw [beq_iff_eq.mpr u, cond_true]
      by_cases v : a = c ∧ b = d
      · have nn : a = b ∧ a = c ∧ b = d := ⟨u, v⟩
        rw [beq_iff_eq.mpr v.1, beq_iff_eq.mpr v.2, if_pos nn]; rfl
      · have n : ¬ (a = b ∧ a = c ∧ b = d) := fun h => v h.2
        have vv : (a == c && b == d) = false := by simpa using v
        rw [vv, if_neg n]; rfl
    · have n : ¬ (a = b ∧ a = c ∧ b = d) := fun h => u h.1
      rw [beq_eq_false_iff_ne.mpr u, if_neg n]; rfl
  rw [if_neg o12, beq_eq_false_iff_ne.mpr o12, cond_false]
theorem rSOne_val (op : Int) {a b : Int} (ha : fits a) (hb : fits b) (hab : a ≤ b) : avermentref10_One.f op a b = some (oneV op a b) := by
  unfold avermentref10_One.f oneV
  simp only [rSAny_val, some_bind]
  by_cases o2 : op = 2
  · rw [if_pos o2, beq_iff_eq.mpr o2, cond_true]
  rw [if_neg o2, beq_eq_false_iff_ne.mpr o2, cond_false]
  by_cases o3 : op = 3
  · have n3 : (op != 3) = false := by rw [o3]; rfl
    rw [if_pos o3, n3, cond_false]
    by_cases m : a = -9223372036854775808
    · have g : ¬ a > -9223372036854775808 := by omega
      rw [if_pos m, decide_eq_false g, cond_false]
      by_cases n : b = -9223372036854775808
      · rw [if_pos n, beq_iff_eq.mpr n, cond_true]
      · rw [if_neg n, beq_eq_false_iff_ne.mpr n, cond_false]
    · have g : a > -9223372036854775808 := by unfold fits at *; omega
      rw [if_neg m, decide_eq_true g, cond_true, w64, w64, Int.zero_sub, Int.zero_sub, wr (by unfold fits at *; omega), wr (by unfold fits at *; omega)]
  · rw [if_neg o3, bne_iff_ne.mpr o3, cond_true]
theorem rSBranch_val (a b : Int) (yes : Bool) : avermentref10_Branch.f a b yes = some (branchV a b yes) := by
  unfold avermentref10_Branch.f branchV
  rw [rSHas_val]
  cases yes with
  | false => rfl
  | true =>
    simp only [Bool.not_true, cond_false, if_true]
    by_cases p : a = 0
    · by_cases q : b = 0
      · rw [beq_iff_eq.mpr p, beq_iff_eq.mpr q, if_pos ⟨p, q⟩]; rfl
      · have n : ¬ (a = 0 ∧ b = 0) := fun h => q h.2
        rw [beq_iff_eq.mpr p, beq_eq_false_iff_ne.mpr q, if_neg n, if_pos p]; rfl
    · have n : ¬ (a = 0 ∧ b = 0) := fun h => p h.1
      rw [beq_eq_false_iff_ne.mpr p, if_neg n, if_neg p]
      by_cases q : b = 0
      · rw [beq_iff_eq.mpr q, if_pos q]; rfl
      · rw [beq_eq_false_iff_ne.mpr q, if_neg q]; rfl
/-! ### Known numbers -/
theorem rKA (op x y : Int) : ∃ c, avermentref07_Arith.f op x y = some (kA op x y, c) := by
  have e : avermentref07_Arith.f op x y = vm_Arith.f op x y := by
    unfold avermentref07_Arith.f vm_Arith.f
    simp only [flag_val, some_bind]
    by_cases h4 : op = 4
    · subst h4; rfl
    by_cases h5 : op = 5
    · subst h5; rfl
    by_cases h6 : op = 6
    · subst h6; rfl
    by_cases h7 : op = 7
    · subst h7
      by_cases y0 : y = 0
      · subst y0; rfl
      · by_cases y1 : y = -1
        · subst y1
          show some (IntKind.i64.wrap (0 - x), true) = some (IntKind.i64.wrap (x.tdiv (-1)), true)
          rw [Int.tdiv_neg, Int.tdiv_one, Int.zero_sub]
        · rw [beq_eq_false_iff_ne.mpr y0, beq_eq_false_iff_ne.mpr y1]; rfl
    by_cases h8 : op = 8
    · subst h8
      by_cases y0 : y = 0
      · subst y0; rfl
      · by_cases y1 : y = -1
        · subst y1
          show some ((0 : Int), true) = some (x.tmod (-1), true)
          rw [Int.tmod_neg, Int.tmod_one]
        · rw [beq_eq_false_iff_ne.mpr y0, beq_eq_false_iff_ne.mpr y1]; rfl
    by_cases h9 : op = 9
    · subst h9; rfl
    by_cases h10 : op = 10
    · subst h10; rfl
    by_cases h11 : op = 11
    · subst h11
      show (bif decide (x < y) then some ((1 : Int), true) else some (0, true)) = some ((bif decide (x < y) then 1 else 0), true)
      cases decide (x < y) <;> rfl
    by_cases h12 : op = 12
    · subst h12
      show (bif x == y then some ((1 : Int), true) else some (0, true)) = some ((bif x == y then 1 else 0), true)
      cases (x == y) <;> rfl
    rw [beq_eq_false_iff_ne.mpr h4, beq_eq_false_iff_ne.mpr h5, beq_eq_false_iff_ne.mpr h6, beq_eq_false_iff_ne.mpr h7, beq_eq_false_iff_ne.mpr h8, beq_eq_false_iff_ne.mpr h9, beq_eq_false_iff_ne.mpr h10, beq_eq_false_iff_ne.mpr h11, beq_eq_false_iff_ne.mpr h12]
    rfl
  rw [e]; exact arith_fst op x y
theorem rK1_val (op : Int) (a : Bool) (x : Int) : avermentref09_One.f op a x = some (k1 op a x) := by
  unfold avermentref09_One.f k1
  by_cases h2 : op = 2
  · have h3 : op ≠ 3 := by omega
    rw [beq_iff_eq.mpr h2, if_neg h3, if_pos h2]; cases a <;> rfl
  rw [beq_eq_false_iff_ne.mpr h2, if_neg h2]
  by_cases h3 : op = 3
  · rw [beq_iff_eq.mpr h3, if_pos h3]; cases a <;> rfl
  rw [beq_eq_false_iff_ne.mpr h3, if_neg h3]; rfl
theorem rK2_val (op : Int) (a : Bool) (x : Int) (b : Bool) (y : Int) : avermentref09_Two.f op a x b y = some (k2 op a x b y) := by
  obtain ⟨c, hc⟩ := rKA op x y
  have tail : (bif !a then some ((false, 0, true) : Bool × Int × Bool) else bif !b then some (false, 0, true) else (avermentref07_Arith.f op x y).bind fun t => some (true, t.fst, true)) = some (if a = true ∧ b = true then (true, kA op x y, true) else (false, 0, true)) := by
    rw [hc]
    cases a <;> cases b <;> rfl
  unfold avermentref09_Two.f k2
  rw [tail]
  by_cases l : op < 4
  · rw [decide_eq_true l, if_pos (Or.inl l : op < 4 ∨ 12 < op ∨ ((op = 7 ∨ op = 8) ∧ b = true ∧ y = 0))]; rfl
  rw [decide_eq_false l, cond_false]
  by_cases g : op > 12
  · rw [decide_eq_true g, if_pos (Or.inr (Or.inl g) : op < 4 ∨ 12 < op ∨ ((op = 7 ∨ op = 8) ∧ b = true ∧ y = 0))]; rfl
  rw [decide_eq_false g, cond_false]
  by_cases h78 : op = 7 ∨ op = 8
  · have st : ∀ (A B C : Option (Bool × Int × Bool)), (bif op == 7 then (bif b then (bif y == 0 then A else B) else B) else bif op == 8 then (bif b then (bif y == 0 then A else B) else B) else C) = (bif b then (bif y == 0 then A else B) else B) := fun A B C => by
      rcases h78 with h | h
      · rw [h]; rfl
      · rw [h]; rfl
    rw [st]
    by_cases z : b = true ∧ y = 0
    · have n : op < 4 ∨ 12 < op ∨ ((op = 7 ∨ op = 8) ∧ b = true ∧ y = 0) := .inr (.inr ⟨h78, z⟩)
      rw [if_pos n, z.1, beq_iff_eq.mpr z.2]; rfl
    · have n : ¬ (op < 4 ∨ 12 < op ∨ ((op = 7 ∨ op = 8) ∧ b = true ∧ y = 0)) := by
        rintro (h | h | h)
        · omega
        · omega
        · exact z h.2
      rw [if_neg n]
      cases b with
      | false => rfl
      | true => rw [beq_eq_false_iff_ne.mpr (fun h => z ⟨rfl, h⟩)]; rfl
  · have n : ¬ (op < 4 ∨ 12 < op ∨ ((op = 7 ∨ op = 8) ∧ b = true ∧ y = 0)) := by
      rintro (h | h | h)
      · omega
      · omega
      · exact h78 h.1
    have n7 : op ≠ 7 := fun h => h78 (.inl h)
    have n8 : op ≠ 8 := fun h => h78 (.inr h)
    rw [if_neg n, beq_eq_false_iff_ne.mpr n7, beq_eq_false_iff_ne.mpr n8]; rfl
theorem rKbr_val (a : Bool) (x : Int) (yes : Bool) : avermentref09_Branch.f a x yes = some (kbr a x yes) := by
  unfold avermentref09_Branch.f kbr avermentref09_Clean.f
  by_cases h : x = 0
  · cases a <;> cases yes <;> simp [h]
  · have e1 : (x == 0) = false := beq_eq_false_iff_ne.mpr h
    have e2 : (x != 0) = true := bne_iff_ne.mpr h
    cases a <;> cases yes <;> simp [h, e1, e2]
/-! ### The rest -/
theorem rSb_val {i : Nat} (hi : i < 8) (yes : Bool) : avermentref08_Branch.f (sg i) yes = some (sg (sb i yes)) := sb_val hi yes
theorem rPb_val {i : Nat} (hi : i < 4) (yes : Bool) : avermentref11_Branch.f (sg i) yes = some (sg (pb i yes)) := pb_val hi yes
theorem rP1_val (op : Int) {i : Nat} (hi : i < 4) : avermentref11_One.f op (sg i) = some (sg (p1 op i)) := p1_val op hi
theorem all_val (s : Nat) (k : Bool × Int × Bool) (l : Int × Int × Bool) (p : Nat) : avermentref12_all.f (sg s) k.1 k.2.1 l.1 l.2.1 (sg p) k.2.2 l.2.2 = some (out (wh s k l p)) := by
  have e0 : (0 : Int) = sg 0 := rfl
  have e1 := sg_inj (i := s) (j := 0)
  have e2 := sg_inj (i := p) (j := 0)
  rw [← e0] at e1 e2
  unfold avermentref12_all.f wh
  rw [e1, e2]
  cases decide (s = 0) <;> cases k.2.2 <;> cases l.2.2 <;> cases decide (p = 0) <;> rfl
theorem rTwo_Val (op : Int) {x y : V} (hx : Ok x) (hy : Ok y) (fx : Fit x) (fy : Fit y) : avermentref12_Two.f op x.t.1 x.t.2.1 x.t.2.2.1 x.t.2.2.2.1 x.t.2.2.2.2.1 x.t.2.2.2.2.2 y.t.1 y.t.2.1 y.t.2.2.1 y.t.2.2.2.1 y.t.2.2.2.2.1 y.t.2.2.2.2.2 = some (out (two op x y)) := by
  simp only [V.t]
  unfold avermentref12_Two.f
  rw [rK2_val, some_bind, rSTwo_val op fx.lo fx.hi fy.lo fy.hi hx.le hy.le, some_bind, r8Two_val op hx.s hy.s, some_bind, r11Two_val op hx.p hy.p, some_bind, all_val, some_bind]
  rfl
theorem rOne_Val (op : Int) {x : V} (hx : Ok x) (fx : Fit x) : avermentref12_One.f op x.t.1 x.t.2.1 x.t.2.2.1 x.t.2.2.2.1 x.t.2.2.2.2.1 x.t.2.2.2.2.2 = some (out (one op x)) := by
  simp only [V.t]
  unfold avermentref12_One.f
  rw [rK1_val, some_bind, rSOne_val op fx.lo fx.hi hx.le, some_bind, r8One_val op hx.s, some_bind, rP1_val op hx.p, some_bind, all_val, some_bind]
  rfl
theorem rBranch_Val {x : V} (hx : Ok x) (yes : Bool) : avermentref12_Branch.f x.t.1 x.t.2.1 x.t.2.2.1 x.t.2.2.2.1 x.t.2.2.2.2.1 x.t.2.2.2.2.2 yes = some (out (branch x yes)) := by
  simp only [V.t]
  unfold avermentref12_Branch.f
  rw [rKbr_val, some_bind, rSBranch_val, some_bind, rSb_val hx.s, some_bind, rPb_val hx.p, some_bind, all_val, some_bind]
  rfl
theorem mFrom_val (a : Int) (b : Bool) (c d e f : Int) : avermentlaw12_From.f a b c d e f = some (a, b, c, d, e, f) := rfl
theorem mTo_val (a : Int) (b : Bool) (c d e f : Int) : avermentlaw12_To.f a b c d e f = some (a, b, c, d, e, f) := rfl
theorem told_val : avermentlaw12_told.f = some true := by decide +kernel
theorem fixed (s : Int) (kb : Bool) (kn lo hi p : Int) (h1 : (Lit.int .i64 lo).wf = true) (h2 : (Lit.int .i64 hi).wf = true) : ∃ x, avermentref12_Fix.f s kb kn lo hi p = some x.t ∧ Ok x ∧ Fit x := by
  obtain ⟨x, e, ok, h, k⟩ := Fix_val s kb kn lo hi p
  have f1 := fits_of h1
  have f2 := fits_of h2
  refine ⟨x, e, ok, ?_⟩
  rcases h with h | h
  · exact ⟨by rw [h.1]; exact f1, by rw [h.2]; exact f2⟩
  · exact ⟨by rw [h.1]; exact f2, by rw [h.2]; exact f1⟩
set_option maxHeartbeats 8000000 in
theorem FactMakes (op : Int) (a0 : Int) (a1 : Bool) (a2 a3 a4 a5 : Int) (b0 : Int) (b1 : Bool) (b2 b3 b4 b5 : Int) (h0 : (Lit.int .i64 op).wf = true)
    (ha0 : (Lit.int .i64 a0).wf = true) (ha2 : (Lit.int .i64 a2).wf = true) (ha3 : (Lit.int .i64 a3).wf = true) (ha4 : (Lit.int .i64 a4).wf = true) (ha5 : (Lit.int .i64 a5).wf = true)
    (hb0 : (Lit.int .i64 b0).wf = true) (hb2 : (Lit.int .i64 b2).wf = true) (hb3 : (Lit.int .i64 b3).wf = true) (hb4 : (Lit.int .i64 b4).wf = true) (hb5 : (Lit.int .i64 b5).wf = true) :
    avermentlaw12_FactMakes.f op a0 a1 a2 a3 a4 a5 b0 b1 b2 b3 b4 b5 = some true := by
  obtain ⟨x, ex, ox, fx⟩ := fixed a0 a1 a2 a3 a4 a5 ha3 ha4
  obtain ⟨y, ey, oy, fy⟩ := fixed b0 b1 b2 b3 b4 b5 hb3 hb4
  have v1 := two_Val op ox oy fx fy
  have v2 := rTwo_Val op ox oy fx fy
  have v3 := one_Val op ox fx
  have v4 := rOne_Val op ox fx
  have v5 := branch_Val ox false
  have v6 := rBranch_Val ox false
  have v7 := branch_Val ox true
  have v8 := rBranch_Val ox true
  have n0 : ((0 : Nat) == 1) = false := rfl
  have n1 : (IntKind.i64.wrap (0 + 1) == 1) = true := by decide +kernel
  unfold avermentlaw12_FactMakes.f
  simp only [ex, ey, some_bind, mTo_val, mFrom_val, v1, v2, v3, v4, v5, v6, v7, v8, told_val, n0, n1, out, beq_self_eq_true, Bool.and_self, Bool.not_true, cond_false]
end Go.Proofs.YtcgjfkaipbhpkaaGreat.FM
