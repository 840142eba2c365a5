/- Own work. No condition. -/
import Derived.Test.YtdjkdmjdcdljmaaGreatRa
import Derived.Test.YtdjkdmjdcdljmaaGreatTa

namespace Go.Proofs.YtdjkdmjdcdljmaaGreat.AT
open Go.RowKit Go.Proofs.YtdjkdmjdcdljmaaGreatX Go.Proofs.YtdjkdmjdcdljmaaGreat.Sr
set_option linter.unusedVariables false
set_option linter.unusedSimpArgs false
set_option linter.unusedSectionVars false
set_option maxRecDepth 100000
variable {K : Nat}
theorem w64 (n : Int) : IntKind.i64.wrap n = wrap64 n := by unfold wrap64; exact IntKind.wrap_i64 n
theorem sum_val {x y : Int} (hx : fit64 x) (hy : fit64 y) : span_sum.f K x y = some (wrap64 (x + y), decide (fit64 (x + y))) := by
  show some (IntKind.i64.wrap (x + y), decide (an (xo x (IntKind.i64.wrap (x + y))) (xo y (IntKind.i64.wrap (x + y))) ≥ 0)) = _
  rw [w64, decide_eq_decide.mpr (sum_ok hx hy)]
theorem spLess {x y : Int} (hx : fit64 x) (hy : fit64 y) : span_less.f K x y = some (wrap64 (x - y), decide (fit64 (x - y))) := by
  show some (IntKind.i64.wrap (x - y), decide (an (xo x y) (xo x (IntKind.i64.wrap (x - y))) ≥ 0)) = _
  rw [w64, decide_eq_decide.mpr (less_ok hx hy)]
theorem product_val {x y : Int} (hx : fit64 x) (hy : fit64 y) : span_product.f K x y = some (wrap64 (x * y), decide (fit64 (x * y))) := by
  unfold span_product.f
  by_cases x0 : x = 0
  · subst x0; rw [Int.zero_mul]; exact (show some ((0 : Int), true) = some (wrap64 0, decide (fit64 0)) by decide +kernel)
  by_cases y0 : y = 0
  · subst y0; rw [Int.mul_zero, beq_eq_false_iff_ne.mpr x0]; exact (show some ((0 : Int), true) = some (wrap64 0, decide (fit64 0)) by decide +kernel)
  rw [beq_eq_false_iff_ne.mpr x0, beq_eq_false_iff_ne.mpr y0]
  simp only [cond_false, w64, bindC_def, some_bind]
  by_cases y1 : y = -1
  · subst y1
    have e : x * -1 = -x := by omega
    rw [e]
    by_cases m : x = -9223372036854775808
    · subst m; decide +kernel
    · have f : fit64 (-x) := by unfold fit64 at *; omega
      have t : wrap64 ((wrap64 (-x)).tdiv (-1)) = x := by rw [wr f, Int.tdiv_neg, Int.tdiv_one, Int.neg_neg, wr hx]
      rw [t, beq_self_eq_true, beq_self_eq_true, beq_eq_false_iff_ne.mpr m, decide_eq_true f]
      simp only [cond_true, Bool.not_false]
      cases (x == -1) <;> rfl
  · by_cases f : fit64 (x * y)
    · rw [beq_iff_eq.mpr ((back_ok hx hy y0 y1).mpr f), beq_eq_false_iff_ne.mpr y1, decide_eq_true f]
      simp only [cond_true, cond_false]
      by_cases h : x = -1
      · subst h
        have : y ≠ -9223372036854775808 := by rintro rfl; revert f; decide +kernel
        rw [beq_self_eq_true, beq_eq_false_iff_ne.mpr this]; rfl
      · rw [beq_eq_false_iff_ne.mpr h]; rfl
    · rw [beq_eq_false_iff_ne.mpr (fun h => f ((back_ok hx hy y0 y1).mp h)), decide_eq_false f]
      rfl
theorem sAny_val : span_Any.f K = some (-9223372036854775808, 9223372036854775807) := rfl
theorem sHas_val (a b c : Int) : span_Has.f K a b c = some (decide (a ≤ c) && decide (c ≤ b)) := by
  unfold span_Has.f; cases decide (a ≤ c) <;> rfl
theorem sMeet_val (a b c d : Int) : span_Meet.f K a b c d = some (if mx a c > mn b d then (0, 0, false) else (mx a c, mn b d, true)) := by
  show (bif !decide (mx a c ≤ mn b d) then some (0, 0, false) else some (mx a c, mn b d, true)) = _
  by_cases h : mx a c > mn b d
  · rw [if_pos h, decide_eq_false (by omega)]; rfl
  · rw [if_neg h, decide_eq_true (by omega)]; rfl
theorem hullT2 (p q : Int) : hullT [p, q] = if fit64 p then (if fit64 q then (mn p q, mx p q, true) else any) else any := by
  unfold hullT
  by_cases f : fit64 p <;> by_cases g : fit64 q <;> simp [f, g, hull, grow]
theorem hullT4 (p q r s : Int) : hullT [p, q, r, s] = if fit64 p then (if fit64 q then (if fit64 r then (if fit64 s then (mn (mn (mn p q) r) s, mx (mx (mx p q) r) s, true) else any) else any) else any) else any := by
  unfold hullT
  by_cases f : fit64 p <;> by_cases g : fit64 q <;> by_cases h : fit64 r <;> by_cases i : fit64 s <;> simp [f, g, h, i, hull, grow]
theorem put_f (n lo hi : Int) (an g : Bool) : span_ends_put.f K n false lo hi an g = some (lo, hi, an, true) := rfl
theorem put_0 (n lo hi : Int) (g : Bool) : span_ends_put.f K n true lo hi false g = some (n, n, true, g) := rfl
theorem put_1 (n lo hi : Int) (g : Bool) : span_ends_put.f K n true lo hi true g = some (mn lo n, mx hi n, true, g) := rfl
theorem all_t (lo hi : Int) (an : Bool) : span_ends_all.f K lo hi an true = some any := rfl
theorem all_f (lo hi : Int) (an : Bool) : span_ends_all.f K lo hi an false = some (lo, hi, an) := rfl
theorem two4 {a b c d : Int} (ha : fit64 a) (hb : fit64 b) (hc : fit64 c) (hd : fit64 d) : span_Two.f K 4 a b c d = some (hullT [a + c, b + d]) := by
  unfold span_Two.f
  rw [beq_self_eq_true, cond_true, sum_val ha hc, sum_val hb hd, hullT2]
  by_cases f : fit64 (a + c) <;> by_cases g : fit64 (b + d) <;> simp only [f, g, wr, some_bind, decide_true, decide_false, put_f, put_0, put_1, all_t, all_f, if_true, if_false]
theorem two5 {a b c d : Int} (ha : fit64 a) (hb : fit64 b) (hc : fit64 c) (hd : fit64 d) : span_Two.f K 5 a b c d = some (hullT [a - d, b - c]) := by
  unfold span_Two.f
  rw [show ((5 : Int) == 4) = false from rfl, cond_false, beq_self_eq_true, cond_true, spLess ha hd, spLess hb hc, hullT2]
  by_cases f : fit64 (a - d) <;> by_cases g : fit64 (b - c) <;> simp only [f, g, wr, some_bind, decide_true, decide_false, put_f, put_0, put_1, all_t, all_f, if_true, if_false]
theorem two6_l0 (n : Nat) (a b c d : Int) : span_Two.l0.f K (n + 3) 2 0 c d 0 0 false false [a, b] = (span_product.f K a c).bind fun p => (span_ends_put.f K p.1 p.2 0 0 false false).bind fun e => (span_product.f K a d).bind fun p => (span_ends_put.f K p.1 p.2 e.1 e.2.1 e.2.2.1 e.2.2.2).bind fun e => (span_product.f K b c).bind fun p => (span_ends_put.f K p.1 p.2 e.1 e.2.1 e.2.2.1 e.2.2.2).bind fun e => (span_product.f K b d).bind fun p => (span_ends_put.f K p.1 p.2 e.1 e.2.1 e.2.2.1 e.2.2.2).bind fun e => some (e.1, e.2.1, e.2.2.1, e.2.2.2) := by kernel_rfl
theorem two6_eq (a b c d : Int) : span_Two.f K 6 a b c d = (span_Two.l0.f K K 2 0 c d 0 0 false false [a, b]).bind fun t => span_ends_all.f K t.1 t.2.1 t.2.2.1 t.2.2.2 := by kernel_rfl
set_option maxHeartbeats 4000000 in
theorem two6 (hK : 2000 ≤ K) {a b c d : Int} (ha : fit64 a) (hb : fit64 b) (hc : fit64 c) (hd : fit64 d) : span_Two.f K 6 a b c d = some (hullT [a * c, a * d, b * c, b * d]) := by
  obtain ⟨n, hn⟩ : ∃ n, K = n + 3 := ⟨K - 3, by omega⟩
  have l0 : span_Two.l0.f K K 2 0 c d 0 0 false false [a, b] = _ := (congrArg (fun q => span_Two.l0.f K q 2 0 c d 0 0 false false [a, b]) hn).trans (two6_l0 (K := K) n a b c d)
  rw [two6_eq, l0, product_val ha hc, product_val ha hd, product_val hb hc, product_val hb hd, hullT4]
  by_cases f : fit64 (a * c) <;> by_cases g : fit64 (a * d) <;> by_cases h : fit64 (b * c) <;> by_cases i : fit64 (b * d) <;> simp only [f, g, h, i, wr, some_bind, decide_true, decide_false, put_f, put_0, put_1, all_t, all_f, if_true, if_false]
theorem quo_l1 (n : Nat) (a b p q lo hi : Int) (an g : Bool) : span_quotients.l1.f K (n + 3) 2 0 a b lo hi an g [p, q] = bif p == 0 then none else (span_ends_put.f K (IntKind.i64.wrap (a.tdiv p)) true lo hi an g).bind fun e => bif p == 0 then none else (span_ends_put.f K (IntKind.i64.wrap (b.tdiv p)) true e.1 e.2.1 e.2.2.1 e.2.2.2).bind fun e =>
    bif q == 0 then none else (span_ends_put.f K (IntKind.i64.wrap (a.tdiv q)) true e.1 e.2.1 e.2.2.1 e.2.2.2).bind fun e => bif q == 0 then none else (span_ends_put.f K (IntKind.i64.wrap (b.tdiv q)) true e.1 e.2.1 e.2.2.1 e.2.2.2).bind fun e => some (e.1, e.2.1, e.2.2.1, e.2.2.2) := by kernel_rfl
theorem quo_l0_0 (n : Nat) (a b s1 s2 lo hi : Int) (an g : Bool) : span_quotients.l0.f K (n + 3) [] 0 0 a b s1 s2 lo hi an g = some (lo, hi, an, g) := by kernel_rfl
theorem quo_l0_1 (n : Nat) (x : Int × Int) (a b s1 s2 lo hi : Int) (an g : Bool) : span_quotients.l0.f K (n + 3) [x] 1 0 a b s1 s2 lo hi an g = (span_quotients.l1.f K K 2 0 a b lo hi an g [x.1, x.2]).bind fun t => some (t.1, t.2.1, t.2.2.1, t.2.2.2) := by kernel_rfl
theorem quo_l0_2 (n : Nat) (x y : Int × Int) (a b s1 s2 lo hi : Int) (an g : Bool) : span_quotients.l0.f K (n + 3) [x, y] 2 0 a b s1 s2 lo hi an g = (span_quotients.l1.f K K 2 0 a b lo hi an g [x.1, x.2]).bind fun t => (span_quotients.l1.f K K 2 0 a b t.1 t.2.1 t.2.2.1 t.2.2.2 [y.1, y.2]).bind fun t => some (t.1, t.2.1, t.2.2.1, t.2.2.2) := by kernel_rfl
theorem quo_l1_val (hK : 2000 ≤ K) {a b p q lo hi : Int} {an g : Bool} (hp : p ≠ 0) (hq : q ≠ 0) (fa : wrap64 (a.tdiv p) = a.tdiv p) (fb : wrap64 (b.tdiv p) = b.tdiv p) (ga : wrap64 (a.tdiv q) = a.tdiv q) (gb : wrap64 (b.tdiv q) = b.tdiv q) :
    span_quotients.l1.f K K 2 0 a b lo hi an g [p, q] = some (bif an then (mn (mn (mn (mn lo (a.tdiv p)) (b.tdiv p)) (a.tdiv q)) (b.tdiv q), mx (mx (mx (mx hi (a.tdiv p)) (b.tdiv p)) (a.tdiv q)) (b.tdiv q), true, g) else (mn (mn (mn (a.tdiv p) (b.tdiv p)) (a.tdiv q)) (b.tdiv q), mx (mx (mx (a.tdiv p) (b.tdiv p)) (a.tdiv q)) (b.tdiv q), true, g)) := by
  obtain ⟨n, hn⟩ : ∃ n, K = n + 3 := ⟨K - 3, by omega⟩
  refine ((congrArg (fun q' => span_quotients.l1.f K q' 2 0 a b lo hi an g [p, q]) hn).trans (quo_l1 (K := K) n a b p q lo hi an g)).trans ?_
  simp only [beq_eq_false_iff_ne.mpr hp, beq_eq_false_iff_ne.mpr hq, cond_false, w64, fa, fb, ga, gb]
  cases an <;> simp only [put_0, put_1, some_bind, cond_true, cond_false]
set_option maxHeartbeats 4000000 in
theorem two7 (hK : 2000 ≤ K) {a b c d : Int} (ha : fit64 a) (hb : fit64 b) (hc : fit64 c) (hd : fit64 d) (hab : a ≤ b) (hcd : c ≤ d) : span_quotients.f K a b c d = some (divV a b c d) := by
  obtain ⟨k, hk⟩ : ∃ n, K = n + 3 := ⟨K - 3, by omega⟩
  have m1 : mx c (-9223372036854775808) = c := by unfold mx fit64 at *; split <;> omega
  have m2 : mn d 9223372036854775807 = d := by unfold mn fit64 at *; split <;> omega
  have s1 := mx_spec c 1; have s2 := mn_spec d (-1)
  have M1 : span_Meet.f K c d (-9223372036854775808) (-1) = some (if c < 0 then (c, mn d (-1), true) else (0, 0, false)) := by
    rw [sMeet_val, m1]
    by_cases n : c < 0
    · rw [if_pos n, if_neg (by omega)]
    · rw [if_neg n, if_pos (by omega)]
  have M2 : span_Meet.f K c d 1 9223372036854775807 = some (if d > 0 then (mx c 1, d, true) else (0, 0, false)) := by
    rw [sMeet_val, m2]
    by_cases n : d > 0
    · rw [if_pos n, if_neg (by omega)]
    · rw [if_neg n, if_pos (by omega)]
  have H := sHas_val (K := K) c d (-1)
  have fd : ¬ (a = -9223372036854775808 ∧ c ≤ -1 ∧ -1 ≤ d) → ∀ x e, a ≤ x → fit64 x → e ∈ eds c d → wrap64 (x.tdiv e) = x.tdiv e := fun full x e hx fx he => by
    obtain ⟨-, h1, h2⟩ := ne_of_mem_eds hcd he
    refine wr (tdiv_fits fx (fun q => full ?_))
    unfold fit64 at *
    omega
  have z := fun v hv => (ne_of_mem_eds (e := v) hcd hv).1
  have parts : span_Span_parts.f K c d = some ((if c < 0 then [(c, mn d (-1))] else []) ++ (if d > 0 then [(mx c 1, d)] else [])) := by
    unfold span_Span_parts.f
    rw [M1, M2]
    by_cases n : c < 0 <;> by_cases p : d > 0 <;> simp only [n, p, if_true, if_false, some_bind, cond_true, cond_false] <;> rfl
  have L0 : ∀ (l : List (Int × Int)) (i s1 s2 : Int), span_quotients.l0.f K K l i 0 a b s1 s2 0 0 false false = span_quotients.l0.f K (k + 3) l i 0 a b s1 s2 0 0 false false := fun l i s1 s2 => congrArg (fun q => span_quotients.l0.f K q l i 0 a b s1 s2 0 0 false false) hk
  unfold span_quotients.f
  rw [parts, some_bind, H]
  clear M1 M2 H parts
  unfold divV
  by_cases full : a = -9223372036854775808 ∧ c ≤ -1 ∧ -1 ≤ d
  · have n : c < 0 := by omega
    have ne : eds c d ≠ [] := by unfold eds; rw [if_pos n]; simp
    rw [if_neg ne, if_pos full]
    clear fd z
    have e1 : decide ((((((if c < 0 then [(c, mn d (-1))] else []) ++ (if d > 0 then [(mx c 1, d)] else []) : List (Int × Int))).length : Nat) : Int) > 0) = true := by rw [if_pos n]; simp
    simp only [e1, cond_true, beq_iff_eq.mpr full.1, some_bind, decide_eq_true full.2.1, decide_eq_true full.2.2, Bool.and_true, bindC_def, sAny_val]
  · rw [if_neg full]
    have sk : ∀ w : Bool, (bif w then bif a == -9223372036854775808 then (some (decide (c ≤ -1) && decide (-1 ≤ d))).bind fun t => some t else some false else some false) = some false := fun w => by
      by_cases m : a = -9223372036854775808
      · have : (decide (c ≤ -1) && decide (-1 ≤ d)) = false := by
          have : ¬ (c ≤ -1 ∧ -1 ≤ d) := fun q => full ⟨m, q⟩
          simpa using this
        rw [this, beq_iff_eq.mpr m]; cases w <;> rfl
      · rw [beq_eq_false_iff_ne.mpr m]; cases w <;> rfl
    have fd := fd full
    rw [sk, bindC_def, some_bind, cond_false]
    by_cases n : c < 0 <;> by_cases p : d > 0
    · have e : eds c d = [c, mn d (-1), mx c 1, d] := by unfold eds; rw [if_pos n, if_pos p]; rfl
      rw [e] at fd z ⊢
      have q0 := fun x hx fx => fd x c hx fx (by simp)
      have q1 := fun x hx fx => fd x (mn d (-1)) hx fx (by simp)
      have q2 := fun x hx fx => fd x (mx c 1) hx fx (by simp)
      have q3 := fun x hx fx => fd x d hx fx (by simp)
      simp only [if_pos n, if_pos p, List.cons_append, List.nil_append, List.length_cons, List.length_nil]
      rw [L0]
      rw [show (((0 + 1 + 1 : Nat)) : Int) = 2 from rfl, quo_l0_2]
      rw [quo_l1_val hK (z c (by simp)) (z (mn d (-1)) (by simp)) (q0 a (Int.le_refl _) ha) (q0 b hab hb) (q1 a (Int.le_refl _) ha) (q1 b hab hb), some_bind]
      simp only [cond_false]
      rw [quo_l1_val hK (z (mx c 1) (by simp)) (z d (by simp)) (q2 a (Int.le_refl _) ha) (q2 b hab hb) (q3 a (Int.le_refl _) ha) (q3 b hab hb), some_bind]
      simp only [cond_true, some_bind, all_f]
      simp [quos, hull, grow]
    · have e : eds c d = [c, mn d (-1)] := by unfold eds; rw [if_pos n, if_neg p]; rfl
      rw [e] at fd z ⊢
      have q0 := fun x hx fx => fd x c hx fx (by simp)
      have q1 := fun x hx fx => fd x (mn d (-1)) hx fx (by simp)
      simp only [if_pos n, if_neg p, List.append_nil, List.length_cons, List.length_nil]
      rw [L0]
      rw [show (((0 + 1 : Nat)) : Int) = 1 from rfl, quo_l0_1]
      rw [quo_l1_val hK (z c (by simp)) (z (mn d (-1)) (by simp)) (q0 a (Int.le_refl _) ha) (q0 b hab hb) (q1 a (Int.le_refl _) ha) (q1 b hab hb), some_bind]
      simp only [cond_false, some_bind, all_f]
      simp [quos, hull, grow]
    · have e : eds c d = [mx c 1, d] := by unfold eds; rw [if_neg n, if_pos p]; rfl
      rw [e] at fd z ⊢
      have q2 := fun x hx fx => fd x (mx c 1) hx fx (by simp)
      have q3 := fun x hx fx => fd x d hx fx (by simp)
      simp only [if_neg n, if_pos p, List.nil_append, List.length_cons, List.length_nil]
      rw [L0]
      rw [show (((0 + 1 : Nat)) : Int) = 1 from rfl, quo_l0_1]
      rw [quo_l1_val hK (z (mx c 1) (by simp)) (z d (by simp)) (q2 a (Int.le_refl _) ha) (q2 b hab hb) (q3 a (Int.le_refl _) ha) (q3 b hab hb), some_bind]
      simp only [cond_false, some_bind, all_f]
      simp [quos, hull, grow]
    · have e : eds c d = [] := by unfold eds; rw [if_neg n, if_neg p]; rfl
      rw [e, if_pos rfl]
      simp only [if_neg n, if_neg p, List.append_nil, List.length_nil]
      rw [L0]
      rw [show (((0 : Nat)) : Int) = 0 from rfl, quo_l0_0]
      rfl
def nt (c : Int) : Int := xo (if IntKind.i64.signed = true then -1 else IntKind.i64.max) c
theorem nt_val {c : Int} (hc : fit64 c) : nt c = -1 - c := by
  show xo (-1) c = _
  exact xor_m1 hc
def rst (a b m : Int) : Option (Int × Int × Bool) := some (mn 0 (mx a (IntKind.i64.wrap (0 - m))), mx 0 (mn b m), true)
theorem rests_eq (a b c d : Int) : span_rests.f K a b c d = bif (c == 0 && d == 0) then some (0, 0, false) else bif d == -9223372036854775808 then bif decide (c < 0) then rst a b (mx 0 (nt c)) else rst a b 0 else bif decide (c < 0) then rst a b (mx (mx 0 (IntKind.i64.wrap (d - 1))) (nt c)) else rst a b (mx 0 (IntKind.i64.wrap (d - 1))) := rfl
theorem two8 {a b c d : Int} (ha : fit64 a) (hb : fit64 b) (hc : fit64 c) (hd : fit64 d) (hcd : c ≤ d) : span_rests.f K a b c d = some (remV a b c d) := by
  have fg := far_ge c d
  have ff := far_fits hc hd
  have wn : IntKind.i64.wrap (0 - far c d) = -far c d := by rw [w64, Int.zero_sub]; exact wr (by unfold fit64; omega)
  obtain ⟨r1, r2⟩ := rest_ends (far c d) a b fg
  have R : rst a b (far c d) = some (if a < 0 then mx a (-far c d) else 0, if b > 0 then mn b (far c d) else 0, true) := by
    unfold rst; rw [wn, r1, r2]
  rw [rests_eq, nt_val hc, w64]
  unfold remV
  by_cases z : c = 0 ∧ d = 0
  · rw [if_pos z]; simp [z.1, z.2]
  · have zz : (c == 0 && d == 0) = false := by simpa using z
    rw [if_neg z, zz, cond_false]
    by_cases m : d = -9223372036854775808
    · have c0 : c < 0 := by unfold fit64 at *; omega
      have e : mx 0 (-1 - c) = far c d := by
        unfold far
        have d0 : ¬ d > 0 := by omega
        have m1 := mx_spec 0 (-1 - c); have m2 := mx_spec (-1 - c) 0
        rw [if_pos c0, if_neg d0]
        omega
      rw [beq_iff_eq.mpr m, cond_true, decide_eq_true c0, cond_true, e, R]
    · have w : wrap64 (d - 1) = d - 1 := wr (by unfold fit64 at *; omega)
      rw [beq_eq_false_iff_ne.mpr m, cond_false, w]
      by_cases c0 : c < 0
      · have e : mx (mx 0 (d - 1)) (-1 - c) = far c d := by
          unfold far
          rw [if_pos c0]
          have m1 := mx_spec 0 (d - 1); have m2 := mx_spec (mx 0 (d - 1)) (-1 - c); have m3 := mx_spec (-1 - c) (if d > 0 then d - 1 else 0)
          by_cases d0 : d > 0
          · rw [if_pos d0] at *; omega
          · rw [if_neg d0] at *; omega
        rw [decide_eq_true c0, cond_true, e, R]
      · have e : mx 0 (d - 1) = far c d := by
          unfold far
          rw [if_neg c0]
          have m1 := mx_spec 0 (d - 1); have m3 := mx_spec 0 (if d > 0 then d - 1 else 0)
          by_cases d0 : d > 0
          · rw [if_pos d0] at *
          · rw [if_neg d0] at *; omega
        rw [decide_eq_false c0, cond_false, e, R]
theorem spAbove (a : Int) : span_Span_above.f K a = some (decide (a ≥ 0)) := rfl
theorem spBelow (b : Int) : span_Span_below.f K b = some (decide (b < 0)) := rfl
theorem two9 (a b c d : Int) : span_both.f K a b c d = some (andV a b c d) := by
  unfold span_both.f andV
  simp only [spAbove, spBelow, some_bind, bindC_def]
  by_cases a0 : a ≥ 0 <;> by_cases c0 : c ≥ 0 <;> by_cases b0 : b < 0 <;> by_cases d0 : d < 0 <;> simp [a0, c0, b0, d0, mn, mx]
def tab : ByteArray := ByteArray.mk (([0, 1, 2, 2, 3, 3, 3, 3, 4, 4, 4, 4, 4, 4, 4, 4, 5, 5, 5, 5, 5, 5, 5, 5, 5, 5, 5, 5, 5, 5, 5, 5, 6, 6, 6, 6, 6, 6, 6, 6, 6, 6, 6, 6, 6, 6, 6, 6, 6, 6, 6, 6, 6, 6, 6, 6, 6, 6, 6, 6, 6, 6, 6, 6].append [7, 7, 7, 7, 7, 7, 7, 7, 7, 7, 7, 7, 7, 7, 7, 7, 7, 7, 7, 7, 7, 7, 7, 7, 7, 7, 7, 7, 7, 7, 7, 7, 7, 7, 7, 7, 7, 7, 7, 7, 7, 7, 7, 7, 7, 7, 7, 7, 7, 7, 7, 7, 7, 7, 7, 7, 7, 7, 7, 7, 7, 7, 7, 7]).append ([8, 8, 8, 8, 8, 8, 8, 8, 8, 8, 8, 8, 8, 8, 8, 8, 8, 8, 8, 8, 8, 8, 8, 8, 8, 8, 8, 8, 8, 8, 8, 8, 8, 8, 8, 8, 8, 8, 8, 8, 8, 8, 8, 8, 8, 8, 8, 8, 8, 8, 8, 8, 8, 8, 8, 8, 8, 8, 8, 8, 8, 8, 8, 8].append [8, 8, 8, 8, 8, 8, 8, 8, 8, 8, 8, 8, 8, 8, 8, 8, 8, 8, 8, 8, 8, 8, 8, 8, 8, 8, 8, 8, 8, 8, 8, 8, 8, 8, 8, 8, 8, 8, 8, 8, 8, 8, 8, 8, 8, 8, 8, 8, 8, 8, 8, 8, 8, 8, 8, 8, 8, 8, 8, 8, 8, 8, 8, 8])).toArray
theorem tab_val : ∀ i : Fin 256, (((tab[i.val]?.getD (0 : UInt8)).toNat : Nat) : Int) = ((bl i.val : Nat) : Int) := by decide +kernel
def sh (x : Int) (k : Nat) : Int := x.fdiv ((2 : Int) ^ k)
def look8 (x n : Int) : Option Int := bif decide (0 ≤ IntKind.u8.wrap x) then bif (IntKind.u8.wrap x).toNat.blt 256 then some (IntKind.i64.wrap (n + IntKind.i64.wrap (((tab[(IntKind.u8.wrap x).toNat]?.getD (0 : UInt8)).toNat : Nat) : Int))) else none else none
def len1 (x n : Int) : Option Int := bif decide (x ≥ 256) then look8 (sh x 8) (IntKind.i64.wrap (n + 8)) else look8 x n
def len2 (x n : Int) : Option Int := bif decide (x ≥ 65536) then len1 (sh x 16) (IntKind.i64.wrap (n + 16)) else len1 x n
set_option maxRecDepth 100000 in
theorem len_eq (a : Int) : math_bits_Len64.f K a = bif decide (a ≥ 4294967296) then len2 (sh a 32) 32 else len2 a 0 := by kernel_rfl
theorem look_val {n : Nat} (h : n < 256) (m : Int) (h0 : 0 ≤ m) (h1 : m ≤ 100) : look8 (n : Int) m = some (m + ((bl n : Nat) : Int)) := by
  have w : IntKind.u8.wrap (n : Int) = (n : Int) := by rw [IntKind.wrap_u8]; omega
  have b : (((tab[n]?.getD (0 : UInt8)).toNat : Nat) : Int) = ((bl n : Nat) : Int) := tab_val ⟨n, h⟩
  have s : bl n ≤ 8 := bl_le.mpr h
  have w1 : wrap64 ((bl n : Nat) : Int) = ((bl n : Nat) : Int) := wr (by unfold fit64; omega)
  unfold look8
  have hb : (IntKind.u8.wrap (n : Int)).toNat.blt 256 = true := by rw [w]; exact Nat.ble_eq_true_of_le (show (n : Int).toNat + 1 ≤ 256 by omega)
  rw [hb, w, decide_eq_true (by omega), cond_true, cond_true, Int.toNat_natCast, b, w64, w64, w1, wr (by unfold fit64; omega)]
theorem sh8 (n : Nat) : sh (n : Int) 8 = ((n / 2 ^ 8 : Nat) : Int) := by
  unfold sh; rw [Int.fdiv_eq_ediv_of_nonneg _ (by decide)]; rfl
theorem sh16 (n : Nat) : sh (n : Int) 16 = ((n / 2 ^ 16 : Nat) : Int) := by
  unfold sh; rw [Int.fdiv_eq_ediv_of_nonneg _ (by decide)]; rfl
theorem sh32 (n : Nat) : sh (n : Int) 32 = ((n / 2 ^ 32 : Nat) : Int) := by
  unfold sh; rw [Int.fdiv_eq_ediv_of_nonneg _ (by decide)]; rfl
theorem len1_val {n : Nat} (h : n < 65536) (m : Int) (h0 : 0 ≤ m) (h1 : m ≤ 90) : len1 (n : Int) m = some (m + ((bl n : Nat) : Int)) := by
  unfold len1
  by_cases b : n ≥ 256
  · have s : bl n = 8 + bl (n / 2 ^ 8) := bl_shift b
    rw [decide_eq_true (by omega), cond_true, sh8, look_val (by omega) _ (by rw [w64, wr (by unfold fit64; omega)]; omega) (by rw [w64, wr (by unfold fit64; omega)]; omega), s, w64, wr (by unfold fit64; omega)]
    congr 1; omega
  · rw [decide_eq_false (by omega), cond_false, look_val (by omega) _ h0 (by omega)]
theorem len2_val {n : Nat} (h : n < 4294967296) (m : Int) (h0 : 0 ≤ m) (h1 : m ≤ 70) : len2 (n : Int) m = some (m + ((bl n : Nat) : Int)) := by
  unfold len2
  by_cases b : n ≥ 65536
  · have s : bl n = 16 + bl (n / 2 ^ 16) := bl_shift b
    rw [decide_eq_true (by omega), cond_true, sh16, len1_val (by omega) _ (by rw [w64, wr (by unfold fit64; omega)]; omega) (by rw [w64, wr (by unfold fit64; omega)]; omega), s, w64, wr (by unfold fit64; omega)]
    congr 1; omega
  · rw [decide_eq_false (by omega), cond_false, len1_val (by omega) _ h0 (by omega)]
theorem len_val (n : Nat) (h : n < 9223372036854775808) : math_bits_Len64.f K (n : Int) = some ((bl n : Nat) : Int) := by
  rw [len_eq]
  by_cases a : n ≥ 4294967296
  · have s : bl n = 32 + bl (n / 2 ^ 32) := bl_shift a
    rw [decide_eq_true (by omega), cond_true, sh32, len2_val (by omega) _ (by decide) (by decide), s]
    congr 1
  · rw [decide_eq_false (by omega), cond_false, len2_val (by omega) _ (by decide) (by decide), Int.zero_add]
theorem shl_val : ∀ L : Fin 64, IntKind.i64.wrap (IntKind.u64.wrap (IntKind.u64.wrap (1 * 2 ^ min ((L.val : Nat) : Int).toNat 64) - 1)) = ((2 ^ L.val : Nat) : Int) - 1 := by decide +kernel
theorem ones_val {n : Int} (h0 : 0 ≤ n) (h1 : n ≤ 9223372036854775807) : span_ones.f K n = some (ones0 n) := by
  unfold span_ones.f
  have w : IntKind.u64.wrap n = ((n.toNat : Nat) : Int) := by
    rw [show IntKind.u64.wrap n = n % 18446744073709551616 from by simp [IntKind.wrap, IntKind.bits, IntKind.signed]]; omega
  have L : bl n.toNat < 64 := by
    have : bl n.toNat ≤ 63 := bl_le.mpr (by omega)
    omega
  rw [w, len_val _ (by omega), some_bind, decide_eq_false (by omega), cond_false, shl_val ⟨_, L⟩]
  rfl
theorem turned_val {a b : Int} (ha : fit64 a) (hb : fit64 b) : span_Span_turned.f K a b = some (-1 - b, -1 - a) := by
  show some (nt b, nt a) = _
  rw [nt_val ha, nt_val hb]
theorem e1 (k : Nat) {a b c d : Int} (hb : fit64 b) (hd : fit64 d) (a0 : a ≥ 0) (c0 : c ≥ 0) (b0 : b ≥ 0) : span_either.f K (k + 1) a b c d = some (0, ones0 (mx b d)) := by
  have m := mx_spec b d
  have f := fits_mx hb hd
  have o : span_ones.f K (if d > b then d else b) = some (ones0 (mx b d)) := ones_val (n := mx b d) (by omega) f.2
  rw [span_either.f]
  unfold span_either.body
  simp only [spAbove, some_bind, decide_eq_true a0, cond_true, decide_eq_true c0, o, bindC_def]
set_option maxHeartbeats 2000000 in
theorem two10 (k : Nat) {a b c d : Int} (ha : fit64 a) (hb : fit64 b) (hc : fit64 c) (hd : fit64 d) (hab : a ≤ b) (hcd : c ≤ d) : span_either.f K (k + 2) a b c d = some (xorV a b c d) := by
  unfold xorV
  by_cases g1 : a ≥ 0 ∧ c ≥ 0
  · rw [if_pos g1]; exact e1 (k + 1) hb hd g1.1 g1.2 (by omega)
  rw [if_neg g1]
  have A := spAbove (K := K) a; have C := spAbove (K := K) c; have B := spBelow (K := K) b; have D := spBelow (K := K) d
  by_cases g2 : b < 0 ∧ d < 0
  · have a0 : ¬ a ≥ 0 := by omega
    rw [if_pos g2]
    rw [span_either.f]
    unfold span_either.body
    simp only [A, B, C, D, some_bind, bindC_def, decide_eq_false a0, decide_eq_true g2.1, decide_eq_true g2.2, cond_false, cond_true]
    rw [turned_val ha hb, some_bind, turned_val hc hd, some_bind, e1 k (fits_not ha) (fits_not hc) (by first | omega | (simp only []; omega)) (by first | omega | (simp only []; omega)) (by first | omega | (simp only []; omega))]
  rw [if_neg g2]
  by_cases g3 : b < 0 ∧ c ≥ 0
  · have a0 : ¬ a ≥ 0 := by omega
    have d0 : ¬ d < 0 := by omega
    have m := mx_spec (-1 - a) d
    have o1 := ones_ge (mx (-1 - a) d)
    have o2 := ones_fits (fits_mx (fits_not ha) hd)
    rw [if_pos g3]
    rw [span_either.f]
    unfold span_either.body
    simp only [A, B, C, D, some_bind, bindC_def, decide_eq_false a0, decide_eq_true g3.1, decide_eq_true g3.2, decide_eq_false d0, cond_false, cond_true]
    rw [turned_val ha hb, some_bind, e1 k (fits_not ha) hd (by first | omega | (simp only []; omega)) g3.2 (by first | omega | (simp only []; omega)), some_bind, turned_val (by unfold fit64; first | omega | (simp only []; omega)) (by unfold fit64; first | omega | (simp only []; omega))]
    rfl
  rw [if_neg g3]
  by_cases g4 : a ≥ 0 ∧ d < 0
  · have b0 : ¬ b < 0 := by omega
    have c0 : ¬ c ≥ 0 := by omega
    have o1 := ones_ge (mx b (-1 - c))
    have o2 := ones_fits (fits_mx hb (fits_not hc))
    rw [if_pos g4]
    rw [span_either.f]
    unfold span_either.body
    simp only [A, B, C, D, some_bind, bindC_def, decide_eq_false b0, decide_eq_true g4.1, decide_eq_true g4.2, decide_eq_false c0, cond_false, cond_true]
    rw [turned_val hc hd, some_bind, e1 k hb (fits_not hc) g4.1 (by first | omega | (simp only []; omega)) (by first | omega | (simp only []; omega)), some_bind, turned_val (by unfold fit64; first | omega | (simp only []; omega)) (by unfold fit64; first | omega | (simp only []; omega))]
    rfl
  rw [if_neg g4]
  rw [span_either.f]
  unfold span_either.body
  by_cases a0 : a ≥ 0 <;> by_cases b0 : b < 0 <;> by_cases c0 : c ≥ 0 <;> by_cases d0 : d < 0 <;> first
    | (exfalso; omega)
    | (simp only [A, B, C, D, some_bind, bindC_def, decide_eq_true, decide_eq_false, a0, b0, c0, d0, cond_false, cond_true, sAny_val, decide_true, decide_false, not_false_eq_true])
theorem truth_val (p q : Bool) : span_truth.f K p q = some (if p = true then (1, 1) else if q = true then (0, 0) else (0, 1)) := by
  unfold span_truth.f
  cases p <;> cases q <;> rfl
theorem two_val (hK : 2000 ≤ K) (op : Int) {a b c d : Int} (ha : fit64 a) (hb : fit64 b) (hc : fit64 c) (hd : fit64 d) (hab : a ≤ b) (hcd : c ≤ d) : span_Two.f K op a b c d = some (twoV op a b c d) := by
  obtain ⟨k, hk⟩ : ∃ n, K = n + 2 := ⟨K - 2, by omega⟩
  unfold twoV
  by_cases o4 : op = 4
  · subst o4; rw [if_pos rfl]; exact two4 ha hb hc hd
  rw [if_neg o4]
  by_cases o5 : op = 5
  · subst o5; rw [if_pos rfl]; exact two5 ha hb hc hd
  rw [if_neg o5]
  by_cases o6 : op = 6
  · subst o6; rw [if_pos rfl]; exact two6 hK ha hb hc hd
  rw [if_neg o6]
  unfold span_Two.f
  rw [beq_eq_false_iff_ne.mpr o4, beq_eq_false_iff_ne.mpr o5, beq_eq_false_iff_ne.mpr o6, cond_false, cond_false, cond_false]
  by_cases o7 : op = 7
  · rw [if_pos o7, beq_iff_eq.mpr o7, cond_true, two7 hK ha hb hc hd hab hcd]
  rw [if_neg o7, beq_eq_false_iff_ne.mpr o7, cond_false]
  by_cases o8 : op = 8
  · rw [if_pos o8, beq_iff_eq.mpr o8, cond_true, two8 ha hb hc hd hcd]
  rw [if_neg o8, beq_eq_false_iff_ne.mpr o8, cond_false]
  by_cases o9 : op = 9
  · rw [if_pos o9, beq_iff_eq.mpr o9, cond_true, two9, some_bind]
  rw [if_neg o9, beq_eq_false_iff_ne.mpr o9, cond_false]
  by_cases o10 : op = 10
  · rw [if_pos o10, beq_iff_eq.mpr o10, cond_true, show span_either.f K K a b c d = some (xorV a b c d) from (congrArg (fun q => span_either.f K q a b c d) hk).trans (two10 k ha hb hc hd hab hcd), some_bind]
  rw [if_neg o10, beq_eq_false_iff_ne.mpr o10, cond_false]
  by_cases o11 : op = 11
  · rw [if_pos o11, beq_iff_eq.mpr o11, cond_true, truth_val, some_bind]
    by_cases p : b < c <;> by_cases q : a ≥ d <;> simp [p, q]
  rw [if_neg o11, beq_eq_false_iff_ne.mpr o11, cond_false]
  by_cases o12 : op = 12
  · rw [if_pos o12, beq_iff_eq.mpr o12, cond_true, sMeet_val, show span_Span_one.f K a b = some (a == b) from rfl, some_bind, some_bind, truth_val, truth_val, some_bind, some_bind]
    have m1 := mx_spec a c; have m2 := mn_spec b d
    by_cases p : mx a c > mn b d
    · have n : ¬ (a = b ∧ a = c ∧ b = d) := by omega
      have q : b < c ∨ d < a := by omega
      rw [if_pos p, if_neg n, if_pos q]
      by_cases u : a = b
      · have v : ¬ (a = c ∧ b = d) := fun h => n ⟨u, h⟩
        rw [beq_iff_eq.mpr u, if_neg (by simpa using v)]; rfl
      · rw [beq_eq_false_iff_ne.mpr u]; rfl
    · have q : ¬ (b < c ∨ d < a) := by omega
      rw [if_neg p, if_neg q]
      by_cases u : a = b
      · rw [beq_iff_eq.mpr u]
        by_cases v : a = c ∧ b = d
        · have nn : a = b ∧ a = c ∧ b = d := ⟨u, v⟩
          rw [if_pos (by simpa using v), if_pos nn]; rfl
        · have n : ¬ (a = b ∧ a = c ∧ b = d) := fun h => v h.2
          rw [if_neg (by simpa using v), if_neg n]; rfl
      · have n : ¬ (a = b ∧ a = c ∧ b = d) := fun h => u h.1
        rw [beq_eq_false_iff_ne.mpr u, if_neg n]; rfl
  rw [if_neg o12, beq_eq_false_iff_ne.mpr o12, cond_false]
  rfl
theorem one_val (op : Int) {a b : Int} (ha : fit64 a) (hb : fit64 b) (hab : a ≤ b) : span_One.f K op a b = some (oneV op a b) := by
  unfold span_One.f oneV
  by_cases o2 : op = 2
  · rw [if_pos o2, beq_iff_eq.mpr o2, cond_true]
  rw [if_neg o2, beq_eq_false_iff_ne.mpr o2, cond_false]
  by_cases o3 : op = 3
  · rw [if_pos o3, beq_iff_eq.mpr o3]
    by_cases m : a = -9223372036854775808
    · rw [if_pos m, beq_iff_eq.mpr m]
      by_cases n : b = -9223372036854775808
      · rw [if_pos n, beq_iff_eq.mpr n]; rfl
      · rw [if_neg n, beq_eq_false_iff_ne.mpr n]; rfl
    · rw [if_neg m, beq_eq_false_iff_ne.mpr m]
      show some (IntKind.i64.wrap (0 - b), IntKind.i64.wrap (0 - a), true) = _
      rw [w64, w64, Int.zero_sub, Int.zero_sub, wr (by unfold fit64 at *; omega), wr (by unfold fit64 at *; omega)]
  · rw [if_neg o3, beq_eq_false_iff_ne.mpr o3]; rfl
theorem branch_val (a b : Int) (yes : Bool) : span_Branch.f K a b yes = some (branchV a b yes) := by
  unfold span_Branch.f branchV
  rw [sHas_val, show span_Of.f K = some () from rfl]
  cases yes with
  | false => rfl
  | true =>
    simp only [some_bind, Bool.not_true, cond_false, if_true]
    by_cases p : a = 0
    · by_cases q : b = 0
      · rw [beq_iff_eq.mpr p, beq_iff_eq.mpr q, if_pos ⟨p, q⟩]; rfl
      · have n : ¬ (a = 0 ∧ b = 0) := fun h => q h.2
        rw [beq_iff_eq.mpr p, beq_eq_false_iff_ne.mpr q, if_neg n, if_pos p]; rfl
    · have n : ¬ (a = 0 ∧ b = 0) := fun h => p h.1
      rw [beq_eq_false_iff_ne.mpr p, if_neg n, if_neg p]
      by_cases q : b = 0
      · rw [beq_iff_eq.mpr q, if_pos q]; rfl
      · rw [beq_eq_false_iff_ne.mpr q, if_neg q]; rfl
end Go.Proofs.YtdjkdmjdcdljmaaGreat.AT
