/- What the program makes of two spans is the plain value. No condition. -/
import Derived.Test.YtpacmhhaabhdjaaSmV
import Derived.Test.YtpacmhhaabhdjaaSmB

set_option linter.unusedSimpArgs false
set_option linter.unusedVariables false
namespace Go.Proofs.Ytpacmhhaabhdjaa.Sv
open Go.RowKit Go.Proofs.Ytpacmhhaabhdjaa.SM Go.Proofs.Ytpacmhhaabhdjaa.Sn Go.Proofs.YtpacmhhaabhdjaaW.PrintWords Go.Proofs.YtpacmhhaabhdjaaW.PrintLast Go.Proofs.YtpacmhhaabhdjaaW.PrintMore
theorem hullT2 (p q : Int) : hullT [p, q] = if fits p then (if fits q then (mn p q, mx p q, true) else any) else any := by
  unfold hullT
  by_cases f : fits p <;> by_cases g : fits q <;> simp [f, g, hull, grow]
theorem hullT4 (p q r s : Int) : hullT [p, q, r, s] = if fits p then (if fits q then (if fits r then (if fits s then (mn (mn (mn p q) r) s, mx (mx (mx p q) r) s, true) else any) else any) else any) else any := by
  unfold hullT
  by_cases f : fits p <;> by_cases g : fits q <;> by_cases h : fits r <;> by_cases i : fits s <;> simp [f, g, h, i, hull, grow]
theorem two4 (k : Nat) {a b c d : Int} (ha : fits a) (hb : fits b) (hc : fits c) (hd : fits d) : span_Two.f k 4 a b c d = some (hullT [a + c, b + d]) := by
  unfold span_Two.f
  rw [if_pos rfl, sum_val ha hc, bs, put_val, bs, sum_val hb hd, bs, put_val, bs, all_val, bs, hullT2]
  by_cases f : fits (a + c) <;> by_cases g : fits (b + d) <;> simp [f, g]
theorem two5 (k : Nat) {a b c d : Int} (ha : fits a) (hb : fits b) (hc : fits c) (hd : fits d) : span_Two.f k 5 a b c d = some (hullT [a - d, b - c]) := by
  unfold span_Two.f
  rw [if_neg (by decide), if_pos rfl, less_val ha hd, bs, put_val, bs, less_val hb hc, bs, put_val, bs, all_val, bs, hullT2]
  by_cases f : fits (a - d) <;> by_cases g : fits (b - c) <;> simp [f, g]
theorem w01 : wrap64 (0 + 1) = 1 := by decide +kernel
theorem w11 : wrap64 (1 + 1) = 2 := by decide +kernel
theorem two6 (k : Nat) {a b c d : Int} (ha : fits a) (hb : fits b) (hc : fits c) (hd : fits d) : span_Two.f (k + 3) 6 a b c d = some (hullT [a * c, a * d, b * c, b * d]) := by
  unfold span_Two.f
  rw [if_neg (by decide), if_neg (by decide), if_pos rfl, bs]
  have r0 : rd [a, b] 0 = a := rfl
  have r1 : rd [a, b] 1 = b := rfl
  have l2 : (([a, b] : List Int).length : Int) = 2 := rfl
  rw [l2, span_Two.l0, if_pos (by decide), if_pos (by decide), l2, if_pos (by decide), r0, product_val ha hc, bs, put_val, bs, product_val ha hd, bs, put_val, bs, w01]
  rw [span_Two.l0, if_pos (by decide), if_pos (by decide), l2, if_pos (by decide), r1, product_val hb hc, bs, put_val, bs, product_val hb hd, bs, put_val, bs, w11]
  rw [span_Two.l0, if_neg (by decide), all_val, bs, hullT4]
  by_cases f : fits (a * c) <;> by_cases g : fits (a * d) <;> by_cases h : fits (b * c) <;> by_cases i : fits (b * d) <;> simp [f, g, h, i]
/-! ### Quotients -/
theorem parts_val {c d : Int} (hc : fits c) (hd : fits d) (h : c ≤ d) : span_Span_parts.f c d = some ((if c < 0 then [(⟨c, mn d (-1)⟩ : S59)] else []) ++ (if d > 0 then [(⟨mx c 1, d⟩ : S59)] else [])) := by
  have m1 : mx c (-9223372036854775808) = c := by unfold mx fits at *; split <;> omega
  have m2 : mn d 9223372036854775807 = d := by unfold mn fits at *; split <;> omega
  have g1 : (c > mn d (-1)) ↔ ¬ c < 0 := by have := mn_spec d (-1); omega
  have g2 : (mx c 1 > d) ↔ ¬ d > 0 := by have := mx_spec c 1; omega
  unfold span_Span_parts.f
  rw [Sp.meet_val, Sp.meet_val, bs, m1, m2]
  by_cases n : c < 0 <;> by_cases p : d > 0 <;> simp [g1, g2, n, p]
theorem ne_of_mem_eds {c d e : Int} (h : c ≤ d) (he : e ∈ eds c d) : e ≠ 0 ∧ c ≤ e ∧ e ≤ d := by
  unfold eds at he
  have m1 := mn_spec d (-1); have m2 := mx_spec c 1
  rcases List.mem_append.mp he with h1 | h1
  · split at h1
    · simp only [List.mem_cons, List.not_mem_nil, or_false] at h1; omega
    · cases h1
  · split at h1
    · simp only [List.mem_cons, List.not_mem_nil, or_false] at h1; omega
    · cases h1
/-- One number more to the ends so far: the first is both. -/
def putS (s : Int × Int × Bool × Bool) (v : Int) : Int × Int × Bool × Bool := if s.2.2.1 = true then (mn s.1 v, mx s.2.1 v, true, s.2.2.2) else (v, v, true, s.2.2.2)
theorem putS_val (s : Int × Int × Bool × Bool) (v : Int) : span_ends_put.f s.1 s.2.1 s.2.2.1 s.2.2.2 v true = some (putS s v) := by
  rw [put_ok]; rfl
theorem part_step (k : Nat) (ps : List S59) (n i : Int) (a b : Int) (s : Int × Int × Bool × Bool) (hn : n = (ps.length : Int)) (h0 : 0 ≤ i) (h1 : i < n) (hi : i ≤ 1000) (e0 : (rd_T59 ps i).f0 ≠ 0) (e1 : (rd_T59 ps i).f1 ≠ 0) :
    span_quotients.l0 (k + 4) ps n i a b s.1 s.2.1 s.2.2.1 s.2.2.2 =
      (let t := putS (putS (putS (putS s (wrap64 (a.tdiv (rd_T59 ps i).f0))) (wrap64 (b.tdiv (rd_T59 ps i).f0))) (wrap64 (a.tdiv (rd_T59 ps i).f1))) (wrap64 (b.tdiv (rd_T59 ps i).f1))
       span_quotients.l0 k ps n (i + 1) a b t.1 t.2.1 t.2.2.1 t.2.2.2) := by
  generalize hp : (rd_T59 ps i).f0 = p at *
  generalize hq : (rd_T59 ps i).f1 = q at *
  have r0 : rd [p, q] 0 = p := rfl
  have r1 : rd [p, q] 1 = q := rfl
  have l2 : (([p, q] : List Int).length : Int) = 2 := rfl
  have w : wrap64 (i + 1) = i + 1 := by unfold wrap64; omega
  rw [span_quotients.l0, if_pos h1, if_pos h0, if_pos (by omega), hp, hq, bs, l2]
  rw [span_quotients.l1, if_pos (by decide), if_pos (by decide), l2, if_pos (by decide), r0, if_neg e0, putS_val, bs, putS_val, bs, w01]
  rw [span_quotients.l1, if_pos (by decide), if_pos (by decide), l2, if_pos (by decide), r1, if_neg e1, putS_val, bs, putS_val, bs, w11]
  rw [span_quotients.l1, if_neg (by decide), w]
theorem two7 (k : Nat) {a b c d : Int} (ha : fits a) (hb : fits b) (hc : fits c) (hd : fits d) (hab : a ≤ b) (hcd : c ≤ d) : span_quotients.f (k + 10) a b c d = some (divV a b c d) := by
  unfold span_quotients.f
  rw [parts_val hc hd hcd, bs, Sp.has_val]
  have out : ∀ (ps : List S59), span_quotients.j0 (k + 10) ps true a b = some any := fun ps => by
    rw [span_quotients.j0, if_pos rfl]; rfl
  by_cases full : a = -9223372036854775808 ∧ c ≤ -1 ∧ -1 ≤ d
  · have n : c < 0 := by omega
    have ne : eds c d ≠ [] := by unfold eds; rw [if_pos n]; simp
    rw [if_pos n, if_pos (by simp), if_pos full.1, bs, decide_eq_true full.2.1, decide_eq_true full.2.2]
    simp only [Bool.and_self]
    rw [out]
    unfold divV
    rw [if_neg ne, if_pos full]
  · have fd : ∀ x e, a ≤ x → fits x → e ∈ eds c d → wrap64 (x.tdiv e) = x.tdiv e := fun x e hx fx he => by
      obtain ⟨-, h1, h2⟩ := ne_of_mem_eds hcd he
      refine wr (tdiv_fits fx (fun q => full ?_))
      unfold fits at *
      omega
    have skip : ∀ (ps : List S59), (if (ps.length : Int) > 0 then (if a = -9223372036854775808 then ((some (decide (c ≤ -1) && decide (-1 ≤ d))).bind fun t143 => (span_quotients.j0 (k + 10) ps t143 a b)) else (span_quotients.j0 (k + 10) ps false a b)) else (span_quotients.j0 (k + 10) ps false a b)) = span_quotients.l0 (k + 9) ps (ps.length : Int) 0 a b 0 0 false false := fun ps => by
      have j : span_quotients.j0 (k + 10) ps false a b = span_quotients.l0 (k + 9) ps (ps.length : Int) 0 a b 0 0 false false := by
        rw [span_quotients.j0, if_neg Bool.false_ne_true]
      rw [j, bs]
      by_cases m : a = -9223372036854775808
      · have : (decide (c ≤ -1) && decide (-1 ≤ d)) = false := by
          have : ¬ (c ≤ -1 ∧ -1 ≤ d) := fun q => full ⟨m, q⟩
          simpa using this
        rw [this, j]
        split <;> (first | (split <;> rfl) | rfl)
      · rw [if_neg m]
        split <;> rfl
    rw [skip]
    unfold divV
    rw [if_neg full]
    by_cases n : c < 0 <;> by_cases p : d > 0
    · have e : eds c d = [c, mn d (-1), mx c 1, d] := by unfold eds; rw [if_pos n, if_pos p]; rfl
      have q0 := fun x hx fx => fd x c hx fx (by rw [e]; simp)
      have q1 := fun x hx fx => fd x (mn d (-1)) hx fx (by rw [e]; simp)
      have q2 := fun x hx fx => fd x (mx c 1) hx fx (by rw [e]; simp)
      have q3 := fun x hx fx => fd x d hx fx (by rw [e]; simp)
      have z := fun v hv => (ne_of_mem_eds (e := v) hcd hv).1
      rw [if_pos n, if_pos p, e]
      show span_quotients.l0 (k + 9) [(⟨c, mn d (-1)⟩ : S59), ⟨mx c 1, d⟩] 2 0 a b (0, 0, false, false).1 (0, 0, false, false).2.1 (0, 0, false, false).2.2.1 (0, 0, false, false).2.2.2 = _
      refine (part_step (k + 5) [(⟨c, mn d (-1)⟩ : S59), ⟨mx c 1, d⟩] 2 0 a b (0, 0, false, false) rfl (by decide) (by decide) (by decide) (z c (by rw [e]; simp)) (z (mn d (-1)) (by rw [e]; simp))).trans ?_
      refine (part_step (k + 1) [(⟨c, mn d (-1)⟩ : S59), ⟨mx c 1, d⟩] 2 1 a b (putS (putS (putS (putS (0, 0, false, false) (wrap64 (a.tdiv c))) (wrap64 (b.tdiv c))) (wrap64 (a.tdiv (mn d (-1))))) (wrap64 (b.tdiv (mn d (-1))))) rfl (by decide) (by decide) (by decide) (z (mx c 1) (by rw [e]; simp)) (z d (by rw [e]; simp))).trans ?_
      have t0 : rd_T59 [(⟨c, mn d (-1)⟩ : S59), ⟨mx c 1, d⟩] 0 = ⟨c, mn d (-1)⟩ := rfl
      have t1 : rd_T59 [(⟨c, mn d (-1)⟩ : S59), ⟨mx c 1, d⟩] 1 = ⟨mx c 1, d⟩ := rfl
      simp only [t0, t1, q0 a (Int.le_refl _) ha, q0 b hab hb, q1 a (Int.le_refl _) ha, q1 b hab hb, q2 a (Int.le_refl _) ha, q2 b hab hb, q3 a (Int.le_refl _) ha, q3 b hab hb]
      rw [span_quotients.l0, if_neg (by decide), all_val, bs]
      simp [putS, quos, hull, grow]
    · have e : eds c d = [c, mn d (-1)] := by unfold eds; rw [if_pos n, if_neg p]; rfl
      have q0 := fun x hx fx => fd x c hx fx (by rw [e]; simp)
      have q1 := fun x hx fx => fd x (mn d (-1)) hx fx (by rw [e]; simp)
      have z := fun v hv => (ne_of_mem_eds (e := v) hcd hv).1
      rw [if_pos n, if_neg p, e]
      show span_quotients.l0 (k + 9) [(⟨c, mn d (-1)⟩ : S59)] 1 0 a b (0, 0, false, false).1 (0, 0, false, false).2.1 (0, 0, false, false).2.2.1 (0, 0, false, false).2.2.2 = _
      refine (part_step (k + 5) [(⟨c, mn d (-1)⟩ : S59)] 1 0 a b (0, 0, false, false) rfl (by decide) (by decide) (by decide) (z c (by rw [e]; simp)) (z (mn d (-1)) (by rw [e]; simp))).trans ?_
      have t0 : rd_T59 [(⟨c, mn d (-1)⟩ : S59)] 0 = ⟨c, mn d (-1)⟩ := rfl
      simp only [t0, q0 a (Int.le_refl _) ha, q0 b hab hb, q1 a (Int.le_refl _) ha, q1 b hab hb]
      rw [span_quotients.l0, if_neg (by decide), all_val, bs]
      simp [putS, quos, hull, grow]
    · have e : eds c d = [mx c 1, d] := by unfold eds; rw [if_neg n, if_pos p]; rfl
      have q2 := fun x hx fx => fd x (mx c 1) hx fx (by rw [e]; simp)
      have q3 := fun x hx fx => fd x d hx fx (by rw [e]; simp)
      have z := fun v hv => (ne_of_mem_eds (e := v) hcd hv).1
      rw [if_neg n, if_pos p, e]
      show span_quotients.l0 (k + 9) [(⟨mx c 1, d⟩ : S59)] 1 0 a b (0, 0, false, false).1 (0, 0, false, false).2.1 (0, 0, false, false).2.2.1 (0, 0, false, false).2.2.2 = _
      refine (part_step (k + 5) [(⟨mx c 1, d⟩ : S59)] 1 0 a b (0, 0, false, false) rfl (by decide) (by decide) (by decide) (z (mx c 1) (by rw [e]; simp)) (z d (by rw [e]; simp))).trans ?_
      have t0 : rd_T59 [(⟨mx c 1, d⟩ : S59)] 0 = ⟨mx c 1, d⟩ := rfl
      simp only [t0, q2 a (Int.le_refl _) ha, q2 b hab hb, q3 a (Int.le_refl _) ha, q3 b hab hb]
      rw [span_quotients.l0, if_neg (by decide), all_val, bs]
      simp [putS, quos, hull, grow]
    · have e : eds c d = [] := by unfold eds; rw [if_neg n, if_neg p]; rfl
      rw [if_neg n, if_neg p, e, if_pos rfl]
      show span_quotients.l0 (k + 9) [] 0 0 a b 0 0 false false = _
      rw [span_quotients.l0, if_neg (by decide), all_val, bs]
      rfl
end Go.Proofs.Ytpacmhhaabhdjaa.Sv
