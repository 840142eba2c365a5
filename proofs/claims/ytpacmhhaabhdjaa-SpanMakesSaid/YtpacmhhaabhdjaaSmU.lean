/- What the program makes of two spans is the plain value: rests, bits, and all operations. No condition. -/
import Derived.Test.YtpacmhhaabhdjaaSmT

set_option linter.unusedSimpArgs false
set_option linter.unusedVariables false
namespace Go.Proofs.Ytpacmhhaabhdjaa.Sv
open Go.RowKit Go.Proofs.Ytpacmhhaabhdjaa.SM Go.Proofs.Ytpacmhhaabhdjaa.Sn Go.Proofs.YtpacmhhaabhdjaaW.PrintWords Go.Proofs.YtpacmhhaabhdjaaW.PrintLast Go.Proofs.YtpacmhhaabhdjaaW.PrintMore
theorem xor_m1 {x : Int} (h : fits x) : Go.bits .xor .i64 (-1) x = -1 - x := by
  rw [PB.xor_toInt]
  have e : BitVec.ofInt 64 (-1) = BitVec.allOnes 64 := by decide
  have q := PB.ofInt_toInt h.1 h.2
  generalize BitVec.ofInt 64 x = v at *
  have n : BitVec.allOnes 64 ^^^ v = ~~~v := (BitVec.not_def).symm
  have t := BitVec.toInt_eq_toNat_cond (~~~v)
  have t2 := BitVec.toInt_eq_toNat_cond v
  have l := v.isLt
  rw [BitVec.toNat_not] at t
  rw [e, n]
  omega
theorem far_ge (c d : Int) : 0 ≤ far c d := by
  unfold far mx
  split <;> split <;> split <;> omega
theorem far_fits {c d : Int} (hc : fits c) (hd : fits d) : far c d ≤ 9223372036854775807 := by
  unfold far mx fits at *
  split <;> split <;> split <;> omega
theorem rest_ends (F a b : Int) (h : 0 ≤ F) : mn 0 (mx a (-F)) = (if a < 0 then mx a (-F) else 0) ∧ mx 0 (mn b F) = (if b > 0 then mn b F else 0) := by
  have m1 := mn_spec 0 (mx a (-F)); have m2 := mx_spec a (-F); have m3 := mx_spec 0 (mn b F); have m4 := mn_spec b F
  refine ⟨?_, ?_⟩
  · by_cases h : a < 0
    · rw [if_pos h]; omega
    · rw [if_neg h]; omega
  · by_cases h : b > 0
    · rw [if_pos h]; omega
    · rw [if_neg h]; omega
theorem two8 {a b c d : Int} (ha : fits a) (hb : fits b) (hc : fits c) (hd : fits d) (hcd : c ≤ d) : span_rests.f a b c d = some (remV a b c d) := by
  have fg := far_ge c d
  have ff := far_fits hc hd
  have wn : wrap64 (-far c d) = -far c d := wr (by unfold fits; omega)
  obtain ⟨r1, r2⟩ := rest_ends (far c d) a b fg
  unfold span_rests.f remV
  rw [show span_Of.f 0 = some (0, 0) from rfl, bs, xor_m1 hc]
  by_cases z : c = 0 ∧ d = 0
  · rw [if_pos z, if_pos (by simp [z.1, z.2])]
  · rw [if_neg z, if_neg (by simpa using z)]
    by_cases m : d = -9223372036854775808
    · have c0 : c < 0 := by unfold fits at *; omega
      have e : mx 0 (-1 - c) = far c d := by
        unfold far
        have d0 : ¬ d > 0 := by omega
        have m1 := mx_spec 0 (-1 - c); have m2 := mx_spec (-1 - c) 0
        rw [if_pos c0, if_neg d0]
        omega
      rw [if_pos m, if_pos c0, e, wn, r1, r2]
    · have w : wrap64 (d - 1) = d - 1 := wr (by unfold fits at *; omega)
      rw [if_neg m, w]
      by_cases c0 : c < 0
      · have e : mx (mx 0 (d - 1)) (-1 - c) = far c d := by
          unfold far
          rw [if_pos c0]
          have m1 := mx_spec 0 (d - 1); have m2 := mx_spec (mx 0 (d - 1)) (-1 - c); have m3 := mx_spec (-1 - c) (if d > 0 then d - 1 else 0)
          by_cases d0 : d > 0
          · rw [if_pos d0] at *; omega
          · rw [if_neg d0] at *; omega
        rw [if_pos c0, e, wn, r1, r2]
      · have e : mx 0 (d - 1) = far c d := by
          unfold far
          rw [if_neg c0]
          have m1 := mx_spec 0 (d - 1); have m3 := mx_spec 0 (if d > 0 then d - 1 else 0)
          by_cases d0 : d > 0
          · rw [if_pos d0] at *
          · rw [if_neg d0] at *; omega
        rw [if_neg c0, e, wn, r1, r2]
theorem above_val (a b : Int) : span_Span_above.f a b = some (decide (a ≥ 0)) := rfl
theorem below_val (a b : Int) : span_Span_below.f a b = some (decide (b < 0)) := rfl
theorem two9 (k : Nat) (a b c d : Int) : span_both.f (k + 1) a b c d = some (andV a b c d) := by
  unfold span_both.f andV
  simp only [span_both.j0, above_val, below_val, bs]
  by_cases a0 : a ≥ 0 <;> by_cases c0 : c ≥ 0 <;> by_cases b0 : b < 0 <;> by_cases d0 : d < 0 <;> simp [a0, c0, b0, d0]
theorem turned_val {a b : Int} (ha : fits a) (hb : fits b) : span_Span_turned.f a b = some (-1 - b, -1 - a) := by
  unfold span_Span_turned.f
  rw [xor_m1 ha, xor_m1 hb]
theorem fits_not {a : Int} (h : fits a) : fits (-1 - a) := by unfold fits at *; omega
theorem fits_mx {a b : Int} (h : fits a) (g : fits b) : fits (mx a b) := by unfold mx; split <;> assumption
theorem fits_mn {a b : Int} (h : fits a) (g : fits b) : fits (mn a b) := by unfold mn; split <;> assumption
theorem e1 (k : Nat) {a b c d : Int} (hb : fits b) (hd : fits d) (a0 : a ≥ 0) (c0 : c ≥ 0) (b0 : b ≥ 0) : span_either.f (k + 3) a b c d = some (0, ones0 (mx b d)) := by
  have m := mx_spec b d
  have f := fits_mx hb hd
  rw [span_either.f, above_val, bs, if_pos (decide_eq_true a0), above_val, bs, decide_eq_true c0, span_either.j0, if_pos rfl, ones_val k (by omega) f.2, bs]
theorem two10 (k : Nat) {a b c d : Int} (ha : fits a) (hb : fits b) (hc : fits c) (hd : fits d) (hab : a ≤ b) (hcd : c ≤ d) : span_either.f (k + 8) a b c d = some (xorV a b c d) := by
  unfold xorV
  by_cases g1 : a ≥ 0 ∧ c ≥ 0
  · rw [if_pos g1]; exact e1 (k + 5) hb hd g1.1 g1.2 (by omega)
  rw [if_neg g1]
  have st : span_either.f (k + 8) a b c d = span_either.j0 (k + 7) false a b c d := by
    rw [span_either.f, above_val, bs]
    by_cases a0 : a ≥ 0
    · rw [if_pos (decide_eq_true a0), above_val, bs, decide_eq_false (fun h => g1 ⟨a0, h⟩)]
    · rw [if_neg (by simp only [decide_eq_true_eq]; exact a0)]
  rw [st, span_either.j0, if_neg Bool.false_ne_true, below_val, bs]
  by_cases g2 : b < 0 ∧ d < 0
  · rw [if_pos g2, if_pos (decide_eq_true g2.1), below_val, bs, decide_eq_true g2.2, span_either.j1, if_pos rfl, turned_val ha hb, bs, turned_val hc hd, bs, e1 (k + 2) (fits_not ha) (fits_not hc) (by omega) (by omega) (by omega), bs]
  rw [if_neg g2]
  have st1 : (if decide (b < 0) = true then (span_Span_below.f c d).bind (fun t194 => span_either.j1 (k + 6) t194 a b c d) else span_either.j1 (k + 6) false a b c d) = span_either.j1 (k + 6) false a b c d := by
    by_cases b0 : b < 0
    · rw [if_pos (decide_eq_true b0), below_val, bs, decide_eq_false (fun h => g2 ⟨b0, h⟩)]
    · rw [if_neg (by simp only [decide_eq_true_eq]; exact b0)]
  rw [st1, span_either.j1, if_neg Bool.false_ne_true, below_val, bs]
  by_cases g3 : b < 0 ∧ c ≥ 0
  · have m := mx_spec (-1 - a) d
    have o1 := ones_ge (mx (-1 - a) d)
    have o2 := ones_fits (fits_mx (fits_not ha) hd)
    rw [if_pos g3, if_pos (decide_eq_true g3.1), above_val, bs, decide_eq_true g3.2, span_either.j2, if_pos rfl, turned_val ha hb, bs, e1 (k + 1) (fits_not ha) hd (by omega) g3.2 (by omega), bs, turned_val (by unfold fits; omega) (by unfold fits; omega), bs]
    rfl
  rw [if_neg g3]
  have st2 : (if decide (b < 0) = true then (span_Span_above.f c d).bind (fun t202 => span_either.j2 (k + 5) t202 a b c d) else span_either.j2 (k + 5) false a b c d) = span_either.j2 (k + 5) false a b c d := by
    by_cases b0 : b < 0
    · rw [if_pos (decide_eq_true b0), above_val, bs, decide_eq_false (fun h => g3 ⟨b0, h⟩)]
    · rw [if_neg (by simp only [decide_eq_true_eq]; exact b0)]
  rw [st2, span_either.j2, if_neg Bool.false_ne_true, above_val, bs]
  by_cases g4 : a ≥ 0 ∧ d < 0
  · have o1 := ones_ge (mx b (-1 - c))
    have o2 := ones_fits (fits_mx hb (fits_not hc))
    rw [if_pos g4, if_pos (decide_eq_true g4.1), below_val, bs, decide_eq_true g4.2, span_either.j3, if_pos rfl, turned_val hc hd, bs, e1 k hb (fits_not hc) g4.1 (by omega) (by omega), bs, turned_val (by unfold fits; omega) (by unfold fits; omega), bs]
    rfl
  rw [if_neg g4]
  have st3 : (if decide (a ≥ 0) = true then (span_Span_below.f c d).bind (fun t210 => span_either.j3 (k + 4) t210 a b c d) else span_either.j3 (k + 4) false a b c d) = span_either.j3 (k + 4) false a b c d := by
    by_cases a0 : a ≥ 0
    · rw [if_pos (decide_eq_true a0), below_val, bs, decide_eq_false (fun h => g4 ⟨a0, h⟩)]
    · rw [if_neg (by simp only [decide_eq_true_eq]; exact a0)]
  rw [st3, span_either.j3, if_neg Bool.false_ne_true]
  rfl
theorem truth_val (p q : Bool) : span_truth.f p q = some (if p = true then (1, 1) else if q = true then (0, 0) else (0, 1)) := by
  unfold span_truth.f
  cases p <;> cases q <;> rfl
/-- All operations of two spans. -/
theorem two_val (k : Nat) (op : Int) {a b c d : Int} (ha : fits a) (hb : fits b) (hc : fits c) (hd : fits d) (hab : a ≤ b) (hcd : c ≤ d) : span_Two.f (k + 10) op a b c d = some (twoV op a b c d) := by
  unfold twoV
  by_cases o4 : op = 4
  · subst o4; rw [if_pos rfl]; exact two4 _ ha hb hc hd
  rw [if_neg o4]
  by_cases o5 : op = 5
  · subst o5; rw [if_pos rfl]; exact two5 _ ha hb hc hd
  rw [if_neg o5]
  by_cases o6 : op = 6
  · subst o6; rw [if_pos rfl]; exact two6 (k + 7) ha hb hc hd
  rw [if_neg o6]
  unfold span_Two.f
  rw [if_neg o4, if_neg o5, if_neg o6]
  by_cases o7 : op = 7
  · rw [if_pos o7, if_pos o7, two7 k ha hb hc hd hab hcd, bs]
  rw [if_neg o7, if_neg o7]
  by_cases o8 : op = 8
  · rw [if_pos o8, if_pos o8, two8 ha hb hc hd hcd, bs]
  rw [if_neg o8, if_neg o8]
  by_cases o9 : op = 9
  · rw [if_pos o9, if_pos o9, two9 (k + 9), bs]
  rw [if_neg o9, if_neg o9]
  by_cases o10 : op = 10
  · rw [if_pos o10, if_pos o10, two10 (k + 2) ha hb hc hd hab hcd, bs]
  rw [if_neg o10, if_neg o10]
  by_cases o11 : op = 11
  · rw [if_pos o11, if_pos o11, truth_val, bs]
    by_cases p : b < c <;> by_cases q : a ≥ d <;> simp [p, q]
  rw [if_neg o11, if_neg o11]
  by_cases o12 : op = 12
  · rw [if_pos o12, if_pos o12, Sp.meet_val, bs, show span_Span_one.f a b = some (a == b) from rfl, bs, truth_val, truth_val, bs, bs]
    have m1 := mx_spec a c; have m2 := mn_spec b d
    by_cases p : mx a c > mn b d
    · have n : ¬ (a = b ∧ a = c ∧ b = d) := by omega
      have q : b < c ∨ d < a := by omega
      rw [if_pos p, if_neg n, if_pos q]
      by_cases u : a = b
      · have v : ¬ (a = c ∧ b = d) := fun h => n ⟨u, h⟩
        rw [if_pos (beq_iff_eq.mpr u), if_neg (by simpa using v)]; rfl
      · rw [if_neg (by simpa using u)]; rfl
    · have q : ¬ (b < c ∨ d < a) := by omega
      rw [if_neg p, if_neg q]
      by_cases u : a = b
      · rw [if_pos (beq_iff_eq.mpr u)]
        by_cases v : a = c ∧ b = d
        · rw [if_pos (by simpa using v), if_pos ⟨u, v⟩]
        · have n : ¬ (a = b ∧ a = c ∧ b = d) := fun h => v h.2
          rw [if_neg (by simpa using v), if_neg n]; rfl
      · have n : ¬ (a = b ∧ a = c ∧ b = d) := fun h => u h.1
        rw [if_neg (by simpa using u), if_neg n]; rfl
  rw [if_neg o12, if_neg o12, all_val, bs]
  rfl
/-- What a span set right is. -/
theorem fix_ok {a b : Int} (ha : fits a) (hb : fits b) : ∃ p q, avermentref10_Fix.f a b = some (p, q) ∧ fits p ∧ fits q ∧ p ≤ q ∧ (p = a ∧ q = b ∨ p = b ∧ q = a) := by
  rw [Sp.fix_val]
  by_cases h : a > b
  · rw [if_pos h]; exact ⟨_, _, rfl, hb, ha, by omega, .inr ⟨rfl, rfl⟩⟩
  · rw [if_neg h]; exact ⟨_, _, rfl, ha, hb, by omega, .inl ⟨rfl, rfl⟩⟩
end Go.Proofs.Ytpacmhhaabhdjaa.Sv
