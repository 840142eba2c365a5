/- What the document makes of two spans is the same plain value: quotients, rests, bits, all. No condition. -/
import Derived.Test.YtpacmhhaabhdjaaSmR

set_option linter.unusedSimpArgs false
set_option linter.unusedVariables false
namespace Go.Proofs.Ytpacmhhaabhdjaa.Sv
open Go.RowKit Go.Proofs.Ytpacmhhaabhdjaa.SM Go.Proofs.Ytpacmhhaabhdjaa.Sn Go.Proofs.YtpacmhhaabhdjaaW.PrintWords Go.Proofs.YtpacmhhaabhdjaaW.PrintLast Go.Proofs.YtpacmhhaabhdjaaW.PrintMore
theorem quos_len (a b : Int) : ∀ l, (quos a b l).length = 2 * l.length
  | [] => rfl
  | _ :: r => by rw [quos, List.length_cons, List.length_cons, quos_len a b r, List.length_cons]; omega
theorem rdiv_loop (a b : Int) : ∀ (rest pre es acc : List Int) (i : Int) (k : Nat), es = pre ++ rest → i = (pre.length : Int) → es.length ≤ 10 → acc.length + 2 * rest.length ≤ 20 → acc ++ quos a b rest ≠ [] → rest.length + 30 ≤ k →
    (∀ e ∈ rest, e ≠ 0 ∧ wrap64 (a.tdiv e) = a.tdiv e ∧ wrap64 (b.tdiv e) = b.tdiv e) →
    avermentref10_div.l0 k es acc i a b = some ((hull (acc ++ quos a b rest)).1, (hull (acc ++ quos a b rest)).2, true)
  | [], pre, es, acc, i, k, e, hi, hl, ha, ne, hk, _ => by
    obtain ⟨k, rfl⟩ : ∃ q, k = q + 1 := ⟨k - 1, by simp at hk; omega⟩
    have n : es.length = pre.length := by rw [e, List.append_nil]
    rw [quos, List.append_nil] at *
    obtain ⟨x, r, rfl⟩ : ∃ x r, acc = x :: r := by cases acc with | nil => exact absurd rfl ne | cons x r => exact ⟨x, r, rfl⟩
    simp only [List.length_cons, List.length_nil] at ha hk
    rw [avermentref10_div.l0, if_neg (by omega), hull_ok k x r (by omega) (by omega), bs]
  | v :: rest, pre, es, acc, i, k, e, hi, hl, ha, ne, hk, hz => by
    simp only [List.length_cons] at ha hk
    obtain ⟨k, rfl⟩ : ∃ q, k = q + 1 := ⟨k - 1, by omega⟩
    have n : es.length = pre.length + rest.length + 1 := by rw [e, List.length_append, List.length_cons]; omega
    have w : wrap64 (i + 1) = i + 1 := by unfold wrap64; omega
    obtain ⟨z0, z1, z2⟩ := hz v (List.mem_cons_self ..)
    have rv : rd es i = v := by rw [e]; exact rd_mid pre rest v i hi
    rw [avermentref10_div.l0, if_pos (by omega), if_pos (by omega), rv, if_neg z0, bs, z1, z2, if_pos (by simp only [List.length_cons, List.length_nil]; omega), w]
    have g := rdiv_loop a b rest (pre ++ [v]) es (acc ++ [a.tdiv v, b.tdiv v]) (i + 1) k (by rw [e]; simp) (by simp; omega) hl (by simp only [List.length_append, List.length_cons, List.length_nil]; omega) (by simp) (by omega) (fun e he => hz e (List.mem_cons_of_mem _ he))
    rw [g, quos]
    simp only [List.append_assoc, List.cons_append, List.nil_append]
theorem r7 (k : Nat) {a b c d : Int} (ha : fits a) (hb : fits b) (hc : fits c) (hd : fits d) (hab : a ≤ b) (hcd : c ≤ d) : avermentref10_div.f (k + 40) a b c d = some (divV a b c d) := by
  have j0 : ∀ l : List Int, l.length ≤ 2 → avermentref10_div.j0 (k + 40) l a b c d = avermentref10_div.j1 (k + 39) (l ++ (if d > 0 then [mx c 1, d] else [])) a b c d := fun l hl => by
    rw [avermentref10_div.j0]
    by_cases p : d > 0
    · rw [if_pos p, if_pos p, bs, if_pos (by simp only [List.length_cons, List.length_nil]; omega)]
    · rw [if_neg p, if_neg p, List.append_nil]
  have st : avermentref10_div.f (k + 40) a b c d = avermentref10_div.j1 (k + 39) (eds c d) a b c d := by
    unfold avermentref10_div.f eds
    by_cases n : c < 0
    · rw [if_pos n, if_pos n, bs, if_pos (by simp), List.nil_append, j0 _ (by simp)]
    · rw [if_neg n, if_neg n, List.nil_append, j0 _ (by simp), List.nil_append]
  rw [st, avermentref10_div.j1]
  unfold divV
  have len : (eds c d).length ≤ 4 := by unfold eds; split <;> split <;> simp
  by_cases em : eds c d = []
  · rw [if_pos em, em, if_pos (by rfl)]
  rw [if_neg em, if_neg (by have : (eds c d).length ≠ 0 := fun h => em (List.length_eq_zero_iff.mp h); omega), Sp.rhas_val]
  have yes : avermentref10_div.j2 (k + 38) (eds c d) true a b = some any := by rw [avermentref10_div.j2, if_pos rfl]; rfl
  by_cases full : a = -9223372036854775808 ∧ c ≤ -1 ∧ -1 ≤ d
  · rw [if_pos full.1, bs, if_pos full, decide_eq_true full.2.1, decide_eq_true full.2.2]
    exact yes
  · have fd : ∀ x e, a ≤ x → fits x → e ∈ eds c d → wrap64 (x.tdiv e) = x.tdiv e := fun x e hx fx he => by
      obtain ⟨-, h1, h2⟩ := ne_of_mem_eds hcd he
      refine wr (tdiv_fits fx (fun q => full ?_))
      unfold fits at *
      omega
    have no : avermentref10_div.j2 (k + 38) (eds c d) false a b = some ((hull (quos a b (eds c d))).1, (hull (quos a b (eds c d))).2, true) := by
      rw [avermentref10_div.j2, if_neg Bool.false_ne_true]
      refine rdiv_loop a b (eds c d) [] (eds c d) [] 0 (k + 37) rfl rfl (by omega) (by simp only [List.length_nil]; omega) ?_ (by omega) (fun e he => ⟨(ne_of_mem_eds hcd he).1, fd a e (Int.le_refl _) ha he, fd b e hab hb he⟩)
      intro h
      have := quos_len a b (eds c d)
      rw [List.nil_append] at h
      rw [h, List.length_nil] at this
      exact em (List.length_eq_zero_iff.mp (by omega))
    rw [if_neg full]
    by_cases m : a = -9223372036854775808
    · rw [if_pos m, bs]
      have : (decide (c ≤ -1) && decide (-1 ≤ d)) = false := by
        have : ¬ (c ≤ -1 ∧ -1 ≤ d) := fun q => full ⟨m, q⟩
        simpa using this
      rw [this]; exact no
    · rw [if_neg m]; exact no
theorem rfar {c d : Int} (hc : fits c) (hd : fits d) : avermentref10_far.f c d = some (far c d) := by
  unfold avermentref10_far.f far
  by_cases n : c < 0
  · have w1 : wrap64 (c + 1) = c + 1 := wr (by unfold fits at *; omega)
    have w2 : wrap64 (-(c + 1)) = -1 - c := by rw [wr (by unfold fits at *; omega)]; omega
    rw [if_pos n, if_pos n, w1, w2]
    by_cases p : d > 0
    · rw [if_pos p, if_pos p, wr (by unfold fits at *; omega)]
    · rw [if_neg p, if_neg p]
      have := mx_spec (-1 - c) 0
      congr 1
      omega
  · rw [if_neg n, if_neg n]
    by_cases p : d > 0
    · rw [if_pos p, if_pos p, wr (by unfold fits at *; omega)]
    · rw [if_neg p, if_neg p]; rfl
theorem r8 (k : Nat) {a b c d : Int} (hc : fits c) (hd : fits d) : avermentref10_rem.f (k + 1) a b c d = some (remV a b c d) := by
  have fg := far_ge c d
  have ff := far_fits hc hd
  have wn : wrap64 (-far c d) = -far c d := wr (by unfold fits; omega)
  have no : ¬ (c = 0 ∧ d = 0) → avermentref10_rem.j0 (k + 1) false a b c d = some (remV a b c d) := fun z => by
    rw [avermentref10_rem.j0, if_neg Bool.false_ne_true, rfar hc hd, bs, wn]
    unfold remV
    rw [if_neg z]
    by_cases p : a < 0 <;> by_cases q : b > 0 <;> simp only [p, q, if_true, if_false]
  unfold avermentref10_rem.f
  by_cases z : c = 0
  · rw [if_pos z]
    by_cases y : d = 0
    · rw [beq_iff_eq.mpr y, avermentref10_rem.j0, if_pos rfl]
      unfold remV
      rw [if_pos ⟨z, y⟩]
    · rw [beq_eq_false_iff_ne.mpr y]; exact no (fun h => y h.2)
  · rw [if_neg z]; exact no (fun h => z h.1)
theorem r9 (k : Nat) (a b c d : Int) : avermentref10_and.f (k + 1) a b c d = some (andV a b c d) := by
  unfold avermentref10_and.f andV
  simp only [avermentref10_and.j0]
  by_cases a0 : a ≥ 0 <;> by_cases c0 : c ≥ 0 <;> by_cases b0 : b < 0 <;> by_cases d0 : d < 0 <;> simp [a0, c0, b0, d0]
theorem rones_loop {n : Int} (h0 : 0 ≤ n) (h1 : n ≤ 9223372036854775807) : ∀ (m j : Nat) (k : Nat), j + m = bl n.toNat → m + 1 ≤ k → avermentref10_Ones.l0 k n (((2 ^ j : Nat) : Int) - 1) = some (ones0 n)
  | 0, j, k, e, hk => by
    obtain ⟨k, rfl⟩ : ∃ q, k = q + 1 := ⟨k - 1, by omega⟩
    have e : j = bl n.toNat := by omega
    have := le_ones n
    subst e
    rw [avermentref10_Ones.l0, if_neg (by unfold ones0 at this; omega)]
    rfl
  | m + 1, j, k, e, hk => by
    obtain ⟨k, rfl⟩ : ∃ q, k = q + 1 := ⟨k - 1, by omega⟩
    have g : 2 ^ j ≤ n.toNat := bl_ge (by omega)
    have b63 : bl n.toNat ≤ 63 := bl_le.mpr (by omega)
    have p : 2 ^ (j + 1) ≤ 2 ^ 63 := Nat.pow_le_pow_right (by decide) (by omega)
    have s : 2 ^ (j + 1) = 2 * 2 ^ j := by rw [Nat.pow_succ, Nat.mul_comm]
    have p0 : 0 < 2 ^ j := Nat.pow_pos (by decide)
    have w : wrap64 ((wrap64 (2 * (((2 ^ j : Nat) : Int) - 1))) + 1) = ((2 ^ (j + 1) : Nat) : Int) - 1 := by
      rw [s]
      generalize 2 ^ j = q at *
      unfold wrap64
      omega
    rw [avermentref10_Ones.l0, if_pos (by omega), w]
    exact rones_loop h0 h1 m (j + 1) k (by omega) (by omega)
theorem rones (k : Nat) {n : Int} (h0 : 0 ≤ n) (h1 : n ≤ 9223372036854775807) (hk : 70 ≤ k) : avermentref10_Ones.f k n = some (ones0 n) := by
  have b63 : bl n.toNat ≤ 63 := bl_le.mpr (by omega)
  exact rones_loop h0 h1 (bl n.toNat) 0 k (by omega) (by omega)
end Go.Proofs.Ytpacmhhaabhdjaa.Sv
