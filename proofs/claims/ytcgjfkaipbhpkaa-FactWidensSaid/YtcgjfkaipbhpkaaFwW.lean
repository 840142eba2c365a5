/- Widening a Value comes to an end: each part moves but so often. No condition. -/
import Derived.Test.YtcgjfkaipbhpkaaFW6
import Derived.Test.YtcgjfkaipbhpkaaSpF

set_option linter.unusedSimpArgs false
set_option linter.unusedVariables false
namespace Go.Proofs.Ytcgjfkaipbhpkaa.Fw
open Go.RowKit Go.Proofs.Ytcgjfkaipbhpkaa.FW Go.Proofs.Ytcgjfkaipbhpkaa.Sn Go.Proofs.YtcgjfkaipbhpkaaW.PrintWords Go.Proofs.YtcgjfkaipbhpkaaW.PrintLast Go.Proofs.YtcgjfkaipbhpkaaW.PrintMore
/-- How many digits are one, of three. -/
def pc (n : Nat) : Nat := n % 2 + n / 2 % 2 + n / 4 % 2
theorem sj : ∀ i j : Fin 8, Go.bits .and .i64 (Go.bits .or .i64 ((i.val : Nat) : Int) ((j.val : Nat) : Int)) 7 = ((i.val ||| j.val : Nat) : Int) := by decide +kernel
theorem pj : ∀ i j : Fin 4, Go.bits .and .i64 (Go.bits .or .i64 ((i.val : Nat) : Int) ((j.val : Nat) : Int)) 3 = ((i.val ||| j.val : Nat) : Int) := by decide +kernel
theorem sw : ∀ i j : Fin 8, (Go.bits .and .i64 (Go.bits .andNot .i64 ((i.val : Nat) : Int) ((i.val ||| j.val : Nat) : Int)) 7 == 0) = true ∧ (Go.bits .and .i64 (Go.bits .andNot .i64 ((j.val : Nat) : Int) ((i.val ||| j.val : Nat) : Int)) 7 == 0) = true := by decide +kernel
theorem pw : ∀ i j : Fin 4, (Go.bits .and .i64 (Go.bits .andNot .i64 ((i.val : Nat) : Int) ((i.val ||| j.val : Nat) : Int)) 3 == 0) = true ∧ (Go.bits .and .i64 (Go.bits .andNot .i64 ((j.val : Nat) : Int) ((i.val ||| j.val : Nat) : Int)) 3 == 0) = true := by decide +kernel
theorem sm : ∀ i j : Fin 8, (i.val ||| j.val) < 8 ∧ (1 ≤ i.val → 1 ≤ (i.val ||| j.val)) ∧ ((i.val ||| j.val) = i.val ∨ pc i.val + 1 ≤ pc (i.val ||| j.val)) ∧ pc i.val ≤ 3 ∧ (1 ≤ i.val → 1 ≤ pc i.val) := by decide +kernel
theorem pm : ∀ i j : Fin 4, (i.val ||| j.val) < 4 ∧ (1 ≤ i.val → 1 ≤ (i.val ||| j.val)) ∧ ((i.val ||| j.val) = i.val ∨ pc i.val + 1 ≤ pc (i.val ||| j.val)) ∧ pc i.val ≤ 2 ∧ (1 ≤ i.val → 1 ≤ pc i.val) := by decide +kernel
/-- How many ends stand at the edge. -/
def edge (lo hi : Int) : Int := (if lo = -9223372036854775808 then 1 else 0) + (if hi = 9223372036854775807 then 1 else 0)
theorem edge_le (lo hi : Int) : 0 ≤ edge lo hi ∧ edge lo hi ≤ 2 := by unfold edge; split <;> split <;> omega
theorem known_step (b : Bool) (n : Int) (c : Bool) (m : Int) (hb : b = false → n = 0) : ∃ b' n', known_Join.f b n c m = some (b', n') ∧ (b' = false → n' = 0) ∧ known_Within.f b n b' n' = some true ∧ known_Within.f c m b' n' = some true ∧ ((b' = b ∧ n' = n) ∨ (b = true ∧ b' = false)) := by
  cases b with
  | false =>
    have e := hb rfl
    subst e
    refine ⟨false, 0, rfl, fun _ => rfl, rfl, rfl, .inl ⟨rfl, rfl⟩⟩
  | true =>
    have i1 : known_Known_is.f true n n = some true := by unfold known_Known_is.f; simp
    by_cases q : c = true ∧ m = n
    · obtain ⟨rfl, rfl⟩ := q
      refine ⟨true, m, ?_, (fun h => by cases h), ?_, ?_, .inl ⟨rfl, rfl⟩⟩
      · unfold known_Join.f; rw [if_pos rfl, i1, bs, if_pos rfl]
      · unfold known_Within.f; rw [if_pos rfl, i1, bs]
      · unfold known_Within.f; rw [if_pos rfl, i1, bs]
    · have i2 : known_Known_is.f c m n = some false := by
        unfold known_Known_is.f
        cases c with
        | false => rfl
        | true => have : m ≠ n := fun h => q ⟨rfl, h⟩
                  simp [this]
      refine ⟨false, 0, ?_, fun _ => rfl, rfl, rfl, .inr ⟨rfl, rfl⟩⟩
      unfold known_Join.f
      rw [if_pos rfl, i2, bs, if_neg Bool.false_ne_true]
      rfl
theorem within_some (a b c d : Int) : span_Within.f a b c d = some (decide (c ≤ a) && decide (b ≤ d)) := by
  unfold span_Within.f
  by_cases h : c ≤ a <;> simp [h]
theorem widen_some (a b c d : Int) : span_Widen.f a b c d = some (if c < a then -9223372036854775808 else a, if d > b then 9223372036854775807 else b) := by
  unfold span_Widen.f
  by_cases h : c < a <;> by_cases g : d > b <;> simp [h, g]
theorem span_step {lo hi p q : Int} (f0 : fits lo) (f1 : fits hi) (p0 : fits p) (q0 : fits q) : ∃ lo' hi', span_Widen.f lo hi (mn lo p) (mx hi q) = some (lo', hi') ∧ fits lo' ∧ fits hi' ∧ span_Within.f lo hi lo' hi' = some true ∧ span_Within.f p q lo' hi' = some true ∧ ((lo' = lo ∧ hi' = hi) ∨ edge lo hi + 1 ≤ edge lo' hi') := by
  have m1 := mn_spec lo p; have m2 := mx_spec hi q
  refine ⟨_, _, widen_some .., ?_⟩
  obtain ⟨lo', hlo⟩ : ∃ z, z = (if mn lo p < lo then (-9223372036854775808 : Int) else lo) := ⟨_, rfl⟩
  obtain ⟨hi', hhi⟩ : ∃ z, z = (if mx hi q > hi then (9223372036854775807 : Int) else hi) := ⟨_, rfl⟩
  rw [← hlo, ← hhi, within_some, within_some]
  have a1 : lo' ≤ lo ∧ lo' ≤ p ∧ fits lo' ∧ (lo' = lo ∨ lo' = -9223372036854775808 ∧ lo ≠ -9223372036854775808) := by
    unfold fits at *
    by_cases h : mn lo p < lo
    · rw [if_pos h] at hlo; omega
    · rw [if_neg h] at hlo; omega
  have a2 : hi ≤ hi' ∧ q ≤ hi' ∧ fits hi' ∧ (hi' = hi ∨ hi' = 9223372036854775807 ∧ hi ≠ 9223372036854775807) := by
    unfold fits at *
    by_cases h : mx hi q > hi
    · rw [if_pos h] at hhi; omega
    · rw [if_neg h] at hhi; omega
  refine ⟨a1.2.2.1, a2.2.2.1, ?_, ?_, ?_⟩
  · rw [decide_eq_true a1.1, decide_eq_true a2.1]; rfl
  · rw [decide_eq_true a1.2.1, decide_eq_true a2.2.1]; rfl
  · obtain ⟨-, -, -, b1⟩ := a1
    obtain ⟨-, -, -, b2⟩ := a2
    rcases b1 with b1 | ⟨b1, b1'⟩
    · rcases b2 with b2 | ⟨b2, b2'⟩
      · exact .inl ⟨b1, b2⟩
      · right; unfold edge; rw [b1, if_pos b2, if_neg b2']; omega
    · rcases b2 with b2 | ⟨b2, b2'⟩
      · right; unfold edge; rw [b2, if_pos b1, if_neg b1']; omega
      · right; unfold edge; rw [if_pos b1, if_pos b2, if_neg b1', if_neg b2']; decide
theorem fix_step (k : Nat) (s : Int) (b : Bool) (n lo hi p : Int) (hs : fits s) (h0 : fits lo) (h1 : fits hi) (hp : fits p) :
    ∃ (i : Fin 8) (b' : Bool) (n' lo' hi' : Int) (j : Fin 4), avermentref12_Fix.f (k + 1) s b n lo hi p = some (((i.val : Nat) : Int), b', n', lo', hi', ((j.val : Nat) : Int)) ∧ 1 ≤ i.val ∧ 1 ≤ j.val ∧ (b' = false → n' = 0) ∧ fits lo' ∧ fits hi' := by
  have z := and_r hs (show fits 7 by unfold fits; omega) (by decide)
  have y := and_r hp (show fits 3 by unfold fits; omega) (by decide)
  obtain ⟨i, hi0, hi1⟩ : ∃ i : Fin 8, (if Go.bits .and .i64 s 7 = 0 then (7 : Int) else Go.bits .and .i64 s 7) = ((i.val : Nat) : Int) ∧ 1 ≤ i.val := by
    by_cases e : Go.bits .and .i64 s 7 = 0
    · rw [if_pos e]; exact ⟨7, rfl, by decide⟩
    · rw [if_neg e]; exact ⟨⟨(Go.bits .and .i64 s 7).toNat, by omega⟩, by show _ = (((Go.bits .and .i64 s 7).toNat : Nat) : Int); omega, by show 1 ≤ (Go.bits .and .i64 s 7).toNat; omega⟩
  obtain ⟨j, hj0, hj1⟩ : ∃ j : Fin 4, (if Go.bits .and .i64 p 3 = 0 then (3 : Int) else Go.bits .and .i64 p 3) = ((j.val : Nat) : Int) ∧ 1 ≤ j.val := by
    by_cases e : Go.bits .and .i64 p 3 = 0
    · rw [if_pos e]; exact ⟨3, rfl, by decide⟩
    · rw [if_neg e]; exact ⟨⟨(Go.bits .and .i64 p 3).toNat, by omega⟩, by show _ = (((Go.bits .and .i64 p 3).toNat : Nat) : Int); omega, by show 1 ≤ (Go.bits .and .i64 p 3).toNat; omega⟩
  obtain ⟨b', n', hc, hz⟩ : ∃ b' n', avermentref09_Clean.f b n = some (b', n') ∧ (b' = false → n' = 0) := by
    cases b
    · exact ⟨_, _, rfl, fun _ => rfl⟩
    · exact ⟨_, _, rfl, fun h => by cases h⟩
  obtain ⟨u, v, hf, hu, hv⟩ : ∃ u v, avermentref10_Fix.f lo hi = some (u, v) ∧ fits u ∧ fits v := by
    unfold avermentref10_Fix.f
    split
    · exact ⟨_, _, rfl, h1, h0⟩
    · exact ⟨_, _, rfl, h0, h1⟩
  refine ⟨i, b', n', u, v, j, ?_, hi1, hj1, hz, hu, hv⟩
  have j0 : ∀ t, avermentref12_Fix.j0 (k + 1) t b n lo hi p = some (t, b', n', u, v, ((j.val : Nat) : Int)) := fun t => by
    rw [avermentref12_Fix.j0, hc, bs, hf, bs, ← hj0]
    split <;> rfl
  unfold avermentref12_Fix.f
  rw [j0, j0, ← hi0]
  split <;> rfl
/-- How much a Value tells is open: each change makes it more. -/
def M (i : Nat) (b : Bool) (lo hi : Int) (j : Nat) : Int := (pc i : Int) + (pc j : Int) + (if b = true then 0 else 1) + edge lo hi
theorem fact_step (i i2 : Fin 8) (j j2 : Fin 4) (b c : Bool) (n m lo hi p q : Int) (hi1 : 1 ≤ i.val) (hj1 : 1 ≤ j.val) (hb : b = false → n = 0) (f0 : fits lo) (f1 : fits hi) (p0 : fits p) (q0 : fits q) :
    ∃ (i' : Fin 8) (b' : Bool) (n' lo' hi' : Int) (j' : Fin 4), fact_Widen.f ((i.val : Nat) : Int) b n lo hi ((j.val : Nat) : Int) ((i2.val : Nat) : Int) c m p q ((j2.val : Nat) : Int) = some (((i'.val : Nat) : Int), b', n', lo', hi', ((j'.val : Nat) : Int)) ∧
      fact_Within.f ((i.val : Nat) : Int) b n lo hi ((j.val : Nat) : Int) ((i'.val : Nat) : Int) b' n' lo' hi' ((j'.val : Nat) : Int) = some true ∧ fact_Within.f ((i2.val : Nat) : Int) c m p q ((j2.val : Nat) : Int) ((i'.val : Nat) : Int) b' n' lo' hi' ((j'.val : Nat) : Int) = some true ∧
      1 ≤ i'.val ∧ 1 ≤ j'.val ∧ (b' = false → n' = 0) ∧ fits lo' ∧ fits hi' ∧ ((i' = i ∧ b' = b ∧ n' = n ∧ lo' = lo ∧ hi' = hi ∧ j' = j) ∨ M i.val b lo hi j.val + 1 ≤ M i'.val b' lo' hi' j'.val) := by
  obtain ⟨b', n', k1, k2, k3, k4, k5⟩ := known_step b n c m hb
  obtain ⟨lo', hi', s1, s2, s3, s4, s5, s6⟩ := span_step f0 f1 p0 q0
  obtain ⟨a1, a2, a3, a4, a5⟩ := sm i i2
  obtain ⟨d1, d2, d3, d4, d5⟩ := pm j j2
  have sw1 := sw i i2; have pw1 := pw j j2
  refine ⟨⟨i.val ||| i2.val, a1⟩, b', n', lo', hi', ⟨j.val ||| j2.val, d1⟩, ?_, ?_, ?_, a2 hi1, d2 hj1, k2, s2, s3, ?_⟩
  · unfold fact_Widen.f fact_Join.f sign_Join.f parity_Join.f
    rw [bs, k1, bs, show span_Join.f lo hi p q = some (mn lo p, mx hi q) from rfl, bs, bs, bs, s1, bs, sj, pj]
  · unfold fact_Within.f sign_Within.f parity_Within.f
    rw [bs, if_pos sw1.1, k3, bs, if_pos rfl, s4, bs, if_pos rfl, bs, pw1.1]
  · unfold fact_Within.f sign_Within.f parity_Within.f
    rw [bs, if_pos sw1.2, k4, bs, if_pos rfl, s5, bs, if_pos rfl, bs, pw1.2]
  · have kb : (b' = b ∧ n' = n) ∨ (if b = true then (0 : Int) else 1) + 1 ≤ (if b' = true then 0 else 1) := by
      rcases k5 with h | ⟨h, g⟩
      · exact .inl h
      · right; rw [h, g]; decide
    have kbm : (if b = true then (0 : Int) else 1) ≤ (if b' = true then 0 else 1) := by
      rcases k5 with ⟨h, _⟩ | ⟨h, g⟩
      · rw [h]; exact Int.le_refl _
      · rw [h, g]; decide
    have sm0 : edge lo hi ≤ edge lo' hi' := by
      rcases s6 with ⟨h, g⟩ | h
      · rw [h, g]; exact Int.le_refl _
      · omega
    have am : pc i.val ≤ pc (i.val ||| i2.val) := by
      rcases a3 with h | h
      · rw [h]; exact Nat.le_refl _
      · omega
    have dm : pc j.val ≤ pc (j.val ||| j2.val) := by
      rcases d3 with h | h
      · rw [h]; exact Nat.le_refl _
      · omega
    unfold M
    rcases a3 with a | a
    · rcases d3 with d | d
      · rcases kb with ⟨e1, e2⟩ | e
        · rcases s6 with ⟨g1, g2⟩ | g
          · exact .inl ⟨Fin.ext a, e1, e2, g1, g2, Fin.ext d⟩
          · right; show _ ≤ (pc (i.val ||| i2.val) : Int) + (pc (j.val ||| j2.val) : Int) + _ + _; omega
        · right; show _ ≤ (pc (i.val ||| i2.val) : Int) + (pc (j.val ||| j2.val) : Int) + _ + _; omega
      · right; show _ ≤ (pc (i.val ||| i2.val) : Int) + (pc (j.val ||| j2.val) : Int) + _ + _; omega
    · right; show _ ≤ (pc (i.val ||| i2.val) : Int) + (pc (j.val ||| j2.val) : Int) + _ + _; omega
theorem M_le (i : Fin 8) (j : Fin 4) (b : Bool) (lo hi : Int) : M i.val b lo hi j.val ≤ 8 := by
  have a := (sm i i).2.2.2.1; have d := (pm j j).2.2.2.1; have e := edge_le lo hi
  unfold M
  cases b <;> simp <;> omega
theorem M_ge (i : Fin 8) (j : Fin 4) (b : Bool) (lo hi : Int) (h : 1 ≤ i.val) (g : 1 ≤ j.val) : 2 ≤ M i.val b lo hi j.val := by
  have a := (sm i i).2.2.2.2 h; have d := (pm j j).2.2.2.2 g; have e := edge_le lo hi
  unfold M
  cases b <;> simp <;> omega
theorem told_ok : avermentlaw12_told.f = some true := by decide +kernel
theorem small_step (x : Int) (h0 : 0 ≤ x) (h1 : x ≤ 1000) : wrap64 (x + 1) = x + 1 := by unfold wrap64; omega
def fitsV (x : S27) : Prop := fits x.f0 ∧ fits x.f2.f0 ∧ fits x.f2.f1 ∧ fits x.f3
theorem rd_fits {l : List S27} (hl : ∀ x ∈ l, fitsV x) {i : Int} (h0 : 0 ≤ i) (h1 : i < (l.length : Int)) : fitsV (rd_T27 l i) := by
  unfold rd_T27
  have h : i.toNat < l.length := by omega
  rw [List.getD_eq_getElem?_getD, List.getElem?_eq_getElem h]
  exact hl _ (List.getElem_mem h)
theorem loop {l : List S27} (hl : ∀ x ∈ l, fitsV x) : ∀ (m : Nat) (x6 x7 : Int) (i : Fin 8) (b : Bool) (n lo hi : Int) (j : Fin 4), m ≤ 60 → x7 = 60 - m → 1 ≤ i.val → 1 ≤ j.val → (b = false → n = 0) → fits lo → fits hi → 0 ≤ x6 → x6 + 2 ≤ M i.val b lo hi j.val → ∀ k, 3 * m + 10 ≤ k →
    avermentlaw12_FactWidens.l0 k l x6 x7 ((i.val : Nat) : Int) b n lo hi ((j.val : Nat) : Int) = some true := by
  have stop : ∀ (x6 x7 : Int) (i : Fin 8) (b : Bool) (n lo hi : Int) (j : Fin 4) k, x6 + 2 ≤ M i.val b lo hi j.val → 5 ≤ k → avermentlaw12_FactWidens.j1 k l x6 x7 false ((i.val : Nat) : Int) b n lo hi ((j.val : Nat) : Int) = some true := by
    intro x6 x7 i b n lo hi j k h hk
    obtain ⟨k, rfl⟩ : ∃ q, k = q + 1 := ⟨k - 1, by omega⟩
    have := M_le i j b lo hi
    rw [avermentlaw12_FactWidens.j1, if_neg Bool.false_ne_true, told_ok, bs, if_pos rfl, decide_eq_true (by omega)]
  intro m
  induction m with
  | zero =>
    intro x6 x7 i b n lo hi j hm e i1 j1 hb f0 f1 g0 g1 k hk
    obtain ⟨k, rfl⟩ : ∃ q, k = q + 1 := ⟨k - 1, by omega⟩
    rw [avermentlaw12_FactWidens.l0, show decide (x7 < 60) = false from decide_eq_false (by omega)]
    split <;> exact stop _ _ _ _ _ _ _ _ _ g1 (by omega)
  | succ m ih =>
    intro x6 x7 i b n lo hi j hm e i1 j1 hb f0 f1 g0 g1 k hk
    obtain ⟨k, rfl⟩ : ∃ q, k = q + 3 := ⟨k - 3, by omega⟩
    rw [avermentlaw12_FactWidens.l0]
    by_cases hlen : x7 < (l.length : Int)
    · have h7 : 0 ≤ x7 := by omega
      obtain ⟨r0, r1, r2, r3⟩ := rd_fits hl h7 hlen
      obtain ⟨i2, c, w, p, q, j2, e1, -, -, -, p0, q0⟩ := fix_step k (rd_T27 l x7).f0 (rd_T27 l x7).f1.f0 (rd_T27 l x7).f1.f1 (rd_T27 l x7).f2.f0 (rd_T27 l x7).f2.f1 (rd_T27 l x7).f3 r0 r1 r2 r3
      obtain ⟨i', b', n', lo', hi', j', e2, e3, e4, i1', j1', hb', f0', f1', ch⟩ := fact_step i i2 j j2 b c n w lo hi p q i1 j1 hb f0 f1 p0 q0
      rw [if_pos hlen, show decide (x7 < 60) = true from decide_eq_true (by omega), avermentlaw12_FactWidens.j1, if_pos rfl, if_pos h7, if_pos hlen, e1, bs, show ∀ s b n lo hi p, avermentlaw12_To.f s b n lo hi p = some (s, b, n, lo, hi, p) from fun _ _ _ _ _ _ => rfl, bs, e2, bs, e3, bs, if_pos rfl, e4, bs, Bool.not_true, avermentlaw12_FactWidens.j2, if_neg Bool.false_ne_true, small_step x7 h7 (by omega)]
      rcases ch with ⟨rfl, rfl, rfl, rfl, rfl, rfl⟩ | ch
      · rw [if_neg (by simp)]
        exact ih _ _ _ _ _ _ _ _ (by omega) (by omega) i1 j1 hb f0 f1 g0 g1 k (by omega)
      · have top := M_le i' j' b' lo' hi'
        rw [small_step x6 g0 (by omega)]
        split
        · exact ih _ _ _ _ _ _ _ _ (by omega) (by omega) i1' j1' hb' f0' f1' (by omega) (by omega) k (by omega)
        · exact ih _ _ _ _ _ _ _ _ (by omega) (by omega) i1' j1' hb' f0' f1' g0 (by omega) k (by omega)
    · rw [if_neg hlen]
      exact stop _ _ _ _ _ _ _ _ _ g1 (by omega)
theorem widens {l : List S27} (hl : ∀ x ∈ l, fitsV x) (s : Int) (b : Bool) (n lo hi p : Int) (hs : fits s) (h0 : fits lo) (h1 : fits hi) (hp : fits p) : ∃ k, avermentlaw12_FactWidens.f k s b n lo hi p l = some true := by
  refine ⟨300, ?_⟩
  obtain ⟨i, c, w, u, v, j, e1, i1, j1, hb, p0, q0⟩ := fix_step 299 s b n lo hi p hs h0 h1 hp
  have g := M_ge i j c u v i1 j1
  unfold avermentlaw12_FactWidens.f
  rw [e1, bs, show ∀ s b n lo hi p, avermentlaw12_To.f s b n lo hi p = some (s, b, n, lo, hi, p) from fun _ _ _ _ _ _ => rfl, bs]
  exact loop hl 60 0 0 i c w u v j (by omega) (by omega) i1 j1 hb p0 q0 (by omega) (by omega) 300 (by omega)
end Go.Proofs.Ytcgjfkaipbhpkaa.Fw
