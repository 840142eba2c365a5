/- The law AvermentUnique, in parts: this text is packed by program (names shortened). No condition. -/
import Derived.Test.YtdjkdmjdcdljmaaGreatDoorQE
set_option linter.unusedVariables false
set_option linter.unusedSimpArgs false
namespace Go.Proofs.YtdjkdmjdcdljmaaGreatDoor.AU
open Go.Proofs.YtdjkdmjdcdljmaaGreatDoorY
set_option maxRecDepth 100000
set_option maxHeartbeats 4000000
variable {K : Nat}
def Seg (l : List Int) (p : Nat) (bs : List Int) (q : Nat) : Prop := p ≤ l.length ∧ q = p + bs.length ∧ ∃ post, l.drop p = bs ++ post
theorem Seg.nil {l : List Int} {p : Nat} (h : p ≤ l.length) : Seg l p [] p := ⟨h, by simp, _, rfl⟩
theorem Seg.behind {l : List Int} {p q : Nat} {bs : List Int} (h : Seg l p bs q) : l.drop p = bs ++ l.drop q := by
  obtain ⟨h1, rfl, post, h2⟩ := h
  rw [← List.drop_drop, h2, List.drop_left]
theorem Seg.le {l : List Int} {p q : Nat} {bs : List Int} (h : Seg l p bs q) : p ≤ q ∧ q ≤ l.length := by
  obtain ⟨h1, rfl, post, h2⟩ := h
  have := congrArg List.length h2
  simp at this
  omega
theorem Seg.app {l a b : List Int} {p q r : Nat} (h1 : Seg l p a q) (h2 : Seg l q b r) : Seg l p (a ++ b) r := by
  have e1 := h1.behind
  have e2 := h2.behind
  refine ⟨h1.1, ?_, l.drop r, ?_⟩
  · rw [h2.2.1, h1.2.1, List.length_append]; omega
  · rw [e1, e2, List.append_assoc]
theorem Seg.one {l : List Int} {p : Nat} {x : Int} (h : l[p]? = some x) : Seg l p [x] (p + 1) := by
  obtain ⟨h1, h2⟩ := List.getElem?_eq_some_iff.1 h
  exact ⟨by omega, rfl, l.drop (p + 1), by rw [List.drop_eq_getElem_cons h1, h2]; rfl⟩
theorem Seg.all {l bs : List Int} (h : Seg l 0 bs l.length) : l = bs := by
  have := h.behind
  simpa using this
def dep : Err → Nat
  | .at _ e => dep e + 1
  | _ => 0
def Lst : Err → Prop
  | .nil => True
  | .no n => 1 ≤ n ∧ n ≤ 21
  | .at p e => 0 ≤ p ∧ e.isNil = false ∧ Lst e ∧ dep e ≤ 7
structure Rd (l : List Int) (p : Nat) : Prop where
  le : p ≤ l.length
  len : l.length ≤ 8000
  byte : ∀ x ∈ l, 0 ≤ x ∧ x < 256
theorem Rd.to {l : List Int} {p q : Nat} (h : Rd l p) (hq : q ≤ l.length) : Rd l q := ⟨hq, h.len, h.byte⟩
structure Took (l : List Int) (p q : Nat) (e0 e : Err) (bs : List Int) : Prop where
  up : p ≤ q
  le : q ≤ l.length
  lst : Lst e
  ok : e = .nil → e0 = .nil ∧ Seg l p bs q
theorem Took.app {l a b : List Int} {p q r : Nat} {e0 e1 e2 : Err} (h1 : Took l p q e0 e1 a) (h2 : Took l q r e1 e2 b) : Took l p r e0 e2 (a ++ b) :=
  ⟨Nat.le_trans h1.up h2.up, h2.le, h2.lst, fun h => by
    obtain ⟨h3, h4⟩ := h2.ok h
    obtain ⟨h5, h6⟩ := h1.ok h3
    exact ⟨h5, h6.app h4⟩⟩
theorem Took.still {l : List Int} {p : Nat} {e : Err} (hp : p ≤ l.length) (he : Lst e) : Took l p p e e [] := ⟨Nat.le_refl _, hp, he, fun h => ⟨h, Seg.nil hp⟩⟩
theorem Took.bad {l bs : List Int} {p : Nat} {e0 e : Err} (hp : p ≤ l.length) (he : Lst e) (hn : e ≠ .nil) : Took l p p e0 e bs := ⟨Nat.le_refl _, hp, he, fun h => absurd h hn⟩
theorem Took.rd {l bs : List Int} {p q : Nat} {e0 e : Err} (h : Took l p q e0 e bs) (hr : Rd l p) : Rd l q := hr.to h.le
theorem Took.cast {l a b : List Int} {p q : Nat} {e0 e : Err} (h : Took l p q e0 e a) (hab : e = .nil → a = b) : Took l p q e0 e b := ⟨h.up, h.le, h.lst, fun he => by rw [← hab he]; exact h.ok he⟩
theorem q3h {e : Err} (h : e.isNil = true) : e = .nil := by cases e <;> first | rfl | cases h
theorem not_nil {e : Err} (h : e ≠ .nil) : e.isNil = false := by cases e <;> first | rfl | exact absurd rfl h
theorem z0q {p : Int} {e : Err} : Err.at p e ≠ .nil := fun h => by cases h
theorem no_ne {n : Int} : Err.no n ≠ .nil := fun h => by cases h
theorem q5q (hK : 100 ≤ K) {e : Err} {p : Int} : q1d.f K e [p] = some (if e.isNil then .nil else .at p e) := by
  obtain ⟨k, rfl⟩ : ∃ k, K = k + 3 := ⟨K - 3, by omega⟩
  unfold q1d.f
  have w0 : IntKind.i64.wrap ((([p] : List Int).length : Nat) - (1 : Int)) = 0 := rfl
  have w1 : IntKind.i64.wrap (-1 : Int) = -1 := rfl
  cases he : e.isNil with
  | true => simp
  | false =>
    simp only [cond_false, w0, Bool.false_eq_true, if_false]
    simp [q1d.l0.f, w1]
theorem q8m (hK : 100 ≤ K) {k : Int} {p : Int} : q1f.f K k p = some (.at p (.no k)) := by
  unfold q1f.f
  simp only [q1k.f, q0b, q5q hK]
  rfl
theorem q6h {k : Int} {p : Nat} (h : 1 ≤ k ∧ k ≤ 21) : Lst (.at ((p : Nat) : Int) (.no k)) := ⟨by omega, rfl, h, Nat.zero_le _⟩
theorem low_bits : ∀ c : Fin 256, IntKind.u8.wrap (((BitVec.ofInt 8 ((c.val : Nat) : Int) &&& BitVec.ofInt 8 (128 : Int)).toNat : Nat) : Int) = if c.val < 128 then 0 else 128 := by decide +kernel
theorem z2k {most : Nat} {l : List Int} {p : Nat} (hR : Rd l p) : ∀ (f i acc k : Nat), i + f = 9 → acc < 2 ^ (7 * i) → p + i ≤ l.length → f < k →
    ∃ n s e, q18.l0.f K k ((most : Nat) : Int) ((acc : Nat) : Int) ((i : Nat) : Int) l ((p : Nat) : Int) = some (.inr (n, s, e)) ∧ (((e = 2 ∨ e = 3 ∨ e = 4) ∧ n = 0 ∧ s = 0) ∨ (e = 0 ∧ ∃ m t : Nat, n = ((acc + m * 2 ^ (7 * i) : Nat) : Int) ∧ s = ((t : Nat) : Int) ∧ acc + m * 2 ^ (7 * i) < 18446744073709551616 ∧ acc + m * 2 ^ (7 * i) ≤ most ∧ Seg l (p + i) (encN f m) (p + t) ∧ (0 < i → 0 < m)))
  | f, i, acc, 0, hf, ha, hp, hk => by omega
  | f, i, acc, k + 1, hf, ha, hp, hk => by
    rw [q18.l0.f]
    have hl := hR.len
    have hb := hR.byte
    have e1 : decide (((i : Nat) : Int) < (10 : Int)) = true := by simp; omega
    have w1 : IntKind.i64.wrap (((p : Nat) : Int) + ((i : Nat) : Int)) = ((p + i : Nat) : Int) := by rw [q0u (by omega) (by omega)]; simp
    have w2 : IntKind.i64.wrap ((7 : Int) * ((i : Nat) : Int)) = ((7 * i : Nat) : Int) := by rw [q0u (by omega) (by omega)]; simp
    have w3 : IntKind.i64.wrap (((i : Nat) : Int) + (1 : Int)) = ((i + 1 : Nat) : Int) := by rw [q0u (by omega) (by omega)]; simp
    have e3 : decide (((7 * i : Nat) : Int) < (0 : Int)) = false := by simp; omega
    have hmin : min (7 * i) 64 = 7 * i := by omega
    have hP : 0 < 2 ^ (7 * i) := Nat.two_pow_pos _
    have bits : ∀ c : Nat, c < 256 → acc + (c % 128) * 2 ^ (7 * i) < 18446744073709551616 → IntKind.u64.wrap (((BitVec.ofInt 64 ((acc : Nat) : Int) ||| BitVec.ofInt 64 (IntKind.u64.wrap (IntKind.u64.wrap (IntKind.u8.wrap (((BitVec.ofInt 8 ((c : Nat) : Int) &&& BitVec.ofInt 8 (127 : Int)).toNat : Nat) : Int)) * (2 : Int) ^ min (7 * i) 64))).toNat : Nat) : Int) = ((acc + (c % 128) * 2 ^ (7 * i) : Nat) : Int) := by
      intro c hc hb
      have hle : (c % 128) * 2 ^ (7 * i) < 18446744073709551616 := by omega
      have q : ((c % 128 : Nat) : Int) * (2 : Int) ^ (7 * i) = (((c % 128) * 2 ^ (7 * i) : Nat) : Int) := by simp
      rw [and127b hc, q9q (by omega) (by omega), q3g (n := ((c % 128 : Nat) : Int)) (by omega) (by omega), hmin, q, q3g (n := (((c % 128) * 2 ^ (7 * i) : Nat) : Int)) (Int.natCast_nonneg _) (by omega), BitVec.toNat_or, q91 (by omega), q91 hle, or_add ha, q3g (by omega) (by omega)]
    by_cases hend : p + i = l.length
    · have e2 : (((p + i : Nat) : Int) == ((l.length : Nat) : Int)) = true := beq_iff_eq.2 (by omega)
      simp only [e1, cond_true, w1, e2]
      exact ⟨_, _, _, rfl, .inl ⟨.inl rfl, rfl, rfl⟩⟩
    have e2 : (((p + i : Nat) : Int) == ((l.length : Nat) : Int)) = false := beq_eq_false_iff_ne.2 (by omega)
    have hlt : p + i < l.length := by omega
    obtain ⟨c, hc⟩ : ∃ c : Nat, l[p + i] = ((c : Nat) : Int) := ⟨l[p + i].toNat, by have := hb _ (List.getElem_mem hlt); omega⟩
    have hc256 : c < 256 := by have := hb _ (List.getElem_mem hlt); omega
    have hg : l[p + i]? = some ((c : Nat) : Int) := by rw [List.getElem?_eq_getElem hlt, hc]
    have sm := low_bits ⟨c, hc256⟩
    dsimp only at sm
    by_cases h9 : i = 9 ∧ 1 < c
    · have e4 : (bif ((i : Nat) : Int) == (9 : Int) then some (decide (((c : Nat) : Int) > (1 : Int))) else some false) = some true := by
        obtain ⟨rfl, h⟩ := h9
        have e : decide (((c : Nat) : Int) > (1 : Int)) = true := by simp; omega
        simp [e]
      simp only [e1, cond_true, w1, e2, cond_false, ge0, Int.toNat_natCast, hg, q0b, q0z, e4]
      exact ⟨_, _, _, rfl, .inl ⟨.inr (.inl rfl), rfl, rfl⟩⟩
    have e4 : (bif ((i : Nat) : Int) == (9 : Int) then some (decide (((c : Nat) : Int) > (1 : Int))) else some false) = some false := by
      by_cases hi9 : i = 9
      · have e : decide (((c : Nat) : Int) > (1 : Int)) = false := by simp; omega
        simp [e]
      · have : (((i : Nat) : Int) == (9 : Int)) = false := beq_eq_false_iff_ne.2 (by omega)
        simp [this]
    have hfit : acc + (c % 128) * 2 ^ (7 * i) < 18446744073709551616 := by
      by_cases hi9 : i = 9
      · subst hi9
        have h1 : 2 ^ (7 * 9) = 9223372036854775808 := rfl
        rw [h1] at ha ⊢
        omega
      · have h1 : 2 ^ (7 * i) ≤ 2 ^ 56 := Nat.pow_le_pow_right (by omega) (by omega)
        have h2 : (c % 128) * 2 ^ (7 * i) ≤ 127 * 2 ^ 56 := Nat.mul_le_mul (by omega) h1
        have h3 : 2 ^ 56 = 72057594037927936 := rfl
        rw [h3] at h1 h2
        omega
    have bb := bits c hc256 hfit
    by_cases h128 : c < 128
    · rw [if_pos h128] at sm
      have hmod : c % 128 = c := Nat.mod_eq_of_lt h128
      rw [hmod] at bb hfit
      by_cases h0 : c = 0 ∧ 0 < i
      · have e5 : (bif ((c : Nat) : Int) == (0 : Int) then some (decide (((i : Nat) : Int) > (0 : Int))) else some false) = some true := by
          obtain ⟨rfl, h⟩ := h0
          simp
          exact h
        simp only [e1, cond_true, w1, e2, cond_false, ge0, Int.toNat_natCast, hg, q0b, q0z, e4, w2, e3, sm, show ((0 : Int) != 0) = false from rfl, e5]
        exact ⟨_, _, _, rfl, .inl ⟨.inr (.inl rfl), rfl, rfl⟩⟩
      have e5 : (bif ((c : Nat) : Int) == (0 : Int) then some (decide (((i : Nat) : Int) > (0 : Int))) else some false) = some false := by
        by_cases hc0 : c = 0
        · subst hc0
          simp
          omega
        · have : (((c : Nat) : Int) == (0 : Int)) = false := beq_eq_false_iff_ne.2 (by omega)
          simp [this]
      by_cases hm : acc + c * 2 ^ (7 * i) > most
      · have e6 : decide (((acc + c * 2 ^ (7 * i) : Nat) : Int) > ((most : Nat) : Int)) = true := decide_eq_true (by omega)
        simp only [e1, cond_true, w1, e2, cond_false, ge0, Int.toNat_natCast, hg, q0b, q0z, e4, w2, e3, sm, show ((0 : Int) != 0) = false from rfl, e5, bb, e6]
        exact ⟨_, _, _, rfl, .inl ⟨.inr (.inr rfl), rfl, rfl⟩⟩
      · have e6 : decide (((acc + c * 2 ^ (7 * i) : Nat) : Int) > ((most : Nat) : Int)) = false := decide_eq_false (by omega)
        simp only [e1, cond_true, w1, e2, cond_false, ge0, Int.toNat_natCast, hg, q0b, q0z, e4, w2, e3, sm, show ((0 : Int) != 0) = false from rfl, e5, bb, e6, w3]
        refine ⟨_, _, _, rfl, .inr ⟨rfl, c, i + 1, rfl, rfl, hfit, by omega, ?_, fun hi => by omega⟩⟩
        have henc : encN f c = [((c : Nat) : Int)] := by cases f <;> simp [encN, h128]
        rw [henc]
        exact Seg.one hg
    · rw [if_neg h128] at sm
      have hi8 : i ≤ 8 := by omega
      match f, hf, hk with
      | 0, hf, _ => omega
      | f + 1, hf, hk =>
        have epow : 2 ^ (7 * (i + 1)) = 128 * 2 ^ (7 * i) := by rw [show 7 * (i + 1) = 7 + 7 * i by omega, Nat.pow_add]
        obtain ⟨n, s, e, h1, h2⟩ := z2k (most := most) hR f (i + 1) (acc + (c % 128) * 2 ^ (7 * i)) k (by omega) (by
          rw [epow]
          have : c % 128 * 2 ^ (7 * i) ≤ 127 * 2 ^ (7 * i) := Nat.mul_le_mul_right _ (by omega)
          omega) (by omega) (by omega)
        simp only [e1, cond_true, w1, e2, cond_false, ge0, Int.toNat_natCast, hg, q0b, q0z, e4, w2, e3, sm, show ((128 : Int) != 0) = true from rfl, bb, w3]
        refine ⟨n, s, e, h1, h2.imp id ?_⟩
        rintro ⟨rfl, m, t, rfl, rfl, q1, q2, q3, q4⟩
        have hm := q4 (by omega)
        have hsum : acc + c % 128 * 2 ^ (7 * i) + m * 2 ^ (7 * (i + 1)) = acc + (c % 128 + 128 * m) * 2 ^ (7 * i) := by
          rw [epow, Nat.add_mul, Nat.add_assoc, ← Nat.mul_assoc, Nat.mul_comm m 128]
        refine ⟨rfl, c % 128 + 128 * m, t, by rw [hsum], rfl, by rw [← hsum]; exact q1, by rw [← hsum]; exact q2, ?_, fun _ => by omega⟩
        have henc : encN (f + 1) (c % 128 + 128 * m) = ((c : Nat) : Int) :: encN f m := by
          have a1 : ¬ (c % 128 + 128 * m < 128) := by omega
          have a2 : (c % 128 + 128 * m) % 128 + 128 = c := by omega
          have a3 : (c % 128 + 128 * m) / 128 = m := by omega
          rw [encN, if_neg a1, a2, a3]
        rw [henc]
        exact (Seg.one hg).app q3
theorem z9y (hK : 20000 ≤ K) {most p : Nat} {l : List Int} (hR : Rd l p) : ∃ n s e, q18.f K ((most : Nat) : Int) l ((p : Nat) : Int) = some (n, s, e) ∧ (((e = 2 ∨ e = 3 ∨ e = 4) ∧ n = 0 ∧ s = 0) ∨ (e = 0 ∧ ∃ m t : Nat, n = ((m : Nat) : Int) ∧ s = ((t : Nat) : Int) ∧ m < 18446744073709551616 ∧ m ≤ most ∧ Seg l p (encU m) (p + t))) := by
  obtain ⟨n, s, e, h1, h2⟩ := z2k (K := K) (most := most) hR 9 0 0 K (by omega) (by decide) (by have := hR.le; omega) (by omega)
  unfold q18.f
  rw [show q18.l0.f K K ((most : Nat) : Int) (0 : Int) (0 : Int) l ((p : Nat) : Int) = _ from h1]
  simp only [q0b, Sum.elim_inr]
  refine ⟨n, s, e, rfl, h2.imp id ?_⟩
  rintro ⟨rfl, m, t, rfl, rfl, q1, q2, q3, q4⟩
  exact ⟨rfl, m, t, by simp, rfl, by simpa using q1, by simpa using q2, by simpa using q3⟩
theorem q8f (hK : 20000 ≤ K) {most p : Nat} {l : List Int} (hR : Rd l p) : ∃ (n : Nat) (e : Err) (q : Nat), q1w.f K ((most : Nat) : Int) l ((p : Nat) : Int) = some (((n : Nat) : Int), e, ((q : Nat) : Int)) ∧ Took l p q .nil e (encU n) ∧ n ≤ most ∧ n < 18446744073709551616 := by
  obtain ⟨n, s, e, h1, h2⟩ := z9y (K := K) hK (most := most) hR
  unfold q1w.f
  rw [h1, q0b]
  have hl := hR.len
  rcases h2 with ⟨h2, rfl, rfl⟩ | ⟨rfl, m, t, rfl, rfl, q1, q2, q3⟩
  · have e0 : (e != 0) = true := by rcases h2 with rfl | rfl | rfl <;> rfl
    simp only [e0, cond_true, q8m (K := K) (by omega), q0b]
    exact ⟨0, _, p, rfl, Took.bad hR.le (q6h (by omega)) z0q, by omega, by omega⟩
  · have hq := q3.le
    have w : IntKind.i64.wrap (((p : Nat) : Int) + ((t : Nat) : Int)) = ((p + t : Nat) : Int) := by rw [q0u (by omega) (by omega)]; simp
    simp only [show ((0 : Int) != 0) = false from rfl, cond_false, w]
    exact ⟨m, _, p + t, rfl, ⟨by omega, hq.2, trivial, fun _ => ⟨rfl, q3⟩⟩, q2, q1⟩
theorem q6f {e : Err} : (bif true then !e.isNil else e.isNil) = !e.isNil := rfl
theorem z7x {e : Err} : (bif false then !e.isNil else e.isNil) = e.isNil := rfl
theorem q43 (hK : 20000 ≤ K) {most : Int} {p : Nat} {l : List Int} {e0 : Err} (hR : Rd l p) (h0 : Lst e0) (hm : 0 ≤ most ∧ most < 1000000) : ∃ (n : Nat) (e : Err) (q : Nat), q0i.f K most e0 l ((p : Nat) : Int) = some (((n : Nat) : Int), e, ((q : Nat) : Int)) ∧ Took l p q e0 e (encU n) ∧ (n : Int) ≤ most := by
  obtain ⟨M, rfl⟩ : ∃ M : Nat, most = ((M : Nat) : Int) := ⟨most.toNat, by omega⟩
  unfold q0i.f
  rw [q6f]
  cases h : e0.isNil with
  | false =>
    simp only [Bool.not_false, cond_true]
    exact ⟨0, e0, p, rfl, Took.bad hR.le h0 (fun e => by subst e; cases h), by omega⟩
  | true =>
    have := q3h h
    subst this
    obtain ⟨n, e, q, h1, h2, h3, h4⟩ := q8f (K := K) hK (most := M) hR
    have w : IntKind.i64.wrap ((n : Nat) : Int) = ((n : Nat) : Int) := q0u (by omega) (by omega)
    simp only [Bool.not_true, cond_false, q3g (n := ((M : Nat) : Int)) (by omega) (by omega), h1, q0b, w]
    exact ⟨n, e, q, rfl, h2, by omega⟩
theorem q53 {n : Nat} (h : n < 128) : encU n = [((n : Nat) : Int)] := z1v h
theorem zig_back {n : Nat} (hn : n < 18446744073709551616) : ∃ v : Int, IntKind.i64.wrap (((BitVec.ofInt 64 (IntKind.i64.wrap (((n : Nat) : Int).fdiv ((2 : Int) ^ 1))) ^^^ BitVec.ofInt 64 (IntKind.i64.wrap ((0 : Int) - IntKind.i64.wrap (IntKind.u64.wrap (((BitVec.ofInt 64 ((n : Nat) : Int) &&& BitVec.ofInt 64 (1 : Int)).toNat : Nat) : Int))))).toNat : Nat) : Int) = v ∧ i64 v ∧ zz v = n := by
  obtain ⟨v, hv, hz⟩ : ∃ v : Int, i64 v ∧ zz v = n := by
    by_cases h : n % 2 = 0
    · exact ⟨((n / 2 : Nat) : Int), by unfold i64; omega, by unfold zz; rw [if_pos (by omega)]; omega⟩
    · exact ⟨-((n / 2 : Nat) : Int) - 1, by unfold i64; omega, by unfold zz; rw [if_neg (by omega)]; omega⟩
  have := zag_val hv
  rw [hz] at this
  exact ⟨v, this, hv, hz⟩
theorem j0c (hK : 20000 ≤ K) {p : Nat} {l : List Int} (hR : Rd l p) : ∃ (v : Int) (e : Err) (q : Nat), q19.f K l ((p : Nat) : Int) = some (v, e, ((q : Nat) : Int)) ∧ Took l p q .nil e (encI v) ∧ i64 v := by
  unfold q19.f
  obtain ⟨n, e, q, h1, h2, h3, h4⟩ := q8f (K := K) hK (most := 18446744073709551615) hR
  rw [show q1w.f K (18446744073709551615 : Int) l ((p : Nat) : Int) = _ from h1, q0b]
  obtain ⟨v, g1, g2, g3⟩ := zig_back h4
  simp only [g1]
  refine ⟨v, e, q, rfl, ?_, g2⟩
  unfold encI
  rw [g3]
  exact h2
theorem z3o (hK : 20000 ≤ K) {p : Nat} {l : List Int} {e0 : Err} (hR : Rd l p) (h0 : Lst e0) : ∃ (v : Int) (e : Err) (q : Nat), q1r.f K e0 l ((p : Nat) : Int) = some (v, e, ((q : Nat) : Int)) ∧ Took l p q e0 e (encI v) ∧ i64 v := by
  unfold q1r.f
  rw [q6f]
  cases h : e0.isNil with
  | false =>
    simp only [Bool.not_false, cond_true]
    exact ⟨0, e0, p, rfl, Took.bad hR.le h0 (fun e => by subst e; cases h), by unfold i64; omega⟩
  | true =>
    have := q3h h
    subst this
    simp only [Bool.not_true, cond_false]
    exact j0c hK hR
theorem q9m (hK : 20000 ≤ K) {p : Nat} {l : List Int} (hR : Rd l p) : ∃ (b : Nat) (e : Err) (q : Nat), q2b.f K l ((p : Nat) : Int) = some (((b : Nat) : Int), e, ((q : Nat) : Int)) ∧ Took l p q .nil e [((b : Nat) : Int)] ∧ b < 256 ∧ (e ≠ .nil → b = 0) := by
  have hl := hR.len
  have hp := hR.le
  unfold q2b.f
  by_cases h : p = l.length
  · have e1 : (((p : Nat) : Int) == ((l.length : Nat) : Int)) = true := beq_iff_eq.2 (by omega)
    simp only [e1, cond_true, q8m (K := K) (by omega), q0b]
    exact ⟨0, _, p, rfl, Took.bad hp (q6h (by omega)) z0q, by omega, fun _ => rfl⟩
  · have e1 : (((p : Nat) : Int) == ((l.length : Nat) : Int)) = false := beq_eq_false_iff_ne.2 (by omega)
    have w1 : IntKind.i64.wrap (((p : Nat) : Int) + (1 : Int)) = ((p + 1 : Nat) : Int) := by rw [q0u (by omega) (by omega)]; simp
    have w2 : IntKind.i64.wrap (((p + 1 : Nat) : Int) - (1 : Int)) = ((p : Nat) : Int) := by rw [q0u (by omega) (by omega)]; omega
    have hlt : p < l.length := by omega
    obtain ⟨c, hc⟩ : ∃ c : Nat, l[p] = ((c : Nat) : Int) := ⟨l[p].toNat, by have := hR.byte _ (List.getElem_mem hlt); omega⟩
    have hc256 : c < 256 := by have := hR.byte _ (List.getElem_mem hlt); omega
    have hg : l[p]? = some ((c : Nat) : Int) := by rw [List.getElem?_eq_getElem hlt, hc]
    simp only [e1, cond_false, w1, w2, ge0, cond_true, Int.toNat_natCast, hg, q0b]
    exact ⟨c, _, p + 1, rfl, ⟨by omega, by omega, trivial, fun _ => ⟨rfl, Seg.one hg⟩⟩, hc256, fun h => absurd rfl h⟩
theorem z9s (hK : 20000 ≤ K) {most : Int} {p : Nat} {l : List Int} {e0 : Err} (hR : Rd l p) (h0 : Lst e0) : ∃ (v : Nat) (e : Err) (q : Nat), q2z.f K most e0 l ((p : Nat) : Int) = some (((v : Nat) : Int), e, ((q : Nat) : Int)) ∧ Took l p q e0 e [((v : Nat) : Int)] ∧ (e = .nil → 1 ≤ (v : Int) ∧ (v : Int) ≤ most) ∧ (e ≠ .nil → v = 0 ∨ most < (v : Int)) ∧ v < 256 := by
  unfold q2z.f
  rw [q6f]
  cases h : e0.isNil with
  | false =>
    have hne : e0 ≠ .nil := fun e => by subst e; cases h
    simp only [Bool.not_false, cond_true]
    exact ⟨0, e0, p, rfl, Took.bad hR.le h0 hne, fun e => absurd e hne, fun _ => .inl rfl, by omega⟩
  | true =>
    have := q3h h
    subst this
    obtain ⟨b, e, q, h1, h2, h3, h4⟩ := q9m (K := K) hK hR
    have w : IntKind.i64.wrap ((b : Nat) : Int) = ((b : Nat) : Int) := q0u (by omega) (by omega)
    simp only [Bool.not_true, cond_false, q1k.f, q0b, h1, q0z, w]
    cases he : e.isNil with
    | false =>
      have hne : e ≠ .nil := fun e' => by subst e'; cases he
      simp only [cond_false]
      exact ⟨b, e, q, rfl, h2, fun e' => absurd e' hne, fun _ => .inl (h4 hne), h3⟩
    | true =>
      have := q3h he
      subst this
      simp only [cond_true]
      by_cases c1 : b < 1
      · have d1 : decide (((b : Nat) : Int) < (1 : Int)) = true := decide_eq_true (by omega)
        simp only [d1, cond_true, q0b, q5q (K := K) (by omega)]
        exact ⟨b, _, q, rfl, ⟨h2.up, h2.le, q6h (by omega), fun h => by cases h⟩, (fun h => by cases h), fun _ => .inl (by omega), h3⟩
      · have d1 : decide (((b : Nat) : Int) < (1 : Int)) = false := decide_eq_false (by omega)
        by_cases c2 : ((b : Nat) : Int) > most
        · simp only [d1, cond_false, decide_eq_true c2, cond_true, q0b, q5q (K := K) (by omega)]
          exact ⟨b, _, q, rfl, ⟨h2.up, h2.le, q6h (by omega), fun h => by cases h⟩, (fun h => by cases h), fun _ => .inr c2, h3⟩
        · simp only [d1, cond_false, decide_eq_false c2, q0b]
          exact ⟨b, _, q, rfl, h2, fun _ => ⟨by omega, by omega⟩, fun h => absurd rfl h, h3⟩
theorem q5y {α : Type} {enc : α → List Int} {Good : α → Prop} {l : List Int} {n : Nat} {L : Nat → Int → Err → Int → List α → Option (Err × Int × List α)}
    (h0 : ∀ k e p acc, L (k + 1) ((n : Nat) : Int) e p acc = some (e, p, acc))
    (hL : ∀ k (i : Nat) e (p : Nat) acc, i < n → acc.length = i → Rd l p → Lst e → ∃ x e' q, L (k + 1) ((i : Nat) : Int) e ((p : Nat) : Int) acc = L k (((i + 1 : Nat)) : Int) e' ((q : Nat) : Int) (acc ++ [x]) ∧ Took l p q e e' (enc x) ∧ (e' = .nil → Good x)) :
    ∀ (m k i : Nat) e (p : Nat) acc, n - i = m → m < k → i ≤ n → acc.length = i → Rd l p → Lst e → ∃ xs e' q, L k ((i : Nat) : Int) e ((p : Nat) : Int) acc = some (e', ((q : Nat) : Int), acc ++ xs) ∧ Took l p q e e' (xs.flatMap enc) ∧ xs.length = m ∧ (e' = .nil → ∀ x ∈ xs, Good x)
  | m, 0, i, e, p, acc, hm, hk, _, _, _, _ => by omega
  | 0, k + 1, i, e, p, acc, hm, hk, hi, ha, hR, he => by
    have : i = n := by omega
    subst this
    exact ⟨[], e, p, by rw [h0]; simp, by simpa using Took.still hR.le he, rfl, fun _ x hx => by cases hx⟩
  | m + 1, k + 1, i, e, p, acc, hm, hk, hi, ha, hR, he => by
    obtain ⟨x, e', q, h1, h2, h3⟩ := hL k i e p acc (by omega) ha hR he
    obtain ⟨xs, e2, r, g1, g2, g3, g4⟩ := q5y h0 hL m k (i + 1) e' q (acc ++ [x]) (by omega) (by omega) (by omega) (by simp [ha]) (h2.rd hR) h2.lst
    refine ⟨x :: xs, e2, r, by rw [h1, g1]; simp, by simpa using h2.app g2, by simp [g3], fun h y hy => ?_⟩
    rcases List.mem_cons.1 hy with rfl | hy
    · exact h3 (g2.ok h).1
    · exact g4 h y hy
theorem q57 {n : Nat} (h : n < 1000000000) : IntKind.i64.wrap (((n : Nat) : Int) + (1 : Int)) = ((n + 1 : Nat) : Int) := by
  rw [q0u (by omega) (by omega)]; simp
theorem q63 {α : Type} {acc : List α} {x : α} {i : Nat} (h : acc.length = i) (hi : i < 4000000) : Nat.ble (acc.length + [x].length) 4000000 = true := Nat.ble_eq_true_of_le (by simp; omega)
end Go.Proofs.YtdjkdmjdcdljmaaGreatDoor.AU
namespace Go.Proofs.YtdjkdmjdcdljmaaGreatDoor.AU
open Go.Proofs.YtdjkdmjdcdljmaaGreatDoorY
set_option maxRecDepth 100000
set_option maxHeartbeats 4000000
variable {K : Nat}
theorem j1m {op : Int} (h : ¬ (1 ≤ op ∧ op ≤ 17)) : q6w.f K op = some (false, false, false, 0, false) := by
  have e : ∀ k : Int, 1 ≤ k → k ≤ 17 → (op == k) = false := fun k h1 h2 => beq_eq_false_iff_ne.2 (by omega)
  unfold q6w.f
  simp only [e 1 (by decide) (by decide), e 2 (by decide) (by decide), e 3 (by decide) (by decide), e 4 (by decide) (by decide), e 5 (by decide) (by decide), e 6 (by decide) (by decide), e 7 (by decide) (by decide), e 8 (by decide) (by decide), e 9 (by decide) (by decide), e 10 (by decide) (by decide), e 11 (by decide) (by decide), e 12 (by decide) (by decide), e 13 (by decide) (by decide), e 14 (by decide) (by decide), e 15 (by decide) (by decide), e 16 (by decide) (by decide), e 17 (by decide) (by decide), cond_false]
theorem q8l (hK : 20000 ≤ K) {R : Type} {c : Bool} {most : Int} {p : Nat} {l : List Int} {e0 : Err} {f : Int → Err → Int → Option R} (hR : Rd l p) (h0 : Lst e0) (hm : 0 ≤ most ∧ most < 128) :
    ∃ (n : Nat) (e : Err) (q : Nat), optT c K most e0 l ((p : Nat) : Int) f = f ((n : Nat) : Int) e ((q : Nat) : Int) ∧ Took l p q e0 e (if c then [((n : Nat) : Int)] else []) ∧ (n : Int) ≤ most ∧ (c = false → n = 0) := by
  unfold optT
  cases c with
  | true =>
    obtain ⟨n, e, q, h1, h2, h3⟩ := q43 (K := K) hK (most := most) hR h0 (by omega)
    rw [cond_true, h1]
    rw [q53 (by omega)] at h2
    exact ⟨n, e, q, rfl, h2, h3, fun h => by cases h⟩
  | false =>
    refine ⟨0, e0, p, rfl, ?_, by omega, fun _ => rfl⟩
    rw [if_neg (by simp)]
    exact Took.still hR.le h0
theorem args_take (hK : 20000 ≤ K) {n : Nat} {p : Nat} {l : List Int} {e0 : Err} (hn : n ≤ 1000) (hR : Rd l p) (h0 : Lst e0) :
    ∃ (xs : List Int) (e : Err) (q : Nat), q2s.l0.f K K ((n : Nat) : Int) (0 : Int) e0 l ((p : Nat) : Int) [] = some (e, ((q : Nat) : Int), xs) ∧ Took l p q e0 e xs ∧ xs.length = n ∧ (e = .nil → ∀ x ∈ xs, 0 ≤ x ∧ x ≤ 7) := by
  have key := q5y (enc := fun v => [v]) (Good := fun v => 0 ≤ v ∧ v ≤ 7) (l := l) (n := n) (L := fun k i e p acc => q2s.l0.f K k ((n : Nat) : Int) i e l p acc)
    (fun k e p acc => by
      rw [q2s.l0.f]
      simp)
    (fun k i e p acc hi ha hR he => by
      rw [q2s.l0.f]
      obtain ⟨v, e', q, h1, h2, h3⟩ := q43 (K := K) hK (most := 7) hR he (by omega)
      rw [q53 (by omega)] at h2
      refine ⟨((v : Nat) : Int), e', q, ?_, h2, fun _ => by omega⟩
      have e1 : decide (((i : Nat) : Int) < ((n : Nat) : Int)) = true := decide_eq_true (by omega)
      simp only [e1, cond_true, h1, q0b, q63 ha (by omega), q57 (n := i) (by omega)])
    n K 0 e0 p [] (by omega) (by omega) (by omega) rfl hR h0
  obtain ⟨xs, e, q, h1, h2, h3, h4⟩ := key
  refine ⟨xs, e, q, by simpa using h1, ?_, h3, h4⟩
  have : xs.flatMap (fun v => [v]) = xs := by induction xs <;> simp_all
  rwa [this] at h2
theorem insn_take (hK : 20000 ≤ K) {p : Nat} {l : List Int} {e0 : Err} (hR : Rd l p) (h0 : Lst e0) :
    ∃ (x : q3n) (e : Err) (q : Nat), q2s.f K e0 l ((p : Nat) : Int) = some (x.1, x.2.1, x.2.2.1, x.2.2.2.1, x.2.2.2.2.1, x.2.2.2.2.2, e, ((q : Nat) : Int)) ∧ Took l p q e0 e (q4q x) ∧ (e = .nil → z90 x) := by
  rw [j36]
  obtain ⟨op, e1, q1, h1, h2, h3, h4, h5⟩ := z9s (K := K) hK (most := 17) hR h0
  rw [h1, q0b]
  by_cases hop : 1 ≤ ((op : Nat) : Int) ∧ ((op : Nat) : Int) ≤ 17
  · have hR1 := h2.rd hR
    simp only [j31 hop.1 hop.2, q0b]
    have hm : 0 ≤ z1a ((op : Nat) : Int) ∧ z1a ((op : Nat) : Int) < 128 := by unfold z1a; split <;> (try split) <;> omega
    obtain ⟨d, e2, q2, d1, d2, d3, d4⟩ := q8l (K := K) hK (c := q8z ((op : Nat) : Int)) (most := 7) (l := l) (p := q1) (e0 := e1) (R := Int × Int × Int × Int × Int × List Int × Err × Int) (f := _) hR1 h2.lst (by omega)
    rw [d1]
    have hR2 := d2.rd hR1
    obtain ⟨a, e3, q3, a1, a2, a3, a4⟩ := q8l (K := K) hK (c := z03 ((op : Nat) : Int)) (most := 7) (l := l) (p := q2) (e0 := e2) (R := Int × Int × Int × Int × Int × List Int × Err × Int) (f := _) hR2 d2.lst (by omega)
    rw [a1]
    have hR3 := a2.rd hR2
    obtain ⟨b, e4, q4, b1, b2, b3, b4⟩ := q8l (K := K) hK (c := z7a ((op : Nat) : Int)) (most := z1a ((op : Nat) : Int)) (l := l) (p := q3) (e0 := e3) (R := Int × Int × Int × Int × Int × List Int × Err × Int) (f := _) hR3 a2.lst hm
    rw [b1]
    have hR4 := b2.rd hR3
    have T4 := ((h2.app d2).app a2).app b2
    by_cases o1 : ((op : Nat) : Int) = 1
    · have c1 : (((op : Nat) : Int) == 1) = true := beq_iff_eq.2 o1
      obtain ⟨n, e5, q5, n1, n2, n3⟩ := z3o (K := K) hK hR4 b2.lst
      simp only [c1, cond_true, n1, q0b]
      refine ⟨(((op : Nat) : Int), ((d : Nat) : Int), ((a : Nat) : Int), ((b : Nat) : Int), n, []), e5, q5, rfl, (T4.app n2).cast fun _ => ?_, fun _ => ⟨hop, ⟨by dsimp only; omega, d3, fun h => by rw [d4 h]; rfl⟩, ⟨by dsimp only; omega, a3, fun h => by rw [a4 h]; rfl⟩, ⟨by dsimp only; omega, b3, fun h => by rw [b4 h]; rfl⟩, ⟨n3, fun h => absurd o1 h⟩, ⟨by simp, fun _ => rfl⟩, fun v hv => by cases hv⟩⟩
      have o17 : ¬ ((op : Nat) : Int) = 17 := by omega
      simp only [q4q, if_pos o1, if_neg o17]
      simp
    · have c1 : (((op : Nat) : Int) == 1) = false := beq_eq_false_iff_ne.2 o1
      by_cases o17 : ((op : Nat) : Int) = 17
      · have c2 : (((op : Nat) : Int) == 17) = true := beq_iff_eq.2 o17
        obtain ⟨n, e5, q5, n1, n2, n3⟩ := q43 (K := K) hK (most := 4) hR4 b2.lst (by omega)
        rw [q53 (by omega)] at n2
        obtain ⟨xs, e6, q6, g1, g2, g3, g4⟩ := args_take (K := K) hK (n := n) (by omega) (n2.rd hR4) n2.lst
        simp only [c1, c2, cond_true, cond_false, n1, q0b, g1]
        refine ⟨(((op : Nat) : Int), ((d : Nat) : Int), ((a : Nat) : Int), ((b : Nat) : Int), 0, xs), e6, q6, rfl, ((T4.app n2).app g2).cast fun _ => ?_, fun he => ⟨hop, ⟨by dsimp only; omega, d3, fun h => by rw [d4 h]; rfl⟩, ⟨by dsimp only; omega, a3, fun h => by rw [a4 h]; rfl⟩, ⟨by dsimp only; omega, b3, fun h => by rw [b4 h]; rfl⟩, ⟨by unfold i64; dsimp only; omega, fun _ => rfl⟩, ⟨by dsimp only; omega, fun h => absurd o17 h⟩, g4 he⟩⟩
        simp only [q4q, if_neg o1, if_pos o17]
        simp [g3]
      · have c2 : (((op : Nat) : Int) == 17) = false := beq_eq_false_iff_ne.2 o17
        simp only [c1, c2, cond_false]
        refine ⟨(((op : Nat) : Int), ((d : Nat) : Int), ((a : Nat) : Int), ((b : Nat) : Int), 0, []), e4, q4, rfl, T4.cast fun _ => ?_, fun _ => ⟨hop, ⟨by dsimp only; omega, d3, fun h => by rw [d4 h]; rfl⟩, ⟨by dsimp only; omega, a3, fun h => by rw [a4 h]; rfl⟩, ⟨by dsimp only; omega, b3, fun h => by rw [b4 h]; rfl⟩, ⟨by unfold i64; dsimp only; omega, fun _ => rfl⟩, ⟨by simp, fun _ => rfl⟩, fun v hv => by cases hv⟩⟩
        simp only [q4q, if_neg o1, if_neg o17]
        simp
  · have hne : e1 ≠ .nil := fun h => hop ⟨(h3 h).1, (h3 h).2⟩
    have o1 : (((op : Nat) : Int) == 1) = false := beq_eq_false_iff_ne.2 (by omega)
    have o17 : (((op : Nat) : Int) == 17) = false := beq_eq_false_iff_ne.2 (by omega)
    simp only [j1m hop, q0b, optT, cond_false, o1, o17]
    exact ⟨(((op : Nat) : Int), 0, 0, 0, 0, []), e1, q1, rfl, h2.cast fun h => absurd h hne, fun h => absurd h hne⟩
theorem end_split (e : Err) (l : List Int) (p : Int) : q5f.f K e l p = (q2z.f K 3 e l p).bind fun t => optT (t.1 != 1) K 7 t.2.1 l t.2.2 fun a e p => optT (t.1 != 3) K 11 e l p fun b e p => optT (t.1 == 2) K 11 e l p fun c e p => some (t.1, a, b, c, e, p) := by
  rfl
theorem end_take (hK : 20000 ≤ K) {p : Nat} {l : List Int} {e0 : Err} (hR : Rd l p) (h0 : Lst e0) :
    ∃ (x : LEnd) (e : Err) (q : Nat), q5f.f K e0 l ((p : Nat) : Int) = some (x.1, x.2.1, x.2.2.1, x.2.2.2, e, ((q : Nat) : Int)) ∧ Took l p q e0 e (z2o x) ∧ (e = .nil → tightE x) := by
  rw [end_split]
  obtain ⟨op, e1, q1, h1, h2, h3, h4, h5⟩ := z9s (K := K) hK (most := 3) hR h0
  rw [h1, q0b]
  have hR1 := h2.rd hR
  obtain ⟨a, e2, q2, a1, a2, a3, a4⟩ := q8l (K := K) hK (c := ((op : Nat) : Int) != 1) (most := 7) (l := l) (p := q1) (e0 := e1) (R := Int × Int × Int × Int × Err × Int) (f := _) hR1 h2.lst (by omega)
  rw [a1]
  have hR2 := a2.rd hR1
  obtain ⟨b, e3, q3, b1, b2, b3, b4⟩ := q8l (K := K) hK (c := ((op : Nat) : Int) != 3) (most := 11) (l := l) (p := q2) (e0 := e2) (R := Int × Int × Int × Int × Err × Int) (f := _) hR2 a2.lst (by omega)
  rw [b1]
  have hR3 := b2.rd hR2
  obtain ⟨c, e4, q4, c1, c2, c3, c4⟩ := q8l (K := K) hK (c := ((op : Nat) : Int) == 2) (most := 11) (l := l) (p := q3) (e0 := e3) (R := Int × Int × Int × Int × Err × Int) (f := _) hR3 b2.lst (by omega)
  rw [c1]
  have T := ((h2.app a2).app b2).app c2
  refine ⟨(((op : Nat) : Int), ((a : Nat) : Int), ((b : Nat) : Int), ((c : Nat) : Int)), e4, q4, rfl, T.cast fun he => ?_, fun he => ?_⟩
  · have hop := h3 ((a2.ok ((b2.ok ((c2.ok he).1)).1)).1)
    have : ((op : Nat) : Int) = 1 ∨ ((op : Nat) : Int) = 2 ∨ ((op : Nat) : Int) = 3 := by omega
    rcases this with h | h | h <;> (simp only [z2o, h]; simp)
  · have hop := h3 ((a2.ok ((b2.ok ((c2.ok he).1)).1)).1)
    exact ⟨hop, ⟨by dsimp only; omega, a3, fun h => by rw [a4 (by dsimp only at h; simp [h])]; rfl⟩, ⟨by dsimp only; omega, b3, fun h => by rw [b4 (by dsimp only at h; simp [h])]; rfl⟩, ⟨by dsimp only; omega, c3, fun h => by rw [c4 (by dsimp only at h; simp [h])]; rfl⟩⟩
theorem j3o (hK : 20000 ≤ K) {n : Nat} {p : Nat} {l : List Int} {e0 : Err} (hn : n ≤ 1000) (hR : Rd l p) (h0 : Lst e0) :
    ∃ (xs : List q3n) (e : Err) (q : Nat), q2t.l0.f K K ((n : Nat) : Int) (0 : Int) e0 l ((p : Nat) : Int) [] = some (e, ((q : Nat) : Int), xs) ∧ Took l p q e0 e (xs.flatMap q4q) ∧ xs.length = n ∧ (e = .nil → ∀ x ∈ xs, z90 x) := by
  have key := q5y (enc := q4q) (Good := z90) (l := l) (n := n) (L := fun k i e p acc => q2t.l0.f K k ((n : Nat) : Int) i e l p acc)
    (fun k e p acc => by
      rw [q2t.l0.f]
      simp)
    (fun k i e p acc hi ha hR he => by
      rw [q2t.l0.f]
      obtain ⟨x, e', q, h1, h2, h3⟩ := insn_take (K := K) hK hR he
      refine ⟨x, e', q, ?_, h2, h3⟩
      have e1 : decide (((i : Nat) : Int) < ((n : Nat) : Int)) = true := decide_eq_true (by omega)
      simp only [e1, cond_true, h1, q0b, q63 ha (by omega), q57 (n := i) (by omega)])
    n K 0 e0 p [] (by omega) (by omega) (by omega) rfl hR h0
  obtain ⟨xs, e, q, h1, h2, h3, h4⟩ := key
  exact ⟨xs, e, q, by simpa using h1, h2, h3, h4⟩
theorem j37 (hK : 20000 ≤ K) {p : Nat} {l : List Int} {e0 : Err} (hR : Rd l p) (h0 : Lst e0) :
    ∃ (x : q1m) (e : Err) (q : Nat), q2t.f K e0 l ((p : Nat) : Int) = some (x.1, x.2.1, x.2.2.1, x.2.2.2.1, x.2.2.2.2, e, ((q : Nat) : Int)) ∧ Took l p q e0 e (q5k x) ∧ (e = .nil → j0b x) := by
  unfold q2t.f
  obtain ⟨n, e1, q1, h1, h2, h3⟩ := q43 (K := K) hK (most := 12) hR h0 (by omega)
  rw [q53 (by omega)] at h2
  obtain ⟨xs, e2, q2, g1, g2, g3, g4⟩ := j3o (K := K) hK (n := n) (by omega) (h2.rd hR) h2.lst
  obtain ⟨y, e3, q3, f1, f2, f3⟩ := end_take (K := K) hK (g2.rd (h2.rd hR)) g2.lst
  simp only [h1, q0b, g1, f1]
  refine ⟨(xs, y), e3, q3, rfl, ((h2.app g2).app f2).cast fun _ => ?_, fun he => ⟨by dsimp only; omega, g4 (f2.ok he).1, f3 he⟩⟩
  simp [q5k, g3]
theorem j0k (hK : 20000 ≤ K) {n : Nat} {p : Nat} {l : List Int} {e0 : Err} (hn : n ≤ 1000) (hR : Rd l p) (h0 : Lst e0) :
    ∃ (xs : List q1m) (e : Err) (q : Nat), q2e.l0.f K K ((n : Nat) : Int) (0 : Int) e0 l ((p : Nat) : Int) [] = some (e, ((q : Nat) : Int), xs) ∧ Took l p q e0 e (xs.flatMap q5k) ∧ xs.length = n ∧ (e = .nil → ∀ x ∈ xs, j0b x) := by
  have key := q5y (enc := q5k) (Good := j0b) (l := l) (n := n) (L := fun k i e p acc => q2e.l0.f K k ((n : Nat) : Int) i e l p acc)
    (fun k e p acc => by
      rw [q2e.l0.f]
      simp)
    (fun k i e p acc hi ha hR he => by
      rw [q2e.l0.f]
      obtain ⟨x, e', q, h1, h2, h3⟩ := j37 (K := K) hK hR he
      refine ⟨x, e', q, ?_, h2, h3⟩
      have e1 : decide (((i : Nat) : Int) < ((n : Nat) : Int)) = true := decide_eq_true (by omega)
      simp only [e1, cond_true, h1, q0b, q63 ha (by omega), q57 (n := i) (by omega)])
    n K 0 e0 p [] (by omega) (by omega) (by omega) rfl hR h0
  obtain ⟨xs, e, q, h1, h2, h3, h4⟩ := key
  exact ⟨xs, e, q, by simpa using h1, h2, h3, h4⟩
end Go.Proofs.YtdjkdmjdcdljmaaGreatDoor.AU
namespace Go.Proofs.YtdjkdmjdcdljmaaGreatDoor.AU
open Go.Proofs.YtdjkdmjdcdljmaaGreatDoorY
set_option maxRecDepth 100000
set_option maxHeartbeats 4000000
variable {K : Nat}
theorem q95 {l : List Int} {p : Nat} (hR : Rd l p) : q16.f K l ((p : Nat) : Int) = some ((l.length - p : Nat) : Int) := by
  have h1 := hR.le
  have h2 := hR.len
  unfold q16.f
  rw [q0u (by omega) (by omega)]
  rw [show ((l.length : Nat) : Int) - ((p : Nat) : Int) = ((l.length - p : Nat) : Int) by omega]
theorem z5o {l : List Int} (h : l.length ≤ 4000000) : q0q.f K l = some l := by
  unfold q0q.f
  rw [Nat.ble_eq_true_of_le (by omega)]; rfl
theorem q85 (hK : 20000 ≤ K) {n p : Nat} {l : List Int} (hn : n ≤ 1000000) (hR : Rd l p) :
    ∃ (x : List Int) (e : Err) (q : Nat), q1q.f K ((n : Nat) : Int) l ((p : Nat) : Int) = some (x, e, ((q : Nat) : Int)) ∧ Took l p q .nil e x ∧ (e = .nil → x.length = n ∧ q = p + n) ∧ ((n ≤ l.length - p) → e = .nil) ∧ (e ≠ .nil → x = []) := by
  have h1 := hR.le
  have h2 := hR.len
  unfold q1q.f
  have e1 : decide (((n : Nat) : Int) < (0 : Int)) = false := by simp
  simp only [q0z, q0b, e1, cond_false, q95 hR]
  by_cases h : ((n : Nat) : Int) > ((l.length - p : Nat) : Int)
  · simp only [decide_eq_true h, cond_true, q8m (K := K) (by omega), q0b]
    exact ⟨[], _, p, rfl, Took.bad h1 (q6h (by omega)) z0q, (fun h => by cases h), (fun h' => by omega), fun _ => rfl⟩
  · have w1 : IntKind.i64.wrap (((p : Nat) : Int) + ((n : Nat) : Int)) = ((p + n : Nat) : Int) := by rw [q0u (by omega) (by omega)]; simp
    have w2 : IntKind.i64.wrap (((p + n : Nat) : Int) - ((n : Nat) : Int)) = ((p : Nat) : Int) := by rw [q0u (by omega) (by omega)]; omega
    have e3 : (decide ((0 : Int) ≤ ((p : Nat) : Int)) && decide (((p : Nat) : Int) ≤ ((p + n : Nat) : Int)) && decide (((p + n : Nat) : Int) ≤ ((l.length : Nat) : Int)) && true) = true := by simp; omega
    have hlen : (List.drop p (List.take (p + n) l)).length = n := by simp; omega
    simp only [decide_eq_false h, cond_false, w1, w2, e3, cond_true, Int.toNat_natCast, z5o (K := K) (l := List.drop p (List.take (p + n) l)) (by omega), q0b]
    refine ⟨_, _, p + n, rfl, ⟨by omega, by omega, trivial, fun _ => ⟨rfl, h1, by rw [hlen], l.drop (p + n), ?_⟩⟩, fun _ => ⟨hlen, rfl⟩, fun _ => rfl, fun h => absurd rfl h⟩
    rw [List.drop_take, ← List.drop_drop, Nat.add_sub_cancel_left, List.take_append_drop]
theorem z8v (hK : 20000 ≤ K) {p : Nat} {l : List Int} (hR : Rd l p) : ∃ e, q2w.f K l ((p : Nat) : Int) = some e ∧ Lst e ∧ (e = .nil → p = l.length) := by
  have h1 := hR.le
  unfold q2w.f
  simp only [q95 hR, q0b]
  by_cases h : ((l.length - p : Nat) : Int) > (0 : Int)
  · simp only [decide_eq_true h, cond_true, q8m (K := K) (by omega)]
    exact ⟨_, rfl, q6h (by omega), fun h => by cases h⟩
  · simp only [decide_eq_false h, cond_false]
    exact ⟨_, rfl, trivial, fun _ => by omega⟩
theorem q8x (hK : 20000 ≤ K) {p : Nat} {l : List Int} (hR : Rd l p) :
    (∃ (n t : Nat), q1t.f K l ((p : Nat) : Int) = some (.nil, ((t + n : Nat) : Int), l.take (t + n), ((t : Nat) : Int)) ∧ Seg l p (encU n) t ∧ t + n ≤ l.length) ∨
    (q1t.f K l ((p : Nat) : Int) = none ∧ ∃ o e, q1p.f K l ((p : Nat) : Int) = some (o, e, ((p : Nat) : Int)) ∧ e ≠ .nil ∧ Lst e) := by
  have h1 := hR.le
  have h2 := hR.len
  obtain ⟨n, s, e, g1, g2⟩ := z9y (K := K) hK (most := 18446744073709551615) hR
  have g1' : q18.f K (18446744073709551615 : Int) l ((p : Nat) : Int) = some (n, s, e) := g1
  unfold q1t.f q1p.f
  rw [g1', q0b]
  rcases g2 with ⟨g2, rfl, rfl⟩ | ⟨rfl, m, t, rfl, rfl, q1, q2, q3⟩
  · have e0 : (e != 0) = true := by rcases g2 with rfl | rfl | rfl <;> rfl
    right
    simp only [e0, cond_true, q8m (K := K) (by omega), q0b]
    exact ⟨trivial, _, _, rfl, z0q, q6h (by omega)⟩
  · have hq := q3.le
    have w1 : IntKind.i64.wrap (((l.length - p : Nat) : Int) - ((t : Nat) : Int)) = ((l.length - p - t : Nat) : Int) := by rw [q0u (by omega) (by omega)]; omega
    have w2 : IntKind.u64.wrap ((l.length - p - t : Nat) : Int) = ((l.length - p - t : Nat) : Int) := q3g (by omega) (by omega)
    simp only [show ((0 : Int) != 0) = false from rfl, cond_false, q95 hR, q0b, w1, w2]
    by_cases h : ((m : Nat) : Int) > ((l.length - p - t : Nat) : Int)
    · right
      simp only [decide_eq_true h, cond_true, q8m (K := K) (by omega), q0b]
      exact ⟨trivial, _, _, rfl, z0q, q6h (by omega)⟩
    · left
      have w3 : IntKind.i64.wrap ((m : Nat) : Int) = ((m : Nat) : Int) := q0u (by omega) (by omega)
      have w4 : IntKind.i64.wrap (((p : Nat) : Int) + ((t : Nat) : Int)) = ((p + t : Nat) : Int) := by rw [q0u (by omega) (by omega)]; simp
      have w5 : IntKind.i64.wrap (((p + t : Nat) : Int) + ((m : Nat) : Int)) = ((p + t + m : Nat) : Int) := by rw [q0u (by omega) (by omega)]; simp
      have w6 : IntKind.i64.wrap (((t : Nat) : Int) + ((m : Nat) : Int)) = ((t + m : Nat) : Int) := by rw [q0u (by omega) (by omega)]; simp
      have w7 : IntKind.i64.wrap (((p : Nat) : Int) + ((t + m : Nat) : Int)) = ((p + t + m : Nat) : Int) := by rw [q0u (by omega) (by omega)]; omega
      have e2 : (decide (((0 : Nat) : Int) ≤ ((p + t + m : Nat) : Int)) && decide (((p + t + m : Nat) : Int) ≤ ((l.length : Nat) : Int)) && true) = true := by simp; omega
      simp only [decide_eq_false h, cond_false, w3, w4, w5, w6, w7, e2, cond_true, Int.toNat_natCast, List.drop_zero]
      exact ⟨m, p + t, rfl, q3, by omega⟩
def q9p (s : ByteArray) : List Int := encU s.size ++ bytesOf s
theorem q8y {l : List Int} (h : ∀ x ∈ l, 0 ≤ x ∧ x < 256) : bytesOf (strOf l) = l := by
  unfold bytesOf strOf
  simp only [List.map_map]
  conv => rhs; rw [← List.map_id l]
  refine List.map_congr_left fun x hx => ?_
  have := h x hx
  simp
  omega
theorem z99 (hK : 20000 ≤ K) {p : Nat} {l : List Int} {e0 : Err} (hR : Rd l p) (h0 : Lst e0) :
    ∃ (s : ByteArray) (e : Err) (q : Nat), q3q.f K e0 l ((p : Nat) : Int) = some (s, e, ((q : Nat) : Int)) ∧ Took l p q e0 e (q9p s) ∧ s.size ≤ 8000 := by
  have h1 := hR.le
  have h2 := hR.len
  unfold q3q.f
  rw [q6f]
  cases h : e0.isNil with
  | false =>
    have hne : e0 ≠ .nil := fun e => by subst e; cases h
    simp only [Bool.not_false, cond_true]
    exact ⟨_, e0, p, rfl, Took.bad h1 h0 hne, by simp [ByteArray.size]⟩
  | true =>
    have := q3h h
    subst this
    simp only [Bool.not_true, cond_false]
    rcases q8x (K := K) hK hR with ⟨n, t, g1, g2, g3⟩ | ⟨g1, o, e, g2, g3, g4⟩
    · have ht := g2.le
      have hR2 : Rd (l.take (t + n)) t := ⟨by simp; omega, by simp; omega, fun x hx => hR.byte x (List.mem_of_mem_take hx)⟩
      have hl2 : (l.take (t + n)).length - t = n := by simp; omega
      obtain ⟨x, e, q, f1, f2, f3, f4, f5⟩ := q85 (K := K) hK (n := n) (l := l.take (t + n)) (p := t) (by omega) hR2
      have hrl := q95 (K := K) hR2
      rw [hl2] at hrl
      have he := f4 (by omega)
      subst he
      obtain ⟨f6, f7⟩ := f3 rfl
      simp only [g1, Option.elim_some, Err.isNil, Bool.not_true, cond_true, cond_false, hrl, q0b, f1]
      have hx : ∀ y ∈ x, 0 ≤ y ∧ y < 256 := fun y hy => by
        obtain ⟨_, _, _, post, hp⟩ := f2.ok rfl
        exact hR2.byte y (List.mem_of_mem_drop (by rw [hp]; exact List.mem_append_left _ hy))
      have hbs := q8y hx
      have hsz : (strOf x).size = n := by rw [← q4f, hbs, f6]
      refine ⟨strOf x, .nil, t + n, rfl, ⟨by omega, g3, trivial, fun _ => ⟨rfl, ?_⟩⟩, by omega⟩
      unfold q9p
      rw [hbs, hsz]
      refine g2.app ⟨by omega, by rw [f6], l.drop (t + n), ?_⟩
      obtain ⟨_, _, _, post, hp⟩ := f2.ok rfl
      have e2 : x = (l.take (t + n)).drop t := by
        have hpl := congrArg List.length hp
        rw [List.length_append, f6] at hpl
        have : post = [] := List.length_eq_zero_iff.1 (by simp at hpl; omega)
        rw [hp, this, List.append_nil]
      rw [e2, List.drop_take, Nat.add_sub_cancel_left, ← List.drop_drop, List.take_append_drop]
    · simp only [g1, Option.elim_none, g2, q0b, q6f, not_nil g3, Bool.not_false, cond_true]
      exact ⟨_, e, p, rfl, Took.bad h1 g4 g3, by simp [ByteArray.size]⟩
theorem z1e {s : ByteArray} (h : s.size ≤ 12) : q9p s = q47 s := by
  unfold q9p q47
  rw [z1v (by omega)]
  rfl
def q7i (f : q0x) : List Int := q9p f.1 ++ (f.2.1 :: f.2.2.1 :: ((f.2.2.2.length : Nat) : Int) :: f.2.2.2.flatMap q5k)
structure q9d (f : q0x) : Prop where
  name : f.1.size ≤ 8000
  arity : 0 ≤ f.2.1 ∧ f.2.1 ≤ 4
  regs : 0 ≤ f.2.2.1 ∧ f.2.2.1 ≤ 8
  len : f.2.2.2.length ≤ 12
  blocks : ∀ b ∈ f.2.2.2, j0b b
theorem func_take (hK : 20000 ≤ K) {p : Nat} {l : List Int} {e0 : Err} (hR : Rd l p) (h0 : Lst e0) :
    ∃ (x : q0x) (e : Err) (q : Nat), q2e.f K e0 l ((p : Nat) : Int) = some (x.1, x.2.1, x.2.2.1, x.2.2.2, e, ((q : Nat) : Int)) ∧ Took l p q e0 e (q7i x) ∧ (e = .nil → q9d x) := by
  unfold q2e.f
  obtain ⟨s, e1, q1, a1, a2, a3⟩ := z99 (K := K) hK hR h0
  have R1 := a2.rd hR
  obtain ⟨n2, e2, q2, b1, b2, b3⟩ := q43 (K := K) hK (most := 4) R1 a2.lst (by omega)
  rw [q53 (by omega)] at b2
  have R2 := b2.rd R1
  obtain ⟨n3, e3, q3, c1, c2, c3⟩ := q43 (K := K) hK (most := 8) R2 b2.lst (by omega)
  rw [q53 (by omega)] at c2
  have R3 := c2.rd R2
  obtain ⟨n4, e4, q4, d1, d2, d3⟩ := q43 (K := K) hK (most := 12) R3 c2.lst (by omega)
  rw [q53 (by omega)] at d2
  have R4 := d2.rd R3
  obtain ⟨xs, e5, q5, f1, f2, f3, f4⟩ := j0k (K := K) hK (n := n4) (by omega) R4 d2.lst
  simp only [a1, b1, c1, d1, f1, q0b]
  refine ⟨(s, ((n2 : Nat) : Int), ((n3 : Nat) : Int), xs), e5, q5, rfl, ((((a2.app b2).app c2).app d2).app f2).cast fun _ => ?_, fun he => ⟨a3, ⟨by dsimp only; omega, b3⟩, ⟨by dsimp only; omega, c3⟩, by dsimp only; omega, f4 he⟩⟩
  simp [q7i, f3]
theorem j38 (hK : 20000 ≤ K) {n : Nat} {p : Nat} {l : List Int} {e0 : Err} (hn : n ≤ 1000) (hR : Rd l p) (h0 : Lst e0) :
    ∃ (xs : List q0x) (e : Err) (q : Nat), q08.l1.f K K ((n : Nat) : Int) (0 : Int) e0 l ((p : Nat) : Int) [] = some (e, ((q : Nat) : Int), xs) ∧ Took l p q e0 e (xs.flatMap q7i) ∧ xs.length = n ∧ (e = .nil → ∀ x ∈ xs, q9d x) := by
  have key := q5y (enc := q7i) (Good := q9d) (l := l) (n := n) (L := fun k i e p acc => q08.l1.f K k ((n : Nat) : Int) i e l p acc)
    (fun k e p acc => by
      rw [q08.l1.f]
      simp)
    (fun k i e p acc hi ha hR he => by
      rw [q08.l1.f]
      obtain ⟨x, e', q, h1, h2, h3⟩ := func_take (K := K) hK hR he
      refine ⟨x, e', q, ?_, h2, h3⟩
      have e1 : decide (((i : Nat) : Int) < ((n : Nat) : Int)) = true := decide_eq_true (by omega)
      simp only [e1, cond_true, h1, q0b, q63 ha (by omega), q57 (n := i) (by omega)])
    n K 0 e0 p [] (by omega) (by omega) (by omega) rfl hR h0
  obtain ⟨xs, e, q, h1, h2, h3, h4⟩ := key
  exact ⟨xs, e, q, by simpa using h1, h2, h3, h4⟩
theorem j3r (hK : 20000 ≤ K) {n : Nat} {p : Nat} {l : List Int} {e0 : Err} (hn : n ≤ 1000) (hR : Rd l p) (h0 : Lst e0) :
    ∃ (xs : List Int) (e : Err) (q : Nat), q08.l0.f K K ((n : Nat) : Int) (0 : Int) e0 l ((p : Nat) : Int) [] = some (e, ((q : Nat) : Int), xs) ∧ Took l p q e0 e (xs.flatMap encI) ∧ xs.length = n ∧ (e = .nil → ∀ x ∈ xs, i64 x) := by
  have key := q5y (enc := encI) (Good := i64) (l := l) (n := n) (L := fun k i e p acc => q08.l0.f K k ((n : Nat) : Int) i e l p acc)
    (fun k e p acc => by
      rw [q08.l0.f]
      simp)
    (fun k i e p acc hi ha hR he => by
      rw [q08.l0.f]
      obtain ⟨x, e', q, h1, h2, h3⟩ := z3o (K := K) hK hR he
      refine ⟨x, e', q, ?_, h2, fun _ => h3⟩
      have e1 : decide (((i : Nat) : Int) < ((n : Nat) : Int)) = true := decide_eq_true (by omega)
      simp only [e1, cond_true, h1, q0b, q63 ha (by omega), q57 (n := i) (by omega)])
    n K 0 e0 p [] (by omega) (by omega) (by omega) rfl hR h0
  obtain ⟨xs, e, q, h1, h2, h3, h4⟩ := key
  exact ⟨xs, e, q, by simpa using h1, h2, h3, h4⟩
def q60 (m : q0g) : List Int := q9p m.1 ++ [m.2]
theorem z9z (hK : 20000 ≤ K) {n : Nat} {p : Nat} {l : List Int} {e0 : Err} (hn : n ≤ 1000) (hR : Rd l p) (h0 : Lst e0) :
    ∃ (xs : List q0g) (e : Err) (q : Nat), q08.l2.f K K ((n : Nat) : Int) (0 : Int) e0 l ((p : Nat) : Int) [] = some (e, ((q : Nat) : Int), xs) ∧ Took l p q e0 e (xs.flatMap q60) ∧ xs.length = n ∧ (e = .nil → ∀ x ∈ xs, x.1.size ≤ 8000 ∧ 0 ≤ x.2 ∧ x.2 ≤ 4) := by
  have key := q5y (enc := q60) (Good := fun x => x.1.size ≤ 8000 ∧ 0 ≤ x.2 ∧ x.2 ≤ 4) (l := l) (n := n) (L := fun k i e p acc => q08.l2.f K k ((n : Nat) : Int) i e l p acc)
    (fun k e p acc => by
      rw [q08.l2.f]
      simp)
    (fun k i e p acc hi ha hR he => by
      rw [q08.l2.f]
      obtain ⟨s, e1, q1, a1, a2, a3⟩ := z99 (K := K) hK hR he
      have R1 := a2.rd hR
      obtain ⟨n2, e2, q2, b1, b2, b3⟩ := q43 (K := K) hK (most := 4) R1 a2.lst (by omega)
      rw [q53 (by omega)] at b2
      refine ⟨(s, ((n2 : Nat) : Int)), e2, q2, ?_, a2.app b2, fun _ => ⟨a3, by dsimp only; omega, b3⟩⟩
      have e1 : decide (((i : Nat) : Int) < ((n : Nat) : Int)) = true := decide_eq_true (by omega)
      simp only [e1, cond_true, a1, b1, q0b, q63 ha (by omega), q57 (n := i) (by omega)])
    n K 0 e0 p [] (by omega) (by omega) (by omega) rfl hR h0
  obtain ⟨xs, e, q, h1, h2, h3, h4⟩ := key
  exact ⟨xs, e, q, by simpa using h1, h2, h3, h4⟩
noncomputable def z4i (K : Nat) (e : Err) (l : List Int) (p : Int) : Option (List Int × List q0x × List q0g × Err × Int) :=
  (q0i.f K 16 e l p).bind fun t => (q08.l0.f K K t.1 0 t.2.1 l t.2.2 []).bind fun t => (q0i.f K 24 t.1 l t.2.1).bind fun t_3 => (q08.l1.f K K t_3.1 0 t_3.2.1 l t_3.2.2 []).bind fun t_4 => (q0i.f K 24 t_4.1 l t_4.2.1).bind fun t_5 => (q08.l2.f K K t_5.1 0 t_5.2.1 l t_5.2.2 []).bind fun t_6 =>
    bif bif false then !t_6.1.isNil else t_6.1.isNil then (q2w.f K l t_6.2.1).bind fun t_7 => some (t.2.2, t_4.2.2, t_6.2.2, t_7, t_6.2.1) else some (t.2.2, t_4.2.2, t_6.2.2, t_6.1, t_6.2.1)
theorem mod_split (l : List Int) (p : Int) : q08.f K l p = (q1k.f K).bind fun t => (q1q.f K 3 l p).bind fun t => q1g (bif bif false then !t.2.1.isNil else t.2.1.isNil then some !(strOf t.1).toList == (ByteArray.mk #[(65 : UInt8), (86 : UInt8), (1 : UInt8)]).toList else some false) fun t_1 =>
    bif t_1 then (q1d.f K (Err.no 3) [p]).bind fun t_2 => z4i K t_2 l t.2.2 else z4i K t.2.1 l t.2.2 := by
  rfl
def z64 (cells : List Int) (fs : List q0x) (is : List q0g) : List Int :=
  [65, 86, 1] ++ (((cells.length : Nat) : Int) :: (cells.flatMap encI ++ (((fs.length : Nat) : Int) :: (fs.flatMap q7i ++ (((is.length : Nat) : Int) :: is.flatMap q60)))))
structure z0p (cells : List Int) (fs : List q0x) (is : List q0g) : Prop where
  clen : cells.length ≤ 16
  cells : ∀ c ∈ cells, i64 c
  len : fs.length ≤ 24 ∧ is.length ≤ 24
  funcs : ∀ f ∈ fs, q9d f
  imports : ∀ m ∈ is, m.1.size ≤ 8000 ∧ 0 ≤ m.2 ∧ m.2 ≤ 4
theorem j0a (hK : 20000 ≤ K) {p : Nat} {l : List Int} {e0 : Err} (hR : Rd l p) (h0 : Lst e0) :
    ∃ (cs : List Int) (fs : List q0x) (is : List q0g) (e : Err) (q : Nat), z4i K e0 l ((p : Nat) : Int) = some (cs, fs, is, e, ((q : Nat) : Int)) ∧ Took l p q e0 e (((cs.length : Nat) : Int) :: (cs.flatMap encI ++ (((fs.length : Nat) : Int) :: (fs.flatMap q7i ++ (((is.length : Nat) : Int) :: is.flatMap q60))))) ∧ (e = .nil → z0p cs fs is ∧ q = l.length) := by
  unfold z4i
  obtain ⟨n1, e1, q1, a1, a2, a3⟩ := q43 (K := K) hK (most := 16) hR h0 (by omega)
  rw [q53 (by omega)] at a2
  have R1 := a2.rd hR
  obtain ⟨cs, e2, q2, b1, b2, b3, b4⟩ := j3r (K := K) hK (n := n1) (by omega) R1 a2.lst
  have R2 := b2.rd R1
  obtain ⟨n3, e3, q3, c1, c2, c3⟩ := q43 (K := K) hK (most := 24) R2 b2.lst (by omega)
  rw [q53 (by omega)] at c2
  have R3 := c2.rd R2
  obtain ⟨fs, e4, q4, d1, d2, d3, d4⟩ := j38 (K := K) hK (n := n3) (by omega) R3 c2.lst
  have R4 := d2.rd R3
  obtain ⟨n5, e5, q5, f1, f2, f3⟩ := q43 (K := K) hK (most := 24) R4 d2.lst (by omega)
  rw [q53 (by omega)] at f2
  have R5 := f2.rd R4
  obtain ⟨is, e6, q6, g1, g2, g3, g4⟩ := z9z (K := K) hK (n := n5) (by omega) R5 f2.lst
  have R6 := g2.rd R5
  simp only [a1, b1, c1, d1, f1, g1, q0b, z7x]
  have T := ((((a2.app b2).app c2).app d2).app f2).app g2
  have hT : Took l p q6 e0 e6 (((cs.length : Nat) : Int) :: (cs.flatMap encI ++ (((fs.length : Nat) : Int) :: (fs.flatMap q7i ++ (((is.length : Nat) : Int) :: is.flatMap q60))))) := T.cast fun _ => by simp [b3, d3, g3]
  have hM : e6 = .nil → z0p cs fs is := fun he => by
    have h5 := (g2.ok he).1
    have h4 := (f2.ok h5).1
    have h3 := (d2.ok h4).1
    have h2 := (c2.ok h3).1
    exact ⟨by omega, b4 h2, ⟨by omega, by omega⟩, d4 h4, g4 he⟩
  cases h6 : e6.isNil with
  | false =>
    have hne : e6 ≠ .nil := fun e => by rw [e] at h6; cases h6
    simp only [cond_false]
    exact ⟨cs, fs, is, e6, q6, rfl, hT, fun h => absurd h hne⟩
  | true =>
    have := q3h h6
    subst this
    obtain ⟨e7, r1, r2, r3⟩ := z8v (K := K) hK R6
    simp only [cond_true, r1, q0b]
    exact ⟨cs, fs, is, e7, q6, rfl, ⟨hT.up, hT.le, r2, fun h => hT.ok rfl⟩, fun h => ⟨hM rfl, r3 h⟩⟩
theorem z1h {a b : List Int} (ha : ∀ x ∈ a, 0 ≤ x ∧ x < 256) (hb : ∀ x ∈ b, 0 ≤ x ∧ x < 256) (h : strOf a = strOf b) : a = b := by
  rw [← q8y ha, ← q8y hb, h]
theorem toList_inj {a b : ByteArray} (h : a.toList = b.toList) : a = b := by
  rw [ByteArray.toList_eq, ByteArray.toList_eq] at h
  cases a; cases b
  congr 1
  exact Array.ext' h
theorem j0y (hK : 20000 ≤ K) {p : Nat} {l : List Int} (hR : Rd l p) :
    ∃ (cs : List Int) (fs : List q0x) (is : List q0g) (e : Err) (q : Nat), q08.f K l ((p : Nat) : Int) = some (cs, fs, is, e, ((q : Nat) : Int)) ∧ Took l p q .nil e (z64 cs fs is) ∧ (e = .nil → z0p cs fs is ∧ q = l.length) := by
  rw [mod_split]
  obtain ⟨x, e1, q1, a1, a2, a3, a4, a5⟩ := q85 (K := K) hK (n := 3) (by omega) hR
  rw [show q1q.f K (3 : Int) l ((p : Nat) : Int) = _ from a1]
  have R1 := a2.rd hR
  simp only [q1k.f, q0b, z7x]
  have bad : ∀ e2 : Err, e2 ≠ .nil → Lst e2 → ∃ (cs : List Int) (fs : List q0x) (is : List q0g) (e : Err) (q : Nat), z4i K e2 l ((q1 : Nat) : Int) = some (cs, fs, is, e, ((q : Nat) : Int)) ∧ Took l p q .nil e (z64 cs fs is) ∧ (e = .nil → z0p cs fs is ∧ q = l.length) := fun e2 hne hl => by
    obtain ⟨cs, fs, is, e, q, b1, b2, b3⟩ := j0a (K := K) hK R1 hl
    have hn : e ≠ .nil := fun h => hne (b2.ok h).1
    exact ⟨cs, fs, is, e, q, b1, ⟨Nat.le_trans a2.up b2.up, b2.le, b2.lst, fun h => absurd h hn⟩, fun h => absurd h hn⟩
  cases h1 : e1.isNil with
  | false =>
    have hne : e1 ≠ .nil := fun e => by rw [e] at h1; cases h1
    simp only [cond_false, q0z, q0b]
    exact bad e1 hne a2.lst
  | true =>
    have := q3h h1
    subst this
    simp only [cond_true, q0z, q0b]
    cases hh : ((strOf x).toList == (ByteArray.mk #[(65 : UInt8), (86 : UInt8), (1 : UInt8)]).toList) with
    | false =>
      simp only [Bool.not_false, cond_true, q5q (K := K) (by omega), q0b]
      exact bad _ z0q (q6h (by omega))
    | true =>
      simp only [Bool.not_true, cond_false]
      obtain ⟨cs, fs, is, e, q, b1, b2, b3⟩ := j0a (K := K) hK R1 a2.lst
      have hx : x = [65, 86, 1] := by
        refine z1h (fun y hy => ?_) (by decide) (toList_inj ((beq_iff_eq.1 hh).trans (by rw [show strOf [65, 86, 1] = ByteArray.mk #[(65 : UInt8), (86 : UInt8), (1 : UInt8)] from rfl])))
        obtain ⟨_, _, _, post, hp⟩ := a2.ok rfl
        exact hR.byte y (List.mem_of_mem_drop (by rw [hp]; exact List.mem_append_left _ hy))
      subst hx
      exact ⟨cs, fs, is, e, q, b1, a2.app b2, b3⟩
end Go.Proofs.YtdjkdmjdcdljmaaGreatDoor.AU
namespace Go.Proofs.YtdjkdmjdcdljmaaGreatDoor.AU
open Go.Proofs.YtdjkdmjdcdljmaaGreatDoorY
set_option maxRecDepth 100000
set_option maxHeartbeats 4000000
variable {K : Nat}
def Say (o : Option Int) (P : Prop) : Prop := ∃ v, o = some v ∧ (0 ≤ v ∧ v ≤ 21) ∧ (v = 0 → P)
theorem q54 {c : Bool} {v : Int} {X : Option Int} {P : Prop} (hv : 1 ≤ v ∧ v ≤ 21) (h : c = false → Say X P) : Say (bif c then some v else X) P := by
  cases c with
  | true => exact ⟨v, rfl, by omega, fun h => by omega⟩
  | false => exact h rfl
theorem z3i {P : Prop} (h : P) : Say (some 0) P := ⟨0, rfl, by omega, fun _ => h⟩
theorem z73 {v : Int} {P : Prop} (h : 1 ≤ v ∧ v ≤ 21) : Say (some v) P := ⟨v, rfl, by omega, fun h' => by omega⟩
def LstN (n : Nat) (e : Err) : Prop := Lst e ∧ dep e ≤ n
def SayE (n : Nat) (o : Option Err) (P : Prop) : Prop := ∃ e, o = some e ∧ LstN n e ∧ (e = .nil → P)
theorem SayE.imp {n : Nat} {o : Option Err} {P Q : Prop} (h : SayE n o P) (f : P → Q) : SayE n o Q := by
  obtain ⟨e, h1, h2, h3⟩ := h
  exact ⟨e, h1, h2, fun h => f (h3 h)⟩
theorem z1i {l : List Int} (hl : l.length ≤ 8000) : ∀ (l2 l1 : List Int) (k : Nat), l = l1 ++ l2 → l2.length < k → ∃ r, q3j.l0.f K k l ((l.length : Nat) : Int) ((l1.length : Nat) : Int) = some r ∧ (r = .inr false ∨ (r = .inl () ∧ (∀ v ∈ l2, j4a v = true) ∧ (l1 = [] → ∀ v, l2[0]? = some v → 97 ≤ v ∧ v ≤ 122)))
  | l2, l1, 0, h, hk => by omega
  | [], l1, k + 1, h, hk => by
    rw [q3j.l0.f]
    simp only [q2n h, cond_false]
    exact ⟨_, rfl, .inr ⟨rfl, (fun v hv => by cases hv), (fun _ v hv => by cases hv)⟩⟩
  | x :: l2, l1, k + 1, h, hk => by
    rw [q3j.l0.f]
    have hl1 : l1.length ≤ 8000 := by rw [h] at hl; simp at hl; omega
    simp only [q2m h, ge0, q29 h, cond_true, q0b, q1a (l1 := l1) (x := x) (by omega)]
    obtain ⟨r, h1, h2⟩ := z1i hl l2 (l1 ++ [x]) k (q1j h) (by simp at hk; omega)
    have e1 : (bif decide (x ≥ (97 : Int)) then bif decide (x ≥ (48 : Int)) then some (decide (x ≤ (122 : Int)), decide (x ≤ (57 : Int))) else some (decide (x ≤ (122 : Int)), false) else bif decide (x ≥ (48 : Int)) then some (false, decide (x ≤ (57 : Int))) else some (false, false)) = some (decide (97 ≤ x) && decide (x ≤ 122), decide (48 ≤ x) && decide (x ≤ 57)) := by
      by_cases a1 : 97 ≤ x <;> by_cases a2 : 48 ≤ x <;> simp [a1, a2]
    rw [e1]
    simp only [q0z, q0b]
    cases hA : (decide (97 ≤ x) && decide (x ≤ 122)) with
    | true =>
      simp only [Bool.not_true, cond_false, q0b, h1]
      refine ⟨r, rfl, h2.imp id ?_⟩
      rintro ⟨rfl, q1, q2⟩
      refine ⟨rfl, fun v hv => ?_, fun _ v hv => ?_⟩
      · rcases List.mem_cons.1 hv with rfl | hv
        · simp [j4a, hA]
        · exact q1 v hv
      · simp at hv; subst hv; simpa using hA
    | false =>
      simp only [Bool.not_false, cond_true]
      cases hB : (decide (48 ≤ x) && decide (x ≤ 57)) with
      | false =>
        simp only [Bool.not_false, cond_true, q0b]
        exact ⟨_, rfl, .inl rfl⟩
      | true =>
        simp only [Bool.not_true, cond_false, q0b]
        by_cases h0 : l1.length = 0
        · have : (((l1.length : Nat) : Int) == (0 : Int)) = true := beq_iff_eq.2 (by omega)
          simp only [this, cond_true]
          exact ⟨_, rfl, .inl rfl⟩
        · have : (((l1.length : Nat) : Int) == (0 : Int)) = false := beq_eq_false_iff_ne.2 (by omega)
          simp only [this, cond_false, h1]
          refine ⟨r, rfl, h2.imp id ?_⟩
          rintro ⟨rfl, q1, q2⟩
          refine ⟨rfl, fun v hv => ?_, fun hl1 => by subst hl1; exact absurd rfl h0⟩
          rcases List.mem_cons.1 hv with rfl | hv
          · simp [j4a, hB]
          · exact q1 v hv
theorem empty_eq {s : ByteArray} : (s.toList == (ByteArray.mk #[]).toList) = decide (s.size = 0) := by
  rw [ByteArray.toList_eq, ByteArray.toList_eq]
  have e : s.size = s.data.toList.length := rfl
  rw [e]
  cases s.data.toList <;> simp
theorem z6c (hK : 20000 ≤ K) {s : ByteArray} (hs : s.size ≤ 8000) : ∃ b, q3j.f K s = some b ∧ (b = true → z8q s) := by
  have hbl := q4f s
  unfold q3j.f
  rw [Nat.ble_eq_true_of_le (by omega), cond_true]
  obtain ⟨r, h1, h2⟩ := z1i (K := K) (l := bytesOf s) (by omega) (bytesOf s) [] K rfl (by omega)
  rw [show q3j.l0.f K K (bytesOf s) (((bytesOf s).length : Nat) : Int) (0 : Int) = some r from h1, q0b]
  rcases h2 with rfl | ⟨rfl, q1, q2⟩
  · exact ⟨false, rfl, fun h => by cases h⟩
  · simp only [Sum.elim_inl, empty_eq]
    by_cases h0 : s.size = 0
    · simp only [h0, decide_true, Bool.not_true, cond_false, q0z, q0b]
      exact ⟨_, rfl, fun h => by cases h⟩
    · simp only [h0, decide_false, Bool.not_false, cond_true, q0z, q0b]
      refine ⟨_, rfl, fun h => ⟨by omega, by simp at h; omega, q2 rfl, q1⟩⟩
theorem z2j {regs : Int} {l : List Int} (hl : l.length ≤ 1000) : ∀ (l2 l1 : List Int) (k : Nat), l = l1 ++ l2 → l2.length < k → ∃ r, q09.l0.f K k l ((l.length : Nat) : Int) ((l1.length : Nat) : Int) regs = some r ∧ ((r = .inl () ∧ ∀ v ∈ l2, reg regs v) ∨ ∃ j : Nat, r = .inr ((j : Nat) : Int))
  | l2, l1, 0, h, hk => by omega
  | [], l1, k + 1, h, hk => by
    rw [q09.l0.f]
    simp only [q2n h, cond_false]
    exact ⟨_, rfl, .inl ⟨rfl, fun v hv => by cases hv⟩⟩
  | x :: l2, l1, k + 1, h, hk => by
    rw [q09.l0.f]
    have hl1 : l1.length ≤ 1000 := by rw [h] at hl; simp at hl; omega
    simp only [q2m h, ge0, q29 h, cond_true, q0b, q4g.f, q27, q1a (l1 := l1) (x := x) (by omega)]
    cases e : (decide (0 ≤ x) && decide (x < regs)) with
    | false =>
      simp only [Bool.not_false, cond_true]
      exact ⟨_, rfl, .inr ⟨l1.length, rfl⟩⟩
    | true =>
      simp only [Bool.not_true, cond_false]
      obtain ⟨r, h1, h2⟩ := z2j hl l2 (l1 ++ [x]) k (q1j h) (by simp at hk; omega)
      refine ⟨r, h1, h2.imp ?_ id⟩
      rintro ⟨rfl, q⟩
      refine ⟨rfl, fun v hv => ?_⟩
      rcases List.mem_cons.1 hv with rfl | hv
      · simpa [reg] using e
      · exact q v hv
theorem args_back (hK : 20000 ≤ K) {regs : Int} {l : List Int} (hl : l.length ≤ 1000) : ∃ b, q1y.f K l regs = some b ∧ (b = false → ∀ v ∈ l, reg regs v) := by
  unfold q1y.f q09.f
  obtain ⟨r, h1, h2⟩ := z2j (K := K) (regs := regs) hl l [] K rfl (by omega)
  rw [show q09.l0.f K K l ((l.length : Nat) : Int) (0 : Int) regs = some r from h1, q0b]
  rcases h2 with ⟨rfl, q⟩ | ⟨j, rfl⟩
  · exact ⟨_, rfl, fun _ => q⟩
  · refine ⟨_, rfl, fun h => ?_⟩
    have h' : decide (((j : Nat) : Int) ≥ (0 : Int)) = false := h
    simp at h'
theorem j0f {op : Int} (h : ¬ (1 ≤ op ∧ op ≤ 17)) : q2l.f K op = some (false, false, false, false, false) := by
  have e : ∀ k : Int, 1 ≤ k → k ≤ 17 → (op == k) = false := fun k h1 h2 => beq_eq_false_iff_ne.2 (by omega)
  unfold q2l.f
  simp only [e 1 (by decide) (by decide), e 2 (by decide) (by decide), e 3 (by decide) (by decide), e 4 (by decide) (by decide), e 5 (by decide) (by decide), e 6 (by decide) (by decide), e 7 (by decide) (by decide), e 8 (by decide) (by decide), e 9 (by decide) (by decide), e 10 (by decide) (by decide), e 11 (by decide) (by decide), e 12 (by decide) (by decide), e 13 (by decide) (by decide), e 14 (by decide) (by decide), e 15 (by decide) (by decide), e 16 (by decide) (by decide), e 17 (by decide) (by decide), cond_false]
theorem insn_back (hK : 20000 ≤ K) {cells : List Int} {fs : List q0x} {is : List q0g} (hl : fs.length + is.length ≤ 1000) {regs op d a b n : Int} {args : List Int} (ha : args.length ≤ 1000) (hb : -1000000 ≤ b ∧ b ≤ 1000000) :
    Say (q3l.f K cells fs is regs op d a b n args) (z2i cells.length (arities fs is) regs (op, d, a, b, n, args)) := by
  have len : (arities fs is).length = fs.length + is.length := by simp
  by_cases hop : 1 ≤ op ∧ op ≤ 17
  · unfold q3l.f q55.f
    simp only [q0z, q0b, z1j, c_or, c_and, c_imp, q27]
    by_cases h17 : op = 17
    · subst h17
      obtain ⟨q, g1, g2⟩ := args_back (K := K) hK (regs := regs) ha
      simp only [show q2l.f K 17 = some (true, false, false, true, true) from rfl, q0b, Bool.not_true, Bool.not_false, cond_true, cond_false, z91 (K := K) hl hb, g1]
      refine q54 (by decide) fun h1 => q54 (by decide) fun h2 => q54 (by decide) fun h3 => q54 (by decide) fun h4 => q54 (by decide) fun h5 => ?_
      simp only [show ((17 : Int) != 17) = false from rfl, cond_false]
      refine q54 (by decide) fun h6 => q54 (by decide) fun h7 => ?_
      cases q with
      | true => exact z73 (by decide)
      | false =>
      refine z3i ?_
      refine ⟨⟨by dsimp only; decide, by dsimp only; decide⟩, ?_, ?_, ?_, ?_, ?_⟩
      · simp [q8z, reg] at h2 ⊢; omega
      · simp [z03] at h1 ⊢; omega
      · simp [z4a, reg] at h6 h7 ⊢
        refine ⟨?_, h7.symm⟩
        unfold arI at h6
        split at h6
        · split at h6
          · rename_i v hv
            have := (List.getElem?_eq_some_iff.1 hv).1
            rw [len] at this
            omega
          · exact absurd rfl h6
        · exact absurd rfl h6
      · intro _
        simp at h1 ⊢
        omega
      · simpa using g2 rfl
    · have hop' := q9y hop.1 hop.2
      rcases hop' with rfl | rfl | rfl | rfl | rfl | rfl | rfl | rfl | rfl | rfl | rfl | rfl | rfl | rfl | rfl | rfl | rfl <;> first | exact absurd rfl h17 | skip
      all_goals simp only [q2l.f, Int.reduceBEq, Int.reduceBNe, q0b, Bool.not_true, Bool.not_false, cond_true, cond_false, beq_self_eq_true, bne_self_eq_false, Bool.or_true, Bool.or_false, Bool.false_or, Bool.true_or, Bool.and_false, Bool.and_true]
      all_goals refine q54 (by decide) fun h1 => q54 (by decide) fun h2 => q54 (by decide) fun h3 => q54 (by decide) fun h4 => q54 (by decide) fun h5 => z3i ?_
      all_goals simp at h1 h2 h3 h4 h5
      all_goals (refine ⟨⟨by dsimp only; decide, by dsimp only; decide⟩, ?_, ?_, ?_, ?_, ?_⟩ <;> simp [q8z, z03, z4a, reg] <;> first | omega | (simp_all; done) | (simp_all; omega))
  · unfold q3l.f
    rw [j0f hop]
    simp only [q0b, Bool.not_false, cond_true]
    exact z73 (by decide)
theorem end_back {regs : Int} {bs : List q1m} (o a t e : Int) : Say (q5r.f K regs bs o a t e) (z45 regs bs.length (o, a, t, e)) := by
  unfold q5r.f
  simp only [q0z, q0b, z1j, c_or, c_and, c_imp, q27]
  by_cases h : o = 1 ∨ o = 2 ∨ o = 3
  · rcases h with rfl | rfl | rfl
    all_goals simp only [Int.reduceBEq, Int.reduceBNe, Bool.not_true, Bool.not_false, cond_true, cond_false, beq_self_eq_true, bne_self_eq_false, Bool.or_true, Bool.or_false, Bool.false_or, Bool.true_or, Bool.and_false, Bool.and_true]
    all_goals refine ⟨_, rfl, ?_, fun h => ?_⟩
    all_goals first | (simp only [Bool.cond_eq_ite]; (repeat' split) <;> omega) | skip
    all_goals (
      obtain ⟨h1, h⟩ := z1r (by decide) h
      obtain ⟨h2, h⟩ := z1r (by decide) h
      obtain ⟨h3, h⟩ := z1r (by decide) h
      obtain ⟨h4, h⟩ := z1r (by decide) h
      obtain ⟨h5, h⟩ := z1r (by decide) h
      obtain ⟨h6, h⟩ := z1r (by decide) h
      simp at h1 h2 h3 h4 h5 h6
      refine ⟨⟨by dsimp only; decide, by dsimp only; decide⟩, ?_, ?_, ?_⟩ <;> simp [reg] <;> first | omega | (simp_all; done) | (simp_all; omega))
  · have e1 : (o == 1) = false := beq_eq_false_iff_ne.2 (by omega)
    have e2 : (o == 2) = false := beq_eq_false_iff_ne.2 (by omega)
    have e3 : (o == 3) = false := beq_eq_false_iff_ne.2 (by omega)
    simp only [e1, e2, e3, cond_false]
    exact ⟨5, rfl, by omega, fun h => by cases h⟩
section
variable {cells : List Int} {fs : List q0x} {is : List q0g} (hl : fs.length + is.length ≤ 1000)
include hl
theorem z5x (hK : 20000 ≤ K) {regs : Int} {l : List q3n} (hll : l.length ≤ 1000) (ht : ∀ x ∈ l, z90 x) : ∀ (l2 l1 : List q3n) (k : Nat), l = l1 ++ l2 → l2.length < k →
    ∃ r, q1z.l0.f K k l ((l.length : Nat) : Int) ((l1.length : Nat) : Int) cells fs is regs = some r ∧ ((r = .inl () ∧ ∀ x ∈ l2, z2i cells.length (arities fs is) regs x) ∨ ∃ e, r = .inr e ∧ e ≠ .nil ∧ LstN 1 e)
  | l2, l1, 0, h, hk => by omega
  | [], l1, k + 1, h, hk => by
    rw [q1z.l0.f]
    simp only [q2n h, cond_false]
    exact ⟨_, rfl, .inl ⟨rfl, fun x hx => by cases hx⟩⟩
  | x :: l2, l1, k + 1, h, hk => by
    rw [q1z.l0.f]
    have hl1 : l1.length ≤ 1000 := by rw [h] at hll; simp at hll; omega
    have hx := ht x (by rw [h]; simp)
    have hm : z1a x.1 < 128 := by unfold z1a; split <;> (try split) <;> omega
    obtain ⟨v, g1, g2, g3⟩ := insn_back (K := K) hK (cells := cells) (fs := fs) (is := is) hl (regs := regs) (op := x.1) (d := x.2.1) (a := x.2.2.1) (b := x.2.2.2.1) (n := x.2.2.2.2.1) (args := x.2.2.2.2.2) (by have := hx.len.1; omega) (by have := hx.b; omega)
    simp only [q2m h, ge0, q29 h, cond_true, q0b, g1, q1a (l1 := l1) (x := x) (by omega)]
    by_cases hv : v = 0
    · subst hv
      simp only [show ((0 : Int) != 0) = false from rfl, cond_false]
      obtain ⟨r, h1, h2⟩ := z5x hK hll ht l2 (l1 ++ [x]) k (q1j h) (by simp at hk; omega)
      refine ⟨r, h1, h2.imp ?_ id⟩
      rintro ⟨rfl, q⟩
      refine ⟨rfl, fun y hy => ?_⟩
      rcases List.mem_cons.1 hy with rfl | hy
      · exact g3 rfl
      · exact q y hy
    · have e : (v != 0) = true := by simp [hv]
      simp only [e, cond_true, q5q (K := K) (by omega), q0b]
      exact ⟨_, rfl, .inr ⟨_, rfl, z0q, q6h (by omega), Nat.le_refl _⟩⟩
theorem j0i (hK : 20000 ≤ K) {regs : Int} {bs : List q1m} {b : q1m} (hb : j0b b) :
    SayE 1 (q1z.f K cells fs is regs bs b.1 b.2.1 b.2.2.1 b.2.2.2.1 b.2.2.2.2) (z4d cells.length (arities fs is) regs bs.length b) := by
  have hlen := hb.len
  unfold q1z.f
  obtain ⟨r, h1, h2⟩ := z5x (K := K) hl hK (regs := regs) (l := b.1) (by omega) hb.insns b.1 [] K rfl (by omega)
  have e1 : decide (((b.1.length : Nat) : Int) > (12 : Int)) = false := decide_eq_false (by omega)
  rw [show q1z.l0.f K K b.1 ((b.1.length : Nat) : Int) (0 : Int) cells fs is regs = some r from h1]
  simp only [e1, cond_false, q0b]
  rcases h2 with ⟨rfl, q⟩ | ⟨e, rfl, q1, q2⟩
  · obtain ⟨v, g1, g2, g3⟩ := end_back (K := K) (regs := regs) (bs := bs) b.2.1 b.2.2.1 b.2.2.2.1 b.2.2.2.2
    simp only [Sum.elim_inl, g1, q0b]
    by_cases hv : v = 0
    · subst hv
      exact ⟨_, rfl, ⟨trivial, Nat.zero_le _⟩, fun _ => ⟨hlen, q, g3 rfl⟩⟩
    · have e : (v != 0) = true := by simp [hv]
      simp only [e, cond_true, q5q (K := K) (by omega)]
      exact ⟨_, rfl, ⟨q6h (by omega), Nat.le_refl _⟩, fun h => by cases h⟩
  · simp only [Sum.elim_inr]
    exact ⟨_, rfl, q2, fun h => absurd h q1⟩
omit hl in
theorem fat_lst (hK : 20000 ≤ K) {n : Nat} {e : Err} {i : Nat} (hn : n ≤ 7) (h1 : e ≠ .nil) (h2 : LstN n e) : ∃ e', q1d.f K e [((i : Nat) : Int)] = some e' ∧ e' ≠ .nil ∧ LstN (n + 1) e' := by
  rw [q5q (K := K) (by omega), not_nil h1]
  exact ⟨_, rfl, z0q, ⟨by omega, not_nil h1, h2.1, Nat.le_trans h2.2 hn⟩, Nat.succ_le_succ h2.2⟩
theorem z2u (hK : 20000 ≤ K) {i : Nat} {f : q0x} (hf : fs[i]? = some f) (ht : q9d f) : ∀ (l2 l1 : List q1m) (k : Nat), f.2.2.2 = l1 ++ l2 → l2.length < k →
    ∃ r, q1n.l0.f K k ((i : Nat) : Int) f.2.2.2 ((f.2.2.2.length : Nat) : Int) ((l1.length : Nat) : Int) cells fs is = some r ∧ ((r = .inl () ∧ ∀ x ∈ l2, z4d cells.length (arities fs is) f.2.2.1 f.2.2.2.length x) ∨ ∃ e, r = .inr e ∧ e ≠ .nil ∧ LstN 2 e)
  | l2, l1, 0, h, hk => by omega
  | [], l1, k + 1, h, hk => by
    rw [q1n.l0.f]
    simp only [q2n h, cond_false]
    exact ⟨_, rfl, .inl ⟨rfl, fun x hx => by cases hx⟩⟩
  | x :: l2, l1, k + 1, h, hk => by
    rw [q1n.l0.f]
    have hlen := ht.len
    have hl1 : l1.length ≤ 1000 := by rw [h] at hlen; simp at hlen; omega
    have hx := ht.blocks x (by rw [h]; simp)
    obtain ⟨e, g1, g2, g3⟩ := j0i (K := K) hl hK (cells := cells) (regs := f.2.2.1) (bs := f.2.2.2) hx
    have hgx : f.2.2.2[l1.length]? = some x := by rw [h]; simp
    simp only [q2m h, ge0, Int.toNat_natCast, hgx, hf, cond_true, q0b, g1, q6f, q1a (l1 := l1) (x := x) (by omega)]
    cases hn : e.isNil with
    | true =>
      have := q3h hn
      subst this
      simp only [Bool.not_true, cond_false]
      obtain ⟨r, h1, h2⟩ := z2u hK hf ht l2 (l1 ++ [x]) k (q1j h) (by simp at hk; omega)
      refine ⟨r, h1, h2.imp ?_ id⟩
      rintro ⟨rfl, q⟩
      refine ⟨rfl, fun y hy => ?_⟩
      rcases List.mem_cons.1 hy with rfl | hy
      · exact g3 rfl
      · exact q y hy
    | false =>
      obtain ⟨e', f1, f2, f3⟩ := fat_lst (K := K) hK (n := 1) (by decide) (i := l1.length) (fun h => by rw [h] at hn; cases hn) g2
      simp only [Bool.not_false, cond_true, f1, q0b]
      exact ⟨_, rfl, .inr ⟨_, rfl, f2, f3⟩⟩
omit hl in
theorem or_some {a b : Bool} : (bif a then some true else some b) = some (a || b) := by cases a <;> rfl
theorem j3p (hK : 20000 ≤ K) {i : Nat} {f : q0x} (hf : fs[i]? = some f) (ht : q9d f) :
    Say (q38.f K fs is ((i : Nat) : Int)) (z8q f.1 ∧ ((i : Nat) : Int) ≤ fndI (names fs is) f.1 ∧ (0 ≤ f.2.1 ∧ f.2.1 ≤ 4) ∧ (1 ≤ f.2.2.1 ∧ f.2.2.1 ≤ 8 ∧ f.2.1 ≤ f.2.2.1) ∧ 1 ≤ f.2.2.2.length ∧ f.2.2.2.length ≤ 12) := by
  obtain ⟨b, g1, g2⟩ := z6c (K := K) hK ht.name
  unfold q38.f
  simp only [ge0, Int.toNat_natCast, hf, cond_true, q0b, g1, z3h hl hK, q27, q0z, or_some]
  refine q54 (by decide) fun h1 => q54 (by decide) fun h2 => q54 (by decide) fun h3 => q54 (by decide) fun h4 => ?_
  cases h5 : (decide (((f.2.2.2.length : Nat) : Int) < (1 : Int)) || decide (((f.2.2.2.length : Nat) : Int) > (12 : Int))) with
  | true => simp only [h5, cond_true]; exact z73 (by decide)
  | false =>
    simp only [h5, cond_false]
    refine z3i ⟨g2 (by simpa using h1), by simpa using h2, ht.arity, ?_, ?_⟩
    · have hr := ht.regs
      have ha := ht.arity
      simp only [Bool.or_eq_false_iff, decide_eq_false_iff_not] at h4
      obtain ⟨h4, h4'⟩ := h4
      split at h4 <;> omega
    · simp only [Bool.or_eq_false_iff, decide_eq_false_iff_not] at h5
      omega
theorem z7s (hK : 20000 ≤ K) {i : Nat} {f : q0x} (hf : fs[i]? = some f) (ht : q9d f) :
    SayE 2 (q1n.f K cells fs is ((i : Nat) : Int)) (okFunc cells.length (arities fs is) f ∧ ((i : Nat) : Int) ≤ fndI (names fs is) f.1) := by
  obtain ⟨v, g1, g2, g3⟩ := j3p (K := K) hl hK hf ht
  unfold q1n.f
  simp only [g1, q0b]
  by_cases hv : v = 0
  · subst hv
    obtain ⟨q1, q2, q3, q4, q5⟩ := g3 rfl
    have hlen := ht.len
    obtain ⟨r, h1, h2⟩ := z2u (K := K) hl hK (cells := cells) hf ht f.2.2.2 [] K rfl (by omega)
    simp only [show ((0 : Int) != 0) = false from rfl, cond_false, ge0, Int.toNat_natCast, hf, cond_true, q0b]
    rw [show q1n.l0.f K K ((i : Nat) : Int) f.2.2.2 ((f.2.2.2.length : Nat) : Int) (0 : Int) cells fs is = some r from h1, q0b]
    rcases h2 with ⟨rfl, q⟩ | ⟨e, rfl, p1, p2⟩
    · exact ⟨_, rfl, ⟨trivial, Nat.zero_le _⟩, fun _ => ⟨⟨q1, q3, q4, q5, q⟩, q2⟩⟩
    · exact ⟨_, rfl, p2, fun h => absurd h p1⟩
  · have e : (v != 0) = true := by simp [hv]
    simp only [e, cond_true]
    exact ⟨_, rfl, ⟨by constructor <;> omega, Nat.zero_le _⟩, fun h => by cases h⟩
theorem z6p (hK : 20000 ≤ K) {l1 l2 : List q0g} {x : q0g} (hi : is = l1 ++ x :: l2) (ht : x.1.size ≤ 8000) :
    Say (q21.f K fs is ((l1.length : Nat) : Int)) (z7n fs is l1.length x) := by
  obtain ⟨b, g1, g2⟩ := z6c (K := K) hK ht
  have hx : is[l1.length]? = some x := by rw [hi]; simp
  unfold q21.f
  simp only [ge0, Int.toNat_natCast, hx, cond_true, q0b, g1]
  refine q54 (by decide) fun h1 => ?_
  obtain ⟨c, c1, c2⟩ : ∃ c : Bool, (bif decide (((l1.length : Nat) : Int) > (0 : Int)) then bif decide ((0 : Int) ≤ IntKind.i64.wrap (((l1.length : Nat) : Int) - (1 : Int))) && true then is[(IntKind.i64.wrap (((l1.length : Nat) : Int) - (1 : Int))).toNat]?.bind fun t_2 => some (Op.bytesLess (ByteArray.toList x.1) (ByteArray.toList t_2.1) || ByteArray.toList x.1 == ByteArray.toList t_2.1) else none else some false) = some c ∧ (c = false → afterB is l1.length x) := by
    by_cases h0 : l1.length = 0
    · have : decide (((l1.length : Nat) : Int) > (0 : Int)) = false := decide_eq_false (by omega)
      simp only [this, cond_false]
      exact ⟨_, rfl, fun _ j p hj => by omega⟩
    · have e0 : decide (((l1.length : Nat) : Int) > (0 : Int)) = true := decide_eq_true (by omega)
      have hlt : l1.length < is.length := (List.getElem?_eq_some_iff.1 hx).1
      have w : IntKind.i64.wrap (((l1.length : Nat) : Int) - (1 : Int)) = ((l1.length - 1 : Nat) : Int) := by rw [q0u (by omega) (by omega)]; omega
      have hp : is[l1.length - 1]? = some is[l1.length - 1] := List.getElem?_eq_getElem (by omega)
      simp only [e0, cond_true, w, ge0, Int.toNat_natCast, hp, q0b]
      refine ⟨_, rfl, fun hc j p hj hp' => ?_⟩
      have : j = l1.length - 1 := by omega
      subst this
      rw [hp] at hp'
      cases hp'
      exact hc
  rw [c1]
  simp only [q0z, q0b, z3h hl hK, q27]
  refine q54 (by decide) fun h2 => q54 (by decide) fun h3 => ?_
  cases h4 : (decide (0 ≤ x.2) && decide (x.2 < 5)) with
  | false => simp only [Bool.not_false, cond_true]; exact z73 (by decide)
  | true =>
    simp only [Bool.not_true, cond_false]
    refine z3i ⟨g2 (by simpa using h1), c2 h2, by simpa using h3, ?_⟩
    simp at h4
    omega
theorem z0b (hK : 20000 ≤ K) (ht : ∀ f ∈ fs, q9d f) : ∀ (l2 l1 : List q0x) (k : Nat), fs = l1 ++ l2 → l2.length < k →
    ∃ r, q2g.l0.f K k ((fs.length : Nat) : Int) ((l1.length : Nat) : Int) cells fs is = some r ∧ ((r = .inl () ∧ ∀ (i : Nat) f, l1.length ≤ i → fs[i]? = some f → okFunc cells.length (arities fs is) f ∧ ((i : Nat) : Int) ≤ fndI (names fs is) f.1) ∨ ∃ e, r = .inr e ∧ e ≠ .nil ∧ LstN 3 e)
  | l2, l1, 0, h, hk => by omega
  | [], l1, k + 1, h, hk => by
    rw [q2g.l0.f]
    simp only [q2n h, cond_false]
    refine ⟨_, rfl, .inl ⟨rfl, fun i f hi hf => ?_⟩⟩
    have := (List.getElem?_eq_some_iff.1 hf).1
    have : fs.length = l1.length := by rw [h]; simp
    omega
  | x :: l2, l1, k + 1, h, hk => by
    rw [q2g.l0.f]
    have hl1 : l1.length ≤ 1000 := by have := congrArg List.length h; simp at this; omega
    have hf : fs[l1.length]? = some x := by rw [h]; simp
    obtain ⟨e, g1, g2, g3⟩ := z7s (K := K) hl hK (cells := cells) hf (ht x (by rw [h]; simp))
    simp only [q2m h, cond_true, q0b, g1, q6f, q1a (l1 := l1) (x := x) (by omega)]
    cases hn : e.isNil with
    | true =>
      have := q3h hn
      subst this
      simp only [Bool.not_true, cond_false]
      obtain ⟨r, h1, h2⟩ := z0b hK ht l2 (l1 ++ [x]) k (q1j h) (by simp at hk; omega)
      refine ⟨r, h1, h2.imp ?_ id⟩
      rintro ⟨rfl, q⟩
      refine ⟨rfl, fun i f hi hf' => ?_⟩
      by_cases he : i = l1.length
      · subst he
        rw [hf] at hf'
        cases hf'
        exact g3 rfl
      · exact q i f (by simp; omega) hf'
    | false =>
      obtain ⟨e', f1, f2, f3⟩ := fat_lst (K := K) hK (n := 2) (by decide) (i := l1.length) (fun h => by rw [h] at hn; cases hn) g2
      simp only [Bool.not_false, cond_true, f1, q0b]
      exact ⟨_, rfl, .inr ⟨_, rfl, f2, f3⟩⟩
theorem z0d (hK : 20000 ≤ K) (ht : ∀ m ∈ is, m.1.size ≤ 8000 ∧ 0 ≤ m.2 ∧ m.2 ≤ 4) : ∀ (l2 l1 : List q0g) (k : Nat), is = l1 ++ l2 → l2.length < k →
    ∃ r, q2g.l1.f K k ((is.length : Nat) : Int) ((l1.length : Nat) : Int) fs is = some r ∧ ((r = .inl () ∧ ∀ (i : Nat) m, l1.length ≤ i → is[i]? = some m → z7n fs is i m) ∨ ∃ e, r = .inr e ∧ e ≠ .nil ∧ LstN 3 e)
  | l2, l1, 0, h, hk => by omega
  | [], l1, k + 1, h, hk => by
    rw [q2g.l1.f]
    simp only [q2n h, cond_false]
    refine ⟨_, rfl, .inl ⟨rfl, fun i f hi hf => ?_⟩⟩
    have := (List.getElem?_eq_some_iff.1 hf).1
    have : is.length = l1.length := by rw [h]; simp
    omega
  | x :: l2, l1, k + 1, h, hk => by
    rw [q2g.l1.f]
    have hl1 : l1.length ≤ 1000 := by have := congrArg List.length h; simp at this; omega
    have hf : is[l1.length]? = some x := by rw [h]; simp
    obtain ⟨v, g1, g2, g3⟩ := z6p (K := K) hl hK (fs := fs) h (ht x (by rw [h]; simp)).1
    simp only [q2m h, cond_true, q0b, g1, q1a (l1 := l1) (x := x) (by omega)]
    by_cases hv : v = 0
    · subst hv
      simp only [show ((0 : Int) != 0) = false from rfl, cond_false]
      obtain ⟨r, h1, h2⟩ := z0d hK ht l2 (l1 ++ [x]) k (q1j h) (by simp at hk; omega)
      refine ⟨r, h1, h2.imp ?_ id⟩
      rintro ⟨rfl, q⟩
      refine ⟨rfl, fun i f hi hf' => ?_⟩
      by_cases he : i = l1.length
      · subst he
        rw [hf] at hf'
        cases hf'
        exact g3 rfl
      · exact q i f (by simp; omega) hf'
    · have e : (v != 0) = true := by simp [hv]
      have w : IntKind.i64.wrap (((fs.length : Nat) : Int) + ((l1.length : Nat) : Int)) = ((fs.length + l1.length : Nat) : Int) := by rw [q0u (by omega) (by omega)]; simp
      simp only [e, cond_true, w, q5q (K := K) (by omega), q0b]
      exact ⟨_, rfl, .inr ⟨_, rfl, z0q, q6h (by omega), (by decide : 1 ≤ 3)⟩⟩
end
theorem j1b (hK : 20000 ≤ K) {cells : List Int} {fs : List q0x} {is : List q0g} (ht : z0p cells fs is) : SayE 3 (q2g.f K cells fs is) (WF cells fs is) := by
  have h1 := ht.clen
  obtain ⟨h2, h3⟩ := ht.len
  unfold q2g.f
  have w : IntKind.i64.wrap (((fs.length : Nat) : Int) + ((is.length : Nat) : Int)) = ((fs.length + is.length : Nat) : Int) := by rw [q0u (by omega) (by omega)]; simp
  have e1 : decide (((cells.length : Nat) : Int) > (16 : Int)) = false := decide_eq_false (by omega)
  simp only [e1, cond_false, w, q0z, q0b]
  by_cases h24 : ((fs.length + is.length : Nat) : Int) > 24
  · simp only [decide_eq_true h24, cond_true]
    exact ⟨_, rfl, ⟨by constructor <;> omega, Nat.zero_le _⟩, fun h => by cases h⟩
  · simp only [decide_eq_false h24, cond_false]
    obtain ⟨r, a1, a2⟩ := z0b (K := K) (cells := cells) (fs := fs) (is := is) (by omega) hK ht.funcs fs [] K rfl (by omega)
    rw [show q2g.l0.f K K ((fs.length : Nat) : Int) (0 : Int) cells fs is = some r from a1, q0b]
    rcases a2 with ⟨rfl, q⟩ | ⟨e, rfl, q1, q2⟩
    · obtain ⟨r2, b1, b2⟩ := z0d (K := K) (fs := fs) (is := is) (by omega) hK ht.imports is [] K rfl (by omega)
      simp only [Sum.elim_inl]
      rw [show q2g.l1.f K K ((is.length : Nat) : Int) (0 : Int) fs is = some r2 from b1, q0b]
      rcases b2 with ⟨rfl, p⟩ | ⟨e, rfl, p1, p2⟩
      · exact ⟨_, rfl, ⟨trivial, Nat.zero_le _⟩, fun _ => ⟨h1, by omega, fun i f hf => q i f (by simp) hf, fun i m hm => p i m (by simp) hm⟩⟩
      · exact ⟨_, rfl, p2, fun h => absurd h p1⟩
    · exact ⟨_, rfl, q2, fun h => absurd h q1⟩
end Go.Proofs.YtdjkdmjdcdljmaaGreatDoor.AU
namespace Go.Proofs.YtdjkdmjdcdljmaaGreatDoor.AU
open Go.Proofs.YtdjkdmjdcdljmaaGreatDoorY Go.Proofs.YtdjkdmjdcdljmaaGreatDoorY.Runs
set_option maxRecDepth 100000
set_option maxHeartbeats 4000000
variable {K : Nat}
abbrev least : Int := -9223372036854775808
abbrev most : Int := 9223372036854775807
structure Vr (v : q0l) : Prop where
  s : 1 ≤ v.1 ∧ v.1 ≤ 7
  k : i64 v.2.1.2 ∧ (v.2.1.1 = false → v.2.1.2 = 0)
  lo : i64 v.2.2.1.1
  hi : i64 v.2.2.1.2
  le : v.2.2.1.1 ≤ v.2.2.1.2
  p : 1 ≤ v.2.2.2 ∧ v.2.2.2 ≤ 3
def encV (v : q0l) : List Int := ((hB v.1.toNat v.2.2.2.toNat v.2.1.1 (v.2.2.1.1 != least) (v.2.2.1.2 != most) : Nat) : Int) ::
  ((if v.2.1.1 then encI v.2.1.2 else []) ++ ((if v.2.2.1.1 != least then encI v.2.2.1.1 else []) ++ (if v.2.2.1.2 != most then encI v.2.2.1.2 else [])))
theorem z1g (v : q0l) : (encV v).length ≤ 31 := by
  have h1 := q7z v.2.1.2
  have h2 := q7z v.2.2.1.1
  have h3 := q7z v.2.2.1.2
  unfold encV
  simp only [List.length_cons, List.length_append]
  split <;> split <;> split <;> (try simp only [List.length_nil]) <;> omega
def q9a : Int → List Int → List Int
  | _, [] => []
  | nx, x :: r => encU (x - nx).toNat ++ q9a (x + 1) r
def q86 : Int → List (Int × Int) → List Int
  | _, [] => []
  | nx, p :: r => encU (p.1 - nx).toNat ++ (encU (p.2 - 1).toNat ++ q86 (p.1 + p.2 + 1) r)
def q6j (s : List Int) : List (Int × Int) := s.foldl q5w []
def q8i (n : Int) (s : List Int) : List Int := (List.range ((n + 7) / 8).toNat).map fun (j : Nat) => (((z7q s (j : Int)).toNat : Nat) : Int)
def q3o (n : Int) (s : List Int) (way : Int) : List Int :=
  if way = 0 then 0 :: q8i n s else if way = 1 then 1 :: (encU s.length ++ q9a 0 s) else 2 :: (encU (q6j s).length ++ q86 0 (q6j s))
def wayS (n : Int) (s : List Int) : Int :=
  if (q3o n s 2).length < (q3o n s (if (q3o n s 1).length < (q3o n s 0).length then 1 else 0)).length then 2 else if (q3o n s 1).length < (q3o n s 0).length then 1 else 0
def encS (n : Int) (s : List Int) : List Int := q3o n s (wayS n s)
theorem z5m : ∀ (s : List Int) (nx : Int), (q9a nx s).length ≤ 10 * s.length
  | [], _ => by simp [q9a]
  | x :: r, nx => by
    have h1 := q6b (x - nx).toNat
    have h2 := z5m r (x + 1)
    simp only [q9a, List.length_append, List.length_cons]
    omega
theorem z5j : ∀ (s : List (Int × Int)) (nx : Int), (q86 nx s).length ≤ 20 * s.length
  | [], _ => by simp [q86]
  | p :: r, nx => by
    have h1 := q6b (p.1 - nx).toNat
    have h2 := q6b (p.2 - 1).toNat
    have h3 := z5j r (p.1 + p.2 + 1)
    simp only [q86, List.length_append, List.length_cons]
    omega
theorem q3i {n : Int} : ∀ {s : List Int}, q2y n s → (s.length : Int) ≤ max n 0 := by
  have key : ∀ (s : List Int) (a : Int), s.Pairwise (· < ·) → (∀ x ∈ s, a ≤ x ∧ x < n) → (s.length : Int) ≤ max (n - a) 0 := by
    intro s
    induction s with
    | nil => intro a _ _; simp; omega
    | cons x s ih =>
      intro a hp hr
      have hp' := List.pairwise_cons.1 hp
      have hx := hr x (by simp)
      have := ih (x + 1) hp'.2 fun y hy => ⟨by have := hp'.1 y hy; omega, (hr y (by simp [hy])).2⟩
      simp only [List.length_cons]
      omega
  intro s h
  have := key s 0 h.1 h.2
  simpa using this
theorem flat_ge {R : List (Int × Int)} : ∀ {nx : Int}, sepR nx R → R.length ≤ (R.flatMap expand).length := by
  induction R with
  | nil => intro _ _; simp
  | cons p r ih =>
    intro nx h
    have h1 := ih h.2.2
    have h2 := h.2.1
    have : 1 ≤ (expand p).length := by simp [expand]; omega
    simp only [List.flatMap_cons, List.length_append, List.length_cons]
    omega
theorem z0w {n : Int} {s : List Int} (h : q2y n s) : sepR 0 (q6j s) ∧ (q6j s).flatMap expand = s := by
  have := j2z (n := n) s [] [] (by simpa using h) trivial rfl
  simpa [q6j] using this
theorem z55 {n : Int} {s : List Int} (h : q2y n s) : (q6j s).length ≤ s.length := by
  obtain ⟨h1, h2⟩ := z0w h
  have := flat_ge h1
  rw [h2] at this
  exact this
theorem z6d (n : Int) (s : List Int) : (q8i n s).length = ((n + 7) / 8).toNat := by simp [q8i]
theorem j3w {n : Int} {s : List Int} : (encS n s).length ≤ (q3o n s 0).length := by
  unfold encS wayS
  by_cases h1 : (q3o n s 1).length < (q3o n s 0).length
  · simp only [if_pos h1]
    by_cases h2 : (q3o n s 2).length < (q3o n s 1).length
    · rw [if_pos h2]; omega
    · rw [if_neg h2]; omega
  · simp only [if_neg h1]
    by_cases h2 : (q3o n s 2).length < (q3o n s 0).length
    · rw [if_pos h2]; omega
    · rw [if_neg h2]; omega
theorem z07 {n : Int} {s : List Int} : (encS n s).length ≤ 1 + ((n + 7) / 8).toNat := by
  have := j3w (n := n) (s := s)
  have h2 : (q3o n s 0).length = 1 + ((n + 7) / 8).toNat := by
    unfold q3o
    rw [if_pos rfl, List.length_cons, z6d]
    omega
  omega
end Go.Proofs.YtdjkdmjdcdljmaaGreatDoor.AU
namespace Go.Proofs.YtdjkdmjdcdljmaaGreatDoor.AU
open Go.Proofs.YtdjkdmjdcdljmaaGreatDoorY Go.Proofs.YtdjkdmjdcdljmaaGreatDoorY.Runs
set_option maxRecDepth 100000
set_option maxHeartbeats 4000000
variable {K : Nat}
theorem blt_mid {α : Type} {l l1 l2 : List α} {x : α} (h : l = l1 ++ x :: l2) : (((l1.length : Nat) : Int).toNat.blt l.length) = true := by
  subst h; exact Nat.ble_eq_true_of_le (by simp)
theorem q8w {α : Type} {l : List α} {x : α} {n : Nat} (h : l.length < n) : (l.length + [x].length).ble n = true := Nat.ble_eq_true_of_le (by simp; omega)
theorem z94 {n : Int} {s : List Int} (hs : s.length ≤ 4096) : ∀ (s2 s1 : List Int) (k : Nat) (last : Int), s = s1 ++ s2 → s2.length < k → s2.Pairwise (· < ·) → (∀ x ∈ s2, last < x ∧ x < n) → q23.l0.f K k n last s ((s.length : Nat) : Int) ((s1.length : Nat) : Int) = some (.inl ())
  | s2, s1, 0, last, h, hk, _, _ => by omega
  | [], s1, k + 1, last, h, hk, _, _ => by
    rw [q23.l0.f]
    simp only [q2n h, cond_false]
  | x :: s2, s1, k + 1, last, h, hk, hp, hr => by
    rw [q23.l0.f]
    have hl1 : s1.length ≤ 4096 := by rw [h] at hs; simp at hs; omega
    have hx := hr x (by simp)
    have e1 : decide (x ≤ last) = false := by simp; omega
    have e2 : decide (x ≥ n) = false := by simp; omega
    have hp' := List.pairwise_cons.1 hp
    simp only [List.length_cons] at hk
    simp only [q2m h, ge0, q29 h, cond_true, cond_false, q0b, e1, e2, q0z, q1a (l1 := s1) (x := x) (by omega)]
    exact z94 hs s2 (s1 ++ [x]) k x (q1j h) (by omega) hp'.2 fun y hy => ⟨hp'.1 y hy, (hr y (by simp [hy])).2⟩
theorem q9w (hK : 20000 ≤ K) {n : Int} {s : List Int} (hn : 0 ≤ n ∧ n ≤ 4096) (h : q2y n s) : q23.f K n s = some true := by
  unfold q23.f
  have hl := q3i h
  have e1 : decide (n < 0) = false := by simp; omega
  have e2 : decide (n > 4096) = false := by simp; omega
  have g := z94 (K := K) (n := n) (s := s) (by omega) s [] K (-1) rfl (by omega) h.1 fun x hx => ⟨by have := (h.2 x hx).1; omega, (h.2 x hx).2⟩
  rw [show q23.l0.f K K n (-1 : Int) s ((s.length : Nat) : Int) (0 : Int) = _ from g]
  simp only [e1, e2, cond_false, q0z, q0b]
  rfl
theorem set_row {c q : Nat} {f : Nat → Int} {v : Int} (hq : q < c) : ((0 : Int) :: (List.range c).map f).set (1 + q) v = 0 :: (List.range c).map fun j => if j = q then v else f j := by
  apply List.ext_getElem?
  intro i
  cases i with
  | zero => simp [Nat.add_comm 1 q]
  | succ i =>
    rw [Nat.add_comm 1 q, List.set_cons_succ, List.getElem?_cons_succ, List.getElem?_cons_succ, List.getElem?_set]
    simp only [List.getElem?_map, List.length_map, List.length_range]
    by_cases e : q = i
    · subst e; simp [hq]
    · rw [if_neg e]
      by_cases hi : i < c
      · simp [List.getElem?_range hi, Ne.symm e]
      · simp [List.getElem?_eq_none (l := List.range c) (i := i) (by simpa using hi)]
theorem get_row {c q : Nat} {f : Nat → Int} (hq : q < c) : ((0 : Int) :: (List.range c).map f)[1 + q]? = some (f q) := by
  rw [Nat.add_comm 1 q, List.getElem?_cons_succ]
  simp [hq]
theorem j1q {n : Int} {s : List Int} (hn : 0 ≤ n ∧ n ≤ 4096) (hs : s.length ≤ 4096) (hr : ∀ x ∈ s, 0 ≤ x ∧ x < n) : ∀ (s2 s1 : List Int) (k : Nat), s = s1 ++ s2 → s2.length < k → q5b.l0.f K k s ((s.length : Nat) : Int) ((s1.length : Nat) : Int) (0 :: q8i n s1) = some (0 :: q8i n s)
  | s2, s1, 0, h, hk => by omega
  | [], s1, k + 1, h, hk => by
    rw [q5b.l0.f]
    have : s1 = s := by simpa using h.symm
    subst this
    simp only [q2n h, cond_false]
  | x :: s2, s1, k + 1, h, hk => by
    rw [q5b.l0.f]
    have hl1 : s1.length ≤ 4096 := by rw [h] at hs; simp at hs; omega
    have hx := hr x (by rw [h]; simp)
    simp only [List.length_cons] at hk
    have t1 : Int.tdiv x 8 = x / 8 := Int.tdiv_eq_ediv_of_nonneg hx.1
    have t2 : Int.tmod x 8 = x % 8 := Int.tmod_eq_emod_of_nonneg hx.1
    have w1 : IntKind.i64.wrap (1 + IntKind.i64.wrap (Int.tdiv x 8)) = ((1 + (x / 8).toNat : Nat) : Int) := by
      rw [t1, q0u (n := x / 8) (by omega) (by omega), q0u (by omega) (by omega)]; omega
    have hq : (x / 8).toNat < ((n + 7) / 8).toNat := by omega
    have e1 : Nat.blt (1 + (x / 8).toNat) (0 :: q8i n s1).length = true := Nat.ble_eq_true_of_le (by simp only [List.length_cons, z6d]; omega)
    have e2 : ((0 : Int) :: q8i n s1)[1 + (x / 8).toNat]? = some (((z7q s1 (((x / 8).toNat : Nat) : Int)).toNat : Nat) : Int) := get_row hq
    have e3 : decide (Int.tmod x 8 < 0) = false := by rw [t2]; simp; omega
    have e4 := put_bit (z7q s1 (((x / 8).toNat : Nat) : Int)) (k := (x % 8).toNat) (by omega)
    have hm : s[s1.length]? = some x := by rw [h]; simp
    simp only [q2m h, ge0, ge0', hm, cond_true, q0b, w1, Int.toNat_natCast, e1, e2, e3, cond_false, q1a (l1 := s1) (x := x) (by omega)]
    rw [t2, e4]
    have e5 : ((0 : Int) :: q8i n s1).set (1 + (x / 8).toNat) (((z7q s1 (((x / 8).toNat : Nat) : Int) ||| BitVec.twoPow 8 (x % 8).toNat).toNat : Nat) : Int) = 0 :: q8i n (s1 ++ [x]) := by
      rw [q8i, set_row hq]
      congr 1
      refine List.map_congr_left fun j hj => ?_
      have hx8 : ((x / 8).toNat : Int) = x / 8 := by omega
      rw [j22]
      unfold byteF
      by_cases e : j = (x / 8).toNat
      · subst e
        rw [if_pos rfl, if_pos hx8.symm]
      · rw [if_neg e, if_neg (by omega)]
    rw [e5]
    exact j1q hn hs hr s2 (s1 ++ [x]) k (q1j h) (by omega)
theorem plain_val (hK : 20000 ≤ K) {n : Int} {s : List Int} (hn : 0 ≤ n ∧ n ≤ 4096) (h : q2y n s) : q5b.f K n s = some (q3o n s 0) := by
  unfold q5b.f
  have hl := q3i h
  have w1 : IntKind.i64.wrap (1 + IntKind.i64.wrap ((IntKind.i64.wrap (IntKind.i64.wrap (n + 8) - 1)).tdiv 8)) = ((1 + ((n + 7) / 8).toNat : Nat) : Int) := by
    rw [q0u (n := n + 8) (by omega) (by omega), q0u (n := n + 8 - 1) (by omega) (by omega), Int.tdiv_eq_ediv_of_nonneg (by omega), show n + 8 - 1 = n + 7 by omega, q0u (n := (n + 7) / 8) (by omega) (by omega), q0u (by omega) (by omega)]
    omega
  have g := j1q (K := K) (n := n) (s := s) hn (by omega) h.2 s [] K rfl (by omega)
  have e0 : List.replicate (1 + ((n + 7) / 8).toNat) (0 : Int) = 0 :: q8i n [] := by
    rw [Nat.add_comm 1, List.replicate_succ]
    congr 1
    apply List.ext_getElem?
    intro i
    simp only [q8i, List.getElem?_map, List.getElem?_replicate]
    by_cases hi : i < ((n + 7) / 8).toNat
    · simp [hi, z7q]
    · simp [hi, List.getElem?_eq_none (l := List.range ((n + 7) / 8).toNat) (i := i) (by simpa using hi)]
  rw [w1]
  have e1 : (decide ((0 : Int) ≤ ((1 + ((n + 7) / 8).toNat : Nat) : Int)) && decide (((1 + ((n + 7) / 8).toNat : Nat) : Int) ≤ 4000000) && ((1 + ((n + 7) / 8).toNat : Nat) : Int) == ((1 + ((n + 7) / 8).toNat : Nat) : Int) && true && true && true) = true := by simp; omega
  rw [e1, cond_true, Int.toNat_natCast, e0]
  rw [show q5b.l0.f K K s ((s.length : Nat) : Int) (0 : Int) (0 :: q8i n []) = _ from g]
  rfl
theorem z0z (hK : 20000 ≤ K) {n : Int} {l : List Int} (h0 : 0 ≤ n) (hn : n < 18446744073709551616) (hl : l.length + 10 ≤ 4000000) : q0d.f K (IntKind.u64.wrap n) l = some (l ++ encU n.toNat) := by
  obtain ⟨m, rfl⟩ : ∃ m : Nat, n = m := ⟨n.toNat, by omega⟩
  rw [q3g (by omega) (by omega), z1k hK (by omega) hl, Int.toNat_natCast]
theorem gaps_l0 (hK : 20000 ≤ K) {n : Int} {s : List Int} (hn : n ≤ 4096) (hs : s.length ≤ 4096) : ∀ (s2 s1 : List Int) (k : Nat) (nx : Int) (w : List Int), s = s1 ++ s2 → s2.length < k → 0 ≤ nx → s2.Pairwise (· < ·) → (∀ x ∈ s2, nx ≤ x ∧ x < n) → w.length + 10 * s2.length + 10 ≤ 4000000 → q56.l0.f K k nx s ((s.length : Nat) : Int) ((s1.length : Nat) : Int) w = some (w ++ q9a nx s2)
  | s2, s1, 0, nx, w, h, hk, _, _, _, _ => by omega
  | [], s1, k + 1, nx, w, h, hk, _, _, _, _ => by
    rw [q56.l0.f]
    simp only [q2n h, cond_false, q9a, List.append_nil]
  | x :: s2, s1, k + 1, nx, w, h, hk, h0, hp, hr, hw => by
    rw [q56.l0.f]
    have hl1 : s1.length ≤ 4096 := by rw [h] at hs; simp at hs; omega
    have hx := hr x (by simp)
    have hp' := List.pairwise_cons.1 hp
    simp only [List.length_cons] at hk hw
    have w1 : IntKind.i64.wrap (x - nx) = x - nx := q0u (by omega) (by omega)
    have w2 : IntKind.i64.wrap (x + 1) = x + 1 := q0u (by omega) (by omega)
    have hlen := q6b (x - nx).toNat
    simp only [q2m h, ge0, q29 h, cond_true, q0b, w1, w2, z0z hK (n := x - nx) (l := w) (by omega) (by omega) (by omega), q1a (l1 := s1) (x := x) (by omega)]
    rw [gaps_l0 hK hn hs s2 (s1 ++ [x]) k (x + 1) _ (q1j h) (by omega) (by omega) hp'.2 (fun y hy => ⟨by have := hp'.1 y hy; omega, (hr y (by simp [hy])).2⟩) (by simp only [List.length_append]; omega)]
    simp [q9a]
theorem q9u {l : List Int} (h : l.length ≤ 4000000) : q1s.f K l = some l := by
  unfold q1s.f q0j.f
  rw [Nat.ble_eq_true_of_le (by omega)]
  rfl
theorem gaps_val (hK : 20000 ≤ K) {n : Int} {s : List Int} (hn : 0 ≤ n ∧ n ≤ 4096) (h : q2y n s) : q56.f K s = some (q3o n s 1) := by
  unfold q56.f
  have hl := q3i h
  have h1 := q6b s.length
  have h2 := z5m s 0
  have g := gaps_l0 (K := K) hK (n := n) (s := s) hn.2 (by omega) s [] K 0 ([] ++ [1] ++ encU s.length) rfl (by omega) (by omega) h.1 h.2 (by simp only [List.length_append, List.length_cons, List.length_nil]; omega)
  have u := z1k (K := K) hK (n := s.length) (l := [] ++ [1]) (by omega) (by simp)
  rw [← q3g (n := ((s.length : Nat) : Int)) (by omega) (by omega)] at u
  simp only [q4b.f, q0b, q62 (K := K) (b := 1) (l := []) (by simp)]
  rw [u, q0b, show q56.l0.f K K (0 : Int) s ((s.length : Nat) : Int) (0 : Int) ([] ++ [1] ++ encU s.length) = _ from g, q0b, q9u (by simp only [List.length_append, List.length_cons, List.length_nil]; omega)]
  simp [q3o]
theorem z34 : ∀ {R : List (Int × Int)} {p : Int × Int} {x : Int}, q5w (R ++ [p]) x = if p.1 + p.2 = x then R ++ [(p.1, p.2 + 1)] else R ++ [p, (x, 1)]
  | [], p, x => by simp [q5w]
  | [q], p, x => by
    show q :: q5w [p] x = _
    simp only [q5w]
    split <;> rfl
  | q :: q' :: r, p, x => by
    show q :: q5w ((q' :: r) ++ [p]) x = _
    rw [z34 (R := q' :: r)]
    split <;> rfl
theorem j13 {n : Int} {s : List Int} (hn : n ≤ 4096) (hs : s.length ≤ 4096) (hr : ∀ x ∈ s, 0 ≤ x ∧ x < n) : ∀ (s2 s1 : List Int) (k : Nat) (R : List (Int × Int)), s = s1 ++ s2 → s2.length < k → R.length ≤ s1.length → (∀ p ∈ R, 0 ≤ p.1 ∧ p.1 ≤ 4096 ∧ 0 ≤ p.2 ∧ p.2 ≤ s1.length) → q49.l0.f K k s ((s.length : Nat) : Int) ((s1.length : Nat) : Int) R = some (s2.foldl q5w R)
  | s2, s1, 0, R, h, hk, _, _ => by omega
  | [], s1, k + 1, R, h, hk, _, _ => by
    rw [q49.l0.f]
    simp only [q2n h, cond_false, List.foldl_nil]
  | x :: s2, s1, k + 1, R, h, hk, hR, hb => by
    rw [q49.l0.f]
    have hl1 : s1.length ≤ 4096 := by rw [h] at hs; simp at hs; omega
    have hx := hr x (by rw [h]; simp)
    simp only [List.length_cons] at hk
    simp only [q2m h, ge0, q29 h, cond_true, q0b, q1a (l1 := s1) (x := x) (by omega)]
    have hnew : ∀ R' : List (Int × Int), R'.length ≤ s1.length + 1 → (∀ p ∈ R', 0 ≤ p.1 ∧ p.1 ≤ 4096 ∧ 0 ≤ p.2 ∧ p.2 ≤ s1.length + 1) → q49.l0.f K k s ((s.length : Nat) : Int) (((s1 ++ [x]).length : Nat) : Int) R' = some (s2.foldl q5w R') := fun R' h1 h2 =>
      j13 hn hs hr s2 (s1 ++ [x]) k R' (q1j h) (by omega) (by simpa using h1) (fun p hp => by have := h2 p hp; simp; omega)
    rcases List.eq_nil_or_concat R with rfl | ⟨R0, p, rfl⟩
    · have e1 : decide (IntKind.i64.wrap ((([] : List (Int × Int)).length : Int) - 1) ≥ 0) = false := by
        rw [q0u (by simp) (by simp)]; simp
      simp only [e1, cond_false, q0z, q0b, q8w (l := ([] : List (Int × Int))) (x := (x, (1 : Int))) (n := 4000000) (by simp), cond_true, List.foldl_cons]
      rw [hnew _ (by simp) (fun p hp => by simp at hp; subst hp; simp; omega)]
      rfl
    · simp only [List.concat_eq_append] at *
      have hp := hb p (by simp)
      have hlen : (R0 ++ [p]).length = R0.length + 1 := by simp
      have w1 : IntKind.i64.wrap ((((R0 ++ [p]).length : Nat) : Int) - 1) = ((R0.length : Nat) : Int) := by
        rw [hlen] at hR ⊢
        rw [q0u (by omega) (by omega)]; omega
      have e1 : decide (((R0.length : Nat) : Int) ≥ 0) = true := by simp
      have e2 : Nat.blt R0.length (R0 ++ [p]).length = true := Nat.ble_eq_true_of_le (by simp)
      have e3 : (R0 ++ [p])[R0.length]? = some p := by simp
      have w2 : IntKind.i64.wrap (p.1 + p.2) = p.1 + p.2 := q0u (by omega) (by omega)
      have w3 : IntKind.i64.wrap (p.2 + 1) = p.2 + 1 := q0u (by omega) (by omega)
      simp only [w1, e1, ge0', cond_true, Int.toNat_natCast, e2, e3, q0b, w2, w3, q0z, List.foldl_cons, z34]
      by_cases hc : p.1 + p.2 = x
      · have : (p.1 + p.2 == x) = true := by simp [hc]
        rw [this, cond_true, if_pos hc]
        have e4 : (R0 ++ [p]).set R0.length (p.1, p.2 + 1) = R0 ++ [(p.1, p.2 + 1)] := by simp
        rw [e4]
        refine hnew _ (by simp at hR ⊢; omega) fun q hq => ?_
        rcases List.mem_append.1 hq with hq | hq
        · have := hb q (by simp [hq]); omega
        · simp at hq; subst hq; simp; omega
      · have : (p.1 + p.2 == x) = false := by simp [hc]
        rw [this, cond_false, if_neg hc, q8w (by simp at hR ⊢; omega), cond_true]
        have e4 : R0 ++ [p] ++ [(x, 1)] = R0 ++ [p, (x, 1)] := by simp
        rw [e4]
        refine hnew _ (by simp at hR ⊢; omega) fun q hq => ?_
        simp only [List.mem_append, List.mem_cons, List.not_mem_nil, or_false] at hq
        rcases hq with hq | rfl | rfl
        · have := hb q (by simp [hq]); omega
        · omega
        · simp; omega
theorem split_val (hK : 20000 ≤ K) {n : Int} {s : List Int} (hn : 0 ≤ n ∧ n ≤ 4096) (h : q2y n s) : q49.f K s = some (q6j s) := by
  unfold q49.f
  have hl := q3i h
  exact j13 (K := K) hn.2 (by omega) h.2 s [] K [] rfl (by omega) (by simp) (by simp)
theorem runs_l0 (hK : 20000 ≤ K) {R : List (Int × Int)} (hR : R.length ≤ 4096) : ∀ (R2 R1 : List (Int × Int)) (k : Nat) (nx : Int) (w : List Int), R = R1 ++ R2 → R2.length < k → 0 ≤ nx → sepR nx R2 → (∀ p ∈ R2, p.1 ≤ 4096 ∧ p.2 ≤ 4096) → w.length + 20 * R2.length + 20 ≤ 4000000 → q5z.l0.f K k nx R ((R.length : Nat) : Int) ((R1.length : Nat) : Int) w = some (w ++ q86 nx R2)
  | R2, R1, 0, nx, w, h, hk, _, _, _, _ => by omega
  | [], R1, k + 1, nx, w, h, hk, _, _, _, _ => by
    rw [q5z.l0.f]
    simp only [q2n h, cond_false, q86, List.append_nil]
  | p :: R2, R1, k + 1, nx, w, h, hk, h0, hs, hb, hw => by
    rw [q5z.l0.f]
    have hl1 : R1.length ≤ 4096 := by rw [h] at hR; simp at hR; omega
    obtain ⟨s1, s2, s3⟩ := hs
    have hp := hb p (by simp)
    simp only [List.length_cons] at hk hw
    have w1 : IntKind.i64.wrap (p.1 - nx) = p.1 - nx := q0u (by omega) (by omega)
    have w2 : IntKind.i64.wrap (p.2 - 1) = p.2 - 1 := q0u (by omega) (by omega)
    have w3 : IntKind.i64.wrap (IntKind.i64.wrap (p.1 + p.2) + 1) = p.1 + p.2 + 1 := by rw [q0u (n := p.1 + p.2) (by omega) (by omega), q0u (by omega) (by omega)]
    have g1 := q6b (p.1 - nx).toNat
    have g2 := q6b (p.2 - 1).toNat
    simp only [q2m h, ge0, q29 h, cond_true, q0b, w1, w2, w3, z0z hK (n := p.1 - nx) (l := w) (by omega) (by omega) (by omega), z0z hK (n := p.2 - 1) (l := w ++ encU (p.1 - nx).toNat) (by omega) (by omega) (by simp only [List.length_append]; omega), q1a (l1 := R1) (x := p) (by omega)]
    rw [runs_l0 hK hR R2 (R1 ++ [p]) k (p.1 + p.2 + 1) _ (q1j h) (by omega) (by omega) s3 (fun q hq => hb q (by simp [hq])) (by simp only [List.length_append]; omega)]
    simp [q86]
theorem inRun {n : Int} {s : List Int} (h : q2y n s) : ∀ p ∈ q6j s, 0 ≤ p.1 ∧ 1 ≤ p.2 ∧ p.1 + p.2 ≤ n := by
  intro p hp
  obtain ⟨h1, h2⟩ := z0w h
  have key : ∀ {R : List (Int × Int)} {nx : Int}, sepR nx R → p ∈ R → nx ≤ p.1 ∧ 1 ≤ p.2 := by
    intro R
    induction R with
    | nil => intro _ _ h; simp at h
    | cons q r ih =>
      intro nx hs hm
      rcases List.mem_cons.1 hm with rfl | hm
      · exact ⟨hs.1, hs.2.1⟩
      · have := ih hs.2.2 hm
        have := hs.1
        have := hs.2.1
        omega
  obtain ⟨k1, k2⟩ := key h1 hp
  have hm : p.1 + p.2 - 1 ∈ s := by rw [← h2]; exact List.mem_flatMap.2 ⟨p, hp, z4f k2⟩
  have := (h.2 _ hm).2
  omega
theorem bruns_val (hK : 20000 ≤ K) {n : Int} {s : List Int} (hn : 0 ≤ n ∧ n ≤ 4096) (h : q2y n s) : q5z.f K s = some (q3o n s 2) := by
  unfold q5z.f
  have hl := q3i h
  have hsl := z55 h
  have h1 := q6b (q6j s).length
  have h2 := z5j (q6j s) 0
  have g := runs_l0 (K := K) hK (R := q6j s) (by omega) (q6j s) [] K 0 ([] ++ [2] ++ encU (q6j s).length) rfl (by omega) (by omega) (z0w h).1 (fun p hp => by have := inRun h p hp; omega) (by simp only [List.length_append, List.length_cons, List.length_nil]; omega)
  have u := z1k (K := K) hK (n := (q6j s).length) (l := [] ++ [2]) (by omega) (by simp)
  rw [← q3g (n := (((q6j s).length : Nat) : Int)) (by omega) (by omega)] at u
  simp only [split_val hK hn h, q4b.f, q0b, q62 (K := K) (b := 2) (l := []) (by simp)]
  rw [u, q0b, show q5z.l0.f K K (0 : Int) (q6j s) (((q6j s).length : Nat) : Int) (0 : Int) ([] ++ [2] ++ encU (q6j s).length) = _ from g, q0b, q9u (by simp only [List.length_append, List.length_cons, List.length_nil]; omega)]
  simp [q3o]
theorem z0v (hK : 20000 ≤ K) {n : Int} {s : List Int} (hn : 0 ≤ n ∧ n ≤ 4096) (h : q2y n s) {way : Int} (hw : way = 0 ∨ way = 1 ∨ way = 2) : q39.f K n s way = some (q3o n s way) := by
  unfold q39.f
  rcases hw with rfl | rfl | rfl
  · simp only [plain_val hK hn h]; rfl
  · simp only [gaps_val hK hn h]; rfl
  · simp only [bruns_val hK hn h]; rfl
theorem wayS_in {n : Int} {s : List Int} : wayS n s = 0 ∨ wayS n s = 1 ∨ wayS n s = 2 := by
  unfold wayS
  by_cases h1 : (q3o n s 1).length < (q3o n s 0).length <;> simp only [if_pos, if_neg, h1]
  · by_cases h2 : (q3o n s 2).length < (q3o n s 1).length <;> simp [h2]
  · by_cases h2 : (q3o n s 2).length < (q3o n s 0).length <;> simp [h2]
theorem way_val (hK : 20000 ≤ K) {n : Int} {s : List Int} (hn : 0 ≤ n ∧ n ≤ 4096) (h : q2y n s) : q5a.f K n s = some (wayS n s) := by
  unfold q5a.f
  obtain ⟨k, rfl⟩ : ∃ k, K = k + 3 := ⟨K - 3, by omega⟩
  have l0 := z0v (K := k + 3) hK hn h (way := 0) (by simp)
  have l1 := z0v (K := k + 3) hK hn h (way := 1) (by simp)
  have l2 := z0v (K := k + 3) hK hn h (way := 2) (by simp)
  have step2 : ∀ b : Int, q5a.l0.f (k + 3) (k + 1) n s b 1 2 2 = some b := fun b => by rw [q5a.l0.f]; rfl
  have step1 : ∀ b : Int, b = 0 ∨ b = 1 → q5a.l0.f (k + 3) (k + 2) n s b 1 2 1 = some (if (q3o n s 2).length < (q3o n s b).length then 2 else b) := fun b hb => by
    rw [q5a.l0.f]
    have lb' : q39.f (k + 3) n s b = some (q3o n s b) := by rcases hb with rfl | rfl; exact l0; exact l1
    simp only [show decide ((1 : Int) < 2) = true from rfl, show decide ((0 : Int) ≤ 1) = true from rfl, show ((1 : Int).toNat.blt 2) = true from rfl, show ((1 : Int).toNat.beq 1) = true from rfl, cond_true, l2, lb', q0b, show IntKind.i64.wrap ((1 : Int) + 1) = 2 from rfl, step2]
    by_cases hc : (q3o n s 2).length < (q3o n s b).length
    · have : decide (((q3o n s 2).length : Int) < ((q3o n s b).length : Int)) = true := by simp; omega
      rw [this, cond_true, if_pos hc]
    · have : decide (((q3o n s 2).length : Int) < ((q3o n s b).length : Int)) = false := by simp; omega
      rw [this, cond_false, if_neg hc]
  have step0 : q5a.l0.f (k + 3) (k + 3) n s 0 1 2 0 = some (wayS n s) := by
    rw [q5a.l0.f]
    simp only [show decide ((0 : Int) < 2) = true from rfl, show decide ((0 : Int) ≤ 0) = true from rfl, show ((0 : Int).toNat.blt 2) = true from rfl, show ((0 : Int).toNat.beq 1) = false from rfl, show ((0 : Int).toNat.beq 0) = true from rfl, cond_true, cond_false, l0, l1, q0b, show IntKind.i64.wrap ((0 : Int) + 1) = 1 from rfl]
    unfold wayS
    by_cases hc : (q3o n s 1).length < (q3o n s 0).length
    · have : decide (((q3o n s 1).length : Int) < ((q3o n s 0).length : Int)) = true := by simp; omega
      rw [this, cond_true, if_pos hc, step1 1 (.inr rfl)]
    · have : decide (((q3o n s 1).length : Int) < ((q3o n s 0).length : Int)) = false := by simp; omega
      rw [this, cond_false, if_neg hc, step1 0 (.inl rfl)]
  rw [q9w hK hn h, q0b]
  simp only [Bool.not_true, cond_false]
  exact step0
theorem z1t (hK : 20000 ≤ K) {n : Int} {s w : List Int} (hn : 0 ≤ n ∧ n ≤ 4096) (h : q2y n s) (hw : w.length + (encS n s).length ≤ 4000000) : q6s.f K n s w = some (Err.nil, w ++ encS n s) := by
  unfold q6s.f
  rw [q9w hK hn h, q0b]
  simp only [Bool.not_true, cond_false]
  rw [way_val hK hn h, q0b, z0v hK hn h wayS_in, q0b, show q3o n s (wayS n s) = encS n s from rfl, z4b hw]
  rfl
end Go.Proofs.YtdjkdmjdcdljmaaGreatDoor.AU
namespace Go.Proofs.YtdjkdmjdcdljmaaGreatDoor.AU
open Go.Proofs.YtdjkdmjdcdljmaaGreatDoorY Go.Proofs.YtdjkdmjdcdljmaaGreatDoorY.Runs
set_option maxRecDepth 100000
set_option maxHeartbeats 4000000
variable {K : Nat}
theorem j27 {a : Int} (h : 1 ≤ a ∧ a ≤ 7) : q4p.f K a = some true := by
  have e1 : decide (a ≥ 1) = true := by simp; omega
  have e2 : decide (a ≤ 7) = true := by simp; omega
  simp only [q4p.f, e1, e2, cond_true, q0z, q0b]
theorem j34 {a : Int} (h : 1 ≤ a ∧ a ≤ 3) : q3m.f K a = some true := by
  have e1 : decide (a ≥ 1) = true := by simp; omega
  have e2 : decide (a ≤ 3) = true := by simp; omega
  simp only [q3m.f, e1, e2, cond_true, q0z, q0b]
theorem j3q {b : Bool} {n : Int} (h : b = false → n = 0) : q6v.f K b n = some true := by
  cases b with
  | true => simp [q6v.f, q4l.f]
  | false => simp [q6v.f, q4l.f, h rfl]
theorem j03 {a b : Int} (h : a ≤ b) : q0m.f K a b = some true := by simp [q0m.f, h]
theorem q9z {v : q0l} (h : Vr v) : q37.f K v.1 v.2.1.1 v.2.1.2 v.2.2.1.1 v.2.2.1.2 v.2.2.2 = some true := by
  simp only [q37.f, j27 h.s, j3q h.k.2, j03 h.le, j34 h.p, q0b, cond_true, q0z]
theorem put_l0 (hK : 20000 ≤ K) {l : List Int} (hl : l.length ≤ 10) (hr : ∀ n ∈ l, i64 n) : ∀ (l2 l1 : List Int) (k : Nat) (w : List Int), l = l1 ++ l2 → l2.length < k → w.length + 10 * l2.length + 10 ≤ 4000000 → q32.l0.f K k ((l.length : Nat) : Int) ((l1.length : Nat) : Int) l w = some (w ++ l2.flatMap encI)
  | l2, l1, 0, w, h, hk, hw => by omega
  | [], l1, k + 1, w, h, hk, hw => by
    rw [q32.l0.f]
    simp only [q2n h, cond_false, List.flatMap_nil, List.append_nil]
  | x :: l2, l1, k + 1, w, h, hk, hw => by
    rw [q32.l0.f]
    have hl1 : l1.length ≤ 10 := by rw [h] at hl; simp at hl; omega
    have hx := hr x (by rw [h]; simp)
    have hlen := q7z x
    simp only [List.length_cons] at hw hk
    simp only [q2m h, ge0', blt_mid h, q29 h, cond_true, q0b, z69 hK hx (l := w) (by omega), q1a (l1 := l1) (x := x) (by omega)]
    rw [put_l0 hK hl hr l2 (l1 ++ [x]) k _ (q1j h) (by omega) (by simp only [List.length_append]; omega)]
    simp
theorem j1e (hK : 20000 ≤ K) {v : q0l} {w : List Int} (h : Vr v) (hw : w.length + 50 ≤ 4000000) : q32.f K v.1 v.2.1.1 v.2.1.2 v.2.2.1.1 v.2.2.1.2 v.2.2.2 w = some (Err.nil, w ++ encV v) := by
  have hR := q9z (K := K) h
  obtain ⟨hs, hk, hlo, hhi, hle, hp⟩ := h
  obtain ⟨s, ⟨b, n⟩, ⟨lo, hi⟩, p⟩ := v
  dsimp only at *
  obtain ⟨s, rfl⟩ : ∃ m : Nat, s = m := ⟨s.toNat, by omega⟩
  obtain ⟨p, rfl⟩ : ∃ m : Nat, p = m := ⟨p.toNat, by omega⟩
  have key := put_h ⟨s, by omega⟩ ⟨p, by omega⟩ b (lo != least) (hi != most)
  have hlt := hB_lt ⟨s, by omega⟩ ⟨p, by omega⟩ b (lo != least) (hi != most)
  have loop : ∀ l : List Int, l.length ≤ 3 → (∀ n ∈ l, i64 n) → q32.l0.f K K ((l.length : Nat) : Int) (0 : Int) l (w ++ [((hB s p b (lo != least) (hi != most) : Nat) : Int)]) = some (w ++ [((hB s p b (lo != least) (hi != most) : Nat) : Int)] ++ l.flatMap encI) := fun l h1 h2 =>
    put_l0 hK (by omega) h2 l [] K _ rfl (by omega) (by simp only [List.length_append, List.length_cons, List.length_nil]; omega)
  unfold q32.f
  rw [hR, q0b]
  simp only [Bool.not_true, cond_false]
  cases b <;> cases hlo' : (lo != least) <;> cases hhi' : (hi != most) <;> rw [hlo', hhi'] at key loop <;>
    simp only [hAdd, hOr, if_true, if_false, Bool.false_eq_true] at key <;>
    simp only [show (lo != (-9223372036854775808 : Int)) = _ from hlo', show (hi != (9223372036854775807 : Int)) = _ from hhi', cond_true, cond_false, key, q62 (K := K) (l := w) (show w.length < 4000000 by omega), q0b]
  case false.false.false =>
    rw [show q32.l0.f K K ((0 : Nat) : Int) (0 : Int) [] _ = _ from loop [] (by simp) (by simp)]
    simp [encV, hlo', hhi']
  case false.false.true =>
    rw [loop ([] ++ [hi]) (by simp) (by simp; exact hhi)]
    simp [encV, hlo', hhi']
  case false.true.false =>
    rw [loop ([] ++ [lo]) (by simp) (by simp; exact hlo)]
    simp [encV, hlo', hhi']
  case false.true.true =>
    rw [loop ([] ++ [lo] ++ [hi]) (by simp) (by simp; exact ⟨hlo, hhi⟩)]
    simp [encV, hlo', hhi']
  case true.false.false =>
    rw [loop ([] ++ [n]) (by simp) (by simp; exact hk.1)]
    simp [encV, hlo', hhi']
  case true.false.true =>
    rw [loop ([] ++ [n] ++ [hi]) (by simp) (by simp; exact ⟨hk.1, hhi⟩)]
    simp [encV, hlo', hhi']
  case true.true.false =>
    rw [loop ([] ++ [n] ++ [lo]) (by simp) (by simp; exact ⟨hk.1, hlo⟩)]
    simp [encV, hlo', hhi']
  case true.true.true =>
    rw [loop ([] ++ [n] ++ [lo] ++ [hi]) (by simp) (by simp; exact ⟨hk.1, hlo, hhi⟩)]
    simp [encV, hlo', hhi']
end Go.Proofs.YtdjkdmjdcdljmaaGreatDoor.AU
namespace Go.Proofs.YtdjkdmjdcdljmaaGreatDoor.AU
open Go.Proofs.YtdjkdmjdcdljmaaGreatDoorY Go.Proofs.YtdjkdmjdcdljmaaGreatDoorY.Runs
set_option maxRecDepth 100000
set_option maxHeartbeats 4000000
variable {K : Nat}
theorem less_val (a b : Int) : q66.f K a b = some (decide (a < b)) := by
  have : (a != a) = false := by simp
  simp only [q66.f, q51.f, this, q0b, cond_false, q0z]
theorem bs_l0 {l : List Int} {x : Int} (hl : l.length ≤ 4096) : ∀ (n k i j : Nat), j - i ≤ n → n < k → i ≤ j → j ≤ l.length → (∀ m v, l[m]? = some v → m < i → v < x) → (∀ m v, l[m]? = some v → j ≤ m → x ≤ v) → l.Pairwise (· ≤ ·) →
    ∃ r : Nat, q1x.l0.f K k l x ((i : Nat) : Int) ((j : Nat) : Int) = some ((r : Nat) : Int) ∧ r ≤ l.length ∧ (∀ m v, l[m]? = some v → m < r → v < x) ∧ (∀ m v, l[m]? = some v → r ≤ m → x ≤ v)
  | n, 0, i, j, hn, hk, hij, hj, h1, h2, hs => by omega
  | n, k + 1, i, j, hn, hk, hij, hj, h1, h2, hs => by
    rw [q1x.l0.f]
    by_cases hlt : i < j
    · have e1 : decide (((i : Nat) : Int) < ((j : Nat) : Int)) = true := by simp <;> omega
      have w1 : IntKind.i64.wrap (((i : Nat) : Int) + ((j : Nat) : Int)) = ((i + j : Nat) : Int) := by rw [q0u (by omega) (by omega)]; simp
      have w2 : IntKind.u64.wrap ((i + j : Nat) : Int) = ((i + j : Nat) : Int) := q3g (by omega) (by omega)
      have w3 : (((i + j : Nat) : Int).fdiv ((2 : Int) ^ 1)) = (((i + j) / 2 : Nat) : Int) := by rw [Int.fdiv_eq_ediv_of_nonneg _ (by decide)]; simp
      have w4 : IntKind.i64.wrap (((i + j) / 2 : Nat) : Int) = (((i + j) / 2 : Nat) : Int) := q0u (by omega) (by omega)
      have w5 : IntKind.i64.wrap ((((i + j) / 2 : Nat) : Int) + 1) = (((i + j) / 2 + 1 : Nat) : Int) := by rw [q0u (by omega) (by omega)]; simp
      have hm : (i + j) / 2 < l.length := by omega
      simp only [e1, cond_true, w1, w2, w3, w4, ge0, Int.toNat_natCast, List.getElem?_eq_getElem hm, q0b, less_val, w5]
      have sorted : ∀ (a b : Nat) (va vb : Int), l[a]? = some va → l[b]? = some vb → a ≤ b → va ≤ vb := fun a b va vb ha hb hab => by
        rcases Nat.lt_or_ge a b with h | h
        · obtain ⟨ha1, ha2⟩ := List.getElem?_eq_some_iff.1 ha
          obtain ⟨hb1, hb2⟩ := List.getElem?_eq_some_iff.1 hb
          rw [← ha2, ← hb2]
          exact List.pairwise_iff_getElem.1 hs a b ha1 hb1 h
        · have : a = b := by omega
          subst this
          rw [ha] at hb; cases hb; omega
      have hgm := List.getElem?_eq_getElem hm
      by_cases hlx : l[(i + j) / 2] < x
      · simp only [decide_eq_true hlx, cond_true]
        exact bs_l0 hl (n - 1) k ((i + j) / 2 + 1) j (by omega) (by omega) (by omega) hj (fun m v hv hmm => by have := sorted m ((i + j) / 2) v _ hv hgm (by omega); omega) h2 hs
      · simp only [decide_eq_false hlx, cond_false]
        exact bs_l0 hl (n - 1) k i ((i + j) / 2) (by omega) (by omega) (by omega) (by omega) h1 (fun m v hv hmm => by have := sorted ((i + j) / 2) m _ v hgm hv hmm; omega) hs
    · have e1 : decide (((i : Nat) : Int) < ((j : Nat) : Int)) = false := by simp <;> omega
      simp only [e1, cond_false]
      have : i = j := by omega
      subst this
      exact ⟨i, rfl, hj, h1, h2⟩
theorem has_val (hK : 20000 ≤ K) {l : List Int} {x : Int} (hl : l.length ≤ 4096) (hs : l.Pairwise (· ≤ ·)) : q9o.f K l x = some (decide (x ∈ l)) := by
  unfold q9o.f q1x.f
  obtain ⟨r, h1, h2, h3, h4⟩ := bs_l0 (K := K) (x := x) hl l.length K 0 l.length (by omega) (by omega) (by omega) (by omega) (fun m v hv hm => by omega) (fun m v hv hm => by have := (List.getElem?_eq_some_iff.1 hv).1; omega) hs
  rw [show q1x.l0.f K K l x (0 : Int) ((l.length : Nat) : Int) = some ((r : Nat) : Int) from h1]
  simp only [q0b, q0z]
  by_cases hr : r < l.length
  · have e1 : decide (((r : Nat) : Int) < ((l.length : Nat) : Int)) = true := by simp <;> omega
    simp only [e1, ge0, cond_true, Int.toNat_natCast, List.getElem?_eq_getElem hr, q0b, q4j.f]
    by_cases hx : l[r] = x
    · have : (l[r] == x) = true := by simp [hx]
      simp only [this, cond_true, q0b]
      have : x ∈ l := by rw [← hx]; exact List.getElem_mem hr
      simp [this]
    · have : (l[r] == x) = false := by simp [hx]
      have nn : (l[r] != l[r]) = false := by simp
      simp only [this, cond_false, nn, q0b]
      have : x ∉ l := fun hm => by
        obtain ⟨m, hm⟩ := List.mem_iff_getElem?.1 hm
        rcases Nat.lt_or_ge m r with h | h
        · have := h3 m x hm h; omega
        · have a := h4 r _ (List.getElem?_eq_getElem hr) (Nat.le_refl _)
          rcases Nat.lt_or_ge r m with h5 | h5
          · obtain ⟨q1, q2⟩ := List.getElem?_eq_some_iff.1 hm
            have := List.pairwise_iff_getElem.1 hs r m hr q1 h5
            rw [q2] at this
            omega
          · have : m = r := by omega
            subst this
            rw [List.getElem?_eq_getElem hr] at hm
            cases hm
            exact hx rfl
      simp [this]
  · have e1 : decide (((r : Nat) : Int) < ((l.length : Nat) : Int)) = false := by simp <;> omega
    simp only [e1, cond_false, q0b]
    have : x ∉ l := fun hm => by
      obtain ⟨m, hm⟩ := List.mem_iff_getElem?.1 hm
      have := h3 m x hm (by have := (List.getElem?_eq_some_iff.1 hm).1; omega)
      omega
    simp [this]
def targ (e : LEnd) : List Int := if e.1 = 1 then [e.2.2.1] else if e.1 = 2 ∧ e.2.2.1 = e.2.2.2 then [e.2.2.1] else if e.1 = 2 then [e.2.2.1, e.2.2.2] else []
theorem targ_val (e : LEnd) : q8h.f K e.1 e.2.2.1 e.2.2.2 = some (targ e) := by
  unfold q8h.f targ
  by_cases h1 : e.1 = 1
  · simp [h1]
  · by_cases h2 : e.1 = 2
    · have e1 : (e.1 == 1) = false := beq_eq_false_iff_ne.2 h1
      have e2 : (e.1 == 2) = true := by simp [h2]
      by_cases h3 : e.2.2.1 = e.2.2.2
      · have e3 : (e.2.2.1 == e.2.2.2) = true := by simp [h3]
        simp only [e1, e2, e3, cond_true, cond_false, q0z, q0b, if_neg h1, if_pos (And.intro h2 h3)]
      · have e3 : (e.2.2.1 == e.2.2.2) = false := beq_eq_false_iff_ne.2 h3
        simp only [e1, e2, e3, cond_true, cond_false, q0z, q0b, if_neg h1, if_neg (fun h : _ ∧ _ => h3 h.2), if_pos h2]
    · have e1 : (e.1 == 1) = false := beq_eq_false_iff_ne.2 h1
      have e2 : (e.1 == 2) = false := beq_eq_false_iff_ne.2 h2
      simp only [e1, e2, cond_true, cond_false, q0z, q0b, if_neg h1, if_neg (fun h : _ ∧ _ => h2 h.1), if_neg h2]
theorem targ_in {regs : Int} {nb : Nat} {e : LEnd} (h : z45 regs nb e) : (targ e).length ≤ 2 ∧ ∀ t ∈ targ e, 0 ≤ t ∧ t < (nb : Int) := by
  obtain ⟨op, a, to, els⟩ := h
  unfold targ
  by_cases h1 : e.1 = 1
  · have h3 : e.1 ≠ 3 := by omega
    rw [if_neg h3] at to
    rw [if_pos h1]
    exact ⟨by simp, fun t ht => by simp at ht; subst ht; exact to⟩
  · rw [if_neg h1]
    by_cases h2 : e.1 = 2
    · have h3 : e.1 ≠ 3 := by omega
      rw [if_neg h3] at to
      rw [if_pos h2] at els
      by_cases h4 : e.2.2.1 = e.2.2.2
      · rw [if_pos ⟨h2, h4⟩]
        exact ⟨by simp, fun t ht => by simp at ht; subst ht; exact to⟩
      · rw [if_neg (fun h => h4 h.2), if_pos h2]
        refine ⟨by simp, fun t ht => ?_⟩
        simp at ht
        rcases ht with rfl | rfl
        · exact to
        · exact els
    · rw [if_neg (fun h => h2 h.1), if_neg h2]
      exact ⟨by simp, fun t ht => by simp at ht⟩
theorem next_l0 {l : List q1m} (hl : l.length ≤ 4096) : ∀ (l2 l1 : List q1m) (k : Nat) (acc : List (List Int)), l = l1 ++ l2 → l2.length < k → acc.length + l2.length < 4000000 → q74.l0.f K k l ((l.length : Nat) : Int) ((l1.length : Nat) : Int) acc = some (acc ++ l2.map fun b => targ b.2)
  | l2, l1, 0, acc, h, hk, _ => by omega
  | [], l1, k + 1, acc, h, hk, _ => by
    rw [q74.l0.f]
    simp only [q2n h, cond_false, List.map_nil, List.append_nil]
  | x :: l2, l1, k + 1, acc, h, hk, ha => by
    rw [q74.l0.f]
    have hl1 : l1.length ≤ 4096 := by rw [h] at hl; simp at hl; omega
    simp only [List.length_cons] at hk ha
    simp only [q2m h, ge0, q29 h, cond_true, q0b, targ_val x.2, q8w (l := acc) (x := targ x.2) (n := 4000000) (by omega), q1a (l1 := l1) (x := x) (by omega)]
    rw [next_l0 hl l2 (l1 ++ [x]) k _ (q1j h) (by omega) (by simp; omega)]
    simp
theorem next_val (hK : 20000 ≤ K) {l : List q1m} (hl : l.length ≤ 4096) : q74.f K l = some (l.map fun b => targ b.2) := by
  unfold q74.f
  exact next_l0 (K := K) hl l [] K [] rfl (by omega) (by simp; omega)
structure Mem (nb c : Nat) (O : List Nat) (F : List (Option (List Int))) : Prop where
  len : O.length = nb
  at' : ∀ t : Nat, t < nb → ∃ k zs, O[t]? = some k ∧ F[k]? = some (some zs) ∧ zs.length ≤ c
  inj : ∀ t t' k : Nat, O[t]? = some k → O[t']? = some k → t = t'
theorem Mem.step {nb c t : Nat} {O : List Nat} {F : List (Option (List Int))} {b : Int} (h : Mem nb c O F) (ht : t < nb) {k : Nat} {zs : List Int} (hk : O[t]? = some k) (hz : F[k]? = some (some zs)) : Mem nb (c + 1) (O.set t F.length) (F.set k none ++ [some (zs ++ [b])]) := by
  obtain ⟨h1, h2, h3⟩ := h
  have hkF : k < F.length := (List.getElem?_eq_some_iff.1 hz).1
  have hO : ∀ j, (O.set t F.length)[j]? = if t = j then some F.length else O[j]? := fun j => by
    rw [List.getElem?_set]
    by_cases e : t = j
    · subst e; simp [h1, ht]
    · simp [e]
  refine ⟨by simpa using h1, fun j hj => ?_, fun j j' q a1 a2 => ?_⟩
  · by_cases e : t = j
    · refine ⟨F.length, zs ++ [b], by rw [hO, if_pos e], by simp, ?_⟩
      obtain ⟨k', zs', q1, q2, q3⟩ := h2 t ht
      rw [hk] at q1; cases q1
      rw [hz] at q2; cases q2
      simp; omega
    · obtain ⟨k', zs', q1, q2, q3⟩ := h2 j hj
      have hk' : k' < F.length := (List.getElem?_eq_some_iff.1 q2).1
      have hne : k ≠ k' := fun e2 => by subst e2; exact e (h3 _ _ _ hk q1)
      exact ⟨k', zs', by rw [hO, if_neg e]; exact q1, by rw [List.getElem?_append_left (by simpa using hk'), List.getElem?_set_ne hne]; exact q2, by omega⟩
  · rw [hO] at a1 a2
    have old : ∀ j q, O[j]? = some q → q < F.length := fun j q hq => by
      have hj : j < nb := by rw [← h1]; exact (List.getElem?_eq_some_iff.1 hq).1
      obtain ⟨k', zs', q1, q2, _⟩ := h2 j hj
      rw [hq] at q1; cases q1
      exact (List.getElem?_eq_some_iff.1 q2).1
    by_cases e : t = j <;> by_cases e' : t = j'
    · omega
    · rw [if_pos e] at a1; rw [if_neg e'] at a2; cases a1; have := old _ _ a2; omega
    · rw [if_neg e] at a1; rw [if_pos e'] at a2; cases a2; have := old _ _ a1; omega
    · rw [if_neg e] at a1; rw [if_neg e'] at a2; exact h3 _ _ _ a1 a2
theorem from_l1 {nb : Nat} {b : Int} {l : List Int} (hl : l.length ≤ 4096) (hr : ∀ t ∈ l, 0 ≤ t ∧ t < (nb : Int)) : ∀ (l2 l1 : List Int) (k c : Nat) (O : List Nat) (F : List (Option (List Int))), l = l1 ++ l2 → l2.length < k → c + l2.length < 50000 → Mem nb c O F →
    ∃ O' F', q5c.l1.f K k b l ((l.length : Nat) : Int) ((l1.length : Nat) : Int) O F = some (O', F') ∧ Mem nb (c + l2.length) O' F'
  | l2, l1, 0, c, O, F, h, hk, _, _ => by omega
  | [], l1, k + 1, c, O, F, h, hk, hc, hm => by
    rw [q5c.l1.f]
    simp only [q2n h, cond_false]
    exact ⟨O, F, rfl, by simpa using hm⟩
  | t :: l2, l1, k + 1, c, O, F, h, hk, hc, hm => by
    rw [q5c.l1.f]
    have hl1 : l1.length ≤ 4096 := by rw [h] at hl; simp at hl; omega
    have ht := hr t (by rw [h]; simp)
    simp only [List.length_cons] at hk hc
    obtain ⟨k', zs, q1, q2, q3⟩ := hm.at' t.toNat (by omega)
    have e1 : decide (0 ≤ t) = true := by simp; omega
    have e2 : Nat.blt (Int.toNat t) O.length = true := Nat.ble_eq_true_of_le (by rw [hm.len]; omega)
    simp only [q2m h, ge0, q29 h, cond_true, q0b, e1, e2, q1, q2, q8w (l := zs) (x := b) (n := 4000000) (by omega), q1a (l1 := l1) (x := t) (by omega)]
    obtain ⟨O', F', p1, p2⟩ := from_l1 hl hr l2 (l1 ++ [t]) k (c + 1) _ _ (q1j h) (by omega) (by omega) (hm.step (b := b) (by omega) q1 q2)
    exact ⟨O', F', p1, by rw [List.length_cons, show c + (l2.length + 1) = c + 1 + l2.length by omega]; exact p2⟩
theorem from_l0 (hK : 20000 ≤ K) {nb : Nat} {l : List (List Int)} (hl : l.length ≤ 4096) (hr : ∀ r ∈ l, r.length ≤ 2 ∧ ∀ t ∈ r, 0 ≤ t ∧ t < (nb : Int)) : ∀ (l2 l1 : List (List Int)) (k c : Nat) (O : List Nat) (F : List (Option (List Int))), l = l1 ++ l2 → l2.length < k → c + 2 * l2.length < 40000 → Mem nb c O F →
    ∃ O' F', q5c.l0.f K k l ((l.length : Nat) : Int) ((l1.length : Nat) : Int) O F = some (O', F') ∧ Mem nb 40000 O' F'
  | l2, l1, 0, c, O, F, h, hk, _, _ => by omega
  | [], l1, k + 1, c, O, F, h, hk, hc, hm => by
    rw [q5c.l0.f]
    simp only [q2n h, cond_false]
    exact ⟨O, F, rfl, hm.len, fun t ht => by obtain ⟨k', zs, q1, q2, q3⟩ := hm.at' t ht; exact ⟨k', zs, q1, q2, by omega⟩, hm.inj⟩
  | t :: l2, l1, k + 1, c, O, F, h, hk, hc, hm => by
    rw [q5c.l0.f]
    have hl1 : l1.length ≤ 4096 := by rw [h] at hl; simp at hl; omega
    have ht := hr t (by rw [h]; simp)
    simp only [List.length_cons] at hk hc
    obtain ⟨O1, F1, p1, p2⟩ := from_l1 (K := K) (nb := nb) (b := ((l1.length : Nat) : Int)) (l := t) (by omega) ht.2 t [] K c O F rfl (by omega) (by omega) hm
    simp only [q2m h, ge0, q29 h, cond_true, q0b, q1a (l1 := l1) (x := t) (by omega)]
    rw [show q5c.l1.f K K ((l1.length : Nat) : Int) t ((t.length : Nat) : Int) (0 : Int) O F = _ from p1, q0b]
    exact from_l0 hK hl hr l2 (l1 ++ [t]) k (c + t.length) O1 F1 (q1j h) (by omega) (by omega) p2
theorem from_val (hK : 20000 ≤ K) {l : List q1m} (hl : l.length ≤ 4096) {regs : Int} (hr : ∀ b ∈ l, z45 regs l.length b.2) : ∃ L, q5c.f K l = some L ∧ L.length = l.length ∧ ∀ r ∈ L, r.length ≤ 40000 := by
  unfold q5c.f
  have e1 : (decide (((l.length : Nat) : Int) ≤ 4000000) && ((l.length : Nat) : Int) == ((l.length : Nat) : Int) && true && true) = true := by simp; omega
  rw [e1, cond_true, next_val hK hl, q0b, Int.toNat_natCast]
  have h0 : Mem l.length 0 (List.range l.length) (List.replicate l.length (some ([] : List Int))) := by
    refine ⟨by simp, fun t ht => ⟨t, [], by simp [ht], by simp [ht], by simp⟩, fun t t' k a1 a2 => ?_⟩
    have b1 := List.getElem?_eq_some_iff.1 a1
    have b2 := List.getElem?_eq_some_iff.1 a2
    obtain ⟨_, b1⟩ := b1
    obtain ⟨_, b2⟩ := b2
    simp at b1 b2
    omega
  obtain ⟨O, F, p1, p2⟩ := from_l0 (K := K) hK (nb := l.length) (l := l.map fun b => targ b.2) (by simpa using hl) (fun r hr' => by
    obtain ⟨b, hb, rfl⟩ := List.mem_map.1 hr'
    exact targ_in (hr b hb)) (l.map fun b => targ b.2) [] K 0 _ _ rfl (by simp; omega) (by simp; omega) h0
  rw [show q5c.l0.f K K (l.map fun b => targ b.2) (((l.map fun b => targ b.2).length : Nat) : Int) (0 : Int) (List.range l.length) (List.replicate l.length (some [])) = _ from p1, q0b]
  have hmem : ∀ k ∈ O, ∃ zs : List Int, F[k]? = some (some zs) ∧ zs.length ≤ 40000 := fun k hk => by
    obtain ⟨t, ht⟩ := List.mem_iff_getElem?.1 hk
    obtain ⟨k', zs, q1, q2, q3⟩ := p2.at' t (by rw [← p2.len]; exact (List.getElem?_eq_some_iff.1 ht).1)
    rw [ht] at q1; cases q1
    exact ⟨zs, q2, q3⟩
  have hall : O.all (z44 F (Ty.own 0)) = true := List.all_eq_true.2 fun k hk => by
    obtain ⟨zs, q, _⟩ := hmem k hk
    show memIn F k = true
    simp [memIn, q]
  have key : ∀ b : Bool, b = true → ∀ x : Option (List (List Int)), (bif b then x else none) = x := fun b hb x => by subst hb; rfl
  refine ⟨O.map fun k => memAt F k, (key _ hall _).trans rfl, by simp [p2.len], fun r hr' => ?_⟩
  obtain ⟨k, hk, rfl⟩ := List.mem_map.1 hr'
  obtain ⟨zs, q1, q2⟩ := hmem k hk
  simp only [memAt, q1]
  exact q2
theorem j0w {l : List (List Int)} (hl : l.length ≤ 4096) (hr : ∀ r ∈ l, r.length ≤ 40000) : ∀ (l2 l1 : List (List Int)) (k : Nat) (acc : List Int), l = l1 ++ l2 → l2.length < k → acc.length ≤ l1.length + 1 → acc.Pairwise (· < ·) → (∀ c ∈ acc, 0 ≤ c ∧ c < max 1 (l1.length : Int)) →
    ∃ r, q4e.l0.f K k l ((l.length : Nat) : Int) ((l1.length : Nat) : Int) acc = some r ∧ r.Pairwise (· < ·) ∧ r.length ≤ l.length + 1 ∧ ∀ c ∈ r, 0 ≤ c ∧ c < max 1 (l.length : Int)
  | l2, l1, 0, acc, h, hk, _, _, _ => by omega
  | [], l1, k + 1, acc, h, hk, ha, hp, hc => by
    rw [q4e.l0.f]
    have : l1 = l := by simpa using h.symm
    subst this
    simp only [q2n h, cond_false]
    exact ⟨acc, rfl, hp, ha, hc⟩
  | t :: l2, l1, k + 1, acc, h, hk, ha, hp, hc => by
    rw [q4e.l0.f]
    have hl1 : l1.length ≤ 4096 := by rw [h] at hl; simp at hl; omega
    have ht := hr t (by rw [h]; simp)
    simp only [List.length_cons] at hk
    simp only [q2m h, ge0, q29 h, cond_true, q0b, q1a (l1 := l1) (x := t) (by omega)]
    have skip : ∃ r, q4e.l0.f K k l ((l.length : Nat) : Int) (((l1 ++ [t]).length : Nat) : Int) acc = some r ∧ r.Pairwise (· < ·) ∧ r.length ≤ l.length + 1 ∧ ∀ c ∈ r, 0 ≤ c ∧ c < max 1 (l.length : Int) :=
      j0w hl hr l2 (l1 ++ [t]) k acc (q1j h) (by omega) (by simp; omega) hp fun c hc' => by have := hc c hc'; simp; omega
    by_cases h0 : l1.length = 0
    · have e : decide (((l1.length : Nat) : Int) > 0) = false := decide_eq_false (by omega)
      simp only [e, cond_false, q0z, q0b]
      exact skip
    · have e : decide (((l1.length : Nat) : Int) > 0) = true := decide_eq_true (by omega)
      simp only [e, cond_true]
      by_cases h1 : t.length = 0
      · have e1 : decide (((t.length : Nat) : Int) > 0) = false := decide_eq_false (by omega)
        simp only [e1, cond_false, q0z, q0b]
        exact skip
      · have e1 : decide (((t.length : Nat) : Int) > 0) = true := decide_eq_true (by omega)
        have w : IntKind.i64.wrap (((t.length : Nat) : Int) - 1) = ((t.length - 1 : Nat) : Int) := by rw [q0u (by omega) (by omega)]; omega
        have hlt : t.length - 1 < t.length := by omega
        simp only [e1, cond_true, w, ge0, Int.toNat_natCast, List.getElem?_eq_getElem hlt, q0b, q0z]
        by_cases h2 : t[t.length - 1] ≥ ((l1.length : Nat) : Int)
        · simp only [decide_eq_true h2, cond_true, q8w (l := acc) (x := ((l1.length : Nat) : Int)) (n := 4000000) (by omega)]
          refine j0w hl hr l2 (l1 ++ [t]) k (acc ++ [((l1.length : Nat) : Int)]) (q1j h) (by omega) (by simp; omega) ?_ fun c hc' => ?_
          · rw [List.pairwise_append]
            refine ⟨hp, by simp, fun a ha' b hb => ?_⟩
            simp at hb
            subst hb
            have := hc a ha'
            omega
          · simp only [List.mem_append, List.mem_singleton] at hc'
            rcases hc' with hc' | rfl
            · have := hc c hc'; simp; omega
            · simp; omega
        · simp only [decide_eq_false h2, cond_false]
          exact skip
theorem cuts_val (hK : 20000 ≤ K) {l : List q1m} (hl : 1 ≤ l.length ∧ l.length ≤ 4096) {regs : Int} (hr : ∀ b ∈ l, z45 regs l.length b.2) : ∃ r, q4e.f K l = some r ∧ q2y l.length r := by
  unfold q4e.f
  obtain ⟨L, p1, p2, p3⟩ := from_val (K := K) hK hl.2 hr
  rw [p1, q0b]
  obtain ⟨r, q1, q2, q3, q4⟩ := j0w (K := K) (l := L) (by omega) p3 L [] K [0] rfl (by omega) (by simp) (by simp) (fun c hc => by simp at hc; subst hc; exact ⟨by omega, by simp; omega⟩)
  exact ⟨r, q1, q2, fun c hc => by have := q4 c hc; omega⟩
theorem told_l0 {n : Nat} (hn : n ≤ 4096) : ∀ (k i : Nat), i ≤ n → n - i < k → q3u.l0.f K k ((n : Nat) : Int) ((i : Nat) : Int) ((List.range i).map fun (j : Nat) => (j : Int)) = some ((List.range n).map fun (j : Nat) => (j : Int))
  | 0, i, _, hk => by omega
  | k + 1, i, hi, hk => by
    rw [q3u.l0.f]
    by_cases h : i < n
    · have e : decide (((i : Nat) : Int) < ((n : Nat) : Int)) = true := by simp; omega
      have w : IntKind.i64.wrap (((i : Nat) : Int) + 1) = ((i + 1 : Nat) : Int) := by rw [q0u (by omega) (by omega)]; omega
      simp only [e, cond_true, q8w (l := (List.range i).map fun (j : Nat) => (j : Int)) (x := ((i : Nat) : Int)) (n := 4000000) (by simp; omega), w]
      have e2 : ((List.range i).map fun (j : Nat) => (j : Int)) ++ [((i : Nat) : Int)] = (List.range (i + 1)).map fun (j : Nat) => (j : Int) := by simp [List.range_succ]
      rw [e2]
      exact told_l0 hn k (i + 1) (by omega) (by omega)
    · have e : decide (((i : Nat) : Int) < ((n : Nat) : Int)) = false := by simp; omega
      have : i = n := by omega
      subst this
      simp only [e, cond_false]
theorem told_all (hK : 20000 ≤ K) {l : List q1m} (hl : l.length ≤ 4096) : q3u.f K l false = some ((List.range l.length).map fun (j : Nat) => (j : Int)) := by
  unfold q3u.f
  simp only [cond_false]
  exact told_l0 (K := K) hl K 0 (by omega) (by omega)
theorem j0n (n : Nat) : q2y n ((List.range n).map fun (j : Nat) => (j : Int)) := by
  refine ⟨?_, fun x hx => ?_⟩
  · rw [List.pairwise_map]
    exact List.pairwise_lt_range.imp fun h => by omega
  · obtain ⟨j, hj, rfl⟩ := List.mem_map.1 hx
    have := List.mem_range.1 hj
    omega
theorem told_val (hK : 20000 ≤ K) {l : List q1m} (hl : 1 ≤ l.length ∧ l.length ≤ 4096) {regs : Int} (hr : ∀ b ∈ l, z45 regs l.length b.2) (sp : Bool) : ∃ T, q3u.f K l sp = some T ∧ q2y l.length T ∧ (sp = true → q4e.f K l = some T) ∧ (sp = false → ∀ b, b < l.length → ((b : Nat) : Int) ∈ T) := by
  cases sp with
  | true =>
    obtain ⟨r, h1, h2⟩ := cuts_val (K := K) hK hl hr
    exact ⟨r, h1, h2, fun _ => h1, fun h => by cases h⟩
  | false => exact ⟨_, told_all hK hl.2, j0n _, (fun h => by cases h), fun _ b hb => List.mem_map.2 ⟨b, List.mem_range.2 hb, rfl⟩⟩
theorem rhas_val (hK : 20000 ≤ K) {n : Int} {l : List Int} {x : Int} (hn : n ≤ 4096) (h : q2y n l) : q9o.f K l x = some (decide (x ∈ l)) :=
  has_val hK (by have := q3i h; omega) (h.1.imp fun h => by omega)
end Go.Proofs.YtdjkdmjdcdljmaaGreatDoor.AU
namespace Go.Proofs.YtdjkdmjdcdljmaaGreatDoor.AU
open Go.Proofs.YtdjkdmjdcdljmaaGreatDoorY Go.Proofs.YtdjkdmjdcdljmaaGreatDoorY.Runs
set_option maxRecDepth 100000
set_option maxHeartbeats 4000000
variable {K : Nat}
def z3x (l : List q3n) : Nat := (l.filter fun x => q8z x.1).length
def q8d (l : List q1m) : Nat := (l.map fun b => z3x b.1).sum
def q4k (l : List q0x) : Nat := (l.map fun f => f.2.2.1.toNat + q8d f.2.2.2).sum
theorem z7b (l : List q3n) : z3x l ≤ l.length := List.length_filter_le _ _
theorem j4f (x : q3n) (l : List q3n) : z3x (x :: l) = (if q8z x.1 then 1 else 0) + z3x l := by
  unfold z3x
  rw [List.filter_cons]
  split <;> simp <;> omega
theorem j16 {α : Type} {f : α → Nat} {c : Nat} : ∀ {l : List α}, (∀ x ∈ l, f x ≤ c) → (l.map f).sum ≤ c * l.length
  | [], _ => by simp
  | x :: l, h => by
    have h1 := h x (by simp)
    have h2 := j16 (l := l) fun y hy => h y (by simp [hy])
    simp only [List.map_cons, List.sum_cons, List.length_cons, Nat.mul_add]
    omega
section
variable {fs : List q0x} {f : q0x} {i : Nat} (hi : fs[i]? = some f)
include hi
end
theorem psets_val (op d : Int) (h : 1 ≤ op ∧ op ≤ 17) : ∃ r, z0r.f K op d = some (r, q8z op) := by
  rcases q9y h.1 h.2 with rfl | rfl | rfl | rfl | rfl | rfl | rfl | rfl | rfl | rfl | rfl | rfl | rfl | rfl | rfl | rfl | rfl <;> simp [z0r.f, q2l.f, q8z]
theorem z75 {l : List q3n} (hl : l.length ≤ 4096) (ho : ∀ x ∈ l, 1 ≤ x.1 ∧ x.1 ≤ 17) : ∀ (l2 l1 : List q3n) (k : Nat) (a : Nat), l = l1 ++ l2 → l2.length < k → a + l2.length < 4000000 → q30.l0.f K k ((a : Nat) : Int) l ((l.length : Nat) : Int) ((l1.length : Nat) : Int) = some ((a + z3x l2 : Nat) : Int)
  | l2, l1, 0, a, h, hk, _ => by omega
  | [], l1, k + 1, a, h, hk, _ => by
    rw [q30.l0.f]
    simp only [q2n h, cond_false]
    simp [z3x]
  | x :: l2, l1, k + 1, a, h, hk, ha => by
    rw [q30.l0.f]
    have hl1 : l1.length ≤ 4096 := by rw [h] at hl; simp at hl; omega
    simp only [List.length_cons] at hk ha
    obtain ⟨r, hr⟩ := psets_val (K := K) x.1 x.2.1 (ho x (by rw [h]; simp))
    have w : IntKind.i64.wrap (((a : Nat) : Int) + 1) = ((a + 1 : Nat) : Int) := by rw [q0u (by omega) (by omega)]; omega
    simp only [q2m h, ge0, q29 h, cond_true, q0b, hr, q1a (l1 := l1) (x := x) (by omega), w]
    rw [j4f]
    cases hu : q8z x.1 with
    | true =>
      simp only [cond_true, if_true]
      rw [z75 hl ho l2 (l1 ++ [x]) k (a + 1) (q1j h) (by omega) (by omega)]
      congr 2
      omega
    | false =>
      simp only [cond_false, Bool.false_eq_true, if_false]
      rw [z75 hl ho l2 (l1 ++ [x]) k a (q1j h) (by omega) (by omega)]
      congr 2
      omega
theorem j1s (hK : 20000 ≤ K) {l : List q1m} (hl : l.length ≤ 12) (hb : ∀ b ∈ l, b.1.length ≤ 12 ∧ ∀ x ∈ b.1, 1 ≤ x.1 ∧ x.1 ≤ 17) : ∀ (l2 l1 : List q1m) (k : Nat) (a : Nat), l = l1 ++ l2 → l2.length < k → a + 12 * l2.length < 4000000 → q34.l0.f K k ((a : Nat) : Int) l ((l.length : Nat) : Int) ((l1.length : Nat) : Int) = some ((a + q8d l2 : Nat) : Int)
  | l2, l1, 0, a, h, hk, _ => by omega
  | [], l1, k + 1, a, h, hk, _ => by
    rw [q34.l0.f]
    simp only [q2n h, cond_false]
    simp [q8d]
  | x :: l2, l1, k + 1, a, h, hk, ha => by
    rw [q34.l0.f]
    have hl1 : l1.length ≤ 12 := by rw [h] at hl; simp at hl; omega
    simp only [List.length_cons] at hk ha
    obtain ⟨c1, c2⟩ := hb x (by rw [h]; simp)
    have hs := z7b x.1
    have g : q30.f K x.1 = some ((z3x x.1 : Nat) : Int) := by
      unfold q30.f
      have := z75 (K := K) (l := x.1) (by omega) c2 x.1 [] K 0 rfl (by omega) (by omega)
      rw [Nat.zero_add] at this
      exact this
    have w : IntKind.i64.wrap (((a : Nat) : Int) + ((z3x x.1 : Nat) : Int)) = ((a + z3x x.1 : Nat) : Int) := by rw [q0u (by omega) (by omega)]; omega
    simp only [q2m h, ge0, q29 h, cond_true, q0b, g, q1a (l1 := l1) (x := x) (by omega), w]
    rw [j1s hK hl hb l2 (l1 ++ [x]) k (a + z3x x.1) (q1j h) (by omega) (by omega)]
    congr 2
    simp [q8d]
    omega
theorem z8o (hK : 20000 ≤ K) {fs : List q0x} (hl : fs.length ≤ 24) (hf : ∀ f ∈ fs, (0 ≤ f.2.2.1 ∧ f.2.2.1 ≤ 8) ∧ f.2.2.2.length ≤ 12 ∧ ∀ b ∈ f.2.2.2, b.1.length ≤ 12 ∧ ∀ x ∈ b.1, 1 ≤ x.1 ∧ x.1 ≤ 17) : ∀ (l2 l1 : List q0x) (k : Nat) (a : Nat), fs = l1 ++ l2 → l2.length < k → a + 200 * l2.length < 4000000 → q4u.l0.f K k ((a : Nat) : Int) fs ((fs.length : Nat) : Int) ((l1.length : Nat) : Int) = some ((a + q4k l2 : Nat) : Int)
  | l2, l1, 0, a, h, hk, _ => by omega
  | [], l1, k + 1, a, h, hk, _ => by
    rw [q4u.l0.f]
    simp only [q2n h, cond_false]
    simp [q4k]
  | x :: l2, l1, k + 1, a, h, hk, ha => by
    rw [q4u.l0.f]
    have hl1 : l1.length ≤ 24 := by rw [h] at hl; simp at hl; omega
    simp only [List.length_cons] at hk ha
    obtain ⟨c1, c2, c3⟩ := hf x (by rw [h]; simp)
    have hbn : q8d x.2.2.2 ≤ 12 * x.2.2.2.length := j16 fun b hb => Nat.le_trans (z7b b.1) (c3 b hb).1
    have g : q34.f K x.2.2.1 x.2.2.2 = some ((x.2.2.1.toNat + q8d x.2.2.2 : Nat) : Int) := by
      unfold q34.f
      have e : (if (0 : Int) > x.2.2.1 then 0 else x.2.2.1) = ((x.2.2.1.toNat : Nat) : Int) := by split <;> omega
      rw [e]
      exact j1s (K := K) hK c2 c3 x.2.2.2 [] K x.2.2.1.toNat rfl (by omega) (by omega)
    have w : IntKind.i64.wrap (((a : Nat) : Int) + ((x.2.2.1.toNat + q8d x.2.2.2 : Nat) : Int)) = ((a + (x.2.2.1.toNat + q8d x.2.2.2) : Nat) : Int) := by rw [q0u (by omega) (by omega)]; omega
    simp only [q2m h, ge0, q29 h, cond_true, q0b, g, q1a (l1 := l1) (x := x) (by omega), w]
    rw [z8o hK hl hf l2 (l1 ++ [x]) k (a + (x.2.2.1.toNat + q8d x.2.2.2)) (q1j h) (by omega) (by omega)]
    congr 2
    simp [q4k]
    omega
theorem WF.shape {cells : List Int} {fs : List q0x} {is : List q0g} (h : WF cells fs is) : ∀ f ∈ fs, (1 ≤ f.2.2.1 ∧ f.2.2.1 ≤ 8) ∧ (1 ≤ f.2.2.2.length ∧ f.2.2.2.length ≤ 12) ∧ (0 ≤ f.2.1 ∧ f.2.1 ≤ 4) ∧ ∀ b ∈ f.2.2.2, b.1.length ≤ 12 ∧ (∀ x ∈ b.1, 1 ≤ x.1 ∧ x.1 ≤ 17) ∧ z45 f.2.2.1 f.2.2.2.length b.2 := by
  intro f hf
  obtain ⟨i, hi⟩ := List.mem_iff_getElem?.1 hf
  obtain ⟨h1, _⟩ := h.funcs i f hi
  exact ⟨⟨h1.regs.1, h1.regs.2.1⟩, h1.blocks, h1.arity, fun b hb => ⟨(h1.each b hb).len, fun x hx => ((h1.each b hb).insns x hx).op, (h1.each b hb).fin⟩⟩
theorem z12 (hK : 20000 ≤ K) {cells : List Int} {fs : List q0x} {is : List q0g} (h : WF cells fs is) : q4u.f K fs = some ((q4k fs : Nat) : Int) := by
  have hc := h.count
  unfold q4u.f
  have := z8o (K := K) hK (fs := fs) (by omega) (fun f hf => by obtain ⟨a, b, _, c⟩ := h.shape f hf; exact ⟨⟨by omega, a.2⟩, b.2, fun x hx => ⟨(c x hx).1, (c x hx).2.1⟩⟩) fs [] K 0 rfl (by omega) (by omega)
  rw [Nat.zero_add] at this
  exact this
end Go.Proofs.YtdjkdmjdcdljmaaGreatDoor.AU
