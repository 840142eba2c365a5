/- The parity statements, over whole numbers alone. No condition. -/
import Derived.Test.YtiehdiohoehcpaaPar

namespace Go.Proofs.Ytiehdiohoehcpaa.Par
open Go.RowKit Go.Proofs.Ytiehdiohoehcpaa.PR Go.Proofs.Ytiehdiohoehcpaa.PB Go.Proofs.YtiehdiohoehcpaaW.PrintWords Go.Proofs.YtiehdiohoehcpaaW.PrintLast Go.Proofs.YtiehdiohoehcpaaW.PrintMore

/-- What is there is handed on. -/
theorem bs {α β : Type} (x : α) (f : α → Option β) : (some x).bind f = f x := by cases h : f x <;> simp [h]

theorem makes (op a b : Int) : avermentlaw11_ParityMakes.f 300 op a b = some true := by
  unfold avermentlaw11_ParityMakes.f
  have e1 : parity_One.f op a = avermentref11_One.f op a := rfl
  have e2 : ∃ r, avermentref11_One.f op a = some r := by unfold avermentref11_One.f; split <;> (try split) <;> exact ⟨_, rfl⟩
  obtain ⟨r, hr⟩ := e2
  rw [told_at 300 (by decide), e1, hr, two_at op a b 300 (by decide), rtwo_at op a b 300 (by decide)]
  simp [parity_Branch.f, avermentref11_Branch.f]

theorem po_mask (A : Fin 8) (x : Int) : Go.bits .and .i64 (A.val : Int) (po x) = Go.bits .and .i64 (Go.bits .and .i64 (A.val : Int) 3) (po x) := by
  rcases po_or x with h | h <;> rw [h] <;> revert A <;> decide +kernel
theorem and3_res (a : Int) : Go.bits .and .i64 a 3 = Go.bits .and .i64 (a % 8) 3 := by
  rw [and_mask a 3 (by decide) (by decide), and_mask (a % 8) 3 (by decide) (by decide)]; congr 2; omega
theorem and_res8 (a m : Int) (h0 : 0 ≤ m) (h : m < 8) : Go.bits .and .i64 a m = Go.bits .and .i64 (a % 8) m := by
  rw [and_mask a m h0 h, and_mask (a % 8) m h0 h]; congr 2; omega
theorem or_res (a b m : Int) (h0 : 0 ≤ m) (h : m < 8) : Go.bits .and .i64 (Go.bits .or .i64 a b) m = Go.bits .and .i64 (Go.bits .or .i64 (a % 8) (b % 8)) m := by
  rw [and_res8 _ m h0 h, and_res8 (Go.bits .or .i64 (a % 8) (b % 8)) m h0 h, or_mod8, or_mod8, show a % 8 % 8 = a % 8 by omega, show b % 8 % 8 = b % 8 by omega]
theorem an_res (a b m : Int) (h0 : 0 ≤ m) (h : m < 8) : Go.bits .and .i64 (Go.bits .and .i64 a b) m = Go.bits .and .i64 (Go.bits .and .i64 (a % 8) (b % 8)) m := by
  rw [and_res8 _ m h0 h, and_res8 (Go.bits .and .i64 (a % 8) (b % 8)) m h0 h, and_mod8, and_mod8, show a % 8 % 8 = a % 8 by omega, show b % 8 % 8 = b % 8 by omega]
theorem nt_res (a b m : Int) (h0 : 0 ≤ m) (h : m < 8) : Go.bits .and .i64 (Go.bits .andNot .i64 a b) m = Go.bits .and .i64 (Go.bits .andNot .i64 (a % 8) (b % 8)) m := by
  rw [and_res8 _ m h0 h, and_res8 (Go.bits .andNot .i64 (a % 8) (b % 8)) m h0 h, andNot_mod8, andNot_mod8, show a % 8 % 8 = a % 8 by omega, show b % 8 % 8 = b % 8 by omega]
theorem set_laws : ∀ A B : Fin 8, Go.bits .and .i64 (Go.bits .or .i64 (A.val : Int) B.val) 3 = Go.bits .or .i64 (Go.bits .and .i64 (A.val : Int) 3) (Go.bits .and .i64 (B.val : Int) 3) ∧
    Go.bits .and .i64 (Go.bits .and .i64 (A.val : Int) B.val) 3 = Go.bits .and .i64 (Go.bits .and .i64 (A.val : Int) 3) (Go.bits .and .i64 (B.val : Int) 3) ∧
    (Go.bits .and .i64 (Go.bits .andNot .i64 (A.val : Int) B.val) 3 == 0) = (Go.bits .or .i64 (Go.bits .and .i64 (A.val : Int) 3) (Go.bits .and .i64 (B.val : Int) 3) == Go.bits .and .i64 (B.val : Int) 3) := by decide +kernel

theorem sets (a b n : Int) : avermentlaw11_ParitySets.f 9 a b n = some true := by
  unfold avermentlaw11_ParitySets.f
  have hr : parity_Right.f a = if a ≥ 1 then some (decide (a ≤ 3)) else some false := rfl
  obtain ⟨A, hA⟩ := fin8 a
  obtain ⟨B, hB⟩ := fin8 b
  obtain ⟨h1, h2, h3⟩ := set_laws A B
  have p1 : parity_Join.f a b = some (Go.bits .or .i64 (Go.bits .and .i64 a 3) (Go.bits .and .i64 b 3)) := by
    unfold parity_Join.f; rw [or_res a b 3 (by decide) (by decide), and3_res a, and3_res b, hA, hB, h1]
  have p2 : parity_Meet.f a b = some (Go.bits .and .i64 (Go.bits .and .i64 a 3) (Go.bits .and .i64 b 3)) := by
    unfold parity_Meet.f; rw [an_res a b 3 (by decide) (by decide), and3_res a, and3_res b, hA, hB, h2]
  have p3 : parity_Within.f a b = some (Go.bits .or .i64 (Go.bits .and .i64 a 3) (Go.bits .and .i64 b 3) == Go.bits .and .i64 b 3) := by
    unfold parity_Within.f; rw [nt_res a b 3 (by decide) (by decide), and3_res a, and3_res b, hA, hB, h3]
  have p4 : avermentref11_Has.f (Go.bits .and .i64 a 3) n = some (Go.bits .and .i64 a (po n) != 0) := by
    rw [rhas, and3_res a, hA, and_res8 a (po n) (by have := po_or n; omega) (by have := po_or n; omega), hA, ← po_mask]
  rw [told_at 9 (by decide), hr, pof, rof, phas, p4, p1, p2, p3]
  by_cases h : a ≥ 1
  · simp [h]
  · simp [h]

/-- What one pair comes to is in what is made of sets that have both. -/
theorem pT_has : ∀ op ∈ ops, ∀ A B : Fin 8, ∀ x ∈ [(1 : Int), 2], ∀ y ∈ [(1 : Int), 2], ∀ z ∈ [(1 : Int), 2], Go.bits .and .i64 (pT op x y) z ≠ 0 →
    Go.bits .and .i64 (pT op (Go.bits .or .i64 (A.val : Int) x % 4) (Go.bits .or .i64 (B.val : Int) y % 4)) z ≠ 0 := by decide +kernel
theorem or_mod4 (a x : Int) : Go.bits .or .i64 a x % 4 = Go.bits .or .i64 (a % 8) x % 4 := by
  have h1 := or_mod8 a x
  have h2 := or_mod8 (a % 8) x
  rw [show a % 8 % 8 = a % 8 by omega] at h2
  omega
theorem po_mod (n : Int) : po n = n % 2 + 1 := by unfold po; split <;> omega
theorem po_eq {m n : Int} (h : m % 2 = n % 2) : po m = po n := by rw [po_mod, po_mod, h]
theorem wrap_par (n : Int) : wrap64 n % 2 = n % 2 := by unfold wrap64; omega
theorem and_par (x y : Int) : Go.bits .and .i64 x y % 2 = if x % 2 = 1 ∧ y % 2 = 1 then 1 else 0 := by
  have h := and_mod8 x y
  obtain ⟨A, hA⟩ := fin8 x
  obtain ⟨B, hB⟩ := fin8 y
  have e : ∀ A B : Fin 8, ((((A.val : Int).toNat &&& (B.val : Int).toNat : Nat) : Int)) % 2 = if (A.val : Int) % 2 = 1 ∧ (B.val : Int) % 2 = 1 then 1 else 0 := by decide +kernel
  have e2 := e A B
  rw [hA, hB] at h
  rw [show Go.bits .and .i64 x y % 2 = Go.bits .and .i64 x y % 8 % 2 by omega, h, e2, show x % 2 = x % 8 % 2 by omega, show y % 2 = y % 8 % 2 by omega, hA, hB]
theorem xor_par (x y : Int) : Go.bits .xor .i64 x y % 2 = (x + y) % 2 := by
  have h := xor_mod8 x y
  obtain ⟨A, hA⟩ := fin8 x
  obtain ⟨B, hB⟩ := fin8 y
  have e : ∀ A B : Fin 8, ((((A.val : Int).toNat ^^^ (B.val : Int).toNat : Nat) : Int)) % 2 = ((A.val : Int) + B.val) % 2 := by decide +kernel
  have e2 := e A B
  rw [hA, hB] at h
  omega
/-- What is known of the parity of what two numbers come to. -/
def okp (o x y n : Int) : Bool :=
  if o = 0 then false else if o = 4 ∨ o = 5 ∨ o = 10 then n == (x + y) % 2 else if o = 6 ∨ o = 9 then n == x * y else if o = 8 then (y != 0 || n == x) else if o = 12 then (x == y || n == 0) else true
theorem tb : ∀ o ∈ ops, ∀ x ∈ [(0 : Int), 1], ∀ y ∈ [(0 : Int), 1], ∀ n ∈ [(0 : Int), 1], okp o x y n = true → Go.bits .and .i64 (pT o (x + 1) (y + 1)) (n + 1) ≠ 0 := by decide +kernel
/-- The parity of what two numbers come to, by theirs. -/
theorem pair_sound (op x y n : Int) (h : avermentref07_Arith.f op x y = some (n, true)) : Go.bits .and .i64 (pT (opc op) (po x) (po y)) (po n) ≠ 0 := by
  rw [arith_opc] at h
  have hm := opc_mem op
  generalize opc op = o at h hm
  rw [po_mod x, po_mod y, po_mod n]
  have m2 : ∀ z : Int, z % 2 ∈ [(0 : Int), 1] := fun z => by simp; omega
  refine tb o hm (x % 2) (m2 x) (y % 2) (m2 y) (n % 2) (m2 n) ?_
  simp only [ops, List.mem_cons, List.not_mem_nil, or_false] at hm
  rcases hm with rfl | rfl | rfl | rfl | rfl | rfl | rfl | rfl | rfl | rfl
  · simp [avermentref07_Arith.f] at h
  · simp [avermentref07_Arith.f] at h; simp [okp]; rw [← h, wrap_par]; try omega
  · simp [avermentref07_Arith.f] at h; simp [okp]; rw [← h, wrap_par]; try omega
  · simp [avermentref07_Arith.f] at h; simp [okp]; rw [← h, wrap_par, Int.mul_emod]
    rcases (show x % 2 = 0 ∨ x % 2 = 1 by omega) with a | a <;> rcases (show y % 2 = 0 ∨ y % 2 = 1 by omega) with b | b <;> rw [a, b] <;> rfl
  · rfl
  · simp [avermentref07_Arith.f] at h; simp [okp]
    by_cases y0 : y = 0
    · simp [y0] at h
    · rw [if_neg y0] at h
      by_cases y1 : y = -1
      · left; omega
      · rw [if_neg y1] at h
        simp at h
        have := Int.mul_tdiv_add_tmod x y
        rw [h] at this
        rcases (show y % 2 = 1 ∨ y % 2 = 0 by omega) with hy | hy
        · left; omega
        · right
          obtain ⟨c, hc⟩ : ∃ c, y = 2 * c := ⟨y / 2, by omega⟩
          rw [hc, Int.mul_assoc] at this
          omega
  · simp [avermentref07_Arith.f] at h; simp [okp]; rw [← h, and_par]
    rcases (show x % 2 = 0 ∨ x % 2 = 1 by omega) with a | a <;> rcases (show y % 2 = 0 ∨ y % 2 = 1 by omega) with b | b <;> rw [a, b] <;> rfl
  · simp [avermentref07_Arith.f] at h; simp [okp]; rw [← h, xor_par]; try omega
  · rfl
  · simp [avermentref07_Arith.f] at h; simp [okp]
    by_cases e : x = y
    · left; rw [e]
    · rw [if_neg e] at h; simp at h; right; rw [← h]; rfl

theorem arith_some (op x y : Int) : ∃ r, avermentref07_Arith.f op x y = some r := by
  unfold avermentref07_Arith.f
  repeat' (first | exact ⟨_, rfl⟩ | split)
theorem sound (op x y a b : Int) (k : Nat) (hk : 9 ≤ k) : avermentlaw11_ParitySound.f (k + 1) op x y a b = some true := by
  unfold avermentlaw11_ParitySound.f
  obtain ⟨⟨n, ok⟩, hn⟩ := arith_some op x y
  have hx := po_or x
  have hy := po_or y
  obtain ⟨A, hA⟩ := fin8 a
  obtain ⟨B, hB⟩ := fin8 b
  -- where one goes on, and what one register makes
  have tail : avermentlaw11_ParitySound.j0 (k + 1) x (Go.bits .or .i64 a (po x)) false = some true := by
    have own : ∀ m : Int, 0 ≤ m → m < 8 → Go.bits .and .i64 (Go.bits .or .i64 a (po x)) m = Go.bits .and .i64 (Go.bits .or .i64 (A.val : Int) (po x)) m := fun m h0 h => by
      rw [or_res a (po x) m h0 h, or_res (A.val : Int) (po x) m h0 h, hA]; congr 2
      have := A.isLt; omega
    have neg : po (wrap64 (-x)) = po x := po_eq (by rw [wrap_par]; omega)
    have f1 : ∀ A : Fin 8, ∀ z ∈ [(1 : Int), 2], (Go.bits .and .i64 (Go.bits .and .i64 (Go.bits .or .i64 (A.val : Int) z) 3) z != 0) = true := by decide +kernel
    have f2 : ∀ A : Fin 8, (Go.bits .and .i64 (Go.bits .and .i64 (Go.bits .or .i64 (A.val : Int) 1) 1) 1 != 0) = true := by decide +kernel
    have hz : po x ∈ [(1 : Int), 2] := by simp; exact hx
    have g1 := f1 A (po x) hz
    simp only [avermentlaw11_ParitySound.j0, parity_One.f, phas, neg, parity_Branch.f]
    simp only [own 3 (by decide) (by decide), own 1 (by decide) (by decide)]
    simp only [Bool.false_eq_true, reduceIte, Int.reduceEq, Option.bind_some]
    rw [if_pos g1, if_pos g1]
    by_cases h0 : x = 0
    · have e1 : po x = 1 := by rw [h0]; rfl
      have g2 := f2 A
      rw [e1]
      rw [h0, if_neg (by decide)]
      simp only [Option.bind_some]
      rw [g2]
    · have e2 : (x != 0) = true := bne_iff_ne.mpr h0
      rw [if_pos e2]
      simp only [Option.bind_some]
      rw [g1]
  rw [rof, rof, hn, told_at (k + 1) (by omega)]
  cases ok with
  | false =>
    rw [bs, bs, bs, bs, if_pos rfl, if_neg (show ¬ ((n, false).2 = true) from Bool.false_ne_true)]
    exact tail
  | true =>
    have t := two_at op (Go.bits .or .i64 a (po x)) (Go.bits .or .i64 b (po y)) (k + 1) (by omega)
    have p := pT_has (opc op) (opc_mem op) A B (po x) (by simp; exact hx) (po y) (by simp; exact hy) (po n) (by simp; exact po_or n) (pair_sound op x y n hn)
    rw [or_mod4 a (po x), or_mod4 b (po y), hA, hB] at t
    simp only [Option.bind_some, if_true, t, phas]
    have p' : (Go.bits .and .i64 (pT (opc op) (Go.bits .or .i64 (A.val : Int) (po x) % 4) (Go.bits .or .i64 (B.val : Int) (po y) % 4)) (po n) != 0) = true := bne_iff_ne.mpr p
    rw [p']
    simp only [Bool.not_true]
    exact tail
end Go.Proofs.Ytiehdiohoehcpaa.Par
