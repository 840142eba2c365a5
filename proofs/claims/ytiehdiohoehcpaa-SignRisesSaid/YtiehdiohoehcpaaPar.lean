/- Plain laws of the parity functions: what sets of parities are made of, over whole numbers. No condition. -/
import Derived.Test.YtiehdiohoehcpaaPR4
import Derived.Test.YtiehdiohoehcpaaPR5
import Derived.Test.YtiehdiohoehcpaaBits

namespace Go.Proofs.Ytiehdiohoehcpaa.Par
open Go.RowKit Go.Proofs.Ytiehdiohoehcpaa.PR Go.Proofs.Ytiehdiohoehcpaa.PB Go.Proofs.YtiehdiohoehcpaaW.PrintWords Go.Proofs.YtiehdiohoehcpaaW.PrintLast Go.Proofs.YtiehdiohoehcpaaW.PrintMore

theorem fin8 (x : Int) : ∃ A : Fin 8, x % 8 = (A.val : Int) := ⟨⟨(x % 8).toNat, by omega⟩, by simp; omega⟩
theorem fin4 (x : Int) : ∃ A : Fin 4, x % 4 = (A.val : Int) := ⟨⟨(x % 4).toNat, by omega⟩, by simp; omega⟩
/-- A mask of two bits sees a number's rest by four alone. -/
theorem and_res4 (x m : Int) (h0 : 0 ≤ m) (h : m < 4) : Go.bits .and .i64 x m = Go.bits .and .i64 (x % 4) m := by
  rw [and_mask x m h0 (by omega), and_mask (x % 4) m h0 (by omega)]
  have e1 := Nat.and_mod_two_pow (a := (x % 8).toNat) (b := m.toNat) (n := 2)
  have e2 := Nat.and_mod_two_pow (a := (x % 4 % 8).toNat) (b := m.toNat) (n := 2)
  have l1 : (x % 8).toNat &&& m.toNat ≤ m.toNat := Nat.and_le_right
  have l2 : (x % 4 % 8).toNat &&& m.toNat ≤ m.toNat := Nat.and_le_right
  rw [Nat.mod_eq_of_lt (by omega)] at e1 e2
  rw [e1, e2]
  congr 2
  omega

/-- Of: 1 of an even number, 2 of an odd one. -/
def po (n : Int) : Int := if n % 2 = 0 then 1 else 2
theorem and1 (n : Int) : Go.bits .and .i64 n 1 = n % 2 := by
  rw [and_mask n 1 (by decide) (by decide)]
  have : (n % 8).toNat &&& (1 : Int).toNat = (n % 8).toNat % 2 := Nat.and_two_pow_sub_one_eq_mod _ 1
  rw [this]
  omega
theorem pof (n : Int) : parity_Of.f n = some (po n) := by
  unfold parity_Of.f po
  rw [and1, if_pos (by omega)]
  rcases (show n % 2 = 0 ∨ n % 2 = 1 by omega) with h | h
  · rw [h]; rfl
  · rw [h]; rfl
theorem rof (n : Int) : avermentref11_Of.f n = some (po n) := by
  unfold avermentref11_Of.f po
  have : Int.tmod n 2 = 0 ↔ n % 2 = 0 := by
    rw [Int.tmod_eq_emod]
    split <;> omega
  by_cases h : n % 2 = 0
  · rw [if_pos (this.mpr h), if_pos h]
  · rw [if_neg (fun e => h (this.mp e)), if_neg h]
theorem po_or (n : Int) : po n = 1 ∨ po n = 2 := by unfold po; split <;> simp
theorem phas (a n : Int) : parity_Has.f a n = some (Go.bits .and .i64 a (po n) != 0) := by unfold parity_Has.f; rw [pof]; rfl
theorem rhas (a n : Int) : avermentref11_Has.f a n = some (Go.bits .and .i64 a (po n) != 0) := by unfold avermentref11_Has.f; rw [rof]; rfl

/-- An operation that isn't one of two registers makes as little as none. -/
def opc (op : Int) : Int := if 4 ≤ op ∧ op ≤ 12 then op else 0
theorem pair_opc (op x y : Int) : ∀ k, parity_pair.f k op x y = parity_pair.f k (opc op) x y := by
  intro k
  unfold opc
  by_cases h : 4 ≤ op ∧ op ≤ 12
  · rw [if_pos h]
  · rw [if_neg h]
    have e : ∀ j : Int, 4 ≤ j → j ≤ 12 → op ≠ j := fun j h1 h2 h3 => h ⟨by omega, by omega⟩
    have b10 : (op == 10) = false := beq_eq_false_iff_ne.mpr (e 10 (by decide) (by decide))
    have b9 : (op == 9) = false := beq_eq_false_iff_ne.mpr (e 9 (by decide) (by decide))
    unfold parity_pair.f
    rw [if_neg (e 4 (by decide) (by decide)), if_neg (e 5 (by decide) (by decide)), b10]
    cases k with
    | zero => rfl
    | succ k =>
      simp only [parity_pair.j0]
      rw [if_neg (by decide), if_neg (e 6 (by decide) (by decide)), b9]
      cases k with
      | zero => rfl
      | succ k =>
        simp only [parity_pair.j1]
        rw [if_neg (by decide), if_neg (e 8 (by decide) (by decide)), if_neg (e 12 (by decide) (by decide)), if_neg (e 7 (by decide) (by decide)), if_neg (e 11 (by decide) (by decide))]
        rfl
theorem arith_opc (op x y : Int) : avermentref07_Arith.f op x y = avermentref07_Arith.f (opc op) x y := by
  unfold opc
  by_cases h : 4 ≤ op ∧ op ≤ 12
  · rw [if_pos h]
  · rw [if_neg h]
    have e : ∀ j : Int, 4 ≤ j → j ≤ 12 → op ≠ j := fun j h1 h2 h3 => h ⟨by omega, by omega⟩
    unfold avermentref07_Arith.f
    rw [if_neg (e 4 (by decide) (by decide)), if_neg (e 5 (by decide) (by decide)), if_neg (e 6 (by decide) (by decide)), if_neg (e 7 (by decide) (by decide)), if_neg (e 8 (by decide) (by decide)), if_neg (e 9 (by decide) (by decide)), if_neg (e 10 (by decide) (by decide)), if_neg (e 11 (by decide) (by decide)), if_neg (e 12 (by decide) (by decide))]
    rfl
theorem wrap_small (i : Int) (h0 : 0 ≤ i) (h : i ≤ 1000) : wrap64 (i + 1) = i + 1 := by unfold wrap64; omega

theorem two_cong {op op' a a' b b' : Int} (hop : ∀ k x y, parity_pair.f k op x y = parity_pair.f k op' x y) (ha : ∀ m, 0 ≤ m → m < 4 → Go.bits .and .i64 a m = Go.bits .and .i64 a' m) (hb : ∀ m, 0 ≤ m → m < 4 → Go.bits .and .i64 b m = Go.bits .and .i64 b' m) :
    ∀ k, (∀ x7 x8, 1 ≤ x8 → x8 ≤ 3 → parity_Two.l0 k op a b x7 x8 = parity_Two.l0 k op' a' b' x7 x8) ∧ (∀ x7 x8 x9, 1 ≤ x8 → x8 ≤ 2 → 1 ≤ x9 → x9 ≤ 3 → parity_Two.l1 k op a b x7 x8 x9 = parity_Two.l1 k op' a' b' x7 x8 x9)
  | 0 => ⟨fun _ _ _ _ => by simp only [parity_Two.l0], fun _ _ _ _ _ _ _ => by simp only [parity_Two.l1]⟩
  | k + 1 => by
    obtain ⟨i0, i1⟩ := two_cong hop ha hb k
    constructor
    · intro x7 x8 h h'
      simp only [parity_Two.l0]
      by_cases c : x8 ≤ 2
      · rw [if_pos c, if_pos c]; exact i1 _ _ _ h c (by omega) (by omega)
      · rw [if_neg c, if_neg c]
    · intro x7 x8 x9 h h' g g'
      simp only [parity_Two.l1]
      by_cases c : x9 ≤ 2
      · rw [if_pos c, if_pos c, ha x8 (by omega) (by omega), hb x9 (by omega) (by omega), wrap_small x9 (by omega) (by omega), hop]
        have e : ∀ y, parity_Two.l1 k op a b y x8 (x9 + 1) = parity_Two.l1 k op' a' b' y x8 (x9 + 1) := fun y => i1 _ _ _ h h' (by omega) (by omega)
        simp only [e]
      · rw [if_neg c, if_neg c, wrap_small x8 (by omega) (by omega)]
        exact i0 _ _ (by omega) (by omega)
theorem two_res (op a b : Int) (k : Nat) : parity_Two.f k op a b = parity_Two.f k (opc op) (a % 4) (b % 4) := by
  unfold parity_Two.f
  exact (two_cong (fun k x y => pair_opc op x y k) (fun m h h' => and_res4 a m h h') (fun m h h' => and_res4 b m h h') k).1 _ _ (by omega) (by omega)
theorem rtwo_cong {op op' a a' b b' : Int} (hop : ∀ x y, avermentref07_Arith.f op x y = avermentref07_Arith.f op' x y) (ha : ∀ n, avermentref11_Has.f a n = avermentref11_Has.f a' n) (hb : ∀ n, avermentref11_Has.f b n = avermentref11_Has.f b' n) :
    ∀ k, (∀ y z i, avermentref11_Two.l0 k op a b y z i = avermentref11_Two.l0 k op' a' b' y z i) ∧ (∀ y z i j, avermentref11_Two.l1 k op a b y z i j = avermentref11_Two.l1 k op' a' b' y z i j)
  | 0 => ⟨fun _ _ _ => by simp only [avermentref11_Two.l0], fun _ _ _ _ => by simp only [avermentref11_Two.l1]⟩
  | k + 1 => by
    obtain ⟨i0, i1⟩ := rtwo_cong hop ha hb k
    exact ⟨fun _ _ _ => by simp only [avermentref11_Two.l0, i1], fun _ _ _ _ => by simp only [avermentref11_Two.l1, hop, ha, hb, i0, i1]⟩
theorem has_res (a n : Int) : avermentref11_Has.f a n = avermentref11_Has.f (a % 4) n := by
  rw [rhas, rhas, and_res4 a (po n) (by have := po_or n; omega) (by have := po_or n; omega)]
theorem rtwo_res (op a b : Int) (k : Nat) : avermentref11_Two.f k op a b = avermentref11_Two.f k (opc op) (a % 4) (b % 4) := by
  unfold avermentref11_Two.f
  simp only [(rtwo_cong (arith_opc op) (has_res a) (has_res b) k).1]
/-- The operations that make something, and one that doesn't. -/
def ops : List Int := [0, 4, 5, 6, 7, 8, 9, 10, 11, 12]
theorem opc_mem (op : Int) : opc op ∈ ops := by
  unfold opc ops
  split
  · rename_i h
    have : op = 4 ∨ op = 5 ∨ op = 6 ∨ op = 7 ∨ op = 8 ∨ op = 9 ∨ op = 10 ∨ op = 11 ∨ op = 12 := by omega
    simp; omega
  · simp
/-- What is made, of ten operations and two sets of four. -/
def pT (op a b : Int) : Int := (parity_Two.f 9 op a b).getD 0
theorem tbl : ∀ op ∈ ops, ∀ A B : Fin 4, (parity_Two.f 9 op A.val B.val).isSome = true := by decide +kernel
theorem rtbl : ∀ op ∈ ops, ∀ A B : Fin 4, avermentref11_Two.f 300 op A.val B.val = some (pT op A.val B.val) := by decide +kernel
theorem two_at (op a b : Int) (k : Nat) (hk : 9 ≤ k) : parity_Two.f k op a b = some (pT (opc op) (a % 4) (b % 4)) := by
  obtain ⟨A, hA⟩ := fin4 a
  obtain ⟨B, hB⟩ := fin4 b
  rw [two_res, hA, hB]
  have h := tbl (opc op) (opc_mem op) A B
  refine at_rounds (parity_Two.mono _ _ _) hk ?_
  unfold pT
  obtain ⟨r, hr⟩ := Option.isSome_iff_exists.mp h
  rw [hr]; rfl
theorem rtwo_at (op a b : Int) (k : Nat) (hk : 300 ≤ k) : avermentref11_Two.f k op a b = some (pT (opc op) (a % 4) (b % 4)) := by
  obtain ⟨A, hA⟩ := fin4 a
  obtain ⟨B, hB⟩ := fin4 b
  rw [rtwo_res, hA, hB]
  exact at_rounds (avermentref11_Two.mono _ _ _) hk (rtbl (opc op) (opc_mem op) A B)
theorem told_at (k : Nat) (hk : 9 ≤ k) : avermentlaw11_told.f k = some true :=
  at_rounds avermentlaw11_told.mono hk (by decide +kernel)
end Go.Proofs.Ytiehdiohoehcpaa.Par
