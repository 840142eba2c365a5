/- The parity statements on rising and tightness, over whole numbers alone. No condition. -/
import Derived.Test.YtiehdiohoehcpaaPar2

namespace Go.Proofs.Ytiehdiohoehcpaa.Par
open Go.RowKit Go.Proofs.Ytiehdiohoehcpaa.PR Go.Proofs.Ytiehdiohoehcpaa.PB Go.Proofs.YtiehdiohoehcpaaW.PrintWords Go.Proofs.YtiehdiohoehcpaaW.PrintLast Go.Proofs.YtiehdiohoehcpaaW.PrintMore

/-- Where the one comes to R, the other one says yes. -/
def LeR {α : Type} (R : α) (a : Option α) (b : Option Bool) : Prop := a = some R → b = some true
theorem LeR.ite {α : Type} {R : α} {c : Prop} [Decidable c] {a a' : Option α} {b b' : Option Bool} (h : LeR R a b) (k : LeR R a' b') : LeR R (if c then a else a') (if c then b else b') := by
  by_cases e : c
  · rw [if_pos e, if_pos e]; exact h
  · rw [if_neg e, if_neg e]; exact k
theorem LeR.bind {α β : Type} {R : α} {o : Option β} {f : β → Option α} {g : β → Option Bool} (h : ∀ x, LeR R (f x) (g x)) : LeR R (o.bind f) (o.bind g) := by
  cases o with
  | none => intro e; cases e
  | some x => exact fun e => by rw [bs]; exact h x (by rw [bs] at e; exact e)
theorem LeR.none {α : Type} {R : α} (b : Option Bool) : LeR R Option.none b := fun e => by cases e

theorem has_eq (a n : Int) : parity_Has.f a n = avermentref11_Has.f a n := by rw [phas, rhas]
theorem pT_zero : ∀ op ∈ ops, ∀ A : Fin 4, pT op 0 A.val = 0 ∧ pT op A.val 0 = 0 := by decide +kernel
theorem one_zero (op : Int) : parity_One.f op 0 = some 0 := by
  unfold parity_One.f
  have : Go.bits .and .i64 0 3 = 0 := by decide +kernel
  rw [this]
  split <;> (try split) <;> rfl
theorem tight_l (op a b : Int) : ∀ k, (∀ y z i, LeR (pT (opc op) (a % 4) (b % 4)) (avermentref11_Two.l0 k op a b y z i) (avermentlaw11_ParityTight.l0 (k + 9) op a b y z i)) ∧
      (∀ y z i j, LeR (pT (opc op) (a % 4) (b % 4)) (avermentref11_Two.l1 k op a b y z i j) (avermentlaw11_ParityTight.l1 (k + 9) op a b y z i j))
  | 0 => ⟨fun _ _ _ => by simp only [avermentref11_Two.l0]; exact LeR.none _, fun _ _ _ _ => by simp only [avermentref11_Two.l1]; exact LeR.none _⟩
  | k + 1 => by
    obtain ⟨i0, i1⟩ := tight_l op a b k
    obtain ⟨m, hm⟩ : ∃ m, m = k + 9 := ⟨_, rfl⟩
    rw [show k + 1 + 9 = m + 1 by omega]
    rw [← hm] at i0 i1
    constructor
    · intro y z i
      simp only [avermentref11_Two.l0, avermentlaw11_ParityTight.l0]
      refine LeR.ite (i1 _ _ _ _) ?_
      intro e
      have e : y = pT (opc op) (a % 4) (b % 4) := Option.some.inj e
      obtain ⟨A, hA⟩ := fin4 a
      obtain ⟨B, hB⟩ := fin4 b
      rw [told_at _ (by omega), two_at op a b _ (by omega), two_at op 0 b _ (by omega), two_at op a 0 _ (by omega), one_zero, e, hA, hB, show (0 : Int) % 4 = 0 from rfl, (pT_zero _ (opc_mem op) B).1, (pT_zero _ (opc_mem op) A).2]
      rw [bs, if_pos rfl, bs, if_pos rfl, bs, if_pos rfl, bs, if_pos rfl, bs]
      rfl
    · intro y z i j
      simp only [avermentref11_Two.l1, avermentlaw11_ParityTight.l1, has_eq]
      repeat' (first | exact i1 _ _ _ _ | exact i0 _ _ _ | exact LeR.none _ | refine LeR.ite ?_ ?_ | refine LeR.bind (fun _ => ?_))
theorem tight (op a b : Int) : avermentlaw11_ParityTight.f 309 op a b = some true := by
  have h := rtwo_at op a b 300 (by decide)
  unfold avermentref11_Two.f at h
  unfold avermentlaw11_ParityTight.f
  unfold avermentref08_Nums.f at h ⊢
  rw [bs] at h ⊢
  exact (tight_l op a b 300).1 _ _ _ h

theorem rises_tbl : ∀ op ∈ ops, ∀ A B M : Fin 4,
    pT op (Go.bits .and .i64 (Go.bits .or .i64 (A.val : Int) M.val) 3 % 4) B.val = Go.bits .and .i64 (Go.bits .or .i64 (pT op A.val B.val) (pT op M.val B.val)) 3 ∧
    pT op A.val (Go.bits .and .i64 (Go.bits .or .i64 (B.val : Int) M.val) 3 % 4) = Go.bits .and .i64 (Go.bits .or .i64 (pT op A.val B.val) (pT op A.val M.val)) 3 ∧
    Go.bits .and .i64 (Go.bits .andNot .i64 (pT op A.val B.val) (Go.bits .and .i64 (Go.bits .or .i64 (pT op A.val B.val) (pT op M.val B.val)) 3)) 3 = 0 ∧
    Go.bits .and .i64 (Go.bits .andNot .i64 (pT op A.val B.val) (Go.bits .and .i64 (Go.bits .or .i64 (pT op A.val B.val) (pT op A.val M.val)) 3)) 3 = 0 := by decide +kernel
theorem join4 (a b : Int) (A B : Fin 4) (hA : a % 4 = A.val) (hB : b % 4 = B.val) : Go.bits .and .i64 (Go.bits .or .i64 a b) 3 = Go.bits .and .i64 (Go.bits .or .i64 (A.val : Int) B.val) 3 := by
  rw [or_res a b 3 (by decide) (by decide)]
  obtain ⟨C, hC⟩ := fin8 a
  obtain ⟨D, hD⟩ := fin8 b
  have t : ∀ C D : Fin 8, Go.bits .and .i64 (Go.bits .or .i64 (C.val : Int) D.val) 3 = Go.bits .and .i64 (Go.bits .or .i64 ((C.val : Int) % 4) ((D.val : Int) % 4)) 3 := by decide +kernel
  rw [hC, hD, t C D, ← hC, ← hD, show a % 8 % 4 = a % 4 by omega, show b % 8 % 4 = b % 4 by omega, hA, hB]
theorem join_val (a b : Int) : parity_Join.f a b = some (Go.bits .and .i64 (Go.bits .or .i64 a b) 3) := rfl
theorem within_val (a b : Int) : parity_Within.f a b = some (Go.bits .and .i64 (Go.bits .andNot .i64 a b) 3 == 0) := rfl
theorem rises_tail (op a m : Int) (k : Nat) : avermentlaw11_ParityRises.j0 (k + 1) op m a false = some true := by
  obtain ⟨A, hA⟩ := fin4 a
  obtain ⟨M, hM⟩ := fin4 m
  have r3 : ∀ x : Int, Go.bits .and .i64 x 3 = Go.bits .and .i64 (x % 4) 3 := fun x => and_res4 x 3 (by decide) (by decide)
  have r1 : Go.bits .and .i64 a 1 = Go.bits .and .i64 (a % 4) 1 := and_res4 a 1 (by decide) (by decide)
  have hj := join4 a m A M hA hM
  have t : ∀ A M : Fin 4, (Go.bits .and .i64 (Go.bits .andNot .i64 (Go.bits .and .i64 (A.val : Int) 3) (Go.bits .and .i64 (Go.bits .and .i64 (Go.bits .or .i64 (A.val : Int) M.val) 3) 3)) 3 == 0) = true ∧
      (Go.bits .and .i64 (Go.bits .andNot .i64 0 0) 3 == 0) = true ∧
      (Go.bits .and .i64 (Go.bits .or .i64 (Go.bits .and .i64 (A.val : Int) 3) (Go.bits .and .i64 (A.val : Int) 1)) 3 == Go.bits .and .i64 (A.val : Int) 3) = true := by decide +kernel
  obtain ⟨t1, t2, t3⟩ := t A M
  have fin : ((parity_Branch.f a true).bind fun x => (parity_Branch.f a false).bind fun y => (parity_Join.f x y).bind fun z => some (z == Go.bits .and .i64 a 3)) = some true := by
    unfold parity_Branch.f
    rw [if_pos rfl, if_neg Bool.false_ne_true]
    rw [bs, bs, join_val, bs, r3 a, r1, hA, t3]
  simp only [avermentlaw11_ParityRises.j0, Bool.false_eq_true, if_false, join_val, bs, parity_One.f]
  by_cases h : op = 2 ∨ op = 3
  · have e : ∀ x y : Option Int, (if op = 2 then x else if op = 3 then x else y) = x := fun x y => by
      rcases h with h | h
      · rw [if_pos h]
      · by_cases g : op = 2
        · rw [if_pos g]
        · rw [if_neg g, if_pos h]
    rw [e, e, bs, bs, within_val, bs, hj, r3 a, hA, t1, if_pos rfl, ← hA, ← r3 a]
    exact fin
  · have e : ∀ x y : Option Int, (if op = 2 then x else if op = 3 then x else y) = y := fun x y => by
      rw [if_neg (fun g => h (.inl g)), if_neg (fun g => h (.inr g))]
    rw [e, e, bs, bs, within_val, bs, t2, if_pos rfl]
    exact fin
theorem rises (op a b m : Int) (k : Nat) (hk : 9 ≤ k) : avermentlaw11_ParityRises.f (k + 1) op a b m = some true := by
  obtain ⟨A, hA⟩ := fin4 a
  obtain ⟨B, hB⟩ := fin4 b
  obtain ⟨M, hM⟩ := fin4 m
  obtain ⟨t1, t2, t3, t4⟩ := rises_tbl (opc op) (opc_mem op) A B M
  unfold avermentlaw11_ParityRises.f
  have tw : ∀ x y, parity_Two.f (k + 1) op x y = some (pT (opc op) (x % 4) (y % 4)) := fun x y => two_at op x y _ (by omega)
  have b3 : (Go.bits .and .i64 (Go.bits .andNot .i64 (pT (opc op) A.val B.val) (Go.bits .and .i64 (Go.bits .or .i64 (pT (opc op) A.val B.val) (pT (opc op) M.val B.val)) 3)) 3 == 0) = true := beq_iff_eq.mpr t3
  have b4 : (Go.bits .and .i64 (Go.bits .andNot .i64 (pT (opc op) A.val B.val) (Go.bits .and .i64 (Go.bits .or .i64 (pT (opc op) A.val B.val) (pT (opc op) A.val M.val)) 3)) 3 == 0) = true := beq_iff_eq.mpr t4
  simp only [tw, join_val, within_val, told_at (k + 1) (by omega), bs, if_true, join4 a m A M hA hM, join4 b m B M hB hM, hA, hB, hM, t1, t2, b3, b4, bne_self_eq_false]
  exact rises_tail op a m k
end Go.Proofs.Ytiehdiohoehcpaa.Par
