/- Own work. No condition. -/
import Derived.Test.YtdjkdmjdcdljmaaGreatTc

namespace Go.Proofs.YtdjkdmjdcdljmaaGreat.AT
open Go.RowKit Go.Proofs.YtdjkdmjdcdljmaaGreatX Go.Proofs.YtdjkdmjdcdljmaaGreat.Sr
set_option linter.unusedVariables false
set_option linter.unusedSimpArgs false
set_option linter.unusedSectionVars false
set_option maxRecDepth 100000
variable {K : Nat}
abbrev T7 := Int × Bool × Int × Int × Int × Int × Bool
def out (r : VV × Bool) : T7 := (r.1.t.1, r.1.t.2.1, r.1.t.2.2.1, r.1.t.2.2.2.1, r.1.t.2.2.2.2.1, r.1.t.2.2.2.2.2, r.2)
def wh (s : Nat) (k : Bool × Int × Bool) (l : Int × Int × Bool) (p : Nat) : VV × Bool :=
  bif (!decide (s = 0)) && (k.2.2 && (l.2.2 && !decide (p = 0))) then (⟨s, k.1, k.2.1, l.1, l.2.1, p⟩, true) else (VV.zero, false)
theorem wh_val (s : Nat) (k : Bool × Int × Bool) (l : Int × Int × Bool) (p : Nat) : fact_whole.f K (sg s) k.1 k.2.1 k.2.2 l.1 l.2.1 l.2.2 (sg p) = some (out (wh s k l p)) := by
  have e0 : (0 : Int) = sg 0 := rfl
  have e1 := sg_inj (i := s) (j := 0)
  have e2 := sg_inj (i := p) (j := 0)
  rw [← e0] at e1 e2
  unfold fact_whole.f wh
  rw [e1, e2]
  cases decide (s = 0) <;> cases k.2.2 <;> cases l.2.2 <;> cases decide (p = 0) <;> rfl
theorem wh_iff {s : Nat} {k : Bool × Int × Bool} {l : Int × Int × Bool} {p : Nat} : (wh s k l p).2 = true ↔ s ≠ 0 ∧ k.2.2 = true ∧ l.2.2 = true ∧ p ≠ 0 := by
  unfold wh
  by_cases h1 : s = 0 <;> by_cases h4 : p = 0 <;> cases h2 : k.2.2 <;> cases h3 : l.2.2 <;> simp [h1, h4]
theorem wh_of {s : Nat} {k : Bool × Int × Bool} {l : Int × Int × Bool} {p : Nat} (h : (wh s k l p).2 = true) : (wh s k l p).1 = ⟨s, k.1, k.2.1, l.1, l.2.1, p⟩ := by
  unfold wh at *
  cases e : ((!decide (s = 0)) && (k.2.2 && (l.2.2 && !decide (p = 0))))
  · rw [e] at h; cases h
  · rfl
def row (op : Int) : List Nat := if op = 4 then [7, 1, 7, 1, 2, 4, 7, 4, 5] else if op = 5 then [7, 1, 5, 5, 2, 1, 5, 4, 7] else if op = 6 then [7, 2, 7, 2, 2, 2, 7, 2, 7] else if op = 7 then [7, 0, 3, 2, 0, 2, 3, 0, 6] else if op = 8 then [3, 0, 3, 2, 0, 2, 6, 0, 6] else if op = 9 then [1, 2, 6, 2, 2, 2, 6, 2, 6] else if op = 10 then [6, 1, 1, 1, 2, 4, 1, 4, 6] else if op = 11 then [6, 4, 4, 2, 2, 4, 2, 2, 6] else if op = 12 then [6, 2, 2, 2, 4, 2, 2, 2, 6] else [0, 0, 0, 0, 0, 0, 0, 0, 0]
def rows : List (List Nat) := [[7, 1, 7, 1, 2, 4, 7, 4, 5], [7, 1, 5, 5, 2, 1, 5, 4, 7], [7, 2, 7, 2, 2, 2, 7, 2, 7], [7, 0, 3, 2, 0, 2, 3, 0, 6], [3, 0, 3, 2, 0, 2, 6, 0, 6], [1, 2, 6, 2, 2, 2, 6, 2, 6], [6, 1, 1, 1, 2, 4, 1, 4, 6], [6, 4, 4, 2, 2, 4, 2, 2, 6], [6, 2, 2, 2, 4, 2, 2, 2, 6], [0, 0, 0, 0, 0, 0, 0, 0, 0]]
theorem row_in (op : Int) : row op ∈ rows := by
  unfold row
  repeat' split
  all_goals decide
abbrev T9 := Int × Int × Int × Int × Int × Int × Int × Int × Int
def tup (l : List Nat) : T9 := (sg (l.getD 0 0), sg (l.getD 1 0), sg (l.getD 2 0), sg (l.getD 3 0), sg (l.getD 4 0), sg (l.getD 5 0), sg (l.getD 6 0), sg (l.getD 7 0), sg (l.getD 8 0))
theorem made_val (op : Int) : sign_made.f K op = some (tup (row op)) := by
  unfold sign_made.f row
  by_cases h4 : op = 4
  · rw [beq_iff_eq.mpr h4, if_pos h4]; rfl
  rw [beq_eq_false_iff_ne.mpr h4, if_neg h4, cond_false]
  by_cases h5 : op = 5
  · rw [beq_iff_eq.mpr h5, if_pos h5]; rfl
  rw [beq_eq_false_iff_ne.mpr h5, if_neg h5, cond_false]
  by_cases h6 : op = 6
  · rw [beq_iff_eq.mpr h6, if_pos h6]; rfl
  rw [beq_eq_false_iff_ne.mpr h6, if_neg h6, cond_false]
  by_cases h7 : op = 7
  · rw [beq_iff_eq.mpr h7, if_pos h7]; rfl
  rw [beq_eq_false_iff_ne.mpr h7, if_neg h7, cond_false]
  by_cases h8 : op = 8
  · rw [beq_iff_eq.mpr h8, if_pos h8]; rfl
  rw [beq_eq_false_iff_ne.mpr h8, if_neg h8, cond_false]
  by_cases h9 : op = 9
  · rw [beq_iff_eq.mpr h9, if_pos h9]; rfl
  rw [beq_eq_false_iff_ne.mpr h9, if_neg h9, cond_false]
  by_cases h10 : op = 10
  · rw [beq_iff_eq.mpr h10, if_pos h10]; rfl
  rw [beq_eq_false_iff_ne.mpr h10, if_neg h10, cond_false]
  by_cases h11 : op = 11
  · rw [beq_iff_eq.mpr h11, if_pos h11]; rfl
  rw [beq_eq_false_iff_ne.mpr h11, if_neg h11, cond_false]
  by_cases h12 : op = 12
  · rw [beq_iff_eq.mpr h12, if_pos h12]; rfl
  rw [beq_eq_false_iff_ne.mpr h12, if_neg h12, cond_false]
  rfl
def orI (a b : Int) : Int := IntKind.i64.wrap ((BitVec.ofInt 64 a ||| BitVec.ofInt 64 b).toNat : Int)
def sel9 (i j : Nat) : List Bool := [i.testBit 0 && j.testBit 0, i.testBit 0 && j.testBit 1, i.testBit 0 && j.testBit 2, i.testBit 1 && j.testBit 0, i.testBit 1 && j.testBit 1, i.testBit 1 && j.testBit 2, i.testBit 2 && j.testBit 0, i.testBit 2 && j.testBit 1, i.testBit 2 && j.testBit 2]
def orL : List Bool → List Int → Int → Int
  | true :: b, x :: r, o => orL b r (orI o x)
  | false :: b, x :: r, o => orL b r o
  | _, _, o => o
def orN : List Bool → List Nat → Nat → Nat
  | true :: b, x :: r, o => orN b r (o ||| x)
  | false :: b, x :: r, o => orN b r o
  | _, _, o => o
def lst (t : T9) : List Int := [t.1, t.2.1, t.2.2.1, t.2.2.2.1, t.2.2.2.2.1, t.2.2.2.2.2.1, t.2.2.2.2.2.2.1, t.2.2.2.2.2.2.2.1, t.2.2.2.2.2.2.2.2]
set_option maxRecDepth 1000000 in
set_option maxHeartbeats 40000000 in
theorem sT (op : Int) (i j : Nat) (hi : i < 8) (hj : j < 8) : sign_Two.f K op (sg i) (sg j) = (sign_made.f K op).bind fun t => some (orL (sel9 i j) (lst t) 0) := by
  unfold sign_Two.f
  refine (congrArg (fun o => Option.bind o fun y => some y.1) (?_ : _ = (sign_made.f K op).bind fun t => some (orL (sel9 i j) (lst t) 0, ()))).trans ?_
  · rcases (show i = 0 ∨ i = 1 ∨ i = 2 ∨ i = 3 ∨ i = 4 ∨ i = 5 ∨ i = 6 ∨ i = 7 by omega) with rfl | rfl | rfl | rfl | rfl | rfl | rfl | rfl <;>
      rcases (show j = 0 ∨ j = 1 ∨ j = 2 ∨ j = 3 ∨ j = 4 ∨ j = 5 ∨ j = 6 ∨ j = 7 by omega) with rfl | rfl | rfl | rfl | rfl | rfl | rfl | rfl <;> kernel_rfl
  · rw [made_val]; rfl
def s2 (op : Int) (i j : Nat) : Nat := orN (sel9 i j) (row op) 0
theorem s2_val {op : Int} {i j : Nat} (hi : i < 8) (hj : j < 8) : sign_Two.f K op (sg i) (sg j) = some (sg (s2 op i j)) := by
  rw [sT op i j hi hj, made_val, some_bind]
  have : ∀ r ∈ rows, ∀ i : Fin 8, ∀ j : Fin 8, orL (sel9 i.val j.val) (lst (tup r)) 0 = sg (orN (sel9 i.val j.val) r 0) := by decide +kernel
  exact congrArg some (this _ (row_in op) ⟨i, hi⟩ ⟨j, hj⟩)
theorem s2_lt {op : Int} {i j : Nat} (hi : i < 8) (hj : j < 8) : s2 op i j < 8 := by
  have : ∀ r ∈ rows, ∀ i : Fin 8, ∀ j : Fin 8, orN (sel9 i.val j.val) r 0 < 8 := by decide +kernel
  exact this _ (row_in op) ⟨i, hi⟩ ⟨j, hj⟩
theorem in_trans {a b c : Nat} (h : a &&& b = a) (g : b &&& c = b) : a &&& c = a := by
  rw [← h, Nat.and_assoc, g]
theorem s2_up {op : Int} {i j i' j' : Nat} (hi : i < 8) (hj : j < 8) (hi' : i' < 8) (hj' : j' < 8) (h : i &&& i' = i) (g : j &&& j' = j) : s2 op i j &&& s2 op i' j' = s2 op i j := by
  have a : ∀ r ∈ rows, ∀ i : Fin 8, ∀ i' : Fin 8, i.val &&& i'.val = i.val → ∀ j : Fin 8, orN (sel9 i.val j.val) r 0 &&& orN (sel9 i'.val j.val) r 0 = orN (sel9 i.val j.val) r 0 := by decide +kernel
  have b : ∀ r ∈ rows, ∀ j : Fin 8, ∀ j' : Fin 8, j.val &&& j'.val = j.val → ∀ i : Fin 8, orN (sel9 i.val j.val) r 0 &&& orN (sel9 i.val j'.val) r 0 = orN (sel9 i.val j.val) r 0 := by decide +kernel
  exact in_trans (a _ (row_in op) ⟨i, hi⟩ ⟨i', hi'⟩ h ⟨j, hj⟩) (b _ (row_in op) ⟨j, hj⟩ ⟨j', hj'⟩ g ⟨i', hi'⟩)
def prow (op : Int) : List Nat := if op = 4 ∨ op = 5 ∨ op = 10 then [1, 2, 2, 1] else if op = 6 ∨ op = 9 then [1, 1, 1, 2] else if op = 8 then [1, 3, 2, 3] else if op = 12 then [3, 1, 1, 3] else if op = 7 ∨ op = 11 then [3, 3, 3, 3] else [0, 0, 0, 0]
def prows : List (List Nat) := [[1, 2, 2, 1], [1, 1, 1, 2], [1, 3, 2, 3], [3, 1, 1, 3], [3, 3, 3, 3], [0, 0, 0, 0]]
theorem prow_in (op : Int) : prow op ∈ prows := by
  unfold prow
  repeat' split
  all_goals decide
def sel4 (i j : Nat) : List Bool := [i.testBit 0 && j.testBit 0, i.testBit 0 && j.testBit 1, i.testBit 1 && j.testBit 0, i.testBit 1 && j.testBit 1]
def p2 (op : Int) (i j : Nat) : Nat := orN (sel4 i j) (prow op) 0
theorem pl1 {op op' : Int} (h : parity_pair.f K op = parity_pair.f K op') (a b : Int) : ∀ (k : Nat) (x y z : Int), parity_Two.l1.f K k op a b x y z = parity_Two.l1.f K k op' a b x y z
  | 0, _, _, _ => rfl
  | k + 1, x, y, z => by simp only [parity_Two.l1.f, h, pl1 h a b k]
theorem pl0 {op op' : Int} (h : parity_pair.f K op = parity_pair.f K op') (a b : Int) : ∀ (k : Nat) (x y : Int), parity_Two.l0.f K k op a b x y = parity_Two.l0.f K k op' a b x y
  | 0, _, _ => rfl
  | k + 1, x, y => by simp only [parity_Two.l0.f, pl1 h a b, pl0 h a b k]
set_option maxRecDepth 1000000 in
set_option maxHeartbeats 40000000 in
theorem pC (n : Nat) {op : Int} (ho : op = 0 ∨ op = 4 ∨ op = 5 ∨ op = 6 ∨ op = 7 ∨ op = 8 ∨ op = 9 ∨ op = 10 ∨ op = 11 ∨ op = 12) {i j : Nat} (hi : i < 4) (hj : j < 4) : parity_Two.f (n + 3) op (sg i) (sg j) = some (sg (p2 op i j)) := by
  rcases (show i = 0 ∨ i = 1 ∨ i = 2 ∨ i = 3 by omega) with rfl | rfl | rfl | rfl <;>
    rcases (show j = 0 ∨ j = 1 ∨ j = 2 ∨ j = 3 by omega) with rfl | rfl | rfl | rfl <;>
      rcases ho with rfl | rfl | rfl | rfl | rfl | rfl | rfl | rfl | rfl | rfl <;> kernel_rfl
theorem p2_val (hK : 2000 ≤ K) {op : Int} {i j : Nat} (hi : i < 4) (hj : j < 4) : parity_Two.f K op (sg i) (sg j) = some (sg (p2 op i j)) := by
  obtain ⟨n, rfl⟩ : ∃ n, K = n + 3 := ⟨K - 3, by omega⟩
  by_cases h : op = 4 ∨ op = 5 ∨ op = 6 ∨ op = 7 ∨ op = 8 ∨ op = 9 ∨ op = 10 ∨ op = 11 ∨ op = 12
  · exact pC n (.inr h) hi hj
  · simp only [not_or] at h
    obtain ⟨h4, h5, h6, h7, h8, h9, h10, h11, h12⟩ := h
    have e : parity_pair.f (n + 3) op = parity_pair.f (n + 3) 0 := by
      funext a b
      unfold parity_pair.f
      simp only [beq_eq_false_iff_ne.mpr h4, beq_eq_false_iff_ne.mpr h5, beq_eq_false_iff_ne.mpr h6, beq_eq_false_iff_ne.mpr h7, beq_eq_false_iff_ne.mpr h8, beq_eq_false_iff_ne.mpr h9, beq_eq_false_iff_ne.mpr h10, beq_eq_false_iff_ne.mpr h11, beq_eq_false_iff_ne.mpr h12, cond_false]
      rfl
    have r : p2 op i j = p2 0 i j := by
      unfold p2 prow
      rw [if_neg (by omega), if_neg (by omega), if_neg (by omega), if_neg (by omega), if_neg (by omega)]
      rfl
    rw [r, ← pC n (.inl rfl) hi hj]
    exact pl0 e _ _ _ _ _
theorem p2_lt {op : Int} {i j : Nat} (hi : i < 4) (hj : j < 4) : p2 op i j < 4 := by
  have : ∀ r ∈ prows, ∀ i : Fin 4, ∀ j : Fin 4, orN (sel4 i.val j.val) r 0 < 4 := by decide +kernel
  exact this _ (prow_in op) ⟨i, hi⟩ ⟨j, hj⟩
theorem p2_up {op : Int} {i j i' j' : Nat} (hi : i < 4) (hj : j < 4) (hi' : i' < 4) (hj' : j' < 4) (h : i &&& i' = i) (g : j &&& j' = j) : p2 op i j &&& p2 op i' j' = p2 op i j := by
  have a : ∀ r ∈ prows, ∀ i : Fin 4, ∀ i' : Fin 4, i.val &&& i'.val = i.val → ∀ j : Fin 4, orN (sel4 i.val j.val) r 0 &&& orN (sel4 i'.val j.val) r 0 = orN (sel4 i.val j.val) r 0 := by decide +kernel
  have b : ∀ r ∈ prows, ∀ j : Fin 4, ∀ j' : Fin 4, j.val &&& j'.val = j.val → ∀ i : Fin 4, orN (sel4 i.val j.val) r 0 &&& orN (sel4 i.val j'.val) r 0 = orN (sel4 i.val j.val) r 0 := by decide +kernel
  exact in_trans (a _ (prow_in op) ⟨i, hi⟩ ⟨i', hi'⟩ h ⟨j, hj⟩) (b _ (prow_in op) ⟨j, hj⟩ ⟨j', hj'⟩ g ⟨i', hi'⟩)
theorem ex_cond {α β : Type} {b : Bool} {A B : Option (α × β)} (h : ∃ n c, A = some (n, c)) (g : ∃ n c, B = some (n, c)) : ∃ n c, (bif b then A else B) = some (n, c) := by
  cases b
  · exact g
  · exact h
theorem flag_val (b : Bool) : vm_flag.f K b = some (bif b then 1 else 0) := by cases b <;> rfl
theorem arith_ex (op x y : Int) : ∃ n c, vm_Arith.f K op x y = some (n, c) := by
  unfold vm_Arith.f
  simp only [flag_val, some_bind]
  cases h : (y == 0) <;> simp only [cond_true, cond_false] <;> repeat' first | exact ⟨_, _, rfl⟩ | apply ex_cond
noncomputable def kA (op x y : Int) : Int := ((vm_Arith.f 0 op x y).getD (0, false)).1
theorem arith_fst (op x y : Int) : ∃ c, vm_Arith.f K op x y = some (kA op x y, c) := by
  obtain ⟨n, c, h⟩ := arith_ex op x y
  exact ⟨c, by unfold kA; rw [show vm_Arith.f 0 op x y = _ from h]; exact h⟩
noncomputable def k2 (op : Int) (a : Bool) (x : Int) (b : Bool) (y : Int) : Bool × Int × Bool :=
  if op < 4 ∨ 12 < op ∨ ((op = 7 ∨ op = 8) ∧ b = true ∧ y = 0) then (false, 0, false) else if a = true ∧ b = true then (true, kA op x y, true) else (false, 0, true)
theorem k2_val (op : Int) (a : Bool) (x : Int) (b : Bool) (y : Int) : known_Two.f K op a x b y = some (k2 op a x b y) := by
  obtain ⟨c, hc⟩ := arith_fst op x y
  have tail : (bindC (bif !a then some true else some !b) fun t => bif t then (known_Any.f K).bind fun t => some (t.1, t.2, true) else (vm_Arith.f K op x y).bind fun t => (known_Of.f K).bind fun t_1 => some (t_1, t.1, true)) = some (if a = true ∧ b = true then (true, kA op x y, true) else (false, 0, true)) := by
    rw [hc]
    cases a <;> cases b <;> rfl
  have is0 : known_Known_is.f K b y 0 = some (decide (b = true ∧ y = 0)) := by
    unfold known_Known_is.f
    cases b
    · rfl
    · by_cases h : y = 0
      · subst h; rfl
      · rw [beq_eq_false_iff_ne.mpr h, decide_eq_false (fun e => h e.2)]; rfl
  unfold known_Two.f k2
  simp only [tail, is0, some_bind]
  by_cases h7 : op = 7
  · rw [beq_iff_eq.mpr h7, cond_true]
    by_cases z : b = true ∧ y = 0
    · have n : op < 4 ∨ 12 < op ∨ ((op = 7 ∨ op = 8) ∧ b = true ∧ y = 0) := .inr (.inr ⟨.inl h7, z⟩)
      rw [decide_eq_true z, if_pos n]; rfl
    · have n : ¬ (op < 4 ∨ 12 < op ∨ ((op = 7 ∨ op = 8) ∧ b = true ∧ y = 0)) := by
        rintro (h | h | h)
        · omega
        · omega
        · exact z h.2
      rw [decide_eq_false z, if_neg n]; rfl
  rw [beq_eq_false_iff_ne.mpr h7, cond_false]
  by_cases h8 : op = 8
  · rw [beq_iff_eq.mpr h8, cond_true]
    by_cases z : b = true ∧ y = 0
    · have n : op < 4 ∨ 12 < op ∨ ((op = 7 ∨ op = 8) ∧ b = true ∧ y = 0) := .inr (.inr ⟨.inr h8, z⟩)
      rw [decide_eq_true z, if_pos n]; rfl
    · have n : ¬ (op < 4 ∨ 12 < op ∨ ((op = 7 ∨ op = 8) ∧ b = true ∧ y = 0)) := by
        rintro (h | h | h)
        · omega
        · omega
        · exact z h.2
      rw [decide_eq_false z, if_neg n]; rfl
  rw [beq_eq_false_iff_ne.mpr h8, cond_false]
  by_cases o : op = 4 ∨ op = 5 ∨ op = 6 ∨ op = 9 ∨ op = 10 ∨ op = 11 ∨ op = 12
  · have n : ¬ (op < 4 ∨ 12 < op ∨ ((op = 7 ∨ op = 8) ∧ b = true ∧ y = 0)) := by
      rintro (h | h | h)
      · omega
      · omega
      · exact absurd h.1 (by omega)
    rw [if_neg n]
    rcases o with rfl | rfl | rfl | rfl | rfl | rfl | rfl <;> rfl
  · have n : op < 4 ∨ 12 < op ∨ ((op = 7 ∨ op = 8) ∧ b = true ∧ y = 0) := by omega
    rw [if_pos n]
    have n4 : op ≠ 4 := by omega
    have n5 : op ≠ 5 := by omega
    have n6 : op ≠ 6 := by omega
    have n9 : op ≠ 9 := by omega
    have n10 : op ≠ 10 := by omega
    have n11 : op ≠ 11 := by omega
    have n12 : op ≠ 12 := by omega
    rw [beq_eq_false_iff_ne.mpr n4, beq_eq_false_iff_ne.mpr n5, beq_eq_false_iff_ne.mpr n6, beq_eq_false_iff_ne.mpr n9, beq_eq_false_iff_ne.mpr n10, beq_eq_false_iff_ne.mpr n11, beq_eq_false_iff_ne.mpr n12]
    rfl
def s1 (op : Int) (i : Nat) : Nat := if op = 2 then i else if op = 3 then [0, 5, 2, 7, 1, 5, 3, 7].getD i 0 else 0
def p1 (op : Int) (i : Nat) : Nat := if op = 2 ∨ op = 3 then i else 0
theorem s1_val (op : Int) {i : Nat} (hi : i < 8) : sign_One.f K op (sg i) = some (sg (s1 op i)) := by
  by_cases h2 : op = 2
  · subst h2
    have : ∀ i : Fin 8, sign_One.f 0 2 (sg i.val) = some (sg (s1 2 i.val)) := by decide +kernel
    exact this ⟨i, hi⟩
  by_cases h3 : op = 3
  · subst h3
    have : ∀ i : Fin 8, sign_One.f 0 3 (sg i.val) = some (sg (s1 3 i.val)) := by decide +kernel
    exact this ⟨i, hi⟩
  unfold sign_One.f s1
  rw [beq_eq_false_iff_ne.mpr h2, beq_eq_false_iff_ne.mpr h3, if_neg h2, if_neg h3]; rfl
theorem p1_val (op : Int) {i : Nat} (hi : i < 4) : parity_One.f K op (sg i) = some (sg (p1 op i)) := by
  by_cases h2 : op = 2
  · subst h2
    have : ∀ i : Fin 4, parity_One.f 0 2 (sg i.val) = some (sg (p1 2 i.val)) := by decide +kernel
    exact this ⟨i, hi⟩
  by_cases h3 : op = 3
  · subst h3
    have : ∀ i : Fin 4, parity_One.f 0 3 (sg i.val) = some (sg (p1 3 i.val)) := by decide +kernel
    exact this ⟨i, hi⟩
  unfold parity_One.f p1
  rw [beq_eq_false_iff_ne.mpr h2, beq_eq_false_iff_ne.mpr h3, if_neg (by omega)]; rfl
theorem s1_lt (op : Int) {i : Nat} (hi : i < 8) : s1 op i < 8 := by
  have : ∀ i : Fin 8, [0, 5, 2, 7, 1, 5, 3, 7].getD i.val 0 < 8 := by decide
  unfold s1
  split
  · exact hi
  · split
    · exact this ⟨i, hi⟩
    · omega
theorem p1_lt (op : Int) {i : Nat} (hi : i < 4) : p1 op i < 4 := by unfold p1; split <;> omega
theorem s1_up (op : Int) {i i' : Nat} (hi : i < 8) (hi' : i' < 8) (h : i &&& i' = i) : s1 op i &&& s1 op i' = s1 op i := by
  have : ∀ i : Fin 8, ∀ i' : Fin 8, i.val &&& i'.val = i.val → [0, 5, 2, 7, 1, 5, 3, 7].getD i.val 0 &&& [0, 5, 2, 7, 1, 5, 3, 7].getD i'.val 0 = [0, 5, 2, 7, 1, 5, 3, 7].getD i.val 0 := by decide +kernel
  unfold s1
  split
  · exact h
  · split
    · exact this ⟨i, hi⟩ ⟨i', hi'⟩ h
    · rfl
def k1 (op : Int) (a : Bool) (x : Int) : Bool × Int × Bool :=
  if op = 3 then (if a = true then (true, IntKind.i64.wrap (0 - x), true) else (false, 0, true)) else if op = 2 then (if a = true then (true, x, true) else (false, 0, true)) else (false, 0, false)
theorem k1_val (op : Int) (a : Bool) (x : Int) : known_One.f K op a x = some (k1 op a x) := by
  unfold known_One.f k1
  by_cases h3 : op = 3
  · rw [beq_iff_eq.mpr h3, if_pos h3]; cases a <;> rfl
  rw [beq_eq_false_iff_ne.mpr h3, if_neg h3]
  by_cases h2 : op = 2
  · rw [beq_iff_eq.mpr h2, if_pos h2]; cases a <;> rfl
  rw [beq_eq_false_iff_ne.mpr h2, if_neg h2]; rfl
def sb (i : Nat) (yes : Bool) : Nat := bif yes then i &&& 5 else i &&& 2
def pb (i : Nat) (yes : Bool) : Nat := bif yes then i else i &&& 1
theorem sb_val {i : Nat} (hi : i < 8) (yes : Bool) : sign_Branch.f K (sg i) yes = some (sg (sb i yes)) := by
  have : ∀ yes : Bool, ∀ i : Fin 8, sign_Branch.f 0 (sg i.val) yes = some (sg (sb i.val yes)) := by decide +kernel
  exact this yes ⟨i, hi⟩
theorem pb_val {i : Nat} (hi : i < 4) (yes : Bool) : parity_Branch.f K (sg i) yes = some (sg (pb i yes)) := by
  have : ∀ yes : Bool, ∀ i : Fin 4, parity_Branch.f 0 (sg i.val) yes = some (sg (pb i.val yes)) := by decide +kernel
  exact this yes ⟨i, hi⟩
theorem sb_lt {i : Nat} (hi : i < 8) (yes : Bool) : sb i yes < 8 := by
  have : ∀ yes : Bool, ∀ i : Fin 8, sb i.val yes < 8 := by decide +kernel
  exact this yes ⟨i, hi⟩
theorem pb_lt {i : Nat} (hi : i < 4) (yes : Bool) : pb i yes < 4 := by
  have : ∀ yes : Bool, ∀ i : Fin 4, pb i.val yes < 4 := by decide +kernel
  exact this yes ⟨i, hi⟩
theorem sb_up {i i' : Nat} (hi : i < 8) (hi' : i' < 8) (yes : Bool) (h : i &&& i' = i) : sb i yes &&& sb i' yes = sb i yes := by
  have : ∀ yes : Bool, ∀ i : Fin 8, ∀ i' : Fin 8, i.val &&& i'.val = i.val → sb i.val yes &&& sb i'.val yes = sb i.val yes := by decide +kernel
  exact this yes ⟨i, hi⟩ ⟨i', hi'⟩ h
theorem pb_up {i i' : Nat} (hi : i < 4) (hi' : i' < 4) (yes : Bool) (h : i &&& i' = i) : pb i yes &&& pb i' yes = pb i yes := by
  have : ∀ yes : Bool, ∀ i : Fin 4, ∀ i' : Fin 4, i.val &&& i'.val = i.val → pb i.val yes &&& pb i'.val yes = pb i.val yes := by decide +kernel
  exact this yes ⟨i, hi⟩ ⟨i', hi'⟩ h
def kbr (a : Bool) (x : Int) (yes : Bool) : Bool × Int × Bool :=
  if yes = true then (if a = true then (if x = 0 then (false, 0, false) else (true, x, true)) else (false, 0, true)) else (if a = true ∧ x ≠ 0 then (false, 0, false) else (true, 0, true))
theorem kbr_val (a : Bool) (x : Int) (yes : Bool) : known_Branch.f K a x yes = some (kbr a x yes) := by
  unfold known_Branch.f known_Known_is.f known_Has.f kbr
  by_cases h : x = 0
  · subst h; cases a <;> cases yes <;> rfl
  · have h' := beq_eq_false_iff_ne.mpr h
    cases a <;> cases yes <;> first | rfl | (simp [h, h', bindC_def, known_Known_tidy.f, known_Of.f, known_Any.f]; done)
structure Fit (x : VV) : Prop where
  lo : fit64 x.lo
  hi : fit64 x.hi
noncomputable def two (op : Int) (x y : VV) : VV × Bool := wh (s2 op x.s y.s) (k2 op x.kb x.kn y.kb y.kn) (twoV op x.lo x.hi y.lo y.hi) (p2 op x.p y.p)
def one (op : Int) (x : VV) : VV × Bool := wh (s1 op x.s) (k1 op x.kb x.kn) (oneV op x.lo x.hi) (p1 op x.p)
def branch (x : VV) (yes : Bool) : VV × Bool := wh (sb x.s yes) (kbr x.kb x.kn yes) (branchV x.lo x.hi yes) (pb x.p yes)
theorem two_Val (hK : 2000 ≤ K) (op : Int) {x y : VV} (hx : Ok x) (hy : Ok y) (fx : Fit x) (fy : Fit y) : fact_Two.f K op x.t.1 x.t.2.1 x.t.2.2.1 x.t.2.2.2.1 x.t.2.2.2.2.1 x.t.2.2.2.2.2 y.t.1 y.t.2.1 y.t.2.2.1 y.t.2.2.2.1 y.t.2.2.2.2.1 y.t.2.2.2.2.2 = some (out (two op x y)) := by
  simp only [VV.t]
  unfold fact_Two.f
  rw [k2_val, some_bind, two_val hK op fx.lo fx.hi fy.lo fy.hi hx.le hy.le, some_bind, s2_val hx.s hy.s, some_bind, p2_val hK hx.p hy.p, some_bind, wh_val]
  rfl
theorem one_Val (op : Int) {x : VV} (hx : Ok x) (fx : Fit x) : fact_One.f K op x.t.1 x.t.2.1 x.t.2.2.1 x.t.2.2.2.1 x.t.2.2.2.2.1 x.t.2.2.2.2.2 = some (out (one op x)) := by
  simp only [VV.t]
  unfold fact_One.f
  rw [k1_val, some_bind, one_val op fx.lo fx.hi hx.le, some_bind, s1_val op hx.s, some_bind, p1_val op hx.p, some_bind, wh_val]
  rfl
theorem branch_Val {x : VV} (hx : Ok x) (yes : Bool) : fact_Branch.f K x.t.1 x.t.2.1 x.t.2.2.1 x.t.2.2.2.1 x.t.2.2.2.2.1 x.t.2.2.2.2.2 yes = some (out (branch x yes)) := by
  simp only [VV.t]
  unfold fact_Branch.f
  rw [kbr_val, some_bind, branch_val, some_bind, sb_val hx.s, some_bind, pb_val hx.p, some_bind, wh_val]
  rfl
theorem k2_clean (op : Int) (a : Bool) (x : Int) (b : Bool) (y : Int) : (k2 op a x b y).1 = false → (k2 op a x b y).2.1 = 0 := by
  unfold k2; repeat' split
  all_goals simp
theorem k1_clean (op : Int) (a : Bool) (x : Int) : (k1 op a x).1 = false → (k1 op a x).2.1 = 0 := by
  unfold k1; repeat' split
  all_goals simp
theorem kbr_clean (a : Bool) (x : Int) (yes : Bool) : (kbr a x yes).1 = false → (kbr a x yes).2.1 = 0 := by
  unfold kbr; repeat' split
  all_goals simp
theorem wh_wk {s : Nat} {k : Bool × Int × Bool} {l : Int × Int × Bool} {p : Nat} (hs : s < 8) (hp : p < 4) (hk : k.1 = false → k.2.1 = 0) : Wk (wh s k l p).1 := by
  unfold wh
  cases ((!decide (s = 0)) && (k.2.2 && (l.2.2 && !decide (p = 0))))
  · exact zero_wk
  · exact ⟨hs, hp, hk⟩
theorem two_wk (op : Int) {x y : VV} (hx : Wk x) (hy : Wk y) : Wk (two op x y).1 := wh_wk (s2_lt hx.s hy.s) (p2_lt hx.p hy.p) (k2_clean _ _ _ _ _)
theorem one_wk (op : Int) {x : VV} (hx : Wk x) : Wk (one op x).1 := wh_wk (s1_lt op hx.s) (p1_lt op hx.p) (k1_clean _ _ _)
theorem branch_wk {x : VV} (hx : Wk x) (yes : Bool) : Wk (branch x yes).1 := wh_wk (sb_lt hx.s yes) (pb_lt hx.p yes) (kbr_clean _ _ _)
theorem J_fit {x y : VV} (hx : Fit x) (hy : Fit y) : Fit (J x y) := by
  obtain ⟨a, b⟩ := hx
  obtain ⟨c, d⟩ := hy
  unfold fit64 at *
  constructor
  · unfold fit64; simp only [J, mnI]; split <;> omega
  · unfold fit64; simp only [J, mxI]; split <;> omega
end Go.Proofs.YtdjkdmjdcdljmaaGreat.AT
