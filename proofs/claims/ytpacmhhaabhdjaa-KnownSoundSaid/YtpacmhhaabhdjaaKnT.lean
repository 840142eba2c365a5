/- Two known numbers. -/
import Derived.Test.YtpacmhhaabhdjaaKN4
import Derived.Test.YtpacmhhaabhdjaaKN5
import Derived.Test.YtpacmhhaabhdjaaKN8

set_option linter.unusedSimpArgs false
set_option linter.unusedVariables false
namespace Go.Proofs.Ytpacmhhaabhdjaa.Kn
open Go.RowKit Go.Proofs.Ytpacmhhaabhdjaa.KN Go.Proofs.YtpacmhhaabhdjaaW.PrintWords Go.Proofs.YtpacmhhaabhdjaaW.PrintLast Go.Proofs.YtpacmhhaabhdjaaW.PrintMore
/-- What is there is handed on. -/
theorem bs {α β : Type} (x : α) (f : α → Option β) : (some x).bind f = f x := by cases h : f x <;> simp [h]
theorem told_k (k : Nat) (hk : 20 ≤ k) : avermentlaw09_told.f k = some true := at_rounds avermentlaw09_told.mono hk (by decide +kernel)
/-- What two numbers come to, and whether they do, is what it was. -/
theorem arith_same (op x y : Int) (k : Nat) : vm_Arith.f (k + 1) op x y = avermentref07_Arith.f op x y := by
  have fl : ∀ c : Bool, vm_flag.f c = some (if c = true then 1 else 0) := fun c => by unfold vm_flag.f; cases c <;> rfl
  unfold vm_Arith.f avermentref07_Arith.f
  by_cases h4 : op = 4
  · rw [if_pos h4, if_pos h4]
  rw [if_neg h4, if_neg h4]
  by_cases h5 : op = 5
  · rw [if_pos h5, if_pos h5]
  rw [if_neg h5, if_neg h5]
  by_cases h6 : op = 6
  · rw [if_pos h6, if_pos h6]
  rw [if_neg h6, if_neg h6]
  by_cases h9 : op = 9
  · rw [if_pos h9, if_neg (by omega), if_neg (by omega), if_pos h9]
  rw [if_neg h9]
  by_cases h10 : op = 10
  · rw [if_pos h10, if_neg (by omega), if_neg (by omega), if_neg h9, if_pos h10]
  rw [if_neg h10]
  by_cases h11 : op = 11
  · rw [if_pos h11, if_neg (by omega), if_neg (by omega), if_neg h9, if_neg h10, if_pos h11, fl, bs]
    by_cases c : x < y
    · rw [if_pos c, if_pos (decide_eq_true c)]
    · rw [if_neg c, if_neg (by simp [c])]
  rw [if_neg h11]
  by_cases h12 : op = 12
  · rw [if_pos h12, if_neg (by omega), if_neg (by omega), if_neg h9, if_neg h10, if_neg h11, if_pos h12, fl, bs]
    by_cases c : x = y
    · rw [if_pos c, if_pos (beq_iff_eq.mpr c)]
    · rw [if_neg c, if_neg (by simp [c])]
  rw [if_neg h12]
  simp only [vm_Arith.j0]
  by_cases h7 : op = 7
  · rw [if_pos h7, if_pos h7, if_pos (beq_iff_eq.mpr h7), if_pos h7]
    by_cases y0 : y = 0
    · rw [if_pos y0, if_pos y0]
    · rw [if_neg y0, if_neg y0]
      by_cases y1 : y = -1
      · rw [if_pos y1, y1, Int.tdiv_neg, Int.tdiv_one]
      · rw [if_neg y1]
  rw [if_neg h7, if_neg h7]
  by_cases h8 : op = 8
  · rw [if_pos (beq_iff_eq.mpr h8)]
    by_cases y0 : y = 0
    · simp only [h7, h8, y0, if_true, if_false, reduceIte]
      simp
    · simp only [h7, h8, y0, if_true, if_false, reduceIte]
      by_cases y1 : y = -1
      · simp only [y1, if_true, reduceIte, Int.tmod_neg, Int.tmod_one]
        simp
      · simp only [y1, if_false, reduceIte]
        simp
  · rw [if_neg (by simp [h8])]
    simp only [h7, h8, h9, h10, h11, h12, if_false, reduceIte]
theorem arith_some (op x y : Int) : ∃ r, avermentref07_Arith.f op x y = some r := by
  unfold avermentref07_Arith.f
  repeat' (first | exact ⟨_, rfl⟩ | split)
/-- The number that two come to. -/
def kA (op x y : Int) : Int := ((avermentref07_Arith.f op x y).getD (0, false)).1
theorem arith_fst (op x y : Int) : ∃ c, avermentref07_Arith.f op x y = some (kA op x y, c) := by
  obtain ⟨⟨n, c⟩, h⟩ := arith_some op x y
  exact ⟨c, by unfold kA; rw [h]; rfl⟩
/-- What an operation makes of what is known. -/
def kTwo (op : Int) (a : Bool) (x : Int) (b : Bool) (y : Int) : Bool × Int × Bool :=
  if op < 4 ∨ 12 < op ∨ ((op = 7 ∨ op = 8) ∧ b = true ∧ y = 0) then (false, 0, false) else if a = true ∧ b = true then (true, kA op x y, true) else (false, 0, true)
theorem j1_val (op x y : Int) (a b : Bool) (k : Nat) : known_Two.j1 (k + 3) op a x b y = some (if a = true ∧ b = true then (true, kA op x y, true) else (false, 0, true)) := by
  obtain ⟨c, hc⟩ := arith_fst op x y
  cases a <;> cases b <;> simp [known_Two.j1, known_Two.j2, known_Any.f, known_Of.f, arith_same, hc]
theorem two_val (op x y : Int) (a b : Bool) (k : Nat) : known_Two.f (k + 4) op a x b y = some (kTwo op a x b y) := by
  have jv := j1_val op x y a b k
  unfold known_Two.f kTwo
  by_cases h78 : op = 7 ∨ op = 8
  · have e : known_Two.f (k + 4) op a x b y = known_Two.j0 (k + 4) op op true a x b y := by
      unfold known_Two.f
      rcases h78 with h | h
      · rw [if_pos h, beq_iff_eq.mpr h]
      · rw [if_neg (by omega), beq_iff_eq.mpr h]
    unfold known_Two.f at e
    rw [e]
    simp only [known_Two.j0, if_true]
    rw [jv]
    by_cases z : b = true ∧ y = 0
    · have n : op < 4 ∨ 12 < op ∨ ((op = 7 ∨ op = 8) ∧ b = true ∧ y = 0) := .inr (.inr ⟨h78, z⟩)
      rw [if_pos n]
      simp [known_Known_is.f, known_Any.f, z.1, z.2]
    · have n : ¬ (op < 4 ∨ 12 < op ∨ ((op = 7 ∨ op = 8) ∧ b = true ∧ y = 0)) := by
        rintro (h | h | h)
        · omega
        · omega
        · exact z h.2
      rw [if_neg n]
      have q : known_Known_is.f b y 0 = some false := by
        unfold known_Known_is.f
        cases b
        · rfl
        · have : y ≠ 0 := fun h => z ⟨rfl, h⟩
          simp [this]
      rw [q, bs, if_neg Bool.false_ne_true]
  · have h7 : op ≠ 7 := fun h => h78 (.inl h)
    have h8 : op ≠ 8 := fun h => h78 (.inr h)
    rw [if_neg h7, beq_eq_false_iff_ne.mpr h8]
    simp only [known_Two.j0, Bool.false_eq_true, if_false]
    rw [jv]
    by_cases r : op < 4 ∨ 12 < op
    · have n : op < 4 ∨ 12 < op ∨ ((op = 7 ∨ op = 8) ∧ b = true ∧ y = 0) := by
        rcases r with r | r
        · exact .inl r
        · exact .inr (.inl r)
      rw [if_pos n, if_neg (show ¬ op = 4 by omega), if_neg (show ¬ op = 5 by omega), if_neg (show ¬ op = 6 by omega), if_neg (show ¬ op = 9 by omega), if_neg (show ¬ op = 10 by omega), if_neg (show ¬ op = 11 by omega), if_neg (show ¬ op = 12 by omega)]
      rfl
    · have n : ¬ (op < 4 ∨ 12 < op ∨ ((op = 7 ∨ op = 8) ∧ b = true ∧ y = 0)) := by
        rintro (h | h | h)
        · exact r (.inl h)
        · exact r (.inr h)
        · exact h78 h.1
      rw [if_neg n]
      have m : op = 4 ∨ op = 5 ∨ op = 6 ∨ op = 9 ∨ op = 10 ∨ op = 11 ∨ op = 12 := by omega
      rcases m with m | m | m | m | m | m | m <;> simp [m]
theorem rtwo_val (op x y : Int) (a b : Bool) (k : Nat) : avermentref09_Two.f (k + 1) op a x b y = some (kTwo op a x b y) := by
  obtain ⟨c, hc⟩ := arith_fst op x y
  have j : ∀ t : Bool, avermentref09_Two.j0 (k + 1) op t a x b y = some (if t = true then (false, 0, false) else if a = true ∧ b = true then (true, kA op x y, true) else (false, 0, true)) := fun t => by
    cases t <;> cases a <;> cases b <;> simp [avermentref09_Two.j0, hc]
  unfold avermentref09_Two.f kTwo
  simp only [j]
  by_cases h4 : op < 4
  · have n : op < 4 ∨ 12 < op ∨ ((op = 7 ∨ op = 8) ∧ b = true ∧ y = 0) := .inl h4
    rw [if_pos h4, if_pos n, if_pos trivial]
  · rw [if_neg h4]
    by_cases h12 : op > 12
    · have n : op < 4 ∨ 12 < op ∨ ((op = 7 ∨ op = 8) ∧ b = true ∧ y = 0) := .inr (.inl h12)
      rw [if_pos h12, if_pos n, if_pos trivial]
    · rw [if_neg h12]
      by_cases h7 : op = 7
      · rw [if_pos h7]
        cases b
        · simp [h7]
        · by_cases z : y = 0 <;> simp [h7, z]
      · rw [if_neg h7]
        by_cases h8 : op = 8
        · rw [if_pos h8]
          cases b
          · simp [h8]
          · by_cases z : y = 0 <;> simp [h8, z]
        · have n : ¬ (op < 4 ∨ 12 < op ∨ ((op = 7 ∨ op = 8) ∧ b = true ∧ y = 0)) := by
            rintro (h | h | h)
            · exact h4 h
            · exact h12 h
            · exact h.1.elim h7 h8
          rw [if_neg h8, if_neg n, if_neg Bool.false_ne_true]
end Go.Proofs.Ytpacmhhaabhdjaa.Kn
