/- Own work. No condition. -/
import Derived.Test.YtdjkdmjdcdljmaaGreatRd

namespace Go.Proofs.YtdjkdmjdcdljmaaGreat.AT
open Go.Proofs.YtdjkdmjdcdljmaaGreatX
set_option linter.unusedVariables false
set_option linter.unusedSimpArgs false
set_option maxRecDepth 100000
set_option maxHeartbeats 4000000
variable {K : Nat}

def usesD (op : Int) : Bool := (decide (1 ≤ op) && decide (op ≤ 13)) || (op == 15 || op == 17)
def usesA (op : Int) : Bool := (decide (2 ≤ op) && decide (op ≤ 12)) || (op == 14 || op == 16)
def usesB (op : Int) : Bool := decide (4 ≤ op) && decide (op ≤ 12)
def reg (regs v : Int) : Prop := 0 ≤ v ∧ v < regs
structure okInsn (nc : Nat) (ar : List Int) (regs : Int) (x : LInsn) : Prop where
  op : 1 ≤ x.1 ∧ x.1 ≤ 17
  d : if usesD x.1 then reg regs x.2.1 else x.2.1 = 0
  a : if usesA x.1 then reg regs x.2.2.1 else x.2.2.1 = 0
  b : if usesB x.1 then reg regs x.2.2.2.1 else if x.1 = 13 ∨ x.1 = 14 then reg nc x.2.2.2.1 else if x.1 = 17 then reg ar.length x.2.2.2.1 ∧ arI ar x.2.2.2.1 = x.2.2.2.2.2.length else x.2.2.2.1 = 0
  n : x.1 ≠ 1 → x.2.2.2.2.1 = 0
  args : if x.1 = 17 then ∀ v ∈ x.2.2.2.2.2, reg regs v else x.2.2.2.2.2 = []
theorem usesD4_val (op : Int) : avermentref04_UsesD.f K op = some (usesD op) := by
  unfold avermentref04_UsesD.f usesD
  generalize (op == 15) = p
  generalize (op == 17) = q
  by_cases h1 : 1 ≤ op <;> by_cases h2 : op ≤ 13 <;> cases p <;> cases q <;> simp [h1, h2, bindC_def]
theorem usesA4_val (op : Int) : avermentref04_UsesA.f K op = some (usesA op) := by
  unfold avermentref04_UsesA.f usesA
  generalize (op == 14) = p
  generalize (op == 16) = q
  by_cases h1 : 2 ≤ op <;> by_cases h2 : op ≤ 12 <;> cases p <;> cases q <;> simp [h1, h2, bindC_def]
theorem usesB4_val (op : Int) : avermentref04_UsesB.f K op = some (usesB op) := by
  unfold avermentref04_UsesB.f usesB
  by_cases h1 : 4 ≤ op <;> by_cases h2 : op ≤ 12 <;> simp [h1, h2, bindC_def]
theorem insn4_l0 {regs : Int} : ∀ (l2 l1 : List Int) (k : Nat) (l : List Int), l = l1 ++ l2 → l.length ≤ 1000 → l2.length < k → ∃ r, avermentref04_insn.l0.f K k regs ((l1.length : Nat) : Int) l = some r ∧ (r = .inl () → ∀ v ∈ l2, reg regs v) ∧ ∀ n, r = .inr n → n = 9
  | l2, l1, 0, l, h, hl, hk => by omega
  | [], l1, k + 1, l, h, hl, hk => by
    rw [avermentref04_insn.l0.f]
    simp only [lt_end h, cond_false]
    exact ⟨_, rfl, fun _ v hv => by simp at hv, fun n h => by cases h⟩
  | x :: l2, l1, k + 1, l, h, hl, hk => by
    rw [avermentref04_insn.l0.f]
    have hl1 : l1.length ≤ 1000 := by rw [h] at hl; simp at hl; omega
    simp only [lt_mid h, ge0, at_mid h, cond_true, some_bind, below_val, wrap_next (l1 := l1) (x := x) (by omega)]
    cases hb : (decide (0 ≤ x) && decide (x < regs)) with
    | false =>
      simp only [Bool.not_false, cond_true]
      exact ⟨_, rfl, (fun h => by cases h), (fun n h => by cases h; rfl)⟩
    | true =>
      simp only [Bool.not_true, cond_false]
      obtain ⟨r, h1, h2, h3⟩ := insn4_l0 l2 (l1 ++ [x]) k l (mid_next h) hl (by simp at hk; omega)
      refine ⟨r, h1, fun hr v hv => ?_, h3⟩
      rcases List.mem_cons.1 hv with rfl | hv
      · simpa [reg] using hb
      · exact h2 hr v hv
theorem op_cases {op : Int} (h1 : 1 ≤ op) (h2 : op ≤ 17) : op = 1 ∨ op = 2 ∨ op = 3 ∨ op = 4 ∨ op = 5 ∨ op = 6 ∨ op = 7 ∨ op = 8 ∨ op = 9 ∨ op = 10 ∨ op = 11 ∨ op = 12 ∨ op = 13 ∨ op = 14 ∨ op = 15 ∨ op = 16 ∨ op = 17 := by omega
theorem cond_some {α : Type} {c : Bool} {a b : α} : (bif c then some a else some b) = some (bif c then a else b) := by cases c <;> rfl
theorem c_or {a b : Bool} : (bif a then true else b) = (a || b) := by cases a <;> rfl
theorem c_and {a b : Bool} : (bif a then b else false) = (a && b) := by cases a <;> rfl
theorem c_imp {a b c : Bool} : (bif !a then b else c) = bif a then c else b := by cases a <;> rfl
theorem step_ex {c : Bool} {v : Int} {X : Option Int} {P : Prop} (hv : v ≠ 0) (h : c = false → ∃ r, X = some r ∧ (r = 0 → P)) : ∃ r, (bif c then some v else X) = some r ∧ (r = 0 → P) := by
  cases c with
  | true => exact ⟨v, rfl, fun h => absurd h hv⟩
  | false => exact h rfl
theorem insn4_ok (hK : 2000 ≤ K) {cells : List Int} {fs : List LFunc} {is : List LImport} (hl : fs.length + is.length ≤ 1000) (regs op d a b n : Int) (args : List Int) (ha : args.length ≤ 1000) :
    ∃ r, avermentref04_insn.f K cells fs is regs op d a b n args = some r ∧ (r = 0 → okInsn cells.length (arities fs is) regs (op, d, a, b, n, args)) := by
  unfold avermentref04_insn.f
  simp only [bindC_def, some_bind, usesD4_val, usesA4_val, usesB4_val, below_val, count_val hl, arity4_val hl, cond_some]
  obtain ⟨q, hq, hq1, hq2⟩ := insn4_l0 (K := K) (regs := regs) args [] K args rfl ha (by omega)
  have hq' : avermentref04_insn.l0.f K K regs (0 : Int) args = some q := hq
  rw [hq']
  simp only [some_bind, c_or, c_and, c_imp]
  refine step_ex (by decide) fun h1 => step_ex (by decide) fun h2 => step_ex (by decide) fun h3 => step_ex (by decide) fun h4 => ?_
  simp only [Bool.or_eq_false_iff, decide_eq_false_iff_not] at h1
  have len : (arities fs is).length = fs.length + is.length := by simp
  by_cases h17 : op = 17
  · subst h17
    simp only [show ((17 : Int) != 17) = false from rfl, cond_false]
    refine step_ex (by decide) fun h5 => step_ex (by decide) fun h6 => ?_
    cases q with
    | inr m => exact ⟨m, rfl, fun h => by have := hq2 m rfl; omega⟩
    | inl u =>
      refine ⟨0, rfl, fun _ => ⟨⟨by omega, by omega⟩, ?_, ?_, ?_, ?_, ?_⟩⟩
      · simp [usesD, usesA, usesB, reg] at h3 ⊢; omega
      · simp [usesD, usesA, usesB] at h2 ⊢; omega
      · simp [usesD, usesA, usesB, reg] at h5 h6 ⊢
        exact ⟨by omega, h6.symm⟩
      · simp [usesD, usesA, usesB] at h2 ⊢; omega
      · simpa using hq1 rfl
  · have e17 : (op != 17) = true := by simp [h17]
    simp only [e17, cond_true]
    refine ⟨0, rfl, fun _ => ?_⟩
    rcases op_cases (by omega : 1 ≤ op) (by omega : op ≤ 17) with rfl | rfl | rfl | rfl | rfl | rfl | rfl | rfl | rfl | rfl | rfl | rfl | rfl | rfl | rfl | rfl | rfl <;> first | exact absurd rfl h17 | skip
    all_goals (simp [usesD, usesA, usesB] at h2 h3 h4; refine ⟨⟨by dsimp only; decide, by dsimp only; decide⟩, ?_, ?_, ?_, ?_, ?_⟩ <;> simp [usesD, usesA, usesB, reg] <;> first | omega | (simp_all; done) | (simp_all; omega))
end Go.Proofs.YtdjkdmjdcdljmaaGreat.AT
