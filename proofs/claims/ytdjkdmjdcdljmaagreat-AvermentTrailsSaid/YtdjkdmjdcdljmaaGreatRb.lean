/- Own work. No condition. -/
import Derived.Test.YtdjkdmjdcdljmaaGreatRa

namespace Go.Proofs.YtdjkdmjdcdljmaaGreat.AT
open Go.Proofs.YtdjkdmjdcdljmaaGreatX
set_option linter.unusedVariables false
set_option linter.unusedSimpArgs false
set_option maxRecDepth 100000
variable {K : Nat}

def fewI (x : LInsn) : LInsn := (x.1, x.2.1, x.2.2.1, x.2.2.2.1, x.2.2.2.2.1, x.2.2.2.2.2.take 6)
def fewB (b : LBlock) : LBlock := ((b.1.take 14).map fewI, b.2)
def fewF (f : LFunc) : LFunc := (f.1, f.2.1, f.2.2.1, (f.2.2.2.take 14).map fewB)
theorem few_l2 {b : LBlock} {a1 : Int} {a11 : List LBlock} (h1 : 0 ≤ a1) (hb : a11[a1.toNat]? = some b) : ∀ (k : Nat) (acc : List LInsn), 14 < k + acc.length → acc.length ≤ 14 →
    avermentlaw04_Few.l2.f K k a1 ((acc.length : Nat) : Int) a11 acc = some (acc ++ ((b.1.drop acc.length).take (14 - acc.length)).map fewI)
  | 0, acc, hk, hl => by omega
  | k + 1, acc, hk, hl => by
    rw [avermentlaw04_Few.l2.f]
    simp only [h1, hb, decide_true, Bool.and_true, cond_true, some_bind, bindC_def]
    by_cases hlt : acc.length < b.1.length
    · have e1 : decide (((acc.length : Nat) : Int) < ((b.1.length : Nat) : Int)) = true := by simp; omega
      by_cases h14 : acc.length < 14
      · have e2 : decide (((acc.length : Nat) : Int) < (14 : Int)) = true := by simp; omega
        have e3 : b.1[((acc.length : Nat) : Int).toNat]? = some b.1[acc.length] := by simp [hlt]
        simp only [e1, e2, cond_true, some_bind, ge0', e3]
        have m6 := @min6 (b.1[acc.length].2.2.2.2.2.length) 6 (by omega)
        rw [Bool.and_true] at m6
        simp only [m6, cond_true, take6 (l := b.1[acc.length].2.2.2.2.2) (c := 6) (by omega), List.drop_zero]
        rw [wrap_next (x := fewI b.1[acc.length]) (by omega)]
        have e4 : Nat.ble (acc.length + [(b.1[acc.length].1, b.1[acc.length].2.1, b.1[acc.length].2.2.1, b.1[acc.length].2.2.2.1, b.1[acc.length].2.2.2.2.1, List.take (6 : Int).toNat b.1[acc.length].2.2.2.2.2)].length) 100000 = true := by
          simp [Nat.ble_eq]; omega
        simp only [e4, cond_true]
        have ih := few_l2 h1 hb k (acc ++ [fewI b.1[acc.length]]) (by simp; omega) (by simp; omega)
        refine Eq.trans ih ?_
        rw [List.drop_eq_getElem_cons hlt]
        have : 14 - acc.length = (14 - (acc.length + 1)) + 1 := by omega
        rw [this, List.take_succ_cons]
        simp
      · have e2 : decide (((acc.length : Nat) : Int) < (14 : Int)) = false := by simp; omega
        simp only [e1, e2, cond_true, cond_false, some_bind]
        have : 14 - acc.length = 0 := by omega
        simp [this]
    · have e1 : decide (((acc.length : Nat) : Int) < ((b.1.length : Nat) : Int)) = false := by simp; omega
      simp only [e1, cond_false, some_bind]
      rw [List.drop_of_length_le (by omega)]
      simp
theorem few_l1 (hK : 100 ≤ K) {bs : List LBlock} : ∀ (k : Nat) (acc : List LBlock), 14 < k + acc.length → acc.length ≤ 14 →
    avermentlaw04_Few.l1.f K k ((acc.length : Nat) : Int) bs acc = some (acc ++ ((bs.drop acc.length).take (14 - acc.length)).map fewB)
  | 0, acc, hk, hl => by omega
  | k + 1, acc, hk, hl => by
    rw [avermentlaw04_Few.l1.f]
    simp only [bindC_def]
    by_cases hlt : acc.length < bs.length
    · have e1 : decide (((acc.length : Nat) : Int) < ((bs.length : Nat) : Int)) = true := by simp; omega
      by_cases h14 : acc.length < 14
      · have e2 : decide (((acc.length : Nat) : Int) < (14 : Int)) = true := by simp; omega
        have e3 : bs[((acc.length : Nat) : Int).toNat]? = some bs[acc.length] := by simp [hlt]
        have l2 := few_l2 (K := K) (b := bs[acc.length]) (a1 := ((acc.length : Nat) : Int)) (a11 := bs) (by omega) e3 K [] (by simp; omega) (by simp)
        simp only [List.length_nil, List.drop_zero, List.nil_append, Nat.sub_zero] at l2
        have l2' : avermentlaw04_Few.l2.f K K ((acc.length : Nat) : Int) (0 : Int) bs [] = some ((bs[acc.length].1.take 14).map fewI) := l2
        simp only [e1, e2, cond_true, some_bind, ge0, e3, l2']
        rw [wrap_next (x := fewB bs[acc.length]) (by omega)]
        have e4 : Nat.ble (acc.length + [((bs[acc.length].1.take 14).map fewI, bs[acc.length].2.1, bs[acc.length].2.2.1, bs[acc.length].2.2.2.1, bs[acc.length].2.2.2.2)].length) 100000 = true := by
          simp [Nat.ble_eq]; omega
        simp only [e4, cond_true]
        have ih := few_l1 hK (bs := bs) k (acc ++ [fewB bs[acc.length]]) (by simp; omega) (by simp; omega)
        refine Eq.trans ih ?_
        rw [List.drop_eq_getElem_cons hlt]
        have : 14 - acc.length = (14 - (acc.length + 1)) + 1 := by omega
        rw [this, List.take_succ_cons]
        simp
      · have e2 : decide (((acc.length : Nat) : Int) < (14 : Int)) = false := by simp; omega
        simp only [e1, e2, cond_true, cond_false, some_bind]
        have : 14 - acc.length = 0 := by omega
        simp [this]
    · have e1 : decide (((acc.length : Nat) : Int) < ((bs.length : Nat) : Int)) = false := by simp; omega
      simp only [e1, cond_false, some_bind]
      rw [List.drop_of_length_le (by omega)]
      simp
theorem few_l0 (hK : 100 ≤ K) {fs : List LFunc} : ∀ (k : Nat) (acc : List LFunc), 30 < k + acc.length → acc.length ≤ 30 →
    avermentlaw04_Few.l0.f K k ((acc.length : Nat) : Int) fs acc = some (acc ++ ((fs.drop acc.length).take (30 - acc.length)).map fewF)
  | 0, acc, hk, hl => by omega
  | k + 1, acc, hk, hl => by
    rw [avermentlaw04_Few.l0.f]
    simp only [bindC_def]
    by_cases hlt : acc.length < fs.length
    · have e1 : decide (((acc.length : Nat) : Int) < ((fs.length : Nat) : Int)) = true := by simp; omega
      by_cases h14 : acc.length < 30
      · have e2 : decide (((acc.length : Nat) : Int) < (30 : Int)) = true := by simp; omega
        have e3 : fs[((acc.length : Nat) : Int).toNat]? = some fs[acc.length] := by simp [hlt]
        have l1 := few_l1 (K := K) hK (bs := fs[acc.length].2.2.2) K [] (by simp; omega) (by simp)
        simp only [List.length_nil, List.drop_zero, List.nil_append, Nat.sub_zero] at l1
        have l1' : avermentlaw04_Few.l1.f K K (0 : Int) fs[acc.length].2.2.2 [] = some ((fs[acc.length].2.2.2.take 14).map fewB) := l1
        simp only [e1, e2, cond_true, some_bind, ge0, e3, l1']
        rw [wrap_next (x := fewF fs[acc.length]) (by omega)]
        have e4 : Nat.ble (acc.length + [(fs[acc.length].1, fs[acc.length].2.1, fs[acc.length].2.2.1, (fs[acc.length].2.2.2.take 14).map fewB)].length) 100000 = true := by
          simp [Nat.ble_eq]; omega
        simp only [e4, cond_true]
        have ih := few_l0 hK (fs := fs) k (acc ++ [fewF fs[acc.length]]) (by simp; omega) (by simp; omega)
        refine Eq.trans ih ?_
        rw [List.drop_eq_getElem_cons hlt]
        have : 30 - acc.length = (30 - (acc.length + 1)) + 1 := by omega
        rw [this, List.take_succ_cons]
        simp
      · have e2 : decide (((acc.length : Nat) : Int) < (30 : Int)) = false := by simp; omega
        simp only [e1, e2, cond_true, cond_false, some_bind]
        have : 30 - acc.length = 0 := by omega
        simp [this]
    · have e1 : decide (((acc.length : Nat) : Int) < ((fs.length : Nat) : Int)) = false := by simp; omega
      simp only [e1, cond_false, some_bind]
      rw [List.drop_of_length_le (by omega)]
      simp
theorem few_val (hK : 100 ≤ K) (a0 : List Int) (a1 : List LFunc) (a2 : List LImport) : avermentlaw04_Few.f K a0 a1 a2 = some (a0.take 20, (a1.take 30).map fewF, a2.take 30) := by
  unfold avermentlaw04_Few.f
  have l0 := few_l0 (K := K) hK (fs := a1) K [] (by simp; omega) (by simp)
  simp only [List.length_nil, List.drop_zero, List.nil_append, Nat.sub_zero] at l0
  have l0' : avermentlaw04_Few.l0.f K K (0 : Int) a1 [] = some ((a1.take 30).map fewF) := l0
  simp only [min6 (n := a0.length) (c := 20) (by omega), min6 (n := a2.length) (c := 30) (by omega), cond_true, l0', some_bind, take6 (l := a0) (c := 20) (by omega), take6 (l := a2) (c := 30) (by omega), List.drop_zero]
  rfl
theorem few7_val (hK : 100 ≤ K) (a0 : List Int) (a1 : List LFunc) (a2 : List LImport) (a4 a5 : List Int) : avermentlaw07_Few.f K a0 a1 a2 a4 a5 = some (a0.take 20, (a1.take 30).map fewF, a2.take 30, a4.take 8, a5.take 40) := by
  unfold avermentlaw07_Few.f
  simp only [few_val hK, some_bind, min6 (n := a4.length) (c := 8) (by omega), min6 (n := a5.length) (c := 40) (by omega), cond_true, take6 (l := a4) (c := 8) (by omega), take6 (l := a5) (c := 40) (by omega), List.drop_zero]
  rfl

theorem insn4_val {a : List Int} (h : a.length ≤ 1000) : avermentlaw04_Insn.f K a = some a := by
  unfold avermentlaw04_Insn.f
  have : Nat.ble (0 + a.length) 100000 = true := by simp [Nat.ble_eq]; omega
  simp only [this, cond_true, List.nil_append]
theorem func4_l1 {b : LBlock} {a0 : Int} {a5 : List LBlock} (h1 : 0 ≤ a0) (hb : a5[a0.toNat]? = some b) (hs : b.1.length ≤ 1000) (ha : ∀ x ∈ b.1, x.2.2.2.2.2.length ≤ 1000) : ∀ (l2 l1 : List LInsn) (k : Nat), b.1 = l1 ++ l2 → l2.length < k →
    avermentlaw04_Func.l1.f K k a0 ((l1.length : Nat) : Int) a5 l1 = some b.1
  | l2, l1, 0, h, hk => by omega
  | [], l1, k + 1, h, hk => by
    rw [avermentlaw04_Func.l1.f]
    simp only [h1, hb, decide_true, Bool.and_true, cond_true, some_bind, lt_end h, cond_false]
    rw [h]; simp
  | x :: l2, l1, k + 1, h, hk => by
    rw [avermentlaw04_Func.l1.f]
    have hx := ha x (by rw [h]; simp)
    have hl : l1.length + 1 + l2.length ≤ 1000 := by rw [h] at hs; simp at hs; omega
    simp only [h1, hb, decide_true, Bool.and_true, cond_true, some_bind, lt_mid h, ge0', at_mid h, insn4_val hx]
    rw [wrap_next (x := x) (by omega)]
    have e4 : Nat.ble (l1.length + [(x.1, x.2.1, x.2.2.1, x.2.2.2.1, x.2.2.2.2.1, x.2.2.2.2.2)].length) 100000 = true := by
      simp [Nat.ble_eq]; omega
    simp only [e4, cond_true]
    exact func4_l1 h1 hb hs ha l2 (l1 ++ [x]) k (mid_next h) (by simp at hk; omega)
def fits (fs : List LFunc) : Prop := fs.length ≤ 1000 ∧ ∀ f ∈ fs, f.2.2.2.length ≤ 1000 ∧ ∀ b ∈ f.2.2.2, b.1.length ≤ 1000 ∧ ∀ x ∈ b.1, x.2.2.2.2.2.length ≤ 1000
theorem func4_l0 (hK : 2000 ≤ K) {bs : List LBlock} (hl : bs.length ≤ 1000) (hf : ∀ b ∈ bs, b.1.length ≤ 1000 ∧ ∀ x ∈ b.1, x.2.2.2.2.2.length ≤ 1000) : ∀ (l2 l1 : List LBlock) (k : Nat), bs = l1 ++ l2 → l2.length < k →
    avermentlaw04_Func.l0.f K k ((l1.length : Nat) : Int) bs l1 = some bs
  | l2, l1, 0, h, hk => by omega
  | [], l1, k + 1, h, hk => by
    rw [avermentlaw04_Func.l0.f]
    simp only [lt_end h, cond_false]
    rw [h]; simp
  | x :: l2, l1, k + 1, h, hk => by
    rw [avermentlaw04_Func.l0.f]
    obtain ⟨q1, q2⟩ := hf x (by rw [h]; simp)
    have hl2 : l1.length + 1 + l2.length ≤ 1000 := by rw [h] at hl; simp at hl; omega
    have l1v := func4_l1 (K := K) (b := x) (a0 := ((l1.length : Nat) : Int)) (a5 := bs) (by omega) (at_mid h) q1 q2 x.1 [] K (by simp) (by omega)
    have l1v' : avermentlaw04_Func.l1.f K K ((l1.length : Nat) : Int) (0 : Int) bs [] = some x.1 := l1v
    simp only [lt_mid h, ge0, at_mid h, cond_true, some_bind, avermentlaw04_End.f, l1v']
    rw [wrap_next (x := x) (by omega)]
    have e4 : Nat.ble (l1.length + [(x.1, x.2.1, x.2.2.1, x.2.2.2.1, x.2.2.2.2)].length) 100000 = true := by simp [Nat.ble_eq]; omega
    simp only [e4, cond_true]
    exact func4_l0 hK hl hf l2 (l1 ++ [x]) k (mid_next h) (by simp at hk; omega)
theorem func4_val (hK : 2000 ≤ K) {bs : List LBlock} (hl : bs.length ≤ 1000) (hf : ∀ b ∈ bs, b.1.length ≤ 1000 ∧ ∀ x ∈ b.1, x.2.2.2.2.2.length ≤ 1000) : avermentlaw04_Func.f K bs = some bs :=
  func4_l0 hK hl hf bs [] K rfl (by omega)
theorem to_l0 (hK : 2000 ≤ K) {fs : List LFunc} (hf : fits fs) : ∀ (l2 l1 : List LFunc) (k : Nat), fs = l1 ++ l2 → l2.length < k → avermentlaw04_To.l0.f K k ((l1.length : Nat) : Int) fs l1 = some fs
  | l2, l1, 0, h, hk => by omega
  | [], l1, k + 1, h, hk => by
    rw [avermentlaw04_To.l0.f]
    simp only [lt_end h, cond_false]
    rw [h]; simp
  | x :: l2, l1, k + 1, h, hk => by
    rw [avermentlaw04_To.l0.f]
    obtain ⟨q1, q2⟩ := hf.2 x (by rw [h]; simp)
    have hl2 : l1.length + 1 + l2.length ≤ 1000 := by have := hf.1; rw [h] at this; simp at this; omega
    simp only [lt_mid h, ge0, at_mid h, cond_true, some_bind, func4_val hK q1 q2]
    rw [wrap_next (x := x) (by omega)]
    have e4 : Nat.ble (l1.length + [(x.1, x.2.1, x.2.2.1, x.2.2.2)].length) 100000 = true := by simp [Nat.ble_eq]; omega
    simp only [e4, cond_true]
    exact to_l0 hK hf l2 (l1 ++ [x]) k (mid_next h) (by simp at hk; omega)
theorem to_l1 {is : List LImport} (hl : is.length ≤ 1000) : ∀ (l2 l1 : List LImport) (k : Nat), is = l1 ++ l2 → l2.length < k → avermentlaw04_To.l1.f K k ((l1.length : Nat) : Int) is l1 = some is
  | l2, l1, 0, h, hk => by omega
  | [], l1, k + 1, h, hk => by
    rw [avermentlaw04_To.l1.f]
    simp only [lt_end h, cond_false]
    rw [h]; simp
  | x :: l2, l1, k + 1, h, hk => by
    rw [avermentlaw04_To.l1.f]
    have hl2 : l1.length + 1 + l2.length ≤ 1000 := by have := hl; rw [h] at this; simp at this; omega
    simp only [lt_mid h, ge0, at_mid h, cond_true, some_bind]
    rw [wrap_next (x := x) (by omega)]
    have e4 : Nat.ble (l1.length + [(x.1, x.2)].length) 100000 = true := by simp [Nat.ble_eq]; omega
    simp only [e4, cond_true]
    exact to_l1 hl l2 (l1 ++ [x]) k (mid_next h) (by simp at hk; omega)
theorem to_val (hK : 2000 ≤ K) {a0 : List Int} {a1 : List LFunc} {a2 : List LImport} (h0 : a0.length ≤ 1000) (h1 : fits a1) (h2 : a2.length ≤ 1000) : avermentlaw04_To.f K a0 a1 a2 = some (a0, a1, a2) := by
  unfold avermentlaw04_To.f
  have e : Nat.ble (0 + a0.length) 100000 = true := by simp [Nat.ble_eq]; omega
  have l0 : avermentlaw04_To.l0.f K K (0 : Int) a1 [] = some a1 := to_l0 hK h1 a1 [] K rfl (by have := h1.1; omega)
  have l1 : avermentlaw04_To.l1.f K K (0 : Int) a2 [] = some a2 := to_l1 h2 a2 [] K rfl (by omega)
  simp only [e, cond_true, l0, l1, some_bind, List.nil_append]
end Go.Proofs.YtdjkdmjdcdljmaaGreat.AT
