/- Own work. No condition. -/
import Derived.Test.YtdjkdmjdcdljmaaGreatRg

namespace Go.Proofs.YtdjkdmjdcdljmaaGreat.AT
open Go.Proofs.YtdjkdmjdcdljmaaGreatX
set_option linter.unusedVariables false
set_option linter.unusedSimpArgs false
set_option maxRecDepth 100000
set_option maxHeartbeats 4000000
variable {K : Nat}

theorem set_same {α : Type} {l : List α} {i : Nat} {x : α} (h : l[i]? = some x) : l.set i x = l := by
  obtain ⟨h1, h2⟩ := List.getElem?_eq_some_iff.1 h
  subst h2
  exact List.set_getElem_self h1
theorem blt_mid {α : Type} {l l1 l2 : List α} {x : α} (h : l = l1 ++ x :: l2) : Nat.blt ((l1.length : Nat) : Int).toNat l.length = true := by
  subst h; exact Nat.ble_eq_true_of_le (by simp)
theorem set_mid {α : Type} {l l1 l2 : List α} {x : α} (h : l = l1 ++ x :: l2) : l.set ((l1.length : Nat) : Int).toNat x = l := set_same (at_mid h)
theorem cloneInt_val {l : List Int} (h : l.length ≤ 100000) : slices_Clone_int_int.f K l = some l := by
  unfold slices_Clone_int_int.f; rw [Nat.ble_eq_true_of_le (by omega)]; rfl
theorem cloneI64_val {l : List Int} (h : l.length ≤ 100000) : slices_Clone_int64_int64.f K l = some l := by
  unfold slices_Clone_int64_int64.f; rw [Nat.ble_eq_true_of_le (by omega)]; rfl
theorem cloneI64o_val {l : List Int} (h : l.length ≤ 100000) : slices_Clone_int64_int64_own.f K l = some l := by
  unfold slices_Clone_int64_int64_own.f; rw [Nat.ble_eq_true_of_le (by omega)]; rfl
theorem copied_l1 {l : List LInsn} (hl : l.length ≤ 1000) (ha : ∀ x ∈ l, x.2.2.2.2.2.length ≤ 1000) : ∀ (l2 l1 : List LInsn) (k : Nat), l = l1 ++ l2 → l2.length < k → ir_copied.l1.f K k ((l.length : Nat) : Int) ((l1.length : Nat) : Int) l = some l
  | l2, l1, 0, h, hk => by omega
  | [], l1, k + 1, h, hk => by
    rw [ir_copied.l1.f]
    simp only [lt_end h, cond_false]
  | x :: l2, l1, k + 1, h, hk => by
    rw [ir_copied.l1.f]
    have hl1 : l1.length ≤ 1000 := by rw [h] at hl; simp at hl; omega
    simp only [lt_mid h, ge0', blt_mid h, at_mid h, cond_true, some_bind, cloneInt_val (K := K) (l := x.2.2.2.2.2) (by have := ha x (by rw [h]; simp); omega), wrap_next (l1 := l1) (x := x) (by omega)]
    have : l.set ((l1.length : Nat) : Int).toNat (x.1, x.2.1, x.2.2.1, x.2.2.2.1, x.2.2.2.2.1, x.2.2.2.2.2) = l := set_mid h
    rw [this]
    exact copied_l1 hl ha l2 (l1 ++ [x]) k (mid_next h) (by simp at hk; omega)
theorem copied_l0 (hK : 2000 ≤ K) {l : List LBlock} (hl : l.length ≤ 1000) (ha : ∀ b ∈ l, b.1.length ≤ 1000 ∧ ∀ x ∈ b.1, x.2.2.2.2.2.length ≤ 1000) : ∀ (l2 l1 : List LBlock) (k : Nat), l = l1 ++ l2 → l2.length < k → ir_copied.l0.f K k ((l.length : Nat) : Int) ((l1.length : Nat) : Int) l = some l
  | l2, l1, 0, h, hk => by omega
  | [], l1, k + 1, h, hk => by
    rw [ir_copied.l0.f]
    simp only [lt_end h, cond_false]
  | x :: l2, l1, k + 1, h, hk => by
    rw [ir_copied.l0.f]
    have hl1 : l1.length ≤ 1000 := by rw [h] at hl; simp at hl; omega
    obtain ⟨q1, q2⟩ := ha x (by rw [h]; simp)
    have c : slices_Clone_ir_Insn_ir_Insn_own.f K x.1 = some x.1 := by unfold slices_Clone_ir_Insn_ir_Insn_own.f; rw [Nat.ble_eq_true_of_le (by omega)]; rfl
    have c2 : ir_copied.l1.f K K ((x.1.length : Nat) : Int) (0 : Int) x.1 = some x.1 := copied_l1 q1 q2 x.1 [] K rfl (by omega)
    simp only [lt_mid h, ge0', blt_mid h, at_mid h, cond_true, some_bind, c, c2, wrap_next (l1 := l1) (x := x) (by omega)]
    have : l.set ((l1.length : Nat) : Int).toNat (x.1, x.2.1, x.2.2.1, x.2.2.2.1, x.2.2.2.2) = l := set_mid h
    rw [this]
    exact copied_l0 hK hl ha l2 (l1 ++ [x]) k (mid_next h) (by simp at hk; omega)
theorem copied_val (hK : 2000 ≤ K) {l : List LBlock} (hl : l.length ≤ 1000) (ha : ∀ b ∈ l, b.1.length ≤ 1000 ∧ ∀ x ∈ b.1, x.2.2.2.2.2.length ≤ 1000) : ir_copied.f K l = some l := by
  unfold ir_copied.f
  have c : slices_Clone_ir_Block_ir_Block_own.f K l = some l := by unfold slices_Clone_ir_Block_ir_Block_own.f; rw [Nat.ble_eq_true_of_le (by omega)]; rfl
  rw [c, some_bind]
  exact copied_l0 hK hl ha l [] K rfl (by omega)
theorem copyo_l0 (hK : 2000 ≤ K) {fs : List LFunc} (hf : fits fs) : ∀ (l2 l1 : List LFunc) (k : Nat), fs = l1 ++ l2 → l2.length < k → ir_Copy_own.l0.f K k fs ((fs.length : Nat) : Int) ((l1.length : Nat) : Int) l1 = some fs
  | l2, l1, 0, h, hk => by omega
  | [], l1, k + 1, h, hk => by
    rw [ir_Copy_own.l0.f]
    simp only [lt_end h, cond_false]
    rw [h]; simp
  | x :: l2, l1, k + 1, h, hk => by
    rw [ir_Copy_own.l0.f]
    obtain ⟨q1, q2⟩ := hf.2 x (by rw [h]; simp)
    have hl2 : l1.length + 1 + l2.length ≤ 1000 := by have := hf.1; rw [h] at this; simp at this; omega
    have e4 : Nat.ble (l1.length + [(x.1, x.2.1, x.2.2.1, x.2.2.2)].length) 100000 = true := Nat.ble_eq_true_of_le (by simp; omega)
    simp only [lt_mid h, ge0, at_mid h, cond_true, some_bind, copied_val hK q1 q2, e4, wrap_next (l1 := l1) (x := x) (by omega)]
    exact copyo_l0 hK hf l2 (l1 ++ [x]) k (mid_next h) (by simp at hk; omega)
theorem copyo_val (hK : 2000 ≤ K) {cells : List Int} {fs : List LFunc} {is : List LImport} (hc : cells.length ≤ 1000) (hi : is.length ≤ 1000) (hf : fits fs) : ir_Copy_own.f K cells fs is = some (cells, fs, is) := by
  unfold ir_Copy_own.f
  have c : slices_Clone_ir_Import_ir_Import_own.f K is = some is := by unfold slices_Clone_ir_Import_ir_Import_own.f; rw [Nat.ble_eq_true_of_le (by omega)]; rfl
  have l0 : ir_Copy_own.l0.f K K fs ((fs.length : Nat) : Int) (0 : Int) [] = some fs := copyo_l0 hK hf fs [] K rfl (by have := hf.1; omega)
  simp only [cloneI64o_val (K := K) (l := cells) (by omega), c, l0, some_bind]
end Go.Proofs.YtdjkdmjdcdljmaaGreat.AT
