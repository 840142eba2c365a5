/- Copies; a machine's program. No condition beside those stated. -/
import Derived.Test.YtdjkdmjdcdljmaaGreatRm

namespace Go.Proofs.YtdjkdmjdcdljmaaGreat.AR
open Go.Proofs.YtdjkdmjdcdljmaaGreatX
set_option linter.unusedVariables false
set_option linter.unusedSimpArgs false
set_option maxRecDepth 100000
set_option maxHeartbeats 4000000
variable {K : Nat}

theorem set_same {α : Type} {l : List α} {i : Nat} {x : α} (h : l[i]? = some x) : l.set i x = l := by
  obtain ⟨h1, h2⟩ := List.getElem?_eq_some_iff.1 h
  subst h2
  exact List.set_getElem_self h1
theorem blt_mid {α : Type} {l l1 l2 : List α} {x : α} (h : l = l1 ++ x :: l2) : Nat.blt ((l1.length : Nat) : Int).toNat l.length = true := by
  subst h; exact Nat.ble_eq_true_of_le (by simp)
theorem set_mid {α : Type} {l l1 l2 : List α} {x : α} (h : l = l1 ++ x :: l2) : l.set ((l1.length : Nat) : Int).toNat x = l := set_same (at_mid h)
theorem cloneInt_val {l : List Int} (h : l.length ≤ 100000) : slices_Clone_int_int.f K l = some l := by
  unfold slices_Clone_int_int.f; rw [Nat.ble_eq_true_of_le (by omega)]; rfl
theorem cloneI64_val {l : List Int} (h : l.length ≤ 100000) : slices_Clone_int64_int64.f K l = some l := by
  unfold slices_Clone_int64_int64.f; rw [Nat.ble_eq_true_of_le (by omega)]; rfl
theorem cloneI64o_val {l : List Int} (h : l.length ≤ 100000) : slices_Clone_int64_int64_own.f K l = some l := by
  unfold slices_Clone_int64_int64_own.f; rw [Nat.ble_eq_true_of_le (by omega)]; rfl
theorem cloneI64i_val {l : List Int} (h : l.length ≤ 100000) : slices_Clone_int64_int64_in.f K l = some l := by
  unfold slices_Clone_int64_int64_in.f; rw [Nat.ble_eq_true_of_le (by omega)]; rfl
theorem copied_l1 {l : List LInsn} (hl : l.length ≤ 1000) (ha : ∀ x ∈ l, x.2.2.2.2.2.length ≤ 1000) : ∀ (l2 l1 : List LInsn) (k : Nat), l = l1 ++ l2 → l2.length < k → ir_copied.l1.f K k ((l.length : Nat) : Int) ((l1.length : Nat) : Int) l = some l
  | l2, l1, 0, h, hk => by omega
  | [], l1, k + 1, h, hk => by
    rw [ir_copied.l1.f]
    simp only [lt_end h, cond_false]
  | x :: l2, l1, k + 1, h, hk => by
    rw [ir_copied.l1.f]
    have hl1 : l1.length ≤ 1000 := by rw [h] at hl; simp at hl; omega
    simp only [lt_mid h, ge0', blt_mid h, at_mid h, cond_true, some_bind, cloneInt_val (K := K) (l := x.2.2.2.2.2) (by have := ha x (by rw [h]; simp); omega), wrap_next (l1 := l1) (x := x) (by omega)]
    have : l.set ((l1.length : Nat) : Int).toNat (x.1, x.2.1, x.2.2.1, x.2.2.2.1, x.2.2.2.2.1, x.2.2.2.2.2) = l := set_mid h
    rw [this]
    exact copied_l1 hl ha l2 (l1 ++ [x]) k (mid_next h) (by simp at hk; omega)
theorem copied_l0 (hK : 2000 ≤ K) {l : List LBlock} (hl : l.length ≤ 1000) (ha : ∀ b ∈ l, b.1.length ≤ 1000 ∧ ∀ x ∈ b.1, x.2.2.2.2.2.length ≤ 1000) : ∀ (l2 l1 : List LBlock) (k : Nat), l = l1 ++ l2 → l2.length < k → ir_copied.l0.f K k ((l.length : Nat) : Int) ((l1.length : Nat) : Int) l = some l
  | l2, l1, 0, h, hk => by omega
  | [], l1, k + 1, h, hk => by
    rw [ir_copied.l0.f]
    simp only [lt_end h, cond_false]
  | x :: l2, l1, k + 1, h, hk => by
    rw [ir_copied.l0.f]
    have hl1 : l1.length ≤ 1000 := by rw [h] at hl; simp at hl; omega
    obtain ⟨q1, q2⟩ := ha x (by rw [h]; simp)
    have c : slices_Clone_ir_Insn_ir_Insn_own.f K x.1 = some x.1 := by unfold slices_Clone_ir_Insn_ir_Insn_own.f; rw [Nat.ble_eq_true_of_le (by omega)]; rfl
    have c2 : ir_copied.l1.f K K ((x.1.length : Nat) : Int) (0 : Int) x.1 = some x.1 := copied_l1 q1 q2 x.1 [] K rfl (by omega)
    simp only [lt_mid h, ge0', blt_mid h, at_mid h, cond_true, some_bind, c, c2, wrap_next (l1 := l1) (x := x) (by omega)]
    have : l.set ((l1.length : Nat) : Int).toNat (x.1, x.2.1, x.2.2.1, x.2.2.2.1, x.2.2.2.2) = l := set_mid h
    rw [this]
    exact copied_l0 hK hl ha l2 (l1 ++ [x]) k (mid_next h) (by simp at hk; omega)
theorem copied_val (hK : 2000 ≤ K) {l : List LBlock} (hl : l.length ≤ 1000) (ha : ∀ b ∈ l, b.1.length ≤ 1000 ∧ ∀ x ∈ b.1, x.2.2.2.2.2.length ≤ 1000) : ir_copied.f K l = some l := by
  unfold ir_copied.f
  have c : slices_Clone_ir_Block_ir_Block_own.f K l = some l := by unfold slices_Clone_ir_Block_ir_Block_own.f; rw [Nat.ble_eq_true_of_le (by omega)]; rfl
  rw [c, some_bind]
  exact copied_l0 hK hl ha l [] K rfl (by omega)
theorem copyo_l0 (hK : 2000 ≤ K) {fs : List LFunc} (hf : fits fs) : ∀ (l2 l1 : List LFunc) (k : Nat), fs = l1 ++ l2 → l2.length < k → ir_Copy_own.l0.f K k fs ((fs.length : Nat) : Int) ((l1.length : Nat) : Int) l1 = some fs
  | l2, l1, 0, h, hk => by omega
  | [], l1, k + 1, h, hk => by
    rw [ir_Copy_own.l0.f]
    simp only [lt_end h, cond_false]
    rw [h]; simp
  | x :: l2, l1, k + 1, h, hk => by
    rw [ir_Copy_own.l0.f]
    obtain ⟨q1, q2⟩ := hf.2 x (by rw [h]; simp)
    have hl2 : l1.length + 1 + l2.length ≤ 1000 := by have := hf.1; rw [h] at this; simp at this; omega
    have e4 : Nat.ble (l1.length + [(x.1, x.2.1, x.2.2.1, x.2.2.2)].length) 100000 = true := Nat.ble_eq_true_of_le (by simp; omega)
    simp only [lt_mid h, ge0, at_mid h, cond_true, some_bind, copied_val hK q1 q2, e4, wrap_next (l1 := l1) (x := x) (by omega)]
    exact copyo_l0 hK hf l2 (l1 ++ [x]) k (mid_next h) (by simp at hk; omega)
theorem copyo_val (hK : 2000 ≤ K) {cells : List Int} {fs : List LFunc} {is : List LImport} (hc : cells.length ≤ 1000) (hi : is.length ≤ 1000) (hf : fits fs) : ir_Copy_own.f K cells fs is = some (cells, fs, is) := by
  unfold ir_Copy_own.f
  have c : slices_Clone_ir_Import_ir_Import_own.f K is = some is := by unfold slices_Clone_ir_Import_ir_Import_own.f; rw [Nat.ble_eq_true_of_le (by omega)]; rfl
  have l0 : ir_Copy_own.l0.f K K fs ((fs.length : Nat) : Int) (0 : Int) [] = some fs := copyo_l0 hK hf fs [] K rfl (by have := hf.1; omega)
  simp only [cloneI64o_val (K := K) (l := cells) (by omega), c, l0, some_bind]
theorem copy_one (hK : 2000 ≤ K) {f : LFunc} (hf : fits [f]) : ir_Copy.f K [] [f] [] = some ([], [f], []) := by
  unfold ir_Copy.f
  have c : slices_Clone_ir_Import_ir_Import_own.f K [] = some [] := by unfold slices_Clone_ir_Import_ir_Import_own.f; rfl
  obtain ⟨q1, q2⟩ := hf.2 f (by simp)
  have l0 : ir_Copy.l0.f K K [f] (([f].length : Nat) : Int) (0 : Int) [] = some [f] := by
    obtain ⟨n, rfl⟩ : ∃ n, K = n + 2 := ⟨K - 2, by omega⟩
    rw [ir_Copy.l0.f]
    have h : [f] = ([] : List LFunc) ++ f :: [] := rfl
    have e1 : decide ((0 : Int) < (([f].length : Nat) : Int)) = true := by simp
    have e2 : (decide ((0 : Int) ≤ 0) && true) = true := by simp
    have e4 : Nat.ble (([] : List LFunc).length + [(f.1, f.2.1, f.2.2.1, f.2.2.2)].length) 100000 = true := Nat.ble_eq_true_of_le (by simp)
    have w : IntKind.i64.wrap ((0 : Int) + 1) = 1 := by rw [wrap64_of (by omega) (by omega)]; rfl
    have e5 : ([f] : List LFunc)[(0 : Int).toNat]? = some f := rfl
    simp only [e1, e2, e5, cond_true, some_bind, copied_val hK q1 q2, e4, w]
    rw [ir_Copy.l0.f]
    have e6 : decide ((1 : Int) < (([f].length : Nat) : Int)) = false := by simp
    simp only [e6, cond_false]
    simp
  simp only [cloneI64o_val (K := K) (l := []) (by simp), c, l0, some_bind]
/-! ### A machine's program -/
theorem ready_l2 {l : List LInsn} (hl : l.length ≤ 1000) : ∀ (l2 l1 : List LInsn) (k : Nat) (s : Int) (st : List Int), l = l1 ++ l2 → l2.length < k → st.length = l.length → ∃ s' st', vm_ready.l2.f K k s l ((l.length : Nat) : Int) ((l1.length : Nat) : Int) st = some (s', st') ∧ st'.length = l.length
  | l2, l1, 0, s, st, h, hk, hs => by omega
  | [], l1, k + 1, s, st, h, hk, hs => by
    rw [vm_ready.l2.f]
    simp only [lt_end h, cond_false]
    exact ⟨_, _, rfl, hs⟩
  | x :: l2, l1, k + 1, s, st, h, hk, hs => by
    rw [vm_ready.l2.f]
    have hl1 : l1.length ≤ 1000 := by rw [h] at hl; simp at hl; omega
    have hlt : l1.length < st.length := by rw [hs, h]; simp
    obtain ⟨p, hp⟩ : ∃ p, ir_Sets.f K x.1 x.2.1 = some p := by
      unfold ir_Sets.f ir_Insn_fields.f
      simp only [cond_some, some_bind]
      exact ⟨_, rfl⟩
    have e1 : Nat.blt l1.length st.length = true := Nat.ble_eq_true_of_le (by omega)
    have a1 : l[l1.length]? = some x := by rw [h]; simp
    simp only [lt_mid h, ge0', Bool.and_true, a1, cond_true, some_bind, hp, e1, Int.toNat_natCast, List.getElem?_eq_getElem hlt, wrap_next (l1 := l1) (x := x) (by omega)]
    cases p.2 with
    | true => exact ready_l2 hl l2 (l1 ++ [x]) k _ _ (mid_next h) (by simp at hk; omega) (by simpa using hs)
    | false => exact ready_l2 hl l2 (l1 ++ [x]) k _ _ (mid_next h) (by simp at hk; omega) hs
/-- A block's entry in a machine's program. -/
def sitedOk (b : LBlock) (s : Lsited) : Prop := s.1 = b.1 ∧ s.2.1.length = b.1.length ∧ s.2.2 = b.2
theorem ready_l1 (hK : 2000 ≤ K) {l : List LBlock} (hl : l.length ≤ 1000) (ha : ∀ b ∈ l, b.1.length ≤ 1000) : ∀ (l2 l1 : List LBlock) (k : Nat) (s : Int) (acc : List Lsited), l = l1 ++ l2 → l2.length < k → All2 sitedOk l1 acc → ∃ s' acc', vm_ready.l1.f K k s l ((l.length : Nat) : Int) ((l1.length : Nat) : Int) acc = some (s', acc') ∧ All2 sitedOk l acc'
  | l2, l1, 0, s, acc, h, hk, hs => by omega
  | [], l1, k + 1, s, acc, h, hk, hs => by
    rw [vm_ready.l1.f]
    simp only [lt_end h, cond_false]
    exact ⟨_, _, rfl, by rw [h]; simpa using hs⟩
  | x :: l2, l1, k + 1, s, acc, h, hk, hs => by
    rw [vm_ready.l1.f]
    have hl1 : l1.length ≤ 1000 := by rw [h] at hl; simp at hl; omega
    have q := ha x (by rw [h]; simp)
    have hacc := hs.length
    obtain ⟨s1, st1, g1, g2⟩ := ready_l2 (K := K) q x.1 [] K s (List.replicate ((x.1.length : Nat) : Int).toNat 0) rfl (by omega) (by simp)
    have g1' : vm_ready.l2.f K K s x.1 ((x.1.length : Nat) : Int) (0 : Int) (List.replicate ((x.1.length : Nat) : Int).toNat 0) = some (s1, st1) := g1
    have e3 : (decide (((x.1.length : Nat) : Int) ≤ (100000 : Int)) && ((x.1.length : Nat) : Int) == ((x.1.length : Nat) : Int) && true && true && true) = true := by simp; omega
    have e4 : Nat.ble (acc.length + [(x.1, st1, x.2.1, x.2.2.1, x.2.2.2.1, x.2.2.2.2)].length) 100000 = true := Nat.ble_eq_true_of_le (by simp; omega)
    simp only [lt_mid h, ge0, at_mid h, cond_true, some_bind, e3, g1', e4, wrap_next (l1 := l1) (x := x) (by omega)]
    exact ready_l1 hK hl ha l2 (l1 ++ [x]) k _ _ (mid_next h) (by simp at hk; omega) (hs.append ⟨⟨rfl, g2, rfl⟩, trivial⟩)
theorem ready_l0 (hK : 2000 ≤ K) {l : List LFunc} (hl : fits l) : ∀ (l2 l1 : List LFunc) (k : Nat) (s : Int) (acc : List (List Lsited)) (fst : List Int), l = l1 ++ l2 → l2.length < k → All2 (fun f a => All2 sitedOk f.2.2.2 a) l1 acc → fst.length = l1.length → ∃ acc' fst', vm_ready.l0.f K k s l ((l.length : Nat) : Int) ((l1.length : Nat) : Int) acc fst = some (acc', fst') ∧ All2 (fun f a => All2 sitedOk f.2.2.2 a) l acc' ∧ fst'.length = l.length
  | l2, l1, 0, s, acc, fst, h, hk, hs, hf => by omega
  | [], l1, k + 1, s, acc, fst, h, hk, hs, hf => by
    rw [vm_ready.l0.f]
    simp only [lt_end h, cond_false]
    exact ⟨_, _, rfl, by rw [h]; simpa using hs, by rw [h]; simpa using hf⟩
  | x :: l2, l1, k + 1, s, acc, fst, h, hk, hs, hf => by
    rw [vm_ready.l0.f]
    have hl1 : l1.length ≤ 1000 := by have := hl.1; rw [h] at this; simp at this; omega
    obtain ⟨q1, q2⟩ := hl.2 x (by rw [h]; simp)
    have hacc := hs.length
    obtain ⟨s1, a1, g1, g2⟩ := ready_l1 (K := K) hK q1 (fun b hb => (q2 b hb).1) x.2.2.2 [] K (IntKind.i64.wrap (s + x.2.2.1)) [] rfl (by omega) trivial
    have g1' : vm_ready.l1.f K K (IntKind.i64.wrap (s + x.2.2.1)) x.2.2.2 ((x.2.2.2.length : Nat) : Int) (0 : Int) [] = some (s1, a1) := g1
    have e3 : Nat.ble (fst.length + [s].length) 100000 = true := Nat.ble_eq_true_of_le (by simp; omega)
    have e4 : Nat.ble (acc.length + [a1].length) 100000 = true := Nat.ble_eq_true_of_le (by simp; omega)
    simp only [lt_mid h, ge0, at_mid h, cond_true, some_bind, e3, g1', e4, wrap_next (l1 := l1) (x := x) (by omega)]
    exact ready_l0 hK hl l2 (l1 ++ [x]) k _ _ _ (mid_next h) (by simp at hk; omega) (hs.append ⟨g2, trivial⟩) (by simp [hf])
theorem vready_val (hK : 2000 ≤ K) {fs : List LFunc} (hf : fits fs) : ∃ bls fst, vm_ready.f K fs = some (some (fs, bls, fst)) ∧ All2 (fun f a => All2 sitedOk f.2.2.2 a) fs bls ∧ fst.length = fs.length := by
  unfold vm_ready.f
  obtain ⟨bls, fst, h1, h2, h3⟩ := ready_l0 (K := K) hK hf fs [] K 0 [] [] rfl (by have := hf.1; omega) trivial rfl
  rw [show vm_ready.l0.f K K (0 : Int) fs ((fs.length : Nat) : Int) (0 : Int) [] [] = some (bls, fst) from h1]
  exact ⟨bls, fst, rfl, h2, h3⟩
end Go.Proofs.YtdjkdmjdcdljmaaGreat.AR
