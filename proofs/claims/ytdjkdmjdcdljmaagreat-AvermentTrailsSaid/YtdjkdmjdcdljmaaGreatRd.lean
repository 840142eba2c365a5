/- Own work. No condition. -/
import Derived.Test.YtdjkdmjdcdljmaaGreatRc

namespace Go.Proofs.YtdjkdmjdcdljmaaGreat.AT
open Go.Proofs.YtdjkdmjdcdljmaaGreatX
set_option linter.unusedVariables false
set_option linter.unusedSimpArgs false
set_option linter.unusedSectionVars false
set_option maxRecDepth 100000
variable {K : Nat}

abbrev names (fs : List LFunc) (is : List LImport) : List ByteArray := fs.map (·.1) ++ is.map (·.1)
abbrev arities (fs : List LFunc) (is : List LImport) : List Int := fs.map (·.2.1) ++ is.map (·.2)
theorem within_val (a b : Int) : ir_within.f K a b = some (decide (0 ≤ a) && decide (a < b)) := by
  unfold ir_within.f
  by_cases h : 0 ≤ a
  · simp [h, bindC_def]
  · simp [h, bindC_def]
theorem below_val (a b : Int) : avermentref04_below_has.f K a b = some (decide (0 ≤ b) && decide (b < a)) := by
  unfold avermentref04_below_has.f
  by_cases h : 0 ≤ b
  · simp [h, bindC_def]
  · simp [h, bindC_def]
section
variable {fs : List LFunc} {is : List LImport} (hl : fs.length + is.length ≤ 1000)
include hl
theorem count_val : avermentref04_Count.f K fs is = some (((fs.length + is.length : Nat)) : Int) := by
  unfold avermentref04_Count.f
  rw [wrap64_of (by omega) (by omega)]
  simp
theorem name4_val {i : Nat} (h : i < (names fs is).length) : avermentref04_Name.f K fs is ((i : Nat) : Int) = some (names fs is)[i] := by
  unfold avermentref04_Name.f
  by_cases hi : i < fs.length
  · have e1 : decide (((i : Nat) : Int) < ((fs.length : Nat) : Int)) = true := by simp; omega
    simp only [ge_iff_le, ge0', cond_true, e1, bindC_def, some_bind, Bool.and_true, Int.toNat_natCast, List.getElem?_eq_getElem hi]
    simp [List.getElem_append, hi]
  · have e1 : decide (((i : Nat) : Int) < ((fs.length : Nat) : Int)) = false := by simp; omega
    have e2 : decide (((i : Nat) : Int) ≥ ((fs.length : Nat) : Int)) = true := by simp; omega
    have hi2 : i < fs.length + is.length := by simpa using h
    have e3 : decide (((i : Nat) : Int) < ((fs.length + is.length : Nat) : Int)) = true := by simp; omega
    have w : IntKind.i64.wrap (((i : Nat) : Int) - ((fs.length : Nat) : Int)) = ((i - fs.length : Nat) : Int) := by rw [wrap64_of (by omega) (by omega)]; omega
    simp only [ge0', ge_iff_le, cond_true, cond_false, e1, bindC_def, some_bind, Bool.and_true, count_val hl, e3, w, Int.toNat_natCast, List.getElem?_eq_getElem (show i - fs.length < is.length by omega)]
    have e2' : decide (((fs.length : Nat) : Int) ≤ ((i : Nat) : Int)) = true := by simp; omega
    have e4 : (names fs is)[i] = is[i - fs.length].1 := by simp [List.getElem_append, hi]
    simp only [e2', cond_true, some_bind, e3, ge0', e4, w, Int.toNat_natCast, List.getElem?_eq_getElem (show i - fs.length < is.length by omega)]
theorem name_val {i : Nat} (h : i < (names fs is).length) : ir_Name.f K fs is ((i : Nat) : Int) = some (names fs is)[i] := by
  unfold ir_Name.f
  by_cases hi : i < fs.length
  · have e1 : decide (((i : Nat) : Int) < ((fs.length : Nat) : Int)) = true := by simp; omega
    simp only [within_val, some_bind, ge0', e1, Bool.and_true, cond_true, Int.toNat_natCast, List.getElem?_eq_getElem hi]
    simp [List.getElem_append, hi]
  · have e1 : decide (((i : Nat) : Int) < ((fs.length : Nat) : Int)) = false := by simp; omega
    have hi2 : i < fs.length + is.length := by simpa using h
    have w : IntKind.i64.wrap (((i : Nat) : Int) - ((fs.length : Nat) : Int)) = ((i - fs.length : Nat) : Int) := by rw [wrap64_of (by omega) (by omega)]; omega
    have e3 : decide (((i - fs.length : Nat) : Int) < ((is.length : Nat) : Int)) = true := by simp; omega
    simp only [within_val, some_bind, ge0', e1, Bool.and_true, Bool.and_false, cond_true, cond_false, w, e3, Int.toNat_natCast, List.getElem?_eq_getElem (show i - fs.length < is.length by omega)]
    simp [List.getElem_append, hi]
def fnd : List ByteArray → Nat → ByteArray → Option Nat
  | [], _, _ => none
  | n :: r, i, s => if n.toList == s.toList then some i else fnd r (i + 1) s
def fndI (l : List ByteArray) (s : ByteArray) : Int := match fnd l 0 s with
  | some i => i
  | none => -1
omit hl in
def outF : Option Nat → Unit ⊕ Int
  | some i => .inr i
  | none => .inl ()
theorem find4_l0 {s : ByteArray} : ∀ (l2 l1 : List ByteArray) (k : Nat), names fs is = l1 ++ l2 → l2.length < k → avermentref04_Find.l0.f K k s ((l1.length : Nat) : Int) fs is = some (outF (fnd l2 l1.length s))
  | l2, l1, 0, h, hk => by omega
  | [], l1, k + 1, h, hk => by
    rw [avermentref04_Find.l0.f]
    have hn : l1.length = fs.length + is.length := by have := congrArg List.length h; simp at this; omega
    have e : decide (((l1.length : Nat) : Int) < ((fs.length + is.length : Nat) : Int)) = false := by simp; omega
    simp only [count_val hl, some_bind, e, cond_false, fnd, outF]
  | x :: l2, l1, k + 1, h, hk => by
    rw [avermentref04_Find.l0.f]
    have hn : l1.length + 1 + l2.length = fs.length + is.length := by have := congrArg List.length h; simp at this; omega
    have e : decide (((l1.length : Nat) : Int) < ((fs.length + is.length : Nat) : Int)) = true := by simp; omega
    have hx : (names fs is)[l1.length]'(by simp; omega) = x := by simp only [h]; simp
    simp only [count_val hl, some_bind, e, cond_true, name4_val hl (i := l1.length) (by simp; omega), hx, fnd]
    cases hc : x.toList == s.toList with
    | true => simp [outF]
    | false =>
      simp only [cond_false]
      rw [wrap_next (x := x) (by omega), find4_l0 l2 (l1 ++ [x]) k (mid_next h) (by simp at hk; omega)]
      simp
theorem find4_val (hK : 2000 ≤ K) (s : ByteArray) : avermentref04_Find.f K fs is s = some (fndI (names fs is) s) := by
  unfold avermentref04_Find.f
  have : avermentref04_Find.l0.f K K s (0 : Int) fs is = some (outF (fnd (names fs is) 0 s)) := find4_l0 hl (names fs is) [] K rfl (by simp; omega)
  rw [this]
  unfold fndI
  cases fnd (names fs is) 0 s <;> rfl
theorem find_l0 {s : ByteArray} : ∀ (l2 l1 : List ByteArray) (k : Nat), names fs is = l1 ++ l2 → l2.length < k → ir_Find.l0.f K k s ((fs.length + is.length : Nat) : Int) ((l1.length : Nat) : Int) fs is = some (outF (fnd l2 l1.length s))
  | l2, l1, 0, h, hk => by omega
  | [], l1, k + 1, h, hk => by
    rw [ir_Find.l0.f]
    have hn : l1.length = fs.length + is.length := by have := congrArg List.length h; simp at this; omega
    have e : decide (((l1.length : Nat) : Int) < ((fs.length + is.length : Nat) : Int)) = false := by simp; omega
    simp only [e, cond_false, fnd, outF]
  | x :: l2, l1, k + 1, h, hk => by
    rw [ir_Find.l0.f]
    have hn : l1.length + 1 + l2.length = fs.length + is.length := by have := congrArg List.length h; simp at this; omega
    have e : decide (((l1.length : Nat) : Int) < ((fs.length + is.length : Nat) : Int)) = true := by simp; omega
    have hx : (names fs is)[l1.length]'(by simp; omega) = x := by simp only [h]; simp
    simp only [some_bind, e, cond_true, name_val hl (i := l1.length) (by simp; omega), hx, fnd]
    cases hc : x.toList == s.toList with
    | true => simp [outF]
    | false =>
      simp only [cond_false]
      rw [wrap_next (x := x) (by omega), find_l0 l2 (l1 ++ [x]) k (mid_next h) (by simp at hk; omega)]
      simp
theorem find_val (hK : 2000 ≤ K) (s : ByteArray) : ir_Find.f K fs is s = some (fndI (names fs is) s) := by
  unfold ir_Find.f
  have w : IntKind.i64.wrap (((fs.length : Nat) : Int) + ((is.length : Nat) : Int)) = ((fs.length + is.length : Nat) : Int) := by rw [wrap64_of (by omega) (by omega)]; simp
  have : ir_Find.l0.f K K s ((fs.length + is.length : Nat) : Int) (0 : Int) fs is = some (outF (fnd (names fs is) 0 s)) := find_l0 hl (names fs is) [] K rfl (by simp; omega)
  rw [w, this]
  unfold fndI
  cases fnd (names fs is) 0 s <;> rfl
def arI (l : List Int) (i : Int) : Int := if 0 ≤ i then (match l[i.toNat]? with | some v => v | none => -1) else -1
theorem arity4_val (i : Int) : avermentref04_Arity.f K fs is i = some (arI (arities fs is) i) := by
  unfold avermentref04_Arity.f arI
  by_cases h0 : 0 ≤ i
  · rw [if_pos h0]
    obtain ⟨n, rfl⟩ : ∃ n : Nat, i = n := ⟨i.toNat, by omega⟩
    by_cases hi : n < fs.length
    · have e1 : decide (((n : Nat) : Int) < ((fs.length : Nat) : Int)) = true := by simp; omega
      simp only [ge_iff_le, ge0', cond_true, e1, bindC_def, some_bind, Bool.and_true, Int.toNat_natCast, List.getElem?_eq_getElem hi]
      rw [List.getElem?_append_left (by simpa using hi)]
      simp [hi]
    · have e1 : decide (((n : Nat) : Int) < ((fs.length : Nat) : Int)) = false := by simp; omega
      have e2 : decide (((n : Nat) : Int) ≥ ((fs.length : Nat) : Int)) = true := by simp; omega
      simp only [ge0', ge_iff_le, cond_true, cond_false, e1, bindC_def, some_bind, Bool.and_true, count_val hl, Int.toNat_natCast]
      have e2' : decide (((fs.length : Nat) : Int) ≤ ((n : Nat) : Int)) = true := by simp; omega
      rw [List.getElem?_append_right (by simpa using hi)]
      simp only [e2', cond_true, List.length_map]
      by_cases hi2 : n < fs.length + is.length
      · have e3 : decide (((n : Nat) : Int) < ((fs.length + is.length : Nat) : Int)) = true := by simp; omega
        have w : IntKind.i64.wrap (((n : Nat) : Int) - ((fs.length : Nat) : Int)) = ((n - fs.length : Nat) : Int) := by rw [wrap64_of (by omega) (by omega)]; omega
        simp only [e3, cond_true, w, ge0', some_bind, Int.toNat_natCast, List.getElem?_eq_getElem (show n - fs.length < is.length by omega)]
        simp [List.getElem?_eq_getElem (show n - fs.length < is.length by omega)]
      · have e3 : decide (((n : Nat) : Int) < ((fs.length + is.length : Nat) : Int)) = false := by simp; omega
        simp only [e3, cond_false, some_bind]
        have e9 : (is.map (·.2))[n - fs.length]? = none := List.getElem?_eq_none (by rw [List.length_map]; omega)
        simp only [e9]
  · rw [if_neg h0]
    have e0 : decide (i ≥ (0 : Int)) = false := by simp; omega
    have e2 : decide (i ≥ ((fs.length : Nat) : Int)) = false := by simp; omega
    simp only [e0, e2, cond_false, bindC_def, some_bind]
theorem arity_val {i : Int} (hb : -1000000 ≤ i ∧ i ≤ 1000000) : ir_Arity.f K fs is i = some (arI (arities fs is) i) := by
  unfold ir_Arity.f arI
  by_cases h0 : 0 ≤ i
  · rw [if_pos h0]
    obtain ⟨n, rfl⟩ : ∃ n : Nat, i = n := ⟨i.toNat, by omega⟩
    by_cases hi : n < fs.length
    · have e1 : decide (((n : Nat) : Int) < ((fs.length : Nat) : Int)) = true := by simp; omega
      simp only [within_val, ge0', cond_true, e1, some_bind, Bool.and_true, Int.toNat_natCast, List.getElem?_eq_getElem hi]
      rw [List.getElem?_append_left (by simpa using hi)]
      simp [hi]
    · have e1 : decide (((n : Nat) : Int) < ((fs.length : Nat) : Int)) = false := by simp; omega
      have w : IntKind.i64.wrap (((n : Nat) : Int) - ((fs.length : Nat) : Int)) = ((n - fs.length : Nat) : Int) := by rw [wrap64_of (by omega) (by omega)]; omega
      simp only [within_val, ge0', ge_iff_le, cond_true, cond_false, e1, bindC_def, some_bind, Bool.and_true, Bool.and_false, w, Int.toNat_natCast]
      rw [List.getElem?_append_right (by simpa using hi)]
      simp only [List.length_map]
      by_cases hi2 : n < fs.length + is.length
      · have e3 : decide (((n - fs.length : Nat) : Int) < ((is.length : Nat) : Int)) = true := by simp; omega
        simp only [e3, Bool.and_true, cond_true, ge0', some_bind, List.getElem?_eq_getElem (show n - fs.length < is.length by omega)]
        simp [List.getElem?_eq_getElem (show n - fs.length < is.length by omega)]
      · have e3 : decide (((n - fs.length : Nat) : Int) < ((is.length : Nat) : Int)) = false := by simp; omega
        simp only [e3, Bool.and_false, cond_false, some_bind]
        have e9 : (is.map (·.2))[n - fs.length]? = none := List.getElem?_eq_none (by rw [List.length_map]; omega)
        simp only [e9]
  · rw [if_neg h0]
    have e0 : decide (0 ≤ i) = false := by simp; omega
    have e0' : decide (i ≥ (0 : Int)) = false := by simp; omega
    simp only [within_val, e0, e0', Bool.false_and, cond_false, bindC_def, some_bind]
end
end Go.Proofs.YtdjkdmjdcdljmaaGreat.AT
