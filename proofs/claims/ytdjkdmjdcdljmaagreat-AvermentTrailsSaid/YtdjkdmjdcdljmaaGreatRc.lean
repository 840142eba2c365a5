/- Own work. No condition. -/
import Derived.Test.YtdjkdmjdcdljmaaGreatRb

namespace Go.Proofs.YtdjkdmjdcdljmaaGreat.AT
open Go.Proofs.YtdjkdmjdcdljmaaGreatX
set_option linter.unusedVariables false
set_option linter.unusedSimpArgs false
set_option maxRecDepth 100000
variable {K : Nat}

def goodB (v : Int) : Bool := (decide (97 ≤ v) && decide (v ≤ 122)) || (decide (48 ≤ v) && decide (v ≤ 57))
def nameOk (s : ByteArray) : Prop := 1 ≤ s.size ∧ s.size ≤ 12 ∧ (∀ v, (bytesOf s)[0]? = some v → 97 ≤ v ∧ v ≤ 122) ∧ ∀ v ∈ bytesOf s, goodB v = true
theorem bytesOf_len (s : ByteArray) : (bytesOf s).length = s.size := by unfold bytesOf; rw [List.length_map]; rfl
theorem bytesOf_get {s : ByteArray} {i : Nat} (h : i < s.size) : ((s[i]?.getD (0 : UInt8)).toNat : Int) = (bytesOf s)[i]'(by rw [bytesOf_len]; exact h) := by
  have h2 : s[i]? = some s[i] := getElem?_pos s i h
  rw [h2]
  simp only [Option.getD_some, bytesOf, List.getElem_map]
  rfl
theorem named4_l0 {s : ByteArray} (hs : s.size ≤ 12) : ∀ (n : Nat) (k i : Nat), s.size - i ≤ n → n < k → i ≤ s.size → ∃ r, avermentref04_Named.l0.f K k s ((i : Nat) : Int) = some r ∧ (r = .inl () → ∀ j v, i ≤ j → (bytesOf s)[j]? = some v → goodB v = true) ∧ ∀ b, r = .inr b → b = false
  | n, 0, i, hn, hk, hi => by omega
  | n, k + 1, i, hn, hk, hi => by
    rw [avermentref04_Named.l0.f]
    by_cases hlt : i < s.size
    · have e1 : decide (((i : Nat) : Int) < ((s.size : Nat) : Int)) = true := by simp; omega
      have e2 : Nat.blt ((i : Nat) : Int).toNat s.size = true := Nat.ble_eq_true_of_le (show ((i : Nat) : Int).toNat + 1 ≤ s.size by simp; omega)
      have e3 : ((s[((i : Nat) : Int).toNat]?.getD (0 : UInt8)).toNat : Int) = (bytesOf s)[i]'(by rw [bytesOf_len]; exact hlt) := bytesOf_get hlt
      simp only [e1, e2, ge0', cond_true, e3]
      generalize hv : (bytesOf s)[i]'(by rw [bytesOf_len]; exact hlt) = v
      have w : IntKind.i64.wrap (((i : Nat) : Int) + (1 : Int)) = ((i + 1 : Nat) : Int) := by rw [wrap64_of (by omega) (by omega)]; simp
      have key : ∃ b : Bool, (bif decide (v < (97 : Int)) then bif decide (v < (48 : Int)) then some true else some (decide (v > (57 : Int))) else bif decide (v > (122 : Int)) then bif decide (v < (48 : Int)) then some true else some (decide (v > (57 : Int))) else some false) = some b ∧ (b = false → goodB v = true) := by
        simp only [Bool.cond_eq_ite, decide_eq_true_eq, goodB]
        repeat' split
        all_goals (refine ⟨_, rfl, fun h => ?_⟩; first | (cases h; done) | (simp at h ⊢; omega) | (simp; omega))
      obtain ⟨b, hb, hg⟩ := key
      rw [hb]
      cases b with
      | true => exact ⟨_, rfl, (fun h => by cases h), (fun b h => by cases h; rfl)⟩
      | false =>
        simp only [bindC_def, some_bind, cond_false, w]
        match n, hk with
        | 0, _ => omega
        | n + 1, hk =>
          obtain ⟨r, h1, h2, h3⟩ := named4_l0 hs n k (i + 1) (by omega) (by omega) (by omega)
          refine ⟨r, h1, fun hr j u hj hu => ?_, h3⟩
          by_cases hji : j = i
          · subst hji
            rw [List.getElem?_eq_getElem (by rw [bytesOf_len]; exact hlt)] at hu
            cases hu
            rw [hv]
            exact hg rfl
          · exact h2 hr j u (by omega) hu
    · have e1 : decide (((i : Nat) : Int) < ((s.size : Nat) : Int)) = false := by simp; omega
      simp only [e1, cond_false]
      refine ⟨_, rfl, fun _ j v hj hv => ?_, fun b h => by cases h⟩
      have := (List.getElem?_eq_some_iff.1 hv).1
      rw [bytesOf_len] at this
      omega
theorem named4 (hK : 100 ≤ K) (s : ByteArray) : ∃ b, avermentref04_Named.f K s = some b ∧ (b = true → nameOk s) := by
  unfold avermentref04_Named.f
  by_cases h1 : s.size < 1
  · have e : decide (((s.size : Nat) : Int) < (1 : Int)) = true := by simp; omega
    simp only [e, cond_true, bindC_def, some_bind]
    exact ⟨_, rfl, fun h => by cases h⟩
  · have e : decide (((s.size : Nat) : Int) < (1 : Int)) = false := by simp; omega
    by_cases h2 : s.size > 12
    · have e' : decide (((s.size : Nat) : Int) > (12 : Int)) = true := by simp; omega
      simp only [e, e', cond_true, cond_false, bindC_def, some_bind]
      exact ⟨_, rfl, fun h => by cases h⟩
    · have e' : decide (((s.size : Nat) : Int) > (12 : Int)) = false := by simp; omega
      have e2 : Nat.blt 0 s.size = true := Nat.ble_eq_true_of_le (by omega)
      have e3 : ((s[(0 : Nat)]?.getD (0 : UInt8)).toNat : Int) = (bytesOf s)[0]'(by rw [bytesOf_len]; omega) := bytesOf_get (by omega)
      simp only [e, e', e2, cond_true, cond_false, e3]
      generalize hv : (bytesOf s)[0]'(by rw [bytesOf_len]; omega) = v
      by_cases h97 : v < 97
      · simp only [decide_eq_true h97, cond_true, bindC_def, some_bind]
        exact ⟨_, rfl, fun h => by cases h⟩
      · by_cases h122 : v > 122
        · simp only [decide_eq_false h97, decide_eq_true h122, cond_true, cond_false, bindC_def, some_bind]
          exact ⟨_, rfl, fun h => by cases h⟩
        · simp only [decide_eq_false h97, decide_eq_false h122, cond_true, cond_false, bindC_def, some_bind]
          obtain ⟨r, q1, q2, q3⟩ := named4_l0 (K := K) (s := s) (by omega) s.size K 0 (by omega) (by omega) (by omega)
          rw [show avermentref04_Named.l0.f K K s (0 : Int) = some r from q1]
          cases r with
          | inl u =>
            refine ⟨_, rfl, fun _ => ⟨by omega, by omega, fun w hw => ?_, fun w hw => ?_⟩⟩
            · rw [List.getElem?_eq_getElem (by rw [bytesOf_len]; omega)] at hw
              cases hw
              omega
            · obtain ⟨j, hj⟩ := List.mem_iff_getElem?.1 hw
              exact q2 rfl j w (by omega) hj
          | inr b => exact ⟨_, rfl, fun h => by have := q3 b rfl; subst this; cases h⟩
theorem named_l0 {s : ByteArray} (hs : s.size ≤ 12) (h0 : ∀ v, (bytesOf s)[0]? = some v → 97 ≤ v ∧ v ≤ 122) (hg : ∀ v ∈ bytesOf s, goodB v = true) : ∀ (l2 l1 : List Int) (k : Nat), bytesOf s = l1 ++ l2 → l2.length < k →
    ir_named.l0.f K k (bytesOf s) (((bytesOf s).length : Nat) : Int) ((l1.length : Nat) : Int) = some (.inl ())
  | l2, l1, 0, h, hk => by omega
  | [], l1, k + 1, h, hk => by
    rw [ir_named.l0.f]
    simp only [lt_end h, cond_false]
  | x :: l2, l1, k + 1, h, hk => by
    rw [ir_named.l0.f]
    have hx := hg x (by rw [h]; simp)
    have hlen : l1.length ≤ 12 := by have := bytesOf_len s; rw [h] at this; simp at this; omega
    simp only [lt_mid h, ge0, at_mid h, cond_true, some_bind, wrap_next (l1 := l1) (x := x) (by omega)]
    have ih := named_l0 hs h0 hg l2 (l1 ++ [x]) k (mid_next h) (by simp at hk; omega)
    have key : (bindC (bif decide (x ≥ (97 : Int)) then bif decide (x ≥ (48 : Int)) then some (decide (x ≤ (122 : Int)), decide (x ≤ (57 : Int))) else some (decide (x ≤ (122 : Int)), false) else bif decide (x ≥ (48 : Int)) then some (false, decide (x ≤ (57 : Int))) else some (false, false)) fun t => bindC (bif !t.1 then bif !t.2 then some true else some (((l1.length : Nat) : Int) == (0 : Int)) else some false) fun t => bif t then (some (Sum.inr false) : Option (Unit ⊕ Bool)) else ir_named.l0.f K k (bytesOf s) (((bytesOf s).length : Nat) : Int) (((l1 ++ [x]).length : Nat) : Int)) = ir_named.l0.f K k (bytesOf s) (((bytesOf s).length : Nat) : Int) (((l1 ++ [x]).length : Nat) : Int) := by
      by_cases hn : l1.length = 0
      · have hl1 : l1 = [] := List.length_eq_zero_iff.1 hn
        subst hl1
        have := h0 x (by rw [h]; simp)
        have a1 : decide (x ≥ (97 : Int)) = true := by simp; omega
        have a2 : decide (x ≤ (122 : Int)) = true := by simp; omega
        have a3 : decide (x ≥ (48 : Int)) = true := by simp; omega
        simp only [a1, a2, a3, cond_true, bindC_def, some_bind, Bool.not_true, cond_false]
      · have a0 : (((l1.length : Nat) : Int) == (0 : Int)) = false := beq_eq_false_iff_ne.2 (by omega)
        simp only [goodB, Bool.or_eq_true, Bool.and_eq_true, decide_eq_true_eq] at hx
        by_cases h97 : 97 ≤ x
        · have a1 : decide (x ≥ (97 : Int)) = true := by simp; omega
          have a2 : decide (x ≤ (122 : Int)) = true := by simp; omega
          have a3 : decide (x ≥ (48 : Int)) = true := by simp; omega
          simp only [a1, a2, a3, cond_true, bindC_def, some_bind, Bool.not_true, cond_false]
        · have a1 : decide (x ≥ (97 : Int)) = false := by simp; omega
          have a2 : decide (x ≤ (57 : Int)) = true := by simp; omega
          have a3 : decide (x ≥ (48 : Int)) = true := by simp; omega
          simp only [a0, a1, a2, a3, cond_true, bindC_def, some_bind, Bool.not_true, Bool.not_false, cond_false]
    exact key.trans ih
theorem named_val (hK : 100 ≤ K) {s : ByteArray} (h : nameOk s) : ir_named.f K s = some true := by
  obtain ⟨h1, h2, h3, h4⟩ := h
  unfold ir_named.f
  have e : Nat.ble s.size 100000 = true := Nat.ble_eq_true_of_le (by omega)
  have l0 : ir_named.l0.f K K (bytesOf s) (((bytesOf s).length : Nat) : Int) (0 : Int) = some (.inl ()) := named_l0 h2 h3 h4 (bytesOf s) [] K rfl (by rw [bytesOf_len]; omega)
  have e2 : (!s.toList == (ByteArray.mk #[]).toList) = true := by
    have : s.toList ≠ (ByteArray.mk #[]).toList := fun hh => by
      rw [ByteArray.toList_eq, ByteArray.toList_eq] at hh
      have := congrArg List.length hh
      have h5 : s.data.toList.length = s.size := rfl
      have h6 : (ByteArray.mk #[]).data.toList.length = 0 := rfl
      rw [h5, h6] at this
      omega
    simpa using this
  have e3 : decide (((s.size : Nat) : Int) ≤ (12 : Int)) = true := by simp; omega
  simp only [e, cond_true, l0, some_bind, Sum.elim_inl, e2, e3, bindC_def]
end Go.Proofs.YtdjkdmjdcdljmaaGreat.AT
