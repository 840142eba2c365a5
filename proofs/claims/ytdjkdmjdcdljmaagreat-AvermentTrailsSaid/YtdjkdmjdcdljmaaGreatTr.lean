/- Own work. No condition. -/
import Derived.Test.YtdjkdmjdcdljmaaGreatRn

namespace Go.Proofs.YtdjkdmjdcdljmaaGreat.AT
open Go.Proofs.YtdjkdmjdcdljmaaGreatX
set_option linter.unusedVariables false
set_option linter.unusedSimpArgs false
set_option maxRecDepth 100000
set_option maxHeartbeats 4000000
variable {K : Nat}

theorem less_val (a b : Int) : cmp_Less_int.f K a b = some (decide (a < b)) := by
  unfold cmp_Less_int.f cmp_isNaN_int.f
  simp [bindC_def]
theorem blt_of {n m : Nat} (h : n < m) : Nat.blt n m = true := Nat.ble_eq_true_of_le h
theorem bs_l0 {l : List Int} {x : Int} (hl : l.length ≤ 1000) : ∀ (n k i j : Nat), j - i ≤ n → n < k → i ≤ j → j ≤ l.length → (∀ m v, l[m]? = some v → m < i → v < x) → (∀ m v, l[m]? = some v → j ≤ m → x ≤ v) → l.Pairwise (· ≤ ·) →
    ∃ r : Nat, slices_BinarySearch_int_int.l0.f K k l x ((i : Nat) : Int) ((j : Nat) : Int) = some ((r : Nat) : Int) ∧ r ≤ l.length ∧ (∀ m v, l[m]? = some v → m < r → v < x) ∧ (∀ m v, l[m]? = some v → r ≤ m → x ≤ v)
  | n, 0, i, j, hn, hk, hij, hj, h1, h2, hs => by omega
  | n, k + 1, i, j, hn, hk, hij, hj, h1, h2, hs => by
    rw [slices_BinarySearch_int_int.l0.f]
    by_cases hlt : i < j
    · have e1 : decide (((i : Nat) : Int) < ((j : Nat) : Int)) = true := by simp <;> omega
      have w1 : IntKind.i64.wrap (((i : Nat) : Int) + ((j : Nat) : Int)) = ((i + j : Nat) : Int) := by rw [wrap64_of (by omega) (by omega)]; simp
      have w2 : IntKind.u64.wrap ((i + j : Nat) : Int) = ((i + j : Nat) : Int) := wrapU_of (by omega) (by omega)
      have w3 : (((i + j : Nat) : Int).fdiv ((2 : Int) ^ 1)) = (((i + j) / 2 : Nat) : Int) := by rw [Int.fdiv_eq_ediv_of_nonneg _ (by decide)]; simp
      have w4 : IntKind.i64.wrap (((i + j) / 2 : Nat) : Int) = (((i + j) / 2 : Nat) : Int) := wrap64_of (by omega) (by omega)
      have w5 : IntKind.i64.wrap ((((i + j) / 2 : Nat) : Int) + 1) = (((i + j) / 2 + 1 : Nat) : Int) := by rw [wrap64_of (by omega) (by omega)]; simp
      have hm : (i + j) / 2 < l.length := by omega
      simp only [e1, cond_true, w1, w2, w3, w4, ge0, Int.toNat_natCast, List.getElem?_eq_getElem hm, some_bind, less_val, w5]
      have sorted : ∀ (a b : Nat) (va vb : Int), l[a]? = some va → l[b]? = some vb → a ≤ b → va ≤ vb := fun a b va vb ha hb hab => by
        rcases Nat.lt_or_ge a b with h | h
        · obtain ⟨ha1, ha2⟩ := List.getElem?_eq_some_iff.1 ha
          obtain ⟨hb1, hb2⟩ := List.getElem?_eq_some_iff.1 hb
          rw [← ha2, ← hb2]
          exact List.pairwise_iff_getElem.1 hs a b ha1 hb1 h
        · have : a = b := by omega
          subst this
          rw [ha] at hb; cases hb; omega
      have hgm := List.getElem?_eq_getElem hm
      by_cases hlx : l[(i + j) / 2] < x
      · simp only [decide_eq_true hlx, cond_true]
        exact bs_l0 hl (n - 1) k ((i + j) / 2 + 1) j (by omega) (by omega) (by omega) hj (fun m v hv hmm => by have := sorted m ((i + j) / 2) v _ hv hgm (by omega); omega) h2 hs
      · simp only [decide_eq_false hlx, cond_false]
        exact bs_l0 hl (n - 1) k i ((i + j) / 2) (by omega) (by omega) (by omega) (by omega) h1 (fun m v hv hmm => by have := sorted ((i + j) / 2) m _ v hgm hv hmm; omega) hs
    · have e1 : decide (((i : Nat) : Int) < ((j : Nat) : Int)) = false := by simp <;> omega
      simp only [e1, cond_false]
      have : i = j := by omega
      subst this
      exact ⟨i, rfl, hj, h1, h2⟩
theorem has_val (hK : 2000 ≤ K) {l : List Int} {x : Int} (hl : l.length ≤ 1000) (hs : l.Pairwise (· ≤ ·)) : bits_Has.f K l x = some (decide (x ∈ l)) := by
  unfold bits_Has.f slices_BinarySearch_int_int.f
  obtain ⟨r, h1, h2, h3, h4⟩ := bs_l0 (K := K) (x := x) hl l.length K 0 l.length (by omega) (by omega) (by omega) (by omega) (fun m v hv hm => by omega) (fun m v hv hm => by have := (List.getElem?_eq_some_iff.1 hv).1; omega) hs
  rw [show slices_BinarySearch_int_int.l0.f K K l x (0 : Int) ((l.length : Nat) : Int) = some ((r : Nat) : Int) from h1]
  simp only [some_bind, bindC_def]
  by_cases hr : r < l.length
  · have e1 : decide (((r : Nat) : Int) < ((l.length : Nat) : Int)) = true := by simp <;> omega
    simp only [e1, ge0, cond_true, Int.toNat_natCast, List.getElem?_eq_getElem hr, some_bind, slices_isNaN_int.f]
    by_cases hx : l[r] = x
    · have : (l[r] == x) = true := by simp [hx]
      simp only [this, cond_true, some_bind]
      have : x ∈ l := by rw [← hx]; exact List.getElem_mem hr
      simp [this]
    · have : (l[r] == x) = false := by simp [hx]
      have nn : (l[r] != l[r]) = false := by simp
      simp only [this, cond_false, nn, some_bind]
      have : x ∉ l := fun hm => by
        obtain ⟨m, hm⟩ := List.mem_iff_getElem?.1 hm
        rcases Nat.lt_or_ge m r with h | h
        · have := h3 m x hm h; omega
        · have a := h4 r _ (List.getElem?_eq_getElem hr) (Nat.le_refl _)
          rcases Nat.lt_or_ge r m with h5 | h5
          · obtain ⟨q1, q2⟩ := List.getElem?_eq_some_iff.1 hm
            have := List.pairwise_iff_getElem.1 hs r m hr q1 h5
            rw [q2] at this
            omega
          · have : m = r := by omega
            subst this
            rw [List.getElem?_eq_getElem hr] at hm
            cases hm
            exact hx rfl
      simp [this]
  · have e1 : decide (((r : Nat) : Int) < ((l.length : Nat) : Int)) = false := by simp <;> omega
    simp only [e1, cond_false, some_bind]
    have : x ∉ l := fun hm => by
      obtain ⟨m, hm⟩ := List.mem_iff_getElem?.1 hm
      have := h3 m x hm (by have := (List.getElem?_eq_some_iff.1 hm).1; omega)
      omega
    simp [this]
end Go.Proofs.YtdjkdmjdcdljmaaGreat.AT
