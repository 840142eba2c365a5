/- What the document's functions with loops come to: signs and parities by numbers that have them, all ones. No condition. -/
import Derived.Test.YtcgjfkaipbhpkaaGreatFqT
import Derived.Test.YtcgjfkaipbhpkaaGreatFM1

namespace Go.Proofs.YtcgjfkaipbhpkaaGreat.FM
open Go.RowKit Go.Proofs.YtcgjfkaipbhpkaaGreatX Go.Proofs.YtcgjfkaipbhpkaaGreat.Sr
set_option linter.unusedVariables false
set_option linter.unusedSimpArgs false
theorem ra_none {op : Int} (h4 : op ≠ 4) (h5 : op ≠ 5) (h6 : op ≠ 6) (h7 : op ≠ 7) (h8 : op ≠ 8) (h9 : op ≠ 9) (h10 : op ≠ 10) (h11 : op ≠ 11) (h12 : op ≠ 12) (x y : Int) : PFactMakes.avermentref07_Arith.f op x y = some (0, false) := by
  unfold PFactMakes.avermentref07_Arith.f
  rw [if_neg h4, if_neg h5, if_neg h6, if_neg h7, if_neg h8, if_neg h9, if_neg h10, if_neg h11, if_neg h12]
theorem r8_cong {op op' : Int} (hop : ∀ x y, PFactMakes.avermentref07_Arith.f op x y = PFactMakes.avermentref07_Arith.f op' x y) :
    ∀ k, (∀ a b y z i, PFactMakes.avermentref08_Two.l0 k op a b y z i = PFactMakes.avermentref08_Two.l0 k op' a b y z i) ∧ (∀ a b y z i j, PFactMakes.avermentref08_Two.l1 k op a b y z i j = PFactMakes.avermentref08_Two.l1 k op' a b y z i j)
  | 0 => ⟨fun _ _ _ _ _ => by simp only [PFactMakes.avermentref08_Two.l0], fun _ _ _ _ _ _ => by simp only [PFactMakes.avermentref08_Two.l1]⟩
  | k + 1 => by
    obtain ⟨i0, i1⟩ := r8_cong hop k
    exact ⟨fun _ _ _ _ _ => by simp only [PFactMakes.avermentref08_Two.l0, i1], fun _ _ _ _ _ _ => by simp only [PFactMakes.avermentref08_Two.l1, hop, i0, i1]⟩
theorem r11_cong {op op' : Int} (hop : ∀ x y, PFactMakes.avermentref07_Arith.f op x y = PFactMakes.avermentref07_Arith.f op' x y) :
    ∀ k, (∀ a b y z i, PFactMakes.avermentref11_Two.l0 k op a b y z i = PFactMakes.avermentref11_Two.l0 k op' a b y z i) ∧ (∀ a b y z i j, PFactMakes.avermentref11_Two.l1 k op a b y z i j = PFactMakes.avermentref11_Two.l1 k op' a b y z i j)
  | 0 => ⟨fun _ _ _ _ _ => by simp only [PFactMakes.avermentref11_Two.l0], fun _ _ _ _ _ _ => by simp only [PFactMakes.avermentref11_Two.l1]⟩
  | k + 1 => by
    obtain ⟨i0, i1⟩ := r11_cong hop k
    exact ⟨fun _ _ _ _ _ => by simp only [PFactMakes.avermentref11_Two.l0, i1], fun _ _ _ _ _ _ => by simp only [PFactMakes.avermentref11_Two.l1, hop, i0, i1]⟩
theorem r8_0 : ∀ i : Fin 8, ∀ j : Fin 8, PFactMakes.avermentref08_Two.f 300 0 (sg i.val) (sg j.val) = some (sg (s2 0 i.val j.val)) := by decide +kernel
theorem r8_4 : ∀ i : Fin 8, ∀ j : Fin 8, PFactMakes.avermentref08_Two.f 300 4 (sg i.val) (sg j.val) = some (sg (s2 4 i.val j.val)) := by decide +kernel
theorem r8_5 : ∀ i : Fin 8, ∀ j : Fin 8, PFactMakes.avermentref08_Two.f 300 5 (sg i.val) (sg j.val) = some (sg (s2 5 i.val j.val)) := by decide +kernel
theorem r8_6 : ∀ i : Fin 8, ∀ j : Fin 8, PFactMakes.avermentref08_Two.f 300 6 (sg i.val) (sg j.val) = some (sg (s2 6 i.val j.val)) := by decide +kernel
theorem r8_7 : ∀ i : Fin 8, ∀ j : Fin 8, PFactMakes.avermentref08_Two.f 300 7 (sg i.val) (sg j.val) = some (sg (s2 7 i.val j.val)) := by decide +kernel
theorem r8_8 : ∀ i : Fin 8, ∀ j : Fin 8, PFactMakes.avermentref08_Two.f 300 8 (sg i.val) (sg j.val) = some (sg (s2 8 i.val j.val)) := by decide +kernel
theorem r8_9 : ∀ i : Fin 8, ∀ j : Fin 8, PFactMakes.avermentref08_Two.f 300 9 (sg i.val) (sg j.val) = some (sg (s2 9 i.val j.val)) := by decide +kernel
theorem r8_10 : ∀ i : Fin 8, ∀ j : Fin 8, PFactMakes.avermentref08_Two.f 300 10 (sg i.val) (sg j.val) = some (sg (s2 10 i.val j.val)) := by decide +kernel
theorem r8_11 : ∀ i : Fin 8, ∀ j : Fin 8, PFactMakes.avermentref08_Two.f 300 11 (sg i.val) (sg j.val) = some (sg (s2 11 i.val j.val)) := by decide +kernel
theorem r8_12 : ∀ i : Fin 8, ∀ j : Fin 8, PFactMakes.avermentref08_Two.f 300 12 (sg i.val) (sg j.val) = some (sg (s2 12 i.val j.val)) := by decide +kernel
theorem r11_ops : ∀ o ∈ [(0 : Int), 4, 5, 6, 7, 8, 9, 10, 11, 12], ∀ i : Fin 4, ∀ j : Fin 4, PFactMakes.avermentref11_Two.f 300 o (sg i.val) (sg j.val) = some (sg (p2 o i.val j.val)) := by decide +kernel
theorem r8Two_val (op : Int) {i j : Nat} (hi : i < 8) (hj : j < 8) : avermentref08_Two.f op (sg i) (sg j) = some (sg (s2 op i j)) := by
  unfold avermentref08_Two.f
  by_cases h4 : op = 4
  · subst h4; exact r8_4 ⟨i, hi⟩ ⟨j, hj⟩
  by_cases h5 : op = 5
  · subst h5; exact r8_5 ⟨i, hi⟩ ⟨j, hj⟩
  by_cases h6 : op = 6
  · subst h6; exact r8_6 ⟨i, hi⟩ ⟨j, hj⟩
  by_cases h7 : op = 7
  · subst h7; exact r8_7 ⟨i, hi⟩ ⟨j, hj⟩
  by_cases h8 : op = 8
  · subst h8; exact r8_8 ⟨i, hi⟩ ⟨j, hj⟩
  by_cases h9 : op = 9
  · subst h9; exact r8_9 ⟨i, hi⟩ ⟨j, hj⟩
  by_cases h10 : op = 10
  · subst h10; exact r8_10 ⟨i, hi⟩ ⟨j, hj⟩
  by_cases h11 : op = 11
  · subst h11; exact r8_11 ⟨i, hi⟩ ⟨j, hj⟩
  by_cases h12 : op = 12
  · subst h12; exact r8_12 ⟨i, hi⟩ ⟨j, hj⟩
  have c : ∀ x y, PFactMakes.avermentref07_Arith.f op x y = PFactMakes.avermentref07_Arith.f 0 x y := fun x y => by
    rw [ra_none h4 h5 h6 h7 h8 h9 h10 h11 h12, ra_none (by decide) (by decide) (by decide) (by decide) (by decide) (by decide) (by decide) (by decide) (by decide)]
  have e : PFactMakes.avermentref08_Two.f 300 op (sg i) (sg j) = PFactMakes.avermentref08_Two.f 300 0 (sg i) (sg j) := by
    unfold PFactMakes.avermentref08_Two.f
    simp only [(r8_cong c 300).1]
  have r : s2 op i j = s2 0 i j := by
    have : row op = row 0 := by
      unfold row
      rw [if_neg h4, if_neg h5, if_neg h6, if_neg h7, if_neg h8, if_neg h9, if_neg h10, if_neg h11, if_neg h12]; rfl
    unfold s2; rw [this]
  rw [e, r]
  exact r8_0 ⟨i, hi⟩ ⟨j, hj⟩
theorem r11Two_val (op : Int) {i j : Nat} (hi : i < 4) (hj : j < 4) : avermentref11_Two.f op (sg i) (sg j) = some (sg (p2 op i j)) := by
  unfold avermentref11_Two.f
  by_cases h : op ∈ [(0 : Int), 4, 5, 6, 7, 8, 9, 10, 11, 12]
  · exact r11_ops op h ⟨i, hi⟩ ⟨j, hj⟩
  simp only [List.mem_cons, List.not_mem_nil, or_false, not_or] at h
  obtain ⟨_, h4, h5, h6, h7, h8, h9, h10, h11, h12⟩ := h
  have c : ∀ x y, PFactMakes.avermentref07_Arith.f op x y = PFactMakes.avermentref07_Arith.f 0 x y := fun x y => by
    rw [ra_none h4 h5 h6 h7 h8 h9 h10 h11 h12, ra_none (by decide) (by decide) (by decide) (by decide) (by decide) (by decide) (by decide) (by decide) (by decide)]
  have e : PFactMakes.avermentref11_Two.f 300 op (sg i) (sg j) = PFactMakes.avermentref11_Two.f 300 0 (sg i) (sg j) := by
    unfold PFactMakes.avermentref11_Two.f
    simp only [(r11_cong c 300).1]
  have r : p2 op i j = p2 0 i j := by
    have : prow op = prow 0 := by
      unfold prow
      rw [if_neg (by omega), if_neg (by omega), if_neg (by omega), if_neg (by omega), if_neg (by omega)]; rfl
    unfold p2; rw [this]
  rw [e, r]
  exact r11_ops 0 (by decide) ⟨i, hi⟩ ⟨j, hj⟩
theorem r8One_cong {op op' : Int} (h2 : (op == 2) = (op' == 2)) (h3 : (op = 3) = (op' = 3)) :
    ∀ k, (∀ a y z i, PFactMakes.avermentref08_One.l0 k op a y z i = PFactMakes.avermentref08_One.l0 k op' a y z i) ∧ (∀ a y z i c, PFactMakes.avermentref08_One.j1 k op a y z i c = PFactMakes.avermentref08_One.j1 k op' a y z i c) ∧ (∀ a y z i, PFactMakes.avermentref08_One.j2 k op a y z i = PFactMakes.avermentref08_One.j2 k op' a y z i)
  | 0 => ⟨fun _ _ _ _ => by simp only [PFactMakes.avermentref08_One.l0], fun _ _ _ _ _ => by simp only [PFactMakes.avermentref08_One.j1], fun _ _ _ _ => by simp only [PFactMakes.avermentref08_One.j2]⟩
  | k + 1 => by
    obtain ⟨i0, i1, i2⟩ := r8One_cong h2 h3 k
    exact ⟨fun _ _ _ _ => by simp only [PFactMakes.avermentref08_One.l0, i1, h2], fun _ _ _ _ _ => by simp only [PFactMakes.avermentref08_One.j1, i2], fun _ _ _ _ => by simp only [PFactMakes.avermentref08_One.j2, i0, h3]⟩
theorem r8One_ops : ∀ o ∈ [(0 : Int), 2, 3], ∀ i : Fin 8, PFactMakes.avermentref08_One.f 100 o (sg i.val) = some (sg (s1 o i.val)) := by decide +kernel
theorem r8One_val (op : Int) {i : Nat} (hi : i < 8) : avermentref08_One.f op (sg i) = some (sg (s1 op i)) := by
  unfold avermentref08_One.f
  by_cases h : op ∈ [(0 : Int), 2, 3]
  · exact r8One_ops op h ⟨i, hi⟩
  simp only [List.mem_cons, List.not_mem_nil, or_false, not_or] at h
  obtain ⟨_, h2, h3⟩ := h
  have a2 : (op == 2) = ((0 : Int) == 2) := by rw [beq_eq_false_iff_ne.mpr h2]; rfl
  have a3 : (op = 3) = ((0 : Int) = 3) := by simp [h3]
  have e : PFactMakes.avermentref08_One.f 100 op (sg i) = PFactMakes.avermentref08_One.f 100 0 (sg i) := by
    unfold PFactMakes.avermentref08_One.f
    simp only [(r8One_cong a2 a3 100).1]
  have r : s1 op i = s1 0 i := by unfold s1; rw [if_neg h2, if_neg h3]; rfl
  rw [e, r]
  exact r8One_ops 0 (by decide) ⟨i, hi⟩
theorem rones_loop {n : Int} (h0 : 0 ≤ n) (h1 : n ≤ 9223372036854775807) : ∀ (m j : Nat) (k : Nat), j + m = bl n.toNat → m + 1 ≤ k → PFactMakes.avermentref10_Ones.l0 k n (((2 ^ j : Nat) : Int) - 1) = some (ones0 n)
  | 0, j, k, e, hk => by
    obtain ⟨k, rfl⟩ : ∃ q, k = q + 1 := ⟨k - 1, by omega⟩
    have e : j = bl n.toNat := by omega
    have := le_ones n
    subst e
    rw [PFactMakes.avermentref10_Ones.l0, if_neg (by unfold ones0 at this; omega)]
    rfl
  | m + 1, j, k, e, hk => by
    obtain ⟨k, rfl⟩ : ∃ q, k = q + 1 := ⟨k - 1, by omega⟩
    have g : 2 ^ j ≤ n.toNat := bl_ge (by omega)
    have b63 : bl n.toNat ≤ 63 := bl_le.mpr (by omega)
    have p : 2 ^ (j + 1) ≤ 2 ^ 63 := Nat.pow_le_pow_right (by decide) (by omega)
    have s : 2 ^ (j + 1) = 2 * 2 ^ j := by rw [Nat.pow_succ, Nat.mul_comm]
    have p0 : 0 < 2 ^ j := Nat.pow_pos (by decide)
    have w : wrap64 ((wrap64 (2 * (((2 ^ j : Nat) : Int) - 1))) + 1) = ((2 ^ (j + 1) : Nat) : Int) - 1 := by
      rw [s]
      generalize 2 ^ j = q at *
      unfold wrap64
      omega
    rw [PFactMakes.avermentref10_Ones.l0, if_pos (by omega), w]
    exact rones_loop h0 h1 m (j + 1) k (by omega) (by omega)
theorem rones_val {n : Int} (h0 : 0 ≤ n) (h1 : n ≤ 9223372036854775807) : avermentref10_Ones.f n = some (ones0 n) := by
  have b63 : bl n.toNat ≤ 63 := bl_le.mpr (by omega)
  exact rones_loop h0 h1 (bl n.toNat) 0 100 (by omega) (by omega)
end Go.Proofs.YtcgjfkaipbhpkaaGreat.FM
