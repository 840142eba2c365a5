/- Small lists of numbers: turned round, sorted, searched. No condition beside those stated. -/
import Derived.Test.YtdjkdmjdcdljmaaGreatRn

namespace Go.Proofs.YtdjkdmjdcdljmaaGreat.AR
open Go.Proofs.YtdjkdmjdcdljmaaGreatX
set_option linter.unusedVariables false
set_option linter.unusedSimpArgs false
set_option maxRecDepth 100000
set_option maxHeartbeats 4000000
variable {K : Nat}

theorem less_val (a b : Int) : cmp_Less_int.f K a b = some (decide (a < b)) := by
  unfold cmp_Less_int.f cmp_isNaN_int.f
  simp [bindC_def]
theorem blt_of {n m : Nat} (h : n < m) : Nat.blt n m = true := Nat.ble_eq_true_of_le h
theorem get_at {α : Type} {l A B : List α} {x : α} (h : l = A ++ x :: B) : l[A.length]? = some x := by subst h; simp
theorem set_at {α : Type} {l A B : List α} {x y : α} (h : l = A ++ x :: B) : l.set A.length y = A ++ y :: B := by subst h; simp
theorem reverse_l0 : ∀ (n : Nat) (M A B : List Int) (k : Nat) (j : Int), M.length ≤ n → n < k → (A ++ M ++ B).length ≤ 1000 → j = (A.length : Int) + (M.length : Int) - 1 → slices_Reverse_int_int.l0.f K k ((A.length : Nat) : Int) j (A ++ M ++ B) = some (A ++ M.reverse ++ B)
  | n, M, A, B, 0, j, hn, hk, hl, hj => by omega
  | n, M, A, B, k + 1, j, hn, hk, hl, hj => by
    rw [slices_Reverse_int_int.l0.f]
    by_cases h2 : M.length ≤ 1
    · have e : decide (((A.length : Nat) : Int) < j) = false := by simp <;> omega
      simp only [e, cond_false]
      match M, h2 with
      | [], _ => rfl
      | [x], _ => rfl
    · obtain ⟨x, M1, rfl⟩ : ∃ x M1, M = x :: M1 := by cases M with
        | nil => simp at h2
        | cons x M1 => exact ⟨x, M1, rfl⟩
      rcases List.eq_nil_or_concat M1 with rfl | ⟨M2, y, rfl⟩
      · simp at h2
      · simp only [List.concat_eq_append] at *
        have e : decide (((A.length : Nat) : Int) < j) = true := by simp at hj ⊢; omega
        have hj0 : decide ((0 : Int) ≤ j) = true := by simp at hj ⊢; omega
        have hjn : j.toNat = (A ++ x :: M2).length := by simp at hj ⊢; omega
        have q1 : A ++ x :: (M2 ++ [y]) ++ B = A ++ x :: (M2 ++ y :: B) := by simp
        have q2 : A ++ x :: (M2 ++ [y]) ++ B = (A ++ x :: M2) ++ y :: B := by simp
        have g1 := get_at q1
        have g2 := get_at q2
        have s1 := set_at (y := y) q1
        have q3 : A ++ y :: (M2 ++ y :: B) = (A ++ y :: M2) ++ y :: B := by simp
        have hlen : (A ++ x :: M2).length = (A ++ y :: M2).length := by simp
        have g3 : (A ++ y :: (M2 ++ y :: B))[(A ++ x :: M2).length]? = some y := by rw [hlen]; exact get_at q3
        have s2 : (A ++ y :: (M2 ++ y :: B)).set (A ++ x :: M2).length x = (A ++ [y]) ++ M2 ++ (x :: B) := by rw [hlen, set_at (y := x) q3]; simp
        have b1 : Nat.blt (A ++ x :: M2).length (A ++ x :: (M2 ++ [y]) ++ B).length = true := blt_of (by simp <;> omega)
        have b2 : Nat.blt A.length (A ++ x :: (M2 ++ [y]) ++ B).length = true := blt_of (by simp <;> omega)
        have b3 : Nat.blt (A ++ x :: M2).length (A ++ y :: (M2 ++ y :: B)).length = true := blt_of (by simp <;> omega)
        have hl' : A.length ≤ 1000 := by simp at hl; omega
        have w1 : IntKind.i64.wrap (j - 1) = j - 1 := wrap64_of (by omega) (by simp at hj hl; omega)
        simp only [e, hj0, hjn, ge0', cond_true, Int.toNat_natCast, b1, b2, g1, g2, some_bind, s1, b3, g3, s2, wrap_next (l1 := A) (x := y) (by omega), w1]
        rw [reverse_l0 (n - 1) M2 (A ++ [y]) (x :: B) k (j - 1) (by simp at hn; omega) (by simp at hn; omega) (by simp at hl ⊢; omega) (by simp at hj ⊢; omega)]
        simp
theorem reverse_val (hK : 2000 ≤ K) {l : List Int} (hl : l.length ≤ 1000) : slices_Reverse_int_int.f K l = some l.reverse := by
  unfold slices_Reverse_int_int.f
  rw [wrap64_of (by omega) (by omega)]
  have := reverse_l0 (K := K) l.length l [] [] K (((l.length : Nat) : Int) - 1) (Nat.le_refl _) (by omega) (by simpa using hl) (by simp)
  simpa using this
/-! ### Sorted -/
def insR (x : Int) : List Int → List Int
  | [] => [x]
  | y :: r => if x < y then y :: insR x r else x :: y :: r
theorem insR_mem {x v : Int} : ∀ {r : List Int}, v ∈ insR x r ↔ v = x ∨ v ∈ r
  | [] => by simp [insR]
  | y :: r => by
    unfold insR
    split
    · simp only [List.mem_cons, insR_mem (r := r)]; constructor <;> (rintro (h | h | h) <;> simp [h])
    · simp
theorem insR_sorted {x : Int} : ∀ {r : List Int}, r.Pairwise (fun a b => b ≤ a) → (insR x r).Pairwise (fun a b => b ≤ a)
  | [], _ => by simp [insR]
  | y :: r, h => by
    rw [List.pairwise_cons] at h
    unfold insR
    split
    · rename_i hlt
      refine List.pairwise_cons.2 ⟨fun b hb => ?_, insR_sorted h.2⟩
      rcases insR_mem.1 hb with rfl | hb
      · omega
      · exact h.1 b hb
    · rename_i hge
      refine List.pairwise_cons.2 ⟨fun b hb => ?_, List.pairwise_cons.2 h⟩
      rcases List.mem_cons.1 hb with rfl | hb
      · omega
      · have := h.1 b hb; omega
theorem insR_len {x : Int} : ∀ {r : List Int}, (insR x r).length = r.length + 1
  | [] => rfl
  | y :: r => by
    unfold insR
    split
    · simp [insR_len (r := r)]
    · simp
theorem insert_l1 {x : Int} : ∀ (R B : List Int) (k : Nat), R.length < k → R.length ≤ 1000 → slices_insertionSortOrdered_int.l1.f K k 0 ((R.length : Nat) : Int) (R.reverse ++ x :: B) = some ((insR x R).reverse ++ B)
  | R, B, 0, hk, hl => by omega
  | [], B, k + 1, hk, hl => by
    rw [slices_insertionSortOrdered_int.l1.f]
    simp [bindC_def, insR]
  | y :: r, B, k + 1, hk, hl => by
    rw [slices_insertionSortOrdered_int.l1.f]
    have e1 : decide ((((y :: r).length : Nat) : Int) > (0 : Int)) = true := by simp <;> omega
    have w1 : IntKind.i64.wrap ((((y :: r).length : Nat) : Int) - (1 : Int)) = ((r.length : Nat) : Int) := by rw [wrap64_of (by simp <;> omega) (by simp at hl ⊢; omega)]; simp
    have q1 : (y :: r).reverse ++ x :: B = r.reverse ++ y :: (x :: B) := by simp
    have q2 : (y :: r).reverse ++ x :: B = (r.reverse ++ [y]) ++ x :: B := by simp
    have l1 : (r.reverse).length = r.length := by simp
    have l2 : (r.reverse ++ [y]).length = (y :: r).length := by simp
    have g1 := get_at q1
    have g2 := get_at q2
    rw [l1] at g1
    rw [l2] at g2
    have s1 := set_at (y := y) q2
    rw [l2] at s1
    have q3 : r.reverse ++ [y] ++ y :: B = r.reverse ++ y :: (y :: B) := by simp
    have g3 := get_at q3
    have s2 := set_at (y := x) q3
    rw [l1] at g3 s2
    have b1 : Nat.blt (y :: r).length ((y :: r).reverse ++ x :: B).length = true := blt_of (by simp <;> omega)
    have b2 : Nat.blt r.length ((y :: r).reverse ++ x :: B).length = true := blt_of (by simp <;> omega)
    have b3 : Nat.blt r.length (r.reverse ++ [y] ++ y :: B).length = true := blt_of (by simp <;> omega)
    simp only [e1, ge0', cond_true, Int.toNat_natCast, w1, b1, b2, g1, g2, some_bind, less_val, bindC_def, s1, b3, g3, s2]
    by_cases hxy : x < y
    · simp only [decide_eq_true hxy, cond_true]
      rw [insert_l1 r (y :: B) k (by simp at hk; omega) (by simp at hl; omega)]
      simp [insR, hxy]
    · simp only [decide_eq_false hxy, cond_false]
      simp [insR, hxy]
def sortR : List Int → List Int → List Int
  | R, [] => R
  | R, x :: B => sortR (insR x R) B
theorem sortR_mem {v : Int} : ∀ {B R : List Int}, v ∈ sortR R B ↔ v ∈ R ∨ v ∈ B
  | [], R => by simp [sortR]
  | x :: B, R => by
    simp only [sortR, sortR_mem (B := B), insR_mem, List.mem_cons]
    constructor
    · rintro ((h | h) | h) <;> simp [h]
    · rintro (h | h | h) <;> simp [h]
theorem sortR_sorted : ∀ {B R : List Int}, R.Pairwise (fun a b => b ≤ a) → (sortR R B).Pairwise (fun a b => b ≤ a)
  | [], R, h => h
  | x :: B, R, h => sortR_sorted (B := B) (insR_sorted h)
theorem sortR_len : ∀ {B R : List Int}, (sortR R B).length = R.length + B.length
  | [], R => rfl
  | x :: B, R => by rw [sortR, sortR_len (B := B), insR_len]; simp; omega
theorem insert_l0 (hK : 2000 ≤ K) {n : Nat} : ∀ (B R : List Int) (k : Nat), B.length < k → R.length + B.length = n → n ≤ 1000 → slices_insertionSortOrdered_int.l0.f K k 0 ((n : Nat) : Int) ((R.length : Nat) : Int) (R.reverse ++ B) = some (sortR R B).reverse
  | B, R, 0, hk, hn, hl => by omega
  | [], R, k + 1, hk, hn, hl => by
    rw [slices_insertionSortOrdered_int.l0.f]
    have e : decide (((R.length : Nat) : Int) < ((n : Nat) : Int)) = false := by simp at hn ⊢; omega
    simp only [e, cond_false, List.append_nil, sortR]
  | x :: B, R, k + 1, hk, hn, hl => by
    rw [slices_insertionSortOrdered_int.l0.f]
    have e : decide (((R.length : Nat) : Int) < ((n : Nat) : Int)) = true := by simp at hn ⊢; omega
    have w : IntKind.i64.wrap (((R.length : Nat) : Int) + (1 : Int)) = (((insR x R).length : Nat) : Int) := by rw [wrap64_of (by omega) (by simp at hn; omega), insR_len]; simp
    simp only [e, cond_true, insert_l1 (K := K) R B K (by simp at hn; omega) (by simp at hn; omega), some_bind, w]
    rw [insert_l0 hK B (insR x R) k (by simp at hk; omega) (by rw [insR_len]; simp at hn; omega) hl]
    rfl
theorem len_some : ∀ n : Fin 13, ∃ v, math_bits_Len.f K (IntKind.u64.wrap ((n.val : Nat) : Int)) = some v := by
  intro n
  rcases n with ⟨n, hn⟩
  match n, hn with
  | 0, _ => exact ⟨_, rfl⟩
  | 1, _ => exact ⟨_, rfl⟩
  | 2, _ => exact ⟨_, rfl⟩
  | 3, _ => exact ⟨_, rfl⟩
  | 4, _ => exact ⟨_, rfl⟩
  | 5, _ => exact ⟨_, rfl⟩
  | 6, _ => exact ⟨_, rfl⟩
  | 7, _ => exact ⟨_, rfl⟩
  | 8, _ => exact ⟨_, rfl⟩
  | 9, _ => exact ⟨_, rfl⟩
  | 10, _ => exact ⟨_, rfl⟩
  | 11, _ => exact ⟨_, rfl⟩
  | 12, _ => exact ⟨_, rfl⟩
theorem sort_val (hK : 2000 ≤ K) {l : List Int} (hl : l.length ≤ 12) : ∃ s, slices_Sort_int_int.f K l = some s ∧ s.Pairwise (· ≤ ·) ∧ s.length = l.length ∧ ∀ v, v ∈ s ↔ v ∈ l := by
  obtain ⟨v, hv⟩ := len_some (K := K) ⟨l.length, by omega⟩
  refine ⟨(sortR [] l).reverse, ?_, ?_, ?_, fun v => ?_⟩
  · unfold slices_Sort_int_int.f
    dsimp only at hv
    rw [hv, some_bind]
    obtain ⟨n, rfl⟩ : ∃ n, K = n + 1 := ⟨K - 1, by omega⟩
    rw [slices_pdqsortOrdered_int.f, slices_pdqsortOrdered_int.body, slices_pdqsortOrdered_int.l0.f]
    have w : IntKind.i64.wrap (((l.length : Nat) : Int) - (0 : Int)) = ((l.length : Nat) : Int) := by rw [wrap64_of (by omega) (by omega)]; simp
    have e : decide (((l.length : Nat) : Int) ≤ (12 : Int)) = true := by simp <;> omega
    simp only [w, e, cond_true]
    unfold slices_insertionSortOrdered_int.f
    have w1 : IntKind.i64.wrap ((0 : Int) + 1) = 1 := by rw [wrap64_of (by omega) (by omega)]; rfl
    rw [w1]
    cases l with
    | nil =>
      rw [slices_insertionSortOrdered_int.l0.f]
      have e : decide ((1 : Int) < ((([] : List Int).length : Nat) : Int)) = false := by simp
      simp only [e, cond_false]
      rfl
    | cons x B =>
      have := insert_l0 (K := n + 1) hK (n := (x :: B).length) B [x] (n + 1) (by simp at hl; omega) (by simp <;> omega) (by omega)
      exact this
  · rw [List.pairwise_reverse]
    exact sortR_sorted (by simp)
  · rw [List.length_reverse, sortR_len]; simp
  · rw [List.mem_reverse, sortR_mem]; simp
/-! ### Searched -/
theorem bs_l0 {l : List Int} {x : Int} (hl : l.length ≤ 1000) : ∀ (n k i j : Nat), j - i ≤ n → n < k → i ≤ j → j ≤ l.length → (∀ m v, l[m]? = some v → m < i → v < x) → (∀ m v, l[m]? = some v → j ≤ m → x ≤ v) → l.Pairwise (· ≤ ·) →
    ∃ r : Nat, slices_BinarySearch_int_int.l0.f K k l x ((i : Nat) : Int) ((j : Nat) : Int) = some ((r : Nat) : Int) ∧ r ≤ l.length ∧ (∀ m v, l[m]? = some v → m < r → v < x) ∧ (∀ m v, l[m]? = some v → r ≤ m → x ≤ v)
  | n, 0, i, j, hn, hk, hij, hj, h1, h2, hs => by omega
  | n, k + 1, i, j, hn, hk, hij, hj, h1, h2, hs => by
    rw [slices_BinarySearch_int_int.l0.f]
    by_cases hlt : i < j
    · have e1 : decide (((i : Nat) : Int) < ((j : Nat) : Int)) = true := by simp <;> omega
      have w1 : IntKind.i64.wrap (((i : Nat) : Int) + ((j : Nat) : Int)) = ((i + j : Nat) : Int) := by rw [wrap64_of (by omega) (by omega)]; simp
      have w2 : IntKind.u64.wrap ((i + j : Nat) : Int) = ((i + j : Nat) : Int) := wrapU_of (by omega) (by omega)
      have w3 : (((i + j : Nat) : Int).fdiv ((2 : Int) ^ 1)) = (((i + j) / 2 : Nat) : Int) := by rw [Int.fdiv_eq_ediv_of_nonneg _ (by decide)]; simp
      have w4 : IntKind.i64.wrap (((i + j) / 2 : Nat) : Int) = (((i + j) / 2 : Nat) : Int) := wrap64_of (by omega) (by omega)
      have w5 : IntKind.i64.wrap ((((i + j) / 2 : Nat) : Int) + 1) = (((i + j) / 2 + 1 : Nat) : Int) := by rw [wrap64_of (by omega) (by omega)]; simp
      have hm : (i + j) / 2 < l.length := by omega
      simp only [e1, cond_true, w1, w2, w3, w4, ge0, Int.toNat_natCast, List.getElem?_eq_getElem hm, some_bind, less_val, w5]
      have sorted : ∀ (a b : Nat) (va vb : Int), l[a]? = some va → l[b]? = some vb → a ≤ b → va ≤ vb := fun a b va vb ha hb hab => by
        rcases Nat.lt_or_ge a b with h | h
        · obtain ⟨ha1, ha2⟩ := List.getElem?_eq_some_iff.1 ha
          obtain ⟨hb1, hb2⟩ := List.getElem?_eq_some_iff.1 hb
          rw [← ha2, ← hb2]
          exact List.pairwise_iff_getElem.1 hs a b ha1 hb1 h
        · have : a = b := by omega
          subst this
          rw [ha] at hb; cases hb; omega
      have hgm := List.getElem?_eq_getElem hm
      by_cases hlx : l[(i + j) / 2] < x
      · simp only [decide_eq_true hlx, cond_true]
        exact bs_l0 hl (n - 1) k ((i + j) / 2 + 1) j (by omega) (by omega) (by omega) hj (fun m v hv hmm => by have := sorted m ((i + j) / 2) v _ hv hgm (by omega); omega) h2 hs
      · simp only [decide_eq_false hlx, cond_false]
        exact bs_l0 hl (n - 1) k i ((i + j) / 2) (by omega) (by omega) (by omega) (by omega) h1 (fun m v hv hmm => by have := sorted ((i + j) / 2) m _ v hgm hv hmm; omega) hs
    · have e1 : decide (((i : Nat) : Int) < ((j : Nat) : Int)) = false := by simp <;> omega
      simp only [e1, cond_false]
      have : i = j := by omega
      subst this
      exact ⟨i, rfl, hj, h1, h2⟩
theorem has_val (hK : 2000 ≤ K) {l : List Int} {x : Int} (hl : l.length ≤ 1000) (hs : l.Pairwise (· ≤ ·)) : bits_Has.f K l x = some (decide (x ∈ l)) := by
  unfold bits_Has.f slices_BinarySearch_int_int.f
  obtain ⟨r, h1, h2, h3, h4⟩ := bs_l0 (K := K) (x := x) hl l.length K 0 l.length (by omega) (by omega) (by omega) (by omega) (fun m v hv hm => by omega) (fun m v hv hm => by have := (List.getElem?_eq_some_iff.1 hv).1; omega) hs
  rw [show slices_BinarySearch_int_int.l0.f K K l x (0 : Int) ((l.length : Nat) : Int) = some ((r : Nat) : Int) from h1]
  simp only [some_bind, bindC_def]
  by_cases hr : r < l.length
  · have e1 : decide (((r : Nat) : Int) < ((l.length : Nat) : Int)) = true := by simp <;> omega
    simp only [e1, ge0, cond_true, Int.toNat_natCast, List.getElem?_eq_getElem hr, some_bind, slices_isNaN_int.f]
    by_cases hx : l[r] = x
    · have : (l[r] == x) = true := by simp [hx]
      simp only [this, cond_true, some_bind]
      have : x ∈ l := by rw [← hx]; exact List.getElem_mem hr
      simp [this]
    · have : (l[r] == x) = false := by simp [hx]
      have nn : (l[r] != l[r]) = false := by simp
      simp only [this, cond_false, nn, some_bind]
      have : x ∉ l := fun hm => by
        obtain ⟨m, hm⟩ := List.mem_iff_getElem?.1 hm
        rcases Nat.lt_or_ge m r with h | h
        · have := h3 m x hm h; omega
        · have a := h4 r _ (List.getElem?_eq_getElem hr) (Nat.le_refl _)
          rcases Nat.lt_or_ge r m with h5 | h5
          · obtain ⟨q1, q2⟩ := List.getElem?_eq_some_iff.1 hm
            have := List.pairwise_iff_getElem.1 hs r m hr q1 h5
            rw [q2] at this
            omega
          · have : m = r := by omega
            subst this
            rw [List.getElem?_eq_getElem hr] at hm
            cases hm
            exact hx rfl
      simp [this]
  · have e1 : decide (((r : Nat) : Int) < ((l.length : Nat) : Int)) = false := by simp <;> omega
    simp only [e1, cond_false, some_bind]
    have : x ∉ l := fun hm => by
      obtain ⟨m, hm⟩ := List.mem_iff_getElem?.1 hm
      have := h3 m x hm (by have := (List.getElem?_eq_some_iff.1 hm).1; omega)
      omega
    simp [this]
end Go.Proofs.YtdjkdmjdcdljmaaGreat.AR
