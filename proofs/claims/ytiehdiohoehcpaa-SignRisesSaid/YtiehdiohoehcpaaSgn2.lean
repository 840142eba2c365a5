/- The sign statements on soundness and rising, over whole numbers alone. No condition but that the numbers fit. -/
import Derived.Test.YtiehdiohoehcpaaSgn
import Derived.Test.YtiehdiohoehcpaaBv

namespace Go.Proofs.Ytiehdiohoehcpaa.Sgn
open Go.RowKit Go.Proofs.Ytiehdiohoehcpaa.PR Go.Proofs.Ytiehdiohoehcpaa.PB Go.Proofs.Ytiehdiohoehcpaa.Par Go.Proofs.YtiehdiohoehcpaaW.PrintWords Go.Proofs.YtiehdiohoehcpaaW.PrintLast Go.Proofs.YtiehdiohoehcpaaW.PrintMore

/-- A word for 'may be', of an operation and three signs. -/
def may (o x y z : Int) : Prop := Go.bits .and .i64 (sT o x y) z ≠ 0
instance (o x y z : Int) : Decidable (may o x y z) := inferInstanceAs (Decidable (_ ≠ _))
theorem add_s {x y : Int} (x0 : -9223372036854775808 ≤ x) (x1 : x ≤ 9223372036854775807) (y0 : -9223372036854775808 ≤ y) (y1 : y ≤ 9223372036854775807) : may 4 (so x) (so y) (so (wrap64 (x + y))) := by
  rcases so_cases x with ⟨hx, e⟩ | ⟨hx, e⟩ | ⟨hx, e⟩ <;> rcases so_cases y with ⟨hy, f⟩ | ⟨hy, f⟩ | ⟨hy, f⟩ <;> rcases so_cases (wrap64 (x + y)) with ⟨hn, g⟩ | ⟨hn, g⟩ | ⟨hn, g⟩ <;> rw [e, f, g] <;>
    first | decide +kernel | (exfalso; unfold wrap64 at hn; omega)
theorem sub_s {x y : Int} (x0 : -9223372036854775808 ≤ x) (x1 : x ≤ 9223372036854775807) (y0 : -9223372036854775808 ≤ y) (y1 : y ≤ 9223372036854775807) : may 5 (so x) (so y) (so (wrap64 (x - y))) := by
  rcases so_cases x with ⟨hx, e⟩ | ⟨hx, e⟩ | ⟨hx, e⟩ <;> rcases so_cases y with ⟨hy, f⟩ | ⟨hy, f⟩ | ⟨hy, f⟩ <;> rcases so_cases (wrap64 (x - y)) with ⟨hn, g⟩ | ⟨hn, g⟩ | ⟨hn, g⟩ <;> rw [e, f, g] <;>
    first | decide +kernel | (exfalso; unfold wrap64 at hn; omega)
theorem mul_s (x y : Int) : may 6 (so x) (so y) (so (wrap64 (x * y))) := by
  have z : x = 0 ∨ y = 0 → wrap64 (x * y) = 0 := by rintro (h | h) <;> rw [h] <;> simp [wrap64]
  rcases so_cases x with ⟨hx, e⟩ | ⟨hx, e⟩ | ⟨hx, e⟩ <;> rcases so_cases y with ⟨hy, f⟩ | ⟨hy, f⟩ | ⟨hy, f⟩ <;> rcases so_cases (wrap64 (x * y)) with ⟨hn, g⟩ | ⟨hn, g⟩ | ⟨hn, g⟩ <;> rw [e, f, g] <;>
    first | decide +kernel | (exfalso; have := z (by omega); omega)
theorem tdiv_bd (x y : Int) : (0 ≤ x → 0 ≤ y → 0 ≤ Int.tdiv x y) ∧ (x ≤ 0 → y ≤ 0 → 0 ≤ Int.tdiv x y) ∧ (0 ≤ x → y ≤ 0 → Int.tdiv x y ≤ 0) ∧ (x ≤ 0 → 0 ≤ y → Int.tdiv x y ≤ 0) := by
  refine ⟨fun a b => Int.tdiv_nonneg a b, fun a b => ?_, fun a b => ?_, fun a b => ?_⟩
  · have := Int.tdiv_nonneg (a := -x) (b := -y) (by omega) (by omega)
    rw [Int.neg_tdiv_neg] at this; exact this
  · have := Int.tdiv_nonneg (a := x) (b := -y) a (by omega)
    rw [Int.tdiv_neg] at this; omega
  · have := Int.tdiv_nonneg (a := -x) (b := y) (by omega) b
    rw [Int.neg_tdiv] at this; omega
theorem tdiv_le {x y : Int} (x0 : -9223372036854775808 ≤ x) (x1 : x ≤ 9223372036854775807) (h : y ≠ -1) : -9223372036854775808 ≤ Int.tdiv x y ∧ Int.tdiv x y ≤ 9223372036854775807 := by
  by_cases y0 : y = 0
  · rw [y0, Int.tdiv_zero]; omega
  · by_cases y1 : y = 1
    · rw [y1, Int.tdiv_one]; omega
    · have h1 := Int.natAbs_tdiv x y
      have h2 : (Int.tdiv x y).natAbs ≤ x.natAbs / 2 := by rw [h1]; exact Nat.div_le_div_left (by omega) (by omega)
      generalize Int.tdiv x y = d at h2 ⊢
      clear h1
      omega
theorem div_s {x y : Int} (x0 : -9223372036854775808 ≤ x) (x1 : x ≤ 9223372036854775807) (y0 : y ≠ 0) (ym : y ≠ -1) : may 7 (so x) (so y) (so (wrap64 (Int.tdiv x y))) := by
  have b := tdiv_bd x y
  have l := tdiv_le x0 x1 ym
  have w : wrap64 (Int.tdiv x y) = Int.tdiv x y := by unfold wrap64; omega
  rw [w]
  have z : x = 0 → Int.tdiv x y = 0 := fun h => by rw [h]; exact Int.zero_tdiv y
  rcases so_cases x with ⟨hx, e⟩ | ⟨hx, e⟩ | ⟨hx, e⟩ <;> rcases so_cases y with ⟨hy, f⟩ | ⟨hy, f⟩ | ⟨hy, f⟩ <;> rcases so_cases (Int.tdiv x y) with ⟨hn, g⟩ | ⟨hn, g⟩ | ⟨hn, g⟩ <;> rw [e, f, g] <;>
    first | decide +kernel | (exfalso; omega)
theorem div_m {x : Int} (x0 : -9223372036854775808 ≤ x) (x1 : x ≤ 9223372036854775807) : may 7 (so x) (so (-1)) (so (wrap64 (-x))) := by
  rcases so_cases x with ⟨hx, e⟩ | ⟨hx, e⟩ | ⟨hx, e⟩ <;> rcases so_cases (wrap64 (-x)) with ⟨hn, g⟩ | ⟨hn, g⟩ | ⟨hn, g⟩ <;> rw [e, g] <;>
    first | decide +kernel | (exfalso; unfold wrap64 at hn; omega)
theorem rem_s {x y : Int} (y0 : y ≠ 0) : may 8 (so x) (so y) (so (Int.tmod x y)) := by
  have b1 : 0 ≤ x → 0 ≤ Int.tmod x y := fun h => Int.tmod_nonneg y h
  have b2 : x ≤ 0 → Int.tmod x y ≤ 0 := fun h => by
    have := Int.tmod_nonneg (a := -x) y (by omega)
    rw [Int.neg_tmod] at this; omega
  rcases so_cases x with ⟨hx, e⟩ | ⟨hx, e⟩ | ⟨hx, e⟩ <;> rcases so_cases y with ⟨hy, f⟩ | ⟨hy, f⟩ | ⟨hy, f⟩ <;> rcases so_cases (Int.tmod x y) with ⟨hn, g⟩ | ⟨hn, g⟩ | ⟨hn, g⟩ <;> rw [e, f, g] <;>
    first | decide +kernel | (exfalso; omega)
theorem rem_m (x : Int) : may 8 (so x) (so (-1)) (so 0) := by
  rcases so_cases x with ⟨hx, e⟩ | ⟨hx, e⟩ | ⟨hx, e⟩ <;> rw [e] <;> decide +kernel
theorem and_s {x y : Int} (x0 : -9223372036854775808 ≤ x) (x1 : x ≤ 9223372036854775807) (y0 : -9223372036854775808 ≤ y) (y1 : y ≤ 9223372036854775807) : may 9 (so x) (so y) (so (Go.bits .and .i64 x y)) := by
  have b := and_neg x0 x1 y0 y1
  have z1 : x = 0 → Go.bits .and .i64 x y = 0 := fun h => by rw [h]; exact and_zero_l y
  have z2 : y = 0 → Go.bits .and .i64 x y = 0 := fun h => by rw [h]; exact and_zero_r x
  generalize Go.bits .and .i64 x y = n at b z1 z2 ⊢
  rcases so_cases x with ⟨hx, e⟩ | ⟨hx, e⟩ | ⟨hx, e⟩ <;> rcases so_cases y with ⟨hy, f⟩ | ⟨hy, f⟩ | ⟨hy, f⟩ <;> rcases so_cases n with ⟨hn, g⟩ | ⟨hn, g⟩ | ⟨hn, g⟩ <;> rw [e, f, g] <;>
    first | decide +kernel | (exfalso; omega)
theorem xor_s {x y : Int} (x0 : -9223372036854775808 ≤ x) (x1 : x ≤ 9223372036854775807) (y0 : -9223372036854775808 ≤ y) (y1 : y ≤ 9223372036854775807) : may 10 (so x) (so y) (so (Go.bits .xor .i64 x y)) := by
  have b := xor_neg x0 x1 y0 y1
  have z1 : x = 0 → Go.bits .xor .i64 x y = y := fun h => by rw [h]; exact xor_zero_l y0 y1
  have z2 : y = 0 → Go.bits .xor .i64 x y = x := fun h => by rw [h]; exact xor_zero_r x0 x1
  generalize Go.bits .xor .i64 x y = n at b z1 z2 ⊢
  rcases so_cases x with ⟨hx, e⟩ | ⟨hx, e⟩ | ⟨hx, e⟩ <;> rcases so_cases y with ⟨hy, f⟩ | ⟨hy, f⟩ | ⟨hy, f⟩ <;> rcases so_cases n with ⟨hn, g⟩ | ⟨hn, g⟩ | ⟨hn, g⟩ <;> rw [e, f, g] <;>
    first | decide +kernel | (exfalso; omega)
theorem less_s (x y : Int) : may 11 (so x) (so y) (so (if x < y then 1 else 0)) := by
  rcases so_cases x with ⟨hx, e⟩ | ⟨hx, e⟩ | ⟨hx, e⟩ <;> rcases so_cases y with ⟨hy, f⟩ | ⟨hy, f⟩ | ⟨hy, f⟩ <;> by_cases c : x < y <;> simp only [c, if_true, if_false] <;> rw [e, f] <;>
    first | decide +kernel | (exfalso; omega)
theorem same_s (x y : Int) : may 12 (so x) (so y) (so (if x = y then 1 else 0)) := by
  rcases so_cases x with ⟨hx, e⟩ | ⟨hx, e⟩ | ⟨hx, e⟩ <;> rcases so_cases y with ⟨hy, f⟩ | ⟨hy, f⟩ | ⟨hy, f⟩ <;> by_cases c : x = y <;> simp only [c, if_true, if_false] <;> (try rw [e]) <;> rw [f] <;>
    first | decide +kernel | (exfalso; omega)
/-- The sign of what two numbers come to, by theirs. -/
theorem pair_sound {op x y n : Int} (hx : (Lit.int .i64 x).wf = true) (hy : (Lit.int .i64 y).wf = true) (h : avermentref07_Arith.f op x y = some (n, true)) : may (opc op) (so x) (so y) (so n) := by
  obtain ⟨x0, x1⟩ := rng hx
  obtain ⟨y0, y1⟩ := rng hy
  rw [arith_opc] at h
  have hm := opc_mem op
  generalize opc op = o at h hm
  simp only [ops, List.mem_cons, List.not_mem_nil, or_false] at hm
  rcases hm with rfl | rfl | rfl | rfl | rfl | rfl | rfl | rfl | rfl | rfl
  · simp [avermentref07_Arith.f] at h
  · simp [avermentref07_Arith.f] at h; rw [← h]; exact add_s x0 x1 y0 y1
  · simp [avermentref07_Arith.f] at h; rw [← h]; exact sub_s x0 x1 y0 y1
  · simp [avermentref07_Arith.f] at h; rw [← h]; exact mul_s x y
  · simp [avermentref07_Arith.f] at h
    by_cases z : y = 0
    · simp [z] at h
    · rw [if_neg z] at h
      by_cases m : y = -1
      · rw [if_pos m] at h; simp at h; rw [← h, m]; exact div_m x0 x1
      · rw [if_neg m] at h; simp at h; rw [← h]; exact div_s x0 x1 z m
  · simp [avermentref07_Arith.f] at h
    by_cases z : y = 0
    · simp [z] at h
    · rw [if_neg z] at h
      by_cases m : y = -1
      · rw [if_pos m] at h; simp at h; rw [← h, m]; exact rem_m x
      · rw [if_neg m] at h; simp at h; rw [← h]; exact rem_s z
  · simp [avermentref07_Arith.f] at h; rw [← h]; exact and_s x0 x1 y0 y1
  · simp [avermentref07_Arith.f] at h; rw [← h]; exact xor_s x0 x1 y0 y1
  · have e : avermentref07_Arith.f 11 x y = some (if x < y then 1 else 0, true) := by
      simp only [avermentref07_Arith.f, Int.reduceEq, if_false, if_true]; split <;> rfl
    rw [e] at h; simp at h; rw [← h]; exact less_s x y
  · have e : avermentref07_Arith.f 12 x y = some (if x = y then 1 else 0, true) := by
      simp only [avermentref07_Arith.f, Int.reduceEq, if_false, if_true]; split <;> rfl
    rw [e] at h; simp at h; rw [← h]; exact same_s x y

theorem rises_tbl : ∀ op ∈ ops, ∀ A B M : Fin 8,
    sT op (Go.bits .and .i64 (Go.bits .or .i64 (A.val : Int) M.val) 7 % 8) B.val = Go.bits .and .i64 (Go.bits .or .i64 (sT op A.val B.val) (sT op M.val B.val)) 7 ∧
    sT op A.val (Go.bits .and .i64 (Go.bits .or .i64 (B.val : Int) M.val) 7 % 8) = Go.bits .and .i64 (Go.bits .or .i64 (sT op A.val B.val) (sT op A.val M.val)) 7 := by decide +kernel
theorem sT_rng : ∀ op ∈ ops, ∀ A B : Fin 8, sT op A.val B.val % 8 = sT op A.val B.val := by decide +kernel
theorem join8 (a b : Int) (A B : Fin 8) (hA : a % 8 = A.val) (hB : b % 8 = B.val) : Go.bits .and .i64 (Go.bits .or .i64 a b) 7 = Go.bits .and .i64 (Go.bits .or .i64 (A.val : Int) B.val) 7 := by
  rw [or_res a b 7 (by decide) (by decide), hA, hB]
theorem sjoin_val (a b : Int) : sign_Join.f a b = some (Go.bits .and .i64 (Go.bits .or .i64 a b) 7) := rfl
theorem swithin_val (a b : Int) : sign_Within.f a b = some (Go.bits .and .i64 (Go.bits .andNot .i64 a b) 7 == 0) := rfl
theorem within_tbl : ∀ U V : Fin 8, (Go.bits .and .i64 (Go.bits .andNot .i64 (U.val : Int) (Go.bits .and .i64 (Go.bits .or .i64 (U.val : Int) V.val) 7)) 7 == 0) = true := by decide +kernel
theorem within_join (u v : Int) : (Go.bits .and .i64 (Go.bits .andNot .i64 u (Go.bits .and .i64 (Go.bits .or .i64 u v) 7)) 7 == 0) = true := by
  obtain ⟨U, hU⟩ := fin8 u
  obtain ⟨V, hV⟩ := fin8 v
  have e : Go.bits .and .i64 (Go.bits .or .i64 u v) 7 = Go.bits .and .i64 (Go.bits .or .i64 (U.val : Int) V.val) 7 := join8 u v U V hU hV
  have g : Go.bits .and .i64 (Go.bits .or .i64 (U.val : Int) V.val) 7 % 8 = Go.bits .and .i64 (Go.bits .or .i64 (U.val : Int) V.val) 7 := by
    have t : ∀ U V : Fin 8, Go.bits .and .i64 (Go.bits .or .i64 (U.val : Int) V.val) 7 % 8 = Go.bits .and .i64 (Go.bits .or .i64 (U.val : Int) V.val) 7 := by decide +kernel
    exact t U V
  rw [nt_res _ _ 7 (by decide) (by decide), e, g, hU]
  exact within_tbl U V
theorem one_rises : ∀ o ∈ ops1, ∀ A M : Fin 8, ((sign_One.f o A.val).bind fun x => (sign_One.f o (Go.bits .and .i64 (Go.bits .or .i64 (A.val : Int) M.val) 7 % 8)).bind fun y => sign_Within.f x y) = some true := by decide +kernel
theorem branch_tbl : ∀ A : Fin 8, (Go.bits .and .i64 (Go.bits .or .i64 (Go.bits .and .i64 (A.val : Int) 5) (Go.bits .and .i64 (A.val : Int) 2)) 7 == Go.bits .and .i64 (A.val : Int) 7) = true := by decide +kernel
theorem rises_tail (op a m : Int) (k : Nat) : avermentlaw08_SignRises.j0 (k + 1) op m a false = some true := by
  obtain ⟨A, hA⟩ := fin8 a
  obtain ⟨M, hM⟩ := fin8 m
  have t := one_rises (op1 op) (op1_mem op) A M
  have r : ∀ x : Int, sign_One.f op x = sign_One.f (op1 op) (x % 8) := sone_res op
  have e1 : ∃ r, sign_One.f op a = some r := by obtain ⟨r, h, _⟩ := one_at op a 100 (by decide); exact ⟨r, h⟩
  have e2 : ∃ r, sign_One.f op (Go.bits .and .i64 (Go.bits .or .i64 a m) 7) = some r := by obtain ⟨r, h, _⟩ := one_at op (Go.bits .and .i64 (Go.bits .or .i64 a m) 7) 100 (by decide); exact ⟨r, h⟩
  obtain ⟨u, hu⟩ := e1
  obtain ⟨v, hv⟩ := e2
  have hu2 := hu
  have hv2 := hv
  rw [r a, hA] at hu2
  rw [r, join8 a m A M hA hM] at hv2
  rw [hu2, hv2, bs, bs] at t
  have b1 : sign_Branch.f a true = some (Go.bits .and .i64 (A.val : Int) 5) := by unfold sign_Branch.f; rw [if_pos rfl, and_res8 a 5 (by decide) (by decide), hA]
  have b2 : sign_Branch.f a false = some (Go.bits .and .i64 (A.val : Int) 2) := by unfold sign_Branch.f; rw [if_neg Bool.false_ne_true, and_res8 a 2 (by decide) (by decide), hA]
  have b3 : avermentref08_Bits.f a = some (Go.bits .and .i64 (A.val : Int) 7) := by unfold avermentref08_Bits.f; rw [and_res8 a 7 (by decide) (by decide), hA]
  simp only [avermentlaw08_SignRises.j0]
  rw [if_neg Bool.false_ne_true, hu, bs, sjoin_val a m, bs, hv, bs, t, bs, if_pos rfl, b1, b2, bs, bs, sjoin_val, bs, b3, bs, branch_tbl A]
theorem rises (op a b m : Int) (k : Nat) : avermentlaw08_SignRises.f (k + 1) op a b m = some true := by
  obtain ⟨A, hA⟩ := fin8 a
  obtain ⟨B, hB⟩ := fin8 b
  obtain ⟨M, hM⟩ := fin8 m
  obtain ⟨t1, t2⟩ := rises_tbl (opc op) (opc_mem op) A B M
  have tw : ∀ x y, sign_Two.f op x y = some (sT (opc op) (x % 8) (y % 8)) := fun x y => stwo_at op x y
  unfold avermentlaw08_SignRises.f
  rw [tw a b, hA, hB, bs, sjoin_val a m, bs, tw, join8 a m A M hA hM, hB, t1, bs, sjoin_val b m, bs, tw, join8 b m B M hB hM, hA, t2, bs, told_s, bs, if_pos rfl, swithin_val, within_join, bs, if_pos rfl, swithin_val, within_join, bs, if_pos rfl,
    tw m b, hM, hB, bs, sjoin_val, bs, if_pos rfl, tw a m, hA, hM, bs, sjoin_val, bs, bne_self_eq_false]
  exact rises_tail op a m k

theorem grow : ∀ U V : Fin 8, ∀ z ∈ [(1 : Int), 2, 4], Go.bits .and .i64 (V.val : Int) z ≠ 0 → Go.bits .and .i64 (Go.bits .and .i64 (Go.bits .or .i64 (U.val : Int) V.val) 7) z ≠ 0 := by decide +kernel
/-- With more in the sets as much is made: over numbers' rests. -/
theorem sT_grow (o : Int) (ho : o ∈ ops) (A B : Fin 8) (x y z : Int) (hx : x ∈ [(1 : Int), 2, 4]) (hy : y ∈ [(1 : Int), 2, 4]) (hz : z ∈ [(1 : Int), 2, 4]) (h : may o x y z) :
    may o (Go.bits .and .i64 (Go.bits .or .i64 (A.val : Int) x) 7 % 8) (Go.bits .and .i64 (Go.bits .or .i64 (B.val : Int) y) 7 % 8) z := by
  have f : ∀ x ∈ [(1 : Int), 2, 4], ∃ X : Fin 8, x = X.val := by
    intro x hx
    simp only [List.mem_cons, List.not_mem_nil, or_false] at hx
    rcases hx with rfl | rfl | rfl
    · exact ⟨1, rfl⟩
    · exact ⟨2, rfl⟩
    · exact ⟨4, rfl⟩
  obtain ⟨X, rfl⟩ := f x hx
  obtain ⟨Y, rfl⟩ := f y hy
  have g : ∀ C : Fin 8, ∃ D : Fin 8, ∀ E : Fin 8, sT o C.val E.val = D.val ∨ True := fun C => ⟨C, fun _ => .inr trivial⟩
  have val : ∀ C E : Fin 8, ∃ D : Fin 8, sT o C.val E.val = D.val := fun C E => by
    have := sT_rng o ho C E
    obtain ⟨D, hD⟩ := fin8 (sT o C.val E.val)
    exact ⟨D, by omega⟩
  obtain ⟨J, hJ⟩ := fin8 (Go.bits .and .i64 (Go.bits .or .i64 (B.val : Int) Y.val) 7)
  -- first the second set, then the first one
  have s2 : may o X.val (Go.bits .and .i64 (Go.bits .or .i64 (B.val : Int) Y.val) 7 % 8) z := by
    have t := (rises_tbl o ho X B Y).2
    unfold may at h ⊢
    rw [t]
    obtain ⟨U, hU⟩ := val X B
    obtain ⟨V, hV⟩ := val X Y
    rw [hV] at h
    rw [hU, hV]
    exact grow U V z hz h
  have t := (rises_tbl o ho A J X).1
  unfold may at s2 ⊢
  rw [hJ] at s2 ⊢
  rw [t]
  obtain ⟨U, hU⟩ := val A J
  obtain ⟨V, hV⟩ := val X J
  rw [hV] at s2
  rw [hU, hV]
  exact grow U V z hz s2
theorem or_mod8' (a x : Int) (X : Fin 8) (hx : x = X.val) (A : Fin 8) (hA : a % 8 = A.val) : Go.bits .or .i64 a x % 8 = Go.bits .and .i64 (Go.bits .or .i64 (A.val : Int) x) 7 % 8 := by
  have h1 := or_mod8 a x
  have t : ∀ A X : Fin 8, Go.bits .and .i64 (Go.bits .or .i64 (A.val : Int) X.val) 7 % 8 = ((((A.val : Int)).toNat ||| (((X.val : Int) % 8).toNat) : Nat) : Int) := by decide +kernel
  rw [h1, hA, hx, t A X]
theorem tail_tbl : ∀ A : Fin 8, ∀ z ∈ [(1 : Int), 2, 4], ((sign_One.f 2 (Go.bits .and .i64 (Go.bits .or .i64 (A.val : Int) z) 7 % 8)).bind fun u => some (Go.bits .and .i64 u z != 0)) = some true ∧
    ((sign_One.f 3 (Go.bits .and .i64 (Go.bits .or .i64 (A.val : Int) z) 7 % 8)).bind fun u => some (Go.bits .and .i64 u (if z = 1 then 4 else if z = 4 then 1 else 2) != 0)) = some true ∧
    (z = 1 → ((sign_One.f 3 (Go.bits .and .i64 (Go.bits .or .i64 (A.val : Int) z) 7 % 8)).bind fun u => some (Go.bits .and .i64 u 1 != 0)) = some true) ∧
    (Go.bits .and .i64 (Go.bits .and .i64 (Go.bits .and .i64 (Go.bits .or .i64 (A.val : Int) z) 7 % 8) (if z = 2 then 2 else 5)) z != 0) = true := by decide +kernel
theorem sound {op x y a b : Int} (hx : (Lit.int .i64 x).wf = true) (hy : (Lit.int .i64 y).wf = true) (k : Nat) : avermentlaw08_SignSound.f (k + 1) op x y a b = some true := by
  obtain ⟨A, hA⟩ := fin8 a
  obtain ⟨B, hB⟩ := fin8 b
  have f : ∀ n : Int, ∃ X : Fin 8, so n = X.val := fun n => by
    rcases so_cases n with ⟨_, h⟩ | ⟨_, h⟩ | ⟨_, h⟩ <;> rw [h]
    · exact ⟨1, rfl⟩
    · exact ⟨2, rfl⟩
    · exact ⟨4, rfl⟩
  obtain ⟨X, hX⟩ := f x
  obtain ⟨Y, hY⟩ := f y
  have rA := or_mod8' a (so x) X hX A hA
  have rB := or_mod8' b (so y) Y hY B hB
  have tail : avermentlaw08_SignSound.j0 (k + 1) x (Go.bits .or .i64 a (so x)) false = some true := by
    obtain ⟨t1, t2, t3, t4⟩ := tail_tbl A (so x) (so_mem x)
    have r : ∀ o z : Int, sign_One.f o z = sign_One.f (op1 o) (z % 8) := sone_res
    have e1 : ∃ r, sign_One.f 2 (Go.bits .or .i64 a (so x)) = some r := by obtain ⟨r, h, _⟩ := one_at 2 (Go.bits .or .i64 a (so x)) 100 (by decide); exact ⟨r, h⟩
    have e2 : ∃ r, sign_One.f 3 (Go.bits .or .i64 a (so x)) = some r := by obtain ⟨r, h, _⟩ := one_at 3 (Go.bits .or .i64 a (so x)) 100 (by decide); exact ⟨r, h⟩
    obtain ⟨u, hu⟩ := e1
    obtain ⟨v, hv⟩ := e2
    have hu2 := hu
    have hv2 := hv
    rw [r, rA, show op1 2 = 2 from rfl] at hu2
    rw [r, rA, show op1 3 = 3 from rfl] at hv2
    rw [hu2, bs] at t1
    rw [hv2, bs] at t2 t3
    have q1 : (Go.bits .and .i64 u (so x) != 0) = true := Option.some.inj t1
    have q2 : (Go.bits .and .i64 v (so (wrap64 (-x))) != 0) = true := by
      obtain ⟨x0, x1⟩ := rng hx
      rcases so_cases x with ⟨h, e⟩ | ⟨h, e⟩ | ⟨h, e⟩
      · by_cases m : x = -9223372036854775808
        · have w : so (wrap64 (-x)) = 1 := by rw [m]; decide +kernel
          rw [w]; exact Option.some.inj (t3 e)
        · have w : so (wrap64 (-x)) = 4 := by unfold so wrap64; rw [if_neg (by omega), if_neg (by omega)]
          rw [w]; rw [e, if_pos rfl] at t2; exact Option.some.inj t2
      · have w : so (wrap64 (-x)) = 2 := by rw [h]; decide +kernel
        rw [w]; rw [e, if_neg (by decide), if_neg (by decide)] at t2; exact Option.some.inj t2
      · have w : so (wrap64 (-x)) = 1 := by unfold so wrap64; rw [if_pos (by omega)]
        rw [w]; rw [e, if_neg (by decide), if_pos rfl] at t2; exact Option.some.inj t2
    have br : sign_Branch.f (Go.bits .or .i64 a (so x)) (x != 0) = some (Go.bits .and .i64 (Go.bits .and .i64 (Go.bits .or .i64 (A.val : Int) (so x)) 7 % 8) (if so x = 2 then 2 else 5)) := by
      unfold sign_Branch.f
      by_cases z : x = 0
      · rw [if_neg (by rw [z]; decide), if_pos (by rw [z]; rfl), and_res8 _ 2 (by decide) (by decide), rA]
      · have n2 : so x ≠ 2 := by rcases so_cases x with ⟨_, e⟩ | ⟨_, e⟩ | ⟨_, e⟩ <;> rw [e] <;> first | decide | omega
        rw [if_pos (bne_iff_ne.mpr z), if_neg n2, and_res8 _ 5 (by decide) (by decide), rA]
    simp only [avermentlaw08_SignSound.j0]
    rw [if_neg Bool.false_ne_true, hu, bs, shas, bs, q1, if_pos rfl, hv, bs, shas, bs, q2, if_pos rfl, br, bs, shas, bs, t4]
  unfold avermentlaw08_SignSound.f
  obtain ⟨⟨n, ok⟩, hn⟩ := arith_some op x y
  rw [rsof, rsof, hn, told_s]
  cases ok with
  | false =>
    rw [bs, bs, bs, bs, if_pos rfl, if_neg (show ¬ ((n, false).2 = true) from Bool.false_ne_true)]
    exact tail
  | true =>
    have p := sT_grow (opc op) (opc_mem op) A B (so x) (so y) (so n) (so_mem x) (so_mem y) (so_mem n) (pair_sound hx hy hn)
    unfold may at p
    have p' := bne_iff_ne.mpr p
    rw [bs, bs, bs, bs, if_pos rfl, if_pos (show (n, true).2 = true from rfl), stwo_at, rA, rB, bs, shas, bs]
    rw [show (n, true).1 = n from rfl, p']
    exact tail
end Go.Proofs.Ytiehdiohoehcpaa.Sgn
