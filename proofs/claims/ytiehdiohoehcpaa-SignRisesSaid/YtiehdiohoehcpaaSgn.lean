/- Plain laws of the sign functions: what sets of signs are made of, over whole numbers. No condition. -/
import Derived.Test.YtiehdiohoehcpaaPR8
import Derived.Test.YtiehdiohoehcpaaPR7
import Derived.Test.YtiehdiohoehcpaaPR6
import Derived.Test.YtiehdiohoehcpaaPR1
import Derived.Test.YtiehdiohoehcpaaPar3

namespace Go.Proofs.Ytiehdiohoehcpaa.Sgn
open Go.RowKit Go.Proofs.Ytiehdiohoehcpaa.PR Go.Proofs.Ytiehdiohoehcpaa.PB Go.Proofs.Ytiehdiohoehcpaa.Par Go.Proofs.YtiehdiohoehcpaaW.PrintWords Go.Proofs.YtiehdiohoehcpaaW.PrintLast Go.Proofs.YtiehdiohoehcpaaW.PrintMore

/-- A number's sign. -/
def so (n : Int) : Int := if n < 0 then 1 else if n = 0 then 2 else 4
theorem so_cases (n : Int) : (n < 0 ∧ so n = 1) ∨ (n = 0 ∧ so n = 2) ∨ (0 < n ∧ so n = 4) := by
  unfold so
  by_cases h : n < 0
  · rw [if_pos h]; exact .inl ⟨h, rfl⟩
  · rw [if_neg h]
    by_cases g : n = 0
    · rw [if_pos g]; exact .inr (.inl ⟨g, rfl⟩)
    · rw [if_neg g]; exact .inr (.inr ⟨by omega, rfl⟩)
theorem so_mem (n : Int) : so n ∈ [(1 : Int), 2, 4] := by
  rcases so_cases n with ⟨_, h⟩ | ⟨_, h⟩ | ⟨_, h⟩ <;> rw [h] <;> decide
theorem so_rng (n : Int) : 0 ≤ so n ∧ so n < 8 := by
  rcases so_cases n with ⟨_, h⟩ | ⟨_, h⟩ | ⟨_, h⟩ <;> rw [h] <;> decide
theorem sof (n : Int) : sign_Of.f n = some (so n) := by unfold sign_Of.f so; split <;> (try split) <;> rfl
theorem rsof (n : Int) : avermentref08_Of.f n = some (so n) := by unfold avermentref08_Of.f so; split <;> (try split) <;> rfl
theorem shas (a n : Int) : sign_Has.f a n = some (Go.bits .and .i64 a (so n) != 0) := by unfold sign_Has.f; rw [sof]; rfl
theorem rshas (a n : Int) : avermentref08_Has.f a n = some (Go.bits .and .i64 a (so n) != 0) := by unfold avermentref08_Has.f; rw [rsof]; rfl
theorem shas_eq (a n : Int) : sign_Has.f a n = avermentref08_Has.f a n := by rw [shas, rshas]

theorem sgBit_res (a : Int) (i : Nat) (h : i < 3) : sgBit a i = sgBit (a % 8) i := by
  have e : ∀ x y : Int, x % 2 = y % 2 → Go.bits .and .i64 x 1 = Go.bits .and .i64 y 1 := fun x y h => by rw [and1, and1, h]
  unfold sgBit
  rcases (show i = 0 ∨ i = 1 ∨ i = 2 by omega) with rfl | rfl | rfl
  · exact e _ _ (by simp only [if_pos]; omega)
  · exact e _ _ (by simp only [if_pos, if_neg (show ¬ (1 : Nat) = 0 by decide)]; omega)
  · exact e _ _ (by simp only [if_neg (show ¬ (2 : Nat) = 0 by decide), if_neg (show ¬ (2 : Nat) = 1 by decide)]; omega)
theorem sgOut_res (m : List Int) (a b : Int) : ∀ n, n ≤ 9 → sgOut m a b n = sgOut m (a % 8) (b % 8) n
  | 0, _ => rfl
  | n + 1, h => by
    simp only [sgOut]
    rw [sgOut_res m a b n (by omega), sgBit_res a (n / 3) (by omega), sgBit_res b (n % 3) (by omega)]
theorem made_opc (op : Int) : sign_made.f op = sign_made.f (opc op) := by
  unfold opc
  by_cases h : 4 ≤ op ∧ op ≤ 12
  · rw [if_pos h]
  · rw [if_neg h]
    have e : ∀ j : Int, 4 ≤ j → j ≤ 12 → op ≠ j := fun j h1 h2 h3 => h ⟨by omega, by omega⟩
    unfold sign_made.f
    rw [if_neg (e 4 (by decide) (by decide)), if_neg (e 5 (by decide) (by decide)), if_neg (e 6 (by decide) (by decide)), if_neg (e 7 (by decide) (by decide)), if_neg (e 8 (by decide) (by decide)), if_neg (e 9 (by decide) (by decide)), if_neg (e 10 (by decide) (by decide)), if_neg (e 11 (by decide) (by decide)), if_neg (e 12 (by decide) (by decide))]
    rfl
theorem stwo_res (op a b : Int) : sign_Two.f op a b = sign_Two.f (opc op) (a % 8) (b % 8) := by
  unfold sign_Two.f
  rw [made_opc]
  simp only [sgOut_res _ a b 9 (by decide)]
/-- What is made, of ten operations and two sets of eight. -/
def sT (op a b : Int) : Int := (sign_Two.f op a b).getD 0
theorem stbl : ∀ op ∈ ops, ∀ A B : Fin 8, (sign_Two.f op A.val B.val).isSome = true := by decide +kernel
theorem stwo_at (op a b : Int) : sign_Two.f op a b = some (sT (opc op) (a % 8) (b % 8)) := by
  obtain ⟨A, hA⟩ := fin8 a
  obtain ⟨B, hB⟩ := fin8 b
  rw [stwo_res, hA, hB]
  have h := stbl (opc op) (opc_mem op) A B
  unfold sT
  obtain ⟨r, hr⟩ := Option.isSome_iff_exists.mp h
  rw [hr]; rfl
theorem told_s : avermentlaw08_told.f = some true := by decide +kernel
theorem rhas_res (a n : Int) : avermentref08_Has.f a n = avermentref08_Has.f (a % 8) n := by
  rw [rshas, rshas, and_res8 a (so n) (so_rng n).1 (so_rng n).2]
theorem srtwo_cong {op op' a a' b b' : Int} (hop : ∀ x y, avermentref07_Arith.f op x y = avermentref07_Arith.f op' x y) (ha : ∀ n, avermentref08_Has.f a n = avermentref08_Has.f a' n) (hb : ∀ n, avermentref08_Has.f b n = avermentref08_Has.f b' n) :
    ∀ k, (∀ y z i, avermentref08_Two.l0 k op a b y z i = avermentref08_Two.l0 k op' a' b' y z i) ∧ (∀ y z i j, avermentref08_Two.l1 k op a b y z i j = avermentref08_Two.l1 k op' a' b' y z i j)
  | 0 => ⟨fun _ _ _ => by simp only [avermentref08_Two.l0], fun _ _ _ _ => by simp only [avermentref08_Two.l1]⟩
  | k + 1 => by
    obtain ⟨i0, i1⟩ := srtwo_cong hop ha hb k
    exact ⟨fun _ _ _ => by simp only [avermentref08_Two.l0, i1], fun _ _ _ _ => by simp only [avermentref08_Two.l1, hop, ha, hb, i0, i1]⟩
theorem srtwo_res (op a b : Int) (k : Nat) : avermentref08_Two.f k op a b = avermentref08_Two.f k (opc op) (a % 8) (b % 8) := by
  unfold avermentref08_Two.f
  simp only [(srtwo_cong (arith_opc op) (rhas_res a) (rhas_res b) k).1]
theorem srt0 : ∀ A B : Fin 8, avermentref08_Two.f 300 0 A.val B.val = some (sT 0 A.val B.val) := by decide +kernel
theorem srt4 : ∀ A B : Fin 8, avermentref08_Two.f 300 4 A.val B.val = some (sT 4 A.val B.val) := by decide +kernel
theorem srt5 : ∀ A B : Fin 8, avermentref08_Two.f 300 5 A.val B.val = some (sT 5 A.val B.val) := by decide +kernel
theorem srt6 : ∀ A B : Fin 8, avermentref08_Two.f 300 6 A.val B.val = some (sT 6 A.val B.val) := by decide +kernel
theorem srt7 : ∀ A B : Fin 8, avermentref08_Two.f 300 7 A.val B.val = some (sT 7 A.val B.val) := by decide +kernel
theorem srt8 : ∀ A B : Fin 8, avermentref08_Two.f 300 8 A.val B.val = some (sT 8 A.val B.val) := by decide +kernel
theorem srt9 : ∀ A B : Fin 8, avermentref08_Two.f 300 9 A.val B.val = some (sT 9 A.val B.val) := by decide +kernel
theorem srt10 : ∀ A B : Fin 8, avermentref08_Two.f 300 10 A.val B.val = some (sT 10 A.val B.val) := by decide +kernel
theorem srt11 : ∀ A B : Fin 8, avermentref08_Two.f 300 11 A.val B.val = some (sT 11 A.val B.val) := by decide +kernel
theorem srt12 : ∀ A B : Fin 8, avermentref08_Two.f 300 12 A.val B.val = some (sT 12 A.val B.val) := by decide +kernel
theorem srtbl (op : Int) (h : op ∈ ops) (A B : Fin 8) : avermentref08_Two.f 300 op A.val B.val = some (sT op A.val B.val) := by
  simp only [ops, List.mem_cons, List.not_mem_nil, or_false] at h
  rcases h with rfl | rfl | rfl | rfl | rfl | rfl | rfl | rfl | rfl | rfl
  · exact srt0 A B
  · exact srt4 A B
  · exact srt5 A B
  · exact srt6 A B
  · exact srt7 A B
  · exact srt8 A B
  · exact srt9 A B
  · exact srt10 A B
  · exact srt11 A B
  · exact srt12 A B
theorem srtwo_at (op a b : Int) (k : Nat) (hk : 300 ≤ k) : avermentref08_Two.f k op a b = some (sT (opc op) (a % 8) (b % 8)) := by
  obtain ⟨A, hA⟩ := fin8 a
  obtain ⟨B, hB⟩ := fin8 b
  rw [srtwo_res, hA, hB]
  exact at_rounds (avermentref08_Two.mono _ _ _) hk (srtbl (opc op) (opc_mem op) A B)
/-- An operation of one register, or none. -/
def op1 (op : Int) : Int := if op = 2 then 2 else if op = 3 then 3 else 0
theorem rone_cong {op op' a a' : Int} (h2 : (op == 2) = (op' == 2)) (h3 : (op = 3) = (op' = 3)) (ha : ∀ n, avermentref08_Has.f a n = avermentref08_Has.f a' n) :
    ∀ k, (∀ y z i, avermentref08_One.l0 k op a y z i = avermentref08_One.l0 k op' a' y z i) ∧ (∀ y z i c, avermentref08_One.j1 k op a y z i c = avermentref08_One.j1 k op' a' y z i c) ∧ (∀ y z i, avermentref08_One.j2 k op a y z i = avermentref08_One.j2 k op' a' y z i)
  | 0 => ⟨fun _ _ _ => by simp only [avermentref08_One.l0], fun _ _ _ _ => by simp only [avermentref08_One.j1], fun _ _ _ => by simp only [avermentref08_One.j2]⟩
  | k + 1 => by
    obtain ⟨i0, i1, i2⟩ := rone_cong h2 h3 ha k
    exact ⟨fun _ _ _ => by simp only [avermentref08_One.l0, ha, i1, h2], fun _ _ _ _ => by simp only [avermentref08_One.j1, i2], fun _ _ _ => by simp only [avermentref08_One.j2, ha, i0, h3]⟩
theorem rone_res (op a : Int) (k : Nat) : avermentref08_One.f k op a = avermentref08_One.f k (op1 op) (a % 8) := by
  have h2 : (op == 2) = (op1 op == 2) := by
    unfold op1
    by_cases h : op = 2
    · rw [if_pos h, h]
    · rw [if_neg h]
      have : (op == 2) = false := beq_eq_false_iff_ne.mpr h
      rw [this]
      split <;> rfl
  have h3 : (op = 3) = (op1 op = 3) := by
    unfold op1
    by_cases h : op = 2
    · rw [if_pos h, h]
    · rw [if_neg h]
      by_cases g : op = 3
      · rw [if_pos g, g]
      · rw [if_neg g]; simp [g]
  unfold avermentref08_One.f
  simp only [(rone_cong h2 h3 (rhas_res a) k).1]
theorem sone_res (op a : Int) : sign_One.f op a = sign_One.f (op1 op) (a % 8) := by
  have r : ∀ m : Int, 0 ≤ m → m < 8 → Go.bits .and .i64 a m = Go.bits .and .i64 (a % 8) m := fun m h0 h => and_res8 a m h0 h
  unfold op1 sign_One.f
  rw [r 7 (by decide) (by decide), r 1 (by decide) (by decide), r 4 (by decide) (by decide), r 3 (by decide) (by decide)]
  by_cases h : op = 2
  · rw [if_pos h, if_pos h, if_pos rfl]
  · rw [if_neg h, if_neg h]
    by_cases g : op = 3
    · rw [if_pos g, if_pos g, if_neg (show ¬ ((3 : Int) = 2) by decide), if_pos rfl]
    · rw [if_neg g, if_neg g, if_neg (show ¬ ((0 : Int) = 2) by decide), if_neg (show ¬ ((0 : Int) = 3) by decide)]
def ops1 : List Int := [0, 2, 3]
theorem op1_mem (op : Int) : op1 op ∈ ops1 := by unfold op1 ops1; split <;> (try split) <;> decide
theorem one_tbl : ∀ op ∈ ops1, ∀ A : Fin 8, avermentref08_One.f 100 op A.val = sign_One.f op A.val ∧ (sign_One.f op A.val).isSome = true := by decide +kernel
theorem one_at (op a : Int) (k : Nat) (hk : 100 ≤ k) : ∃ r, sign_One.f op a = some r ∧ avermentref08_One.f k op a = some r := by
  obtain ⟨A, hA⟩ := fin8 a
  rw [rone_res, sone_res, hA]
  obtain ⟨h1, h2⟩ := one_tbl (op1 op) (op1_mem op) A
  obtain ⟨r, hr⟩ := Option.isSome_iff_exists.mp h2
  exact ⟨r, hr, at_rounds (avermentref08_One.mono _ _) hk (h1.trans hr)⟩
theorem makes (op a b : Int) : avermentlaw08_SignMakes.f 300 op a b = some true := by
  unfold avermentlaw08_SignMakes.f
  obtain ⟨r, h1, h2⟩ := one_at op a 300 (by decide)
  rw [told_s, h1, h2, stwo_at op a b, srtwo_at op a b 300 (by decide)]
  have b1 : sign_Branch.f a true = some (Go.bits .and .i64 a 5) := rfl
  have b2 : avermentref08_Branch.f a true = some (Go.bits .and .i64 a 5) := rfl
  have b3 : sign_Branch.f a false = some (Go.bits .and .i64 a 2) := rfl
  have b4 : avermentref08_Branch.f a false = some (Go.bits .and .i64 a 2) := rfl
  rw [b1, b2, b3, b4, bs, if_pos rfl, bs, bs, if_pos rfl, bs, bs, if_pos rfl, bs, bs, if_pos rfl, bs, bs, beq_self_eq_true]

theorem set_laws7 : ∀ A B : Fin 8, Go.bits .and .i64 (Go.bits .or .i64 (A.val : Int) B.val) 7 = Go.bits .or .i64 (Go.bits .and .i64 (A.val : Int) 7) (Go.bits .and .i64 (B.val : Int) 7) ∧
    Go.bits .and .i64 (Go.bits .and .i64 (A.val : Int) B.val) 7 = Go.bits .and .i64 (Go.bits .and .i64 (A.val : Int) 7) (Go.bits .and .i64 (B.val : Int) 7) ∧
    (Go.bits .and .i64 (Go.bits .andNot .i64 (A.val : Int) B.val) 7 == 0) = (Go.bits .or .i64 (Go.bits .and .i64 (A.val : Int) 7) (Go.bits .and .i64 (B.val : Int) 7) == Go.bits .and .i64 (B.val : Int) 7) := by decide +kernel
theorem so_mask : ∀ A : Fin 8, ∀ z ∈ [(1 : Int), 2, 4], Go.bits .and .i64 (A.val : Int) z = Go.bits .and .i64 (Go.bits .and .i64 (A.val : Int) 7) z := by decide +kernel
theorem sets (a b n : Int) : avermentlaw08_SignSets.f a b n = some true := by
  unfold avermentlaw08_SignSets.f
  have hr : sign_Right.f a = if a ≥ 1 then some (decide (a ≤ 7)) else some false := rfl
  obtain ⟨A, hA⟩ := fin8 a
  obtain ⟨B, hB⟩ := fin8 b
  obtain ⟨h1, h2, h3⟩ := set_laws7 A B
  have r7 : ∀ x : Int, Go.bits .and .i64 x 7 = Go.bits .and .i64 (x % 8) 7 := fun x => and_res8 x 7 (by decide) (by decide)
  have p0 : ∀ x, avermentref08_Bits.f x = some (Go.bits .and .i64 x 7) := fun _ => rfl
  have p1 : sign_Join.f a b = some (Go.bits .or .i64 (Go.bits .and .i64 a 7) (Go.bits .and .i64 b 7)) := by
    unfold sign_Join.f; rw [or_res a b 7 (by decide) (by decide), r7 a, r7 b, hA, hB, h1]
  have p2 : sign_Meet.f a b = some (Go.bits .and .i64 (Go.bits .and .i64 a 7) (Go.bits .and .i64 b 7)) := by
    unfold sign_Meet.f; rw [an_res a b 7 (by decide) (by decide), r7 a, r7 b, hA, hB, h2]
  have p3 : sign_Within.f a b = some (Go.bits .or .i64 (Go.bits .and .i64 a 7) (Go.bits .and .i64 b 7) == Go.bits .and .i64 b 7) := by
    unfold sign_Within.f; rw [nt_res a b 7 (by decide) (by decide), r7 a, r7 b, hA, hB, h3]
  have p4 : avermentref08_Has.f (Go.bits .and .i64 a 7) n = some (Go.bits .and .i64 a (so n) != 0) := by
    rw [rshas, r7 a, hA, and_res8 a (so n) (so_rng n).1 (so_rng n).2, hA, ← so_mask A (so n) (so_mem n)]
  rw [told_s, hr, sof, rsof, shas, p0, p0, bs, bs, p4, p1, p2, p3]
  by_cases h : a ≥ 1
  · rw [bs, if_pos rfl, if_pos h, bs, if_pos h, if_pos (beq_self_eq_true _), bs, bs, if_pos rfl, bs, bs, if_pos (beq_self_eq_true _), bs, if_pos rfl, bs, if_pos rfl, bs, beq_self_eq_true]
  · rw [bs, if_pos rfl, if_neg h, bs, if_neg h, if_pos (beq_self_eq_true _), bs, bs, if_pos rfl, bs, bs, if_pos (beq_self_eq_true _), bs, if_pos rfl, bs, if_pos rfl, bs, beq_self_eq_true]
theorem sT_zero : ∀ op ∈ ops, ∀ A : Fin 8, sT op 0 A.val = 0 ∧ sT op A.val 0 = 0 := by decide +kernel
theorem sone_zero (op : Int) : sign_One.f op 0 = some 0 := by
  rw [sone_res]
  have : ∀ o ∈ ops1, sign_One.f o (0 % 8) = some 0 := by decide +kernel
  exact this _ (op1_mem op)
theorem tight_l (op a b R : Int) (hR : R = sT (opc op) (a % 8) (b % 8)) : ∀ k, (∀ y z i, LeR R (avermentref08_Two.l0 k op a b y z i) (avermentlaw08_SignTight.l0 k op a b R y z i)) ∧
      (∀ y z i j, LeR R (avermentref08_Two.l1 k op a b y z i j) (avermentlaw08_SignTight.l1 k op a b R y z i j))
  | 0 => ⟨fun _ _ _ => by simp only [avermentref08_Two.l0]; exact LeR.none _, fun _ _ _ _ => by simp only [avermentref08_Two.l1]; exact LeR.none _⟩
  | k + 1 => by
    obtain ⟨i0, i1⟩ := tight_l op a b R hR k
    constructor
    · intro y z i
      simp only [avermentref08_Two.l0, avermentlaw08_SignTight.l0]
      refine LeR.ite (i1 _ _ _ _) ?_
      intro e
      have e : y = R := Option.some.inj e
      obtain ⟨A, hA⟩ := fin8 a
      obtain ⟨B, hB⟩ := fin8 b
      rw [told_s, stwo_at op 0 b, stwo_at op a 0, sone_zero, e, hA, hB, show (0 : Int) % 8 = 0 from rfl, (sT_zero _ (opc_mem op) B).1, (sT_zero _ (opc_mem op) A).2]
      rw [bs, if_pos rfl, if_pos rfl, bs, if_pos rfl, bs, if_pos rfl, bs]
      rfl
    · intro y z i j
      simp only [avermentref08_Two.l1, avermentlaw08_SignTight.l1, shas_eq]
      repeat' (first | exact i1 _ _ _ _ | exact i0 _ _ _ | exact LeR.none _ | refine LeR.ite ?_ ?_ | refine LeR.bind (fun _ => ?_))
theorem tight (op a b : Int) : avermentlaw08_SignTight.f 300 op a b = some true := by
  have h := srtwo_at op a b 300 (by decide)
  unfold avermentref08_Two.f at h
  unfold avermentlaw08_SignTight.f
  rw [stwo_at op a b]
  unfold avermentref08_Nums.f at h ⊢
  rw [bs] at h
  rw [bs, bs]
  exact (tight_l op a b _ rfl 300).1 _ _ _ h
end Go.Proofs.Ytiehdiohoehcpaa.Sgn
