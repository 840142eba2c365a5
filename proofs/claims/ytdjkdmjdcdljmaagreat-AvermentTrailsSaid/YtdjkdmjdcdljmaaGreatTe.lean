/- Own work. No condition. -/
import Derived.Test.YtdjkdmjdcdljmaaGreatTd

namespace Go.Proofs.YtdjkdmjdcdljmaaGreat.AT
open Go.RowKit Go.Proofs.YtdjkdmjdcdljmaaGreatX Go.Proofs.YtdjkdmjdcdljmaaGreat.Sr
set_option linter.unusedVariables false
set_option linter.unusedSimpArgs false
set_option linter.unusedSectionVars false
set_option maxRecDepth 100000
variable {K : Nat}
theorem bit0 (n : Int) : IntKind.i64.wrap ↑(BitVec.ofInt 64 n &&& BitVec.ofInt 64 1).toNat = n % 2 := by
  have h : (BitVec.ofInt 64 n &&& BitVec.ofInt 64 1).toNat = (n % 2).toNat := by
    rw [BitVec.toNat_and]
    have h1 : (BitVec.ofInt 64 1).toNat = 1 := by decide
    rw [h1, Nat.and_one_is_mod]
    show (BitVec.ofInt 64 n).toNat % 2 = _
    rw [BitVec.toNat_ofInt]
    omega
  rw [h]
  have e : ∀ m : Nat, m < 2 → IntKind.i64.wrap (m : Int) = m := by decide +kernel
  rw [e _ (by omega)]
  omega
def po (n : Int) : Nat := if n % 2 = 0 then 1 else 2
def so (n : Int) : Nat := if n < 0 then 1 else if n = 0 then 2 else 4
theorem po_lt (n : Int) : po n < 4 := by unfold po; split <;> omega
theorem so_lt (n : Int) : so n < 8 := by unfold so; split <;> (try split) <;> omega
theorem parity_Of_val (n : Int) : parity_Of.f K n = some (sg (po n)) := by
  unfold parity_Of.f po
  rw [bit0]
  have h0 : decide (n % 2 < 0) = false := by simp; omega
  rw [h0]
  by_cases h : n % 2 = 0
  · rw [h, if_pos rfl]; decide +kernel
  · rw [if_neg h, show n % 2 = 1 by omega]; decide +kernel
theorem sign_Of_val (n : Int) : sign_Of.f K n = some (sg (so n)) := by
  unfold sign_Of.f so
  by_cases h : n < 0
  · simp [h]; rfl
  · by_cases h0 : n = 0
    · subst h0; rfl
    · have h' : (n == 0) = false := beq_eq_false_iff_ne.2 h0
      simp [h, h0, h']; rfl
def Of (n : Int) : VV := ⟨so n, true, n, n, n, po n⟩
theorem Of_val (n : Int) : fact_Of.f K n = some (sg (so n), true, sg (po n)) := by
  unfold fact_Of.f
  rw [sign_Of_val, some_bind, show known_Of.f K = some true from rfl, some_bind, show span_Of.f K = some () from rfl, some_bind, parity_Of_val, some_bind]
theorem rsa_val : ∀ i : Fin 8, ∀ j : Fin 8, IntKind.i64.wrap ↑(BitVec.ofInt 64 (sg i.val) &&& BitVec.ofInt 64 (sg j.val)).toNat = sg (i.val &&& j.val) := by decide +kernel
def Has (x : VV) (n : Int) : Bool := decide (x.s &&& so n ≠ 0) && (decide (x.kb = true → x.kn = n) && ((decide (x.lo ≤ n) && decide (n ≤ x.hi)) && decide (x.p &&& po n ≠ 0)))
theorem sne {i : Nat} : (sg i != 0) = decide (i ≠ 0) := by
  have := sg_inj (i := i) (j := 0)
  rw [show sg 0 = (0 : Int) from rfl] at this
  rw [bne, this]; simp
theorem kHas_val (b : Bool) (k n : Int) : known_Has.f K b k n = some (decide (b = true → k = n)) := by
  unfold known_Has.f
  cases b
  · rfl
  · by_cases h : k = n
    · subst h; simp [bindC_def]
    · simp [bindC_def, h]
theorem Has_val {x : VV} (hx : Wk x) (n : Int) : fact_Has.f K x.t.1 x.t.2.1 x.t.2.2.1 x.t.2.2.2.1 x.t.2.2.2.2.1 x.t.2.2.2.2.2 n = some (Has x n) := by
  simp only [VV.t]
  unfold fact_Has.f sign_Has.f span_Has.f parity_Has.f Has
  rw [sign_Of_val, parity_Of_val]
  simp only [some_bind]
  rw [rsa_val ⟨_, hx.s⟩ ⟨_, so_lt n⟩, rsa_val ⟨_, p8 hx.p⟩ ⟨_, p8 (po_lt n)⟩, sne, sne, kHas_val]
  simp only [some_bind, bindC_def]
  cases decide (x.s &&& so n ≠ 0) <;> cases decide (x.kb = true → x.kn = n) <;> cases decide (x.lo ≤ n) <;> cases decide (n ≤ x.hi) <;> cases decide (x.p &&& po n ≠ 0) <;> rfl

theorem so_cases (n : Int) : (n < 0 ∧ so n = 1) ∨ (n = 0 ∧ so n = 2) ∨ (0 < n ∧ so n = 4) := by
  unfold so
  by_cases h : n < 0
  · rw [if_pos h]; exact .inl ⟨h, rfl⟩
  · rw [if_neg h]
    by_cases g : n = 0
    · rw [if_pos g]; exact .inr (.inl ⟨g, rfl⟩)
    · rw [if_neg g]; exact .inr (.inr ⟨by omega, rfl⟩)
theorem po_cases (n : Int) : (n % 2 = 0 ∧ po n = 1) ∨ (n % 2 = 1 ∧ po n = 2) := by
  unfold po
  by_cases h : n % 2 = 0
  · rw [if_pos h]; exact .inl ⟨h, rfl⟩
  · rw [if_neg h]; exact .inr ⟨by omega, rfl⟩
def sIn (op x y n : Int) : Prop := so n &&& s2 op (so x) (so y) = so n
def pIn (op x y n : Int) : Prop := po n &&& p2 op (po x) (po y) = po n
theorem add_s {x y : Int} (hx : fit64 x) (hy : fit64 y) : sIn 4 x y (wrap64 (x + y)) := by
  unfold fit64 at *
  unfold sIn
  rcases so_cases x with ⟨hx, e⟩ | ⟨hx, e⟩ | ⟨hx, e⟩ <;> rcases so_cases y with ⟨hy, f⟩ | ⟨hy, f⟩ | ⟨hy, f⟩ <;> rcases so_cases (wrap64 (x + y)) with ⟨hn, g⟩ | ⟨hn, g⟩ | ⟨hn, g⟩ <;> rw [e, f, g] <;>
    first | decide +kernel | (exfalso; unfold wrap64 at hn; omega)
theorem sub_s {x y : Int} (hx : fit64 x) (hy : fit64 y) : sIn 5 x y (wrap64 (x - y)) := by
  unfold fit64 at *
  unfold sIn
  rcases so_cases x with ⟨hx, e⟩ | ⟨hx, e⟩ | ⟨hx, e⟩ <;> rcases so_cases y with ⟨hy, f⟩ | ⟨hy, f⟩ | ⟨hy, f⟩ <;> rcases so_cases (wrap64 (x - y)) with ⟨hn, g⟩ | ⟨hn, g⟩ | ⟨hn, g⟩ <;> rw [e, f, g] <;>
    first | decide +kernel | (exfalso; unfold wrap64 at hn; omega)
theorem mul_s (x y : Int) : sIn 6 x y (wrap64 (x * y)) := by
  have z : x = 0 ∨ y = 0 → wrap64 (x * y) = 0 := by rintro (h | h) <;> rw [h] <;> simp [wrap64]
  unfold sIn
  rcases so_cases x with ⟨hx, e⟩ | ⟨hx, e⟩ | ⟨hx, e⟩ <;> rcases so_cases y with ⟨hy, f⟩ | ⟨hy, f⟩ | ⟨hy, f⟩ <;> rcases so_cases (wrap64 (x * y)) with ⟨hn, g⟩ | ⟨hn, g⟩ | ⟨hn, g⟩ <;> rw [e, f, g] <;>
    first | decide +kernel | (exfalso; have := z (by omega); omega)
theorem tdiv_bd (x y : Int) : (0 ≤ x → 0 ≤ y → 0 ≤ Int.tdiv x y) ∧ (x ≤ 0 → y ≤ 0 → 0 ≤ Int.tdiv x y) ∧ (0 ≤ x → y ≤ 0 → Int.tdiv x y ≤ 0) ∧ (x ≤ 0 → 0 ≤ y → Int.tdiv x y ≤ 0) := by
  refine ⟨fun a b => Int.tdiv_nonneg a b, fun a b => ?_, fun a b => ?_, fun a b => ?_⟩
  · have := Int.tdiv_nonneg (a := -x) (b := -y) (by omega) (by omega)
    rw [Int.neg_tdiv_neg] at this; exact this
  · have := Int.tdiv_nonneg (a := x) (b := -y) a (by omega)
    rw [Int.tdiv_neg] at this; omega
  · have := Int.tdiv_nonneg (a := -x) (b := y) (by omega) b
    rw [Int.neg_tdiv] at this; omega
theorem div_s {x y : Int} (hx : fit64 x) (y0 : y ≠ 0) : sIn 7 x y (wrap64 (Int.tdiv x y)) := by
  have b := tdiv_bd x y
  have z : x = 0 → Int.tdiv x y = 0 := fun h => by rw [h]; exact Int.zero_tdiv y
  unfold sIn
  by_cases m : x = -9223372036854775808 ∧ y = -1
  · rw [m.1, m.2]; decide +kernel
  · rw [wr (tdiv_fits hx m)]
    rcases so_cases x with ⟨hx, e⟩ | ⟨hx, e⟩ | ⟨hx, e⟩ <;> rcases so_cases y with ⟨hy, f⟩ | ⟨hy, f⟩ | ⟨hy, f⟩ <;> rcases so_cases (Int.tdiv x y) with ⟨hn, g⟩ | ⟨hn, g⟩ | ⟨hn, g⟩ <;> rw [e, f, g] <;>
      first | decide +kernel | (exfalso; omega)
theorem rem_s {x y : Int} (y0 : y ≠ 0) : sIn 8 x y (Int.tmod x y) := by
  have b1 : 0 ≤ x → 0 ≤ Int.tmod x y := fun h => Int.tmod_nonneg y h
  have b2 : x ≤ 0 → Int.tmod x y ≤ 0 := fun h => by
    have := Int.tmod_nonneg (a := -x) y (by omega)
    rw [Int.neg_tmod] at this; omega
  unfold sIn
  rcases so_cases x with ⟨hx, e⟩ | ⟨hx, e⟩ | ⟨hx, e⟩ <;> rcases so_cases y with ⟨hy, f⟩ | ⟨hy, f⟩ | ⟨hy, f⟩ <;> rcases so_cases (Int.tmod x y) with ⟨hn, g⟩ | ⟨hn, g⟩ | ⟨hn, g⟩ <;> rw [e, f, g] <;>
    first | decide +kernel | (exfalso; omega)
theorem and_s {x y : Int} (hx : fit64 x) (hy : fit64 y) : sIn 9 x y (an x y) := by
  have b := and_neg hx.1 hx.2 hy.1 hy.2
  have z1 : x = 0 → an x y = 0 := fun h => by rw [h]; exact and_zero_l y
  have z2 : y = 0 → an x y = 0 := fun h => by rw [h]; exact and_zero_r x
  unfold sIn
  generalize an x y = n at b z1 z2 ⊢
  rcases so_cases x with ⟨hx, e⟩ | ⟨hx, e⟩ | ⟨hx, e⟩ <;> rcases so_cases y with ⟨hy, f⟩ | ⟨hy, f⟩ | ⟨hy, f⟩ <;> rcases so_cases n with ⟨hn, g⟩ | ⟨hn, g⟩ | ⟨hn, g⟩ <;> rw [e, f, g] <;>
    first | decide +kernel | (exfalso; omega)
theorem xor_s {x y : Int} (hx : fit64 x) (hy : fit64 y) : sIn 10 x y (xo x y) := by
  have b := xor_neg hx.1 hx.2 hy.1 hy.2
  have z1 : x = 0 → xo x y = y := fun h => by rw [h]; exact xor_zero_l hy.1 hy.2
  have z2 : y = 0 → xo x y = x := fun h => by rw [h]; exact xor_zero_r hx.1 hx.2
  unfold sIn
  generalize xo x y = n at b z1 z2 ⊢
  rcases so_cases x with ⟨hx, e⟩ | ⟨hx, e⟩ | ⟨hx, e⟩ <;> rcases so_cases y with ⟨hy, f⟩ | ⟨hy, f⟩ | ⟨hy, f⟩ <;> rcases so_cases n with ⟨hn, g⟩ | ⟨hn, g⟩ | ⟨hn, g⟩ <;> rw [e, f, g] <;>
    first | decide +kernel | (exfalso; omega)
theorem less_s (x y : Int) : sIn 11 x y (if x < y then 1 else 0) := by
  unfold sIn
  rcases so_cases x with ⟨hx, e⟩ | ⟨hx, e⟩ | ⟨hx, e⟩ <;> rcases so_cases y with ⟨hy, f⟩ | ⟨hy, f⟩ | ⟨hy, f⟩ <;> by_cases c : x < y <;> simp only [c, if_true, if_false] <;> rw [e, f] <;>
    first | decide +kernel | (exfalso; omega)
theorem same_s (x y : Int) : sIn 12 x y (if x = y then 1 else 0) := by
  unfold sIn
  by_cases c : x = y
  · subst c
    rw [if_pos rfl]
    rcases so_cases x with ⟨hx, e⟩ | ⟨hx, e⟩ | ⟨hx, e⟩ <;> rw [e] <;> decide +kernel
  · rw [if_neg c]
    rcases so_cases x with ⟨hx, e⟩ | ⟨hx, e⟩ | ⟨hx, e⟩ <;> rcases so_cases y with ⟨hy, f⟩ | ⟨hy, f⟩ | ⟨hy, f⟩ <;> rw [e, f] <;>
      first | decide +kernel | (exfalso; omega)
theorem pIn_of {op x y n : Int} (h : (x % 2 = 0 ∧ y % 2 = 0 → po n &&& p2 op 1 1 = po n) ∧ (x % 2 = 0 ∧ y % 2 = 1 → po n &&& p2 op 1 2 = po n) ∧ (x % 2 = 1 ∧ y % 2 = 0 → po n &&& p2 op 2 1 = po n) ∧ (x % 2 = 1 ∧ y % 2 = 1 → po n &&& p2 op 2 2 = po n)) : pIn op x y n := by
  unfold pIn
  rcases po_cases x with ⟨hx, e⟩ | ⟨hx, e⟩ <;> rcases po_cases y with ⟨hy, f⟩ | ⟨hy, f⟩ <;> rw [e, f]
  · exact h.1 ⟨hx, hy⟩
  · exact h.2.1 ⟨hx, hy⟩
  · exact h.2.2.1 ⟨hx, hy⟩
  · exact h.2.2.2 ⟨hx, hy⟩
theorem evn {n : Int} (h : n % 2 = 0) : po n = 1 := by unfold po; rw [if_pos h]
theorem odd {n : Int} (h : n % 2 = 1) : po n = 2 := by unfold po; rw [if_neg (by omega)]
theorem both3 (n : Int) : po n &&& 3 = po n := by
  rcases po_cases n with ⟨_, e⟩ | ⟨_, e⟩ <;> rw [e] <;> rfl
theorem add_p (x y : Int) : pIn 4 x y (wrap64 (x + y)) := by
  refine pIn_of ⟨fun h => ?_, fun h => ?_, fun h => ?_, fun h => ?_⟩
  · rw [evn (by unfold wrap64; omega)]; decide +kernel
  · rw [odd (by unfold wrap64; omega)]; decide +kernel
  · rw [odd (by unfold wrap64; omega)]; decide +kernel
  · rw [evn (by unfold wrap64; omega)]; decide +kernel
theorem sub_p (x y : Int) : pIn 5 x y (wrap64 (x - y)) := by
  refine pIn_of ⟨fun h => ?_, fun h => ?_, fun h => ?_, fun h => ?_⟩
  · rw [evn (by unfold wrap64; omega)]; decide +kernel
  · rw [odd (by unfold wrap64; omega)]; decide +kernel
  · rw [odd (by unfold wrap64; omega)]; decide +kernel
  · rw [evn (by unfold wrap64; omega)]; decide +kernel
theorem mul_p (x y : Int) : pIn 6 x y (wrap64 (x * y)) := by
  have w : wrap64 (x * y) % 2 = (x * y) % 2 := by unfold wrap64; omega
  have m := Int.mul_emod x y 2
  refine pIn_of ⟨fun h => ?_, fun h => ?_, fun h => ?_, fun h => ?_⟩ <;> rw [h.1, h.2] at m
  · rw [evn (by rw [w, m]; rfl)]; decide +kernel
  · rw [evn (by rw [w, m]; rfl)]; decide +kernel
  · rw [evn (by rw [w, m]; rfl)]; decide +kernel
  · rw [odd (by rw [w, m]; rfl)]; decide +kernel
theorem div_p (x y n : Int) : pIn 7 x y n := pIn_of ⟨fun _ => both3 n, fun _ => both3 n, fun _ => both3 n, fun _ => both3 n⟩
theorem less_p (x y n : Int) : pIn 11 x y n := pIn_of ⟨fun _ => both3 n, fun _ => both3 n, fun _ => both3 n, fun _ => both3 n⟩
theorem rem_p (x y : Int) : pIn 8 x y (Int.tmod x y) := by
  have e := Int.mul_tdiv_add_tmod x y
  have m := Int.mul_emod y (x.tdiv y) 2
  refine pIn_of ⟨fun h => ?_, fun _ => both3 _, fun h => ?_, fun _ => both3 _⟩
  · rw [h.2, Int.zero_mul] at m
    rw [evn (by generalize y * x.tdiv y = q at *; have : (0 : Int) % 2 = 0 := rfl; omega)]; decide +kernel
  · rw [h.2, Int.zero_mul] at m
    rw [odd (by generalize y * x.tdiv y = q at *; have : (0 : Int) % 2 = 0 := rfl; omega)]; decide +kernel
theorem nat_par {x : Int} (h : fit64 x) : ((BitVec.ofInt 64 x).toNat : Int) % 2 = x % 2 := by
  have := toNat_of h
  split at this <;> omega
theorem int_par (v : BitVec 64) : v.toInt % 2 = (v.toNat : Int) % 2 := by
  have t := BitVec.toInt_eq_toNat_cond v
  split at t <;> omega
theorem and_par {x y : Int} (hx : fit64 x) (hy : fit64 y) : an x y % 2 = (((x % 2).toNat &&& (y % 2).toNat : Nat) : Int) := by
  have a := nat_par hx; have b := nat_par hy
  rw [and_toInt, int_par, BitVec.toNat_and]
  have m := Nat.and_mod_two_pow (a := (BitVec.ofInt 64 x).toNat) (b := (BitVec.ofInt 64 y).toNat) (n := 1)
  have e1 : (BitVec.ofInt 64 x).toNat % 2 ^ 1 = (x % 2).toNat := by omega
  have e2 : (BitVec.ofInt 64 y).toNat % 2 ^ 1 = (y % 2).toNat := by omega
  rw [e1, e2] at m
  rw [← m]
  omega
theorem xor_par {x y : Int} (hx : fit64 x) (hy : fit64 y) : xo x y % 2 = (((x % 2).toNat ^^^ (y % 2).toNat : Nat) : Int) := by
  have a := nat_par hx; have b := nat_par hy
  rw [xor_toInt, int_par, BitVec.toNat_xor]
  have m := Nat.xor_mod_two_pow (a := (BitVec.ofInt 64 x).toNat) (b := (BitVec.ofInt 64 y).toNat) (n := 1)
  have e1 : (BitVec.ofInt 64 x).toNat % 2 ^ 1 = (x % 2).toNat := by omega
  have e2 : (BitVec.ofInt 64 y).toNat % 2 ^ 1 = (y % 2).toNat := by omega
  rw [e1, e2] at m
  rw [← m]
  omega
theorem and_p {x y : Int} (hx : fit64 x) (hy : fit64 y) : pIn 9 x y (an x y) := by
  have p := and_par hx hy
  refine pIn_of ⟨fun h => ?_, fun h => ?_, fun h => ?_, fun h => ?_⟩ <;> rw [h.1, h.2] at p
  · rw [evn p]; decide +kernel
  · rw [evn p]; decide +kernel
  · rw [evn p]; decide +kernel
  · rw [odd p]; decide +kernel
theorem xor_p {x y : Int} (hx : fit64 x) (hy : fit64 y) : pIn 10 x y (xo x y) := by
  have p := xor_par hx hy
  refine pIn_of ⟨fun h => ?_, fun h => ?_, fun h => ?_, fun h => ?_⟩ <;> rw [h.1, h.2] at p
  · rw [evn p]; decide +kernel
  · rw [odd p]; decide +kernel
  · rw [odd p]; decide +kernel
  · rw [evn p]; decide +kernel
theorem same_p (x y : Int) : pIn 12 x y (if x = y then 1 else 0) := by
  refine pIn_of ⟨fun _ => both3 _, fun h => ?_, fun h => ?_, fun _ => both3 _⟩
  · rw [if_neg (by omega)]; decide +kernel
  · rw [if_neg (by omega)]; decide +kernel
theorem ar_cases {op x y n : Int} (h : vm_Arith.f K op x y = some (n, true)) :
    (op = 4 ∧ n = wrap64 (x + y)) ∨ (op = 5 ∧ n = wrap64 (x - y)) ∨ (op = 6 ∧ n = wrap64 (x * y)) ∨ (op = 7 ∧ y ≠ 0 ∧ n = wrap64 (x.tdiv y)) ∨ (op = 8 ∧ y ≠ 0 ∧ n = x.tmod y) ∨ (op = 9 ∧ n = an x y) ∨ (op = 10 ∧ n = xo x y) ∨ (op = 11 ∧ n = if x < y then 1 else 0) ∨ (op = 12 ∧ n = if x = y then 1 else 0) := by
  unfold vm_Arith.f at h
  simp only [flag_val, some_bind] at h
  by_cases h4 : op = 4
  · rw [beq_iff_eq.mpr h4, cond_true] at h; cases h; exact .inl ⟨h4, w64 _⟩
  rw [beq_eq_false_iff_ne.mpr h4, cond_false] at h
  by_cases h5 : op = 5
  · rw [beq_iff_eq.mpr h5, cond_true] at h; cases h; exact .inr (.inl ⟨h5, w64 _⟩)
  rw [beq_eq_false_iff_ne.mpr h5, cond_false] at h
  by_cases h6 : op = 6
  · rw [beq_iff_eq.mpr h6, cond_true] at h; cases h; exact .inr (.inr (.inl ⟨h6, w64 _⟩))
  rw [beq_eq_false_iff_ne.mpr h6, cond_false] at h
  by_cases h9 : op = 9
  · rw [beq_iff_eq.mpr h9, cond_true] at h; cases h; exact .inr (.inr (.inr (.inr (.inr (.inl ⟨h9, rfl⟩)))))
  rw [beq_eq_false_iff_ne.mpr h9, cond_false] at h
  by_cases h10 : op = 10
  · rw [beq_iff_eq.mpr h10, cond_true] at h; cases h; exact .inr (.inr (.inr (.inr (.inr (.inr (.inl ⟨h10, rfl⟩))))))
  rw [beq_eq_false_iff_ne.mpr h10, cond_false] at h
  by_cases h11 : op = 11
  · rw [beq_iff_eq.mpr h11, cond_true] at h
    refine .inr (.inr (.inr (.inr (.inr (.inr (.inr (.inl ⟨h11, ?_⟩)))))))
    by_cases c : x < y
    · rw [decide_eq_true c] at h; cases h; rw [if_pos c]; rfl
    · rw [decide_eq_false c] at h; cases h; rw [if_neg c]; rfl
  rw [beq_eq_false_iff_ne.mpr h11, cond_false] at h
  by_cases h12 : op = 12
  · rw [beq_iff_eq.mpr h12, cond_true] at h
    refine .inr (.inr (.inr (.inr (.inr (.inr (.inr (.inr ⟨h12, ?_⟩)))))))
    by_cases c : x = y
    · rw [beq_iff_eq.mpr c] at h; cases h; rw [if_pos c]; rfl
    · rw [beq_eq_false_iff_ne.mpr c] at h; cases h; rw [if_neg c]; rfl
  rw [beq_eq_false_iff_ne.mpr h12, cond_false] at h
  by_cases h7 : op = 7
  · rw [beq_iff_eq.mpr h7, cond_true] at h
    by_cases y0 : y = 0
    · rw [beq_iff_eq.mpr y0, cond_true] at h; cases h
    rw [beq_eq_false_iff_ne.mpr y0, cond_false, cond_true, cond_false] at h
    cases h
    exact .inr (.inr (.inr (.inl ⟨h7, y0, w64 _⟩)))
  rw [beq_eq_false_iff_ne.mpr h7, cond_false] at h
  by_cases h8 : op = 8
  · rw [beq_iff_eq.mpr h8, cond_true] at h
    by_cases y0 : y = 0
    · rw [beq_iff_eq.mpr y0, cond_true] at h; cases h
    rw [beq_eq_false_iff_ne.mpr y0, cond_false, cond_false, cond_false] at h
    cases h
    exact .inr (.inr (.inr (.inr (.inl ⟨h8, y0, rfl⟩))))
  rw [beq_eq_false_iff_ne.mpr h8, cond_false] at h
  cases h
theorem vm_same {op x y n : Int} (h : vm_Arith.f K op x y = some (n, true)) : kA op x y = n := by
  unfold kA
  rw [show vm_Arith.f 0 op x y = some (n, true) from h]
  rfl
structure Hs (x : VV) (n : Int) : Prop where
  s : so n &&& x.s = so n
  k : x.kb = true → x.kn = n
  lo : x.lo ≤ n
  hi : n ≤ x.hi
  p : po n &&& x.p = po n
theorem so_ne (n : Int) : so n ≠ 0 := by rcases so_cases n with ⟨_, e⟩ | ⟨_, e⟩ | ⟨_, e⟩ <;> rw [e] <;> decide
theorem po_ne (n : Int) : po n ≠ 0 := by rcases po_cases n with ⟨_, e⟩ | ⟨_, e⟩ <;> rw [e] <;> decide
theorem Has_of {x : VV} {n : Int} (h : Hs x n) : Has x n = true := by
  unfold Has
  rw [decide_eq_true (show x.s &&& so n ≠ 0 from by rw [Nat.and_comm, h.s]; exact so_ne n), decide_eq_true h.k, decide_eq_true h.lo, decide_eq_true h.hi, decide_eq_true (show x.p &&& po n ≠ 0 from by rw [Nat.and_comm, h.p]; exact po_ne n)]
  rfl
theorem wh_has {s : Nat} {k : Bool × Int × Bool} {l : Int × Int × Bool} {p : Nat} {n : Int} (hs : so n &&& s = so n) (hk : k.2.2 = true ∧ (k.1 = true → k.2.1 = n)) (hl : within l n) (hp : po n &&& p = po n) : (wh s k l p).2 = true ∧ Hs (wh s k l p).1 n := by
  have g : (wh s k l p).2 = true := wh_iff.2 ⟨fun e => so_ne n (by rw [← hs, e, Nat.and_zero]), hk.1, hl.1, fun e => po_ne n (by rw [← hp, e, Nat.and_zero])⟩
  refine ⟨g, ?_⟩
  rw [wh_of g]
  exact ⟨hs, hk.2, hl.2.1, hl.2.2, hp⟩
theorem two_sound {op x y n : Int} {X Y : VV} (hx : fit64 x) (hy : fit64 y) (wX : Wk X) (wY : Wk Y) (fX : Fit X) (hX : Hs X x) (hY : Hs Y y) (h : vm_Arith.f K op x y = some (n, true)) : (two op X Y).2 = true ∧ Hs (two op X Y).1 n := by
  have c := ar_cases h
  have S : sIn op x y n := by
    rcases c with ⟨rfl, e⟩ | ⟨rfl, e⟩ | ⟨rfl, e⟩ | ⟨rfl, y0, e⟩ | ⟨rfl, y0, e⟩ | ⟨rfl, e⟩ | ⟨rfl, e⟩ | ⟨rfl, e⟩ | ⟨rfl, e⟩ <;> rw [e]
    · exact add_s hx hy
    · exact sub_s hx hy
    · exact mul_s x y
    · exact div_s hx y0
    · exact rem_s y0
    · exact and_s hx hy
    · exact xor_s hx hy
    · exact less_s x y
    · exact same_s x y
  have P : pIn op x y n := by
    rcases c with ⟨rfl, e⟩ | ⟨rfl, e⟩ | ⟨rfl, e⟩ | ⟨rfl, y0, e⟩ | ⟨rfl, y0, e⟩ | ⟨rfl, e⟩ | ⟨rfl, e⟩ | ⟨rfl, e⟩ | ⟨rfl, e⟩ <;> rw [e]
    · exact add_p x y
    · exact sub_p x y
    · exact mul_p x y
    · exact div_p x y _
    · exact rem_p x y
    · exact and_p hx hy
    · exact xor_p hx hy
    · exact less_p x y _
    · exact same_p x y
  have L : within (twoV op X.lo X.hi Y.lo Y.hi) n := by
    unfold twoV
    rcases c with ⟨rfl, e⟩ | ⟨rfl, e⟩ | ⟨rfl, e⟩ | ⟨rfl, y0, e⟩ | ⟨rfl, y0, e⟩ | ⟨rfl, e⟩ | ⟨rfl, e⟩ | ⟨rfl, e⟩ | ⟨rfl, e⟩ <;> rw [e] <;> simp only [Int.reduceEq, if_true, if_false]
    · exact sound4 hX.lo hX.hi hY.lo hY.hi
    · exact sound5 hX.lo hX.hi hY.lo hY.hi
    · exact sound6 hX.lo hX.hi hY.lo hY.hi
    · exact sound7 hx hX.lo hX.hi hY.lo hY.hi y0 fX.lo
    · exact sound8 hX.lo hX.hi hY.lo hY.hi y0
    · obtain ⟨a, b⟩ := sound9 hx hy hX.lo hX.hi hY.lo hY.hi; exact ⟨rfl, a, b⟩
    · obtain ⟨a, b⟩ := sound10 hx hy hX.lo hX.hi hY.lo hY.hi; exact ⟨rfl, a, b⟩
    · have := hX.lo; have := hX.hi; have := hY.lo; have := hY.hi
      unfold within
      repeat' split
      all_goals first | (exfalso; omega) | (refine ⟨rfl, ?_, ?_⟩ <;> decide)
    · have := hX.lo; have := hX.hi; have := hY.lo; have := hY.hi
      unfold within
      repeat' split
      all_goals first | (exfalso; omega) | (refine ⟨rfl, ?_, ?_⟩ <;> decide)
  refine wh_has (in_trans S (s2_up (so_lt x) (so_lt y) wX.s wY.s hX.s hY.s)) ?_ L (in_trans P (p2_up (po_lt x) (po_lt y) wX.p wY.p hX.p hY.p))
  unfold k2
  have nn : ¬ (op < 4 ∨ 12 < op ∨ ((op = 7 ∨ op = 8) ∧ Y.kb = true ∧ Y.kn = 0)) := by
    rintro (e | e | ⟨e1, e2, e3⟩)
    · omega
    · omega
    · have := hY.k e2
      omega
  rw [if_neg nn]
  by_cases t : X.kb = true ∧ Y.kb = true
  · rw [if_pos t, hX.k t.1, hY.k t.2]
    exact ⟨rfl, fun _ => vm_same h⟩
  · rw [if_neg t]
    exact ⟨rfl, fun e => by cases e⟩
theorem neg_sound {x : Int} {X : VV} (hx : fit64 x) (wX : Wk X) (fX : Fit X) (hX : Hs X x) : (one 3 X).2 = true ∧ Hs (one 3 X).1 (IntKind.i64.wrap (0 - x)) := by
  rw [w64, Int.zero_sub]
  have l1 := hX.lo; have l2 := hX.hi
  have S : so (wrap64 (-x)) &&& s1 3 (so x) = so (wrap64 (-x)) := by
    unfold fit64 at hx
    rcases so_cases x with ⟨hx, e⟩ | ⟨hx, e⟩ | ⟨hx, e⟩ <;> rcases so_cases (wrap64 (-x)) with ⟨hn, g⟩ | ⟨hn, g⟩ | ⟨hn, g⟩ <;> rw [e, g] <;>
      first | decide +kernel | (exfalso; unfold wrap64 at hn; omega)
  have P : po (wrap64 (-x)) = po x := by
    have : wrap64 (-x) % 2 = 0 ↔ x % 2 = 0 := by unfold wrap64; omega
    unfold po
    by_cases c : x % 2 = 0
    · rw [if_pos c, if_pos (this.2 c)]
    · rw [if_neg c, if_neg (fun d => c (this.1 d))]
  refine wh_has (in_trans S (s1_up 3 (so_lt x) wX.s hX.s)) ?_ ?_ (by rw [P]; exact hX.p)
  · unfold k1
    rw [if_pos rfl]
    by_cases b : X.kb = true
    · rw [if_pos b, hX.k b, w64, Int.zero_sub]; exact ⟨rfl, fun _ => rfl⟩
    · rw [if_neg b]; exact ⟨rfl, fun e => by cases e⟩
  · unfold oneV within
    have w := wr_fits (-x)
    rw [if_neg (by decide), if_pos rfl]
    by_cases m : X.lo = -9223372036854775808
    · rw [if_pos m]
      by_cases q : X.hi = -9223372036854775808
      · rw [if_pos q]
        have : x = -9223372036854775808 := by omega
        rw [this, m, q]
        refine ⟨rfl, ?_, ?_⟩ <;> decide +kernel
      · rw [if_neg q]; exact ⟨rfl, w.1, w.2⟩
    · rw [if_neg m]
      have f := fX.lo
      rw [wr (x := -x) (by unfold fit64 at *; omega)]
      exact ⟨rfl, by simp only []; omega, by simp only []; omega⟩
theorem move_sound {x : Int} {X : VV} (wX : Wk X) (hX : Hs X x) : (one 2 X).2 = true ∧ Hs (one 2 X).1 x := by
  refine wh_has hX.s ?_ ⟨rfl, hX.lo, hX.hi⟩ hX.p
  unfold k1
  rw [if_neg (by decide), if_pos rfl]
  by_cases b : X.kb = true
  · rw [if_pos b]; exact ⟨rfl, fun _ => hX.k b⟩
  · rw [if_neg b]; exact ⟨rfl, fun e => by cases e⟩
theorem branch_sound {x : Int} {X : VV} (wX : Wk X) (hX : Hs X x) : (branch X (x != 0)).2 = true ∧ Hs (branch X (x != 0)).1 x := by
  have l1 := hX.lo; have l2 := hX.hi
  by_cases z : x = 0
  · subst z
    have e : ((0 : Int) != 0) = false := rfl
    rw [e]
    refine wh_has ?_ ?_ ?_ ?_
    · exact in_trans (show so 0 &&& (so 0 &&& 2) = so 0 by decide) (sb_up (so_lt 0) wX.s false hX.s)
    · unfold kbr
      rw [if_neg Bool.false_ne_true, if_neg (fun h => h.2 (hX.k h.1))]
      exact ⟨rfl, fun _ => rfl⟩
    · unfold branchV within
      rw [if_neg Bool.false_ne_true, decide_eq_true l1, decide_eq_true l2]
      exact ⟨rfl, Int.le_refl _, Int.le_refl _⟩
    · exact in_trans (show po 0 &&& (po 0 &&& 1) = po 0 by decide) (pb_up (po_lt 0) wX.p false hX.p)
  · have e : (x != 0) = true := bne_iff_ne.2 z
    rw [e]
    refine wh_has ?_ ?_ ?_ hX.p
    · have : so x &&& (so x &&& 5) = so x := by
        rcases so_cases x with ⟨hx, e⟩ | ⟨hx, e⟩ | ⟨hx, e⟩
        · rw [e]; rfl
        · exact absurd hx z
        · rw [e]; rfl
      exact in_trans this (sb_up (so_lt x) wX.s true hX.s)
    · unfold kbr
      rw [if_pos rfl]
      by_cases b : X.kb = true
      · have := hX.k b
        rw [if_pos b, if_neg (by omega)]; exact ⟨rfl, fun _ => this⟩
      · rw [if_neg b]; exact ⟨rfl, fun e => by cases e⟩
    · unfold branchV within
      rw [if_pos rfl]
      repeat' split
      all_goals first | (exfalso; omega) | (refine ⟨rfl, ?_, ?_⟩ <;> simp only [] <;> omega)
end Go.Proofs.YtdjkdmjdcdljmaaGreat.AT
