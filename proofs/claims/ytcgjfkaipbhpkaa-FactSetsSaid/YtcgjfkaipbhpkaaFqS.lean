/- Sets of Values: the program tells what the document tells: the plain law. No condition. -/
import Derived.Test.YtcgjfkaipbhpkaaFqA

namespace Go.Proofs.Ytcgjfkaipbhpkaa.FS
open Go.Proofs.YtcgjfkaipbhpkaaX
set_option linter.unusedVariables false
set_option linter.unusedSimpArgs false
theorem told_val : avermentlaw12_told.f = some true := by decide +kernel

/-! ### The document's -/
theorem rso_val : ∀ i : Fin 8, ∀ j : Fin 8, IntKind.i64.wrap ↑(BitVec.ofInt IntKind.i64.bits (sg i.val) ||| BitVec.ofInt IntKind.i64.bits (sg j.val)).toNat = sg (i.val ||| j.val) := by decide +kernel
theorem rsa_val : ∀ i : Fin 8, ∀ j : Fin 8, IntKind.i64.wrap ↑(BitVec.ofInt IntKind.i64.bits (sg i.val) &&& BitVec.ofInt IntKind.i64.bits (sg j.val)).toNat = sg (i.val &&& j.val) := by decide +kernel
theorem or_and : ∀ a, a < 8 → ∀ b, b < 8 → (a ||| b = b ↔ a &&& b = a) := by decide +kernel
theorem rkj_val (b : Bool) (n : Int) (b' : Bool) (n' : Int) : avermentref09_Join.f b n b' n' = some (kj b n b' n') := by
  unfold avermentref09_Join.f kj
  cases b <;> cases b' <;> simp
  by_cases h : n = n'
  · subst h; simp
  · have h' : (n == n') = false := beq_eq_false_iff_ne.2 h
    simp [h, h']
theorem rkw_val (b : Bool) (n : Int) (b' : Bool) (n' : Int) : avermentref09_Within.f b n b' n' = some (kw b n b' n') := by
  unfold avermentref09_Within.f kw
  cases b <;> cases b' <;> simp
  by_cases h : n = n' <;> simp [h]
theorem rkm_val (b : Bool) (n : Int) (b' : Bool) (n' : Int) : avermentref09_Meet.f b n b' n' = some ((km b n b' n').1, (km b n b' n').2, kok b n b' n') := by
  unfold avermentref09_Meet.f avermentref09_Clean.f km kok
  cases b <;> cases b' <;> simp [some_bind]
  by_cases h : n = n'
  · subst h; simp
  · have h' : (n != n') = true := by simpa using h
    simp [h, h']
theorem rJ_val {x y : V} (hx : Wk x) (hy : Wk y) : avermentref12_Join.f x.t.1 x.t.2.1 x.t.2.2.1 x.t.2.2.2.1 x.t.2.2.2.2.1 x.t.2.2.2.2.2 y.t.1 y.t.2.1 y.t.2.2.1 y.t.2.2.2.1 y.t.2.2.2.2.1 y.t.2.2.2.2.2 = some (J x y).t := by
  simp only [V.t]
  unfold avermentref12_Join.f avermentref10_Join.f
  rw [rkj_val, some_bind, some_bind, rso_val ⟨_, hx.s⟩ ⟨_, hy.s⟩, rso_val ⟨_, p8 hx.p⟩ ⟨_, p8 hy.p⟩]
  rfl
theorem rW_val {x y : V} (hx : Wk x) (hy : Wk y) : avermentref12_Within.f x.t.1 x.t.2.1 x.t.2.2.1 x.t.2.2.2.1 x.t.2.2.2.2.1 x.t.2.2.2.2.2 y.t.1 y.t.2.1 y.t.2.2.1 y.t.2.2.2.1 y.t.2.2.2.2.1 y.t.2.2.2.2.2 = some (W x y) := by
  simp only [V.t]
  unfold avermentref12_Within.f avermentref10_Within.f W
  rw [rkw_val, rso_val ⟨_, hx.s⟩ ⟨_, hy.s⟩, rso_val ⟨_, p8 hx.p⟩ ⟨_, p8 hy.p⟩, sg_inj, sg_inj, decide_eq_decide.2 (or_and _ hx.s _ hy.s), decide_eq_decide.2 (or_and _ (p8 hx.p) _ (p8 hy.p))]
  simp only [some_bind]
  cases decide (x.s &&& y.s = x.s) <;> cases kw x.kb x.kn y.kb y.kn <;> cases decide (x.lo ≥ y.lo) <;> cases decide (x.hi ≤ y.hi) <;> cases decide (x.p &&& y.p = x.p) <;> rfl
theorem rM_val {x y : V} (hx : Wk x) (hy : Wk y) : avermentref12_Meet.f x.t.1 x.t.2.1 x.t.2.2.1 x.t.2.2.2.1 x.t.2.2.2.2.1 x.t.2.2.2.2.2 y.t.1 y.t.2.1 y.t.2.2.1 y.t.2.2.2.1 y.t.2.2.2.2.1 y.t.2.2.2.2.2 =
    some ((M x y).t.1, (M x y).t.2.1, (M x y).t.2.2.1, (M x y).t.2.2.2.1, (M x y).t.2.2.2.2.1, (M x y).t.2.2.2.2.2, N x y) := by
  simp only [V.t]
  unfold avermentref12_Meet.f avermentref10_Meet.f avermentref12_all.f
  rw [rkm_val, some_bind, rsa_val ⟨_, hx.s⟩ ⟨_, hy.s⟩, rsa_val ⟨_, p8 hx.p⟩ ⟨_, p8 hy.p⟩]
  have e0 : (0 : Int) = sg 0 := rfl
  have e1 := sg_inj (i := x.s &&& y.s) (j := 0)
  have e2 := sg_inj (i := x.p &&& y.p) (j := 0)
  rw [← e0] at e1 e2
  have hN : N x y = (!decide (x.s &&& y.s = 0) && (kok x.kb x.kn y.kb y.kn && (decide (mxI x.lo y.lo ≤ mnI x.hi y.hi) && !decide (x.p &&& y.p = 0)))) := by
    unfold N; simp
  have hd : decide ((if y.lo > x.lo then y.lo else x.lo) > (if y.hi < x.hi then y.hi else x.hi)) = !decide (mxI x.lo y.lo ≤ mnI x.hi y.hi) := by
    unfold mxI mnI
    rw [← decide_not, decide_eq_decide]; omega
  simp only [M, hN, hd, e1, e2]
  cases hs : decide (x.s &&& y.s = 0) <;> cases hk : kok x.kb x.kn y.kb y.kn <;> cases hl : decide (mxI x.lo y.lo ≤ mnI x.hi y.hi) <;> cases hp : decide (x.p &&& y.p = 0) <;> simp [some_bind, e1, e2, hs, hp, cut, V.zero, mxI, mnI] <;> rfl
theorem From_val (x : T6) : avermentlaw12_From.f x.1 x.2.1 x.2.2.1 x.2.2.2.1 x.2.2.2.2.1 x.2.2.2.2.2 = some x := rfl

/-! ### One number -/
theorem bit0 (n : Int) : IntKind.i64.wrap ↑(BitVec.ofInt IntKind.i64.bits n &&& BitVec.ofInt IntKind.i64.bits 1).toNat = n % 2 := by
  have h : (BitVec.ofInt IntKind.i64.bits n &&& BitVec.ofInt IntKind.i64.bits 1).toNat = (n % 2).toNat := by
    rw [BitVec.toNat_and]
    have h1 : (BitVec.ofInt IntKind.i64.bits 1).toNat = 1 := by decide
    rw [h1, Nat.and_one_is_mod]
    show (BitVec.ofInt 64 n).toNat % 2 = _
    rw [BitVec.toNat_ofInt]
    omega
  rw [h]
  have e : ∀ m : Nat, m < 2 → IntKind.i64.wrap (m : Int) = m := by decide +kernel
  rw [e _ (by omega)]
  omega
def po (n : Int) : Nat := if n % 2 = 0 then 1 else 2
def so (n : Int) : Nat := if n < 0 then 1 else if n = 0 then 2 else 4
theorem po_lt (n : Int) : po n < 4 := by unfold po; split <;> omega
theorem so_lt (n : Int) : so n < 8 := by unfold so; split <;> (try split) <;> omega
theorem parity_Of_val (n : Int) : parity_Of.f n = some (sg (po n)) := by
  unfold parity_Of.f po
  rw [bit0]
  have h0 : decide (n % 2 < 0) = false := by simp; omega
  rw [h0]
  by_cases h : n % 2 = 0
  · rw [h, if_pos rfl]; decide +kernel
  · rw [if_neg h, show n % 2 = 1 by omega]; decide +kernel
theorem rparity_Of_val (n : Int) : avermentref11_Of.f n = some (sg (po n)) := by
  unfold avermentref11_Of.f po
  have ht : n.tmod 2 = 0 ↔ n % 2 = 0 := Int.dvd_iff_tmod_eq_zero.symm.trans Int.dvd_iff_emod_eq_zero
  by_cases h : n % 2 = 0
  · have e : (n.tmod 2 == 0) = true := by rw [beq_iff_eq]; exact ht.2 h
    rw [e, if_pos h]; rfl
  · have e : (n.tmod 2 == 0) = false := by rw [beq_eq_false_iff_ne]; exact fun k => h (ht.1 k)
    rw [e, if_neg h]; rfl
theorem sign_Of_val (n : Int) : sign_Of.f n = some (sg (so n)) := by
  unfold sign_Of.f so
  by_cases h : n < 0
  · simp [h]; rfl
  · by_cases h0 : n = 0
    · subst h0; rfl
    · have h' : (n == 0) = false := beq_eq_false_iff_ne.2 h0
      simp [h, h0, h']; rfl
theorem rsign_Of_val (n : Int) : avermentref08_Of.f n = some (sg (so n)) := sign_Of_val n
def Of (n : Int) : V := ⟨so n, true, n, n, n, po n⟩
theorem Of_val (n : Int) : fact_Of.f n = some (Of n).t := by
  unfold fact_Of.f
  rw [sign_Of_val, some_bind, show known_Of.f n = some (true, n) from rfl, some_bind, show span_Of.f n = some (n, n) from rfl, some_bind, parity_Of_val, some_bind]
  rfl
theorem rOf_val (n : Int) : avermentref12_Of.f n = some (Of n).t := by
  unfold avermentref12_Of.f
  rw [rsign_Of_val, some_bind, rparity_Of_val, some_bind]
  rfl
def Any : V := ⟨7, false, 0, -9223372036854775808, 9223372036854775807, 3⟩
theorem Any_val : fact_Any.f = some Any.t := by decide +kernel
theorem rAny_val : avermentref12_Any.f = some Any.t := by decide +kernel
def Has (x : V) (n : Int) : Bool := decide (x.s &&& so n ≠ 0) && (decide (x.kb = true → x.kn = n) && ((decide (x.lo ≤ n) && decide (n ≤ x.hi)) && decide (x.p &&& po n ≠ 0)))
theorem sne {i : Nat} : (sg i != 0) = decide (i ≠ 0) := by
  have := sg_inj (i := i) (j := 0)
  rw [show sg 0 = (0 : Int) from rfl] at this
  rw [bne, this]; simp
theorem kHas_val (b : Bool) (k n : Int) : known_Has.f b k n = some (decide (b = true → k = n)) := by
  unfold known_Has.f
  cases b
  · simp
  · by_cases h : k = n <;> simp [h]
theorem Has_val {x : V} (hx : Wk x) (n : Int) : fact_Has.f x.t.1 x.t.2.1 x.t.2.2.1 x.t.2.2.2.1 x.t.2.2.2.2.1 x.t.2.2.2.2.2 n = some (Has x n) := by
  simp only [V.t]
  unfold fact_Has.f sign_Has.f span_Has.f parity_Has.f Has
  rw [sign_Of_val, parity_Of_val]
  simp only [some_bind]
  rw [rsa_val ⟨_, hx.s⟩ ⟨_, so_lt n⟩, rsa_val ⟨_, p8 hx.p⟩ ⟨_, p8 (po_lt n)⟩, sne, sne, kHas_val]
  simp only [some_bind]
  cases decide (x.s &&& so n ≠ 0) <;> cases decide (x.kb = true → x.kn = n) <;> cases decide (x.lo ≤ n) <;> cases decide (n ≤ x.hi) <;> cases decide (x.p &&& po n ≠ 0) <;> rfl
theorem rHas_val {x : V} (hx : Wk x) (n : Int) : avermentref12_Has.f x.t.1 x.t.2.1 x.t.2.2.1 x.t.2.2.2.1 x.t.2.2.2.2.1 x.t.2.2.2.2.2 n = some (Has x n) := by
  simp only [V.t]
  unfold avermentref12_Has.f avermentref08_Has.f avermentref10_Has.f avermentref11_Has.f Has
  rw [rsign_Of_val, rparity_Of_val]
  simp only [some_bind]
  rw [rsa_val ⟨_, hx.s⟩ ⟨_, so_lt n⟩, rsa_val ⟨_, p8 hx.p⟩ ⟨_, p8 (po_lt n)⟩, sne, sne, show avermentref09_Has.f x.kb x.kn n = known_Has.f x.kb x.kn n from rfl, kHas_val]
  simp only [some_bind, ge_iff_le]
  cases decide (x.s &&& so n ≠ 0) <;> cases decide (x.kb = true → x.kn = n) <;> cases decide (x.lo ≤ n) <;> cases decide (n ≤ x.hi) <;> cases decide (x.p &&& po n ≠ 0) <;> rfl
theorem Widen_val {x y : V} (hx : Wk x) (hy : Wk y) : ∃ r, fact_Widen.f x.t.1 x.t.2.1 x.t.2.2.1 x.t.2.2.2.1 x.t.2.2.2.2.1 x.t.2.2.2.2.2 y.t.1 y.t.2.1 y.t.2.2.1 y.t.2.2.2.1 y.t.2.2.2.2.1 y.t.2.2.2.2.2 = some r ∧
    avermentref12_Widen.f x.t.1 x.t.2.1 x.t.2.2.1 x.t.2.2.2.1 x.t.2.2.2.2.1 x.t.2.2.2.2.2 y.t.1 y.t.2.1 y.t.2.2.1 y.t.2.2.2.1 y.t.2.2.2.2.1 y.t.2.2.2.2.2 = some r := by
  unfold fact_Widen.f avermentref12_Widen.f
  rw [J_val hx hy, rJ_val hx hy, some_bind, some_bind]
  have h : avermentref10_Widen.f x.t.2.2.2.1 x.t.2.2.2.2.1 (J x y).t.2.2.2.1 (J x y).t.2.2.2.2.1 = span_Widen.f x.t.2.2.2.1 x.t.2.2.2.2.1 (J x y).t.2.2.2.1 (J x y).t.2.2.2.2.1 := rfl
  rw [h]
  have hs : ∃ q, span_Widen.f x.t.2.2.2.1 x.t.2.2.2.2.1 (J x y).t.2.2.2.1 (J x y).t.2.2.2.2.1 = some q := by
    unfold span_Widen.f
    cases decide ((J x y).t.2.2.2.1 < x.t.2.2.2.1) <;> cases decide ((J x y).t.2.2.2.2.1 > x.t.2.2.2.2.1) <;> exact ⟨_, rfl⟩
  obtain ⟨q, hq⟩ := hs
  rw [hq]
  exact ⟨_, rfl, rfl⟩
theorem kRight_val (b : Bool) (n : Int) : known_Right.f b n = some (bif b then true else n == 0) := by
  unfold known_Right.f known_Known_tidy.f
  cases b <;> simp [some_bind]
theorem Right_val (s : Int) (b : Bool) (n lo hi p : Int) : ∃ r, fact_Right.f s b n lo hi p = some r ∧ avermentref12_Right.f s b n lo hi p = some r := by
  unfold fact_Right.f avermentref12_Right.f sign_Right.f span_Right.f parity_Right.f
  rw [kRight_val]
  generalize (n == 0) = z
  cases decide (s ≥ 1) <;> cases decide (s ≤ 7) <;> cases b <;> cases z <;> cases decide (lo ≤ hi) <;> cases decide (p ≥ 1) <;> cases decide (p ≤ 3) <;> exact ⟨_, rfl, rfl⟩
set_option maxHeartbeats 4000000 in
theorem FactSets (a0_0 : Int) (a0_1 : Bool) (a0_2 : Int) (a0_3 : Int) (a0_4 : Int) (a0_5 : Int) (a1_0 : Int) (a1_1 : Bool) (a1_2 : Int) (a1_3 : Int) (a1_4 : Int) (a1_5 : Int) (a2 : Int) :
    avermentlaw12_FactSets.f a0_0 a0_1 a0_2 a0_3 a0_4 a0_5 a1_0 a1_1 a1_2 a1_3 a1_4 a1_5 a2 = some true := by
  obtain ⟨x, hx, ox, -⟩ := Fix_val a0_0 a0_1 a0_2 a0_3 a0_4 a0_5
  obtain ⟨y, hy, oy, -⟩ := Fix_val a1_0 a1_1 a1_2 a1_3 a1_4 a1_5
  obtain ⟨r, r1, r2⟩ := Right_val a0_0 a0_1 a0_2 a0_3 a0_4 a0_5
  have wx := ox.toWk
  have wy := oy.toWk
  obtain ⟨v, v1, v2⟩ := Widen_val wx wy
  have t0 := To_val (a0_0, a0_1, a0_2, a0_3, a0_4, a0_5)
  simp only at t0
  unfold avermentlaw12_FactSets.f
  simp only [t0, hx, hy, some_bind, To_val, From_val, told_val, r1, r2, J_val wx wy, rJ_val wx wy, W_val wx wy, rW_val wx wy, M_val wx wy, rM_val wx wy, Has_val wx, rHas_val wx, v1, v2, Of_val, rOf_val, Any_val, rAny_val, beq_self_eq_true, Bool.and_self, Bool.not_true, cond_false, Bool.not_false, cond_true, bne_self_eq_false]
end Go.Proofs.Ytcgjfkaipbhpkaa.FS
