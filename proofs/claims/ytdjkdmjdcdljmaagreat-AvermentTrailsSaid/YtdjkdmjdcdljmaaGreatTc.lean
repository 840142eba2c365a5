/- Own work. No condition. -/
import Derived.Test.YtdjkdmjdcdljmaaGreatTb

namespace Go.Proofs.YtdjkdmjdcdljmaaGreat.AT
open Go.RowKit Go.Proofs.YtdjkdmjdcdljmaaGreatX Go.Proofs.YtdjkdmjdcdljmaaGreat.Sr
set_option linter.unusedVariables false
set_option linter.unusedSimpArgs false
set_option linter.unusedSectionVars false
set_option maxRecDepth 100000
variable {K : Nat}
theorem or_lt : ∀ a, a < 8 → ∀ b, b < 8 → a ||| b < 8 := by decide +kernel
theorem or_lt4 : ∀ a, a < 4 → ∀ b, b < 4 → a ||| b < 4 := by decide +kernel
theorem in_or_l : ∀ a, a < 8 → ∀ b, b < 8 → a &&& (a ||| b) = a := by decide +kernel
def sg (i : Nat) : Int := (i : Int)
theorem sj_val (i j : Fin 8) : sign_Join.f K (sg i.val) (sg j.val) = some (sg (i.val ||| j.val)) := by
  have : ∀ i j : Fin 8, sign_Join.f 0 (sg i.val) (sg j.val) = some (sg (i.val ||| j.val)) := by decide +kernel
  exact this i j
theorem pj_val (i j : Fin 4) : parity_Join.f K (sg i.val) (sg j.val) = some (sg (i.val ||| j.val)) := by
  have : ∀ i j : Fin 4, parity_Join.f 0 (sg i.val) (sg j.val) = some (sg (i.val ||| j.val)) := by decide +kernel
  exact this i j
theorem sg_inj {i j : Nat} : (sg i == sg j) = decide (i = j) := by
  unfold sg
  by_cases h : i = j
  · subst h; simp
  · have : ¬ ((i : Int) = (j : Int)) := fun e => h (by omega)
    simp [h, this]

structure VV where
  s : Nat
  kb : Bool
  kn : Int
  lo : Int
  hi : Int
  p : Nat
structure Wk (x : VV) : Prop where
  s : x.s < 8
  p : x.p < 4
  k : x.kb = false → x.kn = 0
structure Ok (x : VV) : Prop extends Wk x where
  s0 : x.s ≠ 0
  p0 : x.p ≠ 0
  le : x.lo ≤ x.hi
abbrev T6 := Int × Bool × Int × Int × Int × Int
def VV.t (x : VV) : T6 := (sg x.s, x.kb, x.kn, x.lo, x.hi, sg x.p)
def VV.zero : VV := ⟨0, false, 0, 0, 0, 0⟩

def kj (b : Bool) (n : Int) (b' : Bool) (n' : Int) : Bool × Int := if b = true ∧ b' = true ∧ n = n' then (b, n) else (false, 0)
theorem kj_val (b : Bool) (n : Int) (b' : Bool) (n' : Int) : known_Join.f K b n b' n' = some (kj b n b' n') := by
  unfold known_Join.f known_Known_is.f kj
  cases b <;> cases b' <;> try rfl
  by_cases h : n = n'
  · subst h; simp [bindC_def]
  · have h' : (n' == n) = false := beq_eq_false_iff_ne.2 fun e => h e.symm
    rw [h', if_neg (fun e => h e.2.2)]; rfl
def mnI (a b : Int) : Int := if b < a then b else a
def mxI (a b : Int) : Int := if b > a then b else a

def J (x y : VV) : VV := ⟨x.s ||| y.s, (kj x.kb x.kn y.kb y.kn).1, (kj x.kb x.kn y.kb y.kn).2, mnI x.lo y.lo, mxI x.hi y.hi, x.p ||| y.p⟩
theorem J_val {x y : VV} (hx : Wk x) (hy : Wk y) : fact_Join.f K x.t.1 x.t.2.1 x.t.2.2.1 x.t.2.2.2.1 x.t.2.2.2.2.1 x.t.2.2.2.2.2 y.t.1 y.t.2.1 y.t.2.2.1 y.t.2.2.2.1 y.t.2.2.2.2.1 y.t.2.2.2.2.2 = some (J x y).t := by
  simp only [VV.t]
  unfold fact_Join.f span_Join.f
  rw [sj_val ⟨_, hx.s⟩ ⟨_, hy.s⟩, some_bind, kj_val, some_bind, some_bind, pj_val ⟨_, hx.p⟩ ⟨_, hy.p⟩, some_bind]
  rfl
theorem fixs : ∀ a : Int, ∃ i, i < 8 ∧ IntKind.i64.wrap ↑(BitVec.ofInt 64 a &&& BitVec.ofInt 64 7).toNat = sg i := fun a => by
  have h : (BitVec.ofInt 64 a &&& BitVec.ofInt 64 7).toNat ≤ 7 := by
    rw [BitVec.toNat_and]
    exact Nat.le_trans Nat.and_le_right (by decide)
  generalize (BitVec.ofInt 64 a &&& BitVec.ofInt 64 7).toNat = m at *
  refine ⟨m, by omega, ?_⟩
  have : ∀ m : Nat, m < 8 → IntKind.i64.wrap (m : Int) = sg m := by decide +kernel
  exact this m (by omega)
theorem fixp : ∀ a : Int, ∃ i, i < 4 ∧ IntKind.i64.wrap ↑(BitVec.ofInt 64 a &&& BitVec.ofInt 64 3).toNat = sg i := fun a => by
  have h : (BitVec.ofInt 64 a &&& BitVec.ofInt 64 3).toNat ≤ 3 := by
    rw [BitVec.toNat_and]
    exact Nat.le_trans Nat.and_le_right (by decide)
  generalize (BitVec.ofInt 64 a &&& BitVec.ofInt 64 3).toNat = m at *
  refine ⟨m, by omega, ?_⟩
  have : ∀ m : Nat, m < 8 → IntKind.i64.wrap (m : Int) = sg m := by decide +kernel
  exact this m (by omega)
theorem Fix_val (s : Int) (kb : Bool) (kn lo hi p : Int) : ∃ x, avermentref12_Fix.f K s kb kn lo hi p = some x.t ∧ Ok x ∧ ((x.lo = lo ∧ x.hi = hi) ∨ (x.lo = hi ∧ x.hi = lo)) ∧ (x.kb = kb ∧ (kb = true → x.kn = kn)) := by
  obtain ⟨i, hi8, ei⟩ := fixs s
  obtain ⟨q, hq4, eq⟩ := fixp p
  have z : (0 : Int) = sg 0 := rfl
  have e1 := sg_inj (i := i) (j := 0)
  have e2 := sg_inj (i := q) (j := 0)
  rw [← z] at e1 e2
  have hc : ∃ n, avermentref09_Clean.f K kb kn = some (kb, n) ∧ (kb = false → n = 0) ∧ (kb = true → n = kn) := by
    unfold avermentref09_Clean.f
    cases kb
    · exact ⟨0, rfl, fun _ => rfl, (fun e => by cases e)⟩
    · exact ⟨kn, rfl, (fun e => by cases e), fun _ => rfl⟩
  obtain ⟨n, hn, hn0, hn1⟩ := hc
  have hs : ∃ l h, avermentref10_Fix.f K lo hi = some (l, h) ∧ l ≤ h ∧ ((l = lo ∧ h = hi) ∨ (l = hi ∧ h = lo)) := by
    unfold avermentref10_Fix.f
    by_cases h : lo > hi
    · rw [decide_eq_true h]; exact ⟨hi, lo, rfl, by omega, .inr ⟨rfl, rfl⟩⟩
    · rw [decide_eq_false h]; exact ⟨lo, hi, rfl, by omega, .inl ⟨rfl, rfl⟩⟩
  obtain ⟨l, h, hl, hle, hlh⟩ := hs
  refine ⟨⟨if i = 0 then 7 else i, kb, n, l, h, if q = 0 then 3 else q⟩, ?_, ⟨⟨by dsimp only; split <;> omega, by dsimp only; split <;> omega, hn0⟩, by dsimp only; split <;> omega, by dsimp only; split <;> omega, hle⟩, hlh, rfl, hn1⟩
  unfold avermentref12_Fix.f
  rw [ei, eq, e1, e2, hn, hl]
  by_cases a : i = 0 <;> by_cases b : q = 0 <;> simp [a, b, some_bind, VV.t, sg]
theorem To_val : avermentlaw12_To.f K = some () := rfl

theorem zero_wk : Wk VV.zero := ⟨by decide, by decide, fun _ => rfl⟩
theorem kj_clean (b : Bool) (n : Int) (b' : Bool) (n' : Int) : (kj b n b' n').1 = false → (kj b n b' n').2 = 0 := by
  unfold kj; split
  · rename_i h; intro e; simp [h.1] at e
  · intro _; rfl
theorem J_wk {x y : VV} (hx : Wk x) (hy : Wk y) : Wk (J x y) := ⟨or_lt _ hx.s _ hy.s, or_lt4 _ hx.p _ hy.p, kj_clean _ _ _ _⟩
theorem p8 {p : Nat} (h : p < 4) : p < 8 := by omega
theorem kj_in (a : Bool) (i : Int) (b : Bool) (j : Int) : (kj a i b j).1 = true → a = true ∧ b = true ∧ i = j ∧ (kj a i b j).2 = i := by
  unfold kj; split
  · rename_i h; intro _; exact ⟨h.1, h.2.1, h.2.2, rfl⟩
  · intro e; cases e
end Go.Proofs.YtdjkdmjdcdljmaaGreat.AT
