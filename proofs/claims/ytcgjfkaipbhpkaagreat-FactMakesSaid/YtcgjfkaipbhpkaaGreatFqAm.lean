/- Plain facts of what a Value may be: signs and parities as bits, known numbers, spans. No condition. -/
import Derived.Test.YtcgjfkaipbhpkaaGreatFM0

namespace Go.Proofs.YtcgjfkaipbhpkaaGreat.FM
open Go.Proofs.YtcgjfkaipbhpkaaGreatX
set_option linter.unusedVariables false
set_option linter.unusedSimpArgs false

/-! ### Bits below 8 -/
theorem or_lt : ∀ a, a < 8 → ∀ b, b < 8 → a ||| b < 8 := by decide +kernel
theorem or_lt4 : ∀ a, a < 4 → ∀ b, b < 4 → a ||| b < 4 := by decide +kernel
theorem and_lt : ∀ a, a < 8 → ∀ b, b < 8 → a &&& b < 8 := by decide +kernel
theorem and_lt4 : ∀ a, a < 4 → ∀ b, b < 4 → a &&& b < 4 := by decide +kernel
theorem or_ne : ∀ a, a < 8 → ∀ b, b < 8 → a ≠ 0 → a ||| b ≠ 0 := by decide +kernel
theorem or_idem : ∀ a, a < 8 → a ||| a = a := by decide +kernel
theorem in_or_l : ∀ a, a < 8 → ∀ b, b < 8 → a &&& (a ||| b) = a := by decide +kernel
theorem in_or_r : ∀ a, a < 8 → ∀ b, b < 8 → b &&& (a ||| b) = b := by decide +kernel
theorem or_in : ∀ a, a < 8 → ∀ b, b < 8 → ∀ c, c < 8 → a &&& c = a → b &&& c = b → (a ||| b) &&& c = a ||| b := by decide +kernel
theorem and_in_l : ∀ a, a < 8 → ∀ b, b < 8 → (a &&& b) &&& a = a &&& b := by decide +kernel
theorem and_in_r : ∀ a, a < 8 → ∀ b, b < 8 → (a &&& b) &&& b = a &&& b := by decide +kernel
theorem in_and : ∀ a, a < 8 → ∀ b, b < 8 → ∀ c, c < 8 → c &&& a = c → c &&& b = c → c &&& (a &&& b) = c := by decide +kernel
theorem and_ne_l : ∀ a, a < 8 → ∀ b, b < 8 → ∀ c, c < 8 → (a &&& b) &&& c ≠ 0 → a &&& b ≠ 0 := by decide +kernel
theorem and_ne_r : ∀ a, a < 8 → ∀ b, b < 8 → ∀ c, c < 8 → (a &&& b) &&& c ≠ 0 → b &&& c ≠ 0 := by decide +kernel

/-- A sign or a parity, as a number below 8 (below 4). -/
def sg (i : Nat) : Int := (i : Int)
theorem sj_val : ∀ i : Fin 8, ∀ j : Fin 8, sign_Join.f (sg i.val) (sg j.val) = some (sg (i.val ||| j.val)) := by decide +kernel
theorem sm_val : ∀ i : Fin 8, ∀ j : Fin 8, sign_Meet.f (sg i.val) (sg j.val) = some (sg (i.val &&& j.val)) := by decide +kernel
theorem pj_val : ∀ i : Fin 4, ∀ j : Fin 4, parity_Join.f (sg i.val) (sg j.val) = some (sg (i.val ||| j.val)) := by decide +kernel
theorem pm_val : ∀ i : Fin 4, ∀ j : Fin 4, parity_Meet.f (sg i.val) (sg j.val) = some (sg (i.val &&& j.val)) := by decide +kernel
theorem sg_inj {i j : Nat} : (sg i == sg j) = decide (i = j) := by
  unfold sg
  by_cases h : i = j
  · subst h; simp
  · have : ¬ ((i : Int) = (j : Int)) := fun e => h (by omega)
    simp [h, this]

/-! ### Values -/
structure V where
  s : Nat
  kb : Bool
  kn : Int
  lo : Int
  hi : Int
  p : Nat
structure Wk (x : V) : Prop where
  s : x.s < 8
  p : x.p < 4
  k : x.kb = false → x.kn = 0
structure Ok (x : V) : Prop extends Wk x where
  s0 : x.s ≠ 0
  p0 : x.p ≠ 0
  le : x.lo ≤ x.hi
abbrev T6 := Int × Bool × Int × Int × Int × Int
def V.t (x : V) : T6 := (sg x.s, x.kb, x.kn, x.lo, x.hi, sg x.p)
def V.zero : V := ⟨0, false, 0, 0, 0, 0⟩

def kj (b : Bool) (n : Int) (b' : Bool) (n' : Int) : Bool × Int := if b = true ∧ b' = true ∧ n = n' then (b, n) else (false, 0)
def kw (b : Bool) (n : Int) (b' : Bool) (n' : Int) : Bool := decide (b' = true → b = true ∧ n = n')
def kok (b : Bool) (n : Int) (b' : Bool) (n' : Int) : Bool := decide (b = true → b' = true → n = n')
def km (b : Bool) (n : Int) (b' : Bool) (n' : Int) : Bool × Int := if b = true then (if b' = true → n = n' then (b, n) else (false, 0)) else (b', if b' = true then n' else 0)
theorem kj_val (b : Bool) (n : Int) (b' : Bool) (n' : Int) : known_Join.f b n b' n' = some (kj b n b' n') := by
  unfold known_Join.f known_Known_is.f known_Any.f kj
  cases b <;> cases b' <;> simp [some_bind]
  by_cases h : n = n'
  · subst h; simp
  · have h' : (n' == n) = false := beq_eq_false_iff_ne.2 fun e => h e.symm
    simp [h, h']
theorem km_val (b : Bool) (n : Int) (b' : Bool) (n' : Int) : known_Meet.f b n b' n' = some ((km b n b' n').1, (km b n b' n').2, kok b n b' n') := by
  unfold known_Meet.f known_Known_tidy.f known_Has.f known_Any.f km kok
  cases b <;> cases b' <;> simp [some_bind]
  by_cases h : n = n'
  · subst h; simp
  · have h' : (n' == n) = false := beq_eq_false_iff_ne.2 fun e => h e.symm
    simp [h, h']
def mnI (a b : Int) : Int := if b < a then b else a
def mxI (a b : Int) : Int := if b > a then b else a

def J (x y : V) : V := ⟨x.s ||| y.s, (kj x.kb x.kn y.kb y.kn).1, (kj x.kb x.kn y.kb y.kn).2, mnI x.lo y.lo, mxI x.hi y.hi, x.p ||| y.p⟩
def W (x y : V) : Bool := decide (x.s &&& y.s = x.s) && (kw x.kb x.kn y.kb y.kn && (decide (x.lo ≥ y.lo) && decide (x.hi ≤ y.hi) && decide (x.p &&& y.p = x.p)))
def cut (x y : V) : V := ⟨x.s &&& y.s, (km x.kb x.kn y.kb y.kn).1, (km x.kb x.kn y.kb y.kn).2, mxI x.lo y.lo, mnI x.hi y.hi, x.p &&& y.p⟩
/-- Is anything in both? -/
def N (x y : V) : Bool := decide (x.s &&& y.s ≠ 0) && (kok x.kb x.kn y.kb y.kn && (decide (mxI x.lo y.lo ≤ mnI x.hi y.hi) && decide (x.p &&& y.p ≠ 0)))
def M (x y : V) : V := bif N x y then cut x y else V.zero

theorem J_val {x y : V} (hx : Wk x) (hy : Wk y) : fact_Join.f x.t.1 x.t.2.1 x.t.2.2.1 x.t.2.2.2.1 x.t.2.2.2.2.1 x.t.2.2.2.2.2 y.t.1 y.t.2.1 y.t.2.2.1 y.t.2.2.2.1 y.t.2.2.2.2.1 y.t.2.2.2.2.2 = some (J x y).t := by
  simp only [V.t]
  unfold fact_Join.f span_Join.f
  rw [sj_val ⟨_, hx.s⟩ ⟨_, hy.s⟩, some_bind, kj_val, some_bind, some_bind, pj_val ⟨_, hx.p⟩ ⟨_, hy.p⟩, some_bind]
  rfl
theorem M_val {x y : V} (hx : Wk x) (hy : Wk y) : fact_Meet.f x.t.1 x.t.2.1 x.t.2.2.1 x.t.2.2.2.1 x.t.2.2.2.2.1 x.t.2.2.2.2.2 y.t.1 y.t.2.1 y.t.2.2.1 y.t.2.2.2.1 y.t.2.2.2.2.1 y.t.2.2.2.2.2 =
    some ((M x y).t.1, (M x y).t.2.1, (M x y).t.2.2.1, (M x y).t.2.2.2.1, (M x y).t.2.2.2.2.1, (M x y).t.2.2.2.2.2, N x y) := by
  simp only [V.t]
  unfold fact_Meet.f span_Meet.f span_Right.f fact_whole.f
  rw [km_val, some_bind, sm_val ⟨_, hx.s⟩ ⟨_, hy.s⟩, pm_val ⟨_, hx.p⟩ ⟨_, hy.p⟩]
  simp only [some_bind]
  have e0 : (0 : Int) = sg 0 := rfl
  have e1 := sg_inj (i := x.s &&& y.s) (j := 0)
  have e2 := sg_inj (i := x.p &&& y.p) (j := 0)
  rw [← e0] at e1 e2
  have hN : N x y = (!decide (x.s &&& y.s = 0) && (kok x.kb x.kn y.kb y.kn && (decide (mxI x.lo y.lo ≤ mnI x.hi y.hi) && !decide (x.p &&& y.p = 0)))) := by
    unfold N; simp
  have hd : decide ((if y.lo > x.lo then y.lo else x.lo) ≤ (if y.hi < x.hi then y.hi else x.hi)) = decide (mxI x.lo y.lo ≤ mnI x.hi y.hi) := rfl
  simp only [M, hN, hd, e1, e2]
  cases hs : decide (x.s &&& y.s = 0) <;> cases hk : kok x.kb x.kn y.kb y.kn <;> cases hl : decide (mxI x.lo y.lo ≤ mnI x.hi y.hi) <;> cases hp : decide (x.p &&& y.p = 0) <;> simp [some_bind, e1, e2, hs, hp, cut, V.zero, mxI, mnI] <;> rfl

/-! ### What a Value set right is -/
theorem fixs : ∀ a : Int, ∃ i, i < 8 ∧ IntKind.i64.wrap ↑(BitVec.ofInt IntKind.i64.bits a &&& BitVec.ofInt IntKind.i64.bits 7).toNat = sg i := fun a => by
  have h : (BitVec.ofInt IntKind.i64.bits a &&& BitVec.ofInt IntKind.i64.bits 7).toNat ≤ 7 := by
    rw [BitVec.toNat_and]
    exact Nat.le_trans Nat.and_le_right (by decide)
  generalize (BitVec.ofInt IntKind.i64.bits a &&& BitVec.ofInt IntKind.i64.bits 7).toNat = m at *
  refine ⟨m, by omega, ?_⟩
  have : ∀ m : Nat, m < 8 → IntKind.i64.wrap (m : Int) = sg m := by decide +kernel
  exact this m (by omega)
theorem fixp : ∀ a : Int, ∃ i, i < 4 ∧ IntKind.i64.wrap ↑(BitVec.ofInt IntKind.i64.bits a &&& BitVec.ofInt IntKind.i64.bits 3).toNat = sg i := fun a => by
  have h : (BitVec.ofInt IntKind.i64.bits a &&& BitVec.ofInt IntKind.i64.bits 3).toNat ≤ 3 := by
    rw [BitVec.toNat_and]
    exact Nat.le_trans Nat.and_le_right (by decide)
  generalize (BitVec.ofInt IntKind.i64.bits a &&& BitVec.ofInt IntKind.i64.bits 3).toNat = m at *
  refine ⟨m, by omega, ?_⟩
  have : ∀ m : Nat, m < 8 → IntKind.i64.wrap (m : Int) = sg m := by decide +kernel
  exact this m (by omega)
theorem Fix_val (s : Int) (kb : Bool) (kn lo hi p : Int) : ∃ x, avermentref12_Fix.f s kb kn lo hi p = some x.t ∧ Ok x ∧ ((x.lo = lo ∧ x.hi = hi) ∨ (x.lo = hi ∧ x.hi = lo)) ∧ (x.kb = kb ∧ (kb = true → x.kn = kn)) := by
  obtain ⟨i, hi8, ei⟩ := fixs s
  obtain ⟨q, hq4, eq⟩ := fixp p
  have z : (0 : Int) = sg 0 := rfl
  have e1 := sg_inj (i := i) (j := 0)
  have e2 := sg_inj (i := q) (j := 0)
  rw [← z] at e1 e2
  have hc : ∃ n, avermentref09_Clean.f kb kn = some (kb, n) ∧ (kb = false → n = 0) ∧ (kb = true → n = kn) := by
    unfold avermentref09_Clean.f
    cases kb
    · exact ⟨0, rfl, fun _ => rfl, (fun e => by cases e)⟩
    · exact ⟨kn, rfl, (fun e => by cases e), fun _ => rfl⟩
  obtain ⟨n, hn, hn0, hn1⟩ := hc
  have hs : ∃ l h, avermentref10_Fix.f lo hi = some (l, h) ∧ l ≤ h ∧ ((l = lo ∧ h = hi) ∨ (l = hi ∧ h = lo)) := by
    unfold avermentref10_Fix.f
    by_cases h : lo > hi
    · rw [decide_eq_true h]; exact ⟨hi, lo, rfl, by omega, .inr ⟨rfl, rfl⟩⟩
    · rw [decide_eq_false h]; exact ⟨lo, hi, rfl, by omega, .inl ⟨rfl, rfl⟩⟩
  obtain ⟨l, h, hl, hle, hlh⟩ := hs
  refine ⟨⟨if i = 0 then 7 else i, kb, n, l, h, if q = 0 then 3 else q⟩, ?_, ⟨⟨by dsimp only; split <;> omega, by dsimp only; split <;> omega, hn0⟩, by dsimp only; split <;> omega, by dsimp only; split <;> omega, hle⟩, hlh, rfl, hn1⟩
  unfold avermentref12_Fix.f
  rw [ei, eq, e1, e2, hn, hl]
  by_cases a : i = 0 <;> by_cases b : q = 0 <;> simp [a, b, some_bind, V.t, sg]
theorem To_val (x : T6) : avermentlaw12_To.f x.1 x.2.1 x.2.2.1 x.2.2.2.1 x.2.2.2.2.1 x.2.2.2.2.2 = some x := rfl

/-! ### Laws of both -/
theorem V.ext' {x y : V} (h1 : x.s = y.s) (h2 : x.kb = y.kb) (h3 : x.kn = y.kn) (h4 : x.lo = y.lo) (h5 : x.hi = y.hi) (h6 : x.p = y.p) : x = y := by
  cases x; cases y; simp_all
theorem zero_wk : Wk V.zero := ⟨by decide, by decide, fun _ => rfl⟩
theorem kj_clean (b : Bool) (n : Int) (b' : Bool) (n' : Int) : (kj b n b' n').1 = false → (kj b n b' n').2 = 0 := by
  unfold kj; split
  · rename_i h; intro e; simp [h.1] at e
  · intro _; rfl
theorem km_clean (b : Bool) (n : Int) (b' : Bool) (n' : Int) : (km b n b' n').1 = false → (km b n b' n').2 = 0 := by
  unfold km; split
  · split
    · intro e; simp_all
    · intro _; rfl
  · intro e; simp_all
theorem J_wk {x y : V} (hx : Wk x) (hy : Wk y) : Wk (J x y) := ⟨or_lt _ hx.s _ hy.s, or_lt4 _ hx.p _ hy.p, kj_clean _ _ _ _⟩
theorem cut_wk {x y : V} (hx : Wk x) (hy : Wk y) : Wk (cut x y) := ⟨and_lt _ hx.s _ hy.s, and_lt4 _ hx.p _ hy.p, km_clean _ _ _ _⟩
theorem M_wk {x y : V} (hx : Wk x) (hy : Wk y) : Wk (M x y) := by
  unfold M; cases N x y
  · exact zero_wk
  · exact cut_wk hx hy
theorem p8 {p : Nat} (h : p < 4) : p < 8 := by omega
theorem J_ok {x y : V} (hx : Ok x) (hy : Ok y) : Ok (J x y) := ⟨J_wk hx.toWk hy.toWk, or_ne _ hx.s _ hy.s hx.s0, or_ne _ (p8 hx.p) _ (p8 hy.p) hx.p0, by have := hx.le; have := hy.le; simp only [J, mnI, mxI]; split <;> split <;> omega⟩
theorem J_comm {x y : V} : J x y = J y x := by
  refine V.ext' (Nat.or_comm _ _) ?_ ?_ ?_ ?_ (Nat.or_comm _ _)
  · simp only [J, kj]
    by_cases h : x.kb = true ∧ y.kb = true ∧ x.kn = y.kn
    · rw [if_pos h, if_pos ⟨h.2.1, h.1, h.2.2.symm⟩]; rw [h.1, h.2.1]
    · rw [if_neg h, if_neg fun k => h ⟨k.2.1, k.1, k.2.2.symm⟩]
  · simp only [J, kj]
    by_cases h : x.kb = true ∧ y.kb = true ∧ x.kn = y.kn
    · rw [if_pos h, if_pos ⟨h.2.1, h.1, h.2.2.symm⟩]; exact h.2.2
    · rw [if_neg h, if_neg fun k => h ⟨k.2.1, k.1, k.2.2.symm⟩]
  · simp only [J, mnI]; split <;> split <;> omega
  · simp only [J, mxI]; split <;> split <;> omega
theorem kj_assoc (a : Bool) (i : Int) (b : Bool) (j : Int) (c : Bool) (k : Int) : kj (kj a i b j).1 (kj a i b j).2 c k = kj a i (kj b j c k).1 (kj b j c k).2 := by
  unfold kj
  cases a <;> cases b <;> cases c <;> simp
  by_cases h1 : i = j
  · subst h1; by_cases h2 : i = k <;> simp [h2]
  · by_cases h2 : j = k
    · subst h2; simp [h1]
    · simp [h1, h2]
theorem J_assoc {x y z : V} : J (J x y) z = J x (J y z) := by
  have := kj_assoc x.kb x.kn y.kb y.kn z.kb z.kn
  refine V.ext' (Nat.or_assoc _ _ _) (congrArg Prod.fst this) (congrArg Prod.snd this) ?_ ?_ (Nat.or_assoc _ _ _)
  · simp only [J, mnI]; (repeat' split) <;> omega
  · simp only [J, mxI]; (repeat' split) <;> omega
theorem J_idem {x : V} (h : Wk x) : J x x = x := by
  refine V.ext' (or_idem _ h.s) ?_ ?_ ?_ ?_ (or_idem _ (p8 h.p))
  · simp only [J, kj]; cases hb : x.kb <;> simp
  · simp only [J, kj]; cases hb : x.kb
    · simp [h.k hb]
    · simp
  · simp [J, mnI]
  · simp [J, mxI]
theorem W_iff {x y : V} : W x y = true ↔ (x.s &&& y.s = x.s) ∧ (y.kb = true → x.kb = true ∧ x.kn = y.kn) ∧ (y.lo ≤ x.lo ∧ x.hi ≤ y.hi) ∧ (x.p &&& y.p = x.p) := by
  unfold W kw
  simp only [Bool.and_eq_true, decide_eq_true_eq, ge_iff_le]
theorem kj_in (a : Bool) (i : Int) (b : Bool) (j : Int) : (kj a i b j).1 = true → a = true ∧ b = true ∧ i = j ∧ (kj a i b j).2 = i := by
  unfold kj; split
  · rename_i h; intro _; exact ⟨h.1, h.2.1, h.2.2, rfl⟩
  · intro e; cases e
theorem W_J_l {x y : V} (hx : Wk x) (hy : Wk y) : W x (J x y) = true := by
  rw [W_iff]
  refine ⟨in_or_l _ hx.s _ hy.s, fun h => ?_, ?_, in_or_l _ (p8 hx.p) _ (p8 hy.p)⟩
  · obtain ⟨h1, _, _, h4⟩ := kj_in _ _ _ _ h
    exact ⟨h1, h4.symm⟩
  · simp only [J, mnI, mxI]; constructor <;> split <;> omega
theorem W_J_r {x y : V} (hx : Wk x) (hy : Wk y) : W y (J x y) = true := by rw [J_comm]; exact W_J_l hy hx
theorem J_W {x y z : V} (hx : Wk x) (hy : Wk y) (hz : Wk z) (h1 : W x z = true) (h2 : W y z = true) : W (J x y) z = true := by
  rw [W_iff] at *
  obtain ⟨a1, a2, a3, a4⟩ := h1
  obtain ⟨b1, b2, b3, b4⟩ := h2
  refine ⟨or_in _ hx.s _ hy.s _ hz.s a1 b1, fun h => ?_, ?_, or_in _ (p8 hx.p) _ (p8 hy.p) _ (p8 hz.p) a4 b4⟩
  · obtain ⟨c1, c2⟩ := a2 h
    obtain ⟨d1, d2⟩ := b2 h
    have : kj x.kb x.kn y.kb y.kn = (x.kb, x.kn) := by unfold kj; rw [if_pos ⟨c1, d1, by omega⟩]
    simp only [J, this]; exact ⟨c1, c2⟩
  · simp only [J, mnI, mxI]; constructor <;> split <;> omega
theorem N_iff {x y : V} : N x y = true ↔ (x.s &&& y.s ≠ 0) ∧ (x.kb = true → y.kb = true → x.kn = y.kn) ∧ (mxI x.lo y.lo ≤ mnI x.hi y.hi) ∧ (x.p &&& y.p ≠ 0) := by
  unfold N kok
  simp only [Bool.and_eq_true, decide_eq_true_eq]
theorem N_comm {x y : V} : N x y = N y x := by
  rw [Bool.eq_iff_iff, N_iff, N_iff, Nat.and_comm x.s, Nat.and_comm x.p]
  have e1 : mxI x.lo y.lo = mxI y.lo x.lo := by simp only [mxI]; split <;> split <;> omega
  have e2 : mnI x.hi y.hi = mnI y.hi x.hi := by simp only [mnI]; split <;> split <;> omega
  rw [e1, e2]
  exact ⟨fun ⟨a, b, c, d⟩ => ⟨a, fun p q => (b q p).symm, c, d⟩, fun ⟨a, b, c, d⟩ => ⟨a, fun p q => (b q p).symm, c, d⟩⟩
theorem km_comm {a : Bool} {i : Int} {b : Bool} {j : Int} (ha : a = false → i = 0) (hb : b = false → j = 0) (h : a = true → b = true → i = j) : km a i b j = km b j a i := by
  unfold km
  cases a <;> cases b <;> simp_all
theorem cut_comm {x y : V} (hx : Wk x) (hy : Wk y) (h : N x y = true) : cut x y = cut y x := by
  have hk := km_comm hx.k hy.k (N_iff.1 h).2.1
  refine V.ext' (Nat.and_comm _ _) (congrArg Prod.fst hk) (congrArg Prod.snd hk) ?_ ?_ (Nat.and_comm _ _)
  · simp only [cut, mxI]; split <;> split <;> omega
  · simp only [cut, mnI]; split <;> split <;> omega
theorem M_comm {x y : V} (hx : Wk x) (hy : Wk y) : M x y = M y x := by
  unfold M
  rw [← N_comm (x := x)]
  cases h : N x y
  · rfl
  · exact cut_comm hx hy h
theorem M_of {x y : V} (h : N x y = true) : M x y = cut x y := by unfold M; rw [h]; rfl
theorem km_in {a : Bool} {i : Int} {b : Bool} {j : Int} (h : a = true → b = true → i = j) : (a = true → (km a i b j).1 = true ∧ (km a i b j).2 = i) ∧ (b = true → (km a i b j).1 = true ∧ (km a i b j).2 = j) ∧ ((km a i b j).1 = true → a = true ∨ b = true) := by
  unfold km
  cases a <;> cases b <;> simp_all
theorem W_M_l {x y : V} (hx : Wk x) (hy : Wk y) (h : N x y = true) : W (M x y) x = true := by
  rw [M_of h, W_iff]
  refine ⟨and_in_l _ hx.s _ hy.s, fun e => (km_in (N_iff.1 h).2.1).1 e, ?_, and_in_l _ (p8 hx.p) _ (p8 hy.p)⟩
  simp only [cut, mnI, mxI]; constructor <;> split <;> omega
theorem W_M_r {x y : V} (hx : Wk x) (hy : Wk y) (h : N x y = true) : W (M x y) y = true := by
  rw [M_comm hx hy]; exact W_M_l hy hx (by rw [N_comm]; exact h)
theorem W_both {x y z : V} (hx : Wk x) (hy : Wk y) (hz : Ok z) (h1 : W z x = true) (h2 : W z y = true) : N x y = true ∧ W z (M x y) = true := by
  rw [W_iff] at h1 h2
  obtain ⟨a1, a2, a3, a4⟩ := h1
  obtain ⟨b1, b2, b3, b4⟩ := h2
  have c1 := in_and _ hx.s _ hy.s _ hz.s a1 b1
  have c4 := in_and _ (p8 hx.p) _ (p8 hy.p) _ (p8 hz.p) a4 b4
  have hle := hz.le
  have hN : N x y = true := by
    rw [N_iff]
    refine ⟨fun e => ?_, fun e1 e2 => ?_, ?_, fun e => ?_⟩
    · rw [e, Nat.and_zero] at c1; exact hz.s0 c1.symm
    · rw [← (a2 e1).2, ← (b2 e2).2]
    · simp only [mxI, mnI]; split <;> split <;> omega
    · rw [e, Nat.and_zero] at c4; exact hz.p0 c4.symm
  refine ⟨hN, ?_⟩
  rw [M_of hN, W_iff]
  refine ⟨c1, fun e => ?_, ?_, c4⟩
  · obtain ⟨k1, k2, k3⟩ := km_in (N_iff.1 hN).2.1
    rcases k3 e with e | e
    · exact ⟨(a2 e).1, (a2 e).2.trans (k1 e).2.symm⟩
    · exact ⟨(b2 e).1, (b2 e).2.trans (k2 e).2.symm⟩
  · simp only [cut, mnI, mxI]; constructor <;> split <;> omega
/-- Of three, in either order. -/
theorem N_three {x y z : V} (hx : Wk x) (hy : Wk y) (hz : Wk z) : (N x y && N (M x y) z) = (N y z && N x (M y z)) := by
  rw [Bool.eq_iff_iff, Bool.and_eq_true, Bool.and_eq_true]
  constructor
  · rintro ⟨h1, h2⟩
    rw [M_of h1] at h2
    have k := km_in (N_iff.1 h1).2.1
    rw [N_iff] at h1 h2
    obtain ⟨a1, a2, a3, a4⟩ := h1
    obtain ⟨b1, b2, b3, b4⟩ := h2
    have hN : N y z = true := by
      rw [N_iff]
      refine ⟨and_ne_r _ hx.s _ hy.s _ hz.s b1, fun e1 e2 => ?_, ?_, and_ne_r _ (p8 hx.p) _ (p8 hy.p) _ (p8 hz.p) b4⟩
      · rw [← (k.2.1 e1).2]; exact b2 (k.2.1 e1).1 e2
      · simp only [cut, mxI, mnI] at *; revert a3 b3; (repeat' split) <;> omega
    refine ⟨hN, ?_⟩
    have k' := km_in (N_iff.1 hN).2.1
    rw [M_of hN, N_iff]
    refine ⟨by simp only [cut] at *; rw [← Nat.and_assoc]; exact b1, fun e1 e2 => ?_, ?_, by simp only [cut] at *; rw [← Nat.and_assoc]; exact b4⟩
    · rcases k'.2.2 e2 with e | e
      · rw [show (cut y z).kn = y.kn from (k'.1 e).2]; exact a2 e1 e
      · rw [show (cut y z).kn = z.kn from (k'.2.1 e).2, ← b2 (k.1 e1).1 e]; exact (k.1 e1).2.symm
    · simp only [cut, mxI, mnI] at *; revert a3 b3; (repeat' split) <;> omega
  · rintro ⟨h1, h2⟩
    rw [M_of h1] at h2
    have k := km_in (N_iff.1 h1).2.1
    rw [N_iff] at h1 h2
    obtain ⟨a1, a2, a3, a4⟩ := h1
    obtain ⟨b1, b2, b3, b4⟩ := h2
    simp only [cut] at b1 b4
    rw [← Nat.and_assoc] at b1 b4
    have hN : N x y = true := by
      rw [N_iff]
      refine ⟨and_ne_l _ hx.s _ hy.s _ hz.s b1, fun e1 e2 => ?_, ?_, and_ne_l _ (p8 hx.p) _ (p8 hy.p) _ (p8 hz.p) b4⟩
      · rw [← (k.1 e2).2]; exact b2 e1 (k.1 e2).1
      · simp only [cut, mxI, mnI] at *; revert a3 b3; (repeat' split) <;> omega
    refine ⟨hN, ?_⟩
    have k' := km_in (N_iff.1 hN).2.1
    rw [M_of hN, N_iff]
    refine ⟨b1, fun e1 e2 => ?_, ?_, b4⟩
    · rcases k'.2.2 e1 with e | e
      · rw [show (cut x y).kn = x.kn from (k'.1 e).2, b2 e (k.2.1 e2).1]; exact (k.2.1 e2).2
      · rw [show (cut x y).kn = y.kn from (k'.2.1 e).2]; exact a2 e e2
    · simp only [cut, mxI, mnI] at *; revert a3 b3; (repeat' split) <;> omega
theorem km_three {a : Bool} {i : Int} {b : Bool} {j : Int} {c : Bool} {k : Int} (hc : c = false → k = 0) (h1 : a = true → b = true → i = j) (h2 : b = true → c = true → j = k) (h3 : a = true → c = true → i = k) :
    km (km a i b j).1 (km a i b j).2 c k = km a i (km b j c k).1 (km b j c k).2 := by
  unfold km
  cases a <;> cases b <;> cases c <;> simp_all
theorem M_three {x y z : V} (hx : Wk x) (hy : Wk y) (hz : Wk z) (h : (N x y && N (M x y) z) = true) : M (M x y) z = M x (M y z) := by
  have h' := h
  rw [N_three hx hy hz] at h'
  rw [Bool.and_eq_true] at h h'
  rw [M_of h.2, M_of h'.2, M_of h.1, M_of h'.1]
  have a2 := (N_iff.1 h.1).2.1
  have b2 := (N_iff.1 h'.1).2.1
  have k := km_in a2
  have hac : x.kb = true → z.kb = true → x.kn = z.kn := fun e1 e2 => by
    have := (N_iff.1 h.2).2.1
    rw [M_of h.1] at this
    rw [← this (k.1 e1).1 e2]; exact (k.1 e1).2.symm
  have hk := km_three hz.k a2 b2 hac
  refine V.ext' (Nat.and_assoc _ _ _) (congrArg Prod.fst hk) (congrArg Prod.snd hk) ?_ ?_ (Nat.and_assoc _ _ _)
  · simp only [cut, mxI]; (repeat' split) <;> omega
  · simp only [cut, mnI]; (repeat' split) <;> omega
end Go.Proofs.YtcgjfkaipbhpkaaGreat.FM
