/- The law AvermentUnique, in parts: this text is packed by program (names shortened). No condition. -/
import Derived.Test.YtdjkdmjdcdljmaaGreatDoorQF
import Derived.OpenShut
import Derived.ChangeArms
import Derived.Carry
import Derived.ChangeOld
import Derived.Deep.Slices
import Derived.Test.YtdjkdmjdcdljmaaGreatDoorQC
set_option linter.unusedVariables false
set_option linter.unusedSimpArgs false
namespace Go.Proofs.YtdjkdmjdcdljmaaGreatDoor.AU
open Go.Proofs.YtdjkdmjdcdljmaaGreatDoorY Go.Proofs.YtdjkdmjdcdljmaaGreatDoorY.Runs
set_option maxRecDepth 100000
set_option maxHeartbeats 4000000
variable {K : Nat}
abbrev zeroV : q0l := (0, (false, 0), (0, 0), 0)
structure Sr (a : Int) (s : LSum) : Prop where
  off : s.1 = false → s.2.1 = []
  on : s.1 = true → (s.2.1.length : Int) = a
  args : ∀ v ∈ s.2.1, Vr v
  ret : s.2.2.1 = true → Vr s.2.2.2
  no : s.2.2.1 = false → s.2.2.2 = zeroV
structure Br (regs sites : Int) (x : q1l) : Prop where
  off : x.1.1 = false → x.1.2.1 = [] ∧ x.1.2.2 = []
  on : x.1.1 = true → (x.1.2.1.length : Int) = regs ∧ (x.1.2.2.length : Int) = regs
  vals : ∀ v ∈ x.1.2.1, Vr v
  sets : ∀ l ∈ x.1.2.2, q2y sites l
  live : q2y regs x.2
def q6i (s : LSum) : List Int := ((bn s.1 + 2 * bn s.2.2.1 : Nat) : Int) :: (s.2.1.flatMap encV ++ (if s.2.2.1 then encV s.2.2.2 else []))
def encB (regs sites : Int) (x : q1l) : List Int := (if x.1.1 then 1 :: (x.1.2.1.flatMap encV ++ x.1.2.2.flatMap (encS sites)) else [0]) ++ encS regs x.2
theorem Sr.len {a : Int} {s : LSum} (h : Sr a s) (ha : 0 ≤ a ∧ a ≤ 8) : s.2.1.length ≤ 8 := by
  cases hs : s.1 with
  | false => rw [h.off hs]; simp
  | true => have := h.on hs; omega
theorem z0x {l : List q0l} : (l.flatMap encV).length ≤ 31 * l.length := q4v fun v _ => z1g v
theorem q9s {a : Int} {s : LSum} (h : Sr a s) (ha : 0 ≤ a ∧ a ≤ 8) : (q6i s).length ≤ 280 := by
  have h1 := h.len ha
  have h2 := z0x (l := s.2.1)
  have h3 := z1g s.2.2.2
  unfold q6i
  simp only [List.length_cons, List.length_append]
  split
  · omega
  · simp only [List.length_nil]; omega
theorem Br.len {regs sites : Int} {x : q1l} (h : Br regs sites x) (hr : 0 ≤ regs ∧ regs ≤ 8) : x.1.2.1.length ≤ 8 ∧ x.1.2.2.length ≤ 8 := by
  cases hs : x.1.1 with
  | false => rw [(h.off hs).1, (h.off hs).2]; simp
  | true => have := h.on hs; omega
theorem j10 {regs sites : Int} {x : q1l} (h : Br regs sites x) (hr : 0 ≤ regs ∧ regs ≤ 8) (hs : 0 ≤ sites ∧ sites ≤ 4096) : (encB regs sites x).length ≤ 5000 := by
  obtain ⟨h1, h1'⟩ := h.len hr
  have h2 := z0x (l := x.1.2.1)
  have h3 := q4v (f := encS sites) (c := 514) (l := x.1.2.2) fun l _ => by have := z07 (n := sites) (s := l); omega
  have h4 := z07 (n := regs) (s := x.2)
  unfold encB
  rw [List.length_append]
  split
  · simp only [List.length_cons, List.length_append]; omega
  · simp only [List.length_cons, List.length_nil]; omega
theorem sum_l0 (hK : 20000 ≤ K) {l : List q0l} (hl : l.length ≤ 4096) (hr : ∀ v ∈ l, Vr v) : ∀ (l2 l1 : List q0l) (k : Nat) (w : List Int), l = l1 ++ l2 → l2.length < k → w.length + 31 * l2.length + 60 ≤ 4000000 → q4w.l0.f K k ((l.length : Nat) : Int) ((l1.length : Nat) : Int) l w = some (w ++ l2.flatMap encV)
  | l2, l1, 0, w, h, hk, hw => by omega
  | [], l1, k + 1, w, h, hk, hw => by
    rw [q4w.l0.f]
    simp only [q2n h, cond_false, List.flatMap_nil, List.append_nil]
  | x :: l2, l1, k + 1, w, h, hk, hw => by
    rw [q4w.l0.f]
    have hl1 : l1.length ≤ 4096 := by rw [h] at hl; simp at hl; omega
    have hx := hr x (by rw [h]; simp)
    have hlen := z1g x
    simp only [List.length_cons] at hw hk
    simp only [q2m h, ge0', blt_mid h, q29 h, cond_true, q0b, j1e hK hx (w := w) (by omega), q1a (l1 := l1) (x := x) (by omega)]
    rw [sum_l0 hK hl hr l2 (l1 ++ [x]) k _ (q1j h) (by omega) (by simp only [List.length_append]; omega)]
    simp
theorem sum_val (hK : 20000 ≤ K) {a : Int} {s : LSum} {w : List Int} (ha : 0 ≤ a ∧ a ≤ 8) (h : Sr a s) (hw : w.length + 400 ≤ 4000000) : q4w.f K s.1 s.2.1 s.2.2.1 s.2.2.2.1 s.2.2.2.2.1.1 s.2.2.2.2.1.2 s.2.2.2.2.2.1.1 s.2.2.2.2.2.1.2 s.2.2.2.2.2.2 w = some (w ++ q6i s) := by
  have hlen := h.len ha
  obtain ⟨h1, h2, h3, h4, h5⟩ := h
  obtain ⟨c, args, r, res⟩ := s
  dsimp only at *
  unfold q4w.f q6i
  have loop : ∀ (b : Int) (l : List q0l), l.length ≤ 9 → (∀ v ∈ l, Vr v) → q4w.l0.f K K ((l.length : Nat) : Int) (0 : Int) l (w ++ [b]) = some (w ++ [b] ++ l.flatMap encV) := fun b l q1 q2 =>
    sum_l0 hK (by omega) q2 l [] K _ rfl (by omega) (by simp only [List.length_append, List.length_cons, List.length_nil]; omega)
  have w3 : IntKind.u8.wrap (IntKind.i64.wrap ((3 : Nat) : Int)) = 3 := rfl
  have w2 : IntKind.u8.wrap (IntKind.i64.wrap ((2 : Nat) : Int)) = 2 := rfl
  have w1 : IntKind.u8.wrap (1 : Int) = 1 := rfl
  have w0 : IntKind.u8.wrap (0 : Int) = 0 := rfl
  have hb : ∀ b : Int, q0n.f K b w = some (w ++ [b]) := fun b => q62 (by omega)
  have e1 : Nat.ble (0 + args.length) 4000000 = true := Nat.ble_eq_true_of_le (by omega)
  have e2 : Nat.ble (([] ++ args).length + [(res.1, (res.2.1.1, res.2.1.2), (res.2.2.1.1, res.2.2.1.2), res.2.2.2)].length) 4000000 = true := Nat.ble_eq_true_of_le (by simp; omega)
  cases c with
  | true =>
    cases r with
    | true =>
      have hv := h4 rfl
      simp only [cond_true, e1, e2, w3, hb, q0b]
      rw [loop 3 ([] ++ args ++ [(res.1, (res.2.1.1, res.2.1.2), (res.2.2.1.1, res.2.2.1.2), res.2.2.2)]) (by simp; omega) (fun v hv' => by
        simp only [List.nil_append, List.mem_append, List.mem_singleton] at hv'
        rcases hv' with hv' | rfl
        · exact h3 v hv'
        · exact hv)]
      simp [bn]
    | false =>
      simp only [cond_true, cond_false, e1, w1, hb, q0b]
      rw [loop 1 ([] ++ args) (by simp; omega) (by simpa using h3)]
      simp [bn]
  | false =>
    have := h1 rfl
    subst this
    cases r with
    | true =>
      have hv := h4 rfl
      simp only [cond_true, cond_false, w2, hb, q0b]
      rw [loop 2 ([] ++ [(res.1, (res.2.1.1, res.2.1.2), (res.2.2.1.1, res.2.2.1.2), res.2.2.2)]) (by simp) (fun v hv' => by
        simp only [List.nil_append, List.mem_singleton] at hv'
        subst hv'
        exact hv)]
      simp [bn]
    | false =>
      simp only [cond_false, w0, hb, q0b]
      rw [show q4w.l0.f K K ((0 : Nat) : Int) (0 : Int) [] (w ++ [0]) = _ from loop 0 [] (by simp) (by simp)]
      simp [bn]
theorem bw_l0 (hK : 20000 ≤ K) {l : List q0l} (hl : l.length ≤ 4096) (hr : ∀ v ∈ l, Vr v) : ∀ (l2 l1 : List q0l) (k : Nat) (w : List Int), l = l1 ++ l2 → l2.length < k → w.length + 31 * l2.length + 60 ≤ 4000000 → q28.l0.f K k l ((l.length : Nat) : Int) ((l1.length : Nat) : Int) w = some (w ++ l2.flatMap encV)
  | l2, l1, 0, w, h, hk, hw => by omega
  | [], l1, k + 1, w, h, hk, hw => by
    rw [q28.l0.f]
    simp only [q2n h, cond_false, List.flatMap_nil, List.append_nil]
  | x :: l2, l1, k + 1, w, h, hk, hw => by
    rw [q28.l0.f]
    have hl1 : l1.length ≤ 4096 := by rw [h] at hl; simp at hl; omega
    have hx := hr x (by rw [h]; simp)
    have hlen := z1g x
    simp only [List.length_cons] at hw hk
    simp only [q2m h, ge0, q29 h, cond_true, q0b, j1e hK hx (w := w) (by omega), q1a (l1 := l1) (x := x) (by omega)]
    rw [bw_l0 hK hl hr l2 (l1 ++ [x]) k _ (q1j h) (by omega) (by simp only [List.length_append]; omega)]
    simp
theorem bw_l1 (hK : 20000 ≤ K) {n : Int} (hn : 0 ≤ n ∧ n ≤ 4096) {l : List (List Int)} (hl : l.length ≤ 4096) (hr : ∀ s ∈ l, q2y n s) : ∀ (l2 l1 : List (List Int)) (k : Nat) (w : List Int), l = l1 ++ l2 → l2.length < k → w.length + 514 * l2.length + 60 ≤ 4000000 → q28.l1.f K k n l ((l.length : Nat) : Int) ((l1.length : Nat) : Int) w = some (w ++ l2.flatMap (encS n))
  | l2, l1, 0, w, h, hk, hw => by omega
  | [], l1, k + 1, w, h, hk, hw => by
    rw [q28.l1.f]
    simp only [q2n h, cond_false, List.flatMap_nil, List.append_nil]
  | x :: l2, l1, k + 1, w, h, hk, hw => by
    rw [q28.l1.f]
    have hl1 : l1.length ≤ 4096 := by rw [h] at hl; simp at hl; omega
    have hx := hr x (by rw [h]; simp)
    have hlen := z07 (n := n) (s := x)
    simp only [List.length_cons] at hw hk
    simp only [q2m h, ge0, q29 h, cond_true, q0b, z1t hK hn hx (w := w) (by omega), q1a (l1 := l1) (x := x) (by omega)]
    rw [bw_l1 hK hn hl hr l2 (l1 ++ [x]) k _ (q1j h) (by omega) (by simp only [List.length_append]; omega)]
    simp
theorem bw_val (hK : 20000 ≤ K) {regs sites : Int} {x : q1l} {w : List Int} (hr : 0 ≤ regs ∧ regs ≤ 8) (hs : 0 ≤ sites ∧ sites ≤ 4096) (h : Br regs sites x) (hw : w.length + 6000 ≤ 4000000) : q28.f K x.1.1 x.1.2.1 x.1.2.2 x.2 regs sites w = some (w ++ encB regs sites x) := by
  obtain ⟨q1, q2⟩ := h.len hr
  obtain ⟨h1, h2, h3, h4, h5⟩ := h
  have g1 := z0x (l := x.1.2.1)
  have g2 := q4v (f := encS sites) (c := 514) (l := x.1.2.2) fun l _ => by have := z07 (n := sites) (s := l); omega
  have g3 := z07 (n := regs) (s := x.2)
  have hb : ∀ b : Int, q0n.f K b w = some (w ++ [b]) := fun b => q62 (by omega)
  unfold q28.f encB
  cases hx : x.1.1 with
  | false =>
    simp only [Bool.not_false, cond_true, hb, q0b, z1t hK (n := regs) (s := x.2) (w := w ++ [0]) (by omega) h5 (by simp only [List.length_append, List.length_cons, List.length_nil]; omega)]
    simp
  | true =>
    have p1 := bw_l0 (K := K) hK (l := x.1.2.1) (by omega) h3 x.1.2.1 [] K (w ++ [1]) rfl (by omega) (by simp only [List.length_append, List.length_cons, List.length_nil]; omega)
    have p2 := bw_l1 (K := K) hK hs (l := x.1.2.2) (by omega) h4 x.1.2.2 [] K (w ++ [1] ++ x.1.2.1.flatMap encV) rfl (by omega) (by simp only [List.length_append, List.length_cons, List.length_nil]; omega)
    simp only [Bool.not_true, cond_false, hb, q0b]
    rw [show q28.l0.f K K x.1.2.1 ((x.1.2.1.length : Nat) : Int) (0 : Int) (w ++ [1]) = _ from p1, q0b, show q28.l1.f K K sites x.1.2.2 ((x.1.2.2.length : Nat) : Int) (0 : Int) (w ++ [1] ++ x.1.2.1.flatMap encV) = _ from p2, q0b,
      z1t hK (n := regs) (s := x.2) (w := w ++ [1] ++ x.1.2.1.flatMap encV ++ x.1.2.2.flatMap (encS sites)) (by omega) h5 (by simp only [List.length_append, List.length_cons, List.length_nil]; omega)]
    simp [q0b]
end Go.Proofs.YtdjkdmjdcdljmaaGreatDoor.AU
namespace Go.Proofs.YtdjkdmjdcdljmaaGreatDoor.AU
open Go.Proofs.YtdjkdmjdcdljmaaGreatDoorY Go.Proofs.YtdjkdmjdcdljmaaGreatDoorY.Runs
set_option maxRecDepth 100000
set_option maxHeartbeats 4000000
variable {K : Nat}
def sec (b : List Int) : List Int := encU b.length ++ b
theorem z7j (b : List Int) : (sec b).length ≤ b.length + 10 := by
  have := q6b b.length
  simp only [sec, List.length_append]; omega
theorem j2f (hK : 20000 ≤ K) {b w : List Int} (h : w.length + b.length + 20 ≤ 4000000) : q1o.f K b w = some (w ++ sec b) := by
  unfold q1o.f
  have := q6b b.length
  rw [z0z hK (n := ((b.length : Nat) : Int)) (by omega) (by omega) (by omega), q0b, Int.toNat_natCast, z4b (by simp only [List.length_append]; omega)]
  simp [sec]
abbrev q6k : q1l := ((false, [], []), [])
structure Tf (sites : Int) (m : q0x) (x : q06) : Prop where
  sum : Sr m.2.1 x.1
  len : x.2.length = m.2.2.2.length
  blocks : ∀ b ∈ x.2, Br m.2.2.1 sites b
def encT (sites : Int) (m : q0x) (x : q06) (T : List Int) : List Int := T.flatMap fun b => encB m.2.2.1 sites (x.2.getD b.toNat q6k)
def encF (sites : Int) (T : List Int) (m : q0x) (x : q06) : List Int := q6i x.1 ++ encT sites m x T
theorem Tf.get {sites : Int} {m : q0x} {x : q06} (h : Tf sites m x) {b : Int} (hb : 0 ≤ b ∧ b < (m.2.2.2.length : Int)) : ∃ y, x.2[b.toNat]? = some y ∧ x.2.getD b.toNat q6k = y ∧ Br m.2.2.1 sites y := by
  have hlt : b.toNat < x.2.length := by rw [h.len]; omega
  exact ⟨x.2[b.toNat], by simp [hlt], by simp [List.getD, hlt], h.blocks _ (List.getElem_mem hlt)⟩
theorem encT_len {sites : Int} {m : q0x} {x : q06} {T : List Int} (h : Tf sites m x) (hr : 0 ≤ m.2.2.1 ∧ m.2.2.1 ≤ 8) (hs : 0 ≤ sites ∧ sites ≤ 4096) (hT : ∀ b ∈ T, 0 ≤ b ∧ b < (m.2.2.2.length : Int)) : (encT sites m x T).length ≤ 5000 * T.length := by
  refine q4v fun b hb => ?_
  obtain ⟨y, _, e, hy⟩ := h.get (hT b hb)
  rw [e]
  exact j10 hy hr hs
theorem j2k {sites : Int} {m : q0x} {x : q06} {T : List Int} (h : Tf sites m x) (hr : 0 ≤ m.2.2.1 ∧ m.2.2.1 ≤ 8) (ha : 0 ≤ m.2.1 ∧ m.2.1 ≤ 4) (hs : 0 ≤ sites ∧ sites ≤ 4096) (hm : m.2.2.2.length ≤ 12) (hT : q2y m.2.2.2.length T) : (encF sites T m x).length ≤ 60400 := by
  have h1 := q9s h.sum (by omega)
  have h2 := encT_len h hr hs hT.2
  have h3 := q3i hT
  have h4 : 5000 * T.length ≤ 5000 * 12 := Nat.mul_le_mul_left _ (by omega)
  simp only [encF, List.length_append]
  omega
theorem z9e (hK : 20000 ≤ K) {sites : Int} {m : q0x} {x : q06} {fs : List q0x} {i : Nat} (hi : fs[i]? = some m) (h : Tf sites m x) (hr : 0 ≤ m.2.2.1 ∧ m.2.2.1 ≤ 8) (hs : 0 ≤ sites ∧ sites ≤ 4096) {T : List Int} (hl : T.length ≤ 4096) (hT : ∀ b ∈ T, 0 ≤ b ∧ b < (m.2.2.2.length : Int)) : ∀ (T2 T1 : List Int) (k : Nat) (w : List Int), T = T1 ++ T2 → T2.length < k → w.length + 5000 * T2.length + 6000 ≤ 4000000 →
    q1v.l2.f K k sites ((i : Nat) : Int) T ((T.length : Nat) : Int) ((T1.length : Nat) : Int) fs x.2 w = some (w ++ encT sites m x T2)
  | T2, T1, 0, w, hh, hk, hw => by omega
  | [], T1, k + 1, w, hh, hk, hw => by
    rw [q1v.l2.f]
    simp only [q2n hh, cond_false, encT, List.flatMap_nil, List.append_nil]
  | b :: T2, T1, k + 1, w, hh, hk, hw => by
    rw [q1v.l2.f]
    have hl1 : T1.length ≤ 4096 := by rw [hh] at hl; simp at hl; omega
    have hb := hT b (by rw [hh]; simp)
    obtain ⟨y, q1, q2, q3⟩ := h.get hb
    have e1 : (decide (0 ≤ b) && true) = true := by simp; omega
    have hyl := j10 q3 hr hs
    have hm : T[T1.length]? = some b := by rw [hh]; simp
    simp only [List.length_cons] at hk hw
    simp only [q2m hh, ge0, Int.toNat_natCast, hm, cond_true, q0b, e1, q1, hi, bw_val hK hr hs q3 (w := w) (by omega), q1a (l1 := T1) (x := b) (by omega)]
    rw [z9e hK hi h hr hs hl hT T2 (T1 ++ [b]) k _ (q1j hh) (by omega) (by simp only [List.length_append]; omega)]
    simp only [encT, List.flatMap_cons, q2, List.append_assoc]
end Go.Proofs.YtdjkdmjdcdljmaaGreatDoor.AU
namespace Go.Proofs.YtdjkdmjdcdljmaaGreatDoor.AU
open Go.Proofs.YtdjkdmjdcdljmaaGreatDoorY Go.Proofs.YtdjkdmjdcdljmaaGreatDoorY.Runs
set_option maxRecDepth 100000
set_option maxHeartbeats 4000000
variable {K : Nat}
structure Tab (cells : List Int) (fs : List q0x) (is : List q0g) (cs : List q0l) (xs : List q06) (ss : List LSum) : Prop where
  clen : cs.length = cells.length
  cells : ∀ v ∈ cs, Vr v
  flen : xs.length = fs.length
  funcs : ∀ (i : Nat) m x, fs[i]? = some m → xs[i]? = some x → Tf (q4k fs) m x
  ilen : ss.length = is.length
  sums : ∀ (i : Nat) m s, is[i]? = some m → ss[i]? = some s → Sr m.2 s
noncomputable def tl (K : Nat) (sp : Bool) (m : q0x) : List Int := (q3u.f K m.2.2.2 sp).getD []
structure Fm (K : Nat) (sp : Bool) (m : q0x) : Prop where
  regs : 1 ≤ m.2.2.1 ∧ m.2.2.1 ≤ 8
  nb : 1 ≤ m.2.2.2.length ∧ m.2.2.2.length ≤ 12
  ar : 0 ≤ m.2.1 ∧ m.2.1 ≤ 4
  told : q3u.f K m.2.2.2 sp = some (tl K sp m)
  q2y : q2y m.2.2.2.length (tl K sp m)
  cut : sp = true → q4e.f K m.2.2.2 = some (tl K sp m)
  all : sp = false → ∀ b, b < m.2.2.2.length → ((b : Nat) : Int) ∈ tl K sp m
theorem WF.fm (hK : 20000 ≤ K) {cells : List Int} {fs : List q0x} {is : List q0g} (h : WF cells fs is) (sp : Bool) : ∀ m ∈ fs, Fm K sp m := by
  intro m hm
  obtain ⟨a, b, c, d⟩ := h.shape m hm
  obtain ⟨T, t1, t2, t3, t4⟩ := told_val (K := K) hK (l := m.2.2.2) ⟨b.1, by omega⟩ (regs := m.2.2.1) (fun x hx => (d x hx).2.2) sp
  have e : tl K sp m = T := by simp [tl, t1]
  exact ⟨a, b, c, by rw [e]; exact t1, by rw [e]; exact t2, by rw [e]; exact t3, by rw [e]; exact t4⟩
noncomputable def z1l (K : Nat) (sp : Bool) (sites : Int) : List q0x → List q06 → List Int
  | m :: fs, x :: xs => sec (encF sites (tl K sp m) m x) ++ z1l K sp sites fs xs
  | _, _ => []
theorem z36 {sp : Bool} {sites : Int} (hs : 0 ≤ sites ∧ sites ≤ 4096) : ∀ {fs : List q0x} {xs : List q06}, (∀ m ∈ fs, Fm K sp m) → (∀ (i : Nat) m x, fs[i]? = some m → xs[i]? = some x → Tf sites m x) → (z1l K sp sites fs xs).length ≤ 60500 * fs.length
  | [], xs, _, _ => by simp [z1l]
  | m :: fs, [], _, _ => by simp [z1l]
  | m :: fs, x :: xs, hm, hf => by
    have h1 := hm m (by simp)
    have h2 := j2k (hf 0 m x rfl rfl) ⟨by have := h1.regs; omega, h1.regs.2⟩ h1.ar hs h1.nb.2 h1.q2y
    have h3 := z7j (encF sites (tl K sp m) m x)
    have h4 := z36 hs (fs := fs) (xs := xs) (fun m' h => hm m' (by simp [h])) fun i m' x' a b => hf (i + 1) m' x' a b
    simp only [z1l, List.length_append, List.length_cons, Nat.mul_add]
    omega
theorem z7m : ∀ {is : List q0g} {ss : List LSum}, ss.length = is.length → (∀ m ∈ is, 0 ≤ m.2 ∧ m.2 ≤ 4) → (∀ (i : Nat) m s, is[i]? = some m → ss[i]? = some s → Sr m.2 s) → (ss.flatMap q6i).length ≤ 280 * ss.length
  | [], [], _, _, _ => by simp
  | [], _ :: _, h, _, _ => by simp at h
  | _ :: _, [], h, _, _ => by simp at h
  | m :: is, s :: ss, h, hi, hs => by
    have h1 := q9s (hs 0 m s rfl rfl) (by have := hi m (by simp); omega)
    have h2 := z7m (is := is) (ss := ss) (by simpa using h) (fun m' h => hi m' (by simp [h])) fun i m' x' a b => hs (i + 1) m' x' a b
    simp only [List.flatMap_cons, List.length_append, List.length_cons]
    omega
theorem z8x (hK : 20000 ≤ K) {l : List q0l} (hl : l.length ≤ 4096) (hr : ∀ v ∈ l, Vr v) : ∀ (l2 l1 : List q0l) (k : Nat) (w : List Int), l = l1 ++ l2 → l2.length < k → w.length + 31 * l2.length + 60 ≤ 4000000 → q1v.l0.f K k l ((l.length : Nat) : Int) ((l1.length : Nat) : Int) w = some (w ++ l2.flatMap encV)
  | l2, l1, 0, w, h, hk, hw => by omega
  | [], l1, k + 1, w, h, hk, hw => by
    rw [q1v.l0.f]
    simp only [q2n h, cond_false, List.flatMap_nil, List.append_nil]
  | x :: l2, l1, k + 1, w, h, hk, hw => by
    rw [q1v.l0.f]
    have hl1 : l1.length ≤ 4096 := by rw [h] at hl; simp at hl; omega
    have hx := hr x (by rw [h]; simp)
    have hlen := z1g x
    simp only [List.length_cons] at hw hk
    simp only [q2m h, ge0, q29 h, cond_true, q0b, j1e hK hx (w := w) (by omega), q1a (l1 := l1) (x := x) (by omega)]
    rw [z8x hK hl hr l2 (l1 ++ [x]) k _ (q1j h) (by omega) (by simp only [List.length_append]; omega)]
    simp
theorem z8l (hK : 20000 ≤ K) {is : List q0g} {ss : List LSum} (hl : ss.length ≤ 4096) (hlen : ss.length = is.length) (hi : ∀ m ∈ is, 0 ≤ m.2 ∧ m.2 ≤ 4) (hs : ∀ (i : Nat) m s, is[i]? = some m → ss[i]? = some s → Sr m.2 s) : ∀ (s2 s1 : List LSum) (k : Nat) (w : List Int), ss = s1 ++ s2 → s2.length < k → w.length + 280 * s2.length + 600 ≤ 4000000 → q1v.l3.f K k ss ((ss.length : Nat) : Int) ((s1.length : Nat) : Int) w = some (w ++ s2.flatMap q6i)
  | s2, s1, 0, w, h, hk, hw => by omega
  | [], s1, k + 1, w, h, hk, hw => by
    rw [q1v.l3.f]
    simp only [q2n h, cond_false, List.flatMap_nil, List.append_nil]
  | x :: s2, s1, k + 1, w, h, hk, hw => by
    rw [q1v.l3.f]
    have hl1 : s1.length < is.length := by rw [← hlen, h]; simp
    have hm : is[s1.length]? = some is[s1.length] := List.getElem?_eq_getElem hl1
    have hx : Sr is[s1.length].2 x := hs s1.length _ x hm (by rw [h]; simp)
    have ha := hi _ (List.getElem_mem hl1)
    have hln := q9s hx (by omega)
    simp only [List.length_cons] at hw hk
    simp only [q2m h, ge0, q29 h, cond_true, q0b, sum_val hK (a := is[s1.length].2) (by omega) hx (w := w) (by omega), q1a (l1 := s1) (x := x) (by omega)]
    rw [z8l hK hl hlen hi hs s2 (s1 ++ [x]) k _ (q1j h) (by omega) (by simp only [List.length_append]; omega)]
    simp
theorem z81 (hK : 20000 ≤ K) {sp : Bool} {sites : Int} (hs : 0 ≤ sites ∧ sites ≤ 4096) {fs : List q0x} {xs : List q06} (hl : fs.length ≤ 4096) (hm : ∀ m ∈ fs, Fm K sp m) (hf : ∀ (i : Nat) m x, fs[i]? = some m → xs[i]? = some x → Tf sites m x) : ∀ (f2 f1 : List q0x) (x2 x1 : List q06) (k : Nat) (w : List Int), fs = f1 ++ f2 → xs = x1 ++ x2 → f1.length = x1.length → f2.length = x2.length → f2.length < k → w.length + 60500 * f2.length + 70000 ≤ 4000000 →
    q1v.l1.f K k sp sites xs ((xs.length : Nat) : Int) ((x1.length : Nat) : Int) fs w = some (w ++ z1l K sp sites f2 x2)
  | f2, f1, x2, x1, 0, w, h1, h2, h3, h4, hk, hw => by omega
  | [], f1, [], x1, k + 1, w, h1, h2, h3, h4, hk, hw => by
    rw [q1v.l1.f]
    simp only [q2n h2, cond_false, z1l, List.append_nil]
  | [], f1, _ :: _, x1, k + 1, w, h1, h2, h3, h4, hk, hw => by simp at h4
  | _ :: _, f1, [], x1, k + 1, w, h1, h2, h3, h4, hk, hw => by simp at h4
  | m :: f2, f1, x :: x2, x1, k + 1, w, h1, h2, h3, h4, hk, hw => by
    rw [q1v.l1.f]
    have hl1 : x1.length ≤ 4096 := by rw [h1] at hl; simp at hl; omega
    have hmi : fs[x1.length]? = some m := by rw [h1, ← h3]; simp
    have hxi : xs[x1.length]? = some x := by rw [h2]; simp
    have hM := hm m (by rw [h1]; simp)
    have hF := hf _ m x hmi hxi
    have hR : 0 ≤ m.2.2.1 ∧ m.2.2.1 ≤ 8 := ⟨by have := hM.regs; omega, hM.regs.2⟩
    have hTl := q3i hM.q2y
    have hnb := hM.nb
    have hfl := j2k hF hR hM.ar hs hM.nb.2 hM.q2y
    have hsl := q9s hF.sum (by have := hM.ar; omega)
    simp only [List.length_cons] at h4 hk hw
    have g1 := sum_val (K := K) hK (a := m.2.1) (s := x.1) (w := []) (by have := hM.ar; omega) hF.sum (by simp)
    simp only [List.nil_append] at g1
    have g2 := z9e (K := K) hK hmi hF hR hs (T := tl K sp m) (by omega) hM.q2y.2 (tl K sp m) [] K (q6i x.1) rfl (by omega) (by omega)
    simp only [q2m h2, ge0, Int.toNat_natCast, hmi, hxi, cond_true, q0b, q4b.f, g1, hM.told, q1a (l1 := x1) (x := x) (by omega)]
    rw [show q1v.l2.f K K sites ((x1.length : Nat) : Int) (tl K sp m) (((tl K sp m).length : Nat) : Int) (0 : Int) fs x.2 (q6i x.1) = _ from g2, q0b, show q6i x.1 ++ encT sites m x (tl K sp m) = encF sites (tl K sp m) m x from rfl, q9u (by omega), q0b, j2f hK (by omega), q0b]
    have hse := z7j (encF sites (tl K sp m) m x)
    rw [z81 hK hs hl hm hf f2 (f1 ++ [m]) x2 (x1 ++ [x]) k _ (q1j h1) (q1j h2) (by simp [h3]) (by omega) (by omega) (by simp only [List.length_append]; omega)]
    simp [z1l]
end Go.Proofs.YtdjkdmjdcdljmaaGreatDoor.AU
namespace Go.Proofs.YtdjkdmjdcdljmaaGreatDoor.AU
open Go.Proofs.YtdjkdmjdcdljmaaGreatDoorY Go.Proofs.YtdjkdmjdcdljmaaGreatDoorY.Runs
set_option maxRecDepth 100000
set_option maxHeartbeats 4000000
variable {K : Nat}
theorem q6d {a : Int} : (a != a) = false := by simp
theorem z6h {v : q0l} (h : Vr v) : q46.f K v.1 v.2.1.1 v.2.1.2 v.2.2.1.1 v.2.2.1.2 v.2.2.2 = some false := by
  simp only [q46.f, q9z h, q0b, Bool.not_true]
theorem j3c {v : q0l} (h : Vr v) : q6e.f K v.1 v.2.1.1 v.2.1.2 v.2.2.1.1 v.2.2.1.2 v.2.2.2 = some false := by
  simp only [q6e.f, q9z h, q0b, Bool.not_true]
theorem idxT_l0 {l : List q0l} (hl : l.length ≤ 4096) (hr : ∀ v ∈ l, Vr v) : ∀ (l2 l1 : List q0l) (k : Nat), l = l1 ++ l2 → l2.length < k → q03.l0.f K k l ((l.length : Nat) : Int) ((l1.length : Nat) : Int) = some (.inl ())
  | l2, l1, 0, h, hk => by omega
  | [], l1, k + 1, h, hk => by
    rw [q03.l0.f]
    simp only [q2n h, cond_false]
  | x :: l2, l1, k + 1, h, hk => by
    rw [q03.l0.f]
    have hl1 : l1.length ≤ 4096 := by rw [h] at hl; simp at hl; omega
    simp only [List.length_cons] at hk
    simp only [q2m h, ge0, q29 h, cond_true, cond_false, q0b, z6h (hr x (by rw [h]; simp)), q1a (l1 := l1) (x := x) (by omega)]
    exact idxT_l0 hl hr l2 (l1 ++ [x]) k (q1j h) (by omega)
theorem idxS_l0 {l : List q0l} (hl : l.length ≤ 4096) (hr : ∀ v ∈ l, Vr v) : ∀ (l2 l1 : List q0l) (k : Nat), l = l1 ++ l2 → l2.length < k → q04.l0.f K k l ((l.length : Nat) : Int) ((l1.length : Nat) : Int) = some (.inl ())
  | l2, l1, 0, h, hk => by omega
  | [], l1, k + 1, h, hk => by
    rw [q04.l0.f]
    simp only [q2n h, cond_false]
  | x :: l2, l1, k + 1, h, hk => by
    rw [q04.l0.f]
    have hl1 : l1.length ≤ 4096 := by rw [h] at hl; simp at hl; omega
    simp only [List.length_cons] at hk
    simp only [q2m h, ge0, q29 h, cond_true, cond_false, q0b, j3c (hr x (by rw [h]; simp)), q1a (l1 := l1) (x := x) (by omega)]
    exact idxS_l0 hl hr l2 (l1 ++ [x]) k (q1j h) (by omega)
theorem contT_val (hK : 20000 ≤ K) {l : List q0l} (hl : l.length ≤ 4096) (hr : ∀ v ∈ l, Vr v) : q1c.f K l = some false := by
  unfold q1c.f q03.f
  rw [show q03.l0.f K K l ((l.length : Nat) : Int) (0 : Int) = _ from idxT_l0 (K := K) hl hr l [] K rfl (by omega)]
  rfl
theorem contS_val (hK : 20000 ≤ K) {l : List q0l} (hl : l.length ≤ 4096) (hr : ∀ v ∈ l, Vr v) : q1b.f K l = some false := by
  unfold q1b.f q04.f
  rw [show q04.l0.f K K l ((l.length : Nat) : Int) (0 : Int) = _ from idxS_l0 (K := K) hl hr l [] K rfl (by omega)]
  rfl
theorem j1p (hK : 20000 ≤ K) {a : Int} {s : LSum} (ha : 0 ≤ a ∧ a ≤ 8) (h : Sr a s) : q7r.f K s.1 s.2.1 s.2.2.1 s.2.2.2.1 s.2.2.2.2.1.1 s.2.2.2.2.1.2 s.2.2.2.2.2.1.1 s.2.2.2.2.2.1.2 s.2.2.2.2.2.2 a = some 0 := by
  have hlen := h.len ha
  obtain ⟨h1, h2, h3, h4, h5⟩ := h
  obtain ⟨c, args, r, res⟩ := s
  dsimp only at *
  unfold q7r.f
  have hc := contT_val (K := K) hK (l := args) (by omega) h3
  cases r with
  | true =>
    have hw := z6h (K := K) (h4 rfl)
    cases c with
    | true =>
      have e := h2 rfl
      rw [← e]
      simp only [Bool.not_true, cond_true, cond_false, q6d, hc, q0b, hw, q0z]
    | false =>
      have e := h1 rfl
      subst e
      simp only [Bool.not_true, Bool.not_false, cond_true, cond_false, List.length_nil, show ((((0 : Nat) : Int)) != 0) = false from rfl, hc, q0b, hw, q0z]
  | false =>
    have hz := h5 rfl
    subst hz
    cases c with
    | true =>
      have e := h2 rfl
      rw [← e]
      simp only [Bool.not_true, Bool.not_false, cond_true, cond_false, q6d, hc, q0b, q0z]
      rfl
    | false =>
      have e := h1 rfl
      subst e
      simp only [Bool.not_true, Bool.not_false, cond_true, cond_false, List.length_nil, show ((((0 : Nat) : Int)) != 0) = false from rfl, hc, q0b, q0z]
      rfl
theorem z9h (hK : 20000 ≤ K) {n : Int} (hn : 0 ≤ n ∧ n ≤ 4096) {l : List (List Int)} (hl : l.length ≤ 4096) (hr : ∀ s ∈ l, q2y n s) : ∀ (l2 l1 : List (List Int)) (k : Nat), l = l1 ++ l2 → l2.length < k → q35.l0.f K k n l ((l.length : Nat) : Int) ((l1.length : Nat) : Int) = some (.inl ())
  | l2, l1, 0, h, hk => by omega
  | [], l1, k + 1, h, hk => by
    rw [q35.l0.f]
    simp only [q2n h, cond_false]
  | x :: l2, l1, k + 1, h, hk => by
    rw [q35.l0.f]
    have hl1 : l1.length ≤ 4096 := by rw [h] at hl; simp at hl; omega
    simp only [List.length_cons] at hk
    simp only [q2m h, ge0, q29 h, cond_true, cond_false, q0b, q9w hK hn (hr x (by rw [h]; simp)), Bool.not_true, q1a (l1 := l1) (x := x) (by omega)]
    exact z9h hK hn hl hr l2 (l1 ++ [x]) k (q1j h) (by omega)
theorem j1g (hK : 20000 ≤ K) {regs sites : Int} {x : q1l} (hr : 0 ≤ regs ∧ regs ≤ 8) (hs : 0 ≤ sites ∧ sites ≤ 4096) (h : Br regs sites x) : q35.f K x.1.1 x.1.2.1 x.1.2.2 regs sites = some true := by
  obtain ⟨q1, q2⟩ := h.len hr
  obtain ⟨h1, h2, h3, h4, h5⟩ := h
  unfold q35.f
  have g := z9h (K := K) hK hs (l := x.1.2.2) (by omega) h4 x.1.2.2 [] K rfl (by omega)
  have g' : q35.l0.f K K sites x.1.2.2 ((x.1.2.2.length : Nat) : Int) (0 : Int) = some (.inl ()) := g
  have c := contS_val (K := K) hK (l := x.1.2.1) (by omega) h3
  cases hx : x.1.1 with
  | true =>
    obtain ⟨e1, e2⟩ := h2 hx
    have b1 : (((x.1.2.1.length : Nat) : Int) != regs) = false := by rw [e1]; exact q6d
    have b2 : (((x.1.2.2.length : Nat) : Int) != regs) = false := by rw [e2]; exact q6d
    simp only [Bool.not_true, cond_false, b1, b2, q0z, q0b, g', Sum.elim_inl, c, Bool.not_false]
  | false =>
    obtain ⟨e1, e2⟩ := h1 hx
    have b1 : (((x.1.2.1.length : Nat) : Int) != 0) = false := by rw [e1]; rfl
    have b2 : (((x.1.2.2.length : Nat) : Int) != 0) = false := by rw [e2]; rfl
    simp only [Bool.not_false, cond_true, cond_false, b1, b2, q0z, q0b, g', Sum.elim_inl, c]
theorem j26 (hK : 20000 ≤ K) {regs sites : Int} {x : q1l} {sp cut : Bool} (hr : 0 ≤ regs ∧ regs ≤ 8) (hs : 0 ≤ sites ∧ sites ≤ 4096) (h : Br regs sites x) (hz : sp = true → cut = false → x = q6k) : q3r.f K sites sp regs x.1.1 x.1.2.1 x.1.2.2 x.2 cut = some 0 := by
  have hR := j1g (K := K) hK hr hs h
  have hB := q9w (K := K) hK (n := regs) (by omega) h.live
  unfold q3r.f
  have last : (q1g (bif sp then bif !cut then bif x.1.1 then some true else some (decide (((x.2.length : Nat) : Int) > 0)) else some false else some false) fun t => bif t then some (12 : Int) else some 0) = some 0 := by
    cases sp with
    | false => rfl
    | true => cases cut with
      | true => rfl
      | false => rw [hz rfl rfl]; rfl
  cases hx : x.1.1 with
  | true =>
    obtain ⟨e1, e2⟩ := h.on hx
    have b1 : (((x.1.2.1.length : Nat) : Int) != regs) = false := by rw [e1]; exact q6d
    have b2 : (((x.1.2.2.length : Nat) : Int) != regs) = false := by rw [e2]; exact q6d
    rw [hx] at hR last
    simp only [cond_true, cond_false, b1, b2, q0b, hR, hB, Bool.not_true]
    rw [z5h, cond_false]
    exact last
  | false =>
    obtain ⟨e1, e2⟩ := h.off hx
    have b1 : (((x.1.2.1.length : Nat) : Int) != 0) = false := by rw [e1]; rfl
    have b2 : (((x.1.2.2.length : Nat) : Int) != 0) = false := by rw [e2]; rfl
    rw [hx] at hR last
    simp only [cond_false, b1, b2, q0b, hR, hB, Bool.not_true]
    rw [z5h, cond_false]
    exact last
theorem j19 (hK : 20000 ≤ K) {sites : Int} (hs : 0 ≤ sites ∧ sites ≤ 4096) {m : q0x} {x : q06} {sp : Bool} {C : List Int} (hr : 0 ≤ m.2.2.1 ∧ m.2.2.1 ≤ 8) (hnb : m.2.2.2.length ≤ 12) (h : Tf sites m x) (hC : q2y m.2.2.2.length C) (hz : sp = true → ∀ j : Nat, j < m.2.2.2.length → ((j : Nat) : Int) ∉ C → x.2[j]? = some q6k) : ∀ (l2 l1 : List q1l) (k : Nat), x.2 = l1 ++ l2 → l2.length < k → q11.l0.f K k C x.2 ((x.2.length : Nat) : Int) ((l1.length : Nat) : Int) sites sp m.2.2.1 = some (.inl ())
  | l2, l1, 0, hh, hk => by omega
  | [], l1, k + 1, hh, hk => by
    rw [q11.l0.f]
    simp only [q2n hh, cond_false]
  | y :: l2, l1, k + 1, hh, hk => by
    rw [q11.l0.f]
    have hlen := h.len
    have hl1 : l1.length < m.2.2.2.length := by rw [← hlen, hh]; simp
    have hy : x.2[l1.length]? = some y := by rw [hh]; simp
    simp only [List.length_cons] at hk
    simp only [q2m hh, ge0, q29 hh, cond_true, q0b, rhas_val hK (by omega) hC, j26 hK hr hs (h.blocks y (by rw [hh]; simp)) (sp := sp) (cut := decide (((l1.length : Nat) : Int) ∈ C)) (fun h1 h2 => by
      have := hz h1 l1.length hl1 (by simpa using h2)
      rw [hy] at this; cases this; rfl), show ((0 : Int) != 0) = false from rfl, cond_false, q1a (l1 := l1) (x := y) (by omega)]
    exact j19 hK hs hr hnb h hC hz l2 (l1 ++ [y]) k (q1j hh) (by omega)
theorem cfunc_val (hK : 20000 ≤ K) {sites : Int} (hs : 0 ≤ sites ∧ sites ≤ 4096) {m : q0x} {x : q06} {sp : Bool} (hm : Fm K sp m) (hc : ∃ C, q4e.f K m.2.2.2 = some C ∧ q2y m.2.2.2.length C) (h : Tf sites m x) (hz : ∀ j : Nat, j < m.2.2.2.length → ((j : Nat) : Int) ∉ tl K sp m → x.2[j]? = some q6k) :
    q11.f K sites sp m.2.1 m.2.2.1 m.2.2.2 x.1.1 x.1.2.1 x.1.2.2.1 x.1.2.2.2.1 x.1.2.2.2.2.1.1 x.1.2.2.2.2.1.2 x.1.2.2.2.2.2.1.1 x.1.2.2.2.2.2.1.2 x.1.2.2.2.2.2.2 x.2 = some Err.nil := by
  obtain ⟨C, c1, c2⟩ := hc
  have hlen := h.len
  have hnb := hm.nb
  have hR : 0 ≤ m.2.2.1 ∧ m.2.2.1 ≤ 8 := ⟨by have := hm.regs; omega, hm.regs.2⟩
  unfold q11.f
  have g := j19 (K := K) hK hs (sp := sp) hR hm.nb.2 h c2 (fun hsp j hj hn => hz j hj (by
    have := hm.cut hsp
    rw [c1] at this
    cases this
    exact hn)) x.2 [] K rfl (by omega)
  have g' : q11.l0.f K K C x.2 ((x.2.length : Nat) : Int) (0 : Int) sites sp m.2.2.1 = some (.inl ()) := g
  have e : (((x.2.length : Nat) : Int) != ((m.2.2.2.length : Nat) : Int)) = false := by rw [hlen]; exact q6d
  simp only [j1p hK (a := m.2.1) (by have := hm.ar; omega) h.sum, q0b, show ((0 : Int) != 0) = false from rfl, cond_false, e, c1, g', Sum.elim_inl]
theorem z9u {l : List q0l} (hl : l.length ≤ 4096) (hr : ∀ v ∈ l, Vr v) : ∀ (l2 l1 : List q0l) (k : Nat), l = l1 ++ l2 → l2.length < k → q2i.l0.f K k l ((l.length : Nat) : Int) ((l1.length : Nat) : Int) = some (.inl ())
  | l2, l1, 0, h, hk => by omega
  | [], l1, k + 1, h, hk => by
    rw [q2i.l0.f]
    simp only [q2n h, cond_false]
  | x :: l2, l1, k + 1, h, hk => by
    rw [q2i.l0.f]
    have hl1 : l1.length ≤ 4096 := by rw [h] at hl; simp at hl; omega
    simp only [List.length_cons] at hk
    simp only [q2m h, ge0, q29 h, cond_true, cond_false, q0b, q9z (hr x (by rw [h]; simp)), Bool.not_true, q1a (l1 := l1) (x := x) (by omega)]
    exact z9u hl hr l2 (l1 ++ [x]) k (q1j h) (by omega)
theorem z9v (hK : 20000 ≤ K) {is : List q0g} {ss : List LSum} (hl : ss.length ≤ 4096) (hlen : ss.length = is.length) (hi : ∀ m ∈ is, 0 ≤ m.2 ∧ m.2 ≤ 4) (hs : ∀ (i : Nat) m s, is[i]? = some m → ss[i]? = some s → Sr m.2 s) : ∀ (s2 s1 : List LSum) (k : Nat), ss = s1 ++ s2 → s2.length < k → q2i.l2.f K k ss ((ss.length : Nat) : Int) ((s1.length : Nat) : Int) is = some (.inl ())
  | s2, s1, 0, h, hk => by omega
  | [], s1, k + 1, h, hk => by
    rw [q2i.l2.f]
    simp only [q2n h, cond_false]
  | x :: s2, s1, k + 1, h, hk => by
    rw [q2i.l2.f]
    have hl1 : s1.length < is.length := by rw [← hlen, h]; simp
    have hm : is[s1.length]? = some is[s1.length] := List.getElem?_eq_getElem hl1
    have hxi : ss[s1.length]? = some x := by rw [h]; simp
    have hx : Sr is[s1.length].2 x := hs s1.length _ x hm hxi
    have ha := hi _ (List.getElem_mem hl1)
    simp only [List.length_cons] at hk
    simp only [q2m h, ge0, Int.toNat_natCast, hxi, hm, cond_true, cond_false, q0b, j1p hK (a := is[s1.length].2) (by omega) hx, show ((0 : Int) != 0) = false from rfl, q1a (l1 := s1) (x := x) (by omega)]
    exact z9v hK hl hlen hi hs s2 (s1 ++ [x]) k (q1j h) (by omega)
theorem z8f (hK : 20000 ≤ K) {sp : Bool} {sites : Int} (hs : 0 ≤ sites ∧ sites ≤ 4096) {fs : List q0x} {xs : List q06} (hl : fs.length ≤ 4096) (hlen : xs.length = fs.length) (hm : ∀ m ∈ fs, Fm K sp m) (hc : ∀ m ∈ fs, ∃ C, q4e.f K m.2.2.2 = some C ∧ q2y m.2.2.2.length C) (hf : ∀ (i : Nat) m x, fs[i]? = some m → xs[i]? = some x → Tf sites m x)
    (hz : ∀ (i : Nat) m x, fs[i]? = some m → xs[i]? = some x → ∀ j : Nat, j < m.2.2.2.length → ((j : Nat) : Int) ∉ tl K sp m → x.2[j]? = some q6k) : ∀ (x2 x1 : List q06) (k : Nat), xs = x1 ++ x2 → x2.length < k → q2i.l1.f K k xs ((xs.length : Nat) : Int) ((x1.length : Nat) : Int) fs sites sp = some (.inl ())
  | x2, x1, 0, h, hk => by omega
  | [], x1, k + 1, h, hk => by
    rw [q2i.l1.f]
    simp only [q2n h, cond_false]
  | x :: x2, x1, k + 1, h, hk => by
    rw [q2i.l1.f]
    have hl1 : x1.length < fs.length := by rw [← hlen, h]; simp
    have hmi : fs[x1.length]? = some fs[x1.length] := List.getElem?_eq_getElem hl1
    have hxi : xs[x1.length]? = some x := by rw [h]; simp
    have hmem := List.getElem_mem hl1
    simp only [List.length_cons] at hk
    simp only [q2m h, ge0, Int.toNat_natCast, hxi, hmi, cond_true, cond_false, q0b, cfunc_val hK hs (hm _ hmem) (hc _ hmem) (hf _ _ x hmi hxi) (hz _ _ x hmi hxi), Err.isNil, Bool.not_true, q1a (l1 := x1) (x := x) (by omega)]
    exact z8f hK hs hl hlen hm hc hf hz x2 (x1 ++ [x]) k (q1j h) (by omega)
theorem WF.ims {cells : List Int} {fs : List q0x} {is : List q0g} (h : WF cells fs is) (hw : wide cells fs) : ∀ m ∈ is, 0 ≤ m.2 ∧ m.2 ≤ 4 := fun m hm => (((h.low hw).imports m hm).2)
theorem z06 {cells : List Int} {fs : List q0x} {is : List q0g} (h : WF cells fs is) (hs : q4k fs ≤ 4096) : 0 ≤ ((q4k fs : Nat) : Int) ∧ ((q4k fs : Nat) : Int) ≤ 4096 := by omega
theorem j4e (hK : 20000 ≤ K) {cells : List Int} {fs : List q0x} {is : List q0g} {cs : List q0l} {xs : List q06} {ss : List LSum} {sp : Bool} (h : WF cells fs is) (hw : wide cells fs) (hs : q4k fs ≤ 4096) (ht : Tab cells fs is cs xs ss)
    (hz : ∀ (i : Nat) m x, fs[i]? = some m → xs[i]? = some x → ∀ j : Nat, j < m.2.2.2.length → ((j : Nat) : Int) ∉ tl K sp m → x.2[j]? = some q6k) : q2i.f K cells fs is cs xs ss sp = some Err.nil := by
  obtain ⟨t1, t2, t3, t4, t5, t6⟩ := ht
  have hn := h.ncells
  have hcnt := h.count
  have hS := z06 h hs
  unfold q2i.f
  have g0 := z9u (K := K) (l := cs) (by omega) t2 cs [] K rfl (by omega)
  have g0' : q2i.l0.f K K cs ((cs.length : Nat) : Int) (0 : Int) = some (.inl ()) := g0
  have g1 := z8f (K := K) hK hS (sp := sp) (by omega) t3 (h.fm hK sp) (fun m hm => by
    have := (h.fm hK true) m hm
    exact ⟨_, this.cut rfl, this.q2y⟩) t4 hz xs [] K rfl (by omega)
  have g1' : q2i.l1.f K K xs ((xs.length : Nat) : Int) (0 : Int) fs ((q4k fs : Nat) : Int) sp = some (.inl ()) := g1
  have g2 := z9v (K := K) hK (is := is) (ss := ss) (by omega) t5 (h.ims hw) t6 ss [] K rfl (by omega)
  have g2' : q2i.l2.f K K ss ((ss.length : Nat) : Int) (0 : Int) is = some (.inl ()) := g2
  have e1 : (((cs.length : Nat) : Int) != ((cells.length : Nat) : Int)) = false := by rw [t1]; exact q6d
  have e2 : (((xs.length : Nat) : Int) != ((fs.length : Nat) : Int)) = false := by rw [t3]; exact q6d
  have e3 : (((ss.length : Nat) : Int) != ((is.length : Nat) : Int)) = false := by rw [t5]; exact q6d
  simp only [z5e hK h, q0b, Err.isNil, Bool.not_true, cond_true, cond_false, e1, e2, e3, q0z, g0', Sum.elim_inl, z12 hK h, g1', g2']
noncomputable def z8e (K : Nat) (sp : Bool) (cells : List Int) (fs : List q0x) (is : List q0g) (cs : List q0l) (xs : List q06) (ss : List LSum) : List Int :=
  [65, 70, 1] ++ ([((bn sp : Nat) : Int)] ++ (sec (q6a cells fs is) ++ (cs.flatMap encV ++ (z1l K sp ((q4k fs : Nat) : Int) fs xs ++ ss.flatMap q6i))))
theorem fileB_len {sp : Bool} {cells : List Int} {fs : List q0x} {is : List q0g} {cs : List q0l} {xs : List q06} {ss : List LSum} (hK : 20000 ≤ K) (h : WF cells fs is) (hw : wide cells fs) (hs : q4k fs ≤ 4096) (ht : Tab cells fs is cs xs ss) : (z8e K sp cells fs is cs xs ss).length ≤ 1600000 := by
  have h1 := z1w (h.low hw)
  have h2 := z7j (q6a cells fs is)
  have h3 := z0x (l := cs)
  have h4 := z36 (K := K) (sp := sp) (z06 h hs) (fs := fs) (xs := xs) (h.fm hK sp) ht.funcs
  have h5 := z7m ht.ilen (h.ims hw) ht.sums
  have hn := h.ncells
  have hcnt := h.count
  have e1 := ht.clen
  have e2 := ht.ilen
  simp only [z8e, List.length_append, List.length_cons, List.length_nil]
  omega
theorem j3g (hK : 20000 ≤ K) {sp : Bool} {cells : List Int} {fs : List q0x} {is : List q0g} {cs : List q0l} {xs : List q06} {ss : List LSum} (h : WF cells fs is) (hw : wide cells fs) (hs : q4k fs ≤ 4096) (ht : Tab cells fs is cs xs ss)
    (hz : ∀ (i : Nat) m x, fs[i]? = some m → xs[i]? = some x → ∀ j : Nat, j < m.2.2.2.length → ((j : Nat) : Int) ∉ tl K sp m → x.2[j]? = some q6k) : q1v.f K cells fs is cs xs ss sp = some (z8e K sp cells fs is cs xs ss, Err.nil) := by
  have hlen := fileB_len (sp := sp) hK h hw hs ht
  have hcheck := j4e (K := K) hK (sp := sp) h hw hs ht hz
  have hml := z1w (h.low hw)
  have hsl := z7j (q6a cells fs is)
  have hvl := z0x (l := cs)
  have hfl := z36 (K := K) (sp := sp) (z06 h hs) (fs := fs) (xs := xs) (h.fm hK sp) ht.funcs
  have hul := z7m ht.ilen (h.ims hw) ht.sums
  obtain ⟨t1, t2, t3, t4, t5, t6⟩ := ht
  have hn := h.ncells
  have hcnt := h.count
  have go : ∀ b : Int, b = ((bn sp : Nat) : Int) → ((q0n.f K b ([] ++ [65, 70, 1])).bind fun t_4 => (q1o.f K (q6a cells fs is) t_4).bind fun t => (q1v.l0.f K K cs ((cs.length : Nat) : Int) 0 t).bind fun t => (q4u.f K fs).bind fun t_5 => (q1v.l1.f K K sp t_5 xs ((xs.length : Nat) : Int) 0 fs t).bind fun t => (q1v.l3.f K K ss ((ss.length : Nat) : Int) 0 t).bind fun t => (q1s.f K t).bind fun t => some (t, Err.nil)) = some (z8e K sp cells fs is cs xs ss, Err.nil) := by
    intro b hb
    have p0 := z8x (K := K) hK (l := cs) (by omega) t2 cs [] K ([] ++ [65, 70, 1] ++ [b] ++ sec (q6a cells fs is)) rfl (by omega) (by simp only [List.length_append, List.length_cons, List.length_nil]; omega)
    have p1 := z81 (K := K) hK (sp := sp) (z06 h hs) (fs := fs) (xs := xs) (by omega) (h.fm hK sp) t4 fs [] xs [] K ([] ++ [65, 70, 1] ++ [b] ++ sec (q6a cells fs is) ++ cs.flatMap encV) rfl rfl rfl t3.symm (by omega) (by simp only [List.length_append, List.length_cons, List.length_nil]; omega)
    have p2 := z8l (K := K) hK (is := is) (ss := ss) (by omega) t5 (h.ims hw) t6 ss [] K ([] ++ [65, 70, 1] ++ [b] ++ sec (q6a cells fs is) ++ cs.flatMap encV ++ z1l K sp ((q4k fs : Nat) : Int) fs xs) rfl (by omega) (by simp only [List.length_append, List.length_cons, List.length_nil]; omega)
    rw [q62 (by simp), q0b, j2f hK (by simp only [List.length_append, List.length_cons, List.length_nil]; omega), q0b, show q1v.l0.f K K cs ((cs.length : Nat) : Int) (0 : Int) _ = _ from p0, q0b, z12 hK h, q0b,
      show q1v.l1.f K K sp ((q4k fs : Nat) : Int) xs ((xs.length : Nat) : Int) (0 : Int) fs _ = _ from p1, q0b, show q1v.l3.f K K ss ((ss.length : Nat) : Int) (0 : Int) _ = _ from p2, q0b]
    have e : [] ++ [65, 70, 1] ++ [b] ++ sec (q6a cells fs is) ++ cs.flatMap encV ++ z1l K sp ((q4k fs : Nat) : Int) fs xs ++ ss.flatMap q6i = z8e K sp cells fs is cs xs ss := by rw [hb]; simp [z8e]
    rw [e, q9u (by omega), q0b]
  unfold q1v.f
  simp only [hcheck, q0b, Err.isNil, Bool.not_true, cond_true, cond_false, write_val hK h (h.low hw), q4b.f, q4o.f, z4b (K := K) (a := [65, 70, 1]) (l := []) (by simp)]
  cases hsp : sp with
  | true =>
    rw [hsp] at go
    simp only [cond_true]
    exact go 1 rfl
  | false =>
    rw [hsp] at go
    simp only [cond_false]
    exact go 0 rfl
theorem head_same (a : List Int) : (!(strOf a).toList == (strOf a).toList) = false := by simp
end Go.Proofs.YtdjkdmjdcdljmaaGreatDoor.AU
namespace Go.Proofs.YtdjkdmjdcdljmaaGreatDoor.AU
open Go.Proofs.YtdjkdmjdcdljmaaGreatDoorY
theorem dec_lt {a b : Nat} (h : a < b) : decide (((a : Nat) : Int) < ((b : Nat) : Int)) = true := decide_eq_true (by omega)
theorem q4m {n : Nat} (h : n < 1000000000) : IntKind.i64.wrap (((n : Nat) : Int) + (1 : Int)) = ((n + 1 : Nat) : Int) := by rw [q0u (by omega) (by omega)]; omega
theorem get_lt {α : Type} {l : List α} {n : Nat} (h : n < l.length) : ∃ x, l[n]? = some x ∧ x ∈ l := ⟨l[n], List.getElem?_eq_getElem h, List.getElem_mem h⟩
def fits (fs : List q0x) : Prop := fs.length ≤ 4096 ∧ ∀ f ∈ fs, f.2.2.2.length ≤ 4096 ∧ ∀ b ∈ f.2.2.2, b.1.length ≤ 4096 ∧ ∀ x ∈ b.1, x.2.2.2.2.2.length ≤ 4096
variable {K : Nat}
theorem WF.fits {cells : List Int} {fs : List q0x} {is : List q0g} (h : WF cells fs is) : fits fs := by
  have hc := h.count
  refine ⟨by omega, fun f hf => ?_⟩
  obtain ⟨i, hi⟩ := List.getElem?_of_mem hf
  obtain ⟨a, b, c, d⟩ := h.shape f hf
  refine ⟨by omega, fun b hb => ?_⟩
  obtain ⟨d1, d2⟩ := d b hb
  refine ⟨by omega, fun x hx => ?_⟩
  have ok := (h.funcs i f hi).1
  have := j0e ((ok.each b hb).insns x hx) h.ar_le
  omega
theorem WF.short {cells : List Int} {fs : List q0x} {is : List q0g} (h : WF cells fs is) : ∀ m ∈ fs, (1 ≤ m.2.2.1 ∧ m.2.2.1 ≤ 8) ∧ m.2.2.2.length ≤ 12 ∧ 0 ≤ m.2.1 ∧ m.2.1 ≤ 4 := fun m hm => by
  obtain ⟨a, b, c, d⟩ := h.shape m hm
  exact ⟨a, b.2, c⟩
end Go.Proofs.YtdjkdmjdcdljmaaGreatDoor.AU
namespace Go.Proofs.YtdjkdmjdcdljmaaGreatDoor.AU
open Go.Proofs.YtdjkdmjdcdljmaaGreatDoorY Go.Proofs.YtdjkdmjdcdljmaaGreatDoorY.Runs
set_option maxRecDepth 100000
set_option maxHeartbeats 4000000
variable {K : Nat}
def q5e (o : Option Bool) (P : Prop) : Prop := ∃ r, o = some r ∧ (r = true ↔ P)
theorem q5e.imp {o : Option Bool} {P Q : Prop} (h : q5e o P) (e : P ↔ Q) : q5e o Q := by
  obtain ⟨r, h1, h2⟩ := h; exact ⟨r, h1, h2.trans e⟩
theorem q59 {A B : Option Bool} {P Q : Prop} (h1 : q5e A P) (h2 : q5e B Q) : q5e (A.bind fun t => bif t then B else some false) (P ∧ Q) := by
  obtain ⟨r, r1, r2⟩ := h1
  obtain ⟨s, s1, s2⟩ := h2
  rw [r1, q0b]
  cases r with
  | false => exact ⟨false, rfl, ⟨fun e => (by cases e), fun e => by have := r2.2 e.1; cases this⟩⟩
  | true => exact ⟨s, s1, ⟨fun e => ⟨r2.1 rfl, s2.1 e⟩, fun e => s2.2 e.2⟩⟩
theorem q5i {c : Bool} {B : Option Bool} {P Q : Prop} (h1 : c = true ↔ P) (h2 : q5e B Q) : q5e (bif c then B else some false) (P ∧ Q) :=
  q59 (A := some c) ⟨c, rfl, h1⟩ h2
theorem j3h {c : Bool} {P : Prop} (h : c = true ↔ P) : q5e (some c) P := ⟨c, rfl, h⟩
theorem q8u {o : Option Bool} : (q1g o fun t => some t) = o := by cases o <;> rfl
theorem q71 {o : Option Bool} : (o.bind fun t => some t) = o := by cases o <;> rfl
theorem eq_loop {α : Type} {a b : List α} (hl : a.length = b.length) {L : Nat → Int → Option (Unit ⊕ Bool)}
    (hs : ∀ (k i : Nat) x y, a[i]? = some x → b[i]? = some y → ∃ r : Bool, (r = true ↔ x = y) ∧ L (k + 1) ((i : Nat) : Int) = bif !r then some (.inr false) else L k ((i + 1 : Nat) : Int))
    (he : ∀ k, L (k + 1) ((a.length : Nat) : Int) = some (.inl ())) : ∀ (k i : Nat), i ≤ a.length → a.length - i < k → ∃ r, L k ((i : Nat) : Int) = some r ∧ ((r = .inl () ∧ a.drop i = b.drop i) ∨ (r = .inr false ∧ a.drop i ≠ b.drop i))
  | 0, i, h, hk => by omega
  | k + 1, i, h, hk => by
    by_cases c : i < a.length
    · have hx : a[i]? = some a[i] := List.getElem?_eq_getElem c
      have hy : b[i]? = some b[i] := List.getElem?_eq_getElem (by omega)
      obtain ⟨r, r1, r2⟩ := hs k i _ _ hx hy
      rw [r2]
      have da : a.drop i = a[i] :: a.drop (i + 1) := List.drop_eq_getElem_cons c
      have db : b.drop i = b[i] :: b.drop (i + 1) := List.drop_eq_getElem_cons (by omega)
      cases r with
      | false =>
        refine ⟨_, rfl, .inr ⟨rfl, fun e => ?_⟩⟩
        rw [da, db] at e
        have := r1.2 (List.cons.inj e).1
        cases this
      | true =>
        obtain ⟨s, s1, s2⟩ := eq_loop hl hs he k (i + 1) (by omega) (by omega)
        refine ⟨s, s1, ?_⟩
        have ex := r1.1 rfl
        rcases s2 with ⟨q1, q2⟩ | ⟨q1, q2⟩
        · exact .inl ⟨q1, by rw [da, db, ex, q2]⟩
        · exact .inr ⟨q1, fun e => q2 (by rw [da, db] at e; exact (List.cons.inj e).2)⟩
    · have : i = a.length := by omega
      subst this
      exact ⟨_, he k, .inl ⟨rfl, by rw [List.drop_length, hl, List.drop_length]⟩⟩
theorem q82 {α : Type} {a b : List α} {L : Nat → Int → Option (Unit ⊕ Bool)} {k : Nat} (hk : a.length < k)
    (hs : a.length = b.length → ∀ (k i : Nat) x y, a[i]? = some x → b[i]? = some y → ∃ r : Bool, (r = true ↔ x = y) ∧ L (k + 1) ((i : Nat) : Int) = bif !r then some (.inr false) else L k ((i + 1 : Nat) : Int))
    (he : ∀ k, L (k + 1) ((a.length : Nat) : Int) = some (.inl ())) : q5e (bif ((a.length : Nat) : Int) != ((b.length : Nat) : Int) then some false else (L k (0 : Int)).bind fun t => Sum.elim (fun t => some true) (fun t => some t) t) (a = b) := by
  by_cases c : a.length = b.length
  · have e : (((a.length : Nat) : Int) != ((b.length : Nat) : Int)) = false := by rw [c]; exact q6d
    obtain ⟨r, r1, r2⟩ := eq_loop c (hs c) he k 0 (by omega) (by omega)
    have r1' : L k (0 : Int) = some r := r1
    rw [e, cond_false, r1', q0b]
    simp only [List.drop_zero] at r2
    rcases r2 with ⟨q1, q2⟩ | ⟨q1, q2⟩
    · subst q1; exact ⟨true, rfl, by simp [q2]⟩
    · subst q1; exact ⟨false, rfl, by simp [q2]⟩
  · have e : (((a.length : Nat) : Int) != ((b.length : Nat) : Int)) = true := by simp; omega
    rw [e, cond_true]
    exact ⟨false, rfl, by simp; intro e; rw [e] at c; exact c rfl⟩
theorem q3v {α : Type} {l : List α} {i : Nat} {x : α} (h : l[i]? = some x) : i < l.length := by
  by_cases q : i < l.length
  · exact q
  · rw [List.getElem?_eq_none (by omega)] at h; cases h
theorem q7e {n : Nat} : decide (((n : Nat) : Int) < ((n : Nat) : Int)) = false := by simp
theorem get_byte (b : ByteArray) (i : Nat) (h : i < b.data.toList.length) : b.get! i = b.data.toList[i] := by
  cases b with
  | mk d =>
    show d[i]! = d.toList[i]
    rw [getElem!_pos d i (by simpa using h), Array.getElem_toList]
theorem z9m (b : ByteArray) : ∀ (n i : Nat) (r : List UInt8), b.data.toList.length - i ≤ n → ByteArray.toList.loop b i r = r.reverse ++ b.data.toList.drop i
  | 0, i, r, h => by
    unfold ByteArray.toList.loop
    have : ¬ i < b.size := by show ¬ i < b.data.size; rw [← Array.length_toList]; omega
    rw [if_neg this, List.drop_eq_nil_of_le (by omega), List.append_nil]
  | n + 1, i, r, h => by
    unfold ByteArray.toList.loop
    by_cases c : i < b.data.toList.length
    · have c' : i < b.size := by show i < b.data.size; rw [← Array.length_toList]; exact c
      rw [if_pos c', z9m b n (i + 1) _ (by omega), List.drop_eq_getElem_cons c, get_byte b i c]
      simp
    · have : ¬ i < b.size := by show ¬ i < b.data.size; rw [← Array.length_toList]; exact c
      rw [if_neg this, List.drop_eq_nil_of_le (by omega), List.append_nil]
theorem z8g (b : ByteArray) : b.toList = b.data.toList := by
  unfold ByteArray.toList
  rw [z9m b _ 0 [] (Nat.le_refl _)]; simp
theorem bytes_eq {a b : ByteArray} : (a.toList == b.toList) = true ↔ a = b := by
  rw [beq_iff_eq, z8g, z8g]
  exact ⟨fun h => ByteArray.ext (Array.toList_inj.1 h), fun h => by rw [h]⟩
theorem bytes_beq {a b : ByteArray} : (a == b) = true ↔ a = b := by
  constructor
  · intro h
    cases a; cases b
    exact congrArg ByteArray.mk (eq_of_beq (α := Array UInt8) h)
  · intro h
    subst h
    cases a
    exact beq_self_eq_true (α := Array UInt8) _
theorem eq64_val (hK : 20000 ≤ K) {a b : List Int} (ha : a.length ≤ 4096) : q5e (q12.f K a b) (a = b) := by
  unfold q12.f
  refine q82 (L := fun k i => q12.l0.f K k a b ((a.length : Nat) : Int) i) (by omega) (fun hl k i x y hx hy => ?_) fun k => ?_
  · have hi := q3v hx
    refine ⟨x == y, by simp, ?_⟩
    rw [q12.l0.f]
    simp only [dec_lt hi, cond_true, ge0, Int.toNat_natCast, hx, hy, q0b, q4m (n := i) (by omega)]
    rfl
  · rw [q12.l0.f]
    simp only [q7e, cond_false]
theorem z4k (hK : 20000 ≤ K) {a b : List Int} (ha : a.length ≤ 4096) : q5e (q14.f K a b) (a = b) := by
  unfold q14.f
  refine q82 (L := fun k i => q14.l0.f K k a b ((a.length : Nat) : Int) i) (by omega) (fun hl k i x y hx hy => ?_) fun k => ?_
  · have hi := q3v hx
    refine ⟨x == y, by simp, ?_⟩
    rw [q14.l0.f]
    simp only [dec_lt hi, cond_true, ge0, Int.toNat_natCast, hx, hy, q0b, q4m (n := i) (by omega)]
    rfl
  · rw [q14.l0.f]
    simp only [q7e, cond_false]
theorem eqim_val (hK : 20000 ≤ K) {a b : List q0g} (ha : a.length ≤ 4096) : q5e (q1i.f K a b) (a = b) := by
  unfold q1i.f
  refine q82 (L := fun k i => q1i.l0.f K k a b ((a.length : Nat) : Int) i) (by omega) (fun hl k i x y hx hy => ?_) fun k => ?_
  · have hi := q3v hx
    refine ⟨x.1 == y.1 && x.2 == y.2, by rw [Bool.and_eq_true, bytes_beq, beq_iff_eq, Prod.ext_iff], ?_⟩
    rw [q1i.l0.f]
    simp only [dec_lt hi, cond_true, ge0, Int.toNat_natCast, hx, hy, q0b, q4m (n := i) (by omega)]
  · rw [q1i.l0.f]
    simp only [q7e, cond_false]
theorem insn_same (hK : 20000 ≤ K) {x y : q3n} (hx : x.2.2.2.2.2.length ≤ 4096) : q5e (q7b.f K x.1 x.2.1 x.2.2.1 x.2.2.2.1 x.2.2.2.2.1 x.2.2.2.2.2 y.1 y.2.1 y.2.2.1 y.2.2.2.1 y.2.2.2.2.1 y.2.2.2.2.2) (x = y) := by
  unfold q7b.f
  rw [q8u, q71]
  refine (q5i beq_iff_eq (q5i beq_iff_eq (q5i beq_iff_eq (q5i beq_iff_eq (q5i beq_iff_eq (z4k hK hx)))))).imp ?_
  simp only [Prod.ext_iff]
theorem eqin_val (hK : 20000 ≤ K) {a b : List q3n} (ha : a.length ≤ 4096) (hs : ∀ x ∈ a, x.2.2.2.2.2.length ≤ 4096) : q5e (q0w.f K a b) (a = b) := by
  unfold q0w.f
  refine q82 (L := fun k i => q0w.l0.f K k b a ((a.length : Nat) : Int) i) (by omega) (fun hl k i x y hx hy => ?_) fun k => ?_
  · have hi := q3v hx
    obtain ⟨r, r1, r2⟩ := insn_same (K := K) hK (x := x) (y := y) (hs x (List.mem_of_getElem? hx))
    refine ⟨r, r2, ?_⟩
    rw [q0w.l0.f]
    simp only [dec_lt hi, cond_true, ge0, Int.toNat_natCast, hx, hy, q0b, r1, q4m (n := i) (by omega)]
  · rw [q0w.l0.f]
    simp only [q7e, cond_false]
theorem end_same {x y : LEnd} : (bif false then !(x.1 == y.1 && (x.2.1 == y.2.1 && (x.2.2.1 == y.2.2.1 && x.2.2.2 == y.2.2.2))) else x.1 == y.1 && (x.2.1 == y.2.1 && (x.2.2.1 == y.2.2.1 && x.2.2.2 == y.2.2.2))) = true ↔ x = y := by
  simp only [cond_false, Bool.and_eq_true, beq_iff_eq, Prod.ext_iff]
theorem blk_same (hK : 20000 ≤ K) {x y : q1m} (hx : x.1.length ≤ 4096 ∧ ∀ i ∈ x.1, i.2.2.2.2.2.length ≤ 4096) : q5e (q52.f K x.1 x.2.1 x.2.2.1 x.2.2.2.1 x.2.2.2.2 y.1 y.2.1 y.2.2.1 y.2.2.2.1 y.2.2.2.2) (x = y) := by
  unfold q52.f
  rw [q8u, q71]
  refine (q5i (end_same (x := x.2) (y := y.2)) (eqin_val hK hx.1 hx.2)).imp ?_
  rw [Prod.ext_iff (x := x), And.comm]
theorem eqbl_val (hK : 20000 ≤ K) {a b : List q1m} (ha : a.length ≤ 4096) (hs : ∀ x ∈ a, x.1.length ≤ 4096 ∧ ∀ i ∈ x.1, i.2.2.2.2.2.length ≤ 4096) : q5e (q0t.f K a b) (a = b) := by
  unfold q0t.f
  refine q82 (L := fun k i => q0t.l0.f K k b a ((a.length : Nat) : Int) i) (by omega) (fun hl k i x y hx hy => ?_) fun k => ?_
  · have hi := q3v hx
    obtain ⟨r, r1, r2⟩ := blk_same (K := K) hK (x := x) (y := y) (hs x (List.mem_of_getElem? hx))
    refine ⟨r, r2, ?_⟩
    rw [q0t.l0.f]
    simp only [dec_lt hi, cond_true, ge0, Int.toNat_natCast, hx, hy, q0b, r1, q4m (n := i) (by omega)]
  · rw [q0t.l0.f]
    simp only [q7e, cond_false]
theorem fn_same (hK : 20000 ≤ K) {x y : q0x} (hx : x.2.2.2.length ≤ 4096 ∧ ∀ b ∈ x.2.2.2, b.1.length ≤ 4096 ∧ ∀ i ∈ b.1, i.2.2.2.2.2.length ≤ 4096) : q5e (q69.f K x.1 x.2.1 x.2.2.1 x.2.2.2 y.1 y.2.1 y.2.2.1 y.2.2.2) (x = y) := by
  unfold q69.f
  rw [q8u, q71]
  refine (q5i bytes_eq (q5i beq_iff_eq (q5i beq_iff_eq (eqbl_val hK hx.1 hx.2)))).imp ?_
  simp only [Prod.ext_iff]
theorem eqfn_val (hK : 20000 ≤ K) {a b : List q0x} (hs : fits a) : q5e (q0v.f K a b) (a = b) := by
  obtain ⟨ha, hs⟩ := hs
  unfold q0v.f
  refine q82 (L := fun k i => q0v.l0.f K k b a ((a.length : Nat) : Int) i) (by omega) (fun hl k i x y hx hy => ?_) fun k => ?_
  · have hi := q3v hx
    obtain ⟨r, r1, r2⟩ := fn_same (K := K) hK (x := x) (y := y) (hs x (List.mem_of_getElem? hx))
    refine ⟨r, r2, ?_⟩
    rw [q0v.l0.f]
    simp only [dec_lt hi, cond_true, ge0, Int.toNat_natCast, hx, hy, q0b, r1, q4m (n := i) (by omega)]
  · rw [q0v.l0.f]
    simp only [q7e, cond_false]
theorem ireq_val (hK : 20000 ≤ K) {c c' : List Int} {f f' : List q0x} {i i' : List q0g} (hc : c.length ≤ 4096) (hf : fits f) (hi : i.length ≤ 4096) : q5e (q9x.f K c f i c' f' i') ((c = c' ∧ i = i') ∧ f = f') := by
  unfold q9x.f
  rw [q8u]
  refine (q59 (eq64_val hK hc) (q59 (eqim_val hK hi) (by rw [q71]; exact eqfn_val hK hf))).imp ?_
  rw [and_assoc]
theorem z7i {x y : q0l} : (x.1 == y.1 && (x.2.1.1 == y.2.1.1 && x.2.1.2 == y.2.1.2 && (x.2.2.1.1 == y.2.2.1.1 && x.2.2.1.2 == y.2.2.1.2 && x.2.2.2 == y.2.2.2))) = true ↔ x = y := by
  simp only [Bool.and_eq_true, beq_iff_eq, Prod.ext_iff, and_assoc]
theorem z87 (hK : 20000 ≤ K) {a b : List q0l} (ha : a.length ≤ 4096) : q5e (q05.f K a b) (a = b) := by
  unfold q05.f
  refine q82 (L := fun k i => q05.l0.f K k a b ((a.length : Nat) : Int) i) (by omega) (fun hl k i x y hx hy => ?_) fun k => ?_
  · have hi := q3v hx
    refine ⟨_, z7i, ?_⟩
    rw [q05.l0.f]
    simp only [dec_lt hi, cond_true, ge0, Int.toNat_natCast, hx, hy, q0b, q4m (n := i) (by omega)]
  · rw [q05.l0.f]
    simp only [q7e, cond_false]
theorem eqvaf_val (hK : 20000 ≤ K) {a b : List q0l} (ha : a.length ≤ 4096) : q5e (q0o.f K a b) (a = b) := by
  unfold q0o.f
  refine q82 (L := fun k i => q0o.l0.f K k b a ((a.length : Nat) : Int) i) (by omega) (fun hl k i x y hx hy => ?_) fun k => ?_
  · have hi := q3v hx
    refine ⟨_, z7i, ?_⟩
    rw [q0o.l0.f]
    simp only [dec_lt hi, cond_true, ge0, Int.toNat_natCast, hx, hy, q0b, q7h.f, cond_false, q4m (n := i) (by omega)]
  · rw [q0o.l0.f]
    simp only [q7e, cond_false]
theorem j2w (hK : 20000 ≤ K) {x y : LSum} (hx : x.2.1.length ≤ 4096) : q5e (q4d.f K x.1 x.2.1 x.2.2.1 x.2.2.2.1 x.2.2.2.2.1.1 x.2.2.2.2.1.2 x.2.2.2.2.2.1.1 x.2.2.2.2.2.1.2 x.2.2.2.2.2.2 y.1 y.2.1 y.2.2.1 y.2.2.2.1 y.2.2.2.2.1.1 y.2.2.2.2.1.2 y.2.2.2.2.2.1.1 y.2.2.2.2.2.1.2 y.2.2.2.2.2.2) (x = y) := by
  unfold q4d.f
  rw [q8u]
  refine (q5i beq_iff_eq (q59 (z87 hK hx) (q5i beq_iff_eq (j3h (z7i (x := x.2.2.2) (y := y.2.2.2)))))).imp ?_
  rw [Prod.ext_iff (x := x), Prod.ext_iff (x := x.2), Prod.ext_iff (x := x.2.2)]
theorem eqlis_val (hK : 20000 ≤ K) {a b : List (List Int)} (ha : a.length ≤ 4096) (hs : ∀ x ∈ a, x.length ≤ 4096) : q5e (q1h.f K a b) (a = b) := by
  unfold q1h.f
  refine q82 (L := fun k i => q1h.l0.f K k b a ((a.length : Nat) : Int) i) (by omega) (fun hl k i x y hx hy => ?_) fun k => ?_
  · have hi := q3v hx
    obtain ⟨r, r1, r2⟩ := z4k (K := K) hK (a := x) (b := y) (hs x (List.mem_of_getElem? hx))
    refine ⟨r, r2, ?_⟩
    rw [q1h.l0.f]
    simp only [dec_lt hi, cond_true, ge0, Int.toNat_natCast, hx, hy, q0b, q7t.f, r1, q4m (n := i) (by omega)]
  · rw [q1h.l0.f]
    simp only [q7e, cond_false]
def smallB (x : q1l) : Prop := x.1.2.1.length ≤ 4096 ∧ (x.1.2.2.length ≤ 4096 ∧ ∀ s ∈ x.1.2.2, s.length ≤ 4096) ∧ x.2.length ≤ 4096
theorem tblk_same (hK : 20000 ≤ K) {x y : q1l} (hx : smallB x) : q5e (q3w.f K x.1.1 x.1.2.1 x.1.2.2 x.2 y.1.1 y.1.2.1 y.1.2.2 y.2) (x = y) := by
  unfold q3w.f q8q.f q7t.f
  rw [q8u, q8u, q71, q71]
  refine (q59 (q5i beq_iff_eq (q59 (z87 hK hx.1) (eqlis_val hK hx.2.1.1 hx.2.1.2))) (z4k hK hx.2.2)).imp ?_
  rw [Prod.ext_iff (x := x), Prod.ext_iff (x := x.1), Prod.ext_iff (x := x.1.2)]
theorem eqtb_val (hK : 20000 ≤ K) {a b : List q1l} (ha : a.length ≤ 4096) (hs : ∀ x ∈ a, smallB x) : q5e (q0k.f K a b) (a = b) := by
  unfold q0k.f
  refine q82 (L := fun k i => q0k.l0.f K k b a ((a.length : Nat) : Int) i) (by omega) (fun hl k i x y hx hy => ?_) fun k => ?_
  · have hi := q3v hx
    obtain ⟨r, r1, r2⟩ := tblk_same (K := K) hK (x := x) (y := y) (hs x (List.mem_of_getElem? hx))
    refine ⟨r, r2, ?_⟩
    rw [q0k.l0.f]
    simp only [dec_lt hi, cond_true, ge0, Int.toNat_natCast, hx, hy, q0b, r1, q4m (n := i) (by omega)]
  · rw [q0k.l0.f]
    simp only [q7e, cond_false]
def smallF (x : q06) : Prop := x.1.2.1.length ≤ 4096 ∧ x.2.length ≤ 4096 ∧ ∀ b ∈ x.2, smallB b
theorem tfn_same (hK : 20000 ≤ K) {x y : q06} (hx : smallF x) : q5e (q3d.f K x.1.1 x.1.2.1 x.1.2.2.1 x.1.2.2.2.1 x.1.2.2.2.2.1.1 x.1.2.2.2.2.1.2 x.1.2.2.2.2.2.1.1 x.1.2.2.2.2.2.1.2 x.1.2.2.2.2.2.2 x.2 y.1.1 y.1.2.1 y.1.2.2.1 y.1.2.2.2.1 y.1.2.2.2.2.1.1 y.1.2.2.2.2.1.2 y.1.2.2.2.2.2.1.1 y.1.2.2.2.2.2.1.2 y.1.2.2.2.2.2.2 y.2) (x = y) := by
  unfold q3d.f
  rw [q8u, q71]
  refine (q59 (j2w hK hx.1) (eqtb_val hK hx.2.1 hx.2.2)).imp ?_
  rw [Prod.ext_iff (x := x)]
theorem eqtf_val (hK : 20000 ≤ K) {a b : List q06} (ha : a.length ≤ 4096) (hs : ∀ x ∈ a, smallF x) : q5e (q0p.f K a b) (a = b) := by
  unfold q0p.f
  refine q82 (L := fun k i => q0p.l0.f K k b a ((a.length : Nat) : Int) i) (by omega) (fun hl k i x y hx hy => ?_) fun k => ?_
  · have hi := q3v hx
    obtain ⟨r, r1, r2⟩ := tfn_same (K := K) hK (x := x) (y := y) (hs x (List.mem_of_getElem? hx))
    refine ⟨r, r2, ?_⟩
    rw [q0p.l0.f]
    simp only [dec_lt hi, cond_true, ge0, Int.toNat_natCast, hx, hy, q0b, r1, q4m (n := i) (by omega)]
  · rw [q0p.l0.f]
    simp only [q7e, cond_false]
theorem eqsu_val (hK : 20000 ≤ K) {a b : List LSum} (ha : a.length ≤ 4096) (hs : ∀ x ∈ a, x.2.1.length ≤ 4096) : q5e (q0s.f K a b) (a = b) := by
  unfold q0s.f
  refine q82 (L := fun k i => q0s.l0.f K k b a ((a.length : Nat) : Int) i) (by omega) (fun hl k i x y hx hy => ?_) fun k => ?_
  · have hi := q3v hx
    obtain ⟨r, r1, r2⟩ := j2w (K := K) hK (x := x) (y := y) (hs x (List.mem_of_getElem? hx))
    refine ⟨r, r2, ?_⟩
    rw [q0s.l0.f]
    simp only [dec_lt hi, cond_true, ge0, Int.toNat_natCast, hx, hy, q0b, r1, q4m (n := i) (by omega)]
  · rw [q0s.l0.f]
    simp only [q7e, cond_false]
def smallT (c : List q0l) (x : List q06) (s : List LSum) : Prop := c.length ≤ 4096 ∧ (x.length ≤ 4096 ∧ ∀ f ∈ x, smallF f) ∧ s.length ≤ 4096 ∧ ∀ f ∈ s, f.2.1.length ≤ 4096
theorem teq_val (hK : 20000 ≤ K) {c c' : List q0l} {x x' : List q06} {s s' : List LSum} (h : smallT c x s) : q5e (q6l.f K c x s c' x' s') ((c = c' ∧ x = x') ∧ s = s') := by
  unfold q6l.f q4t.f
  rw [q8u, q71]
  refine (q59 (eqvaf_val hK h.1) (q59 (eqtf_val hK h.2.1.1 h.2.1.2) (eqsu_val hK h.2.2.1 h.2.2.2))).imp ?_
  rw [and_assoc]
theorem j1k {n : Nat} {s : List Int} (h : q2y n s) (hn : n ≤ 4096) : s.length ≤ 4096 := by have := q3i h; omega
theorem Tab.small {cells : List Int} {fs : List q0x} {is : List q0g} {cs : List q0l} {xs : List q06} {ss : List LSum} (h : WF cells fs is) (hw : wide cells fs) (hs : q4k fs ≤ 4096) (ht : Tab cells fs is cs xs ss) : smallT cs xs ss := by
  have hn := h.ncells
  have hcnt := h.count
  refine ⟨by have := ht.clen; omega, ⟨by have := ht.flen; omega, fun x hx => ?_⟩, by have := ht.ilen; omega, fun s hsm => ?_⟩
  · obtain ⟨i, hi⟩ := List.getElem?_of_mem hx
    have hl := q3v hi
    obtain ⟨m, hm, hmm⟩ := get_lt (l := fs) (n := i) (by have := ht.flen; omega)
    have hf := ht.funcs i m x hm hi
    obtain ⟨q1, q2, q3⟩ := h.short m hmm
    refine ⟨by have := hf.sum.len (by omega); omega, by have := hf.len; omega, fun b hb => ?_⟩
    have hB := hf.blocks b hb
    have hL := hB.len (by omega)
    refine ⟨by omega, ⟨by omega, fun s hs' => j1k (hB.sets s hs') (by omega)⟩, ?_⟩
    have := q3i hB.live
    omega
  · obtain ⟨i, hi⟩ := List.getElem?_of_mem hsm
    have hl := q3v hi
    obtain ⟨m, hm, hmm⟩ := get_lt (l := is) (n := i) (by have := ht.ilen; omega)
    have ha := h.ims hw m hmm
    have := (ht.sums i m s hm hi).len (by omega)
    omega
end Go.Proofs.YtdjkdmjdcdljmaaGreatDoor.AU
namespace Go.Proofs.YtdjkdmjdcdljmaaGreatDoor.AU
open Go.Proofs.YtdjkdmjdcdljmaaGreatDoorY Go.Proofs.YtdjkdmjdcdljmaaGreatDoorY.Runs
set_option maxRecDepth 100000
set_option maxHeartbeats 4000000
variable {K : Nat}
theorem z1n {α : Type} {f g : α → List Int} : ∀ {l : List α}, (∀ x ∈ l, f x = g x) → l.flatMap f = l.flatMap g
  | [], _ => rfl
  | x :: l, h => by rw [List.flatMap_cons, List.flatMap_cons, h x (by simp), z1n fun y hy => h y (by simp [hy])]
theorem encMod_eq {cells : List Int} {fs : List q0x} {is : List q0g} (h : WF cells fs is) : z64 cells fs is = q6a cells fs is := by
  have e1 : fs.flatMap q7i = fs.flatMap q6r := z1n fun f hf => by
    obtain ⟨i, hi⟩ := List.getElem?_of_mem hf
    have := (h.funcs i f hi).1.name
    unfold q7i q6r
    rw [z1e this.2.1]
  have e2 : is.flatMap q60 = is.flatMap q5g := z1n fun m hm => by
    obtain ⟨i, hi⟩ := List.getElem?_of_mem hm
    have := (h.imports i m hi).name
    unfold q60 q5g
    rw [z1e this.2.1]
  unfold z64 q6a
  rw [e1, e2]
theorem z0p.wide {cells : List Int} {fs : List q0x} {is : List q0g} (h : z0p cells fs is) : wide cells fs :=
  ⟨h.cells, fun f hf b hb x hx => (((h.funcs f hf).blocks b hb).insns x hx).n.1⟩
theorem take_back (hK : 20000 ≤ K) {p : Nat} {l : List Int} (hR : Rd l p) :
    ∃ (cs : List Int) (fs : List q0x) (is : List q0g) (e : Err) (q : Nat), q6g.f K l ((p : Nat) : Int) = some (cs, fs, is, e, ((q : Nat) : Int)) ∧ Took l p q .nil e (q6a cs fs is) ∧ (e = .nil → WF cs fs is ∧ wide cs fs ∧ q = l.length) := by
  unfold q6g.f
  obtain ⟨cs, fs, is, e, q, a1, a2, a3⟩ := j0y (K := K) hK hR
  rw [a1, q0b]
  cases h : e.isNil with
  | false =>
    have hne : e ≠ .nil := fun h' => by rw [h'] at h; cases h
    simp only [q6f, z7x, h, cond_false, Bool.not_false, cond_true]
    exact ⟨[], [], [], e, q, rfl, ⟨a2.up, a2.le, a2.lst, fun h' => absurd h' hne⟩, fun h' => absurd h' hne⟩
  | true =>
    have := q3h h
    subst this
    obtain ⟨t, hq⟩ := a3 rfl
    obtain ⟨e2, b1, b2, b3⟩ := j1b (K := K) hK t
    simp only [q6f, z7x, h, cond_true, b1, q0b]
    cases h2 : e2.isNil with
    | false =>
      have hne : e2 ≠ .nil := fun h' => by rw [h'] at h2; cases h2
      simp only [Bool.not_false, cond_true]
      exact ⟨[], [], [], e2, q, rfl, ⟨a2.up, a2.le, b2.1, fun h' => absurd h' hne⟩, fun h' => absurd h' hne⟩
    | true =>
      have := q3h h2
      subst this
      have wf := b3 rfl
      simp only [Bool.not_true, cond_false]
      exact ⟨cs, fs, is, .nil, q, rfl, a2.cast fun _ => encMod_eq wf, fun _ => ⟨wf, t.wide, hq⟩⟩
theorem q7d {e : Err} : q02.f K e .nil = some e := rfl
theorem z7y (hK : 20000 ≤ K) {m : Int} {p : Nat} {l : List Int} {e0 : Err} (hR : Rd l p) (h0 : Lst e0) :
    ∃ (b : Nat) (e : Err) (q : Nat), q2k.f K m e0 l ((p : Nat) : Int) = some (((b : Nat) : Int), e, ((q : Nat) : Int)) ∧ Took l p q e0 e [((b : Nat) : Int)] ∧ (e = .nil → ((b : Nat) : Int) ≤ m) ∧ b < 256 := by
  unfold q2k.f
  rw [q6f]
  cases h : e0.isNil with
  | false =>
    have hne : e0 ≠ .nil := fun e => by subst e; cases h
    simp only [Bool.not_false, cond_true]
    exact ⟨0, e0, p, rfl, Took.bad hR.le h0 hne, fun e => absurd e hne, by omega⟩
  | true =>
    have := q3h h
    subst this
    obtain ⟨b, e, q, h1, h2, h3, h4⟩ := q9m (K := K) hK hR
    simp only [Bool.not_true, cond_false, q1k.f, q0b, h1, q7d, z7x, q0z]
    cases he : e.isNil with
    | false =>
      have hne : e ≠ .nil := fun e' => by subst e'; cases he
      simp only [cond_false, q0b]
      exact ⟨b, e, q, rfl, h2, fun e' => absurd e' hne, h3⟩
    | true =>
      have := q3h he
      subst this
      simp only [cond_true, q0b]
      by_cases c2 : ((b : Nat) : Int) > m
      · simp only [decide_eq_true c2, cond_true, q0b, q5q (K := K) (by omega), q7d]
        exact ⟨b, _, q, rfl, ⟨h2.up, h2.le, q6h (by omega), fun h => by cases h⟩, (fun h => by cases h), h3⟩
      · simp only [decide_eq_false c2, cond_false]
        exact ⟨b, _, q, rfl, h2, fun _ => by omega, h3⟩
theorem Seg.of_take {l bs : List Int} {p q m : Nat} (h : Seg (l.take m) p bs q) : Seg l p bs q := by
  obtain ⟨h1, h2, post, h3⟩ := h
  refine ⟨by simp at h1; omega, h2, post ++ l.drop m, ?_⟩
  rw [← List.append_assoc, ← h3]
  have hp : p ≤ m := by simp at h1; omega
  have : l.drop p = (l.take m ++ l.drop m).drop p := by rw [List.take_append_drop]
  rw [this, List.drop_append_of_le_length (by simpa using h1)]
theorem j2r {l bs : List Int} {p t n q : Nat} {e : Err} (hR : Rd l p) (h1 : Seg l p (encU n) t) (h2 : t + n ≤ l.length) (h3 : Took (l.take (t + n)) t q .nil e bs) (h4 : e = .nil → q = (l.take (t + n)).length) : Took l p (t + n) .nil e (sec bs) := by
  refine ⟨by have := h1.le; omega, h2, h3.lst, fun he => ⟨rfl, ?_⟩⟩
  obtain ⟨_, s⟩ := h3.ok he
  have hq := h4 he
  have hn : bs.length = n := by
    have := s.2.1
    rw [hq] at this
    simp at this
    omega
  unfold sec
  rw [hn]
  have s' := s.of_take
  rw [hq, List.length_take, Nat.min_eq_left h2] at s'
  exact h1.app s'
noncomputable def z9x (K : Nat) (e : Err) (l : List Int) (p : Int) : Option (List Int × List q0x × List q0g × Bool × Err × Int) :=
  (q2k.f K 1 e l p).bind fun t => bif bif true then !t.2.1.isNil else t.2.1.isNil then some ([], [], [], false, t.2.1, t.2.2) else (q1t.f K l t.2.2).elim ((q1p.f K l t.2.2).bind fun t_5 => bif bif true then !t_5.2.1.isNil else t_5.2.1.isNil then (q02.f K t_5.2.1 t.2.1).bind fun t => some ([], [], [], false, t, t_5.2.2) else none) fun t_5 => bif bif true then !t_5.1.isNil else t_5.1.isNil then (q02.f K t_5.1 t.2.1).bind fun t => some ([], [], [], false, t, t_5.2.1) else (q6g.f K t_5.2.2.1 t_5.2.2.2).bind fun t_6 => (q02.f K t_6.2.2.2.1 t.2.1).bind fun t_7 => some (t_6.1, t_6.2.1, t_6.2.2.1, t.1 == (1 : Int), t_7, t_5.2.1)
theorem j20 (e : Err) (l : List Int) (p : Int) : q3z.f K e l p = (q4o.f K).bind fun t => (q1q.f K ((t.length : Nat) : Int) l p).bind fun t => (q02.f K t.2.1 e).bind fun t_1 => q1g (bif bif false then !t.2.1.isNil else t.2.1.isNil then (q4o.f K).bind fun t_2 => some !(strOf t.1).toList == (strOf t_2).toList else some false) fun t_2 =>
    bif t_2 then (q1d.f K (Err.no 3) [(0 : Int)]).bind fun t_3 => (q02.f K t_3 t_1).bind fun t_4 => z9x K t_4 l t.2.2 else z9x K t_1 l t.2.2 := by
  rfl
theorem z33 (hK : 20000 ≤ K) {p : Nat} {l : List Int} {e0 : Err} (hR : Rd l p) (h0 : Lst e0) :
    ∃ (cs : List Int) (fs : List q0x) (is : List q0g) (sp : Bool) (e : Err) (q : Nat), z9x K e0 l ((p : Nat) : Int) = some (cs, fs, is, sp, e, ((q : Nat) : Int)) ∧ Took l p q e0 e ([((bn sp : Nat) : Int)] ++ sec (q6a cs fs is)) ∧ (e = .nil → WF cs fs is ∧ wide cs fs) := by
  unfold z9x
  obtain ⟨b, e1, q1, a1, a2, a3, a4⟩ := z7y (K := K) hK (m := 1) hR h0
  simp only [a1, q0b, q6f]
  cases h1 : e1.isNil with
  | false =>
    have hne : e1 ≠ .nil := fun e => by rw [e] at h1; cases h1
    simp only [Bool.not_false, cond_true]
    exact ⟨[], [], [], false, e1, q1, rfl, ⟨a2.up, a2.le, a2.lst, fun h => absurd h hne⟩, fun h => absurd h hne⟩
  | true =>
    have := q3h h1
    subst this
    have he0 := (a2.ok rfl).1
    have hb := a3 rfl
    have R1 := a2.rd hR
    simp only [Bool.not_true, cond_false]
    rcases q8x (K := K) hK R1 with ⟨n, t, g1, g2, g3⟩ | ⟨g1, o, e, g2, g3, g4⟩
    · have ht := g2.le
      have hR2 : Rd (l.take (t + n)) t := ⟨by simp; omega, by have := hR.len; simp; omega, fun x hx => hR.byte x (List.mem_of_mem_take hx)⟩
      obtain ⟨cs, fs, is, e, q, f1, f2, f3⟩ := take_back (K := K) hK hR2
      simp only [g1, Option.elim_some, Err.isNil, Bool.not_true, cond_false, f1, q0b, q7d]
      have sp : (((b : Nat) : Int) == 1) = decide (b = 1) := by
        by_cases h : b = 1
        · subst h; rfl
        · rw [decide_eq_false h]; exact beq_eq_false_iff_ne.2 (by omega)
      refine ⟨cs, fs, is, _, e, t + n, rfl, (a2.app (j2r R1 g2 g3 f2 fun he => (f3 he).2.2)).cast fun _ => ?_, fun he => ⟨(f3 he).1, (f3 he).2.1⟩⟩
      rw [sp]
      have : b = 0 ∨ b = 1 := by omega
      rcases this with rfl | rfl <;> rfl
    · simp only [g1, Option.elim_none, g2, q0b, q6f, not_nil g3, Bool.not_false, cond_true, q7d]
      exact ⟨[], [], [], false, e, q1, rfl, ⟨a2.up, a2.le, g4, fun h => absurd h g3⟩, fun h => absurd h g3⟩
theorem amod_take (hK : 20000 ≤ K) {l : List Int} (hR : Rd l 0) :
    ∃ (cs : List Int) (fs : List q0x) (is : List q0g) (sp : Bool) (e : Err) (q : Nat), q3z.f K .nil l (0 : Int) = some (cs, fs, is, sp, e, ((q : Nat) : Int)) ∧ Took l 0 q .nil e ([65, 70, 1] ++ ([((bn sp : Nat) : Int)] ++ sec (q6a cs fs is))) ∧ (e = .nil → WF cs fs is ∧ wide cs fs) := by
  rw [j20]
  obtain ⟨x, e1, q1, a1, a2, a3, a4, a5⟩ := q85 (K := K) hK (n := 3) (p := 0) (by omega) hR
  have R1 := a2.rd hR
  have hh : q4o.f K = some [(65 : Int), (70 : Int), (1 : Int)] := rfl
  have a1' : q1q.f K ((([(65 : Int), (70 : Int), (1 : Int)].length : Nat)) : Int) l (0 : Int) = some (x, e1, ((q1 : Nat) : Int)) := a1
  simp only [hh, q0b, a1', q7d, z7x]
  have bad : ∀ e2 : Err, e2 ≠ .nil → Lst e2 → ∃ (cs : List Int) (fs : List q0x) (is : List q0g) (sp : Bool) (e : Err) (q : Nat), z9x K e2 l ((q1 : Nat) : Int) = some (cs, fs, is, sp, e, ((q : Nat) : Int)) ∧ Took l 0 q .nil e ([65, 70, 1] ++ ([((bn sp : Nat) : Int)] ++ sec (q6a cs fs is))) ∧ (e = .nil → WF cs fs is ∧ wide cs fs) := fun e2 hne hl => by
    obtain ⟨cs, fs, is, sp, e, q, b1, b2, b3⟩ := z33 (K := K) hK R1 hl
    have hn : e ≠ .nil := fun h => hne (b2.ok h).1
    exact ⟨cs, fs, is, sp, e, q, b1, ⟨Nat.le_trans a2.up b2.up, b2.le, b2.lst, fun h => absurd h hn⟩, fun h => absurd h hn⟩
  cases h1 : e1.isNil with
  | false =>
    have hne : e1 ≠ .nil := fun e => by rw [e] at h1; cases h1
    simp only [cond_false, q0z, q0b]
    exact bad e1 hne a2.lst
  | true =>
    have := q3h h1
    subst this
    simp only [cond_true, q0z, q0b]
    cases hb : ((strOf x).toList == (strOf [(65 : Int), (70 : Int), (1 : Int)]).toList) with
    | false =>
      have f0 := q5q (K := K) (e := Err.no 3) (p := 0) (by omega)
      simp only [Bool.not_false, cond_true, f0, q0b, q7d]
      exact bad _ z0q (q6h (p := 0) (by omega))
    | true =>
      simp only [Bool.not_true, cond_false]
      obtain ⟨cs, fs, is, sp, e, q, b1, b2, b3⟩ := z33 (K := K) hK R1 a2.lst
      have hx : x = [65, 70, 1] := by
        refine z1h (fun y hy => ?_) (by decide) (toList_inj (beq_iff_eq.1 hb))
        obtain ⟨_, _, _, post, hp⟩ := a2.ok rfl
        exact hR.byte y (List.mem_of_mem_drop (by rw [hp]; exact List.mem_append_left _ hy))
      subst hx
      exact ⟨cs, fs, is, sp, e, q, b1, a2.app b2, b3⟩
end Go.Proofs.YtdjkdmjdcdljmaaGreatDoor.AU
namespace Go.Proofs.YtdjkdmjdcdljmaaGreatDoor.AU
open Go.Proofs.YtdjkdmjdcdljmaaGreatDoorY Go.Proofs.YtdjkdmjdcdljmaaGreatDoorY.Runs
set_option maxRecDepth 100000
set_option maxHeartbeats 4000000
variable {K : Nat}
abbrev VOut := Option (Int × Bool × Int × Int × Int × Int × Err × Int)
noncomputable def optN (K : Nat) (c : Bool) (d : Int) (l : List Int) (p : Int) (f : Int → Int → VOut) : VOut := bif c then f d p else (q19.f K l p).bind fun t => bif bif true then !t.2.1.isNil else t.2.1.isNil then some ((0 : Int), false, (0 : Int), (0 : Int), (0 : Int), (0 : Int), t.2.1, t.2.2) else f t.1 t.2.2
def kB (b m : Int) : Int := IntKind.u8.wrap (((BitVec.ofInt 8 b &&& BitVec.ofInt 8 m).toNat : Nat) : Int)
def sgnB (b : Int) : Int := IntKind.i64.wrap (IntKind.u8.wrap (((BitVec.ofInt 8 b &&& BitVec.ofInt 8 (7 : Int)).toNat : Nat) : Int))
def parB (b : Int) : Int := IntKind.i64.wrap (IntKind.u8.wrap (((BitVec.ofInt 8 (b.fdiv ((2 : Int) ^ 4)) &&& BitVec.ofInt 8 (3 : Int)).toNat : Nat) : Int))
noncomputable def z7u (K : Nat) (b lo hi : Int) : Option Bool :=
  bif kB b 64 != 0 then bif lo == (-9223372036854775808 : Int) then some true else bif kB b 128 != 0 then bif hi == (9223372036854775807 : Int) then some true else (q0m.f K lo hi).bind fun t => some !t else (q0m.f K lo hi).bind fun t => some !t
  else bif kB b 128 != 0 then bif hi == (9223372036854775807 : Int) then some true else (q0m.f K lo hi).bind fun t => some !t else (q0m.f K lo hi).bind fun t => some !t
noncomputable def valFin (K : Nat) (b a1 n lo hi p : Int) : VOut :=
  bif kB b 8 != 0 then (q5j.f K).bind fun k => q1g (z7u K b lo hi) fun t => bif t then (q1d.f K (Err.no (13 : Int)) [a1]).bind fun e => some ((0 : Int), false, (0 : Int), (0 : Int), (0 : Int), (0 : Int), e, p) else some (sgnB b, k, n, lo, hi, parB b, Err.nil, p)
  else q1g (z7u K b lo hi) fun t => bif t then (q1d.f K (Err.no (13 : Int)) [a1]).bind fun e => some ((0 : Int), false, (0 : Int), (0 : Int), (0 : Int), (0 : Int), e, p) else some (sgnB b, false, (0 : Int), lo, hi, parB b, Err.nil, p)
theorem j0o (l : List Int) (a1 : Int) : q6o.f K l a1 = (q1k.f K).bind fun t => (q2b.f K l a1).bind fun t => bif bif true then !t.2.1.isNil else t.2.1.isNil then some ((0 : Int), false, (0 : Int), (0 : Int), (0 : Int), (0 : Int), t.2.1, t.2.2) else
    (z0t.f K).bind fun s => q1g ((q4p.f K (sgnB t.1)).bind fun u => bif !u then some true else (q3m.f K (parB t.1)).bind fun u => some !u) fun c => bif c then (q1d.f K (Err.no (13 : Int)) [a1]).bind fun e => some ((0 : Int), false, (0 : Int), (0 : Int), (0 : Int), (0 : Int), e, t.2.2) else
    optN K (kB t.1 8 == 0) 0 l t.2.2 fun n p => optN K (kB t.1 64 == 0) s.1 l p fun lo p => optN K (kB t.1 128 == 0) s.2 l p fun hi p => valFin K t.1 a1 n lo hi p := by
  rfl
def VRes (l : List Int) (p0 : Nat) (r : VOut) : Prop := ∃ (v : q0l) (e : Err) (q : Nat), r = some (v.1, v.2.1.1, v.2.1.2, v.2.2.1.1, v.2.2.1.2, v.2.2.2, e, ((q : Nat) : Int)) ∧ Took l p0 q .nil e (encV v) ∧ (e = .nil → Vr v)
theorem z0y {l bs : List Int} {p0 q : Nat} {e e0 : Err} (h : Took l p0 q e0 e bs) (hn : e ≠ .nil) : VRes l p0 (some ((0 : Int), false, (0 : Int), (0 : Int), (0 : Int), (0 : Int), e, ((q : Nat) : Int))) :=
  ⟨zeroV, e, q, rfl, ⟨h.up, h.le, h.lst, fun h' => absurd h' hn⟩, fun h' => absurd h' hn⟩
theorem z61 (hK : 20000 ≤ K) {l pre : List Int} {p0 p : Nat} {c : Bool} {d : Int} {f : Int → Int → VOut} (hR : Rd l p0) (hT : Took l p0 p .nil .nil pre)
    (H : ∀ (n : Int) (q : Nat), (c = true → n = d) → (c = false → i64 n) → Took l p0 q .nil .nil (pre ++ (if c then [] else encI n)) → VRes l p0 (f n ((q : Nat) : Int))) : VRes l p0 (optN K c d l ((p : Nat) : Int) f) := by
  unfold optN
  cases c with
  | true =>
    simp only [cond_true]
    exact H d p (fun _ => rfl) (fun h => by cases h) (by simpa using hT)
  | false =>
    obtain ⟨v, e, q, h1, h2, h3⟩ := j0c (K := K) hK (hT.rd hR)
    simp only [cond_false, h1, q0b, q6f]
    cases he : e.isNil with
    | false =>
      have hne : e ≠ .nil := fun e' => by subst e'; cases he
      simp only [Bool.not_false, cond_true]
      exact z0y ⟨Nat.le_trans hT.up h2.up, h2.le, h2.lst, fun h => absurd h hne⟩ (bs := []) (e0 := .nil) hne
    | true =>
      have := q3h he
      subst this
      simp only [Bool.not_true, cond_false]
      exact H v q (fun h => by cases h) (fun _ => h3) (by simpa using hT.app h2)
theorem signR {a : Int} : q4p.f K a = some (decide (1 ≤ a) && decide (a ≤ 7)) := by
  unfold q4p.f
  by_cases h : 1 ≤ a <;> simp [h, q0z]
theorem parR {a : Int} : q3m.f K a = some (decide (1 ≤ a) && decide (a ≤ 3)) := by
  unfold q3m.f
  by_cases h : 1 ≤ a <;> simp [h, q0z]
theorem byte_hB {b : Nat} (h : b < 256) : ∃ (s : Fin 8) (p : Fin 4) (k l u : Bool), b = hB s.val p.val k l u := by
  refine ⟨⟨b % 8, by omega⟩, ⟨b / 16 % 4, by omega⟩, decide (b / 8 % 2 = 1), decide (b / 64 % 2 = 1), decide (b / 128 % 2 = 1), ?_⟩
  have e1 : bn (decide (b / 8 % 2 = 1)) = b / 8 % 2 := by unfold bn; split <;> simp_all
  have e2 : bn (decide (b / 64 % 2 = 1)) = b / 64 % 2 := by unfold bn; split <;> simp_all
  have e3 : bn (decide (b / 128 % 2 = 1)) = b / 128 % 2 := by unfold bn; split <;> simp_all
  unfold hB
  rw [e1, e2, e3]
  dsimp only
  omega
theorem j3t (hK : 20000 ≤ K) {p : Nat} {l : List Int} (hR : Rd l p) : VRes l p (q6o.f K l ((p : Nat) : Int)) := by
  rw [j0o]
  obtain ⟨b, e, q, h1, h2, h3, h4⟩ := q9m (K := K) hK hR
  simp only [q1k.f, q0b, h1, q6f]
  cases he : e.isNil with
  | false =>
    have hne : e ≠ .nil := fun e' => by subst e'; cases he
    simp only [Bool.not_false, cond_true]
    exact z0y h2 hne
  | true =>
    have := q3h he
    subst this
    obtain ⟨s, pa, k, lb, ub, hb⟩ := byte_hB h3
    have gs := get_s s pa k lb ub
    have gp := get_p s pa k lb ub
    have gk := get_k s pa k lb ub
    have gl := get_l s pa k lb ub
    have gh := get_h s pa k lb ub
    rw [← hb] at gs gp gk gl gh
    have gs' : sgnB ((b : Nat) : Int) = ((s.val : Nat) : Int) := gs
    have gp' : parB ((b : Nat) : Int) = ((pa.val : Nat) : Int) := gp
    have gk' : (kB ((b : Nat) : Int) 8 == 0) = !k := gk
    have gl' : (kB ((b : Nat) : Int) 64 == 0) = !lb := gl
    have gh' : (kB ((b : Nat) : Int) 128 == 0) = !ub := gh
    simp only [Bool.not_true, cond_false, z0t.f, q0b, signR, parR, q0z, gs', gp', gk', gl', gh']
    cases hs : (decide (1 ≤ ((s.val : Nat) : Int)) && decide (((s.val : Nat) : Int) ≤ 7)) with
    | false =>
      simp only [Bool.not_false, cond_true, q0b, q5q (K := K) (by omega)]
      exact z0y (bs := []) (e0 := .nil) ⟨h2.up, h2.le, q6h (by omega), fun h => by cases h⟩ z0q
    | true =>
      simp only [Bool.not_true, cond_false]
      cases hp : (decide (1 ≤ ((pa.val : Nat) : Int)) && decide (((pa.val : Nat) : Int) ≤ 3)) with
      | false =>
        simp only [Bool.not_false, cond_true, q0b, q5q (K := K) (by omega)]
        exact z0y (bs := []) (e0 := .nil) ⟨h2.up, h2.le, q6h (by omega), fun h => by cases h⟩ z0q
      | true =>
        simp only [Bool.not_true, cond_false, q0b]
        refine z61 hK hR h2 fun n q1 n1 n2 T1 => z61 hK hR T1 fun lo q2 l1 l2 T2 => z61 hK hR T2 fun hi q3 u1 u2 T3 => ?_
        have bne8 : (kB ((b : Nat) : Int) 8 != 0) = k := by rw [bne, gk']; simp
        have bne64 : (kB ((b : Nat) : Int) 64 != 0) = lb := by rw [bne, gl']; simp
        have bne128 : (kB ((b : Nat) : Int) 128 != 0) = ub := by rw [bne, gh']; simp
        have hsb : z7u K ((b : Nat) : Int) lo hi = some ((lb && lo == least) || ((ub && hi == most) || !decide (lo ≤ hi))) := by
          unfold z7u q0m.f
          rw [bne64, bne128]
          cases lb <;> cases ub <;> simp only [cond_true, cond_false, q0b, Bool.true_and, Bool.false_and, Bool.false_or, Bool.or_false]
          · cases (hi == most) <;> simp
          · cases (lo == least) <;> simp
          · cases (lo == least) <;> cases (hi == most) <;> simp
        unfold valFin
        rw [hsb, bne8]
        simp only [q0z, q0b, q5j.f, gs', gp']
        cases hbad : ((lb && lo == least) || ((ub && hi == most) || !decide (lo ≤ hi))) with
        | true =>
          simp only [cond_true, q5q (K := K) (by omega), q0b]
          have hv := z0y (l := l) (p0 := p) (q := q3) (bs := []) (e0 := .nil) (e := .at ((p : Nat) : Int) (.no 13)) ⟨T3.up, T3.le, q6h (by omega), fun h => by cases h⟩ z0q
          cases k <;> exact hv
        | false =>
          simp only [cond_false]
          simp only [Bool.or_eq_false_iff, Bool.not_eq_false', decide_eq_true_eq] at hbad
          obtain ⟨b1, b2, b3⟩ := hbad
          have elo : (lo != least) = lb := by
            cases lb with
            | true => simp only [Bool.true_and] at b1; rw [bne, b1]; rfl
            | false => rw [l1 rfl]; rfl
          have ehi : (hi != most) = ub := by
            cases ub with
            | true => simp only [Bool.true_and] at b2; rw [bne, b2]; rfl
            | false => rw [u1 rfl]; rfl
          have i0 : i64 least := by unfold i64 least; omega
          have i1 : i64 most := by unfold i64 most; omega
          have ilo : i64 lo := by cases lb with
            | true => exact l2 rfl
            | false => rw [l1 rfl]; exact i0
          have ihi : i64 hi := by cases ub with
            | true => exact u2 rfl
            | false => rw [u1 rfl]; exact i1
          have hs' : 1 ≤ ((s.val : Nat) : Int) ∧ ((s.val : Nat) : Int) ≤ 7 := by simpa using hs
          have hp' : 1 ≤ ((pa.val : Nat) : Int) ∧ ((pa.val : Nat) : Int) ≤ 3 := by simpa using hp
          have hn0 : k = false → n = 0 := fun h => n1 (by rw [h]; rfl)
          have hn64 : i64 n := by cases k with
            | true => exact n2 rfl
            | false => rw [hn0 rfl]; unfold i64; omega
          have hV : Vr (((s.val : Nat) : Int), (k, n), (lo, hi), ((pa.val : Nat) : Int)) := ⟨hs', ⟨hn64, hn0⟩, ilo, ihi, b3, hp'⟩
          have hE : encV (((s.val : Nat) : Int), (k, n), (lo, hi), ((pa.val : Nat) : Int)) = [((b : Nat) : Int)] ++ (if (!k) = true then [] else encI n) ++ (if (!lb) = true then [] else encI lo) ++ (if (!ub) = true then [] else encI hi) := by
            unfold encV
            simp only [elo, ehi, Int.toNat_natCast, ← hb]
            cases k <;> cases lb <;> cases ub <;> simp
          have fin : VRes l p (some (((s.val : Nat) : Int), k, n, lo, hi, ((pa.val : Nat) : Int), Err.nil, ((q3 : Nat) : Int))) := ⟨_, .nil, q3, rfl, by rw [hE]; exact T3, fun _ => hV⟩
          cases k with
          | true => exact fin
          | false => rw [hn0 rfl] at fin; exact fin
theorem z0j (hK : 20000 ≤ K) {p : Nat} {l : List Int} {e0 : Err} (hR : Rd l p) (h0 : Lst e0) :
    ∃ (v : q0l) (e : Err) (q : Nat), q17.f K e0 l ((p : Nat) : Int) = some (v.1, v.2.1.1, v.2.1.2, v.2.2.1.1, v.2.2.1.2, v.2.2.2, e, ((q : Nat) : Int)) ∧ Took l p q e0 e (encV v) ∧ (e = .nil → Vr v) := by
  unfold q17.f q90.f
  rw [q6f]
  cases h : e0.isNil with
  | false =>
    have hne : e0 ≠ .nil := fun e => by subst e; cases h
    simp only [Bool.not_false, cond_true]
    exact ⟨zeroV, e0, p, rfl, Took.bad hR.le h0 hne, fun e => absurd e hne⟩
  | true =>
    have := q3h h
    subst this
    obtain ⟨v, e, q, h1, h2, h3⟩ := j3t (K := K) hK hR
    simp only [Bool.not_true, cond_false, q25.f, q0b, h1, q6f]
    cases he : e.isNil with
    | false =>
      have hne : e ≠ .nil := fun e' => by subst e'; cases he
      simp only [Bool.not_false, cond_true, q0b, q7d]
      exact ⟨zeroV, e, p, rfl, Took.bad hR.le h2.lst hne, fun e => absurd e hne⟩
    | true =>
      have := q3h he
      subst this
      simp only [Bool.not_true, cond_false, q0b, q7d]
      exact ⟨v, .nil, q, rfl, h2, h3⟩
end Go.Proofs.YtdjkdmjdcdljmaaGreatDoor.AU
namespace Go.Proofs.YtdjkdmjdcdljmaaGreatDoor.AU
open Go.Proofs.YtdjkdmjdcdljmaaGreatDoorY Go.Proofs.YtdjkdmjdcdljmaaGreatDoorY.Runs
set_option maxRecDepth 100000
set_option maxHeartbeats 4000000
variable {K : Nat}
theorem q7s {n : Int} : q2y n [] := ⟨List.Pairwise.nil, fun x hx => by cases hx⟩
theorem q72 {a b : Int} {s : List Int} (h : q2y a s) (hab : a ≤ b) : q2y b s := ⟨h.1, fun x hx => by have := h.2 x hx; omega⟩
theorem z19 {a x : Int} {s : List Int} (h : q2y a s) (h0 : 0 ≤ x) (hx : a ≤ x) : q2y (x + 1) (s ++ [x]) := by
  refine ⟨List.pairwise_append.2 ⟨h.1, List.pairwise_singleton _ _, fun y hy z hz => ?_⟩, fun y hy => ?_⟩
  · simp at hz
    have := h.2 y hy
    omega
  · rcases List.mem_append.1 hy with hy | hy
    · have := h.2 y hy; omega
    · simp at hy; omega
structure z5d (l : List Int) (p q : Nat) (e : Err) (P : Prop) : Prop where
  up : p ≤ q
  le : q ≤ l.length
  lst : Lst e
  ok : e = .nil → P
theorem z5d.bad {l : List Int} {p q : Nat} {e : Err} {P Q : Prop} (h : z5d l p q e Q) (hn : e ≠ .nil) : z5d l p q e P := ⟨h.up, h.le, h.lst, fun h' => absurd h' hn⟩
theorem lst_no {k : Int} (h : 1 ≤ k ∧ k ≤ 21) : Lst (.no k) := h
theorem z13 (hK : 20000 ≤ K) {a n : Int} {p : Nat} {l : List Int} (hR : Rd l p) (ha : 0 ≤ a) (hn : n ≤ 5000) :
    ∃ (x : Int) (e : Err) (q : Nat), q5t.f K a n l ((p : Nat) : Int) = some (x, e, ((q : Nat) : Int)) ∧ z5d l p q e (a ≤ x ∧ x < n) := by
  unfold q5t.f
  by_cases h : a ≥ n
  · simp only [decide_eq_true h, cond_true]
    exact ⟨_, _, p, rfl, Nat.le_refl _, hR.le, lst_no (by omega), fun h => by cases h⟩
  · obtain ⟨m, hm⟩ : ∃ m : Nat, n - 1 - a = ((m : Nat) : Int) := ⟨(n - 1 - a).toNat, by omega⟩
    have w1 : IntKind.i64.wrap (n - 1) = n - 1 := q0u (by omega) (by omega)
    have w2 : IntKind.i64.wrap ((m : Nat) : Int) = ((m : Nat) : Int) := q0u (by omega) (by omega)
    have w3 : IntKind.u64.wrap ((m : Nat) : Int) = ((m : Nat) : Int) := q3g (by omega) (by omega)
    obtain ⟨x, e, q, h1, h2, h3, h4⟩ := q8f (K := K) hK (most := m) hR
    have w4 : IntKind.i64.wrap ((x : Nat) : Int) = ((x : Nat) : Int) := q0u (by omega) (by omega)
    have w5 : IntKind.i64.wrap (a + ((x : Nat) : Int)) = a + ((x : Nat) : Int) := q0u (by omega) (by omega)
    simp only [decide_eq_false h, cond_false, w1, w2, hm, w3, h1, q0b, w4, w5]
    exact ⟨a + ((x : Nat) : Int), e, q, rfl, h2.up, h2.le, h2.lst, fun _ => by omega⟩
theorem q8t {n : Int} {x : List Int} {c : Nat} (hx : x.length = c) (hc : c ≤ 1000) : ∀ (k i : Nat) (acc : List Int), i ≤ 8 * c → 8 * c - i < k → q2y (min (i : Int) (max n 0)) acc →
    ∃ r, q3k.l0.f K k n x ((8 * c : Nat) : Int) ((i : Nat) : Int) acc = some r ∧ ((∃ s, r = .inl s ∧ q2y n s) ∨ ∃ e, r = .inr (e, []) ∧ e ≠ .nil ∧ Lst e)
  | 0, i, acc, hi, hk, hr => by omega
  | k + 1, i, acc, hi, hk, hr => by
    rw [q3k.l0.f]
    have hal := q3i hr
    by_cases h : i < 8 * c
    · have e1 : decide (((i : Nat) : Int) < ((8 * c : Nat) : Int)) = true := decide_eq_true (by omega)
      have t1 : Int.tdiv ((i : Nat) : Int) 8 = ((i / 8 : Nat) : Int) := by rw [Int.tdiv_eq_ediv_of_nonneg (by omega)]; omega
      have t2 : Int.tmod ((i : Nat) : Int) 8 = ((i % 8 : Nat) : Int) := by rw [Int.tmod_eq_emod_of_nonneg (by omega)]; omega
      have w1 : IntKind.i64.wrap ((i / 8 : Nat) : Int) = ((i / 8 : Nat) : Int) := q0u (by omega) (by omega)
      have hg : x[i / 8]? = some x[i / 8] := List.getElem?_eq_getElem (by omega)
      have e3 : decide (((i % 8 : Nat) : Int) < (0 : Int)) = false := decide_eq_false (by omega)
      simp only [e1, cond_true, t1, t2, w1, ge0, Int.toNat_natCast, hg, q0b, e3, cond_false, q57 (n := i) (by omega)]
      generalize hb : (IntKind.u8.wrap (((BitVec.ofInt 8 (Int.fdiv x[i / 8] ((2 : Int) ^ min (i % 8) 8)) &&& BitVec.ofInt 8 (1 : Int)).toNat : Nat) : Int) == (0 : Int)) = b
      cases b with
      | true =>
        simp only [cond_true]
        exact q8t hx hc k (i + 1) acc (by omega) (by omega) (q72 hr (by omega))
      | false =>
        simp only [cond_false]
        by_cases hin : ((i : Nat) : Int) ≥ n
        · simp only [decide_eq_true hin, cond_true]
          exact ⟨_, rfl, .inr ⟨_, rfl, no_ne, lst_no (by omega)⟩⟩
        · simp only [decide_eq_false hin, cond_false, q8w (l := acc) (x := ((i : Nat) : Int)) (n := 4000000) (by omega), cond_true]
          refine q8t hx hc k (i + 1) (acc ++ [((i : Nat) : Int)]) (by omega) (by omega) (q72 (z19 hr (by omega) (by omega)) (by omega))
    · have e1 : decide (((i : Nat) : Int) < ((8 * c : Nat) : Int)) = false := decide_eq_false (by omega)
      simp only [e1, cond_false]
      by_cases hn : 0 ≤ n
      · exact ⟨_, rfl, .inl ⟨_, rfl, q72 hr (by omega)⟩⟩
      · have : acc = [] := List.length_eq_zero_iff.1 (by omega)
        subst this
        exact ⟨_, rfl, .inl ⟨_, rfl, q7s⟩⟩
theorem z5c (hK : 20000 ≤ K) {n : Int} {p : Nat} {l : List Int} (hR : Rd l p) (hn : 0 ≤ n ∧ n ≤ 4096) :
    ∃ (s : List Int) (e : Err) (q : Nat), q3k.f K n l ((p : Nat) : Int) = some (s, e, ((q : Nat) : Int)) ∧ z5d l p q e (q2y n s) := by
  unfold q3k.f
  obtain ⟨m, rfl⟩ : ∃ m : Nat, n = ((m : Nat) : Int) := ⟨n.toNat, by omega⟩
  have w1 : IntKind.i64.wrap (((m : Nat) : Int) + 8) = ((m + 8 : Nat) : Int) := by rw [q0u (by omega) (by omega)]; omega
  have w2 : IntKind.i64.wrap (((m + 8 : Nat) : Int) - 1) = ((m + 7 : Nat) : Int) := by rw [q0u (by omega) (by omega)]; omega
  have t1 : Int.tdiv ((m + 7 : Nat) : Int) 8 = (((m + 7) / 8 : Nat) : Int) := by rw [Int.tdiv_eq_ediv_of_nonneg (by omega)]; omega
  have w3 : IntKind.i64.wrap (((m + 7) / 8 : Nat) : Int) = (((m + 7) / 8 : Nat) : Int) := q0u (by omega) (by omega)
  obtain ⟨x, e, q, h1, h2, h3, h4, h5⟩ := q85 (K := K) hK (n := (m + 7) / 8) (by omega) hR
  simp only [w1, w2, t1, w3, h1, q0b, q6f]
  cases he : e.isNil with
  | false =>
    have hne : e ≠ .nil := fun e' => by subst e'; cases he
    simp only [Bool.not_false, cond_true]
    exact ⟨[], e, q, rfl, h2.up, h2.le, h2.lst, fun h => absurd h hne⟩
  | true =>
    have := q3h he
    subst this
    obtain ⟨hx, hq⟩ := h3 rfl
    have w4 : IntKind.i64.wrap ((8 : Int) * ((x.length : Nat) : Int)) = ((8 * x.length : Nat) : Int) := by rw [q0u (by omega) (by omega)]; omega
    obtain ⟨r, g1, g2⟩ := q8t (K := K) (n := ((m : Nat) : Int)) (x := x) (c := x.length) rfl (by omega) K 0 [] (by omega) (by omega) q7s
    simp only [Bool.not_true, cond_false, w4]
    rw [show q3k.l0.f K K ((m : Nat) : Int) x ((8 * x.length : Nat) : Int) (0 : Int) [] = some r from g1, q0b]
    rcases g2 with ⟨s, rfl, g3⟩ | ⟨e, rfl, g3, g4⟩
    · exact ⟨s, _, q, rfl, h2.up, h2.le, trivial, fun _ => g3⟩
    · exact ⟨[], e, q, rfl, h2.up, h2.le, g4, fun h => absurd h g3⟩
theorem z2l (hK : 20000 ≤ K) {n : Int} {l : List Int} {c : Nat} (hn : n ≤ 4096) (hc : c ≤ 5000) : ∀ (k i p : Nat) (nx : Int) (acc : List Int), i ≤ c → c - i < k → Rd l p → 0 ≤ nx → nx ≤ max n 0 → q2y nx acc →
    ∃ r, q31.l0.f K k n nx ((c : Nat) : Int) ((i : Nat) : Int) l ((p : Nat) : Int) acc = some r ∧ ((∃ (s : List Int) (q : Nat), r = .inl (((q : Nat) : Int), s) ∧ p ≤ q ∧ q ≤ l.length ∧ q2y n s) ∨ ∃ (e : Err) (q : Nat), r = .inr (e, ((q : Nat) : Int), []) ∧ p ≤ q ∧ q ≤ l.length ∧ e ≠ .nil ∧ Lst e)
  | 0, i, p, nx, acc, hi, hk, hR, h0, h1, hr => by omega
  | k + 1, i, p, nx, acc, hi, hk, hR, h0, h1, hr => by
    rw [q31.l0.f]
    have hal := q3i hr
    by_cases h : i < c
    · have e1 : decide (((i : Nat) : Int) < ((c : Nat) : Int)) = true := decide_eq_true (by omega)
      obtain ⟨x, e, q, g1, g2⟩ := z13 (K := K) hK (a := nx) (n := n) hR h0 (by omega)
      simp only [e1, cond_true, g1, q0b, q6f]
      cases he : e.isNil with
      | false =>
        have hne : e ≠ .nil := fun e' => by subst e'; cases he
        simp only [Bool.not_false, cond_true]
        exact ⟨_, rfl, .inr ⟨e, q, rfl, g2.up, g2.le, hne, g2.lst⟩⟩
      | true =>
        have := q3h he
        subst this
        obtain ⟨x1, x2⟩ := g2.ok rfl
        have w1 : IntKind.i64.wrap (x + 1) = x + 1 := q0u (by omega) (by omega)
        have w2 : IntKind.u64.wrap (((i : Nat) : Int) + 1) = ((i + 1 : Nat) : Int) := by rw [q3g (by omega) (by omega)]; simp
        simp only [Bool.not_true, cond_false, q8w (l := acc) (x := x) (n := 4000000) (by omega), cond_true, w1, w2]
        obtain ⟨r, f1, f2⟩ := z2l hK hn hc k (i + 1) q (x + 1) (acc ++ [x]) (by omega) (by omega) (hR.to g2.le) (by omega) (by omega) (z19 hr (by omega) x1)
        refine ⟨r, f1, ?_⟩
        have hpq := g2.up
        rcases f2 with ⟨s, q', a1, a2, a3, a4⟩ | ⟨e, q', a1, a2, a3, a4⟩
        · exact .inl ⟨s, q', a1, by omega, a3, a4⟩
        · exact .inr ⟨e, q', a1, by omega, a3, a4⟩
    · have e1 : decide (((i : Nat) : Int) < ((c : Nat) : Int)) = false := decide_eq_false (by omega)
      simp only [e1, cond_false]
      by_cases hn0 : 0 ≤ n
      · exact ⟨_, rfl, .inl ⟨acc, p, rfl, Nat.le_refl _, hR.le, q72 hr (by omega)⟩⟩
      · have : acc = [] := List.length_eq_zero_iff.1 (by omega)
        subst this
        exact ⟨_, rfl, .inl ⟨[], p, rfl, Nat.le_refl _, hR.le, q7s⟩⟩
theorem z7l (hK : 20000 ≤ K) {n : Int} {p : Nat} {l : List Int} (hR : Rd l p) (hn : 0 ≤ n ∧ n ≤ 4096) :
    ∃ (s : List Int) (e : Err) (q : Nat), q31.f K n l ((p : Nat) : Int) = some (s, e, ((q : Nat) : Int)) ∧ z5d l p q e (q2y n s) := by
  unfold q31.f
  obtain ⟨m, rfl⟩ : ∃ m : Nat, n = ((m : Nat) : Int) := ⟨n.toNat, by omega⟩
  obtain ⟨c, e, q, h1, h2, h3, h4⟩ := q8f (K := K) hK (most := m) hR
  simp only [q3g (n := ((m : Nat) : Int)) (by omega) (by omega), h1, q0b, q6f]
  cases he : e.isNil with
  | false =>
    have hne : e ≠ .nil := fun e' => by subst e'; cases he
    simp only [Bool.not_false, cond_true]
    exact ⟨[], e, q, rfl, h2.up, h2.le, h2.lst, fun h => absurd h hne⟩
  | true =>
    have := q3h he
    subst this
    obtain ⟨r, g1, g2⟩ := z2l (K := K) hK (n := ((m : Nat) : Int)) (l := l) (c := c) (by omega) (by omega) K 0 q 0 [] (by omega) (by omega) (h2.rd hR) (by omega) (by omega) q7s
    simp only [Bool.not_true, cond_false]
    rw [show q31.l0.f K K ((m : Nat) : Int) (0 : Int) ((c : Nat) : Int) (0 : Int) l ((q : Nat) : Int) [] = some r from g1, q0b]
    have hpq := h2.up
    rcases g2 with ⟨s, q', rfl, a2, a3, a4⟩ | ⟨e, q', rfl, a2, a3, a4, a5⟩
    · exact ⟨s, _, q', rfl, by omega, a3, trivial, fun _ => a4⟩
    · exact ⟨[], e, q', rfl, by omega, a3, a5, fun h => absurd h a4⟩
theorem z2p {b : Int} (hb : b ≤ 4096) : ∀ (k : Nat) (a : Int) (acc : List Int), 0 ≤ a → a ≤ b + 1 → (b + 1 - a).toNat < k → q2y a acc → ∃ s, q3b.l1.f K k b a acc = some s ∧ q2y (b + 1) s
  | 0, a, acc, _, _, hk, _ => by omega
  | k + 1, a, acc, h0, h1, hk, hr => by
    rw [q3b.l1.f]
    have hal := q3i hr
    by_cases h : a ≤ b
    · have w : IntKind.i64.wrap (a + 1) = a + 1 := q0u (by omega) (by omega)
      simp only [decide_eq_true h, cond_true, q8w (l := acc) (x := a) (n := 4000000) (by omega), w]
      exact z2p hb k (a + 1) (acc ++ [a]) (by omega) (by omega) (by omega) (z19 hr h0 (Int.le_refl _))
    · simp only [decide_eq_false h, cond_false]
      exact ⟨acc, rfl, q72 hr (by omega)⟩
theorem z2r (hK : 20000 ≤ K) {n : Int} {l : List Int} {c : Nat} (hn : n ≤ 4096) (hc : c ≤ 5000) : ∀ (k i p : Nat) (nx : Int) (acc : List Int), i ≤ c → c - i < k → Rd l p → 0 ≤ nx → nx ≤ max n 0 + 1 → q2y (min nx (max n 0)) acc →
    ∃ r, q3b.l0.f K k n nx ((c : Nat) : Int) ((i : Nat) : Int) l ((p : Nat) : Int) acc = some r ∧ ((∃ (s : List Int) (q : Nat), r = .inl (((q : Nat) : Int), s) ∧ p ≤ q ∧ q ≤ l.length ∧ q2y n s) ∨ ∃ (e : Err) (q : Nat), r = .inr (e, ((q : Nat) : Int), []) ∧ p ≤ q ∧ q ≤ l.length ∧ e ≠ .nil ∧ Lst e)
  | 0, i, p, nx, acc, hi, hk, hR, h0, h1, hr => by omega
  | k + 1, i, p, nx, acc, hi, hk, hR, h0, h1, hr => by
    rw [q3b.l0.f]
    by_cases h : i < c
    · have e1 : decide (((i : Nat) : Int) < ((c : Nat) : Int)) = true := decide_eq_true (by omega)
      obtain ⟨x, e, q, g1, g2⟩ := z13 (K := K) hK (a := nx) (n := n) hR h0 (by omega)
      simp only [e1, cond_true, g1, q0b, q6f]
      cases he : e.isNil with
      | false =>
        have hne : e ≠ .nil := fun e' => by subst e'; cases he
        simp only [Bool.not_false, cond_true]
        exact ⟨_, rfl, .inr ⟨e, q, rfl, g2.up, g2.le, hne, g2.lst⟩⟩
      | true =>
        have := q3h he
        subst this
        obtain ⟨x1, x2⟩ := g2.ok rfl
        have R1 := hR.to g2.le
        obtain ⟨y, e, q2, f1, f2⟩ := z13 (K := K) hK (a := x) (n := n) R1 (by omega) (by omega)
        simp only [Bool.not_true, cond_false, f1, q0b, q6f]
        have hpq := g2.up
        have hpq2 := f2.up
        cases he : e.isNil with
        | false =>
          have hne : e ≠ .nil := fun e' => by subst e'; cases he
          simp only [Bool.not_false, cond_true]
          exact ⟨_, rfl, .inr ⟨e, q2, rfl, by omega, f2.le, hne, f2.lst⟩⟩
        | true =>
          have := q3h he
          subst this
          obtain ⟨y1, y2⟩ := f2.ok rfl
          obtain ⟨s, d1, d2⟩ := z2p (K := K) (b := y) (by omega) K x acc (by omega) (by omega) (by omega) (q72 hr (by omega))
          have w1 : IntKind.i64.wrap (y + 2) = y + 2 := q0u (by omega) (by omega)
          have w2 : IntKind.u64.wrap (((i : Nat) : Int) + 1) = ((i + 1 : Nat) : Int) := by rw [q3g (by omega) (by omega)]; simp
          simp only [Bool.not_true, cond_false, d1, q0b, w1, w2]
          obtain ⟨r, f1, f2'⟩ := z2r hK hn hc k (i + 1) q2 (y + 2) s (by omega) (by omega) (R1.to f2.le) (by omega) (by omega) (q72 d2 (by omega))
          refine ⟨r, f1, ?_⟩
          rcases f2' with ⟨s, q', a1, a2, a3, a4⟩ | ⟨e, q', a1, a2, a3, a4⟩
          · exact .inl ⟨s, q', a1, by omega, a3, a4⟩
          · exact .inr ⟨e, q', a1, by omega, a3, a4⟩
    · have e1 : decide (((i : Nat) : Int) < ((c : Nat) : Int)) = false := decide_eq_false (by omega)
      simp only [e1, cond_false]
      by_cases hn0 : 0 ≤ n
      · exact ⟨_, rfl, .inl ⟨acc, p, rfl, Nat.le_refl _, hR.le, q72 hr (by omega)⟩⟩
      · have hal := q3i hr
        have : acc = [] := List.length_eq_zero_iff.1 (by omega)
        subst this
        exact ⟨_, rfl, .inl ⟨[], p, rfl, Nat.le_refl _, hR.le, q7s⟩⟩
theorem z6r (hK : 20000 ≤ K) {n : Int} {p : Nat} {l : List Int} (hR : Rd l p) (hn : 0 ≤ n ∧ n ≤ 4096) :
    ∃ (s : List Int) (e : Err) (q : Nat), q3b.f K n l ((p : Nat) : Int) = some (s, e, ((q : Nat) : Int)) ∧ z5d l p q e (q2y n s) := by
  unfold q3b.f
  obtain ⟨m, rfl⟩ : ∃ m : Nat, n = ((m : Nat) : Int) := ⟨n.toNat, by omega⟩
  obtain ⟨c, e, q, h1, h2, h3, h4⟩ := q8f (K := K) hK (most := m) hR
  simp only [q3g (n := ((m : Nat) : Int)) (by omega) (by omega), h1, q0b, q6f]
  cases he : e.isNil with
  | false =>
    have hne : e ≠ .nil := fun e' => by subst e'; cases he
    simp only [Bool.not_false, cond_true]
    exact ⟨[], e, q, rfl, h2.up, h2.le, h2.lst, fun h => absurd h hne⟩
  | true =>
    have := q3h he
    subst this
    obtain ⟨r, g1, g2⟩ := z2r (K := K) hK (n := ((m : Nat) : Int)) (l := l) (c := c) (by omega) (by omega) K 0 q 0 [] (by omega) (by omega) (h2.rd hR) (by omega) (by omega) q7s
    simp only [Bool.not_true, cond_false]
    rw [show q3b.l0.f K K ((m : Nat) : Int) (0 : Int) ((c : Nat) : Int) (0 : Int) l ((q : Nat) : Int) [] = some r from g1, q0b]
    have hpq := h2.up
    rcases g2 with ⟨s, q', rfl, a2, a3, a4⟩ | ⟨e, q', rfl, a2, a3, a4, a5⟩
    · exact ⟨s, _, q', rfl, by omega, a3, trivial, fun _ => a4⟩
    · exact ⟨[], e, q', rfl, by omega, a3, a5, fun h => absurd h a4⟩
theorem body_back (hK : 20000 ≤ K) {n : Int} {p : Nat} {l : List Int} (hR : Rd l p) (hn : 0 ≤ n ∧ n ≤ 4096) :
    ∃ (s : List Int) (e : Err) (q : Nat), q9j.f K n l ((p : Nat) : Int) = some (s, e, ((q : Nat) : Int)) ∧ z5d l p q e (q2y n s) := by
  unfold q9j.f
  obtain ⟨b, e, q, h1, h2, h3, h4⟩ := q9m (K := K) hK hR
  simp only [h1, q0b, q6f]
  have hpq := h2.up
  have R1 := h2.rd hR
  have lift : ∀ o : Option (List Int × Err × Int), (∃ (s : List Int) (e : Err) (q' : Nat), o = some (s, e, ((q' : Nat) : Int)) ∧ z5d l q q' e (q2y n s)) → ∃ (s : List Int) (e : Err) (q' : Nat), o = some (s, e, ((q' : Nat) : Int)) ∧ z5d l p q' e (q2y n s) := by
    rintro o ⟨s, e, q', a1, a2⟩
    exact ⟨s, e, q', a1, Nat.le_trans hpq a2.up, a2.le, a2.lst, a2.ok⟩
  cases he : e.isNil with
  | false =>
    have hne : e ≠ .nil := fun e' => by subst e'; cases he
    simp only [Bool.not_false, cond_true]
    exact ⟨[], e, q, rfl, h2.up, h2.le, h2.lst, fun h => absurd h hne⟩
  | true =>
    simp only [Bool.not_true, cond_false]
    cases c0 : (((b : Nat) : Int) == 0) with
    | true => simp only [cond_true]; exact lift _ (z5c hK R1 hn)
    | false =>
      cases c1 : (((b : Nat) : Int) == 1) with
      | true => simp only [cond_true, cond_false]; exact lift _ (z7l hK R1 hn)
      | false =>
        cases c2 : (((b : Nat) : Int) == 2) with
        | true => simp only [cond_true, cond_false]; exact lift _ (z6r hK R1 hn)
        | false =>
          simp only [cond_false]
          exact ⟨[], _, q, rfl, h2.up, h2.le, lst_no (by omega), fun h => by cases h⟩
theorem z8a : ∀ (f n : Nat), n < 128 ^ (f + 1) → ∀ x ∈ encN f n, 0 ≤ x ∧ x < 256
  | 0, n, h, x, hx => by
    simp [encN] at hx
    simp at h
    omega
  | f + 1, n, h, x, hx => by
    unfold encN at hx
    split at hx
    · simp at hx; omega
    · rcases List.mem_cons.1 hx with hx | hx
      · omega
      · exact z8a f (n / 128) (by rw [Nat.pow_succ] at h; exact Nat.div_lt_of_lt_mul (by rw [Nat.mul_comm]; exact h)) x hx
theorem q9i {n : Nat} (h : n < 4000000) : ∀ x ∈ encU n, 0 ≤ x ∧ x < 256 := z8a 9 n (Nat.lt_of_lt_of_le h (by decide))
theorem z4s {n : Int} (hn : n ≤ 4096) : ∀ (s : List Int) (nx : Int), 0 ≤ nx → s.Pairwise (· < ·) → (∀ x ∈ s, nx ≤ x ∧ x < n) → ∀ y ∈ q9a nx s, 0 ≤ y ∧ y < 256
  | [], nx, _, _, _, y, hy => by simp [q9a] at hy
  | x :: r, nx, h0, hp, hr, y, hy => by
    have hx := hr x (by simp)
    have hp' := List.pairwise_cons.1 hp
    simp only [q9a, List.mem_append] at hy
    rcases hy with hy | hy
    · exact q9i (by omega) y hy
    · exact z4s hn r (x + 1) (by omega) hp'.2 (fun z hz => ⟨by have := hp'.1 z hz; omega, (hr z (by simp [hz])).2⟩) y hy
theorem z30 : ∀ (R : List (Int × Int)) (nx : Int), (∀ p ∈ R, p.1 ≤ 5000 ∧ p.2 ≤ 5000) → 0 ≤ nx → sepR nx R → ∀ y ∈ q86 nx R, 0 ≤ y ∧ y < 256
  | [], nx, _, _, _, y, hy => by simp [q86] at hy
  | p :: r, nx, hb, h0, hs, y, hy => by
    obtain ⟨h1, h2, h3⟩ := hs
    have hp := hb p (by simp)
    simp only [q86, List.mem_append] at hy
    rcases hy with hy | hy | hy
    · exact q9i (by omega) y hy
    · exact q9i (by omega) y hy
    · exact z30 r _ (fun q hq => hb q (by simp [hq])) (by omega) h3 y hy
theorem j33 {n : Int} {s : List Int} (hn : 0 ≤ n ∧ n ≤ 4096) (h : q2y n s) (way : Int) : ∀ y ∈ q3o n s way, 0 ≤ y ∧ y < 256 := by
  have hl := q3i h
  have hl2 := z55 h
  intro y hy
  unfold q3o at hy
  split at hy
  · rcases List.mem_cons.1 hy with hy | hy
    · omega
    · obtain ⟨j, _, rfl⟩ := List.mem_map.1 hy
      have := (z7q s ((j : Nat) : Int)).isLt
      omega
  · split at hy
    · rcases List.mem_cons.1 hy with hy | hy
      · omega
      · rcases List.mem_append.1 hy with hy | hy
        · exact q9i (by omega) y hy
        · exact z4s hn.2 s 0 (Int.le_refl _) h.1 h.2 y hy
    · rcases List.mem_cons.1 hy with hy | hy
      · omega
      · rcases List.mem_append.1 hy with hy | hy
        · exact q9i (by omega) y hy
        · exact z30 _ 0 (fun p hp => by have := inRun h p hp; omega) (Int.le_refl _) (z0w h).1 y hy
theorem j2s : ∀ {e : Err}, Lst e → e.isNil = false → ∃ n, asNo e = some n ∧ 1 ≤ n ∧ n ≤ 21
  | .nil, _, h => by cases h
  | .no n, h, _ => ⟨n, rfl, h⟩
  | .at p e, h, _ => j2s (e := e) h.2.2.1 h.2.1
theorem lst_kind {e : Err} (h : Lst e) (hn : e ≠ .nil) : 1 ≤ z1m e ∧ z1m e ≤ 21 := by
  obtain ⟨n, h1, h2⟩ := j2s h (not_nil hn)
  unfold z1m
  rw [not_nil hn, cond_false, h1]
  exact h2
theorem j3z (hK : 20000 ≤ K) {n : Int} {p : Nat} {l : List Int} (hR : Rd l p) (hn : 0 ≤ n ∧ n ≤ 4096) :
    ∃ (s : List Int) (e : Err) (q : Nat), q9b.f K n l ((p : Nat) : Int) = some (s, e, ((q : Nat) : Int)) ∧ Took l p q .nil e (encS n s) ∧ (e = .nil → q2y n s) := by
  have hpl := hR.le
  have hll := hR.len
  unfold q9b.f
  have e1 : decide (n < 0) = false := decide_eq_false (by omega)
  have e2 : decide (n > 4096) = false := decide_eq_false (by omega)
  obtain ⟨s, e, q, h1, h2⟩ := body_back (K := K) hK hR hn
  simp only [q1k.f, q25.f, q0b, e1, e2, cond_false, q0z, h1, q6f]
  cases he : e.isNil with
  | false =>
    have hne : e ≠ .nil := fun e' => by subst e'; cases he
    have hk := lst_kind h2.lst hne
    simp only [Bool.not_false, cond_true, q6u.f, q0b, q5q (K := K) (by omega)]
    exact ⟨[], _, p, rfl, Took.bad hpl (q6h hk) z0q, fun h => by cases h⟩
  | true =>
    have := q3h he
    subst this
    have hr := h2.ok rfl
    have hpq := h2.up
    have hql := h2.le
    have w1 : IntKind.i64.wrap (((q : Nat) : Int) - ((p : Nat) : Int)) = ((q - p : Nat) : Int) := by rw [q0u (by omega) (by omega)]; omega
    obtain ⟨x, e', q', g1, g2, g3, g4, g5⟩ := q85 (K := K) hK (n := q - p) (by omega) hR
    have := g4 (by omega)
    subst this
    obtain ⟨g6, rfl⟩ := g3 rfl
    have hx : ∀ y ∈ x, 0 ≤ y ∧ y < 256 := fun y hy => by
      obtain ⟨_, _, _, post, hp⟩ := g2.ok rfl
      exact hR.byte y (List.mem_of_mem_drop (by rw [hp]; exact List.mem_append_left _ hy))
    simp only [Bool.not_true, cond_false, w1, g1, q0b, Err.isNil, way_val hK hn hr, z0v hK hn hr wayS_in, q8p.f]
    cases hb : ((strOf x).toList == (strOf (q3o n s (wayS n s))).toList) with
    | false =>
      simp only [Bool.not_false, cond_true, q5q (K := K) (by omega), q0b]
      exact ⟨[], _, p, rfl, Took.bad hpl (q6h (by omega)) z0q, fun h => by cases h⟩
    | true =>
      have hxe : x = encS n s := z1h hx (j33 hn hr _) (toList_inj (beq_iff_eq.1 hb))
      simp only [Bool.not_true, cond_false, g1, q0b]
      exact ⟨s, .nil, p + (q - p), rfl, g2.cast fun _ => hxe, fun _ => hr⟩
theorem z7e (hK : 20000 ≤ K) {n : Int} {p : Nat} {l : List Int} {e0 : Err} (hR : Rd l p) (h0 : Lst e0) (hn : 0 ≤ n ∧ n ≤ 4096) :
    ∃ (s : List Int) (e : Err) (q : Nat), q3t.f K n e0 l ((p : Nat) : Int) = some (s, e, ((q : Nat) : Int)) ∧ Took l p q e0 e (encS n s) ∧ (e = .nil → q2y n s) := by
  unfold q3t.f
  rw [q6f]
  cases h : e0.isNil with
  | false =>
    have hne : e0 ≠ .nil := fun e => by subst e; cases h
    simp only [Bool.not_false, cond_true]
    exact ⟨[], e0, p, rfl, Took.bad hR.le h0 hne, fun e => absurd e hne⟩
  | true =>
    have := q3h h
    subst this
    obtain ⟨s, e, q, h1, h2, h3⟩ := j3z (K := K) hK hR hn
    simp only [Bool.not_true, cond_false, h1, q0b, q7d]
    exact ⟨s, e, q, rfl, h2, h3⟩
end Go.Proofs.YtdjkdmjdcdljmaaGreatDoor.AU
namespace Go.Proofs.YtdjkdmjdcdljmaaGreatDoor.AU
open Go.Proofs.YtdjkdmjdcdljmaaGreatDoorY Go.Proofs.YtdjkdmjdcdljmaaGreatDoorY.Runs
set_option maxRecDepth 100000
set_option maxHeartbeats 4000000
variable {K : Nat}
theorem z37 (hK : 20000 ≤ K) {l : List Int} {n : Nat} (hn : n ≤ 1000) {L : Nat → Int → Err → Int → List q0l → Option (Err × Int × List q0l)}
    (h0 : ∀ k i e p acc, L (k + 1) i e p acc = bif decide (i < ((n : Nat) : Int)) then (q17.f K e l p).bind fun t => bif (acc.length + [(t.1, (t.2.1, t.2.2.1), (t.2.2.2.1, t.2.2.2.2.1), t.2.2.2.2.2.1)].length).ble 4000000 then L k (IntKind.i64.wrap (i + (1 : Int))) t.2.2.2.2.2.2.1 t.2.2.2.2.2.2.2 (acc ++ [(t.1, (t.2.1, t.2.2.1), (t.2.2.2.1, t.2.2.2.2.1), t.2.2.2.2.2.1)]) else none else some (e, p, acc))
    {p : Nat} {e : Err} (hR : Rd l p) (he : Lst e) :
    ∃ vs e' q, L K (0 : Int) e ((p : Nat) : Int) [] = some (e', ((q : Nat) : Int), vs) ∧ Took l p q e e' (vs.flatMap encV) ∧ vs.length = n ∧ (e' = .nil → ∀ v ∈ vs, Vr v) := by
  obtain ⟨vs, e', q, g1, g2, g3, g4⟩ := q5y (enc := encV) (Good := Vr) (l := l) (n := n) (L := L) (fun k e p acc => by
    rw [h0]
    have : decide (((n : Nat) : Int) < ((n : Nat) : Int)) = false := decide_eq_false (by omega)
    rw [this, cond_false]) (fun k i e p acc hi ha hR he => by
    obtain ⟨v, e', q, a1, a2, a3⟩ := z0j (K := K) hK hR he
    refine ⟨v, e', q, ?_, a2, a3⟩
    rw [h0]
    have : decide (((i : Nat) : Int) < ((n : Nat) : Int)) = true := decide_eq_true (by omega)
    rw [this, cond_true, a1, q0b]
    simp only [q63 (x := ((v.1, (v.2.1.1, v.2.1.2), (v.2.2.1.1, v.2.2.1.2), v.2.2.2) : q0l)) ha (by omega), cond_true, q57 (n := i) (by omega)]) n K 0 e p [] rfl (by omega) (by omega) rfl hR he
  exact ⟨vs, e', q, g1, g2, g3, g4⟩
theorem tag_bits : ∀ b : Fin 4, ((b.val : Nat) : Int) = ((bn (kB ((b.val : Nat) : Int) 1 != 0) + 2 * bn (kB ((b.val : Nat) : Int) 2 != 0) : Nat) : Int) := by decide
theorem j17 (hK : 20000 ≤ K) {a : Int} {p : Nat} {l : List Int} {e0 : Err} (ha : 0 ≤ a ∧ a ≤ 8) (hR : Rd l p) (h0 : Lst e0) :
    ∃ (s : LSum) (e : Err) (q : Nat), q20.f K a e0 l ((p : Nat) : Int) = some (s.1, s.2.1, s.2.2.1, s.2.2.2.1, s.2.2.2.2.1.1, s.2.2.2.2.1.2, s.2.2.2.2.2.1.1, s.2.2.2.2.2.1.2, s.2.2.2.2.2.2, e, ((q : Nat) : Int)) ∧ Took l p q e0 e (q6i s) ∧ (e = .nil → Sr a s) := by
  obtain ⟨n, rfl⟩ : ∃ n : Nat, a = ((n : Nat) : Int) := ⟨a.toNat, by omega⟩
  obtain ⟨b, e1, q1, a1, a2, a3, a4⟩ := z7y (K := K) hK (m := 3) hR h0
  have R1 := a2.rd hR
  obtain ⟨vs, e2, q2, b1, b2, b3, b4⟩ := z37 (K := K) hK (n := n) (by omega) (L := fun k i e p acc => q20.l0.f K k ((n : Nat) : Int) i e l p acc) (fun _ _ _ _ _ => rfl) R1 a2.lst
  have b1' : q20.l0.f K K ((n : Nat) : Int) (0 : Int) e1 l ((q1 : Nat) : Int) [] = some (e2, ((q2 : Nat) : Int), vs) := b1
  obtain ⟨v, e3, q3, c1, c2, c3⟩ := z0j (K := K) hK (b2.rd R1) b2.lst
  obtain ⟨w, e4, q4, d1, d2, d3⟩ := z0j (K := K) hK R1 a2.lst
  have hb : e1 = .nil → ((b : Nat) : Int) = ((bn (kB ((b : Nat) : Int) 1 != 0) + 2 * bn (kB ((b : Nat) : Int) 2 != 0) : Nat) : Int) := fun h => tag_bits ⟨b, by have := a3 h; omega⟩
  unfold q20.f
  rw [a1, q0b]
  unfold kB at hb
  generalize (IntKind.u8.wrap (((BitVec.ofInt 8 ((b : Nat) : Int) &&& BitVec.ofInt 8 (1 : Int)).toNat : Nat) : Int) != (0 : Int)) = c at hb ⊢
  generalize (IntKind.u8.wrap (((BitVec.ofInt 8 ((b : Nat) : Int) &&& BitVec.ofInt 8 (2 : Int)).toNat : Nat) : Int) != (0 : Int)) = r at hb ⊢
  cases c with
  | true => cases r with
    | true =>
      simp only [cond_true, b1', q0b, c1]
      refine ⟨(true, vs, true, v), e3, q3, rfl, ((a2.app b2).app c2).cast fun h => ?_, fun h => ⟨fun h => (by cases h), fun _ => by rw [b3], b4 (c2.ok h).1, fun _ => c3 h, fun h => (by cases h)⟩⟩
      rw [hb (b2.ok (c2.ok h).1).1]
      simp [q6i]
    | false =>
      simp only [cond_true, cond_false, b1', q0b]
      refine ⟨(true, vs, false, zeroV), e2, q2, rfl, (a2.app b2).cast fun h => ?_, fun h => ⟨fun h => (by cases h), fun _ => by rw [b3], b4 h, fun h => (by cases h), fun _ => rfl⟩⟩
      rw [hb (b2.ok h).1]
      simp [q6i]
  | false => cases r with
    | true =>
      simp only [cond_true, cond_false, d1, q0b]
      refine ⟨(false, [], true, w), e4, q4, rfl, (a2.app d2).cast fun h => ?_, fun h => ⟨fun _ => rfl, fun h => (by cases h), fun _ hx => (by cases hx), fun _ => d3 h, fun h => (by cases h)⟩⟩
      rw [hb (d2.ok h).1]
      simp [q6i]
    | false =>
      simp only [cond_false]
      refine ⟨(false, [], false, zeroV), e1, q1, rfl, a2.cast fun h => ?_, fun h => ⟨fun _ => rfl, fun h => (by cases h), fun _ hx => (by cases hx), fun h => (by cases h), fun _ => rfl⟩⟩
      rw [hb h]
      simp [q6i]
theorem j29 (hK : 20000 ≤ K) {regs sites : Int} {p : Nat} {l : List Int} {e0 : Err} (hr : 0 ≤ regs ∧ regs ≤ 8) (hs : 0 ≤ sites ∧ sites ≤ 4096) (hR : Rd l p) (h0 : Lst e0) :
    ∃ (x : q1l) (e : Err) (q : Nat), q2c.f K regs sites e0 l ((p : Nat) : Int) = some (x.1.1, x.1.2.1, x.1.2.2, x.2, e, ((q : Nat) : Int)) ∧ Took l p q e0 e (encB regs sites x) ∧ (e = .nil → Br regs sites x) := by
  obtain ⟨n, rfl⟩ : ∃ n : Nat, regs = ((n : Nat) : Int) := ⟨regs.toNat, by omega⟩
  obtain ⟨b, e1, q1, a1, a2, a3, a4⟩ := z7y (K := K) hK (m := 1) hR h0
  have R1 := a2.rd hR
  unfold q2c.f
  rw [a1, q0b]
  by_cases h1 : ((b : Nat) : Int) = 1
  · have hb : (((b : Nat) : Int) == 1) = true := beq_iff_eq.2 h1
    obtain ⟨vs, e2, q2, b1, b2, b3, b4⟩ := z37 (K := K) hK (n := n) (by omega) (L := fun k i e p acc => q2c.l0.f K k ((n : Nat) : Int) i e l p acc) (fun _ _ _ _ _ => rfl) R1 a2.lst
    have b1' : q2c.l0.f K K ((n : Nat) : Int) (0 : Int) e1 l ((q1 : Nat) : Int) [] = some (e2, ((q2 : Nat) : Int), vs) := b1
    have R2 := b2.rd R1
    obtain ⟨ts, e3, q3, c1, c2, c3, c4⟩ := q5y (enc := encS sites) (Good := q2y sites) (l := l) (n := n) (L := fun k i e p acc => q2c.l1.f K k sites ((n : Nat) : Int) i e l p acc) (fun k e p acc => by
      rw [q2c.l1.f]
      have : decide (((n : Nat) : Int) < ((n : Nat) : Int)) = false := decide_eq_false (by omega)
      rw [this, cond_false]) (fun k i e p acc hi ha hR he => by
      obtain ⟨v, e', q, a1, a2, a3⟩ := z7e (K := K) hK hR he hs
      refine ⟨v, e', q, ?_, a2, a3⟩
      rw [q2c.l1.f]
      have : decide (((i : Nat) : Int) < ((n : Nat) : Int)) = true := decide_eq_true (by omega)
      rw [this, cond_true, a1, q0b]
      simp only [q63 (x := v) ha (by omega), cond_true, q57 (n := i) (by omega)]) n K 0 e2 q2 [] rfl (by omega) (by omega) rfl R2 b2.lst
    have c1' : q2c.l1.f K K sites ((n : Nat) : Int) (0 : Int) e2 l ((q2 : Nat) : Int) [] = some (e3, ((q3 : Nat) : Int), ts) := c1
    obtain ⟨s, e4, q4, d1, d2, d3⟩ := z7e (K := K) hK (c2.rd R2) c2.lst (n := ((n : Nat) : Int)) (by omega)
    simp only [hb, cond_true, b1', q0b, c1', d1]
    refine ⟨((true, vs, ts), s), e4, q4, rfl, (((a2.app b2).app c2).app d2).cast fun h => ?_, fun h => ?_⟩
    · rw [h1]
      simp [encB]
    · have h3 := (d2.ok h).1
      have h2 := (c2.ok h3).1
      exact ⟨fun h => (by cases h), fun _ => ⟨by rw [b3], by rw [c3]⟩, b4 h2, c4 h3, d3 h⟩
  · have hb : (((b : Nat) : Int) == 1) = false := beq_eq_false_iff_ne.2 h1
    obtain ⟨s, e4, q4, d1, d2, d3⟩ := z7e (K := K) hK R1 a2.lst (n := ((n : Nat) : Int)) (by omega)
    simp only [hb, cond_false, q0b, d1]
    refine ⟨((false, [], []), s), e4, q4, rfl, (a2.app d2).cast fun h => ?_, fun h => ⟨fun _ => ⟨rfl, rfl⟩, fun h => (by cases h), fun _ hx => (by cases hx), fun _ hx => (by cases hx), d3 h⟩⟩
    have := a3 (d2.ok h).1
    rw [show ((b : Nat) : Int) = 0 by omega]
    simp [encB]
theorem z4t (hK : 20000 ≤ K) {regs sites : Int} {nb : Nat} {l : List Int} {T : List Int} (hr : 0 ≤ regs ∧ regs ≤ 8) (hs : 0 ≤ sites ∧ sites ≤ 4096) (hl : T.length ≤ 1000) (hT : ∀ b ∈ T, 0 ≤ b ∧ b < (nb : Int)) :
    ∀ (T2 T1 : List Int) (k : Nat) (p : Nat) (e : Err) (B : List q1l), T = T1 ++ T2 → T2.Pairwise (· < ·) → T2.length < k → B.length = nb → Rd l p → Lst e →
    ∃ B' e' q, q2a.l0.f K k sites T ((T.length : Nat) : Int) ((T1.length : Nat) : Int) regs e B l ((p : Nat) : Int) = some (e', B', ((q : Nat) : Int)) ∧ Took l p q e e' (T2.flatMap fun b => encB regs sites (B'.getD b.toNat q6k)) ∧ B'.length = nb ∧ (∀ j : Nat, j < nb → ((j : Nat) : Int) ∉ T2 → B'[j]? = B[j]?) ∧ (e' = .nil → ∀ b ∈ T2, ∃ y, B'[b.toNat]? = some y ∧ Br regs sites y)
  | T2, T1, 0, p, e, B, hh, hp, hk, hB, hR, he => by omega
  | [], T1, k + 1, p, e, B, hh, hp, hk, hB, hR, he => by
    rw [q2a.l0.f]
    simp only [q2n hh, cond_false]
    exact ⟨B, e, p, rfl, Took.still hR.le he, hB, fun j _ _ => rfl, fun _ b hb => (by cases hb)⟩
  | b :: T2, T1, k + 1, p, e, B, hh, hp, hk, hB, hR, he => by
    rw [q2a.l0.f]
    have hl1 : T1.length ≤ 1000 := by rw [hh] at hl; simp at hl; omega
    have hb := hT b (by rw [hh]; simp)
    have hp' := List.pairwise_cons.1 hp
    obtain ⟨y, e1, q1, a1, a2, a3⟩ := j29 (K := K) hK hr hs hR he
    have e1' : decide (0 ≤ b) = true := decide_eq_true hb.1
    have e2 : Nat.blt (Int.toNat b) B.length = true := Nat.ble_eq_true_of_le (by rw [hB]; omega)
    have hlt : b.toNat < B.length := by rw [hB]; omega
    have hm : T[T1.length]? = some b := by rw [hh]; simp
    simp only [List.length_cons] at hk
    simp only [q2m hh, ge0, Int.toNat_natCast, hm, cond_true, q0b, e1', e2, a1, List.getElem?_eq_getElem hlt, q1a (l1 := T1) (x := b) (by omega)]
    obtain ⟨B', e', q, g1, g2, g3, g4, g5⟩ := z4t hK hr hs hl hT T2 (T1 ++ [b]) k q1 e1 (B.set b.toNat y) (q1j hh) hp'.2 (by omega) (by simpa using hB) (a2.rd hR) a2.lst
    have hnb : ((b.toNat : Nat) : Int) ∉ T2 := fun h => by have := hp'.1 _ h; omega
    have hy : B'[b.toNat]? = some y := by rw [g4 b.toNat (by omega) hnb, List.getElem?_set, if_pos rfl, if_pos hlt]
    refine ⟨B', e', q, g1, ?_, g3, fun j hj hn => ?_, fun h c hc => ?_⟩
    · have hd : B'.getD b.toNat q6k = y := by simp [List.getD, hy]
      simp only [List.flatMap_cons, hd]
      exact a2.app g2
    · simp only [List.mem_cons, not_or] at hn
      rw [g4 j hj hn.2, List.getElem?_set, if_neg (by omega)]
    · rcases List.mem_cons.1 hc with rfl | hc
      · exact ⟨y, hy, a3 (g2.ok h).1⟩
      · exact g5 h c hc
theorem j2o (hK : 20000 ≤ K) {p q : Nat} {l bs : List Int} {e0 e : Err} (h : Took l p q e0 e bs) (hR : Rd l p) : ∃ e', q3p.f K e l ((q : Nat) : Int) = some e' ∧ Took l p q e0 e' bs ∧ (e' = .nil → q = l.length) ∧ (e' = .nil → e = .nil) := by
  unfold q3p.f
  rw [z7x]
  cases he : e.isNil with
  | false =>
    have hne : e ≠ .nil := fun h' => by rw [h'] at he; cases he
    simp only [cond_false]
    exact ⟨e, rfl, h, fun h' => absurd h' hne, fun h' => absurd h' hne⟩
  | true =>
    have := q3h he
    subst this
    obtain ⟨e', a1, a2, a3⟩ := z8v (K := K) hK (h.rd hR)
    simp only [cond_true, a1, q0b, q7d]
    exact ⟨e', rfl, ⟨h.up, h.le, a2, fun _ => h.ok rfl⟩, a3, by simp⟩
theorem br_empty {regs sites : Int} : Br regs sites q6k := ⟨fun _ => ⟨rfl, rfl⟩, fun h => (by cases h), fun _ hx => (by cases hx), fun _ hx => (by cases hx), q7s⟩
theorem z6q (hK : 20000 ≤ K) {m : q0x} {sp : Bool} {sites : Int} {p : Nat} {l : List Int} {e0 : Err} (hs : 0 ≤ sites ∧ sites ≤ 4096) (hm : Fm K sp m) (hR : Rd l p) (h0 : Lst e0) :
    ∃ (x : q06) (e : Err) (q : Nat), q2a.f K m.2.1 m.2.2.1 m.2.2.2 sp sites e0 l ((p : Nat) : Int) = some (x.1.1, x.1.2.1, x.1.2.2.1, x.1.2.2.2.1, x.1.2.2.2.2.1.1, x.1.2.2.2.2.1.2, x.1.2.2.2.2.2.1.1, x.1.2.2.2.2.2.1.2, x.1.2.2.2.2.2.2, x.2, e, ((q : Nat) : Int)) ∧ Took l p q e0 e (sec (encF sites (tl K sp m) m x)) ∧ (e = .nil → Tf sites m x ∧ ∀ j : Nat, j < m.2.2.2.length → ((j : Nat) : Int) ∉ tl K sp m → x.2[j]? = some q6k) := by
  have hr : 0 ≤ m.2.2.1 ∧ m.2.2.1 ≤ 8 := ⟨by have := hm.regs; omega, hm.regs.2⟩
  have hnb := hm.nb
  have hTl := q3i hm.q2y
  have e1 : (decide (((m.2.2.2.length : Nat) : Int) ≤ 4000000) && ((m.2.2.2.length : Nat) : Int) == ((m.2.2.2.length : Nat) : Int) && true && true && true) = true := by simp; omega
  unfold q2a.f
  rw [e1, cond_true, q6f]
  cases h : e0.isNil with
  | false =>
    have hne : e0 ≠ .nil := fun e => by subst e; cases h
    simp only [Bool.not_false, cond_true]
    exact ⟨((false, [], false, zeroV), List.replicate m.2.2.2.length q6k), e0, p, rfl, Took.bad hR.le h0 hne, fun e => absurd e hne⟩
  | true =>
    have := q3h h
    subst this
    simp only [Bool.not_true, cond_false]
    rcases q8x (K := K) hK hR with ⟨n, t, g1, g2, g3⟩ | ⟨g1, o, e, g2, g3, g4⟩
    · have ht := g2.le
      have hR2 : Rd (l.take (t + n)) t := ⟨by simp; omega, by have := hR.len; simp; omega, fun x hx => hR.byte x (List.mem_of_mem_take hx)⟩
      obtain ⟨s, es, qs, s1, s2, s3⟩ := j17 (K := K) hK (a := m.2.1) (e0 := .nil) (by have := hm.ar; omega) hR2 trivial
      obtain ⟨B', eb, qb, b1, b2, b3, b4, b5⟩ := z4t (K := K) hK (regs := m.2.2.1) (sites := sites) (nb := m.2.2.2.length) (T := tl K sp m) hr hs (by omega) hm.q2y.2 (tl K sp m) [] K qs es (List.replicate m.2.2.2.length q6k) rfl hm.q2y.1 (by omega) (by simp) (s2.rd hR2) s2.lst
      have b1' : q2a.l0.f K K sites (tl K sp m) (((tl K sp m).length : Nat) : Int) (0 : Int) m.2.2.1 es (List.replicate m.2.2.2.length q6k) (l.take (t + n)) ((qs : Nat) : Int) = some (eb, B', ((qb : Nat) : Int)) := b1
      obtain ⟨e', c1, c2, c3, c4⟩ := j2o (K := K) hK (s2.app b2) hR2
      simp only [g1, Option.elim_some, Err.isNil, Bool.not_true, cond_false, s1, q0b, hm.told, Int.toNat_natCast]
      rw [b1', q0b]
      simp only [c1, q0b, q7d]
      refine ⟨(s, B'), e', t + n, rfl, j2r hR g2 g3 c2 c3, fun h => ?_⟩
      have hb := c4 h
      refine ⟨⟨?_, b3, fun y hy => ?_⟩, fun j hj hn => by rw [b4 j hj hn]; simp [hj]⟩
      · exact s3 (b2.ok hb).1
      · obtain ⟨j, hj⟩ := List.getElem?_of_mem hy
        have hjl : j < m.2.2.2.length := by
          have h5 : j < B'.length := (List.getElem?_eq_some_iff.1 hj).1
          omega
        by_cases hjT : ((j : Nat) : Int) ∈ tl K sp m
        · obtain ⟨z, z1, z2⟩ := b5 hb _ hjT
          simp only [Int.toNat_natCast, hj] at z1
          cases z1
          exact z2
        · rw [b4 j hjl hjT] at hj
          simp [hjl] at hj
          subst hj
          exact br_empty
    · simp only [g1, Option.elim_none, g2, q0b, q6f, not_nil g3, Bool.not_false, cond_true, q7d]
      exact ⟨((false, [], false, zeroV), List.replicate m.2.2.2.length q6k), e, p, rfl, Took.bad hR.le g4 g3, fun h => absurd h g3⟩
end Go.Proofs.YtdjkdmjdcdljmaaGreatDoor.AU
namespace Go.Proofs.YtdjkdmjdcdljmaaGreatDoor.AU
open Go.Proofs.YtdjkdmjdcdljmaaGreatDoorY Go.Proofs.YtdjkdmjdcdljmaaGreatDoorY.Runs
set_option maxRecDepth 100000
set_option maxHeartbeats 4000000
variable {K : Nat}
def z6z {α : Type} (enc : Nat → α → List Int) : Nat → List α → List Int
  | _, [] => []
  | i, x :: xs => enc i x ++ z6z enc (i + 1) xs
theorem z15 {α : Type} {enc : Nat → α → List Int} {Good : Nat → α → Prop} {l : List Int} {n : Nat} {L : Nat → Int → Err → Int → List α → Option (Err × Int × List α)}
    (h0 : ∀ k e p acc, L (k + 1) ((n : Nat) : Int) e p acc = some (e, p, acc))
    (hL : ∀ k (i : Nat) e (p : Nat) acc, i < n → acc.length = i → Rd l p → Lst e → ∃ x e' q, L (k + 1) ((i : Nat) : Int) e ((p : Nat) : Int) acc = L k (((i + 1 : Nat)) : Int) e' ((q : Nat) : Int) (acc ++ [x]) ∧ Took l p q e e' (enc i x) ∧ (e' = .nil → Good i x)) :
    ∀ (m k i : Nat) e (p : Nat) acc, n - i = m → m < k → i ≤ n → acc.length = i → Rd l p → Lst e → ∃ xs e' q, L k ((i : Nat) : Int) e ((p : Nat) : Int) acc = some (e', ((q : Nat) : Int), acc ++ xs) ∧ Took l p q e e' (z6z enc i xs) ∧ xs.length = m ∧ (e' = .nil → ∀ (j : Nat) x, xs[j]? = some x → Good (i + j) x)
  | m, 0, i, e, p, acc, hm, hk, _, _, _, _ => by omega
  | 0, k + 1, i, e, p, acc, hm, hk, hi, ha, hR, he => by
    have : i = n := by omega
    subst this
    exact ⟨[], e, p, by rw [h0]; simp, by simpa [z6z] using Took.still hR.le he, rfl, fun _ j x hx => by simp at hx⟩
  | m + 1, k + 1, i, e, p, acc, hm, hk, hi, ha, hR, he => by
    obtain ⟨x, e', q, h1, h2, h3⟩ := hL k i e p acc (by omega) ha hR he
    obtain ⟨xs, e2, r, g1, g2, g3, g4⟩ := z15 h0 hL m k (i + 1) e' q (acc ++ [x]) (by omega) (by omega) (by omega) (by simp [ha]) (h2.rd hR) h2.lst
    refine ⟨x :: xs, e2, r, by rw [h1, g1]; simp, by simpa [z6z] using h2.app g2, by simp [g3], fun h j y hy => ?_⟩
    cases j with
    | zero =>
      simp at hy
      subst hy
      exact h3 (g2.ok h).1
    | succ j =>
      have := g4 h j y (by simpa using hy)
      rwa [show i + 1 + j = i + (j + 1) by omega] at this
theorem z4h {K : Nat} {sp : Bool} {sites : Int} {fs : List q0x} : ∀ (f2 f1 : List q0x) (xs : List q06), fs = f1 ++ f2 → xs.length = f2.length →
    z6z (fun i x => sec (encF sites (tl K sp (fs.getD i default)) (fs.getD i default) x)) f1.length xs = z1l K sp sites f2 xs
  | [], f1, xs, h, hx => by
    have : xs = [] := List.length_eq_zero_iff.1 (by simpa using hx)
    subst this
    rfl
  | m :: f2, f1, [], h, hx => by simp at hx
  | m :: f2, f1, x :: xs, h, hx => by
    have := z4h (K := K) (sp := sp) (sites := sites) (fs := fs) f2 (f1 ++ [m]) xs (q1j h) (by simpa using hx)
    have hm : fs.getD f1.length default = m := by rw [h]; simp [List.getD]
    simp only [z6z, z1l, hm]
    rw [← this]
    simp
theorem z3y {α : Type} {enc : α → List Int} : ∀ (xs : List α) (i : Nat), z6z (fun _ x => enc x) i xs = xs.flatMap enc
  | [], i => rfl
  | x :: xs, i => by rw [z6z, List.flatMap_cons, z3y xs]
theorem z0g {cells : List Int} {fs : List q0x} {is : List q0g} (h : WF cells fs is) : q4k fs ≤ 4096 := by
  have hc := h.count
  have h1 : q4k fs ≤ 152 * fs.length := j16 fun f hf => by
    obtain ⟨a, b, c, d⟩ := h.shape f hf
    have hbn : q8d f.2.2.2 ≤ 12 * f.2.2.2.length := j16 fun b hb => Nat.le_trans (z7b b.1) (d b hb).1
    omega
  omega
structure Was (K : Nat) (l : List Int) (cs : List Int) (fs : List q0x) (is : List q0g) (vs : List q0l) (xs : List q06) (ss : List LSum) (sp : Bool) : Prop where
  file : l = z8e K sp cs fs is vs xs ss
  wf : WF cs fs is
  wide : wide cs fs
  tab : Tab cs fs is vs xs ss
  hz : ∀ (i : Nat) m x, fs[i]? = some m → xs[i]? = some x → ∀ j : Nat, j < m.2.2.2.length → ((j : Nat) : Int) ∉ tl K sp m → x.2[j]? = some q6k
theorem z8h (hK : 20000 ≤ K) {l : List Int} (hR : Rd l 0) :
    ∃ (cs : List Int) (fs : List q0x) (is : List q0g) (vs : List q0l) (xs : List q06) (ss : List LSum) (sp : Bool) (e : Err), q22.f K l = some (cs, fs, is, vs, xs, ss, sp, e) ∧ Lst e ∧ (e = .nil → Was K l cs fs is vs xs ss sp) ∧ (e ≠ .nil → cs = [] ∧ fs = [] ∧ is = [] ∧ vs = [] ∧ xs = [] ∧ ss = []) := by
  have hlen := hR.len
  obtain ⟨cs, fs, is, sp, e, q, a1, a2, a3⟩ := amod_take (K := K) hK hR
  unfold q22.f q8k.f
  simp only [z5o (K := K) (l := l) (by omega), q0b, a1, q6f, z7x]
  cases he : e.isNil with
  | false =>
    have hne : e ≠ .nil := fun h => by rw [h] at he; cases he
    simp only [cond_false, Bool.not_false, cond_true]
    exact ⟨[], [], [], [], [], [], false, e, rfl, a2.lst, fun h => absurd h hne, fun _ => ⟨rfl, rfl, rfl, rfl, rfl, rfl⟩⟩
  | true =>
    have := q3h he
    subst this
    obtain ⟨wf, wd⟩ := a3 rfl
    have hn := wf.ncells
    have hcnt := wf.count
    have hsm := z0g wf
    have hS := z06 wf hsm
    have R1 := a2.rd hR
    obtain ⟨vs, e1, q1, b1, b2, b3, b4⟩ := z37 (K := K) hK (n := cs.length) (by omega) (L := fun k i e p acc => q22.l0.f K k ((cs.length : Nat) : Int) i e l p acc) (fun _ _ _ _ _ => rfl) R1 a2.lst
    have b1' : q22.l0.f K K ((cs.length : Nat) : Int) (0 : Int) .nil l ((q : Nat) : Int) [] = some (e1, ((q1 : Nat) : Int), vs) := b1
    have R2 := b2.rd R1
    obtain ⟨xs, e2, q2, c1, c2, c3, c4⟩ := z15 (enc := fun i x => sec (encF ((q4k fs : Nat) : Int) (tl K sp (fs.getD i default)) (fs.getD i default) x)) (Good := fun i x => ∀ m, fs[i]? = some m → Tf ((q4k fs : Nat) : Int) m x ∧ ∀ j : Nat, j < m.2.2.2.length → ((j : Nat) : Int) ∉ tl K sp m → x.2[j]? = some q6k) (l := l) (n := fs.length) (L := fun k i e p acc => q22.l1.f K k sp ((q4k fs : Nat) : Int) fs ((fs.length : Nat) : Int) i e l p acc) (fun k e p acc => by
      rw [q22.l1.f]
      have : decide (((fs.length : Nat) : Int) < ((fs.length : Nat) : Int)) = false := decide_eq_false (by omega)
      rw [this, cond_false]) (fun k i e p acc hi ha hR he => by
      have hg : fs[i]? = some fs[i] := List.getElem?_eq_getElem hi
      have hd : fs.getD i default = fs[i] := by simp [List.getD, hg]
      obtain ⟨x, e', q, a1, a2, a3⟩ := z6q (K := K) (sp := sp) hK hS (wf.fm hK sp fs[i] (List.getElem_mem hi)) hR he
      refine ⟨x, e', q, ?_, by rw [hd]; exact a2, fun h m hm => by rw [hg] at hm; cases hm; exact a3 h⟩
      rw [q22.l1.f]
      have : decide (((i : Nat) : Int) < ((fs.length : Nat) : Int)) = true := decide_eq_true (by omega)
      rw [this, cond_true]
      simp only [ge0, Int.toNat_natCast, cond_true, hg, q0b, a1, q63 (x := x) ha (by omega), q57 (n := i) (by omega)]) fs.length K 0 e1 q1 [] rfl (by omega) (by omega) rfl R2 b2.lst
    have c1' : q22.l1.f K K sp ((q4k fs : Nat) : Int) fs ((fs.length : Nat) : Int) (0 : Int) e1 l ((q1 : Nat) : Int) [] = some (e2, ((q2 : Nat) : Int), xs) := c1
    have R3 := c2.rd R2
    obtain ⟨ss, e3, q3, d1, d2, d3, d4⟩ := z15 (enc := fun _ x => q6i x) (Good := fun i x => ∀ m, is[i]? = some m → Sr m.2 x) (l := l) (n := is.length) (L := fun k i e p acc => q22.l2.f K k is ((is.length : Nat) : Int) i e l p acc) (fun k e p acc => by
      rw [q22.l2.f]
      have : decide (((is.length : Nat) : Int) < ((is.length : Nat) : Int)) = false := decide_eq_false (by omega)
      rw [this, cond_false]) (fun k i e p acc hi ha hR he => by
      have hg : is[i]? = some is[i] := List.getElem?_eq_getElem hi
      obtain ⟨x, e', q, a1, a2, a3⟩ := j17 (K := K) hK (a := is[i].2) (by have := wf.ims wd is[i] (List.getElem_mem hi); omega) hR he
      refine ⟨x, e', q, ?_, a2, fun h m hm => by rw [hg] at hm; cases hm; exact a3 h⟩
      rw [q22.l2.f]
      have : decide (((i : Nat) : Int) < ((is.length : Nat) : Int)) = true := decide_eq_true (by omega)
      rw [this, cond_true]
      simp only [ge0, Int.toNat_natCast, cond_true, hg, q0b, a1, q63 (x := x) ha (by omega), q57 (n := i) (by omega)]) is.length K 0 e2 q2 [] rfl (by omega) (by omega) rfl R3 c2.lst
    have d1' : q22.l2.f K K is ((is.length : Nat) : Int) (0 : Int) e2 l ((q2 : Nat) : Int) [] = some (e3, ((q3 : Nat) : Int), ss) := d1
    have T := ((a2.app b2).app c2).app d2
    obtain ⟨e', f1, f2, f3, f4⟩ := j2o (K := K) hK T hR
    simp only [cond_true, z12 hK wf, q0b, b1', c1', d1', f1]
    cases he' : e'.isNil with
    | false =>
      have hne : e' ≠ .nil := fun h => by rw [h] at he'; cases he'
      simp only [Bool.not_false, cond_true]
      exact ⟨[], [], [], [], [], [], false, e', rfl, f2.lst, fun h => absurd h hne, fun _ => ⟨rfl, rfl, rfl, rfl, rfl, rfl⟩⟩
    | true =>
      have := q3h he'
      subst this
      have hq := f3 rfl
      have h3 := f4 rfl
      have h2 := (d2.ok h3).1
      have h1 := (c2.ok h2).1
      simp only [Bool.not_true, cond_false]
      refine ⟨cs, fs, is, vs, xs, ss, sp, .nil, rfl, trivial, fun _ => ⟨?_, wf, wd, ⟨b3, b4 h1, c3, fun i m x hm hx => ?_, d3, fun i m s hm hs => ?_⟩, fun i m x hm hx => ?_⟩, fun h => absurd rfl h⟩
      · obtain ⟨_, S⟩ := f2.ok rfl
        have S2 := S.2.1
        obtain ⟨_, _, post, hp⟩ := S
        subst hq
        have hpost : post = [] := by
          have := congrArg List.length hp
          simp only [List.length_append, List.length_drop] at this S2
          exact List.length_eq_zero_iff.1 (by omega)
        subst hpost
        rw [List.drop_zero, List.append_nil] at hp
        rw [hp]
        have := z4h (K := K) (sp := sp) (sites := ((q4k fs : Nat) : Int)) (fs := fs) fs [] xs rfl c3
        rw [show z6z (fun i x => sec (encF ((q4k fs : Nat) : Int) (tl K sp (fs.getD i default)) (fs.getD i default) x)) 0 xs = _ from this, z3y]
        simp [z8e]
      · have := (c4 h2 i x hx) m (by simpa using hm)
        exact this.1
      · exact (d4 h3 i s hs) m (by simpa using hm)
      · have := (c4 h2 i x hx) m (by simpa using hm)
        exact this.2
end Go.Proofs.YtdjkdmjdcdljmaaGreatDoor.AU
namespace Go.Proofs.YtdjkdmjdcdljmaaGreatDoor.AU
open Go.Proofs.YtdjkdmjdcdljmaaGreatDoorY Go.Proofs.YtdjkdmjdcdljmaaGreatDoorY.Runs
set_option maxRecDepth 100000
set_option maxHeartbeats 4000000
variable {K : Nat}
theorem cut_ok (m : Int) (hm : 0 ≤ m) (a : List Int) : (decide (((0 : Nat) : Int) ≤ if m < ((a.length : Nat) : Int) then m else ((a.length : Nat) : Int)) && decide ((if m < ((a.length : Nat) : Int) then m else ((a.length : Nat) : Int)) ≤ ((a.length : Nat) : Int)) && true) = true := by
  split <;> simp <;> omega
theorem cut_rd (m : Int) (h0 : 0 ≤ m) (hm : m ≤ 8000) (a : List Int) (ha : ∀ x ∈ a, 0 ≤ x ∧ x < 256) : Rd (List.drop 0 (List.take (if m < ((a.length : Nat) : Int) then m else ((a.length : Nat) : Int)).toNat a)) 0 := by
  refine ⟨Nat.zero_le _, ?_, fun x hx => ha x (List.mem_of_mem_take (List.mem_of_mem_drop hx))⟩
  rw [List.drop_zero, List.length_take]
  split <;> omega
theorem eq_law {o1 o2 : Option Bool} {P1 P2 : Prop} {s1 s2 c : Bool} {p q : List Int} (h1 : q5e o1 P1) (h2 : q5e o2 P2) (hc : c = true ↔ p = q) (h : p = q ↔ s1 = s2 ∧ P1 ∧ P2) :
    (bif s1 == s2 then o1.bind fun t => bif t then o2.bind fun t => some (c == t) else some (c == false) else some (c == false)) = some true := by
  obtain ⟨r1, rfl, e1⟩ := h1
  obtain ⟨r2, rfl, e2⟩ := h2
  have no : p ≠ q → c = false := fun hn => by
    cases hcc : c with
    | false => rfl
    | true => exact absurd (hc.1 hcc) hn
  by_cases hs : s1 = s2
  · rw [beq_iff_eq.2 hs, cond_true, q0b]
    cases h3 : r1 with
    | false =>
      have : c = false := no fun hpq => by have := e1.2 (h.1 hpq).2.1; rw [h3] at this; cases this
      simp [this]
    | true =>
      simp only [cond_true, q0b]
      cases h4 : r2 with
      | false =>
        have : c = false := no fun hpq => by have := e2.2 (h.1 hpq).2.2; rw [h4] at this; cases this
        simp [this]
      | true =>
        have : c = true := hc.2 (h.2 ⟨hs, e1.1 h3, e2.1 h4⟩)
        simp [this]
  · have : c = false := no fun hpq => hs (h.1 hpq).1
    rw [beq_eq_false_iff_ne.2 hs, cond_false, this]
    rfl
theorem isNil_nil : Err.nil.isNil = true := rfl
theorem j3s (hK : 20000 ≤ K) {a b : List Int} (ha : ∀ x ∈ a, 0 ≤ x ∧ x < 256) (hb : ∀ x ∈ b, 0 ≤ x ∧ x < 256) : q2p.f K a b = some true := by
  unfold q2p.f
  rw [cut_ok 6000 (by omega) a, cut_ok 6000 (by omega) b, cond_true, cond_true]
  have hp := cut_rd 6000 (by omega) (by omega) a ha
  have hq := cut_rd 6000 (by omega) (by omega) b hb
  revert hp hq
  generalize (List.drop 0 (List.take (if (6000 : Int) < ((a.length : Nat) : Int) then (6000 : Int) else ((a.length : Nat) : Int)).toNat a)) = p
  generalize (List.drop 0 (List.take (if (6000 : Int) < ((b.length : Nat) : Int) then (6000 : Int) else ((b.length : Nat) : Int)).toNat b)) = q
  intro hp hq
  obtain ⟨cs, fs, is, vs, xs, ss, sp, e, r1, r2, r3, r4⟩ := z8h (K := K) hK hp
  obtain ⟨cs', fs', is', vs', xs', ss', sp', e', u1, u2, u3, u4⟩ := z8h (K := K) hK hq
  simp only [r1, u1, q0b, runs_val hK, Bool.not_true, cond_false, q6f, z7x, q0z]
  cases he : e.isNil with
  | false => rfl
  | true =>
    have := q3h he
    subst this
    have w := r3 rfl
    have hW := j3g (K := K) (sp := sp) hK w.wf w.wide (z0g w.wf) w.tab w.hz
    rw [← w.file] at hW
    simp only [cond_true, Bool.not_true, cond_false, hW, q0b, isNil_nil, head_same]
    cases he' : e'.isNil with
    | false => simp only [Bool.not_false, cond_true]
    | true =>
      have := q3h he'
      subst this
      have w' := u3 rfl
      simp only [Bool.not_true, cond_false]
      have hi := ireq_val (K := K) hK (c := cs) (c' := cs') (f := fs) (f' := fs') (i := is) (i' := is') (by have := w.wf.ncells; omega) w.wf.fits (by have := w.wf.count; omega)
      have ht := teq_val (K := K) hK (c := vs) (c' := vs') (x := xs) (x' := xs') (s := ss) (s' := ss') (Tab.small w.wf w.wide (z0g w.wf) w.tab)
      have hc : ((strOf p).toList == (strOf q).toList) = true ↔ p = q := ⟨fun h => z1h hp.byte hq.byte (toList_inj (beq_iff_eq.1 h)), fun h => by rw [h]; simp⟩
      have := eq_law (s1 := sp) (s2 := sp') hi ht hc ⟨fun h => by
        rw [h] at r1
        rw [r1] at u1
        simp only [Option.some.injEq, Prod.mk.injEq] at u1
        obtain ⟨a1, a2, a3, a4, a5, a6, a7, _⟩ := u1
        exact ⟨a7, ⟨⟨a1, a3⟩, a2⟩, ⟨a4, a5⟩, a6⟩, fun ⟨h1, ⟨⟨h2, h3⟩, h4⟩, ⟨h5, h6⟩, h7⟩ => by rw [w.file, w'.file, h1, h2, h3, h4, h5, h6, h7]⟩
      rw [this, q0b]
end Go.Proofs.YtdjkdmjdcdljmaaGreatDoor.AU
namespace Go.Proofs.YtdjkdmjdcdljmaaGreatDoorY
open Go.RowKit
def WfD : (T : Ty) → T.I → Prop
  | .int k, n => (Lit.int k n).wf = true
  | .slice t, xs => ∀ x ∈ xs, WfD t x
  | .pair a b, x => WfD a x.1 ∧ WfD b x.2
  | _, _ => True
def q8g (P : Program) (chk : TypeId → Ty → Bool) (total : Nat) : Nat → List Field → Ty → Bool
  | o, f :: g :: fs, .pair A B => Nat.beq f.offset o && chk f.type A && q8g P chk total (o + P.cellsOf f.type) (g :: fs) B
  | o, [f], T => Nat.beq f.offset o && chk f.type T && Nat.beq (o + P.cellsOf f.type) total
  | _, _, _ => false
def j0u (P : Program) : Nat → TypeId → Ty → Bool
  | 0, _, _ => false
  | n + 1, t, T => match P.underlying t, T with
    | some (.int k), .int k' => IntKind.beq' k k'
    | some .bool, .bool => true
    | some .string, .str => true
    | some (.slice e), .slice T => j0u P n e T && Nat.blt 0 (P.cellsOf e)
    | some (.struct fs), T => q8g P (j0u P n) (P.cellsOf t) 0 fs.toList T
    | _, _ => false
def oldZ (w : World) : Zone := fun r => r < w.heap.size
theorem seg_eq {L row : List Value} {o s : Nat} (hl : row.length = s) (h : ∀ r, r < s → L[o + r]? = row[r]?) : L.drop o = row ++ L.drop (o + s) := by
  apply List.ext_getElem?
  intro i
  rw [List.getElem?_drop]
  by_cases hi : i < s
  · rw [List.getElem?_append_left (by omega)]; exact h i hi
  · rw [List.getElem?_append_right (by omega), List.getElem?_drop]
    congr 1; omega
theorem rows_eq {s : Nat} : ∀ {rows : List (List Value)} {L : List Value} {o : Nat}, (∀ i row, rows[i]? = some row → row.length = s ∧ ∀ r, r < s → L[o + i * s + r]? = row[r]?) → L.drop o = rows.flatten ++ L.drop (o + rows.length * s)
  | [], L, o, _ => by simp
  | row :: rows, L, o, h => by
    obtain ⟨h1, h2⟩ := h 0 row rfl
    have e := seg_eq (L := L) (o := o) h1 (fun r hr => by simpa using h2 r hr)
    have ih := rows_eq (rows := rows) (L := L) (o := o + s) fun i r hr => by
      obtain ⟨q1, q2⟩ := h (i + 1) r (by simpa using hr)
      refine ⟨q1, fun k hk => ?_⟩
      have := q2 k hk
      rw [← this]
      congr 1
      rw [Nat.add_mul]; omega
    rw [e, ih, List.flatten_cons, List.append_assoc, List.length_cons, Nat.add_mul]
    congr 3; omega
section
variable {M : Cfg} {P : Program} {H : Type} {enc : TypeId × Value → H} {w : World} {spare : Nat → Bool} {held : Bool}
theorem pickL {α : Type} (R : Nat → α → Prop) : ∀ n, (∀ i, i < n → ∃ x, R i x) → ∃ xs : List α, xs.length = n ∧ ∀ i x, xs[i]? = some x → R i x
  | 0, _ => ⟨[], rfl, fun i x h => by simp at h⟩
  | n + 1, h => by
    obtain ⟨xs, hl, hx⟩ := pickL R n (fun i hi => h i (by omega))
    obtain ⟨y, hy⟩ := h n (by omega)
    refine ⟨xs ++ [y], by simp [hl], fun i x hi => ?_⟩
    by_cases g : i < xs.length
    · rw [List.getElem?_append_left g] at hi; exact hx i x hi
    · rw [List.getElem?_append_right (by omega)] at hi
      have hlt := (List.getElem?_eq_some_iff.1 hi).1
      have : i = n := by simp at hlt; omega
      subst this
      rw [hl, Nat.sub_self] at hi
      simp at hi
      subst hi
      exact hy
theorem All2.of_get {α β : Type} {R : α → β → Prop} : ∀ {l : List α} {m : List β}, l.length = m.length → (∀ (i : Nat) a b, l[i]? = some a → m[i]? = some b → R a b) → All2 R l m
  | [], [], _, _ => trivial
  | a :: l, b :: m, h, hr => ⟨hr 0 a b rfl rfl, All2.of_get (by simpa using h) fun i x y hx hy => hr (i + 1) x y (by simpa using hx) (by simpa using hy)⟩
  | [], _ :: _, h, _ => by simp at h
  | _ :: _, [], h, _ => by simp at h
theorem z97 {chk : TypeId → Ty → Bool} {total n : Nat} {cs : List Value} (hcs : cs.length = total) (ih : ∀ t T, chk t T = true → ∀ cs x, DataW.trod enc P w 0 spare held n t cs = some x → ∃ d : T.I, DV M (oldZ w) w T d cs ∧ WfD T d) :
    ∀ (fs : List Field) (o : Nat) (T : Ty), q8g P chk total o fs T = true → (∀ f ∈ fs, ∃ y, DataW.trod enc P w 0 spare held n f.type ((cs.drop f.offset).take (P.cellsOf f.type)) = some y) → ∃ d : T.I, DV M (oldZ w) w T d (cs.drop o) ∧ WfD T d
  | [], o, T, h, _ => by cases T <;> simp [q8g] at h
  | [f], o, T, h, hf => by
    have h' : (Nat.beq f.offset o && chk f.type T && Nat.beq (o + P.cellsOf f.type) total) = true := by
      cases T <;> exact h
    simp only [Bool.and_eq_true] at h'
    obtain ⟨⟨h1, h2⟩, h3⟩ := h'
    have h1 := Nat.eq_of_beq_eq_true h1
    have h3 := Nat.eq_of_beq_eq_true h3
    obtain ⟨y, hy⟩ := hf f (by simp)
    rw [h1, List.take_of_length_le (by simp; omega)] at hy
    exact ih _ _ h2 _ _ hy
  | f :: g :: fs, o, T, h, hf => by
    cases T with
    | pair A B =>
      simp only [q8g, Bool.and_eq_true] at h
      obtain ⟨⟨h1, h2⟩, h3⟩ := h
      have h1 := Nat.eq_of_beq_eq_true h1
      obtain ⟨y, hy⟩ := hf f (by simp)
      rw [h1] at hy
      obtain ⟨d1, q1, q2⟩ := ih _ _ h2 _ _ hy
      obtain ⟨d2, q3, q4⟩ := z97 hcs ih (g :: fs) (o + P.cellsOf f.type) B h3 (fun f' hf' => hf f' (by simp [hf']))
      refine ⟨(d1, d2), ⟨_, _, ?_, q1, q3⟩, q2, q4⟩
      rw [← List.drop_drop, List.take_append_drop]
    | _ => simp [q8g] at h
theorem z7r : ∀ (n : Nat) (t : TypeId) (T : Ty), j0u P n t T = true → ∀ (fuel : Nat) cs x, DataW.trod enc P w 0 spare held fuel t cs = some x → ∃ d : T.I, DV M (oldZ w) w T d cs ∧ WfD T d
  | 0, t, T, h, _, _, _, _ => by simp [j0u] at h
  | n + 1, t, T, h, fuel, cs, x, hx => by
    unfold j0u at h
    split at h
    · rename_i k k' hu
      have := IntKind.beq'_eq h
      subst this
      obtain ⟨v, rfl, _, hw⟩ := DataW.trod_int hu hx
      exact ⟨v, rfl, hw⟩
    · rename_i hu
      obtain ⟨v, rfl, _⟩ := DataW.trod_bool hu hx
      exact ⟨v, rfl, trivial⟩
    · rename_i hu
      obtain ⟨v, rfl, _, _⟩ := DataW.trod_string hu hx
      exact ⟨v, rfl, trivial⟩
    · rename_i e T' hu
      rw [Bool.and_eq_true] at h
      obtain ⟨h1, h2⟩ := h
      have h2 : 0 < P.cellsOf e := Nat.le_of_ble_eq_true h2
      rcases Go.Deep.open_slice hu hx with ⟨rfl, _⟩ | ⟨a, len, cap, m, q, D, Pl, rfl, hb, hl, hm, hmm, _, hi⟩
      · exact ⟨[], ⟨none, 0, rfl, Nat.le_refl _, .inl rfl⟩, fun x hx => by simp at hx⟩
      · obtain ⟨ps, p1, p2⟩ := pickL (fun i (p : T'.I × List Value) => w.cells? 0 (a.add (i * P.cellsOf e)) (P.cellsOf e) = some p.2 ∧ DV M (oldZ w) w T' p.1 p.2 ∧ WfD T' p.1) len (fun i hil => by
          obtain ⟨cs', c1, c2⟩ := hi i (by rw [hmm]; split <;> omega)
          obtain ⟨d, d1, d2⟩ := z7r n e T' h1 _ _ _ c2
          exact ⟨(d, cs'), c1, d1, d2⟩)
        refine ⟨ps.map (·.1), ⟨some a, cap, by simp [p1], by simp [p1, hl], ?_⟩, fun x hx => ?_⟩
        · by_cases h0 : len = 0
          · left
            have : ps = [] := List.length_eq_zero_iff.1 (by omega)
            rw [this]; rfl
          · right
            obtain ⟨p0, hp0⟩ : ∃ p0, ps[0]? = some p0 := ⟨ps[0]'(by omega), List.getElem?_eq_getElem _⟩
            have hq := (p2 0 p0 hp0).1
            rw [Nat.zero_mul] at hq
            have ha0 : a.add 0 = a := by unfold Addr.add; rw [if_pos rfl]
            rw [ha0] at hq
            obtain ⟨_, r1, r2⟩ := World.cells?_some hq
            have r0 := r2 0 h2
            rw [ha0] at r0
            have hc0 : w.cell? a ≠ none := by
              rw [r0, List.getElem?_eq_getElem (by omega)]; exact fun h => by cases h
            obtain ⟨c, el, fr, hheap, hspot⟩ : ∃ c el fr, w.heap[a.block]? = some (.cells c el fr) ∧ a.spot = none := by
              unfold World.cell? at hc0
              split at hc0
              · rename_i c el fr hh
                refine ⟨c, el, fr, hh, ?_⟩
                cases hs : a.spot with
                | none => rfl
                | some v => rw [hs] at hc0; simp at hc0
              · exact absurd rfl hc0
            have at_ : ∀ k, w.cell? (a.add k) = c[a.off + k]? := fun k => by
              unfold World.cell? Addr.add
              by_cases hk : k = 0
              · subst hk; simp [hheap, hspot]
              · rw [if_neg hk]; simp [hheap]
            have hrows : c.toList.drop a.off = (ps.map (·.2)).flatten ++ c.toList.drop (a.off + (ps.map (·.2)).length * P.cellsOf e) := rows_eq fun i row hrow => by
              rw [List.getElem?_map] at hrow
              cases hpi : ps[i]? with
              | none => rw [hpi] at hrow; cases hrow
              | some p =>
                rw [hpi] at hrow
                cases hrow
                have hpq := (p2 i p hpi).1
                obtain ⟨_, z1, z2⟩ := World.cells?_some hpq
                refine ⟨z1, fun r hr => ?_⟩
                have := z2 r hr
                rw [Go.Deep.add_add, at_] at this
                rw [← this, Array.getElem?_toList]
                congr 1; omega
            refine ⟨a.block, a.off, c, el, fr, c.toList.take a.off, c.toList.drop (a.off + (ps.map (·.2)).length * P.cellsOf e), ps.map (·.2), ?_, ?_, hheap, ?_, ?_, ?_⟩
            · obtain ⟨b, o, s⟩ := a
              simp at hspot
              subst hspot
              rfl
            · unfold oldZ
              exact (Array.getElem?_eq_some_iff.1 hheap).1
            · rw [← hrows, List.take_append_drop]
            · rw [List.length_take, Nat.min_eq_left]
              have h3 : c[a.off]? ≠ none := by have := at_ 0; rw [ha0] at this; rw [Nat.add_zero] at this; rw [← this]; exact hc0
              have : a.off < c.size := by
                cases hh : c[a.off]? with
                | none => exact absurd hh h3
                | some v => exact (Array.getElem?_eq_some_iff.1 hh).1
              simp; omega
            · refine All2.of_get (by simp) fun i x row hx hr => ?_
              rw [List.getElem?_map] at hx hr
              cases hpi : ps[i]? with
              | none => rw [hpi] at hx; cases hx
              | some p =>
                rw [hpi] at hx hr
                cases hx; cases hr
                exact (p2 i p hpi).2.1
        · obtain ⟨p, hp, rfl⟩ := List.mem_map.1 hx
          obtain ⟨i, hi⟩ := List.mem_iff_getElem?.1 hp
          exact (p2 i p hi).2.2
    · rename_i fs hu
      obtain ⟨xs, q, _, _, hlen, hxl, hf⟩ := DataW.trod_struct hu hx
      have := z97 (M := M) (P := P) (w := w) (n := q) (chk := j0u P n) hlen (fun t T hc cs x hx => z7r n t T hc q cs x hx) fs.toList 0 _ h (fun f hfm => by
        obtain ⟨i, hi⟩ := List.mem_iff_getElem?.1 hfm
        rw [Array.getElem?_toList] at hi
        have hlt := (Array.getElem?_eq_some_iff.1 hi).1
        refine ⟨xs[i]'(by omega), ?_⟩
        rw [hf i f hi, List.getElem?_eq_getElem (by omega)])
      simpa using this
    · cases h
end
end Go.Proofs.YtdjkdmjdcdljmaaGreatDoorY
