/- The law AvermentEnds, in parts: this text is packed by program (names shortened). No condition. -/
import Derived.Test.YtdjkdmjdcdljmaaGreatDoorTF
import Derived.OpenShut
import Derived.ChangeArms
import Derived.Carry
import Derived.ChangeOld
import Derived.Deep.Slices
import Derived.Test.YtdjkdmjdcdljmaaGreatDoorTC
set_option linter.unusedVariables false
set_option linter.unusedSimpArgs false
namespace Go.Proofs.YtdjkdmjdcdljmaaGreatDoor.AU
open Go.Proofs.YtdjkdmjdcdljmaaGreatDoorY Go.Proofs.YtdjkdmjdcdljmaaGreatDoorY.Runs
set_option maxRecDepth 100000
set_option maxHeartbeats 4000000
variable {K : Nat}
abbrev zeroV : q0n := (0, (false, 0), (0, 0), 0)
structure Sr (a : Int) (s : LSum) : Prop where
  off : s.1 = false → s.2.1 = []
  on : s.1 = true → (s.2.1.length : Int) = a
  args : ∀ v ∈ s.2.1, Vr v
  ret : s.2.2.1 = true → Vr s.2.2.2
  no : s.2.2.1 = false → s.2.2.2 = zeroV
structure Br (regs sites : Int) (x : q1c) : Prop where
  off : x.1.1 = false → x.1.2.1 = [] ∧ x.1.2.2 = []
  on : x.1.1 = true → (x.1.2.1.length : Int) = regs ∧ (x.1.2.2.length : Int) = regs
  vals : ∀ v ∈ x.1.2.1, Vr v
  sets : ∀ l ∈ x.1.2.2, q3d sites l
  live : q3d regs x.2
def z1z (s : LSum) : List Int := ((bn s.1 + 2 * bn s.2.2.1 : Nat) : Int) :: (s.2.1.flatMap encV ++ (if s.2.2.1 then encV s.2.2.2 else []))
def encB (regs sites : Int) (x : q1c) : List Int := (if x.1.1 then 1 :: (x.1.2.1.flatMap encV ++ x.1.2.2.flatMap (encS sites)) else [0]) ++ encS regs x.2
theorem Sr.len {a : Int} {s : LSum} (h : Sr a s) (ha : 0 ≤ a ∧ a ≤ 8) : s.2.1.length ≤ 8 := by
  cases hs : s.1 with
  | false => rw [h.off hs]; simp
  | true => have := h.on hs; omega
theorem Br.len {regs sites : Int} {x : q1c} (h : Br regs sites x) (hr : 0 ≤ regs ∧ regs ≤ 8) : x.1.2.1.length ≤ 8 ∧ x.1.2.2.length ≤ 8 := by
  cases hs : x.1.1 with
  | false => rw [(h.off hs).1, (h.off hs).2]; simp
  | true => have := h.on hs; omega
end Go.Proofs.YtdjkdmjdcdljmaaGreatDoor.AU
namespace Go.Proofs.YtdjkdmjdcdljmaaGreatDoor.AU
open Go.Proofs.YtdjkdmjdcdljmaaGreatDoorY Go.Proofs.YtdjkdmjdcdljmaaGreatDoorY.Runs
set_option maxRecDepth 100000
set_option maxHeartbeats 4000000
variable {K : Nat}
def sec (b : List Int) : List Int := encU b.length ++ b
abbrev q8a : q1c := ((false, [], []), [])
structure Tf (sites : Int) (m : q0v) (x : q0z) : Prop where
  sum : Sr m.2.1 x.1
  len : x.2.length = m.2.2.2.length
  blocks : ∀ b ∈ x.2, Br m.2.2.1 sites b
def encT (sites : Int) (m : q0v) (x : q0z) (T : List Int) : List Int := T.flatMap fun b => encB m.2.2.1 sites (x.2.getD b.toNat q8a)
def encF (sites : Int) (T : List Int) (m : q0v) (x : q0z) : List Int := z1z x.1 ++ encT sites m x T
theorem Tf.get {sites : Int} {m : q0v} {x : q0z} (h : Tf sites m x) {b : Int} (hb : 0 ≤ b ∧ b < (m.2.2.2.length : Int)) : ∃ y, x.2[b.toNat]? = some y ∧ x.2.getD b.toNat q8a = y ∧ Br m.2.2.1 sites y := by
  have hlt : b.toNat < x.2.length := by rw [h.len]; omega
  exact ⟨x.2[b.toNat], by simp [hlt], by simp [List.getD, hlt], h.blocks _ (List.getElem_mem hlt)⟩
end Go.Proofs.YtdjkdmjdcdljmaaGreatDoor.AU
namespace Go.Proofs.YtdjkdmjdcdljmaaGreatDoor.AU
open Go.Proofs.YtdjkdmjdcdljmaaGreatDoorY Go.Proofs.YtdjkdmjdcdljmaaGreatDoorY.Runs
set_option maxRecDepth 100000
set_option maxHeartbeats 4000000
variable {K : Nat}
structure Tab (cells : List Int) (fs : List q0v) (is : List q0i) (cs : List q0n) (xs : List q0z) (ss : List LSum) : Prop where
  clen : cs.length = cells.length
  cells : ∀ v ∈ cs, Vr v
  flen : xs.length = fs.length
  funcs : ∀ (i : Nat) m x, fs[i]? = some m → xs[i]? = some x → Tf (q5j fs) m x
  ilen : ss.length = is.length
  sums : ∀ (i : Nat) m s, is[i]? = some m → ss[i]? = some s → Sr m.2 s
noncomputable def tl (K : Nat) (sp : Bool) (m : q0v) : List Int := (q3e.f K m.2.2.2 sp).getD []
structure Fm (K : Nat) (sp : Bool) (m : q0v) : Prop where
  regs : 1 ≤ m.2.2.1 ∧ m.2.2.1 ≤ 8
  nb : 1 ≤ m.2.2.2.length ∧ m.2.2.2.length ≤ 12
  ar : 0 ≤ m.2.1 ∧ m.2.1 ≤ 4
  told : q3e.f K m.2.2.2 sp = some (tl K sp m)
  q3d : q3d m.2.2.2.length (tl K sp m)
  cut : sp = true → q4m.f K m.2.2.2 = some (tl K sp m)
  all : sp = false → ∀ b, b < m.2.2.2.length → ((b : Nat) : Int) ∈ tl K sp m
theorem WF.fm (hK : 20000 ≤ K) {cells : List Int} {fs : List q0v} {is : List q0i} (h : WF cells fs is) (sp : Bool) : ∀ m ∈ fs, Fm K sp m := by
  intro m hm
  obtain ⟨a, b, c, d⟩ := h.shape m hm
  obtain ⟨T, t1, t2, t3, t4⟩ := told_val (K := K) hK (l := m.2.2.2) ⟨b.1, by omega⟩ (regs := m.2.2.1) (fun x hx => (d x hx).2.2) sp
  have e : tl K sp m = T := by simp [tl, t1]
  exact ⟨a, b, c, by rw [e]; exact t1, by rw [e]; exact t2, by rw [e]; exact t3, by rw [e]; exact t4⟩
noncomputable def encFs (K : Nat) (sp : Bool) (sites : Int) : List q0v → List q0z → List Int
  | m :: fs, x :: xs => sec (encF sites (tl K sp m) m x) ++ encFs K sp sites fs xs
  | _, _ => []
end Go.Proofs.YtdjkdmjdcdljmaaGreatDoor.AU
namespace Go.Proofs.YtdjkdmjdcdljmaaGreatDoor.AU
open Go.Proofs.YtdjkdmjdcdljmaaGreatDoorY Go.Proofs.YtdjkdmjdcdljmaaGreatDoorY.Runs
set_option maxRecDepth 100000
set_option maxHeartbeats 4000000
variable {K : Nat}
theorem WF.ims {cells : List Int} {fs : List q0v} {is : List q0i} (h : WF cells fs is) (hw : wide cells fs) : ∀ m ∈ is, 0 ≤ m.2 ∧ m.2 ≤ 4 := fun m hm => (((h.low hw).imports m hm).2)
theorem sites_le {cells : List Int} {fs : List q0v} {is : List q0i} (h : WF cells fs is) (hs : q5j fs ≤ 4096) : 0 ≤ ((q5j fs : Nat) : Int) ∧ ((q5j fs : Nat) : Int) ≤ 4096 := by omega
noncomputable def fileB (K : Nat) (sp : Bool) (cells : List Int) (fs : List q0v) (is : List q0i) (cs : List q0n) (xs : List q0z) (ss : List LSum) : List Int :=
  [65, 70, 1] ++ ([((bn sp : Nat) : Int)] ++ (sec (q8u cells fs is) ++ (cs.flatMap encV ++ (encFs K sp ((q5j fs : Nat) : Int) fs xs ++ ss.flatMap z1z))))
end Go.Proofs.YtdjkdmjdcdljmaaGreatDoor.AU
namespace Go.Proofs.YtdjkdmjdcdljmaaGreatDoor.AU
open Go.Proofs.YtdjkdmjdcdljmaaGreatDoorY
variable {K : Nat}
end Go.Proofs.YtdjkdmjdcdljmaaGreatDoor.AU
namespace Go.Proofs.YtdjkdmjdcdljmaaGreatDoor.AU
open Go.Proofs.YtdjkdmjdcdljmaaGreatDoorY Go.Proofs.YtdjkdmjdcdljmaaGreatDoorY.Runs
set_option maxRecDepth 100000
set_option maxHeartbeats 4000000
variable {K : Nat}
def Tells (o : Option Bool) (P : Prop) : Prop := ∃ r, o = some r ∧ (r = true ↔ P)
theorem Tells.imp {o : Option Bool} {P Q : Prop} (h : Tells o P) (e : P ↔ Q) : Tells o Q := by
  obtain ⟨r, h1, h2⟩ := h; exact ⟨r, h1, h2.trans e⟩
end Go.Proofs.YtdjkdmjdcdljmaaGreatDoor.AU
namespace Go.Proofs.YtdjkdmjdcdljmaaGreatDoor.AU
open Go.Proofs.YtdjkdmjdcdljmaaGreatDoorY Go.Proofs.YtdjkdmjdcdljmaaGreatDoorY.Runs
set_option maxRecDepth 100000
set_option maxHeartbeats 4000000
variable {K : Nat}
theorem z1i {α : Type} {f g : α → List Int} : ∀ {l : List α}, (∀ x ∈ l, f x = g x) → l.flatMap f = l.flatMap g
  | [], _ => rfl
  | x :: l, h => by rw [List.flatMap_cons, List.flatMap_cons, h x (by simp), z1i fun y hy => h y (by simp [hy])]
theorem encMod_eq {cells : List Int} {fs : List q0v} {is : List q0i} (h : WF cells fs is) : z6l cells fs is = q8u cells fs is := by
  have e1 : fs.flatMap q6i = fs.flatMap z05 := z1i fun f hf => by
    obtain ⟨i, hi⟩ := List.getElem?_of_mem hf
    have := (h.funcs i f hi).1.name
    unfold q6i z05
    rw [z0f this.2.1]
  have e2 : is.flatMap q51 = is.flatMap z3m := z1i fun m hm => by
    obtain ⟨i, hi⟩ := List.getElem?_of_mem hm
    have := (h.imports i m hi).name
    unfold q51 z3m
    rw [z0f this.2.1]
  unfold z6l q8u
  rw [e1, e2]
theorem q9q.wide {cells : List Int} {fs : List q0v} {is : List q0i} (h : q9q cells fs is) : wide cells fs :=
  ⟨h.cells, fun f hf b hb x hx => (((h.funcs f hf).blocks b hb).insns x hx).n.1⟩
theorem take_back (hK : 20000 ≤ K) {p : Nat} {l : List Int} (hR : Rd l p) :
    ∃ (cs : List Int) (fs : List q0v) (is : List q0i) (e : Err) (q : Nat), q5l.f K l ((p : Nat) : Int) = some (cs, fs, is, e, ((q : Nat) : Int)) ∧ Took l p q .nil e (q8u cs fs is) ∧ (e = .nil → WF cs fs is ∧ wide cs fs ∧ q = l.length) := by
  unfold q5l.f
  obtain ⟨cs, fs, is, e, q, a1, a2, a3⟩ := z9h (K := K) hK hR
  rw [a1, q0b]
  cases h : e.isNil with
  | false =>
    have hne : e ≠ .nil := fun h' => by rw [h'] at h; cases h
    simp only [q5o, z50, h, cond_false, Bool.not_false, cond_true]
    exact ⟨[], [], [], e, q, rfl, ⟨a2.up, a2.le, a2.lst, fun h' => absurd h' hne⟩, fun h' => absurd h' hne⟩
  | true =>
    have := q24 h
    subst this
    obtain ⟨t, hq⟩ := a3 rfl
    obtain ⟨e2, b1, b2, b3⟩ := z90 (K := K) hK t
    simp only [q5o, z50, h, cond_true, b1, q0b]
    cases h2 : e2.isNil with
    | false =>
      have hne : e2 ≠ .nil := fun h' => by rw [h'] at h2; cases h2
      simp only [Bool.not_false, cond_true]
      exact ⟨[], [], [], e2, q, rfl, ⟨a2.up, a2.le, b2.1, fun h' => absurd h' hne⟩, fun h' => absurd h' hne⟩
    | true =>
      have := q24 h2
      subst this
      have wf := b3 rfl
      simp only [Bool.not_true, cond_false]
      exact ⟨cs, fs, is, .nil, q, rfl, a2.cast fun _ => encMod_eq wf, fun _ => ⟨wf, t.wide, hq⟩⟩
theorem q6c {e : Err} : q0u.f K e .nil = some e := rfl
theorem z6e (hK : 20000 ≤ K) {m : Int} {p : Nat} {l : List Int} {e0 : Err} (hR : Rd l p) (h0 : Lst e0) :
    ∃ (b : Nat) (e : Err) (q : Nat), q2b.f K m e0 l ((p : Nat) : Int) = some (((b : Nat) : Int), e, ((q : Nat) : Int)) ∧ Took l p q e0 e [((b : Nat) : Int)] ∧ (e = .nil → ((b : Nat) : Int) ≤ m) ∧ b < 256 := by
  unfold q2b.f
  rw [q5o]
  cases h : e0.isNil with
  | false =>
    have hne : e0 ≠ .nil := fun e => by subst e; cases h
    simp only [Bool.not_false, cond_true]
    exact ⟨0, e0, p, rfl, Took.bad hR.le h0 hne, fun e => absurd e hne, by omega⟩
  | true =>
    have := q24 h
    subst this
    obtain ⟨b, e, q, h1, h2, h3, h4⟩ := q89 (K := K) hK hR
    simp only [Bool.not_true, cond_false, q03.f, q0b, h1, q6c, z50, q04]
    cases he : e.isNil with
    | false =>
      have hne : e ≠ .nil := fun e' => by subst e'; cases he
      simp only [cond_false, q0b]
      exact ⟨b, e, q, rfl, h2, fun e' => absurd e' hne, h3⟩
    | true =>
      have := q24 he
      subst this
      simp only [cond_true, q0b]
      by_cases c2 : ((b : Nat) : Int) > m
      · simp only [decide_eq_true c2, cond_true, q0b, q44 (K := K) (by omega), q6c]
        exact ⟨b, _, q, rfl, ⟨h2.up, h2.le, q5r (by omega), fun h => by cases h⟩, (fun h => by cases h), h3⟩
      · simp only [decide_eq_false c2, cond_false]
        exact ⟨b, _, q, rfl, h2, fun _ => by omega, h3⟩
theorem Seg.of_take {l bs : List Int} {p q m : Nat} (h : Seg (l.take m) p bs q) : Seg l p bs q := by
  obtain ⟨h1, h2, post, h3⟩ := h
  refine ⟨by simp at h1; omega, h2, post ++ l.drop m, ?_⟩
  rw [← List.append_assoc, ← h3]
  have hp : p ≤ m := by simp at h1; omega
  have : l.drop p = (l.take m ++ l.drop m).drop p := by rw [List.take_append_drop]
  rw [this, List.drop_append_of_le_length (by simpa using h1)]
theorem j1i {l bs : List Int} {p t n q : Nat} {e : Err} (hR : Rd l p) (h1 : Seg l p (encU n) t) (h2 : t + n ≤ l.length) (h3 : Took (l.take (t + n)) t q .nil e bs) (h4 : e = .nil → q = (l.take (t + n)).length) : Took l p (t + n) .nil e (sec bs) := by
  refine ⟨by have := h1.le; omega, h2, h3.lst, fun he => ⟨rfl, ?_⟩⟩
  obtain ⟨_, s⟩ := h3.ok he
  have hq := h4 he
  have hn : bs.length = n := by
    have := s.2.1
    rw [hq] at this
    simp at this
    omega
  unfold sec
  rw [hn]
  have s' := s.of_take
  rw [hq, List.length_take, Nat.min_eq_left h2] at s'
  exact h1.app s'
noncomputable def z7v (K : Nat) (e : Err) (l : List Int) (p : Int) : Option (List Int × List q0v × List q0i × Bool × Err × Int) :=
  (q2b.f K 1 e l p).bind fun t => bif bif true then !t.2.1.isNil else t.2.1.isNil then some ([], [], [], false, t.2.1, t.2.2) else (q1d.f K l t.2.2).elim ((q08.f K l t.2.2).bind fun t_5 => bif bif true then !t_5.2.1.isNil else t_5.2.1.isNil then (q0u.f K t_5.2.1 t.2.1).bind fun t => some ([], [], [], false, t, t_5.2.2) else none) fun t_5 => bif bif true then !t_5.1.isNil else t_5.1.isNil then (q0u.f K t_5.1 t.2.1).bind fun t => some ([], [], [], false, t, t_5.2.1) else (q5l.f K t_5.2.2.1 t_5.2.2.2).bind fun t_6 => (q0u.f K t_6.2.2.2.1 t.2.1).bind fun t_7 => some (t_6.1, t_6.2.1, t_6.2.2.1, t.1 == (1 : Int), t_7, t_5.2.1)
theorem j13 (e : Err) (l : List Int) (p : Int) : q3i.f K e l p = (q4i.f K).bind fun t => (q06.f K ((t.length : Nat) : Int) l p).bind fun t => (q0u.f K t.2.1 e).bind fun t_1 => q02 (bif bif false then !t.2.1.isNil else t.2.1.isNil then (q4i.f K).bind fun t_2 => some !(strOf t.1).toList == (strOf t_2).toList else some false) fun t_2 =>
    bif t_2 then (q0y.f K (Err.no 3) [(0 : Int)]).bind fun t_3 => (q0u.f K t_3 t_1).bind fun t_4 => z7v K t_4 l t.2.2 else z7v K t_1 l t.2.2 := by
  rfl
theorem z35 (hK : 20000 ≤ K) {p : Nat} {l : List Int} {e0 : Err} (hR : Rd l p) (h0 : Lst e0) :
    ∃ (cs : List Int) (fs : List q0v) (is : List q0i) (sp : Bool) (e : Err) (q : Nat), z7v K e0 l ((p : Nat) : Int) = some (cs, fs, is, sp, e, ((q : Nat) : Int)) ∧ Took l p q e0 e ([((bn sp : Nat) : Int)] ++ sec (q8u cs fs is)) ∧ (e = .nil → WF cs fs is ∧ wide cs fs) := by
  unfold z7v
  obtain ⟨b, e1, q1, a1, a2, a3, a4⟩ := z6e (K := K) hK (m := 1) hR h0
  simp only [a1, q0b, q5o]
  cases h1 : e1.isNil with
  | false =>
    have hne : e1 ≠ .nil := fun e => by rw [e] at h1; cases h1
    simp only [Bool.not_false, cond_true]
    exact ⟨[], [], [], false, e1, q1, rfl, ⟨a2.up, a2.le, a2.lst, fun h => absurd h hne⟩, fun h => absurd h hne⟩
  | true =>
    have := q24 h1
    subst this
    have he0 := (a2.ok rfl).1
    have hb := a3 rfl
    have R1 := a2.rd hR
    simp only [Bool.not_true, cond_false]
    rcases q73 (K := K) hK R1 with ⟨n, t, g1, g2, g3⟩ | ⟨g1, o, e, g2, g3, g4⟩
    · have ht := g2.le
      have hR2 : Rd (l.take (t + n)) t := ⟨by simp; omega, by have := hR.len; simp; omega, fun x hx => hR.byte x (List.mem_of_mem_take hx)⟩
      obtain ⟨cs, fs, is, e, q, f1, f2, f3⟩ := take_back (K := K) hK hR2
      simp only [g1, Option.elim_some, Err.isNil, Bool.not_true, cond_false, f1, q0b, q6c]
      have sp : (((b : Nat) : Int) == 1) = decide (b = 1) := by
        by_cases h : b = 1
        · subst h; rfl
        · rw [decide_eq_false h]; exact beq_eq_false_iff_ne.2 (by omega)
      refine ⟨cs, fs, is, _, e, t + n, rfl, (a2.app (j1i R1 g2 g3 f2 fun he => (f3 he).2.2)).cast fun _ => ?_, fun he => ⟨(f3 he).1, (f3 he).2.1⟩⟩
      rw [sp]
      have : b = 0 ∨ b = 1 := by omega
      rcases this with rfl | rfl <;> rfl
    · simp only [g1, Option.elim_none, g2, q0b, q5o, not_nil g3, Bool.not_false, cond_true, q6c]
      exact ⟨[], [], [], false, e, q1, rfl, ⟨a2.up, a2.le, g4, fun h => absurd h g3⟩, fun h => absurd h g3⟩
theorem amod_take (hK : 20000 ≤ K) {l : List Int} (hR : Rd l 0) :
    ∃ (cs : List Int) (fs : List q0v) (is : List q0i) (sp : Bool) (e : Err) (q : Nat), q3i.f K .nil l (0 : Int) = some (cs, fs, is, sp, e, ((q : Nat) : Int)) ∧ Took l 0 q .nil e ([65, 70, 1] ++ ([((bn sp : Nat) : Int)] ++ sec (q8u cs fs is))) ∧ (e = .nil → WF cs fs is ∧ wide cs fs) := by
  rw [j13]
  obtain ⟨x, e1, q1, a1, a2, a3, a4, a5⟩ := q8i (K := K) hK (n := 3) (p := 0) (by omega) hR
  have R1 := a2.rd hR
  have hh : q4i.f K = some [(65 : Int), (70 : Int), (1 : Int)] := rfl
  have a1' : q06.f K ((([(65 : Int), (70 : Int), (1 : Int)].length : Nat)) : Int) l (0 : Int) = some (x, e1, ((q1 : Nat) : Int)) := a1
  simp only [hh, q0b, a1', q6c, z50]
  have bad : ∀ e2 : Err, e2 ≠ .nil → Lst e2 → ∃ (cs : List Int) (fs : List q0v) (is : List q0i) (sp : Bool) (e : Err) (q : Nat), z7v K e2 l ((q1 : Nat) : Int) = some (cs, fs, is, sp, e, ((q : Nat) : Int)) ∧ Took l 0 q .nil e ([65, 70, 1] ++ ([((bn sp : Nat) : Int)] ++ sec (q8u cs fs is))) ∧ (e = .nil → WF cs fs is ∧ wide cs fs) := fun e2 hne hl => by
    obtain ⟨cs, fs, is, sp, e, q, b1, b2, b3⟩ := z35 (K := K) hK R1 hl
    have hn : e ≠ .nil := fun h => hne (b2.ok h).1
    exact ⟨cs, fs, is, sp, e, q, b1, ⟨Nat.le_trans a2.up b2.up, b2.le, b2.lst, fun h => absurd h hn⟩, fun h => absurd h hn⟩
  cases h1 : e1.isNil with
  | false =>
    have hne : e1 ≠ .nil := fun e => by rw [e] at h1; cases h1
    simp only [cond_false, q04, q0b]
    exact bad e1 hne a2.lst
  | true =>
    have := q24 h1
    subst this
    simp only [cond_true, q04, q0b]
    cases hb : ((strOf x).toList == (strOf [(65 : Int), (70 : Int), (1 : Int)]).toList) with
    | false =>
      have f0 := q44 (K := K) (e := Err.no 3) (p := 0) (by omega)
      simp only [Bool.not_false, cond_true, f0, q0b, q6c]
      exact bad _ q9x (q5r (p := 0) (by omega))
    | true =>
      simp only [Bool.not_true, cond_false]
      obtain ⟨cs, fs, is, sp, e, q, b1, b2, b3⟩ := z35 (K := K) hK R1 a2.lst
      have hx : x = [65, 70, 1] := by
        refine z33 (fun y hy => ?_) (by decide) (toList_inj (beq_iff_eq.1 hb))
        obtain ⟨_, _, _, post, hp⟩ := a2.ok rfl
        exact hR.byte y (List.mem_of_mem_drop (by rw [hp]; exact List.mem_append_left _ hy))
      subst hx
      exact ⟨cs, fs, is, sp, e, q, b1, a2.app b2, b3⟩
end Go.Proofs.YtdjkdmjdcdljmaaGreatDoor.AU
namespace Go.Proofs.YtdjkdmjdcdljmaaGreatDoor.AU
open Go.Proofs.YtdjkdmjdcdljmaaGreatDoorY Go.Proofs.YtdjkdmjdcdljmaaGreatDoorY.Runs
set_option maxRecDepth 100000
set_option maxHeartbeats 4000000
variable {K : Nat}
abbrev VOut := Option (Int × Bool × Int × Int × Int × Int × Err × Int)
noncomputable def optN (K : Nat) (c : Bool) (d : Int) (l : List Int) (p : Int) (f : Int → Int → VOut) : VOut := bif c then f d p else (q1v.f K l p).bind fun t => bif bif true then !t.2.1.isNil else t.2.1.isNil then some ((0 : Int), false, (0 : Int), (0 : Int), (0 : Int), (0 : Int), t.2.1, t.2.2) else f t.1 t.2.2
def kB (b m : Int) : Int := IntKind.u8.wrap (((BitVec.ofInt 8 b &&& BitVec.ofInt 8 m).toNat : Nat) : Int)
def sgnB (b : Int) : Int := IntKind.i64.wrap (IntKind.u8.wrap (((BitVec.ofInt 8 b &&& BitVec.ofInt 8 (7 : Int)).toNat : Nat) : Int))
def parB (b : Int) : Int := IntKind.i64.wrap (IntKind.u8.wrap (((BitVec.ofInt 8 (b.fdiv ((2 : Int) ^ 4)) &&& BitVec.ofInt 8 (3 : Int)).toNat : Nat) : Int))
noncomputable def z63 (K : Nat) (b lo hi : Int) : Option Bool :=
  bif kB b 64 != 0 then bif lo == (-9223372036854775808 : Int) then some true else bif kB b 128 != 0 then bif hi == (9223372036854775807 : Int) then some true else (q0k.f K lo hi).bind fun t => some !t else (q0k.f K lo hi).bind fun t => some !t
  else bif kB b 128 != 0 then bif hi == (9223372036854775807 : Int) then some true else (q0k.f K lo hi).bind fun t => some !t else (q0k.f K lo hi).bind fun t => some !t
noncomputable def valFin (K : Nat) (b a1 n lo hi p : Int) : VOut :=
  bif kB b 8 != 0 then (q4y.f K).bind fun k => q02 (z63 K b lo hi) fun t => bif t then (q0y.f K (Err.no (13 : Int)) [a1]).bind fun e => some ((0 : Int), false, (0 : Int), (0 : Int), (0 : Int), (0 : Int), e, p) else some (sgnB b, k, n, lo, hi, parB b, Err.nil, p)
  else q02 (z63 K b lo hi) fun t => bif t then (q0y.f K (Err.no (13 : Int)) [a1]).bind fun e => some ((0 : Int), false, (0 : Int), (0 : Int), (0 : Int), (0 : Int), e, p) else some (sgnB b, false, (0 : Int), lo, hi, parB b, Err.nil, p)
theorem z83 (l : List Int) (a1 : Int) : q5y.f K l a1 = (q03.f K).bind fun t => (q1x.f K l a1).bind fun t => bif bif true then !t.2.1.isNil else t.2.1.isNil then some ((0 : Int), false, (0 : Int), (0 : Int), (0 : Int), (0 : Int), t.2.1, t.2.2) else
    (z0k.f K).bind fun s => q02 ((q48.f K (sgnB t.1)).bind fun u => bif !u then some true else (q3r.f K (parB t.1)).bind fun u => some !u) fun c => bif c then (q0y.f K (Err.no (13 : Int)) [a1]).bind fun e => some ((0 : Int), false, (0 : Int), (0 : Int), (0 : Int), (0 : Int), e, t.2.2) else
    optN K (kB t.1 8 == 0) 0 l t.2.2 fun n p => optN K (kB t.1 64 == 0) s.1 l p fun lo p => optN K (kB t.1 128 == 0) s.2 l p fun hi p => valFin K t.1 a1 n lo hi p := by
  rfl
def VRes (l : List Int) (p0 : Nat) (r : VOut) : Prop := ∃ (v : q0n) (e : Err) (q : Nat), r = some (v.1, v.2.1.1, v.2.1.2, v.2.2.1.1, v.2.2.1.2, v.2.2.2, e, ((q : Nat) : Int)) ∧ Took l p0 q .nil e (encV v) ∧ (e = .nil → Vr v)
theorem q95 {l bs : List Int} {p0 q : Nat} {e e0 : Err} (h : Took l p0 q e0 e bs) (hn : e ≠ .nil) : VRes l p0 (some ((0 : Int), false, (0 : Int), (0 : Int), (0 : Int), (0 : Int), e, ((q : Nat) : Int))) :=
  ⟨zeroV, e, q, rfl, ⟨h.up, h.le, h.lst, fun h' => absurd h' hn⟩, fun h' => absurd h' hn⟩
theorem z64 (hK : 20000 ≤ K) {l pre : List Int} {p0 p : Nat} {c : Bool} {d : Int} {f : Int → Int → VOut} (hR : Rd l p0) (hT : Took l p0 p .nil .nil pre)
    (H : ∀ (n : Int) (q : Nat), (c = true → n = d) → (c = false → i64 n) → Took l p0 q .nil .nil (pre ++ (if c then [] else encI n)) → VRes l p0 (f n ((q : Nat) : Int))) : VRes l p0 (optN K c d l ((p : Nat) : Int) f) := by
  unfold optN
  cases c with
  | true =>
    simp only [cond_true]
    exact H d p (fun _ => rfl) (fun h => by cases h) (by simpa using hT)
  | false =>
    obtain ⟨v, e, q, h1, h2, h3⟩ := z8l (K := K) hK (hT.rd hR)
    simp only [cond_false, h1, q0b, q5o]
    cases he : e.isNil with
    | false =>
      have hne : e ≠ .nil := fun e' => by subst e'; cases he
      simp only [Bool.not_false, cond_true]
      exact q95 ⟨Nat.le_trans hT.up h2.up, h2.le, h2.lst, fun h => absurd h hne⟩ (bs := []) (e0 := .nil) hne
    | true =>
      have := q24 he
      subst this
      simp only [Bool.not_true, cond_false]
      exact H v q (fun h => by cases h) (fun _ => h3) (by simpa using hT.app h2)
theorem signR {a : Int} : q48.f K a = some (decide (1 ≤ a) && decide (a ≤ 7)) := by
  unfold q48.f
  by_cases h : 1 ≤ a <;> simp [h, q04]
theorem parR {a : Int} : q3r.f K a = some (decide (1 ≤ a) && decide (a ≤ 3)) := by
  unfold q3r.f
  by_cases h : 1 ≤ a <;> simp [h, q04]
theorem byte_hB {b : Nat} (h : b < 256) : ∃ (s : Fin 8) (p : Fin 4) (k l u : Bool), b = hB s.val p.val k l u := by
  refine ⟨⟨b % 8, by omega⟩, ⟨b / 16 % 4, by omega⟩, decide (b / 8 % 2 = 1), decide (b / 64 % 2 = 1), decide (b / 128 % 2 = 1), ?_⟩
  have e1 : bn (decide (b / 8 % 2 = 1)) = b / 8 % 2 := by unfold bn; split <;> simp_all
  have e2 : bn (decide (b / 64 % 2 = 1)) = b / 64 % 2 := by unfold bn; split <;> simp_all
  have e3 : bn (decide (b / 128 % 2 = 1)) = b / 128 % 2 := by unfold bn; split <;> simp_all
  unfold hB
  rw [e1, e2, e3]
  dsimp only
  omega
theorem j1w (hK : 20000 ≤ K) {p : Nat} {l : List Int} (hR : Rd l p) : VRes l p (q5y.f K l ((p : Nat) : Int)) := by
  rw [z83]
  obtain ⟨b, e, q, h1, h2, h3, h4⟩ := q89 (K := K) hK hR
  simp only [q03.f, q0b, h1, q5o]
  cases he : e.isNil with
  | false =>
    have hne : e ≠ .nil := fun e' => by subst e'; cases he
    simp only [Bool.not_false, cond_true]
    exact q95 h2 hne
  | true =>
    have := q24 he
    subst this
    obtain ⟨s, pa, k, lb, ub, hb⟩ := byte_hB h3
    have gs := get_s s pa k lb ub
    have gp := get_p s pa k lb ub
    have gk := get_k s pa k lb ub
    have gl := get_l s pa k lb ub
    have gh := get_h s pa k lb ub
    rw [← hb] at gs gp gk gl gh
    have gs' : sgnB ((b : Nat) : Int) = ((s.val : Nat) : Int) := gs
    have gp' : parB ((b : Nat) : Int) = ((pa.val : Nat) : Int) := gp
    have gk' : (kB ((b : Nat) : Int) 8 == 0) = !k := gk
    have gl' : (kB ((b : Nat) : Int) 64 == 0) = !lb := gl
    have gh' : (kB ((b : Nat) : Int) 128 == 0) = !ub := gh
    simp only [Bool.not_true, cond_false, z0k.f, q0b, signR, parR, q04, gs', gp', gk', gl', gh']
    cases hs : (decide (1 ≤ ((s.val : Nat) : Int)) && decide (((s.val : Nat) : Int) ≤ 7)) with
    | false =>
      simp only [Bool.not_false, cond_true, q0b, q44 (K := K) (by omega)]
      exact q95 (bs := []) (e0 := .nil) ⟨h2.up, h2.le, q5r (by omega), fun h => by cases h⟩ q9x
    | true =>
      simp only [Bool.not_true, cond_false]
      cases hp : (decide (1 ≤ ((pa.val : Nat) : Int)) && decide (((pa.val : Nat) : Int) ≤ 3)) with
      | false =>
        simp only [Bool.not_false, cond_true, q0b, q44 (K := K) (by omega)]
        exact q95 (bs := []) (e0 := .nil) ⟨h2.up, h2.le, q5r (by omega), fun h => by cases h⟩ q9x
      | true =>
        simp only [Bool.not_true, cond_false, q0b]
        refine z64 hK hR h2 fun n q1 n1 n2 T1 => z64 hK hR T1 fun lo q2 l1 l2 T2 => z64 hK hR T2 fun hi q3 u1 u2 T3 => ?_
        have bne8 : (kB ((b : Nat) : Int) 8 != 0) = k := by rw [bne, gk']; simp
        have bne64 : (kB ((b : Nat) : Int) 64 != 0) = lb := by rw [bne, gl']; simp
        have bne128 : (kB ((b : Nat) : Int) 128 != 0) = ub := by rw [bne, gh']; simp
        have hsb : z63 K ((b : Nat) : Int) lo hi = some ((lb && lo == least) || ((ub && hi == most) || !decide (lo ≤ hi))) := by
          unfold z63 q0k.f
          rw [bne64, bne128]
          cases lb <;> cases ub <;> simp only [cond_true, cond_false, q0b, Bool.true_and, Bool.false_and, Bool.false_or, Bool.or_false]
          · cases (hi == most) <;> simp
          · cases (lo == least) <;> simp
          · cases (lo == least) <;> cases (hi == most) <;> simp
        unfold valFin
        rw [hsb, bne8]
        simp only [q04, q0b, q4y.f, gs', gp']
        cases hbad : ((lb && lo == least) || ((ub && hi == most) || !decide (lo ≤ hi))) with
        | true =>
          simp only [cond_true, q44 (K := K) (by omega), q0b]
          have hv := q95 (l := l) (p0 := p) (q := q3) (bs := []) (e0 := .nil) (e := .at ((p : Nat) : Int) (.no 13)) ⟨T3.up, T3.le, q5r (by omega), fun h => by cases h⟩ q9x
          cases k <;> exact hv
        | false =>
          simp only [cond_false]
          simp only [Bool.or_eq_false_iff, Bool.not_eq_false', decide_eq_true_eq] at hbad
          obtain ⟨b1, b2, b3⟩ := hbad
          have elo : (lo != least) = lb := by
            cases lb with
            | true => simp only [Bool.true_and] at b1; rw [bne, b1]; rfl
            | false => rw [l1 rfl]; rfl
          have ehi : (hi != most) = ub := by
            cases ub with
            | true => simp only [Bool.true_and] at b2; rw [bne, b2]; rfl
            | false => rw [u1 rfl]; rfl
          have i0 : i64 least := by unfold i64 least; omega
          have i1 : i64 most := by unfold i64 most; omega
          have ilo : i64 lo := by cases lb with
            | true => exact l2 rfl
            | false => rw [l1 rfl]; exact i0
          have ihi : i64 hi := by cases ub with
            | true => exact u2 rfl
            | false => rw [u1 rfl]; exact i1
          have hs' : 1 ≤ ((s.val : Nat) : Int) ∧ ((s.val : Nat) : Int) ≤ 7 := by simpa using hs
          have hp' : 1 ≤ ((pa.val : Nat) : Int) ∧ ((pa.val : Nat) : Int) ≤ 3 := by simpa using hp
          have hn0 : k = false → n = 0 := fun h => n1 (by rw [h]; rfl)
          have hn64 : i64 n := by cases k with
            | true => exact n2 rfl
            | false => rw [hn0 rfl]; unfold i64; omega
          have hV : Vr (((s.val : Nat) : Int), (k, n), (lo, hi), ((pa.val : Nat) : Int)) := ⟨hs', ⟨hn64, hn0⟩, ilo, ihi, b3, hp'⟩
          have hE : encV (((s.val : Nat) : Int), (k, n), (lo, hi), ((pa.val : Nat) : Int)) = [((b : Nat) : Int)] ++ (if (!k) = true then [] else encI n) ++ (if (!lb) = true then [] else encI lo) ++ (if (!ub) = true then [] else encI hi) := by
            unfold encV
            simp only [elo, ehi, Int.toNat_natCast, ← hb]
            cases k <;> cases lb <;> cases ub <;> simp
          have fin : VRes l p (some (((s.val : Nat) : Int), k, n, lo, hi, ((pa.val : Nat) : Int), Err.nil, ((q3 : Nat) : Int))) := ⟨_, .nil, q3, rfl, by rw [hE]; exact T3, fun _ => hV⟩
          cases k with
          | true => exact fin
          | false => rw [hn0 rfl] at fin; exact fin
theorem q9w (hK : 20000 ≤ K) {p : Nat} {l : List Int} {e0 : Err} (hR : Rd l p) (h0 : Lst e0) :
    ∃ (v : q0n) (e : Err) (q : Nat), q1r.f K e0 l ((p : Nat) : Int) = some (v.1, v.2.1.1, v.2.1.2, v.2.2.1.1, v.2.2.1.2, v.2.2.2, e, ((q : Nat) : Int)) ∧ Took l p q e0 e (encV v) ∧ (e = .nil → Vr v) := by
  unfold q1r.f q87.f
  rw [q5o]
  cases h : e0.isNil with
  | false =>
    have hne : e0 ≠ .nil := fun e => by subst e; cases h
    simp only [Bool.not_false, cond_true]
    exact ⟨zeroV, e0, p, rfl, Took.bad hR.le h0 hne, fun e => absurd e hne⟩
  | true =>
    have := q24 h
    subst this
    obtain ⟨v, e, q, h1, h2, h3⟩ := j1w (K := K) hK hR
    simp only [Bool.not_true, cond_false, q2t.f, q0b, h1, q5o]
    cases he : e.isNil with
    | false =>
      have hne : e ≠ .nil := fun e' => by subst e'; cases he
      simp only [Bool.not_false, cond_true, q0b, q6c]
      exact ⟨zeroV, e, p, rfl, Took.bad hR.le h2.lst hne, fun e => absurd e hne⟩
    | true =>
      have := q24 he
      subst this
      simp only [Bool.not_true, cond_false, q0b, q6c]
      exact ⟨v, .nil, q, rfl, h2, h3⟩
end Go.Proofs.YtdjkdmjdcdljmaaGreatDoor.AU
namespace Go.Proofs.YtdjkdmjdcdljmaaGreatDoor.AU
open Go.Proofs.YtdjkdmjdcdljmaaGreatDoorY Go.Proofs.YtdjkdmjdcdljmaaGreatDoorY.Runs
set_option maxRecDepth 100000
set_option maxHeartbeats 4000000
variable {K : Nat}
theorem q6m {n : Int} : q3d n [] := ⟨List.Pairwise.nil, fun x hx => by cases hx⟩
theorem q67 {a b : Int} {s : List Int} (h : q3d a s) (hab : a ≤ b) : q3d b s := ⟨h.1, fun x hx => by have := h.2 x hx; omega⟩
theorem z0y {a x : Int} {s : List Int} (h : q3d a s) (h0 : 0 ≤ x) (hx : a ≤ x) : q3d (x + 1) (s ++ [x]) := by
  refine ⟨List.pairwise_append.2 ⟨h.1, List.pairwise_singleton _ _, fun y hy z hz => ?_⟩, fun y hy => ?_⟩
  · simp at hz
    have := h.2 y hy
    omega
  · rcases List.mem_append.1 hy with hy | hy
    · have := h.2 y hy; omega
    · simp at hy; omega
structure z4l (l : List Int) (p q : Nat) (e : Err) (P : Prop) : Prop where
  up : p ≤ q
  le : q ≤ l.length
  lst : Lst e
  ok : e = .nil → P
theorem z4l.bad {l : List Int} {p q : Nat} {e : Err} {P Q : Prop} (h : z4l l p q e Q) (hn : e ≠ .nil) : z4l l p q e P := ⟨h.up, h.le, h.lst, fun h' => absurd h' hn⟩
theorem lst_no {k : Int} (h : 1 ≤ k ∧ k ≤ 21) : Lst (.no k) := h
theorem z0x (hK : 20000 ≤ K) {a n : Int} {p : Nat} {l : List Int} (hR : Rd l p) (ha : 0 ≤ a) (hn : n ≤ 5000) :
    ∃ (x : Int) (e : Err) (q : Nat), q49.f K a n l ((p : Nat) : Int) = some (x, e, ((q : Nat) : Int)) ∧ z4l l p q e (a ≤ x ∧ x < n) := by
  unfold q49.f
  by_cases h : a ≥ n
  · simp only [decide_eq_true h, cond_true]
    exact ⟨_, _, p, rfl, Nat.le_refl _, hR.le, lst_no (by omega), fun h => by cases h⟩
  · obtain ⟨m, hm⟩ : ∃ m : Nat, n - 1 - a = ((m : Nat) : Int) := ⟨(n - 1 - a).toNat, by omega⟩
    have w1 : IntKind.i64.wrap (n - 1) = n - 1 := q0s (by omega) (by omega)
    have w2 : IntKind.i64.wrap ((m : Nat) : Int) = ((m : Nat) : Int) := q0s (by omega) (by omega)
    have w3 : IntKind.u64.wrap ((m : Nat) : Int) = ((m : Nat) : Int) := q3v (by omega) (by omega)
    obtain ⟨x, e, q, h1, h2, h3, h4⟩ := q7o (K := K) hK (most := m) hR
    have w4 : IntKind.i64.wrap ((x : Nat) : Int) = ((x : Nat) : Int) := q0s (by omega) (by omega)
    have w5 : IntKind.i64.wrap (a + ((x : Nat) : Int)) = a + ((x : Nat) : Int) := q0s (by omega) (by omega)
    simp only [decide_eq_false h, cond_false, w1, w2, hm, w3, h1, q0b, w4, w5]
    exact ⟨a + ((x : Nat) : Int), e, q, rfl, h2.up, h2.le, h2.lst, fun _ => by omega⟩
theorem q7s {n : Int} {x : List Int} {c : Nat} (hx : x.length = c) (hc : c ≤ 1000) : ∀ (k i : Nat) (acc : List Int), i ≤ 8 * c → 8 * c - i < k → q3d (min (i : Int) (max n 0)) acc →
    ∃ r, q26.l0.f K k n x ((8 * c : Nat) : Int) ((i : Nat) : Int) acc = some r ∧ ((∃ s, r = .inl s ∧ q3d n s) ∨ ∃ e, r = .inr (e, []) ∧ e ≠ .nil ∧ Lst e)
  | 0, i, acc, hi, hk, hr => by omega
  | k + 1, i, acc, hi, hk, hr => by
    rw [q26.l0.f]
    have hal := q3o hr
    by_cases h : i < 8 * c
    · have e1 : decide (((i : Nat) : Int) < ((8 * c : Nat) : Int)) = true := decide_eq_true (by omega)
      have t1 : Int.tdiv ((i : Nat) : Int) 8 = ((i / 8 : Nat) : Int) := by rw [Int.tdiv_eq_ediv_of_nonneg (by omega)]; omega
      have t2 : Int.tmod ((i : Nat) : Int) 8 = ((i % 8 : Nat) : Int) := by rw [Int.tmod_eq_emod_of_nonneg (by omega)]; omega
      have w1 : IntKind.i64.wrap ((i / 8 : Nat) : Int) = ((i / 8 : Nat) : Int) := q0s (by omega) (by omega)
      have hg : x[i / 8]? = some x[i / 8] := List.getElem?_eq_getElem (by omega)
      have e3 : decide (((i % 8 : Nat) : Int) < (0 : Int)) = false := decide_eq_false (by omega)
      simp only [e1, cond_true, t1, t2, w1, ge0, Int.toNat_natCast, hg, q0b, e3, cond_false, q5m (n := i) (by omega)]
      generalize hb : (IntKind.u8.wrap (((BitVec.ofInt 8 (Int.fdiv x[i / 8] ((2 : Int) ^ min (i % 8) 8)) &&& BitVec.ofInt 8 (1 : Int)).toNat : Nat) : Int) == (0 : Int)) = b
      cases b with
      | true =>
        simp only [cond_true]
        exact q7s hx hc k (i + 1) acc (by omega) (by omega) (q67 hr (by omega))
      | false =>
        simp only [cond_false]
        by_cases hin : ((i : Nat) : Int) ≥ n
        · simp only [decide_eq_true hin, cond_true]
          exact ⟨_, rfl, .inr ⟨_, rfl, no_ne, lst_no (by omega)⟩⟩
        · simp only [decide_eq_false hin, cond_false, q7u (l := acc) (x := ((i : Nat) : Int)) (n := 4000000) (by omega), cond_true]
          refine q7s hx hc k (i + 1) (acc ++ [((i : Nat) : Int)]) (by omega) (by omega) (q67 (z0y hr (by omega) (by omega)) (by omega))
    · have e1 : decide (((i : Nat) : Int) < ((8 * c : Nat) : Int)) = false := decide_eq_false (by omega)
      simp only [e1, cond_false]
      by_cases hn : 0 ≤ n
      · exact ⟨_, rfl, .inl ⟨_, rfl, q67 hr (by omega)⟩⟩
      · have : acc = [] := List.length_eq_zero_iff.1 (by omega)
        subst this
        exact ⟨_, rfl, .inl ⟨_, rfl, q6m⟩⟩
theorem z4e (hK : 20000 ≤ K) {n : Int} {p : Nat} {l : List Int} (hR : Rd l p) (hn : 0 ≤ n ∧ n ≤ 4096) :
    ∃ (s : List Int) (e : Err) (q : Nat), q26.f K n l ((p : Nat) : Int) = some (s, e, ((q : Nat) : Int)) ∧ z4l l p q e (q3d n s) := by
  unfold q26.f
  obtain ⟨m, rfl⟩ : ∃ m : Nat, n = ((m : Nat) : Int) := ⟨n.toNat, by omega⟩
  have w1 : IntKind.i64.wrap (((m : Nat) : Int) + 8) = ((m + 8 : Nat) : Int) := by rw [q0s (by omega) (by omega)]; omega
  have w2 : IntKind.i64.wrap (((m + 8 : Nat) : Int) - 1) = ((m + 7 : Nat) : Int) := by rw [q0s (by omega) (by omega)]; omega
  have t1 : Int.tdiv ((m + 7 : Nat) : Int) 8 = (((m + 7) / 8 : Nat) : Int) := by rw [Int.tdiv_eq_ediv_of_nonneg (by omega)]; omega
  have w3 : IntKind.i64.wrap (((m + 7) / 8 : Nat) : Int) = (((m + 7) / 8 : Nat) : Int) := q0s (by omega) (by omega)
  obtain ⟨x, e, q, h1, h2, h3, h4, h5⟩ := q8i (K := K) hK (n := (m + 7) / 8) (by omega) hR
  simp only [w1, w2, t1, w3, h1, q0b, q5o]
  cases he : e.isNil with
  | false =>
    have hne : e ≠ .nil := fun e' => by subst e'; cases he
    simp only [Bool.not_false, cond_true]
    exact ⟨[], e, q, rfl, h2.up, h2.le, h2.lst, fun h => absurd h hne⟩
  | true =>
    have := q24 he
    subst this
    obtain ⟨hx, hq⟩ := h3 rfl
    have w4 : IntKind.i64.wrap ((8 : Int) * ((x.length : Nat) : Int)) = ((8 * x.length : Nat) : Int) := by rw [q0s (by omega) (by omega)]; omega
    obtain ⟨r, g1, g2⟩ := q7s (K := K) (n := ((m : Nat) : Int)) (x := x) (c := x.length) rfl (by omega) K 0 [] (by omega) (by omega) q6m
    simp only [Bool.not_true, cond_false, w4]
    rw [show q26.l0.f K K ((m : Nat) : Int) x ((8 * x.length : Nat) : Int) (0 : Int) [] = some r from g1, q0b]
    rcases g2 with ⟨s, rfl, g3⟩ | ⟨e, rfl, g3, g4⟩
    · exact ⟨s, _, q, rfl, h2.up, h2.le, trivial, fun _ => g3⟩
    · exact ⟨[], e, q, rfl, h2.up, h2.le, g4, fun h => absurd h g3⟩
theorem z11 (hK : 20000 ≤ K) {n : Int} {l : List Int} {c : Nat} (hn : n ≤ 4096) (hc : c ≤ 5000) : ∀ (k i p : Nat) (nx : Int) (acc : List Int), i ≤ c → c - i < k → Rd l p → 0 ≤ nx → nx ≤ max n 0 → q3d nx acc →
    ∃ r, q3f.l0.f K k n nx ((c : Nat) : Int) ((i : Nat) : Int) l ((p : Nat) : Int) acc = some r ∧ ((∃ (s : List Int) (q : Nat), r = .inl (((q : Nat) : Int), s) ∧ p ≤ q ∧ q ≤ l.length ∧ q3d n s) ∨ ∃ (e : Err) (q : Nat), r = .inr (e, ((q : Nat) : Int), []) ∧ p ≤ q ∧ q ≤ l.length ∧ e ≠ .nil ∧ Lst e)
  | 0, i, p, nx, acc, hi, hk, hR, h0, h1, hr => by omega
  | k + 1, i, p, nx, acc, hi, hk, hR, h0, h1, hr => by
    rw [q3f.l0.f]
    have hal := q3o hr
    by_cases h : i < c
    · have e1 : decide (((i : Nat) : Int) < ((c : Nat) : Int)) = true := decide_eq_true (by omega)
      obtain ⟨x, e, q, g1, g2⟩ := z0x (K := K) hK (a := nx) (n := n) hR h0 (by omega)
      simp only [e1, cond_true, g1, q0b, q5o]
      cases he : e.isNil with
      | false =>
        have hne : e ≠ .nil := fun e' => by subst e'; cases he
        simp only [Bool.not_false, cond_true]
        exact ⟨_, rfl, .inr ⟨e, q, rfl, g2.up, g2.le, hne, g2.lst⟩⟩
      | true =>
        have := q24 he
        subst this
        obtain ⟨x1, x2⟩ := g2.ok rfl
        have w1 : IntKind.i64.wrap (x + 1) = x + 1 := q0s (by omega) (by omega)
        have w2 : IntKind.u64.wrap (((i : Nat) : Int) + 1) = ((i + 1 : Nat) : Int) := by rw [q3v (by omega) (by omega)]; simp
        simp only [Bool.not_true, cond_false, q7u (l := acc) (x := x) (n := 4000000) (by omega), cond_true, w1, w2]
        obtain ⟨r, f1, f2⟩ := z11 hK hn hc k (i + 1) q (x + 1) (acc ++ [x]) (by omega) (by omega) (hR.to g2.le) (by omega) (by omega) (z0y hr (by omega) x1)
        refine ⟨r, f1, ?_⟩
        have hpq := g2.up
        rcases f2 with ⟨s, q', a1, a2, a3, a4⟩ | ⟨e, q', a1, a2, a3, a4⟩
        · exact .inl ⟨s, q', a1, by omega, a3, a4⟩
        · exact .inr ⟨e, q', a1, by omega, a3, a4⟩
    · have e1 : decide (((i : Nat) : Int) < ((c : Nat) : Int)) = false := decide_eq_false (by omega)
      simp only [e1, cond_false]
      by_cases hn0 : 0 ≤ n
      · exact ⟨_, rfl, .inl ⟨acc, p, rfl, Nat.le_refl _, hR.le, q67 hr (by omega)⟩⟩
      · have : acc = [] := List.length_eq_zero_iff.1 (by omega)
        subst this
        exact ⟨_, rfl, .inl ⟨[], p, rfl, Nat.le_refl _, hR.le, q6m⟩⟩
theorem z6m (hK : 20000 ≤ K) {n : Int} {p : Nat} {l : List Int} (hR : Rd l p) (hn : 0 ≤ n ∧ n ≤ 4096) :
    ∃ (s : List Int) (e : Err) (q : Nat), q3f.f K n l ((p : Nat) : Int) = some (s, e, ((q : Nat) : Int)) ∧ z4l l p q e (q3d n s) := by
  unfold q3f.f
  obtain ⟨m, rfl⟩ : ∃ m : Nat, n = ((m : Nat) : Int) := ⟨n.toNat, by omega⟩
  obtain ⟨c, e, q, h1, h2, h3, h4⟩ := q7o (K := K) hK (most := m) hR
  simp only [q3v (n := ((m : Nat) : Int)) (by omega) (by omega), h1, q0b, q5o]
  cases he : e.isNil with
  | false =>
    have hne : e ≠ .nil := fun e' => by subst e'; cases he
    simp only [Bool.not_false, cond_true]
    exact ⟨[], e, q, rfl, h2.up, h2.le, h2.lst, fun h => absurd h hne⟩
  | true =>
    have := q24 he
    subst this
    obtain ⟨r, g1, g2⟩ := z11 (K := K) hK (n := ((m : Nat) : Int)) (l := l) (c := c) (by omega) (by omega) K 0 q 0 [] (by omega) (by omega) (h2.rd hR) (by omega) (by omega) q6m
    simp only [Bool.not_true, cond_false]
    rw [show q3f.l0.f K K ((m : Nat) : Int) (0 : Int) ((c : Nat) : Int) (0 : Int) l ((q : Nat) : Int) [] = some r from g1, q0b]
    have hpq := h2.up
    rcases g2 with ⟨s, q', rfl, a2, a3, a4⟩ | ⟨e, q', rfl, a2, a3, a4, a5⟩
    · exact ⟨s, _, q', rfl, by omega, a3, trivial, fun _ => a4⟩
    · exact ⟨[], e, q', rfl, by omega, a3, a5, fun h => absurd h a4⟩
theorem z1y {b : Int} (hb : b ≤ 4096) : ∀ (k : Nat) (a : Int) (acc : List Int), 0 ≤ a → a ≤ b + 1 → (b + 1 - a).toNat < k → q3d a acc → ∃ s, q2y.l1.f K k b a acc = some s ∧ q3d (b + 1) s
  | 0, a, acc, _, _, hk, _ => by omega
  | k + 1, a, acc, h0, h1, hk, hr => by
    rw [q2y.l1.f]
    have hal := q3o hr
    by_cases h : a ≤ b
    · have w : IntKind.i64.wrap (a + 1) = a + 1 := q0s (by omega) (by omega)
      simp only [decide_eq_true h, cond_true, q7u (l := acc) (x := a) (n := 4000000) (by omega), w]
      exact z1y hb k (a + 1) (acc ++ [a]) (by omega) (by omega) (by omega) (z0y hr h0 (Int.le_refl _))
    · simp only [decide_eq_false h, cond_false]
      exact ⟨acc, rfl, q67 hr (by omega)⟩
theorem z10 (hK : 20000 ≤ K) {n : Int} {l : List Int} {c : Nat} (hn : n ≤ 4096) (hc : c ≤ 5000) : ∀ (k i p : Nat) (nx : Int) (acc : List Int), i ≤ c → c - i < k → Rd l p → 0 ≤ nx → nx ≤ max n 0 + 1 → q3d (min nx (max n 0)) acc →
    ∃ r, q2y.l0.f K k n nx ((c : Nat) : Int) ((i : Nat) : Int) l ((p : Nat) : Int) acc = some r ∧ ((∃ (s : List Int) (q : Nat), r = .inl (((q : Nat) : Int), s) ∧ p ≤ q ∧ q ≤ l.length ∧ q3d n s) ∨ ∃ (e : Err) (q : Nat), r = .inr (e, ((q : Nat) : Int), []) ∧ p ≤ q ∧ q ≤ l.length ∧ e ≠ .nil ∧ Lst e)
  | 0, i, p, nx, acc, hi, hk, hR, h0, h1, hr => by omega
  | k + 1, i, p, nx, acc, hi, hk, hR, h0, h1, hr => by
    rw [q2y.l0.f]
    by_cases h : i < c
    · have e1 : decide (((i : Nat) : Int) < ((c : Nat) : Int)) = true := decide_eq_true (by omega)
      obtain ⟨x, e, q, g1, g2⟩ := z0x (K := K) hK (a := nx) (n := n) hR h0 (by omega)
      simp only [e1, cond_true, g1, q0b, q5o]
      cases he : e.isNil with
      | false =>
        have hne : e ≠ .nil := fun e' => by subst e'; cases he
        simp only [Bool.not_false, cond_true]
        exact ⟨_, rfl, .inr ⟨e, q, rfl, g2.up, g2.le, hne, g2.lst⟩⟩
      | true =>
        have := q24 he
        subst this
        obtain ⟨x1, x2⟩ := g2.ok rfl
        have R1 := hR.to g2.le
        obtain ⟨y, e, q2, f1, f2⟩ := z0x (K := K) hK (a := x) (n := n) R1 (by omega) (by omega)
        simp only [Bool.not_true, cond_false, f1, q0b, q5o]
        have hpq := g2.up
        have hpq2 := f2.up
        cases he : e.isNil with
        | false =>
          have hne : e ≠ .nil := fun e' => by subst e'; cases he
          simp only [Bool.not_false, cond_true]
          exact ⟨_, rfl, .inr ⟨e, q2, rfl, by omega, f2.le, hne, f2.lst⟩⟩
        | true =>
          have := q24 he
          subst this
          obtain ⟨y1, y2⟩ := f2.ok rfl
          obtain ⟨s, d1, d2⟩ := z1y (K := K) (b := y) (by omega) K x acc (by omega) (by omega) (by omega) (q67 hr (by omega))
          have w1 : IntKind.i64.wrap (y + 2) = y + 2 := q0s (by omega) (by omega)
          have w2 : IntKind.u64.wrap (((i : Nat) : Int) + 1) = ((i + 1 : Nat) : Int) := by rw [q3v (by omega) (by omega)]; simp
          simp only [Bool.not_true, cond_false, d1, q0b, w1, w2]
          obtain ⟨r, f1, f2'⟩ := z10 hK hn hc k (i + 1) q2 (y + 2) s (by omega) (by omega) (R1.to f2.le) (by omega) (by omega) (q67 d2 (by omega))
          refine ⟨r, f1, ?_⟩
          rcases f2' with ⟨s, q', a1, a2, a3, a4⟩ | ⟨e, q', a1, a2, a3, a4⟩
          · exact .inl ⟨s, q', a1, by omega, a3, a4⟩
          · exact .inr ⟨e, q', a1, by omega, a3, a4⟩
    · have e1 : decide (((i : Nat) : Int) < ((c : Nat) : Int)) = false := decide_eq_false (by omega)
      simp only [e1, cond_false]
      by_cases hn0 : 0 ≤ n
      · exact ⟨_, rfl, .inl ⟨acc, p, rfl, Nat.le_refl _, hR.le, q67 hr (by omega)⟩⟩
      · have hal := q3o hr
        have : acc = [] := List.length_eq_zero_iff.1 (by omega)
        subst this
        exact ⟨_, rfl, .inl ⟨[], p, rfl, Nat.le_refl _, hR.le, q6m⟩⟩
theorem z6p (hK : 20000 ≤ K) {n : Int} {p : Nat} {l : List Int} (hR : Rd l p) (hn : 0 ≤ n ∧ n ≤ 4096) :
    ∃ (s : List Int) (e : Err) (q : Nat), q2y.f K n l ((p : Nat) : Int) = some (s, e, ((q : Nat) : Int)) ∧ z4l l p q e (q3d n s) := by
  unfold q2y.f
  obtain ⟨m, rfl⟩ : ∃ m : Nat, n = ((m : Nat) : Int) := ⟨n.toNat, by omega⟩
  obtain ⟨c, e, q, h1, h2, h3, h4⟩ := q7o (K := K) hK (most := m) hR
  simp only [q3v (n := ((m : Nat) : Int)) (by omega) (by omega), h1, q0b, q5o]
  cases he : e.isNil with
  | false =>
    have hne : e ≠ .nil := fun e' => by subst e'; cases he
    simp only [Bool.not_false, cond_true]
    exact ⟨[], e, q, rfl, h2.up, h2.le, h2.lst, fun h => absurd h hne⟩
  | true =>
    have := q24 he
    subst this
    obtain ⟨r, g1, g2⟩ := z10 (K := K) hK (n := ((m : Nat) : Int)) (l := l) (c := c) (by omega) (by omega) K 0 q 0 [] (by omega) (by omega) (h2.rd hR) (by omega) (by omega) q6m
    simp only [Bool.not_true, cond_false]
    rw [show q2y.l0.f K K ((m : Nat) : Int) (0 : Int) ((c : Nat) : Int) (0 : Int) l ((q : Nat) : Int) [] = some r from g1, q0b]
    have hpq := h2.up
    rcases g2 with ⟨s, q', rfl, a2, a3, a4⟩ | ⟨e, q', rfl, a2, a3, a4, a5⟩
    · exact ⟨s, _, q', rfl, by omega, a3, trivial, fun _ => a4⟩
    · exact ⟨[], e, q', rfl, by omega, a3, a5, fun h => absurd h a4⟩
theorem body_back (hK : 20000 ≤ K) {n : Int} {p : Nat} {l : List Int} (hR : Rd l p) (hn : 0 ≤ n ∧ n ≤ 4096) :
    ∃ (s : List Int) (e : Err) (q : Nat), q8c.f K n l ((p : Nat) : Int) = some (s, e, ((q : Nat) : Int)) ∧ z4l l p q e (q3d n s) := by
  unfold q8c.f
  obtain ⟨b, e, q, h1, h2, h3, h4⟩ := q89 (K := K) hK hR
  simp only [h1, q0b, q5o]
  have hpq := h2.up
  have R1 := h2.rd hR
  have lift : ∀ o : Option (List Int × Err × Int), (∃ (s : List Int) (e : Err) (q' : Nat), o = some (s, e, ((q' : Nat) : Int)) ∧ z4l l q q' e (q3d n s)) → ∃ (s : List Int) (e : Err) (q' : Nat), o = some (s, e, ((q' : Nat) : Int)) ∧ z4l l p q' e (q3d n s) := by
    rintro o ⟨s, e, q', a1, a2⟩
    exact ⟨s, e, q', a1, Nat.le_trans hpq a2.up, a2.le, a2.lst, a2.ok⟩
  cases he : e.isNil with
  | false =>
    have hne : e ≠ .nil := fun e' => by subst e'; cases he
    simp only [Bool.not_false, cond_true]
    exact ⟨[], e, q, rfl, h2.up, h2.le, h2.lst, fun h => absurd h hne⟩
  | true =>
    simp only [Bool.not_true, cond_false]
    cases c0 : (((b : Nat) : Int) == 0) with
    | true => simp only [cond_true]; exact lift _ (z4e hK R1 hn)
    | false =>
      cases c1 : (((b : Nat) : Int) == 1) with
      | true => simp only [cond_true, cond_false]; exact lift _ (z6m hK R1 hn)
      | false =>
        cases c2 : (((b : Nat) : Int) == 2) with
        | true => simp only [cond_true, cond_false]; exact lift _ (z6p hK R1 hn)
        | false =>
          simp only [cond_false]
          exact ⟨[], _, q, rfl, h2.up, h2.le, lst_no (by omega), fun h => by cases h⟩
theorem z8w : ∀ (f n : Nat), n < 128 ^ (f + 1) → ∀ x ∈ encN f n, 0 ≤ x ∧ x < 256
  | 0, n, h, x, hx => by
    simp [encN] at hx
    simp at h
    omega
  | f + 1, n, h, x, hx => by
    unfold encN at hx
    split at hx
    · simp at hx; omega
    · rcases List.mem_cons.1 hx with hx | hx
      · omega
      · exact z8w f (n / 128) (by rw [Nat.pow_succ] at h; exact Nat.div_lt_of_lt_mul (by rw [Nat.mul_comm]; exact h)) x hx
theorem q8z {n : Nat} (h : n < 4000000) : ∀ x ∈ encU n, 0 ≤ x ∧ x < 256 := z8w 9 n (Nat.lt_of_lt_of_le h (by decide))
theorem z22 {n : Int} (hn : n ≤ 4096) : ∀ (s : List Int) (nx : Int), 0 ≤ nx → s.Pairwise (· < ·) → (∀ x ∈ s, nx ≤ x ∧ x < n) → ∀ y ∈ q81 nx s, 0 ≤ y ∧ y < 256
  | [], nx, _, _, _, y, hy => by simp [q81] at hy
  | x :: r, nx, h0, hp, hr, y, hy => by
    have hx := hr x (by simp)
    have hp' := List.pairwise_cons.1 hp
    simp only [q81, List.mem_append] at hy
    rcases hy with hy | hy
    · exact q8z (by omega) y hy
    · exact z22 hn r (x + 1) (by omega) hp'.2 (fun z hz => ⟨by have := hp'.1 z hz; omega, (hr z (by simp [hz])).2⟩) y hy
theorem z2w : ∀ (R : List (Int × Int)) (nx : Int), (∀ p ∈ R, p.1 ≤ 5000 ∧ p.2 ≤ 5000) → 0 ≤ nx → sepR nx R → ∀ y ∈ q8d nx R, 0 ≤ y ∧ y < 256
  | [], nx, _, _, _, y, hy => by simp [q8d] at hy
  | p :: r, nx, hb, h0, hs, y, hy => by
    obtain ⟨h1, h2, h3⟩ := hs
    have hp := hb p (by simp)
    simp only [q8d, List.mem_append] at hy
    rcases hy with hy | hy | hy
    · exact q8z (by omega) y hy
    · exact q8z (by omega) y hy
    · exact z2w r _ (fun q hq => hb q (by simp [hq])) (by omega) h3 y hy
theorem j2s {n : Int} {s : List Int} (hn : 0 ≤ n ∧ n ≤ 4096) (h : q3d n s) (way : Int) : ∀ y ∈ q39 n s way, 0 ≤ y ∧ y < 256 := by
  have hl := q3o h
  have hl2 := z5t h
  intro y hy
  unfold q39 at hy
  split at hy
  · rcases List.mem_cons.1 hy with hy | hy
    · omega
    · obtain ⟨j, _, rfl⟩ := List.mem_map.1 hy
      have := (z6k s ((j : Nat) : Int)).isLt
      omega
  · split at hy
    · rcases List.mem_cons.1 hy with hy | hy
      · omega
      · rcases List.mem_append.1 hy with hy | hy
        · exact q8z (by omega) y hy
        · exact z22 hn.2 s 0 (Int.le_refl _) h.1 h.2 y hy
    · rcases List.mem_cons.1 hy with hy | hy
      · omega
      · rcases List.mem_append.1 hy with hy | hy
        · exact q8z (by omega) y hy
        · exact z2w _ 0 (fun p hp => by have := inRun h p hp; omega) (Int.le_refl _) (z0b h).1 y hy
theorem j0o : ∀ {e : Err}, Lst e → e.isNil = false → ∃ n, asNo e = some n ∧ 1 ≤ n ∧ n ≤ 21
  | .nil, _, h => by cases h
  | .no n, h, _ => ⟨n, rfl, h⟩
  | .at p e, h, _ => j0o (e := e) h.2.2.1 h.2.1
theorem j1h {e : Err} (h : Lst e) (hn : e ≠ .nil) : 1 ≤ z0q e ∧ z0q e ≤ 21 := by
  obtain ⟨n, h1, h2⟩ := j0o h (not_nil hn)
  unfold z0q
  rw [not_nil hn, cond_false, h1]
  exact h2
theorem j2r (hK : 20000 ≤ K) {n : Int} {p : Nat} {l : List Int} (hR : Rd l p) (hn : 0 ≤ n ∧ n ≤ 4096) :
    ∃ (s : List Int) (e : Err) (q : Nat), q8p.f K n l ((p : Nat) : Int) = some (s, e, ((q : Nat) : Int)) ∧ Took l p q .nil e (encS n s) ∧ (e = .nil → q3d n s) := by
  have hpl := hR.le
  have hll := hR.len
  unfold q8p.f
  have e1 : decide (n < 0) = false := decide_eq_false (by omega)
  have e2 : decide (n > 4096) = false := decide_eq_false (by omega)
  obtain ⟨s, e, q, h1, h2⟩ := body_back (K := K) hK hR hn
  simp only [q03.f, q2t.f, q0b, e1, e2, cond_false, q04, h1, q5o]
  cases he : e.isNil with
  | false =>
    have hne : e ≠ .nil := fun e' => by subst e'; cases he
    have hk := j1h h2.lst hne
    simp only [Bool.not_false, cond_true, q32.f, q0b, q44 (K := K) (by omega)]
    exact ⟨[], _, p, rfl, Took.bad hpl (q5r hk) q9x, fun h => by cases h⟩
  | true =>
    have := q24 he
    subst this
    have hr := h2.ok rfl
    have hpq := h2.up
    have hql := h2.le
    have w1 : IntKind.i64.wrap (((q : Nat) : Int) - ((p : Nat) : Int)) = ((q - p : Nat) : Int) := by rw [q0s (by omega) (by omega)]; omega
    obtain ⟨x, e', q', g1, g2, g3, g4, g5⟩ := q8i (K := K) hK (n := q - p) (by omega) hR
    have := g4 (by omega)
    subst this
    obtain ⟨g6, rfl⟩ := g3 rfl
    have hx : ∀ y ∈ x, 0 ≤ y ∧ y < 256 := fun y hy => by
      obtain ⟨_, _, _, post, hp⟩ := g2.ok rfl
      exact hR.byte y (List.mem_of_mem_drop (by rw [hp]; exact List.mem_append_left _ hy))
    simp only [Bool.not_true, cond_false, w1, g1, q0b, Err.isNil, way_val hK hn hr, z2u hK hn hr wayS_in, q7t.f]
    cases hb : ((strOf x).toList == (strOf (q39 n s (wayS n s))).toList) with
    | false =>
      simp only [Bool.not_false, cond_true, q44 (K := K) (by omega), q0b]
      exact ⟨[], _, p, rfl, Took.bad hpl (q5r (by omega)) q9x, fun h => by cases h⟩
    | true =>
      have hxe : x = encS n s := z33 hx (j2s hn hr _) (toList_inj (beq_iff_eq.1 hb))
      simp only [Bool.not_true, cond_false, g1, q0b]
      exact ⟨s, .nil, p + (q - p), rfl, g2.cast fun _ => hxe, fun _ => hr⟩
theorem z6u (hK : 20000 ≤ K) {n : Int} {p : Nat} {l : List Int} {e0 : Err} (hR : Rd l p) (h0 : Lst e0) (hn : 0 ≤ n ∧ n ≤ 4096) :
    ∃ (s : List Int) (e : Err) (q : Nat), q28.f K n e0 l ((p : Nat) : Int) = some (s, e, ((q : Nat) : Int)) ∧ Took l p q e0 e (encS n s) ∧ (e = .nil → q3d n s) := by
  unfold q28.f
  rw [q5o]
  cases h : e0.isNil with
  | false =>
    have hne : e0 ≠ .nil := fun e => by subst e; cases h
    simp only [Bool.not_false, cond_true]
    exact ⟨[], e0, p, rfl, Took.bad hR.le h0 hne, fun e => absurd e hne⟩
  | true =>
    have := q24 h
    subst this
    obtain ⟨s, e, q, h1, h2, h3⟩ := j2r (K := K) hK hR hn
    simp only [Bool.not_true, cond_false, h1, q0b, q6c]
    exact ⟨s, e, q, rfl, h2, h3⟩
end Go.Proofs.YtdjkdmjdcdljmaaGreatDoor.AU
namespace Go.Proofs.YtdjkdmjdcdljmaaGreatDoor.AU
open Go.Proofs.YtdjkdmjdcdljmaaGreatDoorY Go.Proofs.YtdjkdmjdcdljmaaGreatDoorY.Runs
set_option maxRecDepth 100000
set_option maxHeartbeats 4000000
variable {K : Nat}
theorem z31 (hK : 20000 ≤ K) {l : List Int} {n : Nat} (hn : n ≤ 1000) {L : Nat → Int → Err → Int → List q0n → Option (Err × Int × List q0n)}
    (h0 : ∀ k i e p acc, L (k + 1) i e p acc = bif decide (i < ((n : Nat) : Int)) then (q1r.f K e l p).bind fun t => bif (acc.length + [(t.1, (t.2.1, t.2.2.1), (t.2.2.2.1, t.2.2.2.2.1), t.2.2.2.2.2.1)].length).ble 4000000 then L k (IntKind.i64.wrap (i + (1 : Int))) t.2.2.2.2.2.2.1 t.2.2.2.2.2.2.2 (acc ++ [(t.1, (t.2.1, t.2.2.1), (t.2.2.2.1, t.2.2.2.2.1), t.2.2.2.2.2.1)]) else none else some (e, p, acc))
    {p : Nat} {e : Err} (hR : Rd l p) (he : Lst e) :
    ∃ vs e' q, L K (0 : Int) e ((p : Nat) : Int) [] = some (e', ((q : Nat) : Int), vs) ∧ Took l p q e e' (vs.flatMap encV) ∧ vs.length = n ∧ (e' = .nil → ∀ v ∈ vs, Vr v) := by
  obtain ⟨vs, e', q, g1, g2, g3, g4⟩ := q5k (enc := encV) (Good := Vr) (l := l) (n := n) (L := L) (fun k e p acc => by
    rw [h0]
    have : decide (((n : Nat) : Int) < ((n : Nat) : Int)) = false := decide_eq_false (by omega)
    rw [this, cond_false]) (fun k i e p acc hi ha hR he => by
    obtain ⟨v, e', q, a1, a2, a3⟩ := q9w (K := K) hK hR he
    refine ⟨v, e', q, ?_, a2, a3⟩
    rw [h0]
    have : decide (((i : Nat) : Int) < ((n : Nat) : Int)) = true := decide_eq_true (by omega)
    rw [this, cond_true, a1, q0b]
    simp only [q59 (x := ((v.1, (v.2.1.1, v.2.1.2), (v.2.2.1.1, v.2.2.1.2), v.2.2.2) : q0n)) ha (by omega), cond_true, q5m (n := i) (by omega)]) n K 0 e p [] rfl (by omega) (by omega) rfl hR he
  exact ⟨vs, e', q, g1, g2, g3, g4⟩
theorem tag_bits : ∀ b : Fin 4, ((b.val : Nat) : Int) = ((bn (kB ((b.val : Nat) : Int) 1 != 0) + 2 * bn (kB ((b.val : Nat) : Int) 2 != 0) : Nat) : Int) := by decide
theorem j1m (hK : 20000 ≤ K) {a : Int} {p : Nat} {l : List Int} {e0 : Err} (ha : 0 ≤ a ∧ a ≤ 8) (hR : Rd l p) (h0 : Lst e0) :
    ∃ (s : LSum) (e : Err) (q : Nat), q2o.f K a e0 l ((p : Nat) : Int) = some (s.1, s.2.1, s.2.2.1, s.2.2.2.1, s.2.2.2.2.1.1, s.2.2.2.2.1.2, s.2.2.2.2.2.1.1, s.2.2.2.2.2.1.2, s.2.2.2.2.2.2, e, ((q : Nat) : Int)) ∧ Took l p q e0 e (z1z s) ∧ (e = .nil → Sr a s) := by
  obtain ⟨n, rfl⟩ : ∃ n : Nat, a = ((n : Nat) : Int) := ⟨a.toNat, by omega⟩
  obtain ⟨b, e1, q1, a1, a2, a3, a4⟩ := z6e (K := K) hK (m := 3) hR h0
  have R1 := a2.rd hR
  obtain ⟨vs, e2, q2, b1, b2, b3, b4⟩ := z31 (K := K) hK (n := n) (by omega) (L := fun k i e p acc => q2o.l0.f K k ((n : Nat) : Int) i e l p acc) (fun _ _ _ _ _ => rfl) R1 a2.lst
  have b1' : q2o.l0.f K K ((n : Nat) : Int) (0 : Int) e1 l ((q1 : Nat) : Int) [] = some (e2, ((q2 : Nat) : Int), vs) := b1
  obtain ⟨v, e3, q3, c1, c2, c3⟩ := q9w (K := K) hK (b2.rd R1) b2.lst
  obtain ⟨w, e4, q4, d1, d2, d3⟩ := q9w (K := K) hK R1 a2.lst
  have hb : e1 = .nil → ((b : Nat) : Int) = ((bn (kB ((b : Nat) : Int) 1 != 0) + 2 * bn (kB ((b : Nat) : Int) 2 != 0) : Nat) : Int) := fun h => tag_bits ⟨b, by have := a3 h; omega⟩
  unfold q2o.f
  rw [a1, q0b]
  unfold kB at hb
  generalize (IntKind.u8.wrap (((BitVec.ofInt 8 ((b : Nat) : Int) &&& BitVec.ofInt 8 (1 : Int)).toNat : Nat) : Int) != (0 : Int)) = c at hb ⊢
  generalize (IntKind.u8.wrap (((BitVec.ofInt 8 ((b : Nat) : Int) &&& BitVec.ofInt 8 (2 : Int)).toNat : Nat) : Int) != (0 : Int)) = r at hb ⊢
  cases c with
  | true => cases r with
    | true =>
      simp only [cond_true, b1', q0b, c1]
      refine ⟨(true, vs, true, v), e3, q3, rfl, ((a2.app b2).app c2).cast fun h => ?_, fun h => ⟨fun h => (by cases h), fun _ => by rw [b3], b4 (c2.ok h).1, fun _ => c3 h, fun h => (by cases h)⟩⟩
      rw [hb (b2.ok (c2.ok h).1).1]
      simp [z1z]
    | false =>
      simp only [cond_true, cond_false, b1', q0b]
      refine ⟨(true, vs, false, zeroV), e2, q2, rfl, (a2.app b2).cast fun h => ?_, fun h => ⟨fun h => (by cases h), fun _ => by rw [b3], b4 h, fun h => (by cases h), fun _ => rfl⟩⟩
      rw [hb (b2.ok h).1]
      simp [z1z]
  | false => cases r with
    | true =>
      simp only [cond_true, cond_false, d1, q0b]
      refine ⟨(false, [], true, w), e4, q4, rfl, (a2.app d2).cast fun h => ?_, fun h => ⟨fun _ => rfl, fun h => (by cases h), fun _ hx => (by cases hx), fun _ => d3 h, fun h => (by cases h)⟩⟩
      rw [hb (d2.ok h).1]
      simp [z1z]
    | false =>
      simp only [cond_false]
      refine ⟨(false, [], false, zeroV), e1, q1, rfl, a2.cast fun h => ?_, fun h => ⟨fun _ => rfl, fun h => (by cases h), fun _ hx => (by cases hx), fun h => (by cases h), fun _ => rfl⟩⟩
      rw [hb h]
      simp [z1z]
theorem j10 (hK : 20000 ≤ K) {regs sites : Int} {p : Nat} {l : List Int} {e0 : Err} (hr : 0 ≤ regs ∧ regs ≤ 8) (hs : 0 ≤ sites ∧ sites ≤ 4096) (hR : Rd l p) (h0 : Lst e0) :
    ∃ (x : q1c) (e : Err) (q : Nat), q1y.f K regs sites e0 l ((p : Nat) : Int) = some (x.1.1, x.1.2.1, x.1.2.2, x.2, e, ((q : Nat) : Int)) ∧ Took l p q e0 e (encB regs sites x) ∧ (e = .nil → Br regs sites x) := by
  obtain ⟨n, rfl⟩ : ∃ n : Nat, regs = ((n : Nat) : Int) := ⟨regs.toNat, by omega⟩
  obtain ⟨b, e1, q1, a1, a2, a3, a4⟩ := z6e (K := K) hK (m := 1) hR h0
  have R1 := a2.rd hR
  unfold q1y.f
  rw [a1, q0b]
  by_cases h1 : ((b : Nat) : Int) = 1
  · have hb : (((b : Nat) : Int) == 1) = true := beq_iff_eq.2 h1
    obtain ⟨vs, e2, q2, b1, b2, b3, b4⟩ := z31 (K := K) hK (n := n) (by omega) (L := fun k i e p acc => q1y.l0.f K k ((n : Nat) : Int) i e l p acc) (fun _ _ _ _ _ => rfl) R1 a2.lst
    have b1' : q1y.l0.f K K ((n : Nat) : Int) (0 : Int) e1 l ((q1 : Nat) : Int) [] = some (e2, ((q2 : Nat) : Int), vs) := b1
    have R2 := b2.rd R1
    obtain ⟨ts, e3, q3, c1, c2, c3, c4⟩ := q5k (enc := encS sites) (Good := q3d sites) (l := l) (n := n) (L := fun k i e p acc => q1y.l1.f K k sites ((n : Nat) : Int) i e l p acc) (fun k e p acc => by
      rw [q1y.l1.f]
      have : decide (((n : Nat) : Int) < ((n : Nat) : Int)) = false := decide_eq_false (by omega)
      rw [this, cond_false]) (fun k i e p acc hi ha hR he => by
      obtain ⟨v, e', q, a1, a2, a3⟩ := z6u (K := K) hK hR he hs
      refine ⟨v, e', q, ?_, a2, a3⟩
      rw [q1y.l1.f]
      have : decide (((i : Nat) : Int) < ((n : Nat) : Int)) = true := decide_eq_true (by omega)
      rw [this, cond_true, a1, q0b]
      simp only [q59 (x := v) ha (by omega), cond_true, q5m (n := i) (by omega)]) n K 0 e2 q2 [] rfl (by omega) (by omega) rfl R2 b2.lst
    have c1' : q1y.l1.f K K sites ((n : Nat) : Int) (0 : Int) e2 l ((q2 : Nat) : Int) [] = some (e3, ((q3 : Nat) : Int), ts) := c1
    obtain ⟨s, e4, q4, d1, d2, d3⟩ := z6u (K := K) hK (c2.rd R2) c2.lst (n := ((n : Nat) : Int)) (by omega)
    simp only [hb, cond_true, b1', q0b, c1', d1]
    refine ⟨((true, vs, ts), s), e4, q4, rfl, (((a2.app b2).app c2).app d2).cast fun h => ?_, fun h => ?_⟩
    · rw [h1]
      simp [encB]
    · have h3 := (d2.ok h).1
      have h2 := (c2.ok h3).1
      exact ⟨fun h => (by cases h), fun _ => ⟨by rw [b3], by rw [c3]⟩, b4 h2, c4 h3, d3 h⟩
  · have hb : (((b : Nat) : Int) == 1) = false := beq_eq_false_iff_ne.2 h1
    obtain ⟨s, e4, q4, d1, d2, d3⟩ := z6u (K := K) hK R1 a2.lst (n := ((n : Nat) : Int)) (by omega)
    simp only [hb, cond_false, q0b, d1]
    refine ⟨((false, [], []), s), e4, q4, rfl, (a2.app d2).cast fun h => ?_, fun h => ⟨fun _ => ⟨rfl, rfl⟩, fun h => (by cases h), fun _ hx => (by cases hx), fun _ hx => (by cases hx), d3 h⟩⟩
    have := a3 (d2.ok h).1
    rw [show ((b : Nat) : Int) = 0 by omega]
    simp [encB]
theorem z3p (hK : 20000 ≤ K) {regs sites : Int} {nb : Nat} {l : List Int} {T : List Int} (hr : 0 ≤ regs ∧ regs ≤ 8) (hs : 0 ≤ sites ∧ sites ≤ 4096) (hl : T.length ≤ 1000) (hT : ∀ b ∈ T, 0 ≤ b ∧ b < (nb : Int)) :
    ∀ (T2 T1 : List Int) (k : Nat) (p : Nat) (e : Err) (B : List q1c), T = T1 ++ T2 → T2.Pairwise (· < ·) → T2.length < k → B.length = nb → Rd l p → Lst e →
    ∃ B' e' q, q1w.l0.f K k sites T ((T.length : Nat) : Int) ((T1.length : Nat) : Int) regs e B l ((p : Nat) : Int) = some (e', B', ((q : Nat) : Int)) ∧ Took l p q e e' (T2.flatMap fun b => encB regs sites (B'.getD b.toNat q8a)) ∧ B'.length = nb ∧ (∀ j : Nat, j < nb → ((j : Nat) : Int) ∉ T2 → B'[j]? = B[j]?) ∧ (e' = .nil → ∀ b ∈ T2, ∃ y, B'[b.toNat]? = some y ∧ Br regs sites y)
  | T2, T1, 0, p, e, B, hh, hp, hk, hB, hR, he => by omega
  | [], T1, k + 1, p, e, B, hh, hp, hk, hB, hR, he => by
    rw [q1w.l0.f]
    simp only [q3y hh, cond_false]
    exact ⟨B, e, p, rfl, Took.still hR.le he, hB, fun j _ _ => rfl, fun _ b hb => (by cases hb)⟩
  | b :: T2, T1, k + 1, p, e, B, hh, hp, hk, hB, hR, he => by
    rw [q1w.l0.f]
    have hl1 : T1.length ≤ 1000 := by rw [hh] at hl; simp at hl; omega
    have hb := hT b (by rw [hh]; simp)
    have hp' := List.pairwise_cons.1 hp
    obtain ⟨y, e1, q1, a1, a2, a3⟩ := j10 (K := K) hK hr hs hR he
    have e1' : decide (0 ≤ b) = true := decide_eq_true hb.1
    have e2 : Nat.blt (Int.toNat b) B.length = true := Nat.ble_eq_true_of_le (by rw [hB]; omega)
    have hlt : b.toNat < B.length := by rw [hB]; omega
    have hm : T[T1.length]? = some b := by rw [hh]; simp
    simp only [List.length_cons] at hk
    simp only [q3z hh, ge0, Int.toNat_natCast, hm, cond_true, q0b, e1', e2, a1, List.getElem?_eq_getElem hlt, q10 (l1 := T1) (x := b) (by omega)]
    obtain ⟨B', e', q, g1, g2, g3, g4, g5⟩ := z3p hK hr hs hl hT T2 (T1 ++ [b]) k q1 e1 (B.set b.toNat y) (q18 hh) hp'.2 (by omega) (by simpa using hB) (a2.rd hR) a2.lst
    have hnb : ((b.toNat : Nat) : Int) ∉ T2 := fun h => by have := hp'.1 _ h; omega
    have hy : B'[b.toNat]? = some y := by rw [g4 b.toNat (by omega) hnb, List.getElem?_set, if_pos rfl, if_pos hlt]
    refine ⟨B', e', q, g1, ?_, g3, fun j hj hn => ?_, fun h c hc => ?_⟩
    · have hd : B'.getD b.toNat q8a = y := by simp [List.getD, hy]
      simp only [List.flatMap_cons, hd]
      exact a2.app g2
    · simp only [List.mem_cons, not_or] at hn
      rw [g4 j hj hn.2, List.getElem?_set, if_neg (by omega)]
    · rcases List.mem_cons.1 hc with rfl | hc
      · exact ⟨y, hy, a3 (g2.ok h).1⟩
      · exact g5 h c hc
theorem j1c (hK : 20000 ≤ K) {p q : Nat} {l bs : List Int} {e0 e : Err} (h : Took l p q e0 e bs) (hR : Rd l p) : ∃ e', q3b.f K e l ((q : Nat) : Int) = some e' ∧ Took l p q e0 e' bs ∧ (e' = .nil → q = l.length) ∧ (e' = .nil → e = .nil) := by
  unfold q3b.f
  rw [z50]
  cases he : e.isNil with
  | false =>
    have hne : e ≠ .nil := fun h' => by rw [h'] at he; cases he
    simp only [cond_false]
    exact ⟨e, rfl, h, fun h' => absurd h' hne, fun h' => absurd h' hne⟩
  | true =>
    have := q24 he
    subst this
    obtain ⟨e', a1, a2, a3⟩ := z8f (K := K) hK (h.rd hR)
    simp only [cond_true, a1, q0b, q6c]
    exact ⟨e', rfl, ⟨h.up, h.le, a2, fun _ => h.ok rfl⟩, a3, by simp⟩
theorem br_empty {regs sites : Int} : Br regs sites q8a := ⟨fun _ => ⟨rfl, rfl⟩, fun h => (by cases h), fun _ hx => (by cases hx), fun _ hx => (by cases hx), q6m⟩
theorem z67 (hK : 20000 ≤ K) {m : q0v} {sp : Bool} {sites : Int} {p : Nat} {l : List Int} {e0 : Err} (hs : 0 ≤ sites ∧ sites ≤ 4096) (hm : Fm K sp m) (hR : Rd l p) (h0 : Lst e0) :
    ∃ (x : q0z) (e : Err) (q : Nat), q1w.f K m.2.1 m.2.2.1 m.2.2.2 sp sites e0 l ((p : Nat) : Int) = some (x.1.1, x.1.2.1, x.1.2.2.1, x.1.2.2.2.1, x.1.2.2.2.2.1.1, x.1.2.2.2.2.1.2, x.1.2.2.2.2.2.1.1, x.1.2.2.2.2.2.1.2, x.1.2.2.2.2.2.2, x.2, e, ((q : Nat) : Int)) ∧ Took l p q e0 e (sec (encF sites (tl K sp m) m x)) ∧ (e = .nil → Tf sites m x ∧ ∀ j : Nat, j < m.2.2.2.length → ((j : Nat) : Int) ∉ tl K sp m → x.2[j]? = some q8a) := by
  have hr : 0 ≤ m.2.2.1 ∧ m.2.2.1 ≤ 8 := ⟨by have := hm.regs; omega, hm.regs.2⟩
  have hnb := hm.nb
  have hTl := q3o hm.q3d
  have e1 : (decide (((m.2.2.2.length : Nat) : Int) ≤ 4000000) && ((m.2.2.2.length : Nat) : Int) == ((m.2.2.2.length : Nat) : Int) && true && true && true) = true := by simp; omega
  unfold q1w.f
  rw [e1, cond_true, q5o]
  cases h : e0.isNil with
  | false =>
    have hne : e0 ≠ .nil := fun e => by subst e; cases h
    simp only [Bool.not_false, cond_true]
    exact ⟨((false, [], false, zeroV), List.replicate m.2.2.2.length q8a), e0, p, rfl, Took.bad hR.le h0 hne, fun e => absurd e hne⟩
  | true =>
    have := q24 h
    subst this
    simp only [Bool.not_true, cond_false]
    rcases q73 (K := K) hK hR with ⟨n, t, g1, g2, g3⟩ | ⟨g1, o, e, g2, g3, g4⟩
    · have ht := g2.le
      have hR2 : Rd (l.take (t + n)) t := ⟨by simp; omega, by have := hR.len; simp; omega, fun x hx => hR.byte x (List.mem_of_mem_take hx)⟩
      obtain ⟨s, es, qs, s1, s2, s3⟩ := j1m (K := K) hK (a := m.2.1) (e0 := .nil) (by have := hm.ar; omega) hR2 trivial
      obtain ⟨B', eb, qb, b1, b2, b3, b4, b5⟩ := z3p (K := K) hK (regs := m.2.2.1) (sites := sites) (nb := m.2.2.2.length) (T := tl K sp m) hr hs (by omega) hm.q3d.2 (tl K sp m) [] K qs es (List.replicate m.2.2.2.length q8a) rfl hm.q3d.1 (by omega) (by simp) (s2.rd hR2) s2.lst
      have b1' : q1w.l0.f K K sites (tl K sp m) (((tl K sp m).length : Nat) : Int) (0 : Int) m.2.2.1 es (List.replicate m.2.2.2.length q8a) (l.take (t + n)) ((qs : Nat) : Int) = some (eb, B', ((qb : Nat) : Int)) := b1
      obtain ⟨e', c1, c2, c3, c4⟩ := j1c (K := K) hK (s2.app b2) hR2
      simp only [g1, Option.elim_some, Err.isNil, Bool.not_true, cond_false, s1, q0b, hm.told, Int.toNat_natCast]
      rw [b1', q0b]
      simp only [c1, q0b, q6c]
      refine ⟨(s, B'), e', t + n, rfl, j1i hR g2 g3 c2 c3, fun h => ?_⟩
      have hb := c4 h
      refine ⟨⟨?_, b3, fun y hy => ?_⟩, fun j hj hn => by rw [b4 j hj hn]; simp [hj]⟩
      · exact s3 (b2.ok hb).1
      · obtain ⟨j, hj⟩ := List.getElem?_of_mem hy
        have hjl : j < m.2.2.2.length := by
          have h5 : j < B'.length := (List.getElem?_eq_some_iff.1 hj).1
          omega
        by_cases hjT : ((j : Nat) : Int) ∈ tl K sp m
        · obtain ⟨z, z1, z2⟩ := b5 hb _ hjT
          simp only [Int.toNat_natCast, hj] at z1
          cases z1
          exact z2
        · rw [b4 j hjl hjT] at hj
          simp [hjl] at hj
          subst hj
          exact br_empty
    · simp only [g1, Option.elim_none, g2, q0b, q5o, not_nil g3, Bool.not_false, cond_true, q6c]
      exact ⟨((false, [], false, zeroV), List.replicate m.2.2.2.length q8a), e, p, rfl, Took.bad hR.le g4 g3, fun h => absurd h g3⟩
end Go.Proofs.YtdjkdmjdcdljmaaGreatDoor.AU
namespace Go.Proofs.YtdjkdmjdcdljmaaGreatDoor.AU
open Go.Proofs.YtdjkdmjdcdljmaaGreatDoorY Go.Proofs.YtdjkdmjdcdljmaaGreatDoorY.Runs
set_option maxRecDepth 100000
set_option maxHeartbeats 4000000
variable {K : Nat}
def z53 {α : Type} (enc : Nat → α → List Int) : Nat → List α → List Int
  | _, [] => []
  | i, x :: xs => enc i x ++ z53 enc (i + 1) xs
theorem z1e {α : Type} {enc : Nat → α → List Int} {Good : Nat → α → Prop} {l : List Int} {n : Nat} {L : Nat → Int → Err → Int → List α → Option (Err × Int × List α)}
    (h0 : ∀ k e p acc, L (k + 1) ((n : Nat) : Int) e p acc = some (e, p, acc))
    (hL : ∀ k (i : Nat) e (p : Nat) acc, i < n → acc.length = i → Rd l p → Lst e → ∃ x e' q, L (k + 1) ((i : Nat) : Int) e ((p : Nat) : Int) acc = L k (((i + 1 : Nat)) : Int) e' ((q : Nat) : Int) (acc ++ [x]) ∧ Took l p q e e' (enc i x) ∧ (e' = .nil → Good i x)) :
    ∀ (m k i : Nat) e (p : Nat) acc, n - i = m → m < k → i ≤ n → acc.length = i → Rd l p → Lst e → ∃ xs e' q, L k ((i : Nat) : Int) e ((p : Nat) : Int) acc = some (e', ((q : Nat) : Int), acc ++ xs) ∧ Took l p q e e' (z53 enc i xs) ∧ xs.length = m ∧ (e' = .nil → ∀ (j : Nat) x, xs[j]? = some x → Good (i + j) x)
  | m, 0, i, e, p, acc, hm, hk, _, _, _, _ => by omega
  | 0, k + 1, i, e, p, acc, hm, hk, hi, ha, hR, he => by
    have : i = n := by omega
    subst this
    exact ⟨[], e, p, by rw [h0]; simp, by simpa [z53] using Took.still hR.le he, rfl, fun _ j x hx => by simp at hx⟩
  | m + 1, k + 1, i, e, p, acc, hm, hk, hi, ha, hR, he => by
    obtain ⟨x, e', q, h1, h2, h3⟩ := hL k i e p acc (by omega) ha hR he
    obtain ⟨xs, e2, r, g1, g2, g3, g4⟩ := z1e h0 hL m k (i + 1) e' q (acc ++ [x]) (by omega) (by omega) (by omega) (by simp [ha]) (h2.rd hR) h2.lst
    refine ⟨x :: xs, e2, r, by rw [h1, g1]; simp, by simpa [z53] using h2.app g2, by simp [g3], fun h j y hy => ?_⟩
    cases j with
    | zero =>
      simp at hy
      subst hy
      exact h3 (g2.ok h).1
    | succ j =>
      have := g4 h j y (by simpa using hy)
      rwa [show i + 1 + j = i + (j + 1) by omega] at this
theorem z38 {K : Nat} {sp : Bool} {sites : Int} {fs : List q0v} : ∀ (f2 f1 : List q0v) (xs : List q0z), fs = f1 ++ f2 → xs.length = f2.length →
    z53 (fun i x => sec (encF sites (tl K sp (fs.getD i default)) (fs.getD i default) x)) f1.length xs = encFs K sp sites f2 xs
  | [], f1, xs, h, hx => by
    have : xs = [] := List.length_eq_zero_iff.1 (by simpa using hx)
    subst this
    rfl
  | m :: f2, f1, [], h, hx => by simp at hx
  | m :: f2, f1, x :: xs, h, hx => by
    have := z38 (K := K) (sp := sp) (sites := sites) (fs := fs) f2 (f1 ++ [m]) xs (q18 h) (by simpa using hx)
    have hm : fs.getD f1.length default = m := by rw [h]; simp [List.getD]
    simp only [z53, encFs, hm]
    rw [← this]
    simp
theorem z3r {α : Type} {enc : α → List Int} : ∀ (xs : List α) (i : Nat), z53 (fun _ x => enc x) i xs = xs.flatMap enc
  | [], i => rfl
  | x :: xs, i => by rw [z53, List.flatMap_cons, z3r xs]
theorem z32 {cells : List Int} {fs : List q0v} {is : List q0i} (h : WF cells fs is) : q5j fs ≤ 4096 := by
  have hc := h.count
  have h1 : q5j fs ≤ 152 * fs.length := j01 fun f hf => by
    obtain ⟨a, b, c, d⟩ := h.shape f hf
    have hbn : q5n f.2.2.2 ≤ 12 * f.2.2.2.length := j01 fun b hb => Nat.le_trans (z2a b.1) (d b hb).1
    omega
  omega
structure Was (K : Nat) (l : List Int) (cs : List Int) (fs : List q0v) (is : List q0i) (vs : List q0n) (xs : List q0z) (ss : List LSum) (sp : Bool) : Prop where
  file : l = fileB K sp cs fs is vs xs ss
  wf : WF cs fs is
  wide : wide cs fs
  tab : Tab cs fs is vs xs ss
  hz : ∀ (i : Nat) m x, fs[i]? = some m → xs[i]? = some x → ∀ j : Nat, j < m.2.2.2.length → ((j : Nat) : Int) ∉ tl K sp m → x.2[j]? = some q8a
theorem read_back (hK : 20000 ≤ K) {l : List Int} (hR : Rd l 0) :
    ∃ (cs : List Int) (fs : List q0v) (is : List q0i) (vs : List q0n) (xs : List q0z) (ss : List LSum) (sp : Bool) (e : Err), q2e.f K l = some (cs, fs, is, vs, xs, ss, sp, e) ∧ Lst e ∧ (e = .nil → Was K l cs fs is vs xs ss sp) ∧ (e ≠ .nil → cs = [] ∧ fs = [] ∧ is = [] ∧ vs = [] ∧ xs = [] ∧ ss = []) := by
  have hlen := hR.len
  obtain ⟨cs, fs, is, sp, e, q, a1, a2, a3⟩ := amod_take (K := K) hK hR
  unfold q2e.f q7i.f
  simp only [z5q (K := K) (l := l) (by omega), q0b, a1, q5o, z50]
  cases he : e.isNil with
  | false =>
    have hne : e ≠ .nil := fun h => by rw [h] at he; cases he
    simp only [cond_false, Bool.not_false, cond_true]
    exact ⟨[], [], [], [], [], [], false, e, rfl, a2.lst, fun h => absurd h hne, fun _ => ⟨rfl, rfl, rfl, rfl, rfl, rfl⟩⟩
  | true =>
    have := q24 he
    subst this
    obtain ⟨wf, wd⟩ := a3 rfl
    have hn := wf.ncells
    have hcnt := wf.count
    have hsm := z32 wf
    have hS := sites_le wf hsm
    have R1 := a2.rd hR
    obtain ⟨vs, e1, q1, b1, b2, b3, b4⟩ := z31 (K := K) hK (n := cs.length) (by omega) (L := fun k i e p acc => q2e.l0.f K k ((cs.length : Nat) : Int) i e l p acc) (fun _ _ _ _ _ => rfl) R1 a2.lst
    have b1' : q2e.l0.f K K ((cs.length : Nat) : Int) (0 : Int) .nil l ((q : Nat) : Int) [] = some (e1, ((q1 : Nat) : Int), vs) := b1
    have R2 := b2.rd R1
    obtain ⟨xs, e2, q2, c1, c2, c3, c4⟩ := z1e (enc := fun i x => sec (encF ((q5j fs : Nat) : Int) (tl K sp (fs.getD i default)) (fs.getD i default) x)) (Good := fun i x => ∀ m, fs[i]? = some m → Tf ((q5j fs : Nat) : Int) m x ∧ ∀ j : Nat, j < m.2.2.2.length → ((j : Nat) : Int) ∉ tl K sp m → x.2[j]? = some q8a) (l := l) (n := fs.length) (L := fun k i e p acc => q2e.l1.f K k sp ((q5j fs : Nat) : Int) fs ((fs.length : Nat) : Int) i e l p acc) (fun k e p acc => by
      rw [q2e.l1.f]
      have : decide (((fs.length : Nat) : Int) < ((fs.length : Nat) : Int)) = false := decide_eq_false (by omega)
      rw [this, cond_false]) (fun k i e p acc hi ha hR he => by
      have hg : fs[i]? = some fs[i] := List.getElem?_eq_getElem hi
      have hd : fs.getD i default = fs[i] := by simp [List.getD, hg]
      obtain ⟨x, e', q, a1, a2, a3⟩ := z67 (K := K) (sp := sp) hK hS (wf.fm hK sp fs[i] (List.getElem_mem hi)) hR he
      refine ⟨x, e', q, ?_, by rw [hd]; exact a2, fun h m hm => by rw [hg] at hm; cases hm; exact a3 h⟩
      rw [q2e.l1.f]
      have : decide (((i : Nat) : Int) < ((fs.length : Nat) : Int)) = true := decide_eq_true (by omega)
      rw [this, cond_true]
      simp only [ge0, Int.toNat_natCast, cond_true, hg, q0b, a1, q59 (x := x) ha (by omega), q5m (n := i) (by omega)]) fs.length K 0 e1 q1 [] rfl (by omega) (by omega) rfl R2 b2.lst
    have c1' : q2e.l1.f K K sp ((q5j fs : Nat) : Int) fs ((fs.length : Nat) : Int) (0 : Int) e1 l ((q1 : Nat) : Int) [] = some (e2, ((q2 : Nat) : Int), xs) := c1
    have R3 := c2.rd R2
    obtain ⟨ss, e3, q3, d1, d2, d3, d4⟩ := z1e (enc := fun _ x => z1z x) (Good := fun i x => ∀ m, is[i]? = some m → Sr m.2 x) (l := l) (n := is.length) (L := fun k i e p acc => q2e.l2.f K k is ((is.length : Nat) : Int) i e l p acc) (fun k e p acc => by
      rw [q2e.l2.f]
      have : decide (((is.length : Nat) : Int) < ((is.length : Nat) : Int)) = false := decide_eq_false (by omega)
      rw [this, cond_false]) (fun k i e p acc hi ha hR he => by
      have hg : is[i]? = some is[i] := List.getElem?_eq_getElem hi
      obtain ⟨x, e', q, a1, a2, a3⟩ := j1m (K := K) hK (a := is[i].2) (by have := wf.ims wd is[i] (List.getElem_mem hi); omega) hR he
      refine ⟨x, e', q, ?_, a2, fun h m hm => by rw [hg] at hm; cases hm; exact a3 h⟩
      rw [q2e.l2.f]
      have : decide (((i : Nat) : Int) < ((is.length : Nat) : Int)) = true := decide_eq_true (by omega)
      rw [this, cond_true]
      simp only [ge0, Int.toNat_natCast, cond_true, hg, q0b, a1, q59 (x := x) ha (by omega), q5m (n := i) (by omega)]) is.length K 0 e2 q2 [] rfl (by omega) (by omega) rfl R3 c2.lst
    have d1' : q2e.l2.f K K is ((is.length : Nat) : Int) (0 : Int) e2 l ((q2 : Nat) : Int) [] = some (e3, ((q3 : Nat) : Int), ss) := d1
    have T := ((a2.app b2).app c2).app d2
    obtain ⟨e', f1, f2, f3, f4⟩ := j1c (K := K) hK T hR
    simp only [cond_true, j18 hK wf, q0b, b1', c1', d1', f1]
    cases he' : e'.isNil with
    | false =>
      have hne : e' ≠ .nil := fun h => by rw [h] at he'; cases he'
      simp only [Bool.not_false, cond_true]
      exact ⟨[], [], [], [], [], [], false, e', rfl, f2.lst, fun h => absurd h hne, fun _ => ⟨rfl, rfl, rfl, rfl, rfl, rfl⟩⟩
    | true =>
      have := q24 he'
      subst this
      have hq := f3 rfl
      have h3 := f4 rfl
      have h2 := (d2.ok h3).1
      have h1 := (c2.ok h2).1
      simp only [Bool.not_true, cond_false]
      refine ⟨cs, fs, is, vs, xs, ss, sp, .nil, rfl, trivial, fun _ => ⟨?_, wf, wd, ⟨b3, b4 h1, c3, fun i m x hm hx => ?_, d3, fun i m s hm hs => ?_⟩, fun i m x hm hx => ?_⟩, fun h => absurd rfl h⟩
      · obtain ⟨_, S⟩ := f2.ok rfl
        have S2 := S.2.1
        obtain ⟨_, _, post, hp⟩ := S
        subst hq
        have hpost : post = [] := by
          have := congrArg List.length hp
          simp only [List.length_append, List.length_drop] at this S2
          exact List.length_eq_zero_iff.1 (by omega)
        subst hpost
        rw [List.drop_zero, List.append_nil] at hp
        rw [hp]
        have := z38 (K := K) (sp := sp) (sites := ((q5j fs : Nat) : Int)) (fs := fs) fs [] xs rfl c3
        rw [show z53 (fun i x => sec (encF ((q5j fs : Nat) : Int) (tl K sp (fs.getD i default)) (fs.getD i default) x)) 0 xs = _ from this, z3r]
        simp [fileB]
      · have := (c4 h2 i x hx) m (by simpa using hm)
        exact this.1
      · exact (d4 h3 i s hs) m (by simpa using hm)
      · have := (c4 h2 i x hx) m (by simpa using hm)
        exact this.2
end Go.Proofs.YtdjkdmjdcdljmaaGreatDoor.AU
namespace Go.Proofs.YtdjkdmjdcdljmaaGreatDoor.AU
open Go.Proofs.YtdjkdmjdcdljmaaGreatDoorY Go.Proofs.YtdjkdmjdcdljmaaGreatDoorY.Runs
set_option maxRecDepth 100000
set_option maxHeartbeats 4000000
variable {K : Nat}
theorem cut_ok (m : Int) (hm : 0 ≤ m) (a : List Int) : (decide (((0 : Nat) : Int) ≤ if m < ((a.length : Nat) : Int) then m else ((a.length : Nat) : Int)) && decide ((if m < ((a.length : Nat) : Int) then m else ((a.length : Nat) : Int)) ≤ ((a.length : Nat) : Int)) && true) = true := by
  split <;> simp <;> omega
theorem cut_rd (m : Int) (h0 : 0 ≤ m) (hm : m ≤ 8000) (a : List Int) (ha : ∀ x ∈ a, 0 ≤ x ∧ x < 256) : Rd (List.drop 0 (List.take (if m < ((a.length : Nat) : Int) then m else ((a.length : Nat) : Int)).toNat a)) 0 := by
  refine ⟨Nat.zero_le _, ?_, fun x hx => ha x (List.mem_of_mem_take (List.mem_of_mem_drop hx))⟩
  rw [List.drop_zero, List.length_take]
  split <;> omega
end Go.Proofs.YtdjkdmjdcdljmaaGreatDoor.AU
namespace Go.Proofs.YtdjkdmjdcdljmaaGreatDoor.AU
open Go.Proofs.YtdjkdmjdcdljmaaGreatDoorY Go.Proofs.YtdjkdmjdcdljmaaGreatDoorY.Runs
set_option maxRecDepth 100000
set_option maxHeartbeats 4000000
variable {K : Nat}
def z18 : Err → List Int
  | .at p e => p :: z18 e
  | _ => []
theorem path_l0 : ∀ (e : Err) (acc : List Int) (k : Nat), dep e < k → acc.length + dep e ≤ 4000000 → q4n.l0.f k e acc = some (acc ++ z18 e)
  | .nil, acc, k + 1, _, _ => by rw [q4n.l0.f]; simp [z18]; intros; simp_all
  | .no n, acc, k + 1, _, _ => by rw [q4n.l0.f]; simp [z18]; intros; simp_all
  | .at p e, acc, k + 1, hk, hl => by
    simp only [dep] at hk hl
    rw [q4n.l0.f, Nat.ble_eq_true_of_le (by simp; omega), cond_true, path_l0 e (acc ++ [p]) k (by omega) (by simp; omega)]
    simp [z18]
  | e, acc, 0, hk, _ => by omega
theorem dep_le : ∀ {e : Err}, Lst e → dep e ≤ 8
  | .nil, _ => by simp [dep]
  | .no _, _ => by simp [dep]
  | .at p e, h => by have := h.2.2.2; simp only [dep]; omega
theorem j0x : ∀ e, (z18 e).length = dep e
  | .nil => rfl
  | .no _ => rfl
  | .at p e => by simp [z18, dep, j0x e]
theorem j0r : ∀ {e : Err}, Lst e → ∀ x ∈ z18 e, 0 ≤ x
  | .nil, _, x, hx => by cases hx
  | .no _, _, x, hx => by cases hx
  | .at p e, h, x, hx => by
    rcases List.mem_cons.1 hx with rfl | hx
    · exact h.1
    · exact j0r h.2.2.1 x hx
theorem path_val (hK : 20000 ≤ K) {e : Err} (h : Lst e) : q4n.f K e = some (z18 e) := by
  have := dep_le h
  unfold q4n.f
  rw [path_l0 e [] K (by omega) (by simp; omega)]
  rfl
theorem z8c {l : List Int} (hl : l.length ≤ 1000) (h0 : ∀ x ∈ l, 0 ≤ x) : ∀ (l2 l1 : List Int) (k : Nat), l = l1 ++ l2 → l2.length < k → q16.l0.f K k l ((l1.length : Nat) : Int) = some (.inl ())
  | l2, l1, 0, h, hk => by omega
  | [], l1, k + 1, h, hk => by
    rw [q16.l0.f]
    simp only [q3y h, cond_false]
  | x :: l2, l1, k + 1, h, hk => by
    rw [q16.l0.f]
    have hl1 : l1.length ≤ 1000 := by rw [h] at hl; simp at hl; omega
    have hx := h0 x (by rw [h]; simp)
    simp only [List.length_cons] at hk
    simp only [q3z h, ge0, q6g h, cond_true, q0b, decide_eq_false (show ¬ x < 0 by omega), cond_false, q10 (l1 := l1) (x := x) (by omega)]
    exact z8c hl h0 l2 (l1 ++ [x]) k (q18 h) (by omega)
theorem j2j (hK : 20000 ≤ K) {e : Err} (h : Lst e) : q16.f K e = some true := by
  unfold q16.f
  have hd := dep_le h
  have hp := j0x e
  have g := z8c (K := K) (l := z18 e) (by omega) (j0r h) (z18 e) [] K rfl (by omega)
  rw [show q32.f K e = some (z0q e) from rfl, q0b, path_val hK h, q0b, show q16.l0.f K K (z18 e) (0 : Int) = _ from g, q0b]
  simp only [Sum.elim_inl, q5o, z50]
  cases he : e.isNil with
  | true =>
    have := q24 he
    subst this
    rfl
  | false =>
    have hk := j1h h (fun e' => by rw [e'] at he; cases he)
    simp [hk.1, hk.2, q04, q0b]
theorem q6y {a b B : Int} (h1 : a ≤ B) (h2 : b ≤ B) : (if a > b then a else b) ≤ B := by split <;> assumption
section
variable {B : Int}
theorem z5o {l : List (List Int)} (hl : l.length ≤ 1000) (hb : ∀ s ∈ l, ((s.length : Nat) : Int) ≤ B) : ∀ (l2 l1 : List (List Int)) (k : Nat) (a : Int), l = l1 ++ l2 → l2.length < k → a ≤ B → ∃ r, q0p.l4.f K k a ((l1.length : Nat) : Int) l = some r ∧ r ≤ B
  | l2, l1, 0, a, h, hk, ha => by omega
  | [], l1, k + 1, a, h, hk, ha => by
    rw [q0p.l4.f]
    simp only [q3y h, cond_false]
    exact ⟨a, rfl, ha⟩
  | x :: l2, l1, k + 1, a, h, hk, ha => by
    rw [q0p.l4.f]
    have hl1 : l1.length ≤ 1000 := by rw [h] at hl; simp at hl; omega
    simp only [List.length_cons] at hk
    simp only [q3z h, ge0, q6g h, cond_true, q0b, q10 (l1 := l1) (x := x) (by omega)]
    exact z5o hl hb l2 (l1 ++ [x]) k _ (q18 h) (by omega) (q6y (hb x (by rw [h]; simp)) ha)
structure shortB (B : Int) (x : q1c) : Prop where
  n : x.1.2.2.length ≤ 1000
  vals : ((x.1.2.1.length : Nat) : Int) ≤ B
  live : ((x.2.length : Nat) : Int) ≤ B
  sets : ∀ s ∈ x.1.2.2, ((s.length : Nat) : Int) ≤ B
theorem z4x (hK : 20000 ≤ K) {xs : List q0z} {i : Nat} {x : q0z} (hx : xs[i]? = some x) (hl : x.2.length ≤ 1000) (hb : ∀ b ∈ x.2, shortB B b) : ∀ (l2 l1 : List q1c) (k : Nat) (a : Int), x.2 = l1 ++ l2 → l2.length < k → a ≤ B → ∃ r, q0p.l3.f K k a ((i : Nat) : Int) ((l1.length : Nat) : Int) xs = some r ∧ r ≤ B
  | l2, l1, 0, a, h, hk, ha => by omega
  | [], l1, k + 1, a, h, hk, ha => by
    rw [q0p.l3.f]
    simp only [ge0, Int.toNat_natCast, hx, cond_true, q0b, q3y h, cond_false]
    exact ⟨a, rfl, ha⟩
  | y :: l2, l1, k + 1, a, h, hk, ha => by
    rw [q0p.l3.f]
    have hl1 : l1.length ≤ 1000 := by rw [h] at hl; simp at hl; omega
    have hy := hb y (by rw [h]; simp)
    have hg : x.2[l1.length]? = some y := by rw [h]; simp
    simp only [List.length_cons] at hk
    obtain ⟨r, g1, g2⟩ := z5o (K := K) (l := y.1.2.2) hy.n hy.sets y.1.2.2 [] K _ rfl (by have := hy.n; omega) (q6y (a := ((y.1.2.1.length : Nat) : Int)) hy.vals (q6y (a := ((y.2.length : Nat) : Int)) hy.live ha))
    simp only [ge0, Int.toNat_natCast, hx, cond_true, q0b, q3z h, hg, q10 (l1 := l1) (x := y) (by omega)]
    rw [show q0p.l4.f K K _ (0 : Int) y.1.2.2 = some r from g1, q0b]
    exact z4x hK hx hl hb l2 (l1 ++ [y]) k r (q18 h) (by omega) g2
theorem z5l (hK : 20000 ≤ K) {xs : List q0z} (hl : xs.length ≤ 1000) (hb : ∀ x ∈ xs, x.2.length ≤ 1000 ∧ ∀ b ∈ x.2, shortB B b) : ∀ (l2 l1 : List q0z) (k : Nat) (a : Int), xs = l1 ++ l2 → l2.length < k → a ≤ B → ∃ r, q0p.l2.f K k a ((l1.length : Nat) : Int) xs = some r ∧ r ≤ B
  | l2, l1, 0, a, h, hk, ha => by omega
  | [], l1, k + 1, a, h, hk, ha => by
    rw [q0p.l2.f]
    simp only [q3y h, cond_false]
    exact ⟨a, rfl, ha⟩
  | y :: l2, l1, k + 1, a, h, hk, ha => by
    rw [q0p.l2.f]
    have hl1 : l1.length ≤ 1000 := by rw [h] at hl; simp at hl; omega
    have hy := hb y (by rw [h]; simp)
    have hg : xs[l1.length]? = some y := by rw [h]; simp
    simp only [List.length_cons] at hk
    obtain ⟨r, g1, g2⟩ := z4x (K := K) hK hg hy.1 hy.2 y.2 [] K a rfl (by have := hy.1; omega) ha
    simp only [q3z h, cond_true]
    rw [show q0p.l3.f K K a ((l1.length : Nat) : Int) (0 : Int) xs = some r from g1, q0b, q10 (l1 := l1) (x := y) (by omega)]
    exact z5l hK hl hb l2 (l1 ++ [y]) k r (q18 h) (by omega) g2
theorem z49 {fs : List q0v} {i : Nat} {f : q0v} (hf : fs[i]? = some f) (hl : f.2.2.2.length ≤ 1000) (hb : ∀ b ∈ f.2.2.2, ((b.1.length : Nat) : Int) ≤ B) : ∀ (l2 l1 : List q1b) (k : Nat) (a : Int), f.2.2.2 = l1 ++ l2 → l2.length < k → a ≤ B → ∃ r, q0p.l1.f K k a ((i : Nat) : Int) ((l1.length : Nat) : Int) fs = some r ∧ r ≤ B
  | l2, l1, 0, a, h, hk, ha => by omega
  | [], l1, k + 1, a, h, hk, ha => by
    rw [q0p.l1.f]
    simp only [ge0, Int.toNat_natCast, hf, cond_true, q0b, q3y h, cond_false]
    exact ⟨a, rfl, ha⟩
  | y :: l2, l1, k + 1, a, h, hk, ha => by
    rw [q0p.l1.f]
    have hl1 : l1.length ≤ 1000 := by rw [h] at hl; simp at hl; omega
    have hy := hb y (by rw [h]; simp)
    have hg : f.2.2.2[l1.length]? = some y := by rw [h]; simp
    simp only [List.length_cons] at hk
    simp only [ge0, Int.toNat_natCast, hf, cond_true, q0b, q3z h, hg, q10 (l1 := l1) (x := y) (by omega)]
    exact z49 hf hl hb l2 (l1 ++ [y]) k _ (q18 h) (by omega) (q6y hy ha)
structure shortF (B : Int) (f : q0v) : Prop where
  name : ((f.1.size : Nat) : Int) ≤ B
  n : f.2.2.2.length ≤ 1000
  len : ((f.2.2.2.length : Nat) : Int) ≤ B
  blocks : ∀ b ∈ f.2.2.2, ((b.1.length : Nat) : Int) ≤ B
theorem z5u (hK : 20000 ≤ K) {fs : List q0v} (hl : fs.length ≤ 1000) (hb : ∀ f ∈ fs, shortF B f) : ∀ (l2 l1 : List q0v) (k : Nat) (a : Int), fs = l1 ++ l2 → l2.length < k → a ≤ B → ∃ r, q0p.l0.f K k a ((l1.length : Nat) : Int) fs = some r ∧ r ≤ B
  | l2, l1, 0, a, h, hk, ha => by omega
  | [], l1, k + 1, a, h, hk, ha => by
    rw [q0p.l0.f]
    simp only [q3y h, cond_false]
    exact ⟨a, rfl, ha⟩
  | y :: l2, l1, k + 1, a, h, hk, ha => by
    rw [q0p.l0.f]
    have hl1 : l1.length ≤ 1000 := by rw [h] at hl; simp at hl; omega
    have hy := hb y (by rw [h]; simp)
    have hg : fs[l1.length]? = some y := by rw [h]; simp
    simp only [List.length_cons] at hk
    obtain ⟨r, g1, g2⟩ := z49 (K := K) hg hy.n hy.blocks y.2.2.2 [] K _ rfl (by have := hy.n; omega) (q6y (a := ((y.1.size : Nat) : Int)) hy.name (q6y (a := ((y.2.2.2.length : Nat) : Int)) hy.len ha))
    simp only [q3z h, cond_true, ge0, Int.toNat_natCast, hg, q0b]
    rw [show q0p.l1.f K K _ ((l1.length : Nat) : Int) (0 : Int) fs = some r from g1, q0b, q10 (l1 := l1) (x := y) (by omega)]
    exact z5u hK hl hb l2 (l1 ++ [y]) k r (q18 h) (by omega) g2
theorem z28 (hK : 20000 ≤ K) {cs : List Int} {fs : List q0v} {is : List q0i} {vs : List q0n} {xs : List q0z} {ss : List LSum} (h1 : ((cs.length : Nat) : Int) ≤ B) (h2 : ((fs.length : Nat) : Int) ≤ B ∧ fs.length ≤ 1000 ∧ ∀ f ∈ fs, shortF B f) (h3 : ((is.length : Nat) : Int) ≤ B) (h4 : ((vs.length : Nat) : Int) ≤ B)
    (h5 : ((xs.length : Nat) : Int) ≤ B ∧ xs.length ≤ 1000 ∧ ∀ x ∈ xs, x.2.length ≤ 1000 ∧ ∀ b ∈ x.2, shortB B b) (h6 : ((ss.length : Nat) : Int) ≤ B) : ∃ r, q0p.f K cs fs is vs xs ss = some r ∧ r ≤ B := by
  unfold q0p.f
  have m2 := q6y (a := ((fs.length : Nat) : Int)) (b := ((cs.length : Nat) : Int)) h2.1 h1
  have m3 := q6y (a := ((is.length : Nat) : Int)) h3 m2
  have m4 := q6y (a := ((vs.length : Nat) : Int)) h4 m3
  have m5 := q6y (a := ((xs.length : Nat) : Int)) h5.1 m4
  have m6 := q6y (a := ((ss.length : Nat) : Int)) h6 m5
  obtain ⟨r, g1, g2⟩ := z5u (K := K) hK h2.2.1 h2.2.2 fs [] K _ rfl (by have := h2.2.1; omega) m6
  rw [show q0p.l0.f K K _ (0 : Int) fs = some r from g1, q0b]
  obtain ⟨r2, f1, f2⟩ := z5l (K := K) hK h5.2.1 h5.2.2 xs [] K r rfl (by have := h5.2.1; omega) g2
  exact ⟨r2, f1, f2⟩
end
end Go.Proofs.YtdjkdmjdcdljmaaGreatDoor.AU
namespace Go.Proofs.YtdjkdmjdcdljmaaGreatDoor.AU
open Go.Proofs.YtdjkdmjdcdljmaaGreatDoorY Go.Proofs.YtdjkdmjdcdljmaaGreatDoorY.Runs
set_option maxRecDepth 100000
set_option maxHeartbeats 4000000
variable {K : Nat}
theorem z2p {α : Type} {f : α → List Int} {g : α → Nat} : ∀ {l : List α}, (∀ x ∈ l, g x ≤ (f x).length) → (l.map g).sum ≤ (l.flatMap f).length
  | [], _ => by simp
  | x :: l, h => by
    have h1 := h x (by simp)
    have h2 := z2p (l := l) (f := f) (g := g) fun y hy => h y (by simp [hy])
    simp only [List.map_cons, List.sum_cons, List.flatMap_cons, List.length_append]
    omega
theorem sum_le2 {α : Type} {f g : α → Nat} {c : Nat} : ∀ {l : List α}, (∀ x ∈ l, f x ≤ c * g x) → (l.map f).sum ≤ c * (l.map g).sum
  | [], _ => by simp
  | x :: l, h => by
    have h1 := h x (by simp)
    have h2 := sum_le2 (l := l) (f := f) (g := g) (c := c) fun y hy => h y (by simp [hy])
    simp only [List.map_cons, List.sum_cons, Nat.mul_add]
    omega
theorem one_sum {α : Type} (l : List α) : (l.map fun _ => 1).sum = l.length := by
  induction l with
  | nil => rfl
  | cons x l ih => simp only [List.map_cons, List.sum_cons, ih, List.length_cons]; omega
theorem z92 (b : q1b) : z09 b.1 ≤ (q6h b).length := by
  have h1 := z2a b.1
  have h2 : (b.1.map fun _ => 1).sum ≤ (b.1.flatMap q7z).length := z2p fun x _ => by simp [q7z]
  rw [one_sum] at h2
  simp only [q6h, List.length_cons, List.length_append]
  omega
theorem j2l (f : q0v) : 1 + q5n f.2.2.2 ≤ (z05 f).length := by
  have h2 : (f.2.2.2.map fun b => z09 b.1).sum ≤ (f.2.2.2.flatMap q6h).length := z2p fun b _ => z92 b
  unfold q5n
  simp only [z05, List.length_cons, List.length_append]
  omega
theorem sites_len {cells : List Int} {fs : List q0v} {is : List q0i} (h : WF cells fs is) : q5j fs ≤ 8 * (q8u cells fs is).length := by
  have h1 : q5j fs ≤ 8 * (fs.map fun f => 1 + q5n f.2.2.2).sum := sum_le2 fun f hf => by
    obtain ⟨a, _⟩ := h.shape f hf
    omega
  have h2 : (fs.map fun f => 1 + q5n f.2.2.2).sum ≤ (fs.flatMap z05).length := z2p fun f _ => j2l f
  simp only [q8u, List.length_cons, List.length_append]
  omega
theorem encU_ne (n : Nat) : 1 ≤ (encU n).length := by
  unfold encU encN
  split <;> simp
theorem z97 (hK : 20000 ≤ K) {l : List Int} {cs : List Int} {fs : List q0v} {is : List q0i} {vs : List q0n} {xs : List q0z} {ss : List LSum} {sp : Bool} (h : Was K l cs fs is vs xs ss sp) :
    ∃ r, q0p.f K cs fs is vs xs ss = some r ∧ r ≤ ((8 * l.length : Nat) : Int) := by
  have hs := sites_len h.wf
  have hsm := z32 h.wf
  have hlen : 4 + (q8u cs fs is).length + 1 ≤ l.length := by
    have hu := encU_ne (q8u cs fs is).length
    rw [h.file]
    simp only [fileB, sec, List.length_append, List.length_cons, List.length_nil]
    omega
  have hn := h.wf.ncells
  have hc := h.wf.count
  have t1 := h.tab.clen
  have t2 := h.tab.flen
  have t3 := h.tab.ilen
  refine z28 hK (B := ((8 * l.length : Nat) : Int)) (by omega) ⟨by omega, by omega, fun f hf => ?_⟩ (by omega) (by omega) ⟨by omega, by omega, fun x hx => ?_⟩ (by omega)
  · obtain ⟨i, hi⟩ := List.getElem?_of_mem hf
    obtain ⟨a, b, c, d⟩ := h.wf.shape f hf
    have nm := (h.wf.funcs i f hi).1.name.2.1
    exact ⟨by omega, by omega, by omega, fun b hb => by have := (d b hb).1; omega⟩
  · obtain ⟨i, hi⟩ := List.getElem?_of_mem hx
    have hil : i < fs.length := by
      have := (List.getElem?_eq_some_iff.1 hi).1
      omega
    have hf : fs[i]? = some fs[i] := List.getElem?_eq_getElem hil
    have tf := h.tab.funcs i _ x hf hi
    obtain ⟨a, b, c, d⟩ := h.wf.shape fs[i] (List.getElem_mem hil)
    have hlen2 := tf.len
    refine ⟨by omega, fun y hy => ?_⟩
    have br := tf.blocks y hy
    obtain ⟨l1, l2⟩ := br.len (by omega)
    have l3 := q3o br.live
    exact ⟨by omega, by omega, by omega, fun s hs' => by have := q3o (br.sets s hs'); omega⟩
theorem ends_law (hK : 20000 ≤ K) {a : List Int} (ha : ∀ x ∈ a, 0 ≤ x ∧ x < 256) : q2j.f K a = some true := by
  unfold q2j.f
  rw [cut_ok 8000 (by omega) a, cond_true]
  have hp := cut_rd 8000 (by omega) (by omega) a ha
  revert hp
  generalize (List.drop 0 (List.take (if (8000 : Int) < ((a.length : Nat) : Int) then (8000 : Int) else ((a.length : Nat) : Int)).toNat a)) = p
  intro hp
  obtain ⟨cs, fs, is, vs, xs, ss, sp, e, r1, r2, r3, r4⟩ := read_back (K := K) hK hp
  have hl := hp.len
  have w : IntKind.i64.wrap ((8 : Int) * ((p.length : Nat) : Int)) = ((8 * p.length : Nat) : Int) := by rw [q0s (by omega) (by omega)]; omega
  have hL : ∃ r, q0p.f K cs fs is vs xs ss = some r ∧ r ≤ ((8 * p.length : Nat) : Int) := by
    by_cases he : e = .nil
    · exact z97 hK (r3 he)
    · obtain ⟨rfl, rfl, rfl, rfl, rfl, rfl⟩ := r4 he
      have z : ((0 : Nat) : Int) ≤ ((8 * p.length : Nat) : Int) := by omega
      exact z28 hK z ⟨z, Nat.zero_le _, fun _ h => by cases h⟩ z z ⟨z, Nat.zero_le _, fun _ h => by cases h⟩ z
  obtain ⟨r, g1, g2⟩ := hL
  simp only [r1, q0b, runs_val hK, cond_true, j2j hK r2, g1, w, q04, decide_eq_true g2]
end Go.Proofs.YtdjkdmjdcdljmaaGreatDoor.AU
namespace Go.Proofs.YtdjkdmjdcdljmaaGreatDoorY
open Go.RowKit
def WfD : (T : Ty) → T.I → Prop
  | .int k, n => (Lit.int k n).wf = true
  | .slice t, xs => ∀ x ∈ xs, WfD t x
  | .pair a b, x => WfD a x.1 ∧ WfD b x.2
  | _, _ => True
def q7f (P : Program) (chk : TypeId → Ty → Bool) (total : Nat) : Nat → List Field → Ty → Bool
  | o, f :: g :: fs, .pair A B => Nat.beq f.offset o && chk f.type A && q7f P chk total (o + P.cellsOf f.type) (g :: fs) B
  | o, [f], T => Nat.beq f.offset o && chk f.type T && Nat.beq (o + P.cellsOf f.type) total
  | _, _, _ => false
def z9f (P : Program) : Nat → TypeId → Ty → Bool
  | 0, _, _ => false
  | n + 1, t, T => match P.underlying t, T with
    | some (.int k), .int k' => IntKind.beq' k k'
    | some .bool, .bool => true
    | some .string, .str => true
    | some (.slice e), .slice T => z9f P n e T && Nat.blt 0 (P.cellsOf e)
    | some (.struct fs), T => q7f P (z9f P n) (P.cellsOf t) 0 fs.toList T
    | _, _ => false
def oldZ (w : World) : Zone := fun r => r < w.heap.size
theorem seg_eq {L row : List Value} {o s : Nat} (hl : row.length = s) (h : ∀ r, r < s → L[o + r]? = row[r]?) : L.drop o = row ++ L.drop (o + s) := by
  apply List.ext_getElem?
  intro i
  rw [List.getElem?_drop]
  by_cases hi : i < s
  · rw [List.getElem?_append_left (by omega)]; exact h i hi
  · rw [List.getElem?_append_right (by omega), List.getElem?_drop]
    congr 1; omega
theorem rows_eq {s : Nat} : ∀ {rows : List (List Value)} {L : List Value} {o : Nat}, (∀ i row, rows[i]? = some row → row.length = s ∧ ∀ r, r < s → L[o + i * s + r]? = row[r]?) → L.drop o = rows.flatten ++ L.drop (o + rows.length * s)
  | [], L, o, _ => by simp
  | row :: rows, L, o, h => by
    obtain ⟨h1, h2⟩ := h 0 row rfl
    have e := seg_eq (L := L) (o := o) h1 (fun r hr => by simpa using h2 r hr)
    have ih := rows_eq (rows := rows) (L := L) (o := o + s) fun i r hr => by
      obtain ⟨q1, q2⟩ := h (i + 1) r (by simpa using hr)
      refine ⟨q1, fun k hk => ?_⟩
      have := q2 k hk
      rw [← this]
      congr 1
      rw [Nat.add_mul]; omega
    rw [e, ih, List.flatten_cons, List.append_assoc, List.length_cons, Nat.add_mul]
    congr 3; omega
section
variable {M : Cfg} {P : Program} {H : Type} {enc : TypeId × Value → H} {w : World} {spare : Nat → Bool} {held : Bool}
theorem pickL {α : Type} (R : Nat → α → Prop) : ∀ n, (∀ i, i < n → ∃ x, R i x) → ∃ xs : List α, xs.length = n ∧ ∀ i x, xs[i]? = some x → R i x
  | 0, _ => ⟨[], rfl, fun i x h => by simp at h⟩
  | n + 1, h => by
    obtain ⟨xs, hl, hx⟩ := pickL R n (fun i hi => h i (by omega))
    obtain ⟨y, hy⟩ := h n (by omega)
    refine ⟨xs ++ [y], by simp [hl], fun i x hi => ?_⟩
    by_cases g : i < xs.length
    · rw [List.getElem?_append_left g] at hi; exact hx i x hi
    · rw [List.getElem?_append_right (by omega)] at hi
      have hlt := (List.getElem?_eq_some_iff.1 hi).1
      have : i = n := by simp at hlt; omega
      subst this
      rw [hl, Nat.sub_self] at hi
      simp at hi
      subst hi
      exact hy
theorem All2.of_get {α β : Type} {R : α → β → Prop} : ∀ {l : List α} {m : List β}, l.length = m.length → (∀ (i : Nat) a b, l[i]? = some a → m[i]? = some b → R a b) → All2 R l m
  | [], [], _, _ => trivial
  | a :: l, b :: m, h, hr => ⟨hr 0 a b rfl rfl, All2.of_get (by simpa using h) fun i x y hx hy => hr (i + 1) x y (by simpa using hx) (by simpa using hy)⟩
  | [], _ :: _, h, _ => by simp at h
  | _ :: _, [], h, _ => by simp at h
theorem z82 {chk : TypeId → Ty → Bool} {total n : Nat} {cs : List Value} (hcs : cs.length = total) (ih : ∀ t T, chk t T = true → ∀ cs x, DataW.trod enc P w 0 spare held n t cs = some x → ∃ d : T.I, DV M (oldZ w) w T d cs ∧ WfD T d) :
    ∀ (fs : List Field) (o : Nat) (T : Ty), q7f P chk total o fs T = true → (∀ f ∈ fs, ∃ y, DataW.trod enc P w 0 spare held n f.type ((cs.drop f.offset).take (P.cellsOf f.type)) = some y) → ∃ d : T.I, DV M (oldZ w) w T d (cs.drop o) ∧ WfD T d
  | [], o, T, h, _ => by cases T <;> simp [q7f] at h
  | [f], o, T, h, hf => by
    have h' : (Nat.beq f.offset o && chk f.type T && Nat.beq (o + P.cellsOf f.type) total) = true := by
      cases T <;> exact h
    simp only [Bool.and_eq_true] at h'
    obtain ⟨⟨h1, h2⟩, h3⟩ := h'
    have h1 := Nat.eq_of_beq_eq_true h1
    have h3 := Nat.eq_of_beq_eq_true h3
    obtain ⟨y, hy⟩ := hf f (by simp)
    rw [h1, List.take_of_length_le (by simp; omega)] at hy
    exact ih _ _ h2 _ _ hy
  | f :: g :: fs, o, T, h, hf => by
    cases T with
    | pair A B =>
      simp only [q7f, Bool.and_eq_true] at h
      obtain ⟨⟨h1, h2⟩, h3⟩ := h
      have h1 := Nat.eq_of_beq_eq_true h1
      obtain ⟨y, hy⟩ := hf f (by simp)
      rw [h1] at hy
      obtain ⟨d1, q1, q2⟩ := ih _ _ h2 _ _ hy
      obtain ⟨d2, q3, q4⟩ := z82 hcs ih (g :: fs) (o + P.cellsOf f.type) B h3 (fun f' hf' => hf f' (by simp [hf']))
      refine ⟨(d1, d2), ⟨_, _, ?_, q1, q3⟩, q2, q4⟩
      rw [← List.drop_drop, List.take_append_drop]
    | _ => simp [q7f] at h
theorem z95 : ∀ (n : Nat) (t : TypeId) (T : Ty), z9f P n t T = true → ∀ (fuel : Nat) cs x, DataW.trod enc P w 0 spare held fuel t cs = some x → ∃ d : T.I, DV M (oldZ w) w T d cs ∧ WfD T d
  | 0, t, T, h, _, _, _, _ => by simp [z9f] at h
  | n + 1, t, T, h, fuel, cs, x, hx => by
    unfold z9f at h
    split at h
    · rename_i k k' hu
      have := IntKind.beq'_eq h
      subst this
      obtain ⟨v, rfl, _, hw⟩ := DataW.trod_int hu hx
      exact ⟨v, rfl, hw⟩
    · rename_i hu
      obtain ⟨v, rfl, _⟩ := DataW.trod_bool hu hx
      exact ⟨v, rfl, trivial⟩
    · rename_i hu
      obtain ⟨v, rfl, _, _⟩ := DataW.trod_string hu hx
      exact ⟨v, rfl, trivial⟩
    · rename_i e T' hu
      rw [Bool.and_eq_true] at h
      obtain ⟨h1, h2⟩ := h
      have h2 : 0 < P.cellsOf e := Nat.le_of_ble_eq_true h2
      rcases Go.Deep.open_slice hu hx with ⟨rfl, _⟩ | ⟨a, len, cap, m, q, D, Pl, rfl, hb, hl, hm, hmm, _, hi⟩
      · exact ⟨[], ⟨none, 0, rfl, Nat.le_refl _, .inl rfl⟩, fun x hx => by simp at hx⟩
      · obtain ⟨ps, p1, p2⟩ := pickL (fun i (p : T'.I × List Value) => w.cells? 0 (a.add (i * P.cellsOf e)) (P.cellsOf e) = some p.2 ∧ DV M (oldZ w) w T' p.1 p.2 ∧ WfD T' p.1) len (fun i hil => by
          obtain ⟨cs', c1, c2⟩ := hi i (by rw [hmm]; split <;> omega)
          obtain ⟨d, d1, d2⟩ := z95 n e T' h1 _ _ _ c2
          exact ⟨(d, cs'), c1, d1, d2⟩)
        refine ⟨ps.map (·.1), ⟨some a, cap, by simp [p1], by simp [p1, hl], ?_⟩, fun x hx => ?_⟩
        · by_cases h0 : len = 0
          · left
            have : ps = [] := List.length_eq_zero_iff.1 (by omega)
            rw [this]; rfl
          · right
            obtain ⟨p0, hp0⟩ : ∃ p0, ps[0]? = some p0 := ⟨ps[0]'(by omega), List.getElem?_eq_getElem _⟩
            have hq := (p2 0 p0 hp0).1
            rw [Nat.zero_mul] at hq
            have ha0 : a.add 0 = a := by unfold Addr.add; rw [if_pos rfl]
            rw [ha0] at hq
            obtain ⟨_, r1, r2⟩ := World.cells?_some hq
            have r0 := r2 0 h2
            rw [ha0] at r0
            have hc0 : w.cell? a ≠ none := by
              rw [r0, List.getElem?_eq_getElem (by omega)]; exact fun h => by cases h
            obtain ⟨c, el, fr, hheap, hspot⟩ : ∃ c el fr, w.heap[a.block]? = some (.cells c el fr) ∧ a.spot = none := by
              unfold World.cell? at hc0
              split at hc0
              · rename_i c el fr hh
                refine ⟨c, el, fr, hh, ?_⟩
                cases hs : a.spot with
                | none => rfl
                | some v => rw [hs] at hc0; simp at hc0
              · exact absurd rfl hc0
            have at_ : ∀ k, w.cell? (a.add k) = c[a.off + k]? := fun k => by
              unfold World.cell? Addr.add
              by_cases hk : k = 0
              · subst hk; simp [hheap, hspot]
              · rw [if_neg hk]; simp [hheap]
            have hrows : c.toList.drop a.off = (ps.map (·.2)).flatten ++ c.toList.drop (a.off + (ps.map (·.2)).length * P.cellsOf e) := rows_eq fun i row hrow => by
              rw [List.getElem?_map] at hrow
              cases hpi : ps[i]? with
              | none => rw [hpi] at hrow; cases hrow
              | some p =>
                rw [hpi] at hrow
                cases hrow
                have hpq := (p2 i p hpi).1
                obtain ⟨_, z1, z2⟩ := World.cells?_some hpq
                refine ⟨z1, fun r hr => ?_⟩
                have := z2 r hr
                rw [Go.Deep.add_add, at_] at this
                rw [← this, Array.getElem?_toList]
                congr 1; omega
            refine ⟨a.block, a.off, c, el, fr, c.toList.take a.off, c.toList.drop (a.off + (ps.map (·.2)).length * P.cellsOf e), ps.map (·.2), ?_, ?_, hheap, ?_, ?_, ?_⟩
            · obtain ⟨b, o, s⟩ := a
              simp at hspot
              subst hspot
              rfl
            · unfold oldZ
              exact (Array.getElem?_eq_some_iff.1 hheap).1
            · rw [← hrows, List.take_append_drop]
            · rw [List.length_take, Nat.min_eq_left]
              have h3 : c[a.off]? ≠ none := by have := at_ 0; rw [ha0] at this; rw [Nat.add_zero] at this; rw [← this]; exact hc0
              have : a.off < c.size := by
                cases hh : c[a.off]? with
                | none => exact absurd hh h3
                | some v => exact (Array.getElem?_eq_some_iff.1 hh).1
              simp; omega
            · refine All2.of_get (by simp) fun i x row hx hr => ?_
              rw [List.getElem?_map] at hx hr
              cases hpi : ps[i]? with
              | none => rw [hpi] at hx; cases hx
              | some p =>
                rw [hpi] at hx hr
                cases hx; cases hr
                exact (p2 i p hpi).2.1
        · obtain ⟨p, hp, rfl⟩ := List.mem_map.1 hx
          obtain ⟨i, hi⟩ := List.mem_iff_getElem?.1 hp
          exact (p2 i p hi).2.2
    · rename_i fs hu
      obtain ⟨xs, q, _, _, hlen, hxl, hf⟩ := DataW.trod_struct hu hx
      have := z82 (M := M) (P := P) (w := w) (n := q) (chk := z9f P n) hlen (fun t T hc cs x hx => z95 n t T hc q cs x hx) fs.toList 0 _ h (fun f hfm => by
        obtain ⟨i, hi⟩ := List.mem_iff_getElem?.1 hfm
        rw [Array.getElem?_toList] at hi
        have hlt := (Array.getElem?_eq_some_iff.1 hi).1
        refine ⟨xs[i]'(by omega), ?_⟩
        rw [hf i f hi, List.getElem?_eq_getElem (by omega)])
      simpa using this
    · cases h
end
end Go.Proofs.YtdjkdmjdcdljmaaGreatDoorY
