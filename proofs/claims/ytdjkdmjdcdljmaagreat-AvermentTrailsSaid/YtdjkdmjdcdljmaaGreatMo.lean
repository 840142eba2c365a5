/- Own work. No condition. -/
import Derived.Test.YtdjkdmjdcdljmaaGreatMn

namespace Go.Proofs.YtdjkdmjdcdljmaaGreatX
open Go.RowKit
set_option linter.unusedVariables false
set_option linter.unusedSimpArgs false
variable {M : Cfg}

def dep (o : Oper) (j : Nat) : Bool := o.after.toList.any fun e => Region.binds .any e && Nat.beq e.on j
def optB (x : Option Nat) (b : Nat) : Bool := match x with | some c => Nat.beq c b | none => false
def sameB (x y : Option Nat) : Bool := match x with | some c => optB y c | none => false
def depN (l : List Oper) : Nat → Oper → Nat → Bool
  | 0, o, j => dep o j
  | n + 1, o, j => dep o j || o.after.toList.any fun e => (Nat.blt j e.on && Region.binds .any e) && match l[e.on]? with | some z => depN l n z j | none => false
def dep2 (l : List Oper) (o : Oper) (j : Nat) : Bool := depN l 40 o j
def pairOk (ops : Array Oper) (i : Nat) (x : Oper) (j : Nat) (y : Oper) : Bool :=
  Nat.beq i j ||
  (!sameB x.dst y.dst &&
   (match y.dst with | some t => !hasB (x.looksAt ops) t || ((Nat.blt j i && dep2 ops.toList x j) || (Nat.blt i j && dep2 ops.toList y i)) | none => true))
def meets (l m : List Nat) : Bool := l.any fun F => hasB m F
def memOk (l : List Oper) (i : Nat) (x : Oper) (r : Rec) (j : Nat) (y : Oper) (s : Rec) : Bool :=
  Nat.beq i j || !(meets s.puts r.puts || meets s.puts r.rds) || (Nat.blt j i && dep2 l x j) || (Nat.blt i j && dep2 l y i)
def idle (r : Rec) : Bool := r.puts.isEmpty && r.rds.isEmpty
def rowOk (ops : Array Oper) (i : Nat) (x : Oper) : Nat → List Oper → Bool
  | j, y :: ys => pairOk ops i x j y && rowOk ops i x (j + 1) ys
  | _, _ => true
def allOk (ops : Array Oper) (l : List Oper) : Nat → List Oper → Bool
  | i, x :: xs => rowOk ops i x 0 l && allOk ops l (i + 1) xs
  | _, _ => true
def rowOkM (l : List Oper) (i : Nat) (x : Oper) (r : Rec) : Nat → List Oper → List Rec → Bool
  | j, y :: ys, s :: ss => (idle s || memOk l i x r j y s) && rowOkM l i x r (j + 1) ys ss
  | _, _, _ => true
def allOkM (l : List Oper) (rs : List Rec) : Nat → List Oper → List Rec → Bool
  | i, x :: xs, r :: ss => (idle r || rowOkM l i x r 0 l rs) && allOkM l rs (i + 1) xs ss
  | _, _, _ => true
def edgesOk : Nat → List Oper → Bool
  | i, x :: xs => x.after.toList.all (fun e => !Region.binds .any e || Nat.blt e.on i) && edgesOk (i + 1) xs
  | _, [] => true
def regOk (ops : Array Oper) (rs : List Rec) : Bool := (edgesOk 0 ops.toList && allOk ops ops.toList 0 ops.toList) && allOkM ops.toList rs 0 ops.toList rs

theorem rowOk_spec {ops : Array Oper} {i : Nat} {x : Oper} : ∀ {l : List Oper} {k j : Nat} {y : Oper}, rowOk ops i x k l = true → l[j]? = some y → pairOk ops i x (k + j) y = true
  | [], _, _, _, _, h => by simp at h
  | y0 :: l, k, j, y, h, hy => by
    simp only [rowOk, Bool.and_eq_true] at h
    cases j with
    | zero => simp at hy; subst hy; exact h.1
    | succ j =>
      have := rowOk_spec (k := k + 1) h.2 (j := j) (by simpa using hy)
      rwa [Nat.add_assoc, Nat.add_comm 1 j] at this
theorem allOk_spec {ops : Array Oper} {l0 : List Oper} : ∀ {l : List Oper} {k i : Nat} {x : Oper}, allOk ops l0 k l = true → l[i]? = some x → rowOk ops (k + i) x 0 l0 = true
  | [], _, _, _, _, h => by simp at h
  | y0 :: l, k, j, y, h, hy => by
    simp only [allOk, Bool.and_eq_true] at h
    cases j with
    | zero => simp at hy; subst hy; exact h.1
    | succ j =>
      have := allOk_spec (k := k + 1) h.2 (i := j) (by simpa using hy)
      rwa [Nat.add_assoc, Nat.add_comm 1 j] at this
theorem rowOkM_spec {l1 : List Oper} {i : Nat} {x : Oper} {r : Rec} : ∀ {l : List Oper} {rs : List Rec} {k j : Nat} {y : Oper} {s : Rec}, rowOkM l1 i x r k l rs = true → l[j]? = some y → rs[j]? = some s → (idle s || memOk l1 i x r (k + j) y s) = true
  | [], _, _, _, _, _, _, h, _ => by simp at h
  | _ :: _, [], _, _, _, _, _, _, h => by simp at h
  | y0 :: l, s0 :: rs, k, j, y, s, h, hy, hs => by
    simp only [rowOkM] at h
    rw [Bool.and_eq_true] at h
    cases j with
    | zero => simp at hy hs; subst hy hs; exact h.1
    | succ j =>
      have := rowOkM_spec (k := k + 1) h.2 (j := j) (by simpa using hy) (by simpa using hs)
      rwa [Nat.add_assoc, Nat.add_comm 1 j] at this
theorem allOkM_spec {l0 : List Oper} {rs0 : List Rec} : ∀ {l : List Oper} {rs : List Rec} {k i : Nat} {x : Oper} {r : Rec}, allOkM l0 rs0 k l rs = true → l[i]? = some x → rs[i]? = some r → (idle r || rowOkM l0 (k + i) x r 0 l0 rs0) = true
  | [], _, _, _, _, _, _, h, _ => by simp at h
  | _ :: _, [], _, _, _, _, _, _, h => by simp at h
  | y0 :: l, s0 :: rs, k, j, y, s, h, hy, hs => by
    simp only [allOkM] at h
    rw [Bool.and_eq_true] at h
    cases j with
    | zero => simp at hy hs; subst hy hs; exact h.1
    | succ j =>
      have := allOkM_spec (k := k + 1) h.2 (i := j) (by simpa using hy) (by simpa using hs)
      rwa [Nat.add_assoc, Nat.add_comm 1 j] at this
theorem edgesOk_spec : ∀ {l : List Oper} {k i : Nat} {x : Oper}, edgesOk k l = true → l[i]? = some x → ∀ e ∈ x.after, Region.binds .any e = true → e.on < k + i
  | [], _, _, _, _, h => by simp at h
  | y0 :: l, k, i, x, h, hx => by
    simp only [edgesOk, Bool.and_eq_true] at h
    cases i with
    | zero =>
      simp at hx; subst hx
      intro e he hb
      have := List.all_eq_true.1 h.1 e (by simpa using he)
      simp only [hb, Bool.not_true, Bool.false_or] at this
      exact Nat.le_of_ble_eq_true this
    | succ i =>
      have := edgesOk_spec (k := k + 1) h.2 (i := i) (by simpa using hx)
      rwa [Nat.add_assoc, Nat.add_comm 1 i] at this

def Dep (o : Oper) (j : Nat) : Prop := ∃ e ∈ o.after, Region.binds .any e = true ∧ e.on = j
theorem dep_iff {o : Oper} {j : Nat} (h : dep o j = true) : Dep o j := by
  unfold dep at h
  obtain ⟨e, he, h⟩ := List.any_eq_true.1 h
  simp only [Bool.and_eq_true] at h
  exact ⟨e, by simpa using he, h.1, Nat.eq_of_beq_eq_true h.2⟩
theorem sameB_eq {x y : Option Nat} {b : Nat} (h : x = some b) (h' : y = some b) : sameB x y = true := by subst h h'; simp [sameB, optB, Nat.beq_refl]
theorem hasB_mem {l : List Nat} {t : Nat} (h : t ∈ l) : hasB l t = true := List.any_eq_true.2 ⟨t, h, Nat.beq_refl t⟩
theorem meets_mem {l m : List Nat} {t : Nat} (h : t ∈ l) (h' : t ∈ m) : meets l m = true := List.any_eq_true.2 ⟨t, h, hasB_mem h'⟩
inductive Dep2 (xs : List Ob) : Oper → Nat → Prop
  | one {o : Oper} {j : Nat} : Dep o j → Dep2 xs o j
  | more {o : Oper} {j k : Nat} {z : Ob} : Dep o k → xs[k]? = some z → Dep2 xs z.o j → Dep2 xs o j
theorem depN_iff {xs : List Ob} : ∀ {n : Nat} {o : Oper} {j : Nat}, depN (xs.map Ob.o) n o j = true → Dep2 xs o j
  | 0, o, j, h => .one (dep_iff h)
  | n + 1, o, j, h => by
    simp only [depN] at h
    rw [Bool.or_eq_true] at h
    rcases h with h | h
    · exact .one (dep_iff h)
    · obtain ⟨e, he, h⟩ := List.any_eq_true.1 h
      rw [Bool.and_eq_true, Bool.and_eq_true] at h
      obtain ⟨⟨_, h1⟩, h2⟩ := h
      rw [List.getElem?_map] at h2
      cases hz : xs[e.on]? with
      | none => rw [hz] at h2; cases h2
      | some z => rw [hz] at h2; exact .more ⟨e, by simpa using he, h1, rfl⟩ hz (depN_iff h2)
theorem dep2_iff {xs : List Ob} {o : Oper} {j : Nat} (h : dep2 (xs.map Ob.o) o j = true) : Dep2 xs o j := depN_iff h
def Closed (xs : List Ob) (D : Nat → Prop) : Prop := ∀ (i : Nat) (x : Ob), xs[i]? = some x → D i → ∀ j, Dep x.o j → D j
theorem Dep2.done {xs : List Ob} {D : Nat → Prop} {o : Oper} {j : Nat} (hc : Closed xs D) (hr : ∀ j, Dep o j → D j) (h : Dep2 xs o j) : D j := by
  induction h with
  | one h => exact hr _ h
  | more h1 h2 _ ih => exact ih fun j hj => hc _ _ h2 (hr _ h1) j hj
structure Apart (ops : Array Oper) (xs : List Ob) : Prop where
  edges : ∀ (i : Nat) (x : Ob), xs[i]? = some x → ∀ e ∈ x.o.after, Region.binds .any e = true → e.on < i
  dst : ∀ (i j : Nat) (x y : Ob) (t : Nat), xs[i]? = some x → xs[j]? = some y → x.o.dst = some t → y.o.dst = some t → i = j
  data : ∀ (i j : Nat) (x y : Ob) (t : Nat), xs[i]? = some x → xs[j]? = some y → i ≠ j → y.o.dst = some t → t ∈ x.o.looksAt ops → (j < i ∧ Dep2 xs x.o j) ∨ (i < j ∧ Dep2 xs y.o i)
  mem : ∀ (i j : Nat) (x y : Ob) (G : Nat), xs[i]? = some x → xs[j]? = some y → i ≠ j → G ∈ fams y.out.chg → (G ∈ fams x.out.chg ∨ G ∈ x.out.rds) → (j < i ∧ Dep2 xs x.o j) ∨ (i < j ∧ Dep2 xs y.o i)
theorem apart_of {ops : Array Oper} {xs : List Ob} (h : regOk ops (xs.map Ob.note) = true) (hx : xs.map Ob.o = ops.toList) : Apart ops xs := by
  unfold regOk at h
  rw [Bool.and_eq_true, Bool.and_eq_true] at h
  obtain ⟨⟨h1, h2⟩, h3⟩ := h
  have ho : ∀ (i : Nat) (x : Ob), xs[i]? = some x → ops.toList[i]? = some x.o := fun i x hi => by rw [← hx, List.getElem?_map, hi]; rfl
  have hn : ∀ (i : Nat) (x : Ob), xs[i]? = some x → (xs.map Ob.note)[i]? = some x.note := fun i x hi => by rw [List.getElem?_map, hi]; rfl
  have nb : ∀ {i j : Nat}, i ≠ j → Nat.beq i j = false := fun hne => by rw [← Bool.not_eq_true]; intro hh; exact hne (Nat.eq_of_beq_eq_true hh)
  have two : ∀ {i j : Nat} {o : Oper}, (Nat.blt j i && dep2 ops.toList o j) = true → j < i ∧ Dep2 xs o j := fun h => by
    rw [Bool.and_eq_true] at h; exact ⟨Nat.le_of_ble_eq_true h.1, dep2_iff (by rw [hx]; exact h.2)⟩
  have key' : ∀ (i j : Nat) (x y : Ob), xs[i]? = some x → xs[j]? = some y → i ≠ j → _ := fun i j x y hi hj hne => by
    have := allOk_spec h2 (ho i x hi)
    rw [Nat.zero_add] at this
    have := rowOk_spec this (ho j y hj)
    rw [Nat.zero_add] at this
    unfold pairOk at this
    rw [nb hne, Bool.false_or, Bool.and_eq_true] at this
    exact this
  refine ⟨fun i x hi => ?_, ?_, ?_, ?_⟩
  · have := edgesOk_spec h1 (ho i x hi)
    simpa using this
  · intro i j x y t hi hj e1 e2
    refine Decidable.byContradiction fun hne => ?_
    have := (key' i j x y hi hj hne).1
    rw [sameB_eq e1 e2] at this
    cases this
  · intro i j x y t hi hj hne e1 hl
    have := (key' i j x y hi hj hne).2
    simp only [e1, hasB_mem hl, Bool.not_true, Bool.false_or] at this
    rw [Bool.or_eq_true] at this
    exact this.imp two two
  · intro i j x y G hi hj hne hp hq
    have hix : idle x.note = false := by
      unfold idle Ob.note recOf
      rcases hq with hq | hq
      · cases hc : x.out.chg with
        | nil => rw [hc] at hq; simp [fams] at hq
        | cons a l => rfl
      · cases hc : x.out.rds with
        | nil => rw [hc] at hq; simp at hq
        | cons a l => simp
    have hiy : idle y.note = false := by
      unfold idle Ob.note recOf
      cases hc : y.out.chg with
      | nil => rw [hc] at hp; simp [fams] at hp
      | cons a l => rfl
    have := allOkM_spec h3 (ho i x hi) (hn i x hi)
    rw [Nat.zero_add, hix, Bool.false_or] at this
    have := rowOkM_spec this (ho j y hj) (hn j y hj)
    rw [Nat.zero_add, hiy, Bool.false_or] at this
    unfold memOk at this
    rw [nb hne, Bool.false_or] at this
    have hm : (meets y.note.puts x.note.puts || meets y.note.puts x.note.rds) = true := by
      rcases hq with hq | hq
      · exact Bool.or_eq_true_iff.2 (.inl (meets_mem (t := G) hp hq))
      · exact Bool.or_eq_true_iff.2 (.inr (meets_mem (t := G) hp hq))
    rw [hm, Bool.not_true, Bool.false_or, Bool.or_eq_true] at this
    exact this.imp two two

structure At (xs : List Ob) (F0 : Fs) (D : Nat → Prop) (F : Fs) : Prop where
  e1 : ∀ (j : Nat) (x : Ob) (t : Nat), xs[j]? = some x → D j → x.o.dst = some t → F.e t = some x.out.v
  e2 : ∀ t, (∀ (j : Nat) (x : Ob), xs[j]? = some x → D j → x.o.dst ≠ some t) → F.e t = F0.e t
  h1 : ∀ (j : Nat) (x : Ob) (G : Nat), xs[j]? = some x → D j → G ∈ fams x.out.chg → (∀ (k : Nat) (y : Ob), xs[k]? = some y → D k → j < k → G ∉ fams y.out.chg) → F.h G = look2 x.out.chg G
  h2 : ∀ G, (∀ (j : Nat) (x : Ob), xs[j]? = some x → D j → G ∉ fams x.out.chg) → F.h G = F0.h G
theorem exists_max {P : Nat → Prop} : ∀ {n : Nat}, (∀ j, P j → j < n) → (∃ j, P j) → ∃ j, P j ∧ ∀ k, j < k → ¬ P k
  | 0, h, ⟨j, hj⟩ => absurd (h j hj) (Nat.not_lt_zero j)
  | n + 1, h, he => by
    by_cases hn : P n
    · exact ⟨n, hn, fun k hk hp => by have := h k hp; omega⟩
    · exact exists_max (n := n) (fun j hj => by
        have := h j hj
        have : j ≠ n := fun e => hn (e ▸ hj)
        omega) he
theorem At.same_e {ops : Array Oper} {xs : List Ob} {F0 F F' : Fs} {D D' : Nat → Prop} (h : At xs F0 D F) (h' : At xs F0 D' F') (t : Nat) (hd : ∀ (j : Nat) (x : Ob), xs[j]? = some x → x.o.dst = some t → (D j ↔ D' j)) : F.e t = F'.e t := by
  by_cases he : ∃ (j : Nat) (x : Ob), xs[j]? = some x ∧ D j ∧ x.o.dst = some t
  · obtain ⟨j, x, h1, h2, h3⟩ := he
    rw [h.e1 j x t h1 h2 h3, h'.e1 j x t h1 ((hd j x h1 h3).1 h2) h3]
  · rw [h.e2 t fun j x h1 h2 h3 => he ⟨j, x, h1, h2, h3⟩, h'.e2 t fun j x h1 h2 h3 => he ⟨j, x, h1, (hd j x h1 h3).2 h2, h3⟩]
theorem At.same_h {xs : List Ob} {F0 F F' : Fs} {D D' : Nat → Prop} (h : At xs F0 D F) (h' : At xs F0 D' F') (G : Nat) (hd : ∀ (j : Nat) (x : Ob), xs[j]? = some x → G ∈ fams x.out.chg → (D j ↔ D' j)) : F.h G = F'.h G := by
  by_cases he : ∃ j, ∃ x, xs[j]? = some x ∧ D j ∧ G ∈ fams x.out.chg
  · obtain ⟨j, ⟨x, h1, h2, h3⟩, hmax⟩ := exists_max (P := fun j => ∃ x, xs[j]? = some x ∧ D j ∧ G ∈ fams x.out.chg) (n := xs.length) (fun j ⟨x, h1, _⟩ => (List.getElem?_eq_some_iff.1 h1).1) he
    rw [h.h1 j x G h1 h2 h3 fun k y k1 k2 k3 k4 => hmax k k3 ⟨y, k1, k2, k4⟩, h'.h1 j x G h1 ((hd j x h1 h3).1 h2) h3 fun k y k1 k2 k3 k4 => hmax k k3 ⟨y, k1, (hd k y k1 k4).2 k2, k4⟩]
  · rw [h.h2 G fun j x h1 h2 h3 => he ⟨j, x, h1, h2, h3⟩, h'.h2 G fun j x h1 h2 h3 => he ⟨j, x, h1, (hd j x h1 h3).2 h2, h3⟩]
theorem At.step {ops : Array Oper} {xs : List Ob} (ha : Apart ops xs) {F0 F : Fs} {D D' : Nat → Prop} (h : At xs F0 D F) {i : Nat} {x : Ob} (hi : xs[i]? = some x) (hD : ¬ D i)
    (hc : ∀ (j : Nat) (y : Ob) (G : Nat), xs[j]? = some y → D j → G ∈ fams x.out.chg → G ∈ fams y.out.chg → j < i) (hD' : ∀ j, D' j ↔ D j ∨ j = i) : At xs F0 D' (F.put x.o x.out) := by
  refine ⟨fun j y t hj hDj ht => ?_, fun t ht => ?_, fun j y G hj hDj hG hno => ?_, fun G hG => ?_⟩
  · simp only [Fs.put]
    rcases (hD' j).1 hDj with hDj | rfl
    · have : x.o.dst ≠ some t := fun e => hD (ha.dst i j x y t hi hj e ht ▸ hDj)
      rw [if_neg this]; exact h.e1 j y t hj hDj ht
    · rw [hi] at hj; cases hj; rw [if_pos ht]
  · simp only [Fs.put]
    rw [if_neg (ht i x hi ((hD' i).2 (.inr rfl)))]
    exact h.e2 t fun j y hj hDj => ht j y hj ((hD' j).2 (.inl hDj))
  · simp only [Fs.put]
    rcases (hD' j).1 hDj with hDj | rfl
    · have hx : G ∉ fams x.out.chg := fun hx => hno i x hi ((hD' i).2 (.inr rfl)) (hc j y G hj hDj hx hG) hx
      cases hl : look2 x.out.chg G with
      | some he => exact absurd (List.mem_map.2 ⟨_, look2_mem hl, rfl⟩) hx
      | none => exact h.h1 j y G hj hDj hG fun k z hk hDk hlt => hno k z hk ((hD' k).2 (.inl hDk)) hlt
    · rw [hi] at hj; cases hj
      obtain ⟨he, e⟩ := look2_fams hG
      rw [e]
  · simp only [Fs.put]
    cases hl : look2 x.out.chg G with
    | some he => exact absurd (List.mem_map.2 ⟨_, look2_mem hl, rfl⟩) (hG i x hi ((hD' i).2 (.inr rfl)))
    | none => exact h.h2 G fun j y hj hDj => hG j y hj ((hD' j).2 (.inl hDj))
theorem At.start (xs : List Ob) (F0 : Fs) (D : Nat → Prop) (hD : ∀ j, ¬ D j) : At xs F0 D F0 :=
  ⟨fun j x t _ h => absurd h (hD j), fun _ _ => rfl, fun j x G _ h => absurd h (hD j), fun _ _ => rfl⟩
theorem chain_at {ops : Array Oper} {xs : List Ob} (ha : Apart ops xs) {F0 : Fs} : ∀ {ys : List Ob} {F F' : Fs} {k : Nat}, Chain F ys F' → (∀ j, ys[j]? = xs[k + j]?) → At xs F0 (fun j => j < k) F →
    (∀ (i : Nat) (x : Ob), k ≤ i → xs[i]? = some x → At xs F0 (fun j => j < i) x.F) ∧ At xs F0 (fun j => j < k + ys.length) F'
  | [], F, F', k, hc, hl, h => by
    simp only [Chain] at hc
    subst hc
    refine ⟨fun i x hi hx => ?_, by simpa using h⟩
    have := hl (i - k)
    rw [show k + (i - k) = i by omega, hx] at this
    simp at this
  | y :: ys, F, F', k, ⟨e, hc⟩, hl, h => by
    subst e
    have hy : xs[k]? = some y := by simpa using (hl 0).symm
    have hs : At xs F0 (fun j => j < k + 1) (y.F.put y.o y.out) := At.step ha h hy (Nat.lt_irrefl k) (fun j z G hj hD _ _ => hD) fun j => by omega
    obtain ⟨h1, h2⟩ := chain_at ha hc (fun j => by have := hl (j + 1); simpa [Nat.add_assoc, Nat.add_comm 1 j] using this) hs
    refine ⟨fun i x hi hx => ?_, ?_⟩
    · by_cases e : i = k
      · subst e; rw [hy] at hx; cases hx; exact h
      · exact h1 i x (by omega) hx
    · rw [List.length_cons, Nat.add_comm ys.length 1, ← Nat.add_assoc]; exact h2
theorem looks_of {ops : Array Oper} {o : Oper} {x : Operand} {t : Nat} (hx : x ∈ o.op.operands) (e : x = .tmp t) : t ∈ o.looksAt ops := by
  subst e
  exact List.mem_append_left _ (List.mem_filterMap.2 ⟨.tmp t, by simpa using hx, rfl⟩)
theorem agree {ops : Array Oper} {xs : List Ob} (ha : Apart ops xs) {F0 F : Fs} {D : Nat → Prop} (h : At xs F0 D F) (hc : Closed xs D) {i : Nat} {x : Ob} (hi : xs[i]? = some x) (hD : ¬ D i) (hr : ∀ j, Dep x.o j → D j)
    (hp : At xs F0 (fun j => j < i) x.F) : (∀ t, t ∈ x.o.looksAt ops → F.e t = x.F.e t) ∧ (∀ G, G ∈ fams x.out.chg ∨ G ∈ x.out.rds → F.h G = x.F.h G) := by
  have same : ∀ (j : Nat) (y : Ob), xs[j]? = some y → i ≠ j → (j < i ∧ Dep2 xs x.o j) ∨ (i < j ∧ Dep2 xs y.o i) → (D j ↔ j < i) := fun j y hj hne hd => by
    rcases hd with ⟨h1, h2⟩ | ⟨h1, h2⟩
    · exact ⟨fun _ => h1, fun _ => h2.done hc hr⟩
    · exact ⟨fun k => absurd (h2.done hc fun m => hc j y hj k m) hD, fun k => by omega⟩
  refine ⟨fun t ht => ?_, fun G hG => ?_⟩
  · refine At.same_e (ops := ops) h hp t fun j y hj hd => ?_
    by_cases e : i = j
    · subst e; exact ⟨fun k => absurd k hD, fun k => absurd k (Nat.lt_irrefl i)⟩
    · exact same j y hj e (ha.data i j x y t hi hj e hd ht)
  · refine At.same_h h hp G fun j y hj hput => ?_
    by_cases e : i = j
    · subst e; exact ⟨fun k => absurd k hD, fun k => absurd k (Nat.lt_irrefl i)⟩
    · exact same j y hj e (ha.mem i j x y G hi hj e hput hG)
theorem Good.of_agree {F F' : Fs} {o : Oper} {out : Out} {ops : Array Oper} (he : ∀ t, t ∈ o.looksAt ops → F'.e t = F.e t) (hh : ∀ G, G ∈ fams out.chg ∨ G ∈ out.rds → F'.h G = F.h G) (h : Good M F o out) : Good M F' o out := by
  intro σ Z a w hinv hv ht hn K Q hK
  refine h σ Z a w hinv (fun x hx v hxv => hv x hx v ?_) (fun G hG hb hblk => ht G hG hb (by rw [hh G hG.symm]; exact hblk)) (fun G hG hn' => hn G hG (by rw [hh G (.inl hG)]; exact hn')) K Q hK
  cases x with
  | tmp t => simp only [Fs.ev] at hxv ⊢; rw [he t (looks_of hx rfl)]; exact hxv
  | _ => exact hxv
theorem guardSays_congr {F F' : Fs} {ops : Array Oper} {o : Oper} (he : ∀ t, t ∈ o.looksAt ops → F'.e t = F.e t) : guardSays F' ops o = guardSays F ops o := by
  unfold guardSays
  cases hg : o.guard with
  | none => rfl
  | some jw =>
    obtain ⟨j, want⟩ := jw
    cases hd : (ops[j]?).bind (·.dst) with
    | none => simp only [hd]
    | some d =>
      simp only [hd]
      rw [he d (List.mem_append_right _ (by simp [hg, hd]))]
theorem countP_lt {p q : Nat → Bool} : ∀ {l : List Nat}, (∀ x, p x = true → q x = true) → (∃ x ∈ l, q x = true ∧ p x = false) → l.countP p < l.countP q
  | [], _, ⟨_, h, _⟩ => by cases h
  | y :: l, h, ⟨x, hx, h1, h2⟩ => by
    have mono : l.countP p ≤ l.countP q := List.countP_mono_left fun x _ => h x
    rw [List.countP_cons, List.countP_cons]
    rcases List.mem_cons.1 hx with rfl | hx
    · simp [h1, h2]; omega
    · have := countP_lt (l := l) h ⟨x, hx, h1, h2⟩
      by_cases hp : p y = true
      · rw [if_pos hp, if_pos (h y hp)]; omega
      · rw [if_neg hp]; split <;> omega

theorem any_order {E : Ent} {n : Nat} {ops : Array Oper} {Q : Exit → Act → World → Prop} {xs : List Ob} {F0 F' : Fs} (ha : Apart ops xs) (hx : xs.map Ob.o = ops.toList)
    (hok : ∀ x ∈ xs, ObOk M ops n x) (hpre : ∀ (i : Nat) (x : Ob), xs[i]? = some x → At xs F0 (fun j => j < i) x.F) (hend : At xs F0 (fun j => j < xs.length) F')
    (hQ : ∀ σ' Z' a' w', Rel M E F' n σ' Z' a' w' → Q .normal a' w') : ∀ (fuel : Nat) (listed : Array Bool) (F : Fs) (σ : Num) (Z : Zone) (a : Act) (w : World),
    listed.size = ops.size → At xs F0 (fun j => listed.getD j false = true) F → Closed xs (fun j => listed.getD j false = true) → Rel M E F n σ Z a w →
    (List.range ops.size).countP (fun i => !listed.getD i false) ≤ fuel → wpAny M.P .any ops Q fuel listed a w := by
  have hlen : xs.length = ops.size := by have := congrArg List.length hx; simpa using this
  have hox : ∀ (i : Nat) (o : Oper), ops[i]? = some o → ∃ x, xs[i]? = some x ∧ x.o = o := fun i o ho => by
    have : (xs.map Ob.o)[i]? = some o := by rw [hx]; simpa using ho
    rw [List.getElem?_map] at this
    cases hxi : xs[i]? with
    | none => simp [hxi] at this
    | some x => exact ⟨x, rfl, by simpa [hxi] using this⟩
  have getD' : ∀ (listed : Array Bool) (i : Nat), listed.size = ops.size → i < ops.size → listed.getD i true = listed.getD i false := fun listed i hs hi => by
    simp [hs, hi]
  have hdone : ∀ (listed : Array Bool) (F : Fs) (σ : Num) (Z : Zone) (a : Act) (w : World), listed.size = ops.size → At xs F0 (fun j => listed.getD j false = true) F → Rel M E F n σ Z a w →
      Region.ready .any ops listed = [] → Q .normal a w := by
    intro listed F σ Z a w hs hat hrel hr
    have hall : ∀ i, i < ops.size → listed.getD i false = true := by
      intro i
      induction i using Nat.strongRecOn with
      | _ i ih =>
        intro hi
        refine Decidable.byContradiction fun hno => ?_
        have hmem : i ∈ Region.ready .any ops listed := by
          rw [mem_ready]
          refine ⟨by rw [getD' listed i hs hi]; simpa using hno, ops[i], by simp, fun e he hb => ?_⟩
          obtain ⟨x, hxi, hxo⟩ := hox i ops[i] (by simp)
          have := ha.edges i x hxi e (by rw [hxo]; exact he) hb
          exact ih e.on this (by omega)
        rw [hr] at hmem
        cases hmem
    have hiff : ∀ (j : Nat) (x : Ob), xs[j]? = some x → (listed.getD j false = true ↔ j < xs.length) := fun j x hj => by
      have hj' : j < xs.length := (List.getElem?_eq_some_iff.1 hj).1
      exact ⟨fun _ => hj', fun _ => hall j (by omega)⟩
    have e1 : F.e = F'.e := funext fun t => At.same_e (ops := ops) hat hend t fun j x hj _ => hiff j x hj
    have e2 : F.h = F'.h := funext fun G => At.same_h hat hend G fun j x hj _ => hiff j x hj
    have : F = F' := by cases F; cases F'; simp only at e1 e2; rw [e1, e2]
    subst this
    exact hQ σ Z a w hrel
  intro fuel
  induction fuel with
  | zero =>
    intro listed F σ Z a w hs hat hcl hrel hcnt
    have hr : Region.ready .any ops listed = [] := by
      rw [List.eq_nil_iff_forall_not_mem]
      intro i hi
      obtain ⟨h0, o, ho, _⟩ := mem_ready.1 hi
      have hlt : i < ops.size := (Array.getElem?_eq_some_iff.1 ho).1
      have h0' : (List.range ops.size).countP (fun i => !listed.getD i false) = 0 := by omega
      rw [List.countP_eq_zero] at h0'
      have := h0' i (by simpa using hlt)
      rw [getD' listed i hs hlt] at h0
      rw [h0] at this
      simp at this
    exact ⟨hr, hdone listed F σ Z a w hs hat hrel hr⟩
  | succ fuel ih =>
    intro listed F σ Z a w hs hat hcl hrel hcnt
    refine ⟨hdone listed F σ Z a w hs hat hrel, fun i hi => ?_⟩
    obtain ⟨h0, o, ho, hall⟩ := mem_ready.1 hi
    have hlt : i < ops.size := (Array.getElem?_eq_some_iff.1 ho).1
    rw [getD' listed i hs hlt] at h0
    obtain ⟨x, hxi, rfl⟩ := hox i o ho
    have hD : ¬ (listed.getD i false = true) := by rw [h0]; simp
    have hrd : ∀ j, Dep x.o j → listed.getD j false = true := fun j ⟨e, he, hb, hej⟩ => hej ▸ hall e he hb
    obtain ⟨ag1, ag2⟩ := agree ha hat hcl hxi hD hrd (hpre i x hxi)
    have hxok := hok x (List.mem_of_getElem? hxi)
    have hset : ∀ j, (listed.setIfInBounds i true).getD j false = true ↔ listed.getD j false = true ∨ j = i := fun j => by
      by_cases e : i = j
      · subst e; simp [hs, hlt]
      · rw [getD_set_ne false e]; exact ⟨.inl, fun k => k.resolve_right fun k => e k.symm⟩
    have hstep := At.step ha hat hxi hD (fun j y G hj hDj hG hG' => by
      have hne : i ≠ j := fun e => by subst e; exact hD hDj
      rcases ha.mem i j x y G hxi hj hne hG' (.inl hG) with ⟨h1, _⟩ | ⟨_, h2⟩
      · exact h1
      · exact absurd (h2.done hcl fun m => hcl j y hj hDj m) hD) hset
    refine wpOp_ob hrel ho hxok.dst (by rw [guardSays_congr ag1]; exact hxok.guard) (fun hr => Good.of_agree ag1 ag2 (hxok.does hr)) hxok.skip fun a' w' σ' Z' h' => ?_
    refine ih _ _ σ' Z' a' w' (by simpa using hs) hstep (fun j y hj hDj k hdep => ?_) h' ?_
    · rcases (hset j).1 hDj with hDj | rfl
      · exact (hset k).2 (.inl (hcl j y hj hDj k hdep))
      · rw [hxi] at hj; cases hj; exact (hset k).2 (.inl (hrd k hdep))
    · have := countP_lt (l := List.range ops.size) (p := fun j => !(listed.setIfInBounds i true).getD j false) (q := fun j => !listed.getD j false) (fun j hj => by
        simp only [Bool.not_eq_true'] at hj ⊢
        rw [← Bool.not_eq_true] at hj ⊢
        exact fun k => hj ((hset j).2 (.inl k))) ⟨i, by simpa using hlt, by rw [h0]; rfl, by rw [(hset i).2 (.inr rfl)]; rfl⟩
      omega
end Go.Proofs.YtdjkdmjdcdljmaaGreatX
