/- Our small machine: a region in every order that its edges allow ends as it does in the order of the text. No condition beside those stated. -/
import Derived.Test.YtcgjfkaipbhpkaaGreatVxE

namespace Go.Proofs.YtcgjfkaipbhpkaaGreatX
open Go.RowKit
set_option linter.unusedVariables false
set_option linter.unusedSimpArgs false

def dep (o : Oper) (j : Nat) : Bool := o.after.toList.any fun e => Region.binds .any e && Nat.beq e.on j
def optB (x : Option Nat) (b : Nat) : Bool := match x with | some c => Nat.beq c b | none => false
def sameB (x y : Option Nat) : Bool := match x with | some c => optB y c | none => false
def hasB (l : List Nat) (t : Nat) : Bool := l.any fun u => Nat.beq u t

/-- What two operations of a region must heed. -/
def pairOk (ops : Array Oper) (i : Nat) (x : Oper) (j : Nat) (y : Oper) : Bool :=
  Nat.beq i j ||
  (!sameB x.dst y.dst &&
   (match y.dst with | some t => !hasB (x.looksAt ops) t || ((Nat.blt j i && dep x j) || (Nat.blt i j && dep y i)) | none => true))
/-- It waits for that one, or for one that waits for it. -/
def dep2 (l : List Oper) (o : Oper) (j : Nat) : Bool := dep o j || o.after.toList.any fun e => Region.binds .any e && match l[e.on]? with | some z => dep z j | none => false
/-- And what they did. -/
def memOk (l : List Oper) (i : Nat) (x : Oper) (r : Rec) (j : Nat) (y : Oper) (s : Rec) : Bool :=
  Nat.beq i j ||
  (!sameB r.put s.put &&
   !(r.new && s.new && Nat.beq r.nb s.nb) &&
   (!(s.new && (optB r.put s.nb || optB r.rd s.nb)) || (Nat.blt j i && dep2 l x j)) &&
   (!sameB r.rd s.put || (Nat.blt j i && dep x j) || (Nat.blt i j && dep y i)))
def idle (r : Rec) : Bool := !r.new && r.put.isNone && r.rd.isNone

def rowOk (ops : Array Oper) (i : Nat) (x : Oper) : Nat → List Oper → Bool
  | j, y :: ys => pairOk ops i x j y && rowOk ops i x (j + 1) ys
  | _, _ => true
def allOk (ops : Array Oper) (l : List Oper) : Nat → List Oper → Bool
  | i, x :: xs => rowOk ops i x 0 l && allOk ops l (i + 1) xs
  | _, _ => true
def rowOkM (l : List Oper) (i : Nat) (x : Oper) (r : Rec) : Nat → List Oper → List Rec → Bool
  | j, y :: ys, s :: ss => (idle s || memOk l i x r j y s) && rowOkM l i x r (j + 1) ys ss
  | _, _, _ => true
def allOkM (l : List Oper) (rs : List Rec) : Nat → List Oper → List Rec → Bool
  | i, x :: xs, r :: ss => (idle r || rowOkM l i x r 0 l rs) && allOkM l rs (i + 1) xs ss
  | _, _, _ => true
def edgesOk : Nat → List Oper → Bool
  | i, x :: xs => x.after.toList.all (fun e => !Region.binds .any e || Nat.blt e.on i) && edgesOk (i + 1) xs
  | _, [] => true
/-- The region may be gone through in the order of the text: what its text tells. -/
def statOk (ops : Array Oper) : Bool := edgesOk 0 ops.toList && allOk ops ops.toList 0 ops.toList
/-- The region may be gone through in the order of the text. -/
def regOk (ops : Array Oper) (rs : List Rec) : Bool := statOk ops && allOkM ops.toList rs 0 ops.toList rs && rs.all fun r => !r.all

theorem rowOk_spec {ops : Array Oper} {i : Nat} {x : Oper} : ∀ {l : List Oper} {k j : Nat} {y : Oper}, rowOk ops i x k l = true → l[j]? = some y → pairOk ops i x (k + j) y = true
  | [], _, _, _, _, h => by simp at h
  | y0 :: l, k, j, y, h, hy => by
    simp only [rowOk, Bool.and_eq_true] at h
    cases j with
    | zero => simp at hy; subst hy; exact h.1
    | succ j =>
      have := rowOk_spec (k := k + 1) h.2 (j := j) (by simpa using hy)
      rwa [Nat.add_assoc, Nat.add_comm 1 j] at this
theorem allOk_spec {ops : Array Oper} {l0 : List Oper} : ∀ {l : List Oper} {k i : Nat} {x : Oper}, allOk ops l0 k l = true → l[i]? = some x → rowOk ops (k + i) x 0 l0 = true
  | [], _, _, _, _, h => by simp at h
  | y0 :: l, k, j, y, h, hy => by
    simp only [allOk, Bool.and_eq_true] at h
    cases j with
    | zero => simp at hy; subst hy; exact h.1
    | succ j =>
      have := allOk_spec (k := k + 1) h.2 (i := j) (by simpa using hy)
      rwa [Nat.add_assoc, Nat.add_comm 1 j] at this
theorem rowOkM_spec {l1 : List Oper} {i : Nat} {x : Oper} {r : Rec} : ∀ {l : List Oper} {rs : List Rec} {k j : Nat} {y : Oper} {s : Rec}, rowOkM l1 i x r k l rs = true → l[j]? = some y → rs[j]? = some s → (idle s || memOk l1 i x r (k + j) y s) = true
  | [], _, _, _, _, _, _, h, _ => by simp at h
  | _ :: _, [], _, _, _, _, _, _, h => by simp at h
  | y0 :: l, s0 :: rs, k, j, y, s, h, hy, hs => by
    simp only [rowOkM] at h
    rw [Bool.and_eq_true] at h
    cases j with
    | zero => simp at hy hs; subst hy hs; exact h.1
    | succ j =>
      have := rowOkM_spec (k := k + 1) h.2 (j := j) (by simpa using hy) (by simpa using hs)
      rwa [Nat.add_assoc, Nat.add_comm 1 j] at this
theorem allOkM_spec {l0 : List Oper} {rs0 : List Rec} : ∀ {l : List Oper} {rs : List Rec} {k i : Nat} {x : Oper} {r : Rec}, allOkM l0 rs0 k l rs = true → l[i]? = some x → rs[i]? = some r → (idle r || rowOkM l0 (k + i) x r 0 l0 rs0) = true
  | [], _, _, _, _, _, _, h, _ => by simp at h
  | _ :: _, [], _, _, _, _, _, _, h => by simp at h
  | y0 :: l, s0 :: rs, k, j, y, s, h, hy, hs => by
    simp only [allOkM] at h
    rw [Bool.and_eq_true] at h
    cases j with
    | zero => simp at hy hs; subst hy hs; exact h.1
    | succ j =>
      have := allOkM_spec (k := k + 1) h.2 (i := j) (by simpa using hy) (by simpa using hs)
      rwa [Nat.add_assoc, Nat.add_comm 1 j] at this
theorem edgesOk_spec : ∀ {l : List Oper} {k i : Nat} {x : Oper}, edgesOk k l = true → l[i]? = some x → ∀ e ∈ x.after, Region.binds .any e = true → e.on < k + i
  | [], _, _, _, _, h => by simp at h
  | y0 :: l, k, i, x, h, hx => by
    simp only [edgesOk, Bool.and_eq_true] at h
    cases i with
    | zero =>
      simp at hx; subst hx
      intro e he hb
      have := List.all_eq_true.1 h.1 e (by simpa using he)
      simp only [hb, Bool.not_true, Bool.false_or] at this
      exact Nat.le_of_ble_eq_true this
    | succ i =>
      have := edgesOk_spec (k := k + 1) h.2 (i := i) (by simpa using hx)
      rwa [Nat.add_assoc, Nat.add_comm 1 i] at this

def Dep (o : Oper) (j : Nat) : Prop := ∃ e ∈ o.after, Region.binds .any e = true ∧ e.on = j
theorem dep_iff {o : Oper} {j : Nat} (h : dep o j = true) : Dep o j := by
  unfold dep at h
  obtain ⟨e, he, h⟩ := List.any_eq_true.1 h
  simp only [Bool.and_eq_true] at h
  exact ⟨e, by simpa using he, h.1, Nat.eq_of_beq_eq_true h.2⟩
theorem optB_eq {x : Option Nat} {b : Nat} (h : x = some b) : optB x b = true := by subst h; simp [optB, Nat.beq_refl]
theorem sameB_eq {x y : Option Nat} {b : Nat} (h : x = some b) (h' : y = some b) : sameB x y = true := by subst h h'; simp [sameB, optB, Nat.beq_refl]
theorem hasB_mem {l : List Nat} {t : Nat} (h : t ∈ l) : hasB l t = true := List.any_eq_true.2 ⟨t, h, Nat.beq_refl t⟩

/-- It waits for that one, or for one that waits for it. -/
def Dep2 (xs : List Ob) (o : Oper) (j : Nat) : Prop := Dep o j ∨ ∃ k z, Dep o k ∧ xs[k]? = some z ∧ Dep z.o j
theorem dep2_iff {xs : List Ob} {o : Oper} {j : Nat} (h : dep2 (xs.map Ob.o) o j = true) : Dep2 xs o j := by
  unfold dep2 at h
  rw [Bool.or_eq_true] at h
  rcases h with h | h
  · exact .inl (dep_iff h)
  · obtain ⟨e, he, h⟩ := List.any_eq_true.1 h
    rw [Bool.and_eq_true] at h
    obtain ⟨h1, h2⟩ := h
    rw [List.getElem?_map] at h2
    cases hz : xs[e.on]? with
    | none => rw [hz] at h2; cases h2
    | some z => rw [hz] at h2; exact .inr ⟨e.on, z, ⟨e, by simpa using he, h1, rfl⟩, hz, dep_iff h2⟩
theorem Dep2.done {xs : List Ob} {D : Nat → Prop} {o : Oper} {j : Nat} (hc : ∀ (i : Nat) (x : Ob), xs[i]? = some x → D i → ∀ j, Dep x.o j → D j) (hr : ∀ j, Dep o j → D j) (h : Dep2 xs o j) : D j := by
  rcases h with h | ⟨k, z, h1, h2, h3⟩
  · exact hr j h
  · exact hc k z h2 (hr k h1) j h3
/-- The same of what was gone through, in words. -/
structure Apart (ops : Array Oper) (xs : List Ob) : Prop where
  edges : ∀ (i : Nat) (x : Ob), xs[i]? = some x → ∀ e ∈ x.o.after, Region.binds .any e = true → e.on < i
  dst : ∀ (i j : Nat) (x y : Ob) (t : Nat), xs[i]? = some x → xs[j]? = some y → x.o.dst = some t → y.o.dst = some t → i = j
  data : ∀ (i j : Nat) (x y : Ob) (t : Nat), xs[i]? = some x → xs[j]? = some y → i ≠ j → y.o.dst = some t → t ∈ x.o.looksAt ops → (j < i ∧ Dep x.o j) ∨ (i < j ∧ Dep y.o i)
  put : ∀ (i j : Nat) (x y : Ob) (b : Nat) (blk blk' : Blk), xs[i]? = some x → xs[j]? = some y → x.out.eff.pt = some (b, blk) → y.out.eff.pt = some (b, blk') → i = j
  new : ∀ (i j : Nat) (x y : Ob) (blk blk' : Blk), xs[i]? = some x → xs[j]? = some y → x.out.eff.nw = some blk → y.out.eff.nw = some blk' → x.nb = y.nb → i = j
  touch : ∀ (i j : Nat) (x y : Ob) (blk : Blk), xs[i]? = some x → xs[j]? = some y → i ≠ j → y.out.eff.nw = some blk → Touch x.out y.nb → j < i ∧ Dep2 xs x.o j
  read : ∀ (i j : Nat) (x y : Ob) (b : Nat) (blk : Blk), xs[i]? = some x → xs[j]? = some y → i ≠ j → x.out.rd = some b → y.out.eff.pt = some (b, blk) → (j < i ∧ Dep x.o j) ∨ (i < j ∧ Dep y.o i)
  loc : ∀ (i : Nat) (x : Ob), xs[i]? = some x → x.out.eff.all = none

theorem idle_spec {x : Ob} (h : idle x.note = true) : (∀ blk, x.out.eff.nw ≠ some blk) ∧ (∀ b blk, x.out.eff.pt ≠ some (b, blk)) ∧ x.out.rd = none := by
  unfold idle Ob.note recOf at h
  simp only [Bool.and_eq_true, Bool.not_eq_true', Option.isNone_iff_eq_none] at h
  obtain ⟨⟨h1, h2⟩, h3⟩ := h
  refine ⟨fun blk e => ?_, fun b blk e => ?_, h3⟩
  · simp [Eff.isNew, e] at h1
  · simp [Eff.puts, e] at h2

theorem apart_of {ops : Array Oper} {xs : List Ob} (h : regOk ops (xs.map Ob.note) = true) (hx : xs.map Ob.o = ops.toList) : Apart ops xs := by
  unfold regOk statOk at h
  rw [Bool.and_eq_true, Bool.and_eq_true, Bool.and_eq_true] at h
  obtain ⟨⟨⟨h1, h2⟩, h3⟩, h4⟩ := h
  have ho : ∀ (i : Nat) (x : Ob), xs[i]? = some x → ops.toList[i]? = some x.o := fun i x hi => by rw [← hx, List.getElem?_map, hi]; rfl
  have hn : ∀ (i : Nat) (x : Ob), xs[i]? = some x → (xs.map Ob.note)[i]? = some x.note := fun i x hi => by rw [List.getElem?_map, hi]; rfl
  have key : ∀ (i j : Nat) (x y : Ob), xs[i]? = some x → xs[j]? = some y → pairOk ops i x.o j y.o = true := fun i j x y hi hj => by
    have := allOk_spec h2 (ho i x hi)
    rw [Nat.zero_add] at this
    have := rowOk_spec this (ho j y hj)
    rwa [Nat.zero_add] at this
  have nb : ∀ {i j : Nat}, i ≠ j → Nat.beq i j = false := fun hne => by rw [← Bool.not_eq_true]; intro hh; exact hne (Nat.eq_of_beq_eq_true hh)
  have key' : ∀ (i j : Nat) (x y : Ob), xs[i]? = some x → xs[j]? = some y → i ≠ j → _ := fun i j x y hi hj hne => by
    have := key i j x y hi hj
    unfold pairOk at this
    rw [nb hne, Bool.false_or, Bool.and_eq_true] at this
    exact this
  have keyM : ∀ (i j : Nat) (x y : Ob), xs[i]? = some x → xs[j]? = some y → i ≠ j → idle x.note = false → idle y.note = false → _ := fun i j x y hi hj hne hix hiy => by
    have := allOkM_spec h3 (ho i x hi) (hn i x hi)
    rw [Nat.zero_add, hix, Bool.false_or] at this
    have := rowOkM_spec this (ho j y hj) (hn j y hj)
    rw [Nat.zero_add, hiy, Bool.false_or] at this
    unfold memOk at this
    rw [nb hne, Bool.false_or] at this
    simp only [Bool.and_eq_true] at this
    exact this
  have busyN : ∀ {x : Ob} {blk : Blk}, x.out.eff.nw = some blk → idle x.note = false := fun {x blk} e => by
    rw [← Bool.not_eq_true]; intro hh; exact (idle_spec hh).1 blk e
  have busyP : ∀ {x : Ob} {b : Nat} {blk : Blk}, x.out.eff.pt = some (b, blk) → idle x.note = false := fun {x b blk} e => by
    rw [← Bool.not_eq_true]; intro hh; exact (idle_spec hh).2.1 b blk e
  have busyR : ∀ {x : Ob} {b : Nat}, x.out.rd = some b → idle x.note = false := fun {x b} e => by
    rw [← Bool.not_eq_true]; intro hh; rw [(idle_spec hh).2.2] at e; cases e
  have two : ∀ {i j : Nat} {o : Oper}, (Nat.blt j i && dep o j) = true → j < i ∧ Dep o j := fun h => by
    rw [Bool.and_eq_true] at h; exact ⟨Nat.le_of_ble_eq_true h.1, dep_iff h.2⟩
  refine ⟨fun i x hi => ?_, ?_, ?_, ?_, ?_, ?_, ?_, fun i x hi => ?_⟩
  · have := edgesOk_spec h1 (ho i x hi)
    simpa using this
  · intro i j x y t hi hj e1 e2
    refine Decidable.byContradiction fun hne => ?_
    have := (key' i j x y hi hj hne).1
    rw [sameB_eq e1 e2] at this
    cases this
  · intro i j x y t hi hj hne e1 hl
    have := (key' i j x y hi hj hne).2
    simp only [e1, hasB_mem hl, Bool.not_true, Bool.false_or] at this
    rw [Bool.or_eq_true] at this
    exact this.imp two two
  · intro i j x y b blk blk' hi hj e1 e2
    refine Decidable.byContradiction fun hne => ?_
    have := (keyM i j x y hi hj hne (busyP e1) (busyP e2)).1.1.1
    rw [sameB_eq (b := b) (by simp [Ob.note, recOf, e1, Eff.puts]) (by simp [Ob.note, recOf, e2, Eff.puts])] at this
    cases this
  · intro i j x y blk blk' hi hj e1 e2 en
    refine Decidable.byContradiction fun hne => ?_
    have := (keyM i j x y hi hj hne (busyN e1) (busyN e2)).1.1.2
    have en' : x.note.nb = y.note.nb := en
    rw [en'] at this
    simp [Ob.note, recOf, e1, e2, Nat.beq_refl, Eff.isNew] at this
  · intro i j x y blk hi hj hne e1 ht
    have := (keyM i j x y hi hj hne (ht.elim busyR fun ⟨_, e⟩ => busyP e) (busyN e1)).1.2
    have hb : (optB x.note.put y.note.nb || optB x.note.rd y.note.nb) = true := by
      rcases ht with ht | ⟨blk', ht⟩
      · rw [show optB x.note.rd y.note.nb = true from optB_eq ht, Bool.or_true]
      · rw [show optB x.note.put y.note.nb = true from optB_eq (show Eff.puts x.out.eff = some y.nb by simp [Eff.puts, ht]), Bool.true_or]
    rw [hb] at this
    have e1' : y.note.new = true := by simp [Ob.note, recOf, Eff.isNew, e1]
    rw [e1'] at this
    simp only [Bool.and_self, Bool.not_true, Bool.false_or] at this
    rw [Bool.and_eq_true] at this
    exact ⟨Nat.le_of_ble_eq_true this.1, dep2_iff (by rw [hx]; exact this.2)⟩
  · intro i j x y b blk hi hj hne e1 e2
    have := (keyM i j x y hi hj hne (busyR e1) (busyP e2)).2
    rw [sameB_eq (b := b) (x := x.note.rd) e1 (by simp [Ob.note, recOf, e2, Eff.puts])] at this
    simp only [Bool.not_true, Bool.false_or] at this
    rw [Bool.or_eq_true] at this
    exact this.imp two two
  · have := List.all_eq_true.1 h4 x.note (List.mem_map.2 ⟨x, List.mem_of_getElem? hi, rfl⟩)
    simpa [Ob.note, recOf] using this
end Go.Proofs.YtcgjfkaipbhpkaaGreatX
