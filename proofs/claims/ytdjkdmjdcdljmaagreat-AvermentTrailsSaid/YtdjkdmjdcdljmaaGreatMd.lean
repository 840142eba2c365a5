/- Own work. No condition. -/
import Derived.Test.YtdjkdmjdcdljmaaGreatMc

namespace Go.Proofs.YtdjkdmjdcdljmaaGreatX
open Go.RowKit
set_option linter.unusedVariables false
set_option linter.unusedSimpArgs false
variable {M : Cfg}

theorem RVs_iff {σ : Num} {Z : Zone} {w : World} : ∀ {l : List V} {m : List Value}, RVs M σ Z w l m ↔ All2 (RV M σ Z w) l m
  | [], [] => by simp [RVs, All2]
  | [], _ :: _ => by simp [RVs, All2]
  | v :: l, [] => by simp [RVs, All2]
  | v :: l, u :: m => by
    simp only [RVs, All2, List.cons.injEq]
    constructor
    · rintro ⟨v', m', ⟨rfl, rfl⟩, h1, h2⟩; exact ⟨h1, RVs_iff.1 h2⟩
    · rintro ⟨h1, h2⟩; exact ⟨u, m, ⟨rfl, rfl⟩, h1, RVs_iff.2 h2⟩
theorem RVs.length {σ : Num} {Z : Zone} {w : World} {l : List V} {m : List Value} (h : RVs M σ Z w l m) : l.length = m.length := (RVs_iff.1 h).length
theorem RVs.append {σ : Num} {Z : Zone} {w : World} {l l' : List V} {m m' : List Value} (h : RVs M σ Z w l m) (h' : RVs M σ Z w l' m') : RVs M σ Z w (l ++ l') (m ++ m') := RVs_iff.2 ((RVs_iff.1 h).append (RVs_iff.1 h'))
theorem RVs.take {σ : Num} {Z : Zone} {w : World} {l : List V} {m : List Value} (n : Nat) (h : RVs M σ Z w l m) : RVs M σ Z w (l.take n) (m.take n) := RVs_iff.2 ((RVs_iff.1 h).take n)
theorem RVs.drop {σ : Num} {Z : Zone} {w : World} {l : List V} {m : List Value} (n : Nat) (h : RVs M σ Z w l m) : RVs M σ Z w (l.drop n) (m.drop n) := RVs_iff.2 ((RVs_iff.1 h).drop n)
theorem RVs.get {σ : Num} {Z : Zone} {w : World} {l : List V} {m : List Value} {i : Nat} {v : V} (h : RVs M σ Z w l m) (e : l[i]? = some v) : ∃ v', m[i]? = some v' ∧ RV M σ Z w v v' := (RVs_iff.1 h).get e
theorem RVs.cons {σ : Num} {Z : Zone} {w : World} {v : V} {l : List V} {m : List Value} (h : RVs M σ Z w (v :: l) m) : ∃ v' m', m = v' :: m' ∧ RV M σ Z w v v' ∧ RVs M σ Z w l m' := by
  simpa only [RVs] using h
theorem RVs.one {σ : Num} {Z : Zone} {w : World} {v : V} {v' : Value} : RVs M σ Z w [v] [v'] ↔ RV M σ Z w v v' := by
  rw [RVs_iff]; simp [All2]
theorem RVs.appendInv {σ : Num} {Z : Zone} {w : World} {l l' : List V} {m : List Value} (h : RVs M σ Z w (l ++ l') m) : ∃ m1 m2, m = m1 ++ m2 ∧ RVs M σ Z w l m1 ∧ RVs M σ Z w l' m2 := by
  obtain ⟨m1, m2, e, h1, h2⟩ := (RVs_iff.1 h).appendInv
  exact ⟨m1, m2, e, RVs_iff.2 h1, RVs_iff.2 h2⟩

inductive StLe : Status → Status → Prop
  | same (s : Status) : StLe s s
  | died (s : Slot) : StLe (.alive s) .dead
  | born (s : Status) : StLe .fresh s
theorem StLe.trans {a b c : Status} (h : StLe a b) (k : StLe b c) : StLe a c := by
  cases h with
  | same => exact k
  | died s => cases k; exact .died s
  | born s => exact .born c
structure Le (σ : Num) (Z : Zone) (w : World) (σ' : Num) (Z' : Zone) (w' : World) : Prop where
  st : ∀ F k, StLe (σ F k) (σ' F k)
  zone : ∀ r, Z r → Z' r
  keep : ∀ r, Z r → w'.heap[r]? = w.heap[r]?
theorem Le.refl (σ : Num) (Z : Zone) (w : World) : Le σ Z w σ Z w := ⟨fun _ _ => .same _, fun _ h => h, fun _ _ => rfl⟩
theorem Le.trans {σ σ' σ'' : Num} {Z Z' Z'' : Zone} {w w' w'' : World} (h : Le σ Z w σ' Z' w') (k : Le σ' Z' w' σ'' Z'' w'') : Le σ Z w σ'' Z'' w'' :=
  ⟨fun F i => (h.st F i).trans (k.st F i), fun r hr => k.zone r (h.zone r hr), fun r hr => (k.keep r (h.zone r hr)).trans (h.keep r hr)⟩

theorem ErrR.mono {Z Z' : Zone} {w w' : World} (hz : ∀ r, Z r → Z' r) (hk : ∀ r, Z r → w'.heap[r]? = w.heap[r]?) : ∀ {e : Err} {v : Value}, ErrR M Z w e v → ErrR M Z' w' e v
  | .nil, _, h => h
  | .no _, _, h => h
  | .at p e, v, h => by
    obtain ⟨b, cs, el, fr, u, post, h1, h2, h3, h4, h5⟩ := h
    exact ⟨b, cs, el, fr, u, post, h1, hz b h2, (hk b h2).trans h3, h4, ErrR.mono hz hk h5⟩
theorem DV.mono {Z Z' : Zone} {w w' : World} (hz : ∀ r, Z r → Z' r) (hk : ∀ r, Z r → w'.heap[r]? = w.heap[r]?) : ∀ {t : Ty} {x : t.I} {vs : List Value}, DV M Z w t x vs → DV M Z' w' t x vs
  | .int _, _, _, h => h
  | .bool, _, _, h => h
  | .str, _, _, h => h
  | .err, _, _, ⟨v, h1, h2⟩ => ⟨v, h1, ErrR.mono hz hk h2⟩
  | .own _, _, _, h => h
  | .slice t, xs, vs, h => by
    obtain ⟨a, cap, h1, h0, h2⟩ := h
    refine ⟨a, cap, h1, h0, h2.imp id ?_⟩
    rintro ⟨b, off, cs, el, fr, pre, post, rows, h3, h4, h5, h6, h7, h8⟩
    exact ⟨b, off, cs, el, fr, pre, post, rows, h3, hz b h4, (hk b h4).trans h5, h6, h7, h8.mono fun _ _ _ h => DV.mono hz hk h⟩
  | .ptr t, none, _, h => h
  | .ptr t, some y, vs, h => by
    obtain ⟨b, off, cs, el, fr, pre, row, post, h1, h4, h5, h6, h7, h8⟩ := h
    exact ⟨b, off, cs, el, fr, pre, row, post, h1, hz b h4, (hk b h4).trans h5, h6, h7, DV.mono hz hk h8⟩
  | .pair a b, x, vs, h => by
    obtain ⟨l, m, h1, h2, h3⟩ := h
    exact ⟨l, m, h1, DV.mono hz hk h2, DV.mono hz hk h3⟩

mutual
theorem RV.mono {σ σ' : Num} {Z Z' : Zone} {w w' : World} (h : Le σ Z w σ' Z' w') : ∀ {v : V} {v' : Value}, RV M σ Z w v v' → RV M σ' Z' w' v v'
  | .lf _, _, k => k
  | .err _, _, k => by simp only [RV] at k ⊢; exact ErrR.mono h.zone h.keep k
  | .deep _ _, _, k => by simp only [RV] at k ⊢; exact DV.mono h.zone h.keep k
  | .pin _ _, _, k => by simp only [RV] at k ⊢; exact DV.mono h.zone h.keep k
  | .own b, v', k => by
    simp only [RV] at k ⊢
    have hs := h.st b.1 b.2
    generalize σ b.1 b.2 = s at hs k
    generalize σ' b.1 b.2 = s' at hs
    cases hs with
    | same => exact k
    | died s => exact k.2
    | born s => exact k.elim
  | .sub b lo n, v', k => by
    simp only [RV] at k ⊢
    have hs := h.st b.1 b.2
    generalize σ b.1 b.2 = s at hs k
    generalize σ' b.1 b.2 = s' at hs
    cases hs with
    | same => exact k
    | died s => rcases k with ⟨_, _, _, a, rfl⟩ | ⟨r, cap, off, _, rfl, _⟩ <;> rfl
    | born s => exact k.elim
  | .ptr b i off, v', k => by
    simp only [RV] at k ⊢
    have hs := h.st b.1 b.2
    generalize σ b.1 b.2 = s at hs k
    generalize σ' b.1 b.2 = s' at hs
    cases hs with
    | same => exact k
    | died s => obtain ⟨r, _, rfl⟩ := k; rfl
    | born s => exact k.elim
  | .fn f first captured, v', k => by
    simp only [RV] at k ⊢
    obtain ⟨fs, cs, h1, h2, h3⟩ := k
    exact ⟨fs, cs, h1, RVs.mono h h2, RVs.mono h h3⟩
  | .agg cs, v', k => by
    simp only [RV] at k ⊢
    obtain ⟨cs', h1, h2, h3⟩ := k
    exact ⟨cs', h1, h2, RVs.mono h h3⟩
  | .tup vs, v', k => by
    simp only [RV] at k ⊢
    obtain ⟨cs', h1, h2, h3⟩ := k
    exact ⟨cs', h1, h2, RVs.mono h h3⟩
theorem RVs.mono {σ σ' : Num} {Z Z' : Zone} {w w' : World} (h : Le σ Z w σ' Z' w') : ∀ {l : List V} {m : List Value}, RVs M σ Z w l m → RVs M σ' Z' w' l m
  | [], _, k => k
  | v :: l, m, k => by
    simp only [RVs] at k ⊢
    obtain ⟨v', m', e, h1, h2⟩ := k
    exact ⟨v', m', e, RV.mono h h1, RVs.mono h h2⟩
end

theorem leaf_one {v : Value} (h : leafB v = true) : v.oneCell' = true := by cases v <;> first | rfl | cases h
theorem one_cells {v : Value} (h : v.oneCell' = true) : v.cells = #[v] := by cases v <;> first | rfl | cases h
theorem ErrR.one {Z : Zone} {w : World} {e : Err} {v : Value} (h : ErrR M Z w e v) : v.oneCell' = true := by
  cases e with
  | nil => simp only [ErrR] at h; subst h; rfl
  | no n => simp only [ErrR] at h; subst h; rfl
  | «at» p e => obtain ⟨_, _, _, _, _, _, rfl, _⟩ := h; rfl
theorem RV.one {σ : Num} {Z : Zone} {w : World} {v : V} {v' : Value} (hv : v.one = true) (h : RV M σ Z w v v') : v'.oneCell' = true := by
  cases v with
  | lf v => simp only [RV] at h; rw [h.2]; exact leaf_one h.1
  | err e => simp only [RV] at h; exact h.one
  | deep t xs => simp only [RV, DV] at h; obtain ⟨a, cap, h1, _⟩ := h; simp at h1; subst h1; rfl
  | pin t x =>
    simp only [RV] at h
    cases x with
    | none => simp only [DV] at h; simp at h; subst h; rfl
    | some y => simp only [DV] at h; obtain ⟨_, _, _, _, _, _, _, _, h1, _⟩ := h; simp at h1; subst h1; rfl
  | own b =>
    simp only [RV] at h
    split at h
    · exact h.elim
    · exact h
    · exact h.2
  | sub b lo n =>
    simp only [RV] at h
    split at h
    · exact h.elim
    · exact h
    · rcases h with ⟨_, _, _, a, rfl⟩ | ⟨_, _, _, _, rfl, _⟩ <;> rfl
  | ptr b i off =>
    simp only [RV] at h
    split at h
    · exact h.elim
    · exact h
    · obtain ⟨_, _, rfl⟩ := h; rfl
  | fn f a b => simp only [RV] at h; obtain ⟨_, _, rfl, _⟩ := h; rfl
  | agg cs => cases hv
  | tup cs => cases hv
theorem RVs.ones {σ : Num} {Z : Zone} {w : World} {l : List V} {m : List Value} (hl : l.all V.one = true) (h : RVs M σ Z w l m) : ∀ v ∈ m, v.oneCell' = true := by
  induction l generalizing m with
  | nil => simp only [RVs] at h; subst h; simp
  | cons v l ih =>
    obtain ⟨v', m', rfl, h1, h2⟩ := h.cons
    simp only [List.all_cons, Bool.and_eq_true] at hl
    intro u hu
    rcases List.mem_cons.1 hu with rfl | hu
    · exact h1.one hl.1
    · exact ih hl.2 h2 u hu
theorem RV.cells {σ : Num} {Z : Zone} {w : World} {v : V} {v' : Value} (hv : v.isA = true) (h : RV M σ Z w v v') : RVs M σ Z w v.cells v'.cells.toList := by
  cases v with
  | agg cs =>
    simp only [RV] at h
    obtain ⟨cs', rfl, _, h2⟩ := h
    exact h2
  | tup cs => cases hv
  | _ =>
    have := RV.one rfl h
    rw [one_cells this]
    exact RVs.one.2 h
theorem leaves_spec {σ : Num} {Z : Zone} {w : World} : ∀ {l : List V} {us vs : List Value}, leaves? l = some us → RVs M σ Z w l vs → vs = us
  | [], us, vs, h, k => by simp [leaves?] at h; simp only [RVs] at k; rw [k, h]
  | v :: l, us, vs, h, k => by
    obtain ⟨v', m, rfl, h1, h2⟩ := k.cons
    cases v <;> simp [leaves?, V.leaf?] at h
    case lf u =>
      cases hr : leaves? l with
      | none => simp [hr] at h
      | some ws =>
        simp [hr] at h
        subst h
        simp only [RV] at h1
        rw [h1.2, leaves_spec hr h2]
theorem RV.flat {σ : Num} {Z : Zone} {w : World} {v : V} {u v' : Value} (hv : v.flat? = some u) (h : RV M σ Z w v v') : v' = u := by
  cases v <;> simp [V.flat?] at hv
  case lf x => simp only [RV] at h; rw [h.2, hv]
  case agg cs =>
    cases hr : leaves? cs with
    | none => simp [hr] at hv
    | some us =>
      simp [hr] at hv
      subst hv
      simp only [RV] at h
      obtain ⟨cs', rfl, _, h2⟩ := h
      rw [← leaves_spec hr h2]
theorem RVs.lfs {σ : Num} {Z : Zone} {w : World} : ∀ {l : List Value}, l.all leafB = true → RVs M σ Z w (l.map .lf) l
  | [], _ => by simp [RVs]
  | v :: l, h => by
    simp only [List.all_cons, Bool.and_eq_true] at h
    simp only [List.map_cons, RVs]
    exact ⟨v, l, rfl, by simp only [RV]; exact ⟨h.1, by trivial⟩, RVs.lfs h.2⟩
theorem all_one_lf (l : List Value) : (l.map V.lf).all V.one = true := by
  induction l with
  | nil => rfl
  | cons v l ih => simp only [List.map_cons, List.all_cons, ih, V.one, Bool.and_self]
theorem RV.ofFlat {σ : Num} {Z : Zone} {w : World} {u : Value} {v : V} (h : V.ofFlat u = some v) : RV M σ Z w v u := by
  unfold V.ofFlat at h
  split at h
  · rename_i cs
    cases hl : cs.toList.all leafB with
    | false => rw [hl] at h; simp at h
    | true =>
      rw [hl] at h
      simp at h
      subst h
      simp only [RV]
      have := RVs.lfs (M := M) (σ := σ) (Z := Z) (w := w) hl
      refine ⟨cs, rfl, ?_, ?_⟩
      · have h2 := all_one_lf cs.toList
        simpa using h2
      · simpa using this
  · cases hl : leafB u with
    | false => rw [hl] at h; simp at h
    | true =>
      rw [hl] at h
      simp at h
      subst h
      simp only [RV]
      exact ⟨hl, by trivial⟩

theorem Ty.cells_length (fs : List Nat) : ∀ (t : Ty) (x : t.I), (t.cells fs x).length = t.size
  | .int _, _ | .bool, _ | .str, _ | .err, _ | .own _, _ | .slice _, _ | .ptr _, _ => rfl
  | .pair a b, x => by simp [Ty.cells, Ty.size, Ty.cells_length fs a, Ty.cells_length fs b]
theorem Ty.cells_one (fs : List Nat) : ∀ (t : Ty) (x : t.I), (t.cells fs x).all V.one = true
  | .int _, _ | .bool, _ | .str, _ | .err, _ | .own _, _ | .slice _, _ | .ptr _, _ => rfl
  | .pair a b, x => by simp only [Ty.cells, List.all_append, Ty.cells_one fs a, Ty.cells_one fs b, Bool.and_self]
theorem Ty.size_pos : ∀ t : Ty, 0 < t.size
  | .int _ | .bool | .str | .err | .own _ | .slice _ | .ptr _ => Nat.one_pos
  | .pair a b => Nat.lt_of_lt_of_le (Ty.size_pos a) (Nat.le_add_right _ _)
theorem DV.rvs {σ : Num} {Z : Zone} {w : World} (fs : List Nat) : ∀ {t : Ty} {x : t.I} {vs : List Value}, DV M Z w t x vs → RVs M σ Z w (t.cells fs x) vs
  | .int k, n, vs, h => by simp only [DV] at h; subst h; exact RVs.one.2 (by simp only [RV]; exact ⟨rfl, by trivial⟩)
  | .bool, n, vs, h => by simp only [DV] at h; subst h; exact RVs.one.2 (by simp only [RV]; exact ⟨rfl, by trivial⟩)
  | .str, n, vs, h => by simp only [DV] at h; subst h; exact RVs.one.2 (by simp only [RV]; exact ⟨rfl, by trivial⟩)
  | .err, n, vs, h => by simp only [DV] at h; obtain ⟨v, rfl, h⟩ := h; exact RVs.one.2 (by simp only [RV]; exact h)
  | .own _, _, _, h => h.elim
  | .slice t, xs, vs, h => by
    have h' := h
    simp only [DV] at h'
    obtain ⟨a, cap, rfl, _⟩ := h'
    exact RVs.one.2 (by simp only [RV]; exact h)
  | .ptr t, none, vs, h => by
    have h' := h
    simp only [DV] at h'
    subst h'
    exact RVs.one.2 (by simp only [RV]; exact h)
  | .ptr t, some y, vs, h => by
    have h' := h
    simp only [DV] at h'
    obtain ⟨_, _, _, _, _, _, _, _, rfl, _⟩ := h'
    exact RVs.one.2 (by simp only [RV]; exact h)
  | .pair a b, x, vs, h => by
    simp only [DV] at h
    obtain ⟨l, m, rfl, h1, h2⟩ := h
    exact (DV.rvs fs h1).append (DV.rvs fs h2)
theorem DV.length {Z : Zone} {w : World} {t : Ty} {x : t.I} {vs : List Value} (h : DV M Z w t x vs) : vs.length = t.size := by
  have := (DV.rvs (σ := fun _ _ => .dead) [] h).length
  rw [← this, Ty.cells_length]
theorem RVs.dv {σ : Num} {Z : Zone} {w : World} (fs : List Nat) : ∀ {t : Ty} {x : t.I} {vs : List Value}, t.free = true → RVs M σ Z w (t.cells fs x) vs → DV M Z w t x vs
  | .int k, n, vs, _, h => by
    obtain ⟨v, m, rfl, h1, h2⟩ := h.cons
    simp only [RVs] at h2; subst h2
    simp only [RV] at h1
    simp only [DV]; rw [h1.2]
  | .bool, n, vs, _, h => by
    obtain ⟨v, m, rfl, h1, h2⟩ := h.cons
    simp only [RVs] at h2; subst h2
    simp only [RV] at h1
    simp only [DV]; rw [h1.2]
  | .str, n, vs, _, h => by
    obtain ⟨v, m, rfl, h1, h2⟩ := h.cons
    simp only [RVs] at h2; subst h2
    simp only [RV] at h1
    simp only [DV]; rw [h1.2]
  | .err, n, vs, _, h => by
    obtain ⟨v, m, rfl, h1, h2⟩ := h.cons
    simp only [RVs] at h2; subst h2
    simp only [RV] at h1
    exact ⟨v, rfl, h1⟩
  | .own _, _, _, hf, _ => by cases hf
  | .slice t, xs, vs, _, h => by
    obtain ⟨v, m, rfl, h1, h2⟩ := h.cons
    simp only [RVs] at h2; subst h2
    simp only [RV] at h1
    exact h1
  | .ptr t, x, vs, _, h => by
    obtain ⟨v, m, rfl, h1, h2⟩ := h.cons
    simp only [RVs] at h2; subst h2
    simp only [RV] at h1
    exact h1
  | .pair a b, x, vs, hf, h => by
    simp only [Ty.free, Bool.and_eq_true] at hf
    simp only [Ty.cells] at h
    obtain ⟨l, m, rfl, h1, h2⟩ := h.appendInv
    exact ⟨l, m, rfl, RVs.dv fs hf.1 h1, RVs.dv fs hf.2 h2⟩

theorem Ty.cast_spec {F : Type → Type} {t t' : Ty} {x : F t.I} {y : F t'.I} (h : Ty.cast t t' x = some y) : ∃ e : t = t', y = e ▸ x := by
  unfold Ty.cast at h
  split at h
  · rename_i hb
    exact ⟨Ty.beq_eq hb, by simpa using h.symm⟩
  · cases h

theorem Ty.un_spec {σ : Num} {Z : Zone} {w : World} {fs : List Nat} : ∀ {t : Ty} {cs : List V} {x : t.I} {r : List V} {vs : List Value}, t.un fs cs = some (x, r) → RVs M σ Z w cs vs →
    ∃ l m, vs = l ++ m ∧ RVs M σ Z w (t.cells fs x) l ∧ RVs M σ Z w r m
  | t, [], x, r, vs, h, _ => by
    induction t with
    | pair a b iha ihb =>
      simp only [Ty.un] at h
      split at h
      · rename_i y r' hy; exact absurd hy (by
          intro hy
          have : ∀ (t : Ty), t.un fs [] = none := by
            intro t
            induction t with
            | pair a b ia ib => simp [Ty.un, ia]
            | _ => rfl
          rw [this] at hy; cases hy)
      · cases h
    | _ => simp [Ty.un] at h
  | .int k, v :: cs, x, r, vs, h, hv => by
    obtain ⟨v', m, rfl, h1, h2⟩ := hv.cons
    simp only [Ty.un] at h
    split at h
    · rename_i k' n
      cases hk : IntKind.beq' k' k with
      | false => simp [hk] at h
      | true =>
        simp only [hk, cond_true, Option.some.injEq, Prod.mk.injEq] at h
        obtain ⟨rfl, rfl⟩ := h
        have := IntKind.beq'_eq hk
        subst this
        exact ⟨[v'], m, rfl, RVs.one.2 h1, h2⟩
    · cases h
  | .bool, v :: cs, x, r, vs, h, hv => by
    obtain ⟨v', m, rfl, h1, h2⟩ := hv.cons
    simp only [Ty.un] at h
    split at h
    · simp only [Option.some.injEq, Prod.mk.injEq] at h
      obtain ⟨rfl, rfl⟩ := h
      exact ⟨[v'], m, rfl, RVs.one.2 h1, h2⟩
    · cases h
  | .str, v :: cs, x, r, vs, h, hv => by
    obtain ⟨v', m, rfl, h1, h2⟩ := hv.cons
    simp only [Ty.un] at h
    split at h
    · simp only [Option.some.injEq, Prod.mk.injEq] at h
      obtain ⟨rfl, rfl⟩ := h
      exact ⟨[v'], m, rfl, RVs.one.2 h1, h2⟩
    · cases h
  | .err, v :: cs, x, r, vs, h, hv => by
    obtain ⟨v', m, rfl, h1, h2⟩ := hv.cons
    simp only [Ty.un] at h
    split at h
    · simp only [Option.some.injEq, Prod.mk.injEq] at h
      obtain ⟨rfl, rfl⟩ := h
      exact ⟨[v'], m, rfl, RVs.one.2 h1, h2⟩
    · simp only [Option.some.injEq, Prod.mk.injEq] at h
      obtain ⟨rfl, rfl⟩ := h
      simp only [RV] at h1
      exact ⟨[v'], m, rfl, RVs.one.2 (by simp only [RV, ErrR]; exact h1.2), h2⟩
    · cases h
  | .own j, v :: cs, x, r, vs, h, hv => by
    obtain ⟨v', m, rfl, h1, h2⟩ := hv.cons
    simp only [Ty.un] at h
    split at h
    · rename_i f k
      cases hk : (Nat.beq f (fs.getD j 0)) with
      | false => rw [hk] at h; cases h
      | true =>
        rw [hk] at h
        simp only [cond_true, Option.some.injEq, Prod.mk.injEq] at h
        obtain ⟨rfl, rfl⟩ := h
        have := Nat.eq_of_beq_eq_true hk
        subst this
        exact ⟨[v'], m, rfl, RVs.one.2 h1, h2⟩
    · cases h
  | .slice t, v :: cs, x, r, vs, h, hv => by
    obtain ⟨v', m, rfl, h1, h2⟩ := hv.cons
    simp only [Ty.un] at h
    split at h
    · rename_i t' xs
      split at h
      · rename_i ys hys
        simp only [Option.some.injEq, Prod.mk.injEq] at h
        obtain ⟨rfl, rfl⟩ := h
        obtain ⟨e, hy⟩ := Ty.cast_spec hys
        subst e
        subst hy
        exact ⟨[v'], m, rfl, RVs.one.2 h1, h2⟩
      · cases h
    · split at h
      · simp only [Option.some.injEq, Prod.mk.injEq] at h
        obtain ⟨rfl, rfl⟩ := h
        simp only [RV] at h1
        refine ⟨[v'], m, rfl, RVs.one.2 ?_, h2⟩
        rw [h1.2]
        simp only [RV, DV]
        exact ⟨none, _, rfl, Nat.zero_le _, .inl (by trivial)⟩
      · cases h
    · cases h
  | .ptr t, v :: cs, x, r, vs, h, hv => by
    obtain ⟨v', m, rfl, h1, h2⟩ := hv.cons
    simp only [Ty.un] at h
    split at h
    · rename_i t' xs
      split at h
      · rename_i ys hys
        simp only [Option.some.injEq, Prod.mk.injEq] at h
        obtain ⟨rfl, rfl⟩ := h
        obtain ⟨e, hy⟩ := Ty.cast_spec hys
        subst e
        subst hy
        exact ⟨[v'], m, rfl, RVs.one.2 h1, h2⟩
      · cases h
    · simp only [Option.some.injEq, Prod.mk.injEq] at h
      obtain ⟨rfl, rfl⟩ := h
      simp only [RV] at h1
      refine ⟨[v'], m, rfl, RVs.one.2 ?_, h2⟩
      rw [h1.2]
      simp only [RV, DV]
    · cases h
  | .pair a b, v :: cs, x, r, vs, h, hv => by
    simp only [Ty.un] at h
    split at h
    · rename_i x1 r1 h1
      split at h
      · rename_i y1 r2 h2
        simp only [Option.some.injEq, Prod.mk.injEq] at h
        obtain ⟨rfl, rfl⟩ := h
        obtain ⟨l1, m1, rfl, k1, k2⟩ := Ty.un_spec h1 hv
        obtain ⟨l2, m2, rfl, k3, k4⟩ := Ty.un_spec h2 k2
        exact ⟨l1 ++ l2, m2, by simp, k1.append k3, k4⟩
      · cases h
    · cases h
theorem Ty.un1_spec {σ : Num} {Z : Zone} {w : World} {fs : List Nat} {t : Ty} {cs : List V} {x : t.I} {vs : List Value} (h : t.un1 fs cs = some x) (hv : RVs M σ Z w cs vs) : RVs M σ Z w (t.cells fs x) vs := by
  unfold Ty.un1 at h
  split at h
  · rename_i y hy
    cases h
    obtain ⟨l, m, rfl, h1, h2⟩ := Ty.un_spec hy hv
    simp only [RVs] at h2
    subst h2
    simpa using h1
  · cases h
theorem Ty.unRows_spec {σ : Num} {Z : Zone} {w : World} {fs : List Nat} {t : Ty} : ∀ {n : Nat} {cs : List V} {xs : List t.I} {vs : List Value}, t.unRows fs n cs = some xs → RVs M σ Z w cs vs →
    ∃ rows : List (List Value), vs = rows.flatten ∧ All2 (fun x row => RVs M σ Z w (t.cells fs x) row) xs rows
  | 0, _, _, _, h, _ => by simp [Ty.unRows] at h
  | n + 1, [], xs, vs, h, hv => by
    simp [Ty.unRows] at h
    subst h
    simp only [RVs] at hv
    exact ⟨[], by simp [hv], trivial⟩
  | n + 1, v :: cs, xs, vs, h, hv => by
    simp only [Ty.unRows] at h
    split at h
    · rename_i x r hx
      split at h
      · rename_i ys hys
        cases h
        obtain ⟨l, m, rfl, h1, h2⟩ := Ty.un_spec hx hv
        obtain ⟨rows, rfl, h3⟩ := Ty.unRows_spec hys h2
        exact ⟨l :: rows, by simp, h1, h3⟩
      · cases h
    · cases h
theorem part_leaf {Z : Zone} {w : World} {t : Ty} {x : t.I} {off n m : Nat} {t' : Ty} {p : t'.I} {row : List Value} (h : (bif Nat.beq off 0 && Nat.beq n m then some (⟨t, x⟩ : (t' : Ty) × t'.I) else none) = some ⟨t', p⟩) (hd : DV M Z w t x row) :
    ∃ pre mid post, row = pre ++ (mid ++ post) ∧ pre.length = off ∧ DV M Z w t' p mid := by
  cases h0 : (Nat.beq off 0 && Nat.beq n m) with
  | false => rw [h0] at h; cases h
  | true =>
    rw [h0] at h
    simp only [cond_true, Option.some.injEq, Sigma.mk.injEq] at h
    obtain ⟨rfl, h⟩ := h
    cases h
    simp only [Bool.and_eq_true] at h0
    have := Nat.eq_of_beq_eq_true h0.1
    exact ⟨[], row, [], by simp, by simp [this], hd⟩
theorem Ty.part_spec {Z : Zone} {w : World} : ∀ {t : Ty} {x : t.I} {off n : Nat} {t' : Ty} {p : t'.I} {row : List Value}, t.part x off n = some ⟨t', p⟩ → DV M Z w t x row →
    ∃ pre mid post, row = pre ++ (mid ++ post) ∧ pre.length = off ∧ DV M Z w t' p mid := by
  intro t
  induction t with
  | pair a b iha ihb =>
    intro x off n t' p row h hd
    simp only [Ty.part] at h
    cases h0 : (Nat.beq off 0 && Nat.beq n (a.size + b.size)) with
    | true =>
      simp only [h0, cond_true, Option.some.injEq, Sigma.mk.injEq] at h
      obtain ⟨rfl, h⟩ := h
      cases h
      simp only [Bool.and_eq_true] at h0
      have := Nat.eq_of_beq_eq_true h0.1
      exact ⟨[], row, [], by simp, by simp [this], hd⟩
    | false =>
      simp only [h0, cond_false] at h
      simp only [DV] at hd
      obtain ⟨l, m, rfl, h1, h2⟩ := hd
      cases ha : Nat.ble (off + n) a.size with
      | true =>
        simp only [ha, cond_true] at h
        obtain ⟨pre, mid, post, e, h3, h4⟩ := iha h h1
        exact ⟨pre, mid, post ++ m, by simp [e], h3, h4⟩
      | false =>
        simp only [ha, cond_false] at h
        cases hb : Nat.ble a.size off with
        | false => simp [hb] at h
        | true =>
          simp only [hb, cond_true] at h
          obtain ⟨pre, mid, post, e, h3, h4⟩ := ihb h h2
          have := Nat.le_of_ble_eq_true hb
          exact ⟨l ++ pre, mid, post, by simp [e], by rw [List.length_append, h1.length, h3]; omega, h4⟩
  | _ => intro x off n t' p row h hd; exact part_leaf h hd
end Go.Proofs.YtdjkdmjdcdljmaaGreatX
