/- The second machine: a state brought into a shape is still what it was. No condition beside those stated. -/
import Derived.Test.YtdjkdmjdcdljmaaGreatMp

namespace Go.Proofs.YtdjkdmjdcdljmaaGreatX
open Go.RowKit
set_option linter.unusedVariables false
set_option linter.unusedSimpArgs false
variable {M : Cfg}

def nilSlot (row : Nat) : Slot := { whole := .slice none 0 0, real := none, cap := 0, row := row }
def cutSlot (s : Slot) (n : Nat) : Slot := match s.real with
  | some r => { s with whole := .slice (some ⟨r, 0, none⟩) n s.cap }
  | none => s
def rowH : Option HSh → Nat
  | some (.list _ t _) => t.size
  | _ => 0
def pull (σ : Num) (m : Bind) (hs : List HSh) : Num := fun F k =>
  match getB m F with
  | some (.at G) => σ G k
  | some (.cut G n) => match k with
    | 0 => match σ G 0 with
      | .alive s => .alive (cutSlot s n)
      | .dead => .dead
      | .fresh => .fresh
    | _ + 1 => .dead
  | some .nil => match k with
    | 0 => .alive (nilSlot (rowH hs[F]?))
    | _ + 1 => .dead
  | some .dead => .dead
  | _ => .fresh
def zoneF (σ : Num) (Z : Zone) (fz : List Nat) : Zone := fun r => Z r ∨ ∃ G ∈ fz, σ.real G 0 r
def Ext (W W' : Wit) : Prop := (∀ F p, getB W.map F = some p → getB W'.map F = some p) ∧ ∀ G ∈ W.fz, G ∈ W'.fz
theorem Ext.refl (W : Wit) : Ext W W := ⟨fun _ _ h => h, fun _ h => h⟩
theorem Ext.trans {a b c : Wit} (h : Ext a b) (k : Ext b c) : Ext a c := ⟨fun F p e => k.1 F p (h.1 F p e), fun G e => k.2 G (h.2 G e)⟩
theorem getB_set {m : Bind} {F F' : Nat} {p : Option MP} (hF : F < m.length) : getB (m.set F p) F' = if F = F' then p else getB m F' := by
  unfold getB
  by_cases e : F = F'
  · subst e; simp [hF]
  · rw [List.getElem?_set_ne e, if_neg e]
theorem bindAt_spec {m m' : Bind} {F G : Nat} (h : bindAt m F G = some m') : getB m' F = some (.at G) ∧ ∀ F' p, getB m F' = some p → getB m' F' = some p := by
  unfold bindAt at h
  split at h
  · rename_i hm
    have hF : F < m.length := (List.getElem?_eq_some_iff.1 hm).1
    cases h
    refine ⟨by rw [getB_set hF, if_pos rfl], fun F' p hp => ?_⟩
    rw [getB_set hF]
    by_cases e : F = F'
    · subst e; simp [getB, hm] at hp
    · rw [if_neg e]; exact hp
  · rename_i G' hm
    obtain ⟨hb, h⟩ := bif_some h
    cases h
    have := Nat.eq_of_beq_eq_true hb
    subst this
    exact ⟨by simp [getB, hm], fun _ _ h => h⟩
  · cases h
theorem bindNew_spec {m m' : Bind} {F : Nat} {q : MP} (h : bindNew m F q = some m') : getB m' F = some q ∧ ∀ F' p, getB m F' = some p → getB m' F' = some p := by
  unfold bindNew at h
  split at h
  · rename_i hm
    have hF : F < m.length := (List.getElem?_eq_some_iff.1 hm).1
    cases h
    refine ⟨by rw [getB_set hF, if_pos rfl], fun F' p hp => ?_⟩
    rw [getB_set hF]
    by_cases e : F = F'
    · subst e; simp [getB, hm] at hp
    · rw [if_neg e]; exact hp
  · cases h
def HeapR (M : Cfg) (σ : Num) (Z : Zone) (w : World) (H : List HE) : Prop := ∀ (G : Nat) he, H[G]? = some he → HER M σ Z w G he
/-- Of some of it. -/
def HeapT (M : Cfg) (σ : Num) (Z : Zone) (w : World) (H : List HE) (T : Nat → Prop) : Prop := ∀ (G : Nat) he, T G → H[G]? = some he → HER M σ Z w G he
theorem HeapT.mono {M : Cfg} {σ : Num} {Z : Zone} {w : World} {H : List HE} {T T' : Nat → Prop} (h : HeapT M σ Z w H T) (hT : ∀ G, T' G → T G) : HeapT M σ Z w H T' := fun G he hG => h G he (hT G hG)

theorem unF_spec {t : Ty} {vs r : List V} {fz fz' : List Nat} {x : t.I} (h : unF t vs fz = some (x, r, fz')) : fz' = fz ∧ t.free = true ∧ ∀ (σ : Num) (Z Zl : Zone) (w : World) us, (∀ r, Z r → Zl r) → RVs M σ Z w vs us → ∃ l m, us = l ++ m ∧ DV M Zl w t x l ∧ RVs M σ Z w r m := by
  unfold unF at h
  obtain ⟨hf, h⟩ := bif_some h
  split at h
  · rename_i x' r' hx
    simp only [Option.some.injEq, Prod.mk.injEq] at h
    obtain ⟨rfl, rfl, rfl⟩ := h
    refine ⟨rfl, hf, fun σ Z Zl w us hz hv => ?_⟩
    obtain ⟨l, m, e, h1, h2⟩ := Ty.un_spec hx hv
    exact ⟨l, m, e, DV.mono hz (fun _ _ => rfl) (RVs.dv [] hf h1), h2⟩
  · cases h
def FrzOk (M : Cfg) (H : List HE) (t : Ty) (f : List V → List Nat → Option (t.I × List V × List Nat)) : Prop := ∀ (vs r : List V) (fz fz' : List Nat) (x : t.I), f vs fz = some (x, r, fz') →
  (∀ G ∈ fz, G ∈ fz') ∧ ∀ (σ : Num) (Z Zl : Zone) (w : World) us, HeapT M σ Z w H (· ∈ fz') → (∀ r, Z r → Zl r) → (∀ G ∈ fz', ∀ r, σ.real G 0 r → Zl r) → RVs M σ Z w vs us → ∃ l m, us = l ++ m ∧ DV M Zl w t x l ∧ RVs M σ Z w r m
theorem frzRows_spec {H : List HE} {t : Ty} {f : List V → List Nat → Option (t.I × List V × List Nat)} (hf : FrzOk M H t f) : ∀ {n : Nat} {vs : List V} {fz fz' : List Nat} {xs : List t.I}, frzRows f n vs fz = some (xs, fz') →
    (∀ G ∈ fz, G ∈ fz') ∧ ∀ (σ : Num) (Z Zl : Zone) (w : World) us, HeapT M σ Z w H (· ∈ fz') → (∀ r, Z r → Zl r) → (∀ G ∈ fz', ∀ r, σ.real G 0 r → Zl r) → RVs M σ Z w vs us → ∃ rows : List (List Value), us = rows.flatten ∧ All2 (DV M Zl w t) xs rows
  | 0, _, _, _, _, h => by simp [frzRows] at h
  | n + 1, [], fz, fz', xs, h => by
    simp [frzRows] at h
    obtain ⟨rfl, rfl⟩ := h
    refine ⟨fun _ h => h, fun σ Z Zl w us _ _ _ hv => ?_⟩
    simp only [RVs] at hv
    exact ⟨[], by simp [hv], trivial⟩
  | n + 1, v :: vs, fz, fz', xs, h => by
    simp only [frzRows] at h
    split at h
    · rename_i x r fz1 hx
      split at h
      · rename_i ys fz2 hys
        simp only [Option.some.injEq, Prod.mk.injEq] at h
        obtain ⟨rfl, rfl⟩ := h
        obtain ⟨e1, g1⟩ := hf _ _ _ _ _ hx
        obtain ⟨e2, g2⟩ := frzRows_spec hf hys
        refine ⟨fun G hG => e2 G (e1 G hG), fun σ Z Zl w us hh hz hfz hv => ?_⟩
        obtain ⟨l, m, rfl, h1, h2⟩ := g1 σ Z Zl w us (hh.mono e2) hz (fun G hG => hfz G (e2 G hG)) hv
        obtain ⟨rows, rfl, h3⟩ := g2 σ Z Zl w m hh hz hfz h2
        exact ⟨l :: rows, by simp, h1, h3⟩
      · cases h
    · cases h
theorem DVs.flat {Z : Zone} {w : World} {t : Ty} {xs : List t.I} {rows : List (List Value)} (h : All2 (DV M Z w t) xs rows) : rows.flatten.length = xs.length * t.size := by
  have := flatten_take_length (rows := rows) (n := t.size) (DVs.len h) (Nat.le_refl rows.length)
  rw [List.take_length] at this
  rw [this, ← h.length]
theorem RowsR.dvs {σ : Num} {Z Zl : Zone} {w : World} {t : Ty} {fs : List Nat} {xs : List t.I} {rows : List (List Value)} (hz : ∀ r, Z r → Zl r) (hf : t.free = true) (h : RowsR M σ Z w t fs xs rows) : All2 (DV M Zl w t) xs rows :=
  All2.mono (fun _ _ _ h => DV.mono hz (fun _ _ => rfl) (RVs.dv fs hf h)) h

theorem frzL_spec {H : List HE} : ∀ t : Ty, FrzOk M H t (frzL H t) := by
  intro t
  induction t with
  | int k | bool | str | err | own j =>
    intro vs r fz fz' x h
    obtain ⟨rfl, _, g⟩ := unF_spec (M := M) (show unF _ vs fz = some (x, r, fz') from by cases vs <;> exact h)
    exact ⟨fun _ h => h, fun σ Z Zl w us _ hz _ hv => g σ Z Zl w us hz hv⟩
  | pair a b iha ihb =>
    intro vs r fz fz' x h
    have h : (match frzL H a vs fz with | some (x, r, fz') => (match frzL H b r fz' with | some (y, r', fz'') => some ((x, y), r', fz'') | none => none) | none => none) = some (x, r, fz') := by cases vs <;> exact h
    split at h
    · rename_i x1 r1 fz1 hx
      split at h
      · rename_i y1 r2 fz2 hy
        simp only [Option.some.injEq, Prod.mk.injEq] at h
        obtain ⟨rfl, rfl, rfl⟩ := h
        obtain ⟨e1, g1⟩ := iha _ _ _ _ _ hx
        obtain ⟨e2, g2⟩ := ihb _ _ _ _ _ hy
        refine ⟨fun G hG => e2 G (e1 G hG), fun σ Z Zl w us hh hz hfz hv => ?_⟩
        obtain ⟨l, m, rfl, h1, h2⟩ := g1 σ Z Zl w us (hh.mono e2) hz (fun G hG => hfz G (e2 G hG)) hv
        obtain ⟨l', m', rfl, h3, h4⟩ := g2 σ Z Zl w m hh hz hfz h2
        exact ⟨l ++ l', m', by simp, ⟨l, l', rfl, h1, h3⟩, h4⟩
      · cases h
    · cases h
  | slice t ih =>
    intro vs r fz fz' x h
    cases vs with
    | nil => simp [frzL, unF, Ty.un] at h
    | cons v vs =>
    simp only [frzL] at h
    split at h
    · rename_i b
      obtain ⟨F, kk⟩ := b
      split at h
      · rename_i e t' fs' xs h0 hh
        simp only at h0; subst h0
        split at h
        · rename_i ys hys
          obtain ⟨e1, hy⟩ := Ty.cast_spec hys
          subst e1
          subst hy
          obtain ⟨hfree, h⟩ := bif_some h
          simp only [Option.some.injEq, Prod.mk.injEq] at h
          obtain ⟨rfl, rfl, rfl⟩ := h
          refine ⟨fun G hG => List.mem_cons_of_mem _ hG, fun σ Z Zl w us hheap hz hfz hv => ?_⟩
          obtain ⟨u, m, rfl, h1, h2⟩ := hv.cons
          obtain ⟨hd, rows, g1, s, hs, q2, q3, q4⟩ := hheap F _ (by simp) hh
          have e1 := own_of h1 hs
          refine ⟨[u], m, rfl, ?_, h2⟩
          simp only [DV]
          rcases q4 with ⟨q5, hn, _, a, q⟩ | ⟨rr, rest, q5, q6, q7⟩
          · have : ys = [] := List.length_eq_zero_iff.1 hn
            subst this
            exact ⟨a, 0, by rw [e1, q]; rfl, Nat.le_refl _, .inl rfl⟩
          · obtain ⟨p1, p2, p3⟩ := q7 (Nat.pos_iff_ne_zero.1 t'.size_pos)
            have hcap : ys.length ≤ s.cap := by
              have h5 := q3 (Nat.pos_iff_ne_zero.1 t'.size_pos)
              rw [List.length_append, h5] at p2
              have : ys.length * t'.size ≤ s.cap * t'.size := by omega
              exact Nat.le_of_mul_le_mul_right this t'.size_pos
            exact ⟨_, _, by rw [e1, p3], hcap, .inr ⟨rr, 0, _, e, (0, 0), [], rest, rows, rfl, hfz F (by simp) rr ⟨s, hs, q5⟩, q6, by simp, rfl, g1.dvs hz hfree⟩⟩
        · cases h
      · rename_i e row cs h0 hh
        simp only at h0; subst h0
        obtain ⟨hrow, h⟩ := bif_some h
        have hrow := Nat.eq_of_beq_eq_true hrow
        split at h
        · rename_i ys fz1 hys
          simp only [Option.some.injEq, Prod.mk.injEq] at h
          obtain ⟨rfl, rfl, rfl⟩ := h
          obtain ⟨e2, g2⟩ := frzRows_spec ih hys
          refine ⟨fun G hG => List.mem_cons_of_mem _ (e2 G hG), fun σ Z Zl w us hheap hz hfz hv => ?_⟩
          obtain ⟨u, m, rfl, h1, h2⟩ := hv.cons
          obtain ⟨hd, hone, vs', n, g1, s, hs, q2, q3, q4⟩ := hheap F _ (by simp) hh
          have e1 := own_of h1 hs
          obtain ⟨rows, rfl, h3⟩ := g2 σ Z Zl w vs' (hheap.mono fun G hG => List.mem_cons_of_mem _ hG) hz (fun G hG => hfz G (List.mem_cons_of_mem _ hG)) g1
          have hpos := t.size_pos
          have hn : ys.length = n := by
            have := q3 (by omega)
            rw [DVs.flat h3, hrow] at this
            exact Nat.eq_of_mul_eq_mul_right hpos this
          refine ⟨[u], m, rfl, ?_, h2⟩
          simp only [DV]
          rcases q4 with ⟨q5, hn0, _, a, q⟩ | ⟨rr, rest, q5, q6, q7⟩
          · have : ys = [] := List.length_eq_zero_iff.1 (by omega)
            subst this
            exact ⟨a, 0, by rw [e1, q]; rfl, Nat.le_refl _, .inl rfl⟩
          · obtain ⟨p1, p2, p3⟩ := q7 (by omega)
            have hcap : ys.length ≤ s.cap := by
              rw [List.length_append, DVs.flat h3, hrow] at p2
              have : ys.length * t.size ≤ s.cap * t.size := by omega
              exact Nat.le_of_mul_le_mul_right this hpos
            exact ⟨_, _, by rw [e1, p3, hn], hcap, .inr ⟨rr, 0, _, e, (0, 0), [], rest, rows, rfl, hfz F (by simp) rr ⟨s, hs, q5⟩, q6, by simp, rfl, h3⟩⟩
        · cases h
      · cases h
    · rename_i b lo n
      obtain ⟨F, kk⟩ := b
      split at h
      · rename_i e t' fs' xs h0 hh
        simp only at h0; subst h0
        split at h
        · rename_i ys hys
          obtain ⟨e1, hy⟩ := Ty.cast_spec hys
          subst e1
          subst hy
          obtain ⟨hc, h⟩ := bif_some h
          simp only [Bool.and_eq_true] at hc
          obtain ⟨hfree, hle⟩ := hc
          have hle := Nat.le_of_ble_eq_true hle
          simp only [Option.some.injEq, Prod.mk.injEq] at h
          obtain ⟨rfl, rfl, rfl⟩ := h
          refine ⟨fun G hG => List.mem_cons_of_mem _ hG, fun σ Z Zl w us hheap hz hfz hv => ?_⟩
          obtain ⟨u, m, rfl, h1, h2⟩ := hv.cons
          obtain ⟨hd, rows, g1, s, hs, q2, q3, q4⟩ := hheap F _ (by simp) hh
          have hlen : ((ys.drop lo).take n).length = n := by simp; omega
          refine ⟨[u], m, rfl, ?_, h2⟩
          simp only [DV]
          rcases sub_of h1 hs with ⟨_, rfl, a, q⟩ | ⟨rr, cap, off, q1, q, p3, p4, _⟩
          · exact ⟨a, 0, by rw [q]; simp, by simp, .inl (by simp)⟩
          · refine ⟨_, cap, by rw [q, hlen], by rw [hlen]; exact p3, ?_⟩
            by_cases hn : n = 0
            · left; subst hn; simp
            · right
              have p4 := p4.resolve_left hn
              rcases q4 with ⟨q0, _⟩ | ⟨r2, rest, q5, q6, q7⟩
              · rw [q0] at q1; cases q1
              · rw [q5] at q1
                cases q1
                have hrl := g1.length
                refine ⟨rr, off, _, e, (0, 0), (rows.take lo).flatten, (rows.drop (lo + n)).flatten ++ rest, (rows.drop lo).take n, rfl, hfz F (by simp) rr ⟨s, hs, q5⟩, q6, ?_, ?_, ((RowsR.dvs hz hfree g1).drop lo).take n⟩
                · have e1 : rows = rows.take lo ++ ((rows.drop lo).take n ++ rows.drop (lo + n)) := by
                    rw [← List.drop_drop, List.take_append_drop, List.take_append_drop]
                  conv => lhs; rw [e1]
                  simp
                · rw [flatten_take_length (RowsR.len g1) (by omega), p4, q2]
        · cases h
      · cases h
    · obtain ⟨rfl, _, g⟩ := unF_spec (M := M) h
      exact ⟨fun _ h => h, fun σ Z Zl w us _ hz _ hv => g σ Z Zl w us hz hv⟩
  | ptr t ih =>
    intro vs r fz fz' x h
    cases vs with
    | nil => simp [frzL, unF, Ty.un] at h
    | cons v vs =>
    simp only [frzL] at h
    split at h
    · rename_i b i off
      obtain ⟨F, kk⟩ := b
      split at h
      · rename_i e row cs h0 hh
        simp only at h0; subst h0
        split at h
        · rename_i y fz1 hy
          simp only [Option.some.injEq, Prod.mk.injEq] at h
          obtain ⟨rfl, rfl, rfl⟩ := h
          obtain ⟨e2, g2⟩ := ih _ _ _ _ _ hy
          refine ⟨fun G hG => List.mem_cons_of_mem _ (e2 G hG), fun σ Z Zl w us hheap hz hfz hv => ?_⟩
          obtain ⟨u, m, rfl, h1, h2⟩ := hv.cons
          obtain ⟨hd, hone, vs', n, g1, s, hs, q2, q3, q4⟩ := hheap F _ (by simp) hh
          obtain ⟨rr, k1, k2⟩ := ptr_of h1 hs
          obtain ⟨l, m', e3, h3, h4⟩ := g2 σ Z Zl w vs' (hheap.mono fun G hG => List.mem_cons_of_mem _ hG) hz (fun G hG => hfz G (List.mem_cons_of_mem _ hG)) g1
          simp only [RVs] at h4
          subst h4
          rw [List.append_nil] at e3
          subst e3
          refine ⟨[u], m, rfl, ?_, h2⟩
          rcases q4 with ⟨q5, _⟩ | ⟨r2, rest, q5, q6, q7⟩
          · rw [q5] at k1; cases k1
          · rw [q5] at k1
            cases k1
            simp only [DV]
            exact ⟨rr, 0, _, e, (0, 0), [], vs', rest, by rw [k2]; simp, hfz F (by simp) rr ⟨s, hs, q5⟩, q6, by simp, rfl, h3⟩
        · cases h
      · cases h
    · obtain ⟨rfl, _, g⟩ := unF_spec (M := M) h
      exact ⟨fun _ h => h, fun σ Z Zl w us _ hz _ hv => g σ Z Zl w us hz hv⟩
end Go.Proofs.YtdjkdmjdcdljmaaGreatX
