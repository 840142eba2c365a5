/- Own work. No condition. -/
import Derived.Test.YtdjkdmjdcdljmaaGreatMj

namespace Go.Proofs.YtdjkdmjdcdljmaaGreatX
open Go.RowKit
set_option linter.unusedVariables false
set_option linter.unusedSimpArgs false
variable {M : Cfg} {α : Type}

def Num.kill (σ : Num) (ks : List Nat) : Num := fun G k => if G ∈ ks then .dead else σ G k
theorem moves_grow {σ : Num} {Z : Zone} {w w' : World} {F : Nat} {he : HE} {s : Slot} {ks : List Nat} (hi : Inv σ Z w) (hk : ∀ G ∈ ks, ∀ k, σ G k ≠ .fresh) (hf : ∀ k, σ F k = .fresh) (h1 : w'.os = w.os) (h2 : w'.tape = w.tape) (h3 : w'.output = w.output)
    (hsz : w.heap.size ≤ w'.heap.size) (hblk : ∀ r, r < w.heap.size → ¬ ownT σ ks r → w'.heap[r]? = w.heap[r]?) (hs : ∀ r, s.real = some r → r < w'.heap.size ∧ (ownT σ ks r ∨ w.heap.size ≤ r))
    (hr : Le σ Z w ((σ.kill ks).upd F (one s)) Z w' → HER M ((σ.kill ks).upd F (one s)) Z w' F he) : Moves M σ Z w ((σ.kill ks).upd F (one s)) Z w' (ks.map (fun G => (G, HE.dead)) ++ [(F, he)]) := by
  have hFk : F ∉ ks := fun h => hk F h 0 (hf 0)
  have hreal : ∀ G k r, ((σ.kill ks).upd F (one s)).real G k r → (G = F ∧ k = 0 ∧ s.real = some r) ∨ (G ≠ F ∧ G ∉ ks ∧ σ.real G k r) := by
    intro G k r ⟨s', e1, e2⟩
    by_cases e : G = F
    · subst e
      rw [Num.upd_same] at e1
      cases k with
      | zero => simp only [one, Status.alive.injEq] at e1; subst e1; exact .inl ⟨rfl, rfl, e2⟩
      | succ k => cases e1
    · rw [Num.upd_ne e] at e1
      unfold Num.kill at e1
      split at e1
      · cases e1
      · rename_i hG; exact .inr ⟨e, hG, s', e1, e2⟩
  have hfam : fams (ks.map (fun G => (G, HE.dead)) ++ [(F, he)]) = ks ++ [F] := by simp [fams, Function.comp_def]
  have hown : ∀ r, ownT σ (ks ++ [F]) r ↔ ownT σ ks r := by
    intro r
    constructor
    · rintro ⟨G, hG, k, hq⟩
      rcases List.mem_append.1 hG with hG | hG
      · exact ⟨G, hG, k, hq⟩
      · simp at hG; subst hG
        obtain ⟨s', e, _⟩ := hq
        rw [hf k] at e; cases e
    · rintro ⟨G, hG, k, hq⟩; exact ⟨G, by simp [hG], k, hq⟩
  have hst : ∀ G k, StLe (σ G k) (((σ.kill ks).upd F (one s)) G k) := by
    intro G k
    by_cases e : G = F
    · subst e; rw [hf]; exact .born _
    · rw [Num.upd_ne e]
      unfold Num.kill
      split
      · rename_i hG
        have := hk G hG k
        cases h : σ G k with
        | fresh => exact absurd h this
        | dead => exact .same _
        | alive s => exact .died s
      · exact .same _
  have hle : Le σ Z w ((σ.kill ks).upd F (one s)) Z w' := ⟨hst, fun _ h => h, fun r hz => hblk r (hi.zlt r hz) fun ho => hi.off r ho.own hz⟩
  refine ⟨h1, h2, h3, hsz, hst, fun G hG k => ?_, fun _ h => h, fun _ h => .inl h, fun r hr hn => hblk r hr ?_, fun G k r hG hr' => ?_, ⟨fun G k G' k' r a b => ?_, fun r ⟨G, k, hr'⟩ => ?_, fun r hz => by have := hi.zlt r hz; omega, fun r ⟨G, k, hr'⟩ hz => ?_⟩, fun G he' hG => ?_⟩
  · rw [hfam] at hG
    simp at hG
    rw [Num.upd_ne hG.2]
    exact if_neg hG.1
  · rw [hfam] at hn; rw [hown] at hn; exact hn
  · rw [hfam, hown]
    rcases hreal G k r hr' with ⟨_, _, e⟩ | ⟨e1, e2, _⟩
    · exact (hs r e).2
    · rw [hfam] at hG; simp at hG; rcases hG with hG | hG
      · exact absurd hG e2
      · exact absurd hG e1
  · have cross : ∀ G k r, s.real = some r → G ∉ ks → σ.real G k r → False := by
      intro G k r e hG a
      rcases (hs r e).2 with ⟨G', hG', k', b⟩ | h
      · obtain ⟨rfl, _⟩ := hi.inj _ _ _ _ r a b; exact hG hG'
      · have := hi.lt r ⟨_, _, a⟩; omega
    rcases hreal G k r a with ⟨rfl, rfl, e⟩ | ⟨e, e2, a'⟩ <;> rcases hreal G' k' r b with ⟨rfl, rfl, e'⟩ | ⟨e', e2', b'⟩
    · exact ⟨rfl, rfl⟩
    · exact (cross _ _ r e e2' b').elim
    · exact (cross _ _ r e' e2 a').elim
    · exact hi.inj _ _ _ _ r a' b'
  · rcases hreal G k r hr' with ⟨_, _, e⟩ | ⟨_, _, a⟩
    · exact (hs r e).1
    · have := hi.lt r ⟨_, _, a⟩; omega
  · rcases hreal G k r hr' with ⟨_, _, e⟩ | ⟨_, _, a⟩
    · rcases (hs r e).2 with h | h
      · exact hi.off r h.own hz
      · have := hi.zlt r hz; omega
    · exact hi.off r ⟨_, _, a⟩ hz
  · rcases List.mem_append.1 hG with hG | hG
    · obtain ⟨G', hG', e⟩ := List.mem_map.1 hG
      cases e
      intro k
      rw [Num.upd_ne (fun e => hFk (by rw [← e]; exact hG'))]
      exact if_pos hG'
    · simp at hG; obtain ⟨rfl, rfl⟩ := hG; exact hr hle

theorem Ty.cells_free (fs : List Nat) : ∀ (t : Ty) (x : t.I), t.free = true → t.cells fs x = t.cells [] x
  | .int _, _, _ | .bool, _, _ | .str, _, _ | .err, _, _ | .slice _, _, _ | .ptr _, _, _ => rfl
  | .own _, _, h => by cases h
  | .pair a b, x, h => by
    simp only [Ty.free, Bool.and_eq_true] at h
    simp only [Ty.cells, Ty.cells_free fs a x.1 h.1, Ty.cells_free fs b x.2 h.2]
theorem RowsR.fs_free {σ : Num} {Z : Zone} {w : World} {t : Ty} {fs fs' : List Nat} {xs : List t.I} {rows : List (List Value)} (h : RowsR M σ Z w t fs xs rows) (hf : t.free = true) : RowsR M σ Z w t fs' xs rows :=
  All2.mono (fun x row _ hr => by rw [Ty.cells_free fs' t x hf, ← Ty.cells_free fs t x hf]; exact hr) h
def SrcR (M : Cfg) (σ : Num) (Z : Zone) (w : World) (t : Ty) (fs : List Nat) (ys : List t.I) (v' : Value) : Prop :=
  ∃ a cap rows, v' = .slice a ys.length cap ∧ RowsR M σ Z w t fs ys rows ∧ (ys = [] ∨ ∃ ad, a = some ad ∧ ∀ (j : Nat) u, rows.flatten[j]? = some u → w.cell? (ad.add j) = some u)
theorem cell_at {w : World} {b off : Nat} {pre mid post : List Value} {e : TypeId} {fr : Nat × Nat} (hg : w.heap[b]? = some (.cells (pre ++ (mid ++ post)).toArray e fr)) (ho : pre.length = off) : ∀ (j : Nat) u, mid[j]? = some u → w.cell? ((⟨b, off, none⟩ : Addr).add j) = some u := by
  intro j u hj
  rw [add_off]
  have hlt := (List.getElem?_eq_some_iff.1 hj).1
  simp only [World.cell?, hg]
  simp only [Option.isSome_none, Bool.false_eq_true, if_false]
  rw [List.getElem?_toArray, List.getElem?_append_right (by omega), ← ho, Nat.add_sub_cancel_left, List.getElem?_append_left hlt]
  exact hj
theorem rowsOf_spec {ty : Ty} {fs : List Nat} {row : Nat} {H : List HE} {x : V} {k : List ty.I → Option Nat → Option α} {r : α} (h : rowsOf ty fs row H x k = some r) : ∃ ys src, k ys src = some r ∧ (∀ b, src = some b → ∃ he, H[b]? = some he) ∧
    ∀ (σ : Num) (Z : Zone) (w : World) (v' : Value), (∀ b, src = some b → ∀ he, H[b]? = some he → HER M σ Z w b he) → RV M σ Z w x v' → (ty.size = row → SrcR M σ Z w ty fs ys v') := by
  unfold rowsOf at h
  split at h
  · split at h
    · refine ⟨_, _, h, (fun _ e => by cases e), fun σ Z w v' _ hv _ => ?_⟩
      exact ⟨none, _, [], lf_eval hv, trivial, .inl rfl⟩
    · cases h
  · rename_i t xs
    split at h
    · rename_i ys hys
      obtain ⟨e, hy⟩ := Ty.cast_spec hys
      subst e
      subst hy
      refine ⟨_, _, h, (fun _ e => by cases e), fun σ Z w v' _ hv _ => ?_⟩
      obtain ⟨a, cap, h1, h2, h3⟩ := deep_of hv
      rcases h3 with rfl | ⟨b, off, cs, el, fr, pre, post, rows, rfl, k2, k3, k4, k5, k6⟩
      · exact ⟨a, cap, [], h1, trivial, .inl rfl⟩
      · have hcs : cs = (pre ++ (rows.flatten ++ post)).toArray := by rw [← k4]
        rw [hcs] at k3
        exact ⟨_, cap, rows, h1, All2.mono (fun _ _ _ h => DV.rvs fs h) k6, .inr ⟨_, rfl, cell_at k3 k5⟩⟩
    · cases h
  · rename_i b
    obtain ⟨F, kk⟩ := b
    split at h
    · rename_i e t fs' xs hh h0
      simp only at h0; subst h0
      split at h
      · rename_i ys hys
        obtain ⟨e, hy⟩ := Ty.cast_spec hys
        subst e
        subst hy
        obtain ⟨hfree, h⟩ := bif_some h
        refine ⟨_, _, h, (fun b e => by cases e; exact ⟨_, hh⟩), fun σ Z w v' ht hv hsz => ?_⟩
        obtain ⟨hd, rows, h1, h2⟩ := ht F rfl _ hh
        obtain ⟨s, hs, q2, _, q4⟩ := h2
        have e1 := own_of hv hs
        rcases q4 with ⟨_, hn, _, a, q⟩ | ⟨rr, rest, q5, q6, q7⟩
        · have : ys = [] := List.length_eq_zero_iff.1 hn
          subst this
          exact ⟨a, 0, [], e1.trans q, trivial, .inl rfl⟩
        · have q8 := (q7 (Nat.pos_iff_ne_zero.1 t.size_pos)).2.2
          exact ⟨_, _, rows, e1.trans q8, h1.fs_free hfree, .inr ⟨_, rfl, cell_at (pre := []) (mid := rows.flatten) (post := rest) (by simpa using q6) rfl⟩⟩
      · cases h
    · rename_i e r' cs hh h0
      simp only at h0; subst h0
      obtain ⟨hrow, h'⟩ := bif_some h
      clear h
      have hrow := Nat.eq_of_beq_eq_true hrow
      subst hrow
      split at h'
      · rename_i ys hys
        refine ⟨_, _, h', (fun b e => by cases e; exact ⟨_, hh⟩), fun σ Z w v' ht hv hsz => ?_⟩
        obtain ⟨hd, hone, vs, n, h1, h2⟩ := ht F rfl _ hh
        obtain ⟨rows, rfl, h3⟩ := Ty.unRows_spec hys h1
        obtain ⟨s, hs, q2, q3, q4⟩ := h2
        have e1 := own_of hv hs
        have hpos := ty.size_pos
        have hfl : rows.flatten.length = ys.length * ty.size := by
          have := flatten_take_length (rows := rows) (n := ty.size) (RowsR.len h3) (Nat.le_refl rows.length)
          rw [List.take_length] at this
          rw [this, h3.length]
        have hn : ys.length = n := by
          have := q3 (by omega)
          rw [hfl, hsz] at this
          exact Nat.eq_of_mul_eq_mul_right (by omega) this
        rcases q4 with ⟨_, hn0, _, a, q⟩ | ⟨rr, rest, q5, q6, q7⟩
        · have : ys = [] := List.length_eq_zero_iff.1 (by omega)
          subst this
          exact ⟨a, 0, [], e1.trans q, trivial, .inl rfl⟩
        · have q8 := (q7 (by omega)).2.2
          exact ⟨some ⟨rr, 0, none⟩, s.cap, rows, by rw [e1, q8, hn], h3, .inr ⟨_, rfl, cell_at (pre := []) (mid := rows.flatten) (post := rest) (by simpa using q6) rfl⟩⟩
      · cases h'
    · rename_i e t xss hh
      split at h
      · rename_i xs hxs
        split at h
        · rename_i ys hys
          obtain ⟨e1, hy⟩ := Ty.cast_spec hys
          subst e1
          subst hy
          obtain ⟨hfree, h⟩ := bif_some h
          refine ⟨_, _, h, (fun b e => by cases e; exact ⟨_, hh⟩), fun σ Z w v' ht hv hsz => ?_⟩
          obtain ⟨hm, _⟩ := ht F rfl _ hh
          obtain ⟨rows, h1, h2⟩ := hm kk ys hxs
          obtain ⟨s, hs, q2, _, q4⟩ := h2
          have e1 := own_of hv hs
          rcases q4 with ⟨_, hn, _, a, q⟩ | ⟨rr, rest, q5, q6, q7⟩
          · have : ys = [] := List.length_eq_zero_iff.1 hn
            subst this
            exact ⟨a, 0, [], e1.trans q, trivial, .inl rfl⟩
          · have q8 := (q7 (Nat.pos_iff_ne_zero.1 t.size_pos)).2.2
            exact ⟨_, _, rows, e1.trans q8, h1.fs_free hfree, .inr ⟨_, rfl, cell_at (pre := []) (mid := rows.flatten) (post := rest) (by simpa using q6) rfl⟩⟩
        · cases h
      · cases h
    · cases h
  · rename_i b lo n
    obtain ⟨F, kk⟩ := b
    split at h
    · rename_i e t fs' xs h0 hh
      simp only at h0; subst h0
      split at h
      · rename_i ys hys
        obtain ⟨e, hy⟩ := Ty.cast_spec hys
        subst e
        subst hy
        obtain ⟨hc, h⟩ := bif_some h
        simp only [Bool.and_eq_true] at hc
        obtain ⟨hfree, hle⟩ := hc
        have hle := Nat.le_of_ble_eq_true hle
        refine ⟨_, _, h, (fun b e => by cases e; exact ⟨_, hh⟩), fun σ Z w v' ht hv hsz => ?_⟩
        obtain ⟨hd, rows, h1, h2⟩ := ht F rfl _ hh
        obtain ⟨s, hs, q2, _, q4⟩ := h2
        have hlen : ((ys.drop lo).take n).length = n := by simp; omega
        rcases sub_of hv hs with ⟨_, rfl, a, q⟩ | ⟨rr, cap, off, q1, q, _, p4, _⟩
        · have : (ys.drop lo).take 0 = [] := by simp
          rw [this]
          exact ⟨a, 0, [], q, trivial, .inl rfl⟩
        · refine ⟨_, cap, (rows.drop lo).take n, by rw [hlen]; exact q, (h1.drop lo).take n |> fun h => (show RowsR M σ Z w t fs' _ _ from h).fs_free hfree, ?_⟩
          by_cases hn : n = 0
          · left; subst hn; simp
          · right
            have p4 := p4.resolve_left hn
            rcases q4 with ⟨q0, hn0, _⟩ | ⟨r2, rest, q5, q6, q7⟩
            · rw [q0] at q1; cases q1
            · rw [q5] at q1
              cases q1
              have hrl := h1.length
              refine ⟨_, rfl, cell_at (pre := (rows.take lo).flatten) (mid := ((rows.drop lo).take n).flatten) (post := (rows.drop (lo + n)).flatten ++ rest) (fr := (0, 0)) (e := e) ?_ ?_⟩
              · rw [q6]
                have e1 : rows = rows.take lo ++ ((rows.drop lo).take n ++ rows.drop (lo + n)) := by
                  rw [← List.drop_drop, List.take_append_drop, List.take_append_drop]
                conv => lhs; rw [e1]
                simp
              · rw [flatten_take_length (RowsR.len h1) (by omega), p4, q2]
      · cases h
    · cases h
  · cases h

def BaseR (M : Cfg) (σ : Num) (Z : Zone) (w : World) (s : Slot) (e : TypeId) (t : Ty) (fs : List Nat) (xs : List t.I) (v' : Value) : Prop :=
  (s.real = none ∧ xs = [] ∧ ∃ a, v' = .slice a 0 0) ∨
    ∃ r rows rest cap, s.real = some r ∧ v' = .slice (some ⟨r, 0, none⟩) xs.length cap ∧ w.heap[r]? = some (.cells (rows.flatten ++ rest).toArray e (0, 0)) ∧ cap ≤ maxLen ∧ (rows.flatten ++ rest).length = cap * t.size ∧ RowsR M σ Z w t fs xs rows
theorem baseOf_spec {H : List HE} {e : TypeId} {ty : Ty} {row : Nat} {x : V} {k : (t : Ty) → List Nat → List t.I → Option Nat → Option α} {r : α} (h : baseOf H e ty row x k = some r) : ∃ t fs xs old, k t fs xs old = some r ∧ t.size = row ∧
    ((old = none ∧ xs = [] ∧ x = .lf (.slice none 0 0)) ∨ ∃ b he, old = some b ∧ H[b]? = some he ∧ ∀ (σ : Num) (Z : Zone) (w : World) (v' : Value), HER M σ Z w b he → RV M σ Z w x v' →
      (∀ k, σ b k ≠ .fresh) ∧ (∃ s, σ b 0 = .alive s ∧ BaseR M σ Z w s e t fs xs v') ∧ ∀ k r, σ.real b k r → k = 0) := by
  unfold baseOf at h
  split at h
  · rename_i b
    obtain ⟨F, kk⟩ := b
    split at h
    · rename_i e0 t fs xs h0 hh
      simp only at h0; subst h0
      obtain ⟨hc, h'⟩ := bif_some h
      clear h
      simp only [Bool.and_eq_true] at hc
      have c1 := Nat.eq_of_beq_eq_true hc.1
      have c2 := Nat.eq_of_beq_eq_true hc.2
      subst c1
      refine ⟨t, fs, xs, some F, h', c2, .inr ⟨F, _, rfl, hh, fun σ Z w v' hr hv => ?_⟩⟩
      obtain ⟨hd, rows, h1, s, hs, q2, _, q4⟩ := hr
      refine ⟨fun k => ?_, ⟨s, hs, ?_⟩, fun k r ⟨s', g1, _⟩ => ?_⟩
      · cases k with
        | zero => rw [hs]; simp
        | succ k => rw [hd]; simp
      · have e1 := own_of hv hs
        rcases q4 with ⟨q5, hn, _, a, q⟩ | ⟨rr, rest, q5, q6, q7⟩
        · exact .inl ⟨q5, List.length_eq_zero_iff.1 hn, a, e1.trans q⟩
        · obtain ⟨p1, p2, p3⟩ := q7 (Nat.pos_iff_ne_zero.1 t.size_pos)
          exact .inr ⟨rr, rows, rest, s.cap, q5, e1.trans p3, q6, p1, p2, h1⟩
      · cases k with
        | zero => rfl
        | succ k => rw [hd] at g1; cases g1
    · rename_i e0 r' cs h0 hh
      simp only at h0; subst h0
      obtain ⟨hc, h'⟩ := bif_some h
      clear h
      simp only [Bool.and_eq_true] at hc
      have c1 := Nat.eq_of_beq_eq_true hc.1.1
      have c2 := Nat.eq_of_beq_eq_true hc.1.2
      have c3 := Nat.eq_of_beq_eq_true hc.2
      subst c1
      subst c2
      split at h'
      · rename_i xs hxs
        refine ⟨ty, [], xs, some F, h', c3, .inr ⟨F, _, rfl, hh, fun σ Z w v' hr hv => ?_⟩⟩
        obtain ⟨hd, hone, vs, n, h1, s, hs, q2, q3, q4⟩ := hr
        obtain ⟨rows, rfl, h3⟩ := Ty.unRows_spec hxs h1
        have hpos := ty.size_pos
        have hfl : rows.flatten.length = xs.length * ty.size := by
          have := flatten_take_length (rows := rows) (n := ty.size) (RowsR.len h3) (Nat.le_refl rows.length)
          rw [List.take_length] at this
          rw [this, h3.length]
        have hn : xs.length = n := by
          have := q3 (by omega)
          rw [hfl, c3] at this
          exact Nat.eq_of_mul_eq_mul_right (by omega) this
        refine ⟨fun k => ?_, ⟨s, hs, ?_⟩, fun k r ⟨s', g1, _⟩ => ?_⟩
        · cases k with
          | zero => rw [hs]; simp
          | succ k => rw [hd]; simp
        · have e1 := own_of hv hs
          rcases q4 with ⟨q5, hn0, _, a, q⟩ | ⟨rr, rest, q5, q6, q7⟩
          · exact .inl ⟨q5, List.length_eq_zero_iff.1 (by omega), a, e1.trans q⟩
          · obtain ⟨p1, p2, p3⟩ := q7 (by omega)
            exact .inr ⟨rr, rows, rest, s.cap, q5, by rw [e1, p3, hn], q6, p1, by rw [c3]; exact p2, h3⟩
        · cases k with
          | zero => rfl
          | succ k => rw [hd] at g1; cases g1
      · cases h'
    · cases h
  · rename_i b lo n
    obtain ⟨F, kk⟩ := b
    split at h
    · rename_i e0 t fs xs h0 hh
      simp only at h0; subst h0
      obtain ⟨hc, h'⟩ := bif_some h
      clear h
      simp only [Bool.and_eq_true] at hc
      have c1 := Nat.eq_of_beq_eq_true hc.1.1
      have c2 := Nat.eq_of_beq_eq_true hc.1.2
      have c3 := Nat.le_of_ble_eq_true hc.2
      subst c1
      refine ⟨t, fs, xs.take n, some F, h', c2, .inr ⟨F, _, rfl, hh, fun σ Z w v' hr hv => ?_⟩⟩
      obtain ⟨hd, rows, h1, s, hs, q2, q3, q4⟩ := hr
      have hlen : (xs.take n).length = n := by simp; omega
      refine ⟨fun k => ?_, ⟨s, hs, ?_⟩, fun k r ⟨s', g1, _⟩ => ?_⟩
      · cases k with
        | zero => rw [hs]; simp
        | succ k => rw [hd]; simp
      · rcases sub_of hv hs with ⟨q5, rfl, a, q⟩ | ⟨rr, cap, off, q5, q, g1, g2, g3⟩
        · exact .inl ⟨q5, by simp, a, q⟩
        · obtain ⟨g4, g5⟩ := g3 rfl
          subst g4
          subst g5
          rcases q4 with ⟨q6, _⟩ | ⟨r2, rest, q6, q7, q8⟩
          · rw [q6] at q5; cases q5
          · rw [q6] at q5
            cases q5
            obtain ⟨p1, p2, p3⟩ := q8 (Nat.pos_iff_ne_zero.1 t.size_pos)
            refine .inr ⟨rr, rows.take n, (rows.drop n).flatten ++ rest, s.cap, q6, by rw [hlen]; exact q, ?_, p1, ?_, h1.take n⟩
            · rw [q7, ← List.append_assoc, ← List.flatten_append, List.take_append_drop]
            · rw [← List.append_assoc, ← List.flatten_append, List.take_append_drop]; exact p2
      · cases k with
        | zero => rfl
        | succ k => rw [hd] at g1; cases g1
    · cases h
  · split at h
    · obtain ⟨hc, h⟩ := bif_some h
      exact ⟨ty, [], [], none, h, Nat.eq_of_beq_eq_true hc, .inl ⟨rfl, rfl, rfl⟩⟩
    · cases h
  · cases h

theorem first_run {P : Program} {w : World} {size n len cap : Nat} {ba : Option Addr} {cs : List Value} (hl : cs.length = n * size) (h : n = 0 ∨ ∃ b, ba = some b ∧ ∀ (j : Nat) u, cs[j]? = some u → w.cell? (b.add j) = some u) :
    (Builtin.firstCells size n (.slice ba len cap)).run P w = .ok cs.toArray w := by
  rcases h with rfl | ⟨b, rfl, h⟩
  · have : cs = [] := List.length_eq_zero_iff.1 (by omega)
    subst this
    cases ba with
    | none => exact run_firstCells_none w size 0 len cap
    | some b => exact run_firstCells_some w size 0 b len cap [] (by simp) (by simp)
  · exact run_firstCells_some w size n b len cap cs hl h
theorem append_run {P : Program} {w : World} {t ty e : TypeId} {i : TypeInfo} {z : Value} (ht : P.underlying t = some (.slice e)) (hi : P.info? e = some i) (hz : i.zero = some z) (hzs : z.cells.size = i.size)
    {ba sa : Option Addr} {n cap m mc : Nat} {olds news : List Value} (hol : olds.length = n * i.size) (hold : n = 0 ∨ ∃ b, ba = some b ∧ ∀ (j : Nat) u, olds[j]? = some u → w.cell? (b.add j) = some u)
    (hnl : news.length = m * i.size) (hnew : m = 0 ∨ ∃ b, sa = some b ∧ ∀ (j : Nat) u, news[j]? = some u → w.cell? (b.add j) = some u) (h63 : n + m ≤ 100000) (hb : i.bytes ≤ 1000000000) :
    (Builtin.append_ #[t, t] ty #[.slice ba n cap, .slice sa m mc]).run P w =
      if n + m ≤ cap then ((match ba with | some a => storeCells (a.add (n * i.size)) news | none => pure ()).run P w).andThen fun _ w' => .ok (.slice ba (n + m) cap) w'
      else .ok (.slice (some ⟨w.heap.size, 0, none⟩) (n + m) (grownCap w (n + m) cap e)) (w.drew.alloc (.cells (olds.toArray ++ news.toArray ++ Builtin.zeroCells z.cells (grownCap w (n + m) cap e - (n + m))) e)) := by
  have hfit : (n + m) * i.bytes ≤ 140737488355328 := by
    have : (n + m) * i.bytes ≤ 100000 * 1000000000 := Nat.mul_le_mul h63 hb
    omega
  have hf := first_run (P := P) (w := w) (len := m) (cap := mc) hnl hnew
  by_cases hle : n + m ≤ cap
  · rw [if_pos hle]
    cases ba <;> simp [Builtin.append_, run_underlying ht, sizeOf, typeInfo, hi, Builtin.lenOf, hle, hf]
  · rw [if_neg hle]
    have h63' : ¬ (9223372036854775807 < ((n : Int) + (m : Int))) := by omega
    have h48' : ¬ (281474976710656 < Builtin.nextslicecap (n + m) cap * i.bytes) := by
      have := growslice_fits (old := cap) (need := n + m) (bytes := i.bytes) (by omega) hfit
      omega
    have hf' := first_run (P := P) (w := w.drew) (len := m) (cap := mc) (ba := sa) (cs := news) hnl hnew
    have hfo := first_run (P := P) (w := w.drew) (len := n) (cap := cap) (ba := ba) (cs := olds) hol hold
    simp [Builtin.append_, run_underlying ht, sizeOf, typeInfo, zeroValue, hi, hz, Builtin.lenOf, hle, h63', h48', Question.forced, hf', hfo, newRow, grownCap]
    congr 2
    apply Array.ext'
    simp [List.append_assoc]

theorem growTo_spec {S : St} {e : TypeId} {ty : Ty} {fs : List Nat} {old : Option Nat} {rds : List Nat} {xs : List ty.I} {m : Nat} {k : Out → Option α} {r : α} (h : growTo S e ty fs old rds xs m k = some r) :
    m ≤ 100000 ∧ k { v := .own (S.heap.length, 0), chg := (idOf old).map (fun G => (G, HE.dead)) ++ [(S.heap.length, .list e ty fs xs)], rds := rds } = some r := by
  unfold growTo at h
  obtain ⟨h1, h⟩ := bif_some h
  refine ⟨Nat.le_of_ble_eq_true h1, ?_⟩
  cases old <;> exact h

theorem opAppend_good {S : St} {o : Oper} {c : Call} {x y : Operand} {u v : V} {k : Out → Option α} {r : α} (ho : o.op = .call c) (hc : c.callee = .builtin .append) (hargs : c.args.toList = [x, y]) (hx : S.ev x = some u) (hy : S.ev y = some v)
    (h : opAppend M S c.argTypes.toList u v k = some r) : ∃ out, k out = some r ∧ Good M S.fs o out := by
  have hargs' : c.args = #[x, y] := by rw [← Array.toList_inj]; exact hargs
  have hmx : x ∈ o.op.operands := by simp [ho, Op.operands, Call.operands, hc, hargs']
  have hmy : y ∈ o.op.operands := by simp [ho, Op.operands, Call.operands, hc, hargs']
  unfold opAppend at h
  split at h
  · rename_i t t' hts
    split at h
    · rename_i e hu
      split at h
      · rename_i ti z ty hti hz hty
        obtain ⟨i, zv, z1, z2, z3, z4⟩ := zeroOf_spec hz
        rw [hti] at z1
        cases z1
        obtain ⟨hb, h'⟩ := bif_some h
        clear h
        simp only [Bool.and_eq_true] at hb
        obtain ⟨⟨⟨c1, c2⟩, c3⟩, c4⟩ := hb
        have c1 : 0 < ti.size := Nat.le_of_ble_eq_true c1
        have c2 := Nat.eq_of_beq_eq_true c2
        have c3 := Nat.le_of_ble_eq_true c3
        have c4 := Nat.eq_of_beq_eq_true c4
        subst c4
        have htys : c.argTypes = #[t, t] := by rw [← Array.toList_inj]; exact hts
        obtain ⟨tx, fs, xs, old, h, hsz, hbase⟩ := baseOf_spec (M := M) h'
        obtain ⟨ys, src, h, hsrc0, hsrc⟩ := rowsOf_spec (M := M) h
        obtain ⟨hap, h⟩ := bif_some h
        obtain ⟨hm, h⟩ := growTo_spec h
        refine ⟨_, h, fun σ Z a w hinv hops ht hn K Q hK => ?_⟩
        have hf := hn S.heap.length (by simp [fams]) (by simp [St.fs])
        have hzs : zv.cells.size = ti.size := by rw [← c2, (z4 σ Z w).length]; simp
        have hsv := hsrc σ Z w (a.eval y) (fun b e he hh => ht b (.inl (by rw [e]; simp [idOf])) he hh) (hops y hmy _ (by rw [fs_ev, hy])) hsz
        obtain ⟨sa, mc, rows, hv, hrows, hcell⟩ := hsv
        have hflat : ∀ {xs : List tx.I} {rows : List (List Value)}, RowsR M σ Z w tx fs xs rows → rows.flatten.length = xs.length * ti.size := fun {xs rows} h => by
          have := flatten_take_length (rows := rows) (n := tx.size) (RowsR.len h) (Nat.le_refl rows.length)
          rw [List.take_length] at this
          rw [this, ← h.length, hsz]
        have hones : ∀ {xs : List tx.I} {rows : List (List Value)}, RowsR M σ Z w tx fs xs rows → ∀ v ∈ rows.flatten, v.oneCell' = true := fun {xs rows} h v hv => by
          obtain ⟨row, hr, hv⟩ := List.mem_flatten.1 hv
          obtain ⟨j, hj⟩ := List.getElem?_of_mem hr
          have hlt : j < xs.length := by have := (List.getElem?_eq_some_iff.1 hj).1; have := h.length; omega
          obtain ⟨row', h1, h2⟩ := h.get (i := j) (a := xs[j]) (by simp [hlt])
          rw [hj] at h1
          cases h1
          exact h2.ones (Ty.cells_one _ _ _) v hv
        have hnew : ys.length = 0 ∨ ∃ b, sa = some b ∧ ∀ (j : Nat) u, rows.flatten[j]? = some u → w.cell? (b.add j) = some u := hcell.imp (fun h => by rw [h]; rfl) id
        have hexec : ∀ q, a.eval x = q → execOp a.eval o = (do let s ← Builtin.append_ #[t, t] o.type #[q, a.eval y]; pure (.value s)) := fun q hq => by
          simp [execOp, ho, resolve, hc, hargs', hq, invoke, builtin, htys]
        -- what is said of the new block
        have put : ∀ (w' : World) (s : Slot) (pre : List Value), (∀ G ∈ idOf old, ∀ k, σ G k ≠ .fresh) → w'.os = w.os → w'.tape = w.tape → w'.output = w.output → w.heap.size ≤ w'.heap.size →
            (∀ r, r < w.heap.size → ¬ ownT σ (idOf old) r → w'.heap[r]? = w.heap[r]?) → (∀ r, s.real = some r → r < w'.heap.size ∧ (ownT σ (idOf old) r ∨ w.heap.size ≤ r)) → s.whole.oneCell' = true → s.row = ti.size →
            (∃ rows0, RowsR M σ Z w tx fs xs rows0 ∧ rows0.flatten = pre) →
            ((s.real = none ∧ xs.length + ys.length = 0 ∧ ∃ a, s.whole = .slice a 0 0) ∨ ∃ r rest, s.real = some r ∧ w'.heap[r]? = some (.cells ((pre ++ rows.flatten) ++ rest).toArray e (0, 0)) ∧ s.cap ≤ maxLen ∧ ((pre ++ rows.flatten) ++ rest).length = s.cap * ti.size ∧ s.whole = .slice (some ⟨r, 0, none⟩) (xs.length + ys.length) s.cap) →
            K (a.put o.dst s.whole) w' := by
          intro w' s pre p1 p2 p3 p4 p5 p6 p7 p8 p9 p10 p11
          obtain ⟨rows0, g1, rfl⟩ := p10
          have mv := moves_grow (M := M) (he := .list e tx fs (xs ++ ys)) (s := s) hinv p1 hf p2 p3 p4 p5 p6 p7 fun hle => by
            refine ⟨fun k => Num.upd_same _ _ _ _, rows0 ++ rows, All2.append (g1.mono hle) (hrows.mono hle), s, Num.upd_same _ _ _ _, by rw [p9, hsz], fun _ => ?_, ?_⟩
            · rw [List.flatten_append, List.length_append, hflat g1, hflat hrows, List.length_append, Nat.add_mul, hsz]
            · rcases p11 with ⟨q1, q2, q3⟩ | ⟨r, rest, q1, q2, q3, q4, q5⟩
              · exact .inl ⟨q1, by simpa using q2, by omega, q3⟩
              · exact .inr ⟨r, rest, q1, by rw [List.flatten_append]; exact q2, fun _ => ⟨q3, by rw [List.flatten_append, hsz]; exact q4, by rw [q5]; simp⟩⟩
          refine hK s.whole w' _ Z ?_ mv
          simp only [RV, Num.upd_same, one]
          exact ⟨by trivial, p8⟩
        -- a new block
        have grow : ∀ (ba : Option Addr) (cap : Nat) (pre : List Value), (∀ G ∈ idOf old, ∀ k, σ G k ≠ .fresh) → a.eval x = .slice ba xs.length cap → (∃ rows0, RowsR M σ Z w tx fs xs rows0 ∧ rows0.flatten = pre) →
            (xs.length = 0 ∨ ∃ b, ba = some b ∧ ∀ (j : Nat) u, pre[j]? = some u → w.cell? (b.add j) = some u) → ¬ (xs.length + ys.length ≤ cap) → o.wp M.P a w K Q := by
          intro ba cap pre p1 p2 p3 p4 p5
          obtain ⟨rows0, g1, rfl⟩ := p3
          have hr := append_run (P := M.P) (w := w) (ty := o.type) (cap := cap) (mc := mc) hu hti z2 hzs (hflat g1) p4 (hflat hrows) hnew hm c3
          rw [if_neg p5] at hr
          have hge := grownCap_ge w (xs.length + ys.length) cap e
          have hcm := grownCap_le_maxLen w (xs.length + ys.length) cap e (by simp only [maxLen]; omega)
          refine wp_value (v := .slice (some ⟨w.heap.size, 0, none⟩) (xs.length + ys.length) (grownCap w (xs.length + ys.length) cap e)) ?_
            (put (w.drew.alloc (.cells (rows0.flatten.toArray ++ rows.flatten.toArray ++ Builtin.zeroCells zv.cells (grownCap w (xs.length + ys.length) cap e - (xs.length + ys.length))) e)) { whole := .slice (some ⟨w.heap.size, 0, none⟩) (xs.length + ys.length) (grownCap w (xs.length + ys.length) cap e), real := some w.heap.size, cap := grownCap w (xs.length + ys.length) cap e, row := ti.size } rows0.flatten p1 rfl rfl rfl ?_ ?_ ?_ rfl rfl ⟨rows0, g1, rfl⟩ (.inr ⟨_, (Builtin.zeroCells zv.cells (grownCap w (xs.length + ys.length) cap e - (xs.length + ys.length))).toList, rfl, ?_, hcm, ?_, rfl⟩))
          · rw [hexec _ p2, hv]
            simp [hr]
          · show w.heap.size ≤ (w.heap.push _).size
            simp
          · intro r hr' _
            show (w.heap.push _)[r]? = _
            rw [Array.getElem?_push, if_neg (by omega)]
          · intro r hr'
            cases hr'
            refine ⟨?_, .inr (Nat.le_refl _)⟩
            show _ < (w.heap.push _).size
            simp
          · show (w.heap.push _)[w.heap.size]? = _
            simp
          · have h0 := hflat g1
            have h00 := hflat hrows
            simp only [List.length_append, Array.length_toList, size_zeroCells, hzs, h0, h00, ← Nat.add_mul]
            congr 1
            omega
        rcases hbase with ⟨rfl, rfl, rfl⟩ | ⟨b, he, rfl, hb, hbs⟩
        · have hxv : a.eval x = .slice none 0 0 := lf_eval (hops x hmx _ (by rw [fs_ev, hx]))
          by_cases h0 : ys.length = 0
          · have hr := append_run (P := M.P) (w := w) (ty := o.type) (ba := none) (n := 0) (cap := 0) (mc := mc) (olds := []) hu hti z2 hzs (by simp) (.inl rfl) (hflat hrows) hnew (by simpa using hm) c3
            rw [if_pos (by omega)] at hr
            refine wp_value (v := .slice none 0 0) (w' := w) ?_ (put w { whole := .slice none 0 0, real := none, cap := 0, row := ti.size } [] (by simp [idOf]) rfl rfl rfl (Nat.le_refl _) (fun _ _ _ => rfl) (fun _ e => by cases e) rfl rfl ⟨[], trivial, rfl⟩ (.inl ⟨rfl, by simpa using h0, none, rfl⟩))
            rw [h0] at hr
            rw [hexec _ hxv, hv, h0, Sem.run_bind, hr]
            rfl
          · exact grow none 0 [] (by simp [idOf]) hxv ⟨[], trivial, rfl⟩ (.inl rfl) (by simp only [List.length_nil]; omega)
        · have hher := ht b (.inr (by simp [fams, idOf])) he hb
          obtain ⟨g1, ⟨s0, g2, g3⟩, g4⟩ := hbs σ Z w (a.eval x) hher (hops x hmx _ (by rw [fs_ev, hx]))
          have hkill : ∀ G ∈ idOf (some b), ∀ k, σ G k ≠ .fresh := fun G hG k => by simp [idOf] at hG; subst hG; exact g1 k
          rcases g3 with ⟨q1, rfl, ad, q⟩ | ⟨rr, rows0, rest, cap, q1, q, q3, q4, q5, q6⟩
          · by_cases h0 : ys.length = 0
            · have hr := append_run (P := M.P) (w := w) (ty := o.type) (ba := ad) (n := 0) (cap := 0) (mc := mc) (olds := []) hu hti z2 hzs (by simp) (.inl rfl) (hflat hrows) hnew (by simpa using hm) c3
              rw [if_pos (by omega)] at hr
              have hrf : rows.flatten = [] := List.length_eq_zero_iff.1 (by rw [hflat hrows, h0]; simp)
              refine wp_value (v := .slice ad 0 0) (w' := w) ?_ (put w { whole := .slice ad 0 0, real := none, cap := 0, row := ti.size } [] hkill rfl rfl rfl (Nat.le_refl _) (fun _ _ _ => rfl) (fun _ e => by cases e) rfl rfl ⟨[], trivial, rfl⟩ (.inl ⟨rfl, by simpa using h0, ad, rfl⟩))
              rw [h0, hrf] at hr
              rw [hexec _ q, hv, h0, Sem.run_bind]
              cases ad with
              | none => rw [hr]; rfl
              | some ad => rw [hr]; simp [storeCells]
            · exact grow ad 0 [] hkill q ⟨[], trivial, rfl⟩ (.inl rfl) (by simp only [List.length_nil]; omega)
          · by_cases hroom : xs.length + ys.length ≤ cap
            · have hr := append_run (P := M.P) (w := w) (ty := o.type) (ba := some ⟨rr, 0, none⟩) (cap := cap) (mc := mc) hu hti z2 hzs (hflat q6) (.inr ⟨_, rfl, cell_at (pre := []) (mid := rows0.flatten) (post := rest) (by simpa using q3) rfl⟩) (hflat hrows) hnew hm c3
              rw [if_pos hroom] at hr
              have hfl0 := hflat q6
              have hfl1 := hflat hrows
              have hfit : xs.length * ti.size + rows.flatten.length ≤ (rows0.flatten ++ rest).length := by
                rw [q5, hsz, hfl1, ← Nat.add_mul]
                exact Nat.mul_le_mul_right _ hroom
              have hst := run_storeCells_at M.P rr (xs.length * ti.size) e rows.flatten 0 (rows0.flatten ++ rest).toArray w q3 (by simpa using hfit) (hones hrows)
              have hcells : ((rows0.flatten ++ rest).toArray.toList.take (xs.length * ti.size + 0) ++ rows.flatten ++ (rows0.flatten ++ rest).toArray.toList.drop (xs.length * ti.size + 0 + rows.flatten.length)) = (rows0.flatten ++ rows.flatten) ++ rest.drop rows.flatten.length := by
                simp only [Nat.add_zero, ← hfl0]
                simp [List.drop_append]
              rw [hcells] at hst
              have hown : ownT σ (idOf (some b)) rr := ⟨b, by simp [idOf], 0, s0, g2, q1⟩
              refine wp_value (v := .slice (some ⟨rr, 0, none⟩) (xs.length + ys.length) cap) (w' := w.setRow rr ((rows0.flatten ++ rows.flatten) ++ rest.drop rows.flatten.length).toArray) ?_
                (put _ { whole := .slice (some ⟨rr, 0, none⟩) (xs.length + ys.length) cap, real := some rr, cap := cap, row := ti.size } rows0.flatten hkill rfl rfl rfl (by rw [setRow_size]; exact Nat.le_refl _) ?_ ?_ rfl rfl ⟨rows0, q6, rfl⟩ (.inr ⟨rr, rest.drop rows.flatten.length, rfl, setRow_heap w rr _ _ _ _ q3, q4, ?_, rfl⟩))
              · rw [hexec _ q, hv]
                have e0 := add_off rr 0 (xs.length * ti.size)
                simp only [Nat.zero_add] at e0
                simp only [Sem.run_bind, hr, e0]
                rw [hst]
                rfl
              · intro r hr' hno
                exact setRow_other w rr r _ fun e => hno (e ▸ hown)
              · intro r e
                cases e
                rw [setRow_size]
                exact ⟨hinv.lt _ hown.own, .inl hown⟩
              · rw [← hsz, ← q5]
                simp only [List.length_append, List.length_drop] at hfit ⊢
                omega
            · exact grow _ cap rows0.flatten hkill q ⟨rows0, q6, rfl⟩ (.inr ⟨_, rfl, cell_at (pre := []) (mid := rows0.flatten) (post := rest) (by simpa using q3) rfl⟩) hroom
      · cases h
    · cases h
  · cases h
end Go.Proofs.YtdjkdmjdcdljmaaGreatX
