/- Own work. No condition. -/
import Derived.Test.YtdjkdmjdcdljmaaGreatMr

namespace Go.Proofs.YtdjkdmjdcdljmaaGreatX
open Go.RowKit
set_option linter.unusedVariables false
set_option linter.unusedSimpArgs false
variable {M : Cfg} {α : Type}

theorem srcs_mem : ∀ {m : Bind} {F G : Nat}, (getB m F = some (.at G) ∨ ∃ n, getB m F = some (.cut G n)) → G ∈ srcs m
  | [], F, G, h => by rcases h with h | ⟨n, h⟩ <;> simp [getB] at h
  | o :: m, 0, G, h => by
    have e : getB (o :: m) 0 = o := by simp [getB]
    rw [e] at h
    rcases h with h | ⟨n, h⟩ <;> subst h <;> simp [srcs]
  | o :: m, F + 1, G, h => by
    have e : getB (o :: m) (F + 1) = getB m F := by simp [getB]
    rw [e] at h
    have := srcs_mem h
    cases o with
    | none => exact this
    | some p => cases p <;> simp [srcs, this]
theorem srcs_inj : ∀ {m : Bind} {F F' G : Nat}, nodupN (srcs m) = true → (getB m F = some (.at G) ∨ ∃ n, getB m F = some (.cut G n)) → (getB m F' = some (.at G) ∨ ∃ n, getB m F' = some (.cut G n)) → F = F'
  | [], F, F', G, _, h, _ => by rcases h with h | ⟨n, h⟩ <;> simp [getB] at h
  | o :: m, F, F', G, hn, h, h' => by
    have e0 : getB (o :: m) 0 = o := by simp [getB]
    have es : ∀ F, getB (o :: m) (F + 1) = getB m F := fun F => by simp [getB]
    have tail : nodupN (srcs m) = true := by
      cases o with
      | none => exact hn
      | some p => cases p <;> first | exact hn | (simp only [srcs, nodupN, Bool.and_eq_true] at hn; exact hn.2)
    have head : ∀ {F : Nat}, (o = some (.at G) ∨ ∃ n, o = some (.cut G n)) → (getB m F = some (.at G) ∨ ∃ n, getB m F = some (.cut G n)) → False := fun {F} a b => by
      have hb := srcs_mem b
      have : hasB (srcs m) G = true := hasB_mem hb
      rcases a with a | ⟨n, a⟩ <;> subst a <;> simp only [srcs, nodupN, Bool.and_eq_true, Bool.not_eq_true'] at hn <;> rw [this] at hn <;> cases hn.1
    cases F with
    | zero =>
      cases F' with
      | zero => rfl
      | succ F' => rw [e0] at h; rw [es] at h'; exact (head h h').elim
    | succ F =>
      cases F' with
      | zero => rw [e0] at h'; rw [es] at h; exact (head h' h).elim
      | succ F' => rw [es] at h h'; rw [srcs_inj tail h h']
theorem pull_real {σ : Num} {m : Bind} {hs : List HSh} {F k r : Nat} (h : (pull σ m hs).real F k r) : ∃ G, (getB m F = some (.at G) ∨ ∃ n, getB m F = some (.cut G n) ∧ k = 0) ∧ σ.real G k r := by
  obtain ⟨s, h1, h2⟩ := h
  unfold pull at h1
  split at h1
  · rename_i G e; exact ⟨G, .inl e, s, h1, h2⟩
  · rename_i G n e
    split at h1
    · split at h1
      · rename_i s' e'
        simp only [Status.alive.injEq] at h1
        subst h1
        refine ⟨G, .inr ⟨n, e, rfl⟩, s', e', ?_⟩
        unfold cutSlot at h2
        cases hr : s'.real with
        | none => rw [hr] at h2; simp only at h2; rw [hr] at h2; exact h2
        | some r' => rw [hr] at h2; simp only at h2; first | exact h2 | (rw [hr] at h2; exact h2)
      · cases h1
      · cases h1
    · cases h1
  · split at h1
    · simp only [Status.alive.injEq] at h1
      subst h1
      cases h2
    · cases h1
  · cases h1
  · cases h1
theorem idB_get : ∀ {hs : List HSh} {m F0 F : Nat} {h : HSh}, hs[F]? = some h → F0 + F < m → h ≠ .dead → getB (idB hs m F0) F = some (.at (F0 + F))
  | [], _, _, _, _, h, _, _ => by simp at h
  | h0 :: hs, m, F0, 0, h, hh, hm, hd => by
    simp at hh
    subst hh
    have : Nat.blt F0 m = true := Nat.ble_eq_true_of_le (by omega)
    unfold getB idB
    simp only [this, cond_true, List.getElem?_cons_zero]
    cases h0 <;> first | rfl | exact absurd rfl hd
  | h0 :: hs, m, F0, F + 1, h, hh, hm, hd => by
    have := idB_get (m := m) (F0 := F0 + 1) (F := F) (by simpa using hh) (by omega) hd
    have e : getB (idB (h0 :: hs) m F0) (F + 1) = getB (idB hs m (F0 + 1)) F := by simp [getB, idB]
    rw [e, this, Nat.add_assoc, Nat.add_comm 1 F]
theorem encH_len : ∀ {hs : List HSh} (x : HsI hs), (encH hs x).length = hs.length
  | [], _ => rfl
  | h :: r, x => by simp [encH, encH_len x.2]
theorem encH_dead : ∀ {hs : List HSh} {x : HsI hs} {F : Nat}, hs[F]? = some .dead → (encH hs x)[F]? = some .dead
  | [], _, _, h => by simp at h
  | h0 :: r, x, 0, h => by simp at h; subst h; rfl
  | h0 :: r, x, F + 1, h => by simpa [encH] using encH_dead (x := x.2) (F := F) (by simpa using h)

structure Fitted (M : Cfg) (σ : Num) (Z : Zone) (w : World) (m : Nat) (σl : Num) (Zl : Zone) : Prop where
  inv : Inv σl Zl w
  own : ∀ r, σl.own r → σ.own r
  zone : ∀ r, Z r → Zl r
  znew : ∀ r, Zl r → Z r ∨ σ.own r
  mono : ∀ F, F < m → ∀ k, StLe (σ F k) (σl F k)
theorem fit_spec {s : Sh} {hs : List HSh} {m : Nat} {vs : List V} {H : List HE} {x : s.I} {y : HsI hs} {W : Wit} (h : fit s hs m vs H = some ((x, y), W)) (hm : m ≤ hs.length) : witOk W hs.length = true ∧ ∀ (σ : Num) (Z : Zone) (w : World) us, Inv σ Z w → HeapT M σ Z w H (TouchW W) → RVs M σ Z w vs us →
    RVs M (pull σ W.map hs) (zoneF σ Z W.fz) w (s.enc x) us ∧ HeapR M (pull σ W.map hs) (zoneF σ Z W.fz) w (encH hs y) ∧ (∀ F, hs.length ≤ F → ∀ k, pull σ W.map hs F k = .fresh) ∧ Fitted M σ Z w m (pull σ W.map hs) (zoneF σ Z W.fz) := by
  unfold fit at h
  split at h
  case h_2 => cases h
  rename_i p hp
  replace h := bif_some h
  obtain ⟨hcu, h⟩ := h
  simp only [Option.some.injEq] at h
  subst h
  replace h := hp
  unfold fit0 at h
  split at h
  · rename_i x1 W1 hx
    split at h
    · rename_i y1 W2 hy
      replace h := bif_some h
      obtain ⟨hok, h⟩ := h
      simp only [Option.some.injEq, Prod.mk.injEq] at h
      obtain ⟨⟨rfl, rfl⟩, rfl⟩ := h
      obtain ⟨e1, g1⟩ := mL_spec (M := M) s _ _ _ _ _ hx
      obtain ⟨e2, g2⟩ := mHs_spec (M := M) hy
      refine ⟨hok, fun σ Z w us hinv hh hv => ?_⟩
      unfold witOk at hok
      simp only [Bool.and_eq_true] at hok
      obtain ⟨⟨h1, h2⟩, h3⟩ := hok
      have h1 := Nat.eq_of_beq_eq_true h1
      obtain ⟨l, m', rfl, k1, k2⟩ := g1 _ hs e2 σ Z w us (hh.mono fun _ h => .inl h) hv
      simp only [RVs] at k2
      subst k2
      have hheap : HeapR M (pull σ W2.map hs) (zoneF σ Z W2.fz) w (encH hs y1) := fun F he hF => by
        have := g2 _ hs hcu (Ext.refl _) (fun j => by simp) σ Z w hh F he hF
        rwa [Nat.zero_add] at this
      have hsrc : ∀ F k r, (pull σ W2.map hs).real F k r → ∃ G, (getB W2.map F = some (.at G) ∨ ∃ n, getB W2.map F = some (.cut G n)) ∧ σ.real G k r := fun F k r hr => by
        obtain ⟨G, a, b⟩ := pull_real hr
        exact ⟨G, a.imp id (fun ⟨n, c, _⟩ => ⟨n, c⟩), b⟩
      have hown : ∀ r, (pull σ W2.map hs).own r → σ.own r := fun r ⟨F, k, hr⟩ => by obtain ⟨G, _, b⟩ := hsrc F k r hr; exact ⟨G, k, b⟩
      refine ⟨by simpa using k1, hheap, fun F hF k => ?_, ⟨⟨fun F k F' k' r a b => ?_, fun r hr => hinv.lt r (hown r hr), fun r hr => ?_, fun r ⟨F, k, hr⟩ hz => ?_⟩, hown, fun r hr => .inl hr, fun r hr => hr.imp id fun ⟨G, _, hr⟩ => ⟨G, 0, hr⟩, fun F hF k => ?_⟩⟩
      · have : getB W2.map F = none := by unfold getB; rw [List.getElem?_eq_none (by omega)]
        simp only [pull, this]
      · obtain ⟨G, a1, a2⟩ := hsrc F k r a
        obtain ⟨G', b1, b2⟩ := hsrc F' k' r b
        obtain ⟨rfl, rfl⟩ := hinv.inj _ _ _ _ r a2 b2
        exact ⟨srcs_inj h2 a1 b1, rfl⟩
      · rcases hr with hr | ⟨G, _, hr⟩
        · exact hinv.zlt r hr
        · exact hinv.lt r ⟨G, 0, hr⟩
      · obtain ⟨G, a1, a2⟩ := hsrc F k r hr
        rcases hz with hz | ⟨G', hG', hz⟩
        · exact hinv.off r ⟨G, k, a2⟩ hz
        · obtain ⟨rfl, _⟩ := hinv.inj _ _ _ _ r a2 hz
          have := List.all_eq_true.1 h3 G hG'
          rw [hasB_mem (srcs_mem a1)] at this
          cases this
      · have hlt : F < hs.length := by omega
        cases hd : hs[F] with
        | dead =>
          have he := hheap F .dead (encH_dead (by rw [← hd]; simp [hlt]))
          rw [he k]
          cases σ F k with
          | fresh => exact .born _
          | dead => exact .same _
          | alive s => exact .died s
        | _ =>
          have hg := idB_get (hs := hs) (m := m) (F0 := 0) (F := F) (h := hs[F]) (by simp [hlt]) (by omega) (by rw [hd]; simp)
          rw [Nat.zero_add] at hg
          have hg2 := e2.1 _ _ (e1.1 _ _ hg)
          rw [pull_at hg2]
          exact .same _
    · cases h
  · cases h
end Go.Proofs.YtdjkdmjdcdljmaaGreatX
