/- Own work. No condition. -/
import Derived.Test.YtdjkdmjdcdljmaaGreatMq

namespace Go.Proofs.YtdjkdmjdcdljmaaGreatX
open Go.RowKit
set_option linter.unusedVariables false
set_option linter.unusedSimpArgs false
variable {M : Cfg}

theorem pull_at {σ : Num} {m : Bind} {hs : List HSh} {F G : Nat} (h : getB m F = some (.at G)) (k : Nat) : pull σ m hs F k = σ G k := by simp only [pull, h]
theorem own_pull {σ σ' : Num} {Z Z' : Zone} {w : World} {F G k : Nat} {u : Value} (e : σ' F k = σ G k) (h : RV M σ Z w (.own (G, k)) u) : RV M σ' Z' w (.own (F, k)) u := by
  simp only [RV] at h ⊢
  rw [e]; exact h
theorem ptr_pull {σ σ' : Num} {Z Z' : Zone} {w : World} {F G k i off : Nat} {u : Value} (e : σ' F k = σ G k) (h : RV M σ Z w (.ptr (G, k) i off) u) : RV M σ' Z' w (.ptr (F, k) i off) u := by
  simp only [RV] at h ⊢
  rw [e]; exact h
theorem cut_pull {σ σ' : Num} {Z Z' : Zone} {w : World} {F G n : Nat} {u : Value} (e : σ' F 0 = match σ G 0 with | .alive s => .alive (cutSlot s n) | .dead => .dead | .fresh => .fresh) (h : RV M σ Z w (.sub (G, 0) 0 n) u) : RV M σ' Z' w (.own (F, 0)) u := by
  simp only [RV] at h ⊢
  rw [e]
  cases hs : σ G 0 with
  | fresh => rw [hs] at h; exact h.elim
  | dead => rw [hs] at h; exact h
  | alive s =>
    rw [hs] at h
    simp only at h ⊢
    rcases h with ⟨h1, rfl, h2, a, h3⟩ | ⟨r, cap, off, h1, rfl, h3, h4, h5⟩
    · unfold cutSlot
      rw [h1]
      exact ⟨h2, by rw [h3]; rfl⟩
    · unfold cutSlot
      rw [h1]
      obtain ⟨rfl, rfl⟩ := h5 (by trivial)
      exact ⟨rfl, rfl⟩

theorem ones_enc : ∀ {s : Sh} (x : s.I), s.ones = true → (s.enc x).all V.one = true
  | .ty t, x, _ => Ty.cells_one [] t x
  | .own _, _, _ | .ownI _, _, _ | .ptr _ _, _, _ | .ptrI _ _, _, _ | .unit, _, _ | .fn _ _ _, _, _ => rfl
  | .cons a b, x, h => by
    simp only [Sh.ones, Bool.and_eq_true] at h
    simp only [Sh.enc, List.all_append, ones_enc x.1 h.1, ones_enc x.2 h.2, Bool.and_self]
theorem one_isA {v : V} (h : v.one = true) : v.isA = true := by cases v <;> first | rfl | cases h
theorem isAs_enc : ∀ {s : Sh} (x : s.I), s.isAs = true → (s.enc x).all V.isA = true
  | .ty t, x, _ => by
    have := Ty.cells_one [] t x
    rw [List.all_eq_true] at this ⊢
    exact fun v hv => one_isA (this v hv)
  | .own _, _, _ | .ownI _, _, _ | .ptr _ _, _, _ | .ptrI _ _, _, _ | .unit, _, _ | .fn _ _ _, _, _ | .agg _, _, _ => rfl
  | .cons a b, x, h => by
    simp only [Sh.isAs, Bool.and_eq_true] at h
    simp only [Sh.enc, List.all_append, isAs_enc x.1 h.1, isAs_enc x.2 h.2, Bool.and_self]
def MLOk (M : Cfg) (H : List HE) (s : Sh) : Prop := ∀ (vs r : List V) (W W' : Wit) (x : s.I), mL H s vs W = some (x, r, W') → Ext W W' ∧
  ∀ (Wf : Wit) (hs : List HSh), Ext W' Wf → ∀ (σ : Num) (Z : Zone) (w : World) us, HeapT M σ Z w H (· ∈ Wf.fz) → RVs M σ Z w vs us →
    ∃ l m, us = l ++ m ∧ RVs M (pull σ Wf.map hs) (zoneF σ Z Wf.fz) w (s.enc x) l ∧ RVs M σ Z w r m
theorem mL_spec {H : List HE} : ∀ s : Sh, MLOk M H s := by
  intro s
  induction s with
  | ty t =>
    intro vs r W W' x h
    have h : (match frzL H t vs W.fz with | some (x, r, fz) => some (x, r, { W with fz := fz }) | none => none) = some (x, r, W') := by cases vs <;> exact h
    split at h
    · rename_i x1 r1 fz hx
      simp only [Option.some.injEq, Prod.mk.injEq] at h
      obtain ⟨rfl, rfl, rfl⟩ := h
      obtain ⟨e1, g1⟩ := frzL_spec (M := M) t _ _ _ _ _ hx
      refine ⟨⟨fun _ _ h => h, e1⟩, fun Wf hs hext σ Z w us hh hv => ?_⟩
      obtain ⟨l, m, rfl, h1, h2⟩ := g1 σ Z (zoneF σ Z Wf.fz) w us (hh.mono hext.2) (fun _ h => .inl h) (fun G hG r hr => .inr ⟨G, hext.2 G hG, hr⟩) hv
      exact ⟨l, m, rfl, DV.rvs [] h1, h2⟩
    · cases h
  | own F =>
    intro vs r W W' x h
    cases vs with
    | nil => simp [mL] at h
    | cons v vs =>
    simp only [mL] at h
    split at h
    · rename_i b
      obtain ⟨G, kk⟩ := b
      split at h
      · rename_i h0
        simp only at h0; subst h0
        split at h
        · rename_i m hm
          simp only [Option.some.injEq, Prod.mk.injEq] at h
          obtain ⟨_, rfl, rfl⟩ := h
          obtain ⟨e1, e2⟩ := bindAt_spec hm
          refine ⟨⟨e2, fun _ h => h⟩, fun Wf hs hext σ Z w us hh hv => ?_⟩
          obtain ⟨u, m', rfl, h1, h2⟩ := hv.cons
          exact ⟨[u], m', rfl, RVs.one.2 (own_pull (pull_at (hext.1 _ _ e1) 0) h1), h2⟩
        · cases h
      · cases h
    · rename_i b lo n
      obtain ⟨G, kk⟩ := b
      split at h
      · rename_i h0
        simp only at h0; subst h0
        split at h
        · rename_i m hm
          simp only [Option.some.injEq, Prod.mk.injEq] at h
          obtain ⟨_, rfl, rfl⟩ := h
          obtain ⟨e1, e2⟩ := bindNew_spec hm
          refine ⟨⟨e2, fun _ h => h⟩, fun Wf hs hext σ Z w us hh hv => ?_⟩
          obtain ⟨u, m', rfl, h1, h2⟩ := hv.cons
          have e3 := hext.1 _ _ e1
          exact ⟨[u], m', rfl, RVs.one.2 (cut_pull (by simp only [pull, e3]; rfl) h1), h2⟩
        · cases h
      · cases h
    · split at h
      · split at h
        · rename_i m hm
          simp only [Option.some.injEq, Prod.mk.injEq] at h
          obtain ⟨_, rfl, rfl⟩ := h
          obtain ⟨e1, e2⟩ := bindNew_spec hm
          refine ⟨⟨e2, fun _ h => h⟩, fun Wf hs hext σ Z w us hh hv => ?_⟩
          obtain ⟨u, m', rfl, h1, h2⟩ := hv.cons
          have e3 := hext.1 _ _ e1
          refine ⟨[u], m', rfl, RVs.one.2 ?_, h2⟩
          rw [lf_eval h1]
          simp only [RV, pull, e3]
          exact ⟨rfl, rfl⟩
        · cases h
      · cases h
    · cases h
  | ownI F =>
    intro vs r W W' x h
    cases vs with
    | nil => simp [mL] at h
    | cons v vs =>
    simp only [mL] at h
    split at h
    · rename_i b
      obtain ⟨G, kk⟩ := b
      split at h
      · rename_i m hm
        simp only [Option.some.injEq, Prod.mk.injEq] at h
        obtain ⟨rfl, rfl, rfl⟩ := h
        obtain ⟨e1, e2⟩ := bindAt_spec hm
        refine ⟨⟨e2, fun _ h => h⟩, fun Wf hs hext σ Z w us hh hv => ?_⟩
        obtain ⟨u, m', rfl, h1, h2⟩ := hv.cons
        exact ⟨[u], m', rfl, RVs.one.2 (own_pull (pull_at (hext.1 _ _ e1) kk) h1), h2⟩
      · cases h
    · cases h
  | ptr F off =>
    intro vs r W W' x h
    cases vs with
    | nil => simp [mL] at h
    | cons v vs =>
    simp only [mL] at h
    split at h
    · rename_i b i off'
      obtain ⟨G, kk⟩ := b
      split at h
      · rename_i h0
        simp only at h0; subst h0
        obtain ⟨hb, h⟩ := bif_some h
        have hb := Nat.eq_of_beq_eq_true hb
        split at h
        · rename_i m hm
          simp only [Option.some.injEq, Prod.mk.injEq] at h
          obtain ⟨_, rfl, rfl⟩ := h
          obtain ⟨e1, e2⟩ := bindAt_spec hm
          refine ⟨⟨e2, fun _ h => h⟩, fun Wf hs hext σ Z w us hh hv => ?_⟩
          obtain ⟨u, m', rfl, h1, h2⟩ := hv.cons
          subst hb
          exact ⟨[u], m', rfl, RVs.one.2 (ptr_pull (pull_at (hext.1 _ _ e1) 0) h1), h2⟩
        · cases h
      · cases h
    · cases h
  | ptrI F off =>
    intro vs r W W' x h
    cases vs with
    | nil => simp [mL] at h
    | cons v vs =>
    simp only [mL] at h
    split at h
    · rename_i b i off'
      obtain ⟨G, kk⟩ := b
      split at h
      · rename_i h0
        simp only at h0; subst h0
        obtain ⟨hb, h⟩ := bif_some h
        have hb := Nat.eq_of_beq_eq_true hb
        split at h
        · rename_i m hm
          simp only [Option.some.injEq, Prod.mk.injEq] at h
          obtain ⟨rfl, rfl, rfl⟩ := h
          obtain ⟨e1, e2⟩ := bindAt_spec hm
          refine ⟨⟨e2, fun _ h => h⟩, fun Wf hs hext σ Z w us hh hv => ?_⟩
          obtain ⟨u, m', rfl, h1, h2⟩ := hv.cons
          subst hb
          exact ⟨[u], m', rfl, RVs.one.2 (ptr_pull (pull_at (hext.1 _ _ e1) 0) h1), h2⟩
        · cases h
      · cases h
    · cases h
  | unit =>
    intro vs r W W' x h
    have h : some ((), vs, W) = some (x, r, W') := by cases vs <;> exact h
    simp only [Option.some.injEq, Prod.mk.injEq] at h
    obtain ⟨_, rfl, rfl⟩ := h
    exact ⟨Ext.refl W, fun Wf hs hext σ Z w us hh hv => ⟨[], us, rfl, by simp [Sh.enc, RVs], hv⟩⟩
  | cons a b iha ihb =>
    intro vs r W W' x h
    have h : (match mL H a vs W with | some (x, r, W') => (match mL H b r W' with | some (y, r', W'') => some ((x, y), r', W'') | none => none) | none => none) = some (x, r, W') := by cases vs <;> exact h
    split at h
    · rename_i x1 r1 W1 hx
      split at h
      · rename_i y1 r2 W2 hy
        simp only [Option.some.injEq, Prod.mk.injEq] at h
        obtain ⟨rfl, rfl, rfl⟩ := h
        obtain ⟨e1, g1⟩ := iha _ _ _ _ _ hx
        obtain ⟨e2, g2⟩ := ihb _ _ _ _ _ hy
        refine ⟨e1.trans e2, fun Wf hs hext σ Z w us hh hv => ?_⟩
        obtain ⟨l, m, rfl, h1, h2⟩ := g1 Wf hs (e2.trans hext) σ Z w us hh hv
        obtain ⟨l', m', rfl, h3, h4⟩ := g2 Wf hs hext σ Z w m hh h2
        exact ⟨l ++ l', m', by simp, h1.append h3, h4⟩
      · cases h
    · cases h
  | agg a ih =>
    intro vs r W W' x h
    cases vs with
    | nil => simp [mL] at h
    | cons v vs =>
    simp only [mL] at h
    split at h
    · rename_i cs
      obtain ⟨hones, h⟩ := bif_some h
      split at h
      · rename_i x1 W1 hx
        simp only [Option.some.injEq, Prod.mk.injEq] at h
        obtain ⟨rfl, rfl, rfl⟩ := h
        obtain ⟨e1, g1⟩ := ih _ _ _ _ _ hx
        refine ⟨e1, fun Wf hs hext σ Z w us hh hv => ?_⟩
        obtain ⟨u, m', rfl, h1, h2⟩ := hv.cons
        simp only [RV] at h1
        obtain ⟨cs', rfl, q1, q2⟩ := h1
        obtain ⟨l, m, e, k1, k2⟩ := g1 Wf hs hext σ Z w _ hh q2
        simp only [RVs] at k2
        subst k2
        rw [List.append_nil] at e
        refine ⟨[.agg cs'], m', rfl, RVs.one.2 ?_, h2⟩
        simp only [RV]
        exact ⟨cs', rfl, ones_enc _ hones, by rw [e]; exact k1⟩
      · cases h
    · cases h
  | tup a ih =>
    intro vs r W W' x h
    cases vs with
    | nil => simp [mL] at h
    | cons v vs =>
    simp only [mL] at h
    split at h
    · rename_i cs
      obtain ⟨hones, h⟩ := bif_some h
      split at h
      · rename_i x1 W1 hx
        simp only [Option.some.injEq, Prod.mk.injEq] at h
        obtain ⟨rfl, rfl, rfl⟩ := h
        obtain ⟨e1, g1⟩ := ih _ _ _ _ _ hx
        refine ⟨e1, fun Wf hs hext σ Z w us hh hv => ?_⟩
        obtain ⟨u, m', rfl, h1, h2⟩ := hv.cons
        simp only [RV] at h1
        obtain ⟨cs', rfl, q1, q2⟩ := h1
        obtain ⟨l, m, e, k1, k2⟩ := g1 Wf hs hext σ Z w _ hh q2
        simp only [RVs] at k2
        subst k2
        rw [List.append_nil] at e
        refine ⟨[.tuple cs'], m', rfl, RVs.one.2 ?_, h2⟩
        simp only [RV]
        exact ⟨cs', rfl, isAs_enc _ hones, by rw [e]; exact k1⟩
      · cases h
    · cases h
  | fn f a b iha ihb =>
    intro vs r W W' x h
    cases vs with
    | nil => simp [mL] at h
    | cons v vs =>
    simp only [mL] at h
    split at h
    · rename_i g fs cs
      obtain ⟨hb, h⟩ := bif_some h
      have hb := Nat.eq_of_beq_eq_true hb
      subst hb
      split at h
      · rename_i x1 W1 hx
        split at h
        · rename_i y1 W2 hy
          simp only [Option.some.injEq, Prod.mk.injEq] at h
          obtain ⟨rfl, rfl, rfl⟩ := h
          obtain ⟨e1, g1⟩ := iha _ _ _ _ _ hx
          obtain ⟨e2, g2⟩ := ihb _ _ _ _ _ hy
          refine ⟨e1.trans e2, fun Wf hs hext σ Z w us hh hv => ?_⟩
          obtain ⟨u, m', rfl, h1, h2⟩ := hv.cons
          simp only [RV] at h1
          obtain ⟨fs', cs', rfl, q1, q2⟩ := h1
          obtain ⟨l, m, e, k1, k2⟩ := g1 Wf hs (e2.trans hext) σ Z w _ hh q1
          simp only [RVs] at k2
          subst k2
          rw [List.append_nil] at e
          obtain ⟨l', m2, e', k3, k4⟩ := g2 Wf hs hext σ Z w _ hh q2
          simp only [RVs] at k4
          subst k4
          rw [List.append_nil] at e'
          refine ⟨[.func (.func g) fs' cs'], m', rfl, RVs.one.2 ?_, h2⟩
          simp only [RV]
          exact ⟨fs', cs', rfl, by rw [e]; exact k1, by rw [e']; exact k3⟩
        · cases h
      · cases h
    · cases h

theorem bindAll_spec : ∀ {fs gs : List Nat} {m m' : Bind}, bindAll m fs gs = some m' → fs.length = gs.length ∧ (∀ F p, getB m F = some p → getB m' F = some p) ∧ ∀ j, j < fs.length → getB m' (fs.getD j 0) = some (.at (gs.getD j 0))
  | [], [], m, m', h => by simp [bindAll] at h; subst h; exact ⟨rfl, fun _ _ h => h, fun j hj => by simp at hj⟩
  | F :: fs, G :: gs, m, m', h => by
    simp only [bindAll] at h
    split at h
    · rename_i m1 hm
      obtain ⟨e1, e2⟩ := bindAt_spec hm
      obtain ⟨h1, h2, h3⟩ := bindAll_spec h
      refine ⟨by simp [h1], fun F' p hp => h2 _ _ (e2 _ _ hp), fun j hj => ?_⟩
      cases j with
      | zero => simpa using h2 _ _ e1
      | succ j => simpa using h3 j (by simpa using hj)
    · cases h
  | [], _ :: _, _, _, h => by cases h
  | _ :: _, [], _, _, h => by cases h
theorem cells_pull {σ σ' : Num} {Z Z' : Zone} {w : World} {fs gs : List Nat} {n : Nat} (hz : ∀ r, Z r → Z' r) (he : ∀ j, j < n → ∀ k, σ' (fs.getD j 0) k = σ (gs.getD j 0) k) : ∀ {t : Ty} {x : t.I} {us : List Value}, t.ownOk n = true → RVs M σ Z w (t.cells gs x) us → RVs M σ' Z' w (t.cells fs x) us
  | .pair a b, x, us, h, hv => by
    simp only [Ty.ownOk, Bool.and_eq_true] at h
    simp only [Ty.cells] at hv ⊢
    obtain ⟨l, m, rfl, h1, h2⟩ := hv.appendInv
    exact (cells_pull hz he h.1 h1).append (cells_pull hz he h.2 h2)
  | .own j, k, us, h, hv => by
    have hj : j < n := Nat.le_of_ble_eq_true h
    obtain ⟨u, m, rfl, h1, h2⟩ := hv.cons
    simp only [RVs] at h2
    subst h2
    exact RVs.one.2 (own_pull (he j hj k) h1)
  | .int kd, x, us, h, hv => DV.rvs fs (DV.mono hz (fun _ _ => rfl) (RVs.dv gs rfl hv))
  | .bool, x, us, h, hv => DV.rvs fs (DV.mono hz (fun _ _ => rfl) (RVs.dv gs rfl hv))
  | .str, x, us, h, hv => DV.rvs fs (DV.mono hz (fun _ _ => rfl) (RVs.dv gs rfl hv))
  | .err, x, us, h, hv => DV.rvs fs (DV.mono hz (fun _ _ => rfl) (RVs.dv gs rfl hv))
  | .slice t, x, us, h, hv => by
    obtain ⟨u, m, rfl, h1, h2⟩ := hv.cons
    simp only [RVs] at h2
    subst h2
    simp only [RV] at h1
    refine RVs.one.2 ?_
    simp only [RV]
    exact DV.mono hz (fun _ _ => rfl) h1
  | .ptr t, x, us, h, hv => by
    obtain ⟨u, m, rfl, h1, h2⟩ := hv.cons
    simp only [RVs] at h2
    subst h2
    simp only [RV] at h1
    refine RVs.one.2 ?_
    simp only [RV]
    exact DV.mono hz (fun _ _ => rfl) h1
theorem rows_pull {σ σ' : Num} {Z Z' : Zone} {w : World} {fs gs : List Nat} {n : Nat} {t : Ty} {xs : List t.I} {rows : List (List Value)} (hz : ∀ r, Z r → Z' r) (he : ∀ j, j < n → ∀ k, σ' (fs.getD j 0) k = σ (gs.getD j 0) k) (ht : t.ownOk n = true) (h : RowsR M σ Z w t gs xs rows) : RowsR M σ' Z' w t fs xs rows :=
  All2.mono (fun _ _ _ h => cells_pull hz he ht h) h

def TouchW (W : Wit) (G : Nat) : Prop := G ∈ W.fz ∨ ∃ F, getB W.map F = some (.at G) ∨ ∃ n, getB W.map F = some (.cut G n)
theorem cutsOk_get {H : List HE} : ∀ {m : Bind} {F G n : Nat} {e : TypeId} {t : Ty} {fs : List Nat} {xs : List t.I}, cutsOk H m = true → getB m F = some (.cut G n) → H[G]? = some (.list e t fs xs) → n ≤ xs.length
  | [], F, G, n, e, t, fs, xs, _, h, _ => by simp [getB] at h
  | o :: r, F, G, n, e, t, fs, xs, hc, h, hH => by
    cases F with
    | zero =>
      have e0 : o = some (.cut G n) := by simpa [getB] using h
      subst e0
      simp only [cutsOk, hH, Bool.and_eq_true] at hc
      exact Nat.le_of_ble_eq_true hc.2
    | succ F =>
      have e0 : getB r F = some (.cut G n) := by simpa [getB] using h
      refine cutsOk_get (m := r) ?_ e0 hH
      cases o with
      | none => exact hc
      | some p =>
        cases p with
        | cut G' n' =>
          simp only [cutsOk] at hc
          split at hc
          · simp only [Bool.and_eq_true] at hc; exact hc.1
          · exact hc
        | _ => exact hc
theorem mH_spec {H : List HE} {h : HSh} {F : Nat} {W W' : Wit} {x : h.I} (hm : mH H h F W = some (x, W')) : Ext W W' ∧ ∀ (Wf : Wit) (hs : List HSh), cutsOk H Wf.map = true → Ext W' Wf → hs[F]? = some h → ∀ (σ : Num) (Z : Zone) (w : World), HeapT M σ Z w H (TouchW Wf) → HER M (pull σ Wf.map hs) (zoneF σ Z Wf.fz) w F (h.enc x) := by
  have hz : ∀ (σ : Num) (Z : Zone) (Wf : Wit), ∀ r, Z r → zoneF σ Z Wf.fz r := fun σ Z Wf r h => .inl h
  cases h with
  | dead =>
    simp only [mH] at hm
    split at hm
    · rename_i m e
      simp only [Option.some.injEq, Prod.mk.injEq] at hm
      obtain ⟨_, rfl⟩ := hm
      obtain ⟨e1, e2⟩ := bindNew_spec e
      refine ⟨⟨e2, fun _ h => h⟩, fun Wf hs hcu hext hF σ Z w hh k => ?_⟩
      simp only [pull, hext.1 _ _ e1]
    · cases hm
  | void e t =>
    simp only [mH] at hm
    split at hm
    · rename_i m e0
      simp only [Option.some.injEq, Prod.mk.injEq] at hm
      obtain ⟨_, rfl⟩ := hm
      obtain ⟨e1, e2⟩ := bindNew_spec e0
      refine ⟨⟨e2, fun _ h => h⟩, fun Wf hs hcu hext hF σ Z w hh => ⟨fun k ys hy => by simp at hy, fun k _ => ?_⟩⟩
      simp only [pull, hext.1 _ _ e1]
    · cases hm
  | cells e row s =>
    simp only [mH] at hm
    split at hm
    · rename_i G hG
      split at hm
      · rename_i e' row' cs hH
        replace hm := bif_some hm
        obtain ⟨hb, hm⟩ := hm
        simp only [Bool.and_eq_true] at hb
        obtain ⟨⟨b1, b2⟩, b3⟩ := hb
        have b1 := Nat.eq_of_beq_eq_true b1
        have b2 := Nat.eq_of_beq_eq_true b2
        split at hm
        · rename_i x1 W1 hx
          simp only [Option.some.injEq, Prod.mk.injEq] at hm
          obtain ⟨rfl, rfl⟩ := hm
          obtain ⟨e1, g1⟩ := mL_spec (M := M) s _ _ _ _ _ hx
          refine ⟨e1, fun Wf hs hcu hext hF σ Z w hh => ?_⟩
          subst b1
          subst b2
          have e3 := hext.1 _ _ (e1.1 _ _ hG)
          obtain ⟨hd, hone, vs, n, k1, k2⟩ := hh G _ (.inr ⟨F, .inl e3⟩) hH
          obtain ⟨l, m, e4, k3, k4⟩ := g1 Wf hs hext σ Z w vs (hh.mono fun _ h => .inl h) k1
          simp only [RVs] at k4
          subst k4
          rw [List.append_nil] at e4
          subst e4
          exact ⟨fun k => by rw [pull_at e3]; exact hd k, ones_enc _ b3, vs, n, k3, by rw [pull_at e3]; exact k2⟩
        · cases hm
      · cases hm
    · cases hm
  | many e t =>
    simp only [mH] at hm
    split at hm
    · rename_i G hG
      split at hm
      · rename_i e' t' xs hH
        split at hm
        · rename_i ys hys
          obtain ⟨e0, hy⟩ := Ty.cast_spec (F := fun T => List (List T)) hys
          subst e0
          subst hy
          replace hm := bif_some hm
          obtain ⟨hb, hm⟩ := hm
          simp only [Bool.and_eq_true] at hb
          have b1 := Nat.eq_of_beq_eq_true hb.1
          subst b1
          cases hm
          refine ⟨Ext.refl _, fun Wf hs hcu hext hF σ Z w hh => ?_⟩
          have e3 := hext.1 _ _ hG
          obtain ⟨k1, k2⟩ := hh G _ (.inr ⟨F, .inl e3⟩) hH
          refine ⟨fun k zs hzs => ?_, fun k hk => by rw [pull_at e3]; exact k2 k hk⟩
          obtain ⟨rows, q1, q2⟩ := k1 k zs hzs
          exact ⟨rows, rows_pull (n := 0) (hz σ Z Wf) (fun j hj => absurd hj (Nat.not_lt_zero j)) hb.2 q1, by rw [pull_at e3]; exact q2⟩
        · cases hm
      · cases hm
    · cases hm
  | list e t fs =>
    simp only [mH] at hm
    split at hm
    · rename_i G hG
      split at hm
      · rename_i e' t' fs' xs hH
        split at hm
        · rename_i ys m hys hbd
          obtain ⟨e0, hy⟩ := Ty.cast_spec hys
          subst e0
          subst hy
          replace hm := bif_some hm
          obtain ⟨hb, hm⟩ := hm
          simp only [Bool.and_eq_true] at hb
          have b1 := Nat.eq_of_beq_eq_true hb.1
          subst b1
          cases hm
          obtain ⟨c1, c2, c3⟩ := bindAll_spec hbd
          refine ⟨⟨c2, fun _ h => h⟩, fun Wf hs hcu hext hF σ Z w hh => ?_⟩
          have e3 := hext.1 _ _ (c2 _ _ hG)
          obtain ⟨hd, rows, q1, q2⟩ := hh G _ (.inr ⟨F, .inl e3⟩) hH
          exact ⟨fun k => by rw [pull_at e3]; exact hd k, rows, rows_pull (hz σ Z Wf) (fun j hj k => pull_at (hext.1 _ _ (c3 j hj)) k) hb.2 q1, by rw [pull_at e3]; exact q2⟩
        · cases hm
      · rename_i e' row cs hH
        split at hm
        · rename_i gs hgs
          split at hm
          · rename_i ys m hys hbd
            replace hm := bif_some hm
            obtain ⟨hb, hm⟩ := hm
            simp only [Bool.and_eq_true] at hb
            obtain ⟨⟨b1, b2⟩, b3⟩ := hb
            have b1 := Nat.eq_of_beq_eq_true b1
            have b2 := Nat.eq_of_beq_eq_true b2
            subst b1
            subst b2
            cases hm
            obtain ⟨c1, c2, c3⟩ := bindAll_spec hbd
            refine ⟨⟨c2, fun _ h => h⟩, fun Wf hs hcu hext hF σ Z w hh => ?_⟩
            have e3 := hext.1 _ _ (c2 _ _ hG)
            obtain ⟨hd, hone, vs, n, k1, s, hs1, hrow, hlen, hreal⟩ := hh G _ (.inr ⟨F, .inl e3⟩) hH
            obtain ⟨rows, rfl, q1⟩ := Ty.unRows_spec hys k1
            have hpos := t.size_pos
            have hn : x.length = n := by
              have := hlen (by omega)
              have h2 := flatten_take_length (rows := rows) (n := t.size) (RowsR.len q1) (Nat.le_refl rows.length)
              rw [List.take_length] at h2
              have h3 := All2.length q1
              rw [h2, ← h3] at this
              exact Nat.eq_of_mul_eq_mul_right hpos this
            exact ⟨fun k => by rw [pull_at e3]; exact hd k, rows, rows_pull (hz σ Z Wf) (fun j hj k => pull_at (hext.1 _ _ (c3 j hj)) k) b3 q1, by rw [pull_at e3, hn]; exact ⟨s, hs1, hrow, hlen, hreal⟩⟩
          · cases hm
        · cases hm
      · cases hm
    · rename_i G n hG
      split at hm
      · rename_i e' t' fs' xs hH
        split at hm
        · rename_i ys m hys hbd
          obtain ⟨e0, hy⟩ := Ty.cast_spec hys
          subst e0
          subst hy
          replace hm := bif_some hm
          obtain ⟨hb, hm⟩ := hm
          simp only [Bool.and_eq_true] at hb
          obtain ⟨b1, b2⟩ := hb
          have b1 := Nat.eq_of_beq_eq_true b1
          subst b1
          cases hm
          obtain ⟨c1, c2, c3⟩ := bindAll_spec hbd
          refine ⟨⟨c2, fun _ h => h⟩, fun Wf hs hcu hext hF σ Z w hh => ?_⟩
          have e3 := hext.1 _ _ (c2 _ _ hG)
          have b3 := cutsOk_get hcu e3 hH
          obtain ⟨hd, rows, q1, s, hs1, hrow, hlen, hreal⟩ := hh G _ (.inr ⟨F, .inr ⟨n, e3⟩⟩) hH
          have hln : (ys.take n).length = n := by simp; omega
          have hflat : ∀ {l : List t'.I} {rs : List (List Value)}, RowsR M σ Z w t' fs' l rs → rs.flatten.length = l.length * t'.size := fun {l rs} h => by
            have := flatten_take_length (rows := rs) (n := t'.size) (RowsR.len h) (Nat.le_refl rs.length)
            rw [List.take_length] at this
            rw [this, ← h.length]
          have hq : RowsR M σ Z w t' fs' (ys.take n) (rows.take n) := All2.take n q1
          refine ⟨fun k => by simp only [pull, e3], rows.take n, rows_pull (hz σ Z Wf) (fun j hj k => pull_at (hext.1 _ _ (c3 j hj)) k) b2 hq, cutSlot s n, by simp only [pull, e3, hs1], ?_, fun _ => hflat hq, ?_⟩
          · unfold cutSlot; split <;> exact hrow
          · rcases hreal with ⟨r0, h0, hne, a, ha⟩ | ⟨r, rest, r1, r2, r3⟩
            · left
              have : n = 0 := by omega
              subst this
              unfold cutSlot
              rw [r0]
              exact ⟨r0, by simp, hne, a, ha⟩
            · right
              unfold cutSlot
              rw [r1]
              refine ⟨r, (rows.drop n).flatten ++ rest, rfl, ?_, fun hne => ?_⟩
              · rw [r2, ← List.append_assoc, ← List.flatten_append, List.take_append_drop]
              · obtain ⟨p1, p2, p3⟩ := r3 hne
                exact ⟨p1, by rw [← List.append_assoc, ← List.flatten_append, List.take_append_drop]; exact p2, by rw [hln]⟩
        · cases hm
      · cases hm
    · rename_i hG
      simp only [Option.some.injEq, Prod.mk.injEq] at hm
      obtain ⟨rfl, rfl⟩ := hm
      refine ⟨Ext.refl _, fun Wf hs hcu hext hF σ Z w hh => ?_⟩
      have e3 := hext.1 _ _ hG
      exact ⟨fun k => by simp only [pull, e3], [], trivial, nilSlot t.size, by simp only [pull, e3, hF, rowH], rfl, fun _ => by simp, .inl ⟨rfl, rfl, Nat.pos_iff_ne_zero.1 t.size_pos, none, rfl⟩⟩
    · cases hm
theorem mHs_spec {H : List HE} : ∀ {hs : List HSh} {F : Nat} {W W' : Wit} {x : HsI hs}, mHs H hs F W = some (x, W') → Ext W W' ∧ ∀ (Wf : Wit) (hall : List HSh), cutsOk H Wf.map = true → Ext W' Wf → (∀ j, hs[j]? = hall[F + j]?) → ∀ (σ : Num) (Z : Zone) (w : World), HeapT M σ Z w H (TouchW Wf) →
    ∀ j he, (encH hs x)[j]? = some he → HER M (pull σ Wf.map hall) (zoneF σ Z Wf.fz) w (F + j) he
  | [], F, W, W', x, h => by
    simp only [mHs, Option.some.injEq, Prod.mk.injEq] at h
    obtain ⟨_, rfl⟩ := h
    exact ⟨Ext.refl W, fun Wf hall hcu hext _ σ Z w hh j he hj => by simp [encH] at hj⟩
  | h :: r, F, W, W', x, hm => by
    simp only [mHs] at hm
    split at hm
    · rename_i x1 W1 hx
      split at hm
      · rename_i y1 W2 hy
        simp only [Option.some.injEq, Prod.mk.injEq] at hm
        obtain ⟨rfl, rfl⟩ := hm
        obtain ⟨e1, g1⟩ := mH_spec (M := M) hx
        obtain ⟨e2, g2⟩ := mHs_spec (hs := r) hy
        refine ⟨e1.trans e2, fun Wf hall hcu hext hl σ Z w hh j he hj => ?_⟩
        cases j with
        | zero =>
          simp [encH] at hj
          subst hj
          exact g1 Wf hall hcu (e2.trans hext) (by simpa using (hl 0).symm) σ Z w hh
        | succ j =>
          have := g2 Wf hall hcu hext (fun j => by have := hl (j + 1); simpa [Nat.add_assoc, Nat.add_comm 1 j] using this) σ Z w hh j he (by simpa [encH] using hj)
          rwa [Nat.add_assoc, Nat.add_comm 1 j] at this
      · cases hm
    · cases hm
end Go.Proofs.YtdjkdmjdcdljmaaGreatX
