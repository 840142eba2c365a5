/- Our small machine: every operation that it takes holds in the model's world; what is known goes on step by step. No condition beside those stated. -/
import Derived.Test.YtcgjfkaipbhpkaaGreatVxCa

namespace Go.Proofs.YtcgjfkaipbhpkaaGreatX
open Go.RowKit
set_option linter.unusedVariables false
set_option linter.unusedSimpArgs false

/-! ### What is known of a frame and a world -/
/-- Of a world: the blocks that are known, as they lie there; what was there before. -/
structure WRel (B : Nat) (w0 : World) (h : Nat → Option Blk) (σ : Num) (w : World) : Prop where
  heap : ∀ b blk, h b = some blk → Fits σ w b blk
  own : ∀ b b' cap, σ b = some (b', cap) → B ≤ b' ∧ b' < w.heap.size ∧ ∃ blk, h b = some blk
  inj : ∀ b c b' cap cap' x y, σ b = some (b', cap) → σ c = some (b', cap') → h b = some x → h c = some y → x.dead = false → y.dead = false → b = c
  below : Below B w0 w
  base : B ≤ w.heap.size
structure Rel (B : Nat) (w0 : World) (σ0 : Num) (F : Fs) (n : Nat) (σ : Num) (a : Act) (w : World) : Prop where
  env : ∀ t v, F.e t = some v → RV σ v (a.eval (.tmp t))
  size : a.tmps.size = n
  defers : a.defers = []
  wr : WRel B w0 F.h σ w
  le : Le σ0 σ

def Fs.put (F : Fs) (o : Oper) (nb : Nat) (out : Out) : Fs :=
  { e := fun t => if o.dst = some t then some out.v else F.e t
    h := match out.eff.all with
      | some H => fun b => H[b]?
      | none => fun b => match out.eff.nw with
        | some blk => if b = nb then some blk else match out.eff.pt with
          | some (c, old) => if b = c then some old else F.h b
          | none => F.h b
        | none => match out.eff.pt with
          | some (c, old) => if b = c then some old else F.h b
          | none => F.h b }

theorem ev_put {a : Act} {d : Option Tmp} {v : Value} {t : Nat} : (a.put d v).eval (.tmp t) = if d = some t ∧ t < a.tmps.size then v else a.eval (.tmp t) := by
  cases d with
  | none => simp [Act.put]
  | some d =>
    by_cases e : d = t
    · subst e
      by_cases hlt : d < a.tmps.size
      · simp [Act.put, Act.eval, hlt]
      · simp [Act.put, Act.eval, hlt]
    · simp [Act.put, Act.eval, Array.getElem?_setIfInBounds_ne e, e]
theorem put_size {a : Act} {d : Option Tmp} {v : Value} : (a.put d v).tmps.size = a.tmps.size := by cases d <;> simp [Act.put]
theorem put_def {a : Act} {d : Option Tmp} {v : Value} : (a.put d v).defers = a.defers := by cases d <;> rfl

theorem Fs.ev_rv {B : Nat} {w0 : World} {σ0 : Num} {F : Fs} {n : Nat} {σ : Num} {a : Act} {w : World} (h : Rel B w0 σ0 F n σ a w) {x : Operand} {v : Value} (hx : F.ev x = some v) : RV σ v (a.eval x) := by
  cases x with
  | tmp t => exact h.env t v hx
  | const u =>
    simp only [Fs.ev] at hx
    cases hf : flatB u with
    | false => simp [hf] at hx
    | true => simp [hf] at hx; subst hx; exact RV.of_flat hf
  | _ => cases hx

theorem below_of_old {B : Nat} {w0 w w' : World} (h : Below B w0 w) (hB : B ≤ w.heap.size) (hb : Below w.heap.size w w') : Below B w0 w' := h.trans (hb.mono hB)

theorem Fits.mono {σ σ' : Num} {w : World} {b : Nat} {blk : Blk} (hle : Le σ σ') : Fits σ w b blk → Fits σ' w b blk
  | ⟨b', cap, h1, h2⟩ => ⟨b', cap, hle _ _ h1, fun hd => let ⟨cs, rest, h3, h4, h5⟩ := h2 hd; ⟨cs, rest, h3, h4.mono fun _ _ => RL.mono hle, h5⟩⟩

/-- The memory's part of one operation. -/
theorem WRel.step {B : Nat} {w0 : World} {F : Fs} {σ σ' : Num} {w w' : World} {o : Oper} {nb : Nat} {out : Out} (h : WRel B w0 F.h σ w) (he : EffOk F nb out) (hn : ∀ blk, out.eff.nw = some blk → F.h nb = none)
    (hm : Moves σ nb w w' σ' out.eff) : WRel B w0 (F.put o nb out).h σ' w' ∧ Le σ σ' := by
  have hσn : ∀ blk, out.eff.nw = some blk → σ nb = none := fun blk0 hnew => by
    cases e : σ nb with
    | none => rfl
    | some q => obtain ⟨_, _, blk, hb⟩ := h.own nb q.1 q.2 e; rw [hn blk0 hnew] at hb; cases hb
  have hle : Le σ σ' := fun b q e => by
    cases hnw : out.eff.nw with
    | none => rw [hm.same hnw]; exact e
    | some blk =>
      by_cases en : b = nb
      · subst en; rw [hσn blk hnw] at e; cases e
      · rw [hm.num b en]; exact e
  -- a block that is known, and neither made nor written, lies as it lay
  have keep : ∀ b blk, F.h b = some blk → (∀ c old, out.eff.pt = some (c, old) → b ≠ c) → Fits σ' w' b blk := fun b blk hb hne => by
    obtain ⟨b', cap, h1, h2⟩ := h.heap b blk hb
    refine ⟨b', cap, hle _ _ h1, fun hd => ?_⟩
    obtain ⟨cs, rest, h3, h4, h5⟩ := h2 hd
    refine ⟨cs, rest, ?_, h4.mono fun _ _ => RL.mono hle, h5⟩
    rw [hm.block b' (h.own b b' cap h1).2.1 fun c old hpt cap' hc => ?_]
    · exact h3
    · obtain ⟨was, hwas, hwd⟩ := he.put c old hpt
      exact hne c old hpt (h.inj b c b' cap cap' blk was h1 hc hb hwas hd hwd)
  have hput : (F.put o nb out).h = fun b => match out.eff.nw with
        | some blk => if b = nb then some blk else match out.eff.pt with
          | some (c, old) => if b = c then some old else F.h b
          | none => F.h b
        | none => match out.eff.pt with
          | some (c, old) => if b = c then some old else F.h b
          | none => F.h b := by simp only [Fs.put, he.loc]
  -- what is known afterwards
  have cases_ : ∀ b blk, (F.put o nb out).h b = some blk → (out.eff.nw = some blk ∧ b = nb) ∨ ((∀ x, out.eff.nw = some x → b ≠ nb) ∧ ((∃ c, out.eff.pt = some (c, blk) ∧ b = c) ∨ (F.h b = some blk ∧ ∀ c old, out.eff.pt = some (c, old) → b ≠ c))) := fun b blk hb => by
    rw [hput] at hb
    have inner : (match out.eff.pt with
          | some (c, old) => if b = c then some old else F.h b
          | none => F.h b) = some blk → ((∃ c, out.eff.pt = some (c, blk) ∧ b = c) ∨ (F.h b = some blk ∧ ∀ c old, out.eff.pt = some (c, old) → b ≠ c)) := fun hi => by
      cases hpt : out.eff.pt with
      | none => rw [hpt] at hi; exact .inr ⟨hi, (fun _ _ e => by cases e)⟩
      | some q =>
        obtain ⟨c, old⟩ := q
        rw [hpt] at hi
        simp only at hi
        by_cases e : b = c
        · rw [if_pos e] at hi; cases hi; exact .inl ⟨c, rfl, e⟩
        · rw [if_neg e] at hi; exact .inr ⟨hi, fun c' old' e' => by cases e'; exact e⟩
    cases hnw : out.eff.nw with
    | none => rw [hnw] at hb; exact .inr ⟨(fun _ e => by cases e), inner hb⟩
    | some nblk =>
      rw [hnw] at hb
      simp only at hb
      by_cases e : b = nb
      · rw [if_pos e] at hb; cases hb; exact .inl ⟨rfl, e⟩
      · rw [if_neg e] at hb; exact .inr ⟨fun _ _ => e, inner hb⟩
  refine ⟨⟨fun b blk hb => ?_, fun b b' cap hb => ?_, fun b c b' cap cap' x y e1 e2 hx hy dx dy => ?_, ?_, Nat.le_trans h.base hm.size⟩, hle⟩
  · rcases cases_ b blk hb with ⟨hnw, rfl⟩ | ⟨_, ⟨c, hpt, rfl⟩ | ⟨hF, hne⟩⟩
    · exact (hm.new blk hnw).1
    · exact hm.put _ blk hpt
    · exact keep b blk hF hne
  · cases hnw : out.eff.nw with
    | none =>
      rw [hm.same hnw] at hb
      obtain ⟨h1, h2, blk, h3⟩ := h.own b b' cap hb
      refine ⟨h1, Nat.lt_of_lt_of_le h2 hm.size, ?_⟩
      rw [hput]; simp only [hnw]
      cases out.eff.pt with
      | none => exact ⟨blk, h3⟩
      | some q => obtain ⟨c, old⟩ := q; by_cases e : b = c
                  · exact ⟨old, if_pos e⟩
                  · exact ⟨blk, by simp only [if_neg e]; exact h3⟩
    | some nblk =>
      by_cases en : b = nb
      · subst en
        obtain ⟨h1, h2⟩ := (hm.new nblk hnw).2 b' cap hb
        refine ⟨?_, h1, nblk, by rw [hput]; simp [hnw]⟩
        rcases h2 with h2 | ⟨c, old, cap0, hpt, hod, hc⟩
        · exact Nat.le_trans h.base h2
        · exact (h.own c b' cap0 hc).1
      · rw [hm.num b en] at hb
        obtain ⟨h1, h2, blk, h3⟩ := h.own b b' cap hb
        refine ⟨h1, Nat.lt_of_lt_of_le h2 hm.size, ?_⟩
        rw [hput]; simp only [hnw, if_neg en]
        cases out.eff.pt with
        | none => exact ⟨blk, h3⟩
        | some q => obtain ⟨c, old⟩ := q; by_cases e : b = c
                    · exact ⟨old, if_pos e⟩
                    · exact ⟨blk, by simp only [if_neg e]; exact h3⟩
  · -- an old number, of a block that is known afterwards as one that isn't dead: it was so before
    have oldq : ∀ b x, (F.put o nb out).h b = some x → x.dead = false → (∀ z, out.eff.nw = some z → b ≠ nb) → ∃ was, F.h b = some was ∧ was.dead = false := fun b x hb hd hne => by
      rcases cases_ b x hb with ⟨hnw, e⟩ | ⟨_, ⟨c, hpt, rfl⟩ | ⟨hF, _⟩⟩
      · exact absurd e (hne _ hnw)
      · exact he.put _ _ hpt
      · exact ⟨x, hF, hd⟩
    cases hnw : out.eff.nw with
    | none =>
      rw [hm.same hnw] at e1 e2
      obtain ⟨x', hx', dx'⟩ := oldq b x hx dx fun z e => by rw [hnw] at e; cases e
      obtain ⟨y', hy', dy'⟩ := oldq c y hy dy fun z e => by rw [hnw] at e; cases e
      exact h.inj b c b' cap cap' x' y' e1 e2 hx' hy' dx' dy'
    | some nblk =>
      -- a number that meets the new block's
      have meet : ∀ c y cap cap', c ≠ nb → σ' nb = some (b', cap) → σ c = some (b', cap') → (F.put o nb out).h c = some y → y.dead = false → False := fun c y cap cap' ec hσ hc hy dy => by
        rcases ((hm.new nblk hnw).2 b' cap hσ).2 with h2 | ⟨c0, old, cap0, hpt, hod, hc0⟩
        · have := (h.own c b' cap' hc).2.1; omega
        · obtain ⟨y', hy', dy'⟩ := oldq c y hy dy fun z _ => ec
          obtain ⟨was, hwas, hwd⟩ := he.put c0 old hpt
          have := h.inj c c0 b' cap' cap0 y' was hc hc0 hy' hwas dy' hwd
          subst this
          rw [hput] at hy
          simp only [hnw, if_neg ec, hpt, if_pos] at hy
          cases hy
          rw [hod] at dy; cases dy
      by_cases en : b = nb <;> by_cases em : c = nb
      · rw [en, em]
      · subst en; rw [hm.num c em] at e2; exact (meet c y cap cap' em e1 e2 hy dy).elim
      · subst em; rw [hm.num b en] at e1; exact (meet b x cap' cap en e2 e1 hx dx).elim
      · rw [hm.num b en] at e1
        rw [hm.num c em] at e2
        obtain ⟨x', hx', dx'⟩ := oldq b x hx dx fun z _ => en
        obtain ⟨y', hy', dy'⟩ := oldq c y hy dy fun z _ => em
        exact h.inj b c b' cap cap' x' y' e1 e2 hx' hy' dx' dy'
  · refine h.below.trans ⟨hm.os, hm.tape, hm.output, hm.size, fun k hk => hm.block k (Nat.lt_of_lt_of_le hk h.base) fun c old hpt cap hc => ?_⟩
    have := (h.own c k cap hc).1
    omega

/-- What an operation is good for: by itself, or with the whole of what is known. -/
def Does (P : Program) (S : St) (o : Oper) (out : Out) : Prop :=
  (Good P S.fs o S.heap.length out ∧ EffOk S.fs S.heap.length out) ∨
  (out.eff.all.isSome = true ∧ ∀ (B : Nat) (w0 : World) (σ0 : Num) (σ : Num) (a : Act) (w : World), Rel B w0 σ0 S.fs S.n σ a w → (∀ d, o.dst = some d → d < S.n) →
    ∀ (K : Act → World → Prop) (Q : Exit → Act → World → Prop), (∀ a' w' σ', Rel B w0 σ0 (S.fs.put o S.heap.length out) S.n σ' a' w' → K a' w') → o.wp P a w K Q)

/-- One operation. -/
theorem Rel.step {P : Program} {B : Nat} {w0 : World} {σ0 : Num} {F : Fs} {n : Nat} {σ : Num} {a : Act} {w : World} {o : Oper} {nb : Nat} {out : Out} (h : Rel B w0 σ0 F n σ a w) (hg : Good P F o nb out)
    (hd : ∀ d, o.dst = some d → d < n) (hn : ∀ blk, out.eff.nw = some blk → F.h nb = none) (he : EffOk F nb out)
    {K : Act → World → Prop} {Q : Exit → Act → World → Prop} (hK : ∀ a' w' σ', Rel B w0 σ0 (F.put o nb out) n σ' a' w' → K a' w') : o.wp P a w K Q := by
  have hσn : ∀ blk, out.eff.nw = some blk → σ nb = none := fun blk0 hnew => by
    cases e : σ nb with
    | none => rfl
    | some q => obtain ⟨_, _, blk, hb⟩ := h.wr.own nb q.1 q.2 e; rw [hn blk0 hnew] at hb; cases hb
  refine hg σ a w (fun x _ v hv => Fs.ev_rv h hv) (fun b _ blk hb => h.wr.heap b blk hb) hσn K Q fun v' w' σ' hrv hm => hK _ w' σ' ?_
  obtain ⟨hw, hle⟩ := h.wr.step (o := o) he hn hm
  refine ⟨fun t v hv => ?_, by rw [put_size, h.size], by rw [put_def, h.defers], hw, fun b q e => hle _ _ (h.le _ _ e)⟩
  rw [ev_put]
  simp only [Fs.put] at hv
  by_cases e : o.dst = some t
  · rw [if_pos e] at hv
    rw [if_pos ⟨e, by rw [h.size]; exact hd t e⟩]
    cases hv; exact hrv
  · rw [if_neg e] at hv
    rw [if_neg (fun k => e k.1)]
    exact (h.env t v hv).mono hle

theorem app_get (H : List Blk) (blk : Blk) (b : Nat) : (H ++ [blk])[b]? = if b = H.length then some blk else H[b]? := by
  by_cases e : b = H.length
  · subst e; simp
  · rw [if_neg e]
    by_cases hlt : b < H.length
    · rw [List.getElem?_append_left hlt]
    · rw [List.getElem?_eq_none (by simp; omega), List.getElem?_eq_none (by omega)]
theorem put_fs {S : St} {o : Oper} {out : Out} (ht : ∀ c old, out.eff.pt = some (c, old) → c < S.heap.length) : (S.put o out).fs = S.fs.put o S.heap.length out := by
  obtain ⟨ov, ⟨nw, pt, al⟩, rd⟩ := out
  unfold St.fs Fs.put St.put
  congr 1
  · funext t
    cases o.dst with
    | none => simp
    | some d =>
      by_cases e : d = t
      · subst e; simp [look]
      · have : Nat.beq d t = false := by rw [← Bool.not_eq_true]; intro hh; exact e (Nat.eq_of_beq_eq_true hh)
        simp [look, this, e]
  · cases al with
    | some H => rfl
    | none =>
      have hset : ∀ c old, pt = some (c, old) → ∀ b, (S.heap.set c old)[b]? = if b = c then some old else S.heap[b]? := fun c old hp b => by
        have hc := ht c old hp
        by_cases e : b = c
        · subst e; simp [hc]
        · rw [if_neg e, List.getElem?_set_ne (Ne.symm e)]
      funext b
      cases nw with
      | none =>
        cases pt with
        | none => rfl
        | some q => obtain ⟨c, old⟩ := q; exact hset c old rfl b
      | some blk =>
        simp only
        cases pt with
        | none => exact app_get _ blk b
        | some q =>
          obtain ⟨c, old⟩ := q
          have hl : (S.heap.set c old).length = S.heap.length := by simp
          have := app_get (S.heap.set c old) blk b
          rw [hl, hset c old rfl b] at this
          exact this
theorem put_n {S : St} {o : Oper} {out : Out} : (S.put o out).n = S.n := rfl
theorem dst_lt {S : St} {o : Oper} (h : S.dstOk o = true) : ∀ d, o.dst = some d → d < S.n := by
  intro d hd
  simp only [St.dstOk, hd] at h
  exact Nat.le_of_ble_eq_true h

theorem know_fs {S : St} {t : Nat} {v : Value} (hv : look S.env t = some v) : (S.know t v).fs = S.fs := by
  unfold St.fs St.know
  congr 1
  funext u
  by_cases e : t = u
  · subst e; simp [look, hv]
  · have : Nat.beq t u = false := by rw [← Bool.not_eq_true]; intro hh; exact e (Nat.eq_of_beq_eq_true hh)
    simp [look, this]
theorem Rel.know {B : Nat} {w0 : World} {σ0 : Num} {S : St} {σ : Num} {a : Act} {w : World} (h : Rel B w0 σ0 S.fs S.n σ a w) {t : Nat} {v : Value} (hv : look S.env t = some v) : Rel B w0 σ0 (S.know t v).fs (S.know t v).n σ a w := by
  rw [know_fs hv]; exact h

/-- What is told of functions gone through in place. -/
def InOk (P : Program) (I : InBy) : Prop := ∀ f vs H (k : Value → List Blk → Option Value) r, I f vs H k = some r →
  ∃ v H', k v H' = some r ∧ (∃ fn, P.funcs[f]? = some fn ∧ (fn.name == "runtime.NumGoroutine") = false ∧ fn.body.isSome = true) ∧
    ∀ (B : Nat) (w0 : World) (σ : Num) (w : World) (args : List Value), WRel B w0 (fun b => H[b]?) σ w → All2 (RV σ) vs args →
      Calls P f args.toArray w fun e w' => ∃ v' σ', e = .returned v' ∧ RV σ' v v' ∧ Le σ σ' ∧ WRel B w0 (fun b => H'[b]?) σ' w'

theorem vals_spec {S : St} : ∀ {l : List Operand} {vs : List Value}, S.vals l = some vs → ∀ (σ : Num) (a : Act), (∀ x ∈ l, ∀ v, S.fs.ev x = some v → RV σ v (a.eval x)) → All2 (RV σ) vs (l.map a.eval)
  | [], vs, h, σ, a, _ => by simp [St.vals] at h; subst h; simp [All2]
  | x :: l, vs, h, σ, a, hv => by
    simp only [St.vals] at h
    cases hx : S.ev x with
    | none => simp [hx] at h
    | some v =>
      simp only [hx] at h
      cases hr : S.vals l with
      | none => simp [hr] at h
      | some ws =>
        simp only [hr, Option.some.injEq] at h
        subst h
        exact ⟨hv x (by simp) v (by rw [fs_ev, hx]), vals_spec hr σ a fun y hy => hv y (by simp [hy])⟩
theorem vals_one {S : St} {l : List Operand} {v : Value} (h : S.vals l = some [v]) : ∃ x, l = [x] ∧ S.ev x = some v := by
  cases l with
  | nil => simp [St.vals] at h
  | cons x l =>
    simp only [St.vals] at h
    cases hx : S.ev x with
    | none => simp [hx] at h
    | some u =>
      simp only [hx] at h
      cases hr : S.vals l with
      | none => simp [hr] at h
      | some ws =>
        simp only [hr, Option.some.injEq, List.cons.injEq] at h
        obtain ⟨rfl, rfl⟩ := h
        cases l with
        | nil => exact ⟨x, rfl, hx⟩
        | cons y l =>
          simp only [St.vals] at hr
          cases hy : S.ev y with
          | none => simp [hy] at hr
          | some u' => simp only [hy] at hr; cases hq : S.vals l <;> simp [hq] at hr
theorem vals_two {S : St} {l : List Operand} {v u : Value} (h : S.vals l = some [v, u]) : ∃ x y, l = [x, y] ∧ S.ev x = some v ∧ S.ev y = some u := by
  cases l with
  | nil => simp [St.vals] at h
  | cons x l =>
    simp only [St.vals] at h
    cases hx : S.ev x with
    | none => simp [hx] at h
    | some u' =>
      simp only [hx] at h
      cases hr : S.vals l with
      | none => simp [hr] at h
      | some ws =>
        simp only [hr, Option.some.injEq, List.cons.injEq] at h
        obtain ⟨rfl, rfl⟩ := h
        obtain ⟨y, rfl, hy⟩ := vals_one hr
        exact ⟨x, y, rfl, hx, hy⟩

/-- A function gone through in place. -/
theorem opIn_does {P : Program} {I : InBy} {S : St} {o : Oper} {c : Call} {f : FuncId} {vs : List Value} {k : Out → Option Value} {r : Value} (hI : InOk P I) (ho : o.op = .call c) (hc : c.callee = .value (.func f))
    (ha : S.vals c.args.toList = some vs) (h : I f vs S.heap (fun v H => k ⟨v, { all := some H }, none⟩) = some r) : ∃ out, k out = some r ∧ Does P S o out ∧ (∀ c old, out.eff.pt = some (c, old) → c < S.heap.length) := by
  obtain ⟨v, H', hk, ⟨fn, hf, hname, hbody⟩, hcall⟩ := hI _ _ _ _ _ h
  refine ⟨_, hk, .inr ⟨rfl, fun B w0 σ0 σ a w hrel hd K Q hK => ?_⟩, fun _ _ e => by cases e⟩
  have hargs := vals_spec ha σ a fun x _ v hv => Fs.ev_rv hrel hv
  have h1 : fn.name ≠ "runtime.NumGoroutine" := by simpa using hname
  obtain ⟨cc, hcc⟩ := Option.isSome_iff_exists.1 hbody
  have e : c.args.map a.eval = (c.args.toList.map a.eval).toArray := by rw [← Array.toList_inj]; simp
  have hrun : (execOp a.eval o).run P w = .ok (.enter f (c.args.toList.map a.eval).toArray) w := by
    rw [← e]
    simp [execOp, ho, resolve, hc, Deferred.ofValue, invoke, Act.eval, callFunc, hf, h1, hcc]
  unfold Oper.wp
  rw [hrun, Oper.upon_enter]
  refine (hcall B w0 σ w _ hrel.wr hargs).mono fun e w' ⟨v', σ', he, hrv, hle, hw⟩ => ?_
  subst he
  refine hK _ w' σ' ⟨fun t u hu => ?_, by rw [put_size, hrel.size], by rw [put_def, hrel.defers], hw, fun b q e => hle _ _ (hrel.le _ _ e)⟩
  rw [ev_put]
  simp only [Fs.put] at hu
  by_cases e : o.dst = some t
  · rw [if_pos e] at hu
    rw [if_pos ⟨e, by rw [hrel.size]; exact hd t e⟩]
    cases hu; exact hrv
  · rw [if_neg e] at hu
    rw [if_neg (fun k => e k.1)]
    exact (hrel.env t u hu).mono hle

theorem does_of {P : Program} {S : St} {o : Oper} {k : Out → Option Value} {r : Value} (h : ∃ out, k out = some r ∧ Good P S.fs o S.heap.length out ∧ EffOk S.fs S.heap.length out) :
    ∃ out, k out = some r ∧ Does P S o out ∧ (∀ c old, out.eff.pt = some (c, old) → c < S.heap.length) := by
  obtain ⟨out, h1, h2, h3⟩ := h
  refine ⟨out, h1, .inl ⟨h2, h3⟩, fun c old e => ?_⟩
  obtain ⟨was, hw, _⟩ := h3.put c old e
  exact (List.getElem?_eq_some_iff.1 hw).1
theorem vop_good {P : Program} {C : CallsBy} {I : InBy} {inl : Nat → Bool} {E : EqBy} {S : St} {o : Oper} {k : Out → Option Value} {r : Value} (hC : CallsOk P C) (hI : InOk P I) (hE : EqOk P E) (h : vop P C I inl E S o k = some r) :
    ∃ out, k out = some r ∧ Does P S o out ∧ (∀ c old, out.eff.pt = some (c, old) → c < S.heap.length) := by
  unfold vop at h
  split at h
  case h_1 x ho =>
    split at h
    · rename_i v hx
      exact does_of ⟨_, h, opMove_good (x := x) (fun ρ => by simp [execOp, ho]) hx (by simp [ho, Op.operands]), EffOk.non⟩
    · cases h
  case h_2 x ho =>
    split at h
    · rename_i v hx
      exact does_of ⟨_, h, opMove_good (x := x) (fun ρ => by simp [execOp, ho]) hx (by simp [ho, Op.operands]), EffOk.non⟩
    · cases h
  case h_3 c x y ho =>
    split at h
    · rename_i t hc
      cases t with
      | true =>
        simp only [cond_true] at h
        split at h
        · rename_i v hx
          exact does_of ⟨_, h, opPick_good (z := x) ho hc rfl hx, EffOk.non⟩
        · cases h
      | false =>
        simp only [cond_false] at h
        split at h
        · rename_i v hx
          exact does_of ⟨_, h, opPick_good (z := y) ho hc rfl hx, EffOk.non⟩
        · cases h
    · cases h
  case h_4 t ho =>
    split at h
    · rename_i i hi
      split at h
      · rename_i v hz
        cases hf : aggB v with
        | false => simp [hf] at h
        | true => simp only [hf, cond_true] at h; exact does_of ⟨_, h, opAlloc_good ho hi hz hf, EffOk.fresh rfl⟩
      · cases h
    · cases h
  case h_5 t x ho =>
    split at h
    · rename_i v hx
      cases hf : isA v with
      | false => simp [hf] at h
      | true => simp only [hf, cond_true] at h; exact does_of ⟨_, h, opBox_good ho hx hf, EffOk.fresh rfl⟩
    · cases h
  case h_6 t x ho =>
    split at h
    · rename_i b off hx
      split at h
      · rename_i blk hb
        cases hd : blk.dead with
        | true => simp [hd] at h
        | false =>
        simp only [hd, cond_false] at h
        split at h
        · rename_i i ha hi
          cases hl : Nat.ble (off + i.size) blk.cells.length with
          | false => simp [hl] at h
          | true =>
            simp only [hl, cond_true] at h
            have hl' := Nat.le_of_ble_eq_true hl
            refine does_of ⟨_, h, opLoad_good ho hx hb hd fun σ w b' cs' rest h1 h2 => ?_, EffOk.read (F := S.fs) hb⟩
            have hlen := h2.length
            have hsz : off + i.size ≤ (cs' ++ rest).toArray.size := by rw [List.size_toArray, List.length_append]; omega
            have hrun := run_load_agg (P := P) (off := off) (cs := (cs' ++ rest).toArray) ha hi h1 hsz
            have e : (((cs' ++ rest).toArray.toList.drop off).take i.size) = (cs'.drop off).take i.size := by
              have hdl : i.size ≤ (cs'.drop off).length := by rw [List.length_drop]; omega
              simp only [List.drop_append_of_le_length (show off ≤ cs'.length by omega)]
              rw [List.take_append_of_le_length hdl]
            rw [e] at hrun
            exact ⟨_, .inl (.inr ⟨_, _, rfl, rfl, by simpa using (h2.drop off).take i.size⟩), hrun⟩
        · rename_i ha
          split at h
          · rename_i v hv
            refine does_of ⟨_, h, opLoad_good ho hx hb hd fun σ w b' cs' rest h1 h2 => ?_, EffOk.read (F := S.fs) hb⟩
            obtain ⟨v', h3, h4⟩ := h2.get hv
            have hlt := (List.getElem?_eq_some_iff.1 h3).1
            exact ⟨v', .inl (.inl h4), run_load_one ha h1 (by simp [List.getElem?_append_left hlt, h3])⟩
          · cases h
        · cases h
      · cases h
    · cases h
  case h_7 t x y ho =>
    split at h
    · rename_i b off v hx hy
      split at h
      · rename_i blk i hb hi
        cases hd : blk.dead with
        | true => simp [hd] at h
        | false =>
        cases hf : isA v with
        | false => simp [hf] at h
        | true =>
        cases hs : Nat.beq (cellsOfL v).length i.size with
        | false => simp [hs] at h
        | true =>
        cases hl : Nat.ble (off + i.size) blk.cells.length with
        | false => simp [hl] at h
        | true =>
        have hcond : (!blk.dead && isA v && Nat.beq (cellsOfL v).length i.size && Nat.ble (off + i.size) blk.cells.length) = true := by rw [hd, hf, hs, hl]; rfl
        rw [hcond, cond_true] at h
        exact does_of ⟨_, h, opStore_good ho hx hy hb hd hi hf (Nat.eq_of_beq_eq_true hs) (Nat.le_of_ble_eq_true hl), EffOk.write (F := S.fs) hb hd⟩
      · cases h
    · cases h
  case h_8 s x f ho =>
    split at h
    · rename_i b off fs hx hu
      split at h
      · rename_i fd hf
        split at h
        · rename_i i hi
          cases hz : Nat.beq i.size 0 with
          | true => simp [hz] at h
          | false =>
            simp only [hz, cond_false] at h
            exact does_of ⟨_, h, opField_good ho hx hu hf hi (by intro e; rw [e] at hz; cases hz), EffOk.non⟩
        · cases h
      · cases h
    · cases h
  case h_9 op t x y ty ho =>
    have hs : ∀ cs b, o.op ≠ .select cs b := by intro cs b e; rw [ho] at e; cases e
    split at h
    · split at h
      · rename_i u v hx hy; exact does_of (opQuo_good (.inl rfl) ho hx hy h)
      · cases h
    · split at h
      · rename_i u v hx hy; exact does_of (opQuo_good (.inr rfl) ho hx hy h)
      · cases h
    · split at h
      · rename_i u v hx hy; exact does_of (opSh_good (.inl rfl) ho hx hy h)
      · cases h
    · split at h
      · rename_i u v hx hy; exact does_of (opSh_good (.inr rfl) ho hx hy h)
      · cases h
    · split at h
      · rename_i u v hx hy
        cases hu : flatB (.agg u) with
        | false => simp [hu] at h
        | true =>
        cases hv : flatB (.agg v) with
        | false => simp [hv] at h
        | true =>
        simp only [hu, hv, Bool.and_true, cond_true] at h
        split at h
        · rename_i r' hr
          exact does_of ⟨_, h, opEq_good hE (.inl rfl) ho hx hy hu hv hr, EffOk.non⟩
        · cases h
      · exact does_of (opGen_good hs h)
    · split at h
      · rename_i u v hx hy
        cases hu : flatB (.agg u) with
        | false => simp [hu] at h
        | true =>
        cases hv : flatB (.agg v) with
        | false => simp [hv] at h
        | true =>
        simp only [hu, hv, Bool.and_true, cond_true] at h
        split at h
        · rename_i r' hr
          exact does_of ⟨_, h, opEq_good hE (.inr rfl) ho hx hy hu hv hr, EffOk.non⟩
        · cases h
      · exact does_of (opGen_good hs h)
    · exact does_of (opGen_good hs h)
  case h_10 x ho =>
    split at h
    · rename_i a0 hx
      exact does_of ⟨_, h, opNil_good ho hx, EffOk.non⟩
    · cases h
  case h_11 t x i ho =>
    split at h
    · rename_i u v hx hi; exact does_of (opIndex_good ho hx hi h)
    · cases h
  case h_12 t x i ho =>
    split at h
    · rename_i u v hx hi; exact does_of (opIndexAddr_good ho hx hi h)
    · cases h
  case h_13 t len parts ho => exact does_of (opBuildSlice_good ho h)
  case h_14 x i ho =>
    split at h
    · rename_i vs hx
      split at h
      · rename_i v hv; exact does_of ⟨_, h, opExtract_good ho hx hv, EffOk.non⟩
      · cases h
    · cases h
  case h_15 c ho =>
    split at h
    · rename_i f hc
      cases hi : inl f with
      | true =>
        simp only [hi, cond_true] at h
        split at h
        · rename_i vs ha; exact opIn_does hI ho hc ha h
        · cases h
      | false =>
        simp only [hi, cond_false] at h
        split at h
        · rename_i vs ha; exact does_of (opCall_good hC ho hc ha h)
        · cases h
    · rename_i hc
      split at h
      · rename_i u hu
        obtain ⟨x, hl, hx⟩ := vals_one hu
        exact does_of (opLen_good ho hc hl hx h)
      · cases h
    · rename_i hc
      split at h
      · rename_i u v huv
        obtain ⟨x, y, hl, hx, hy⟩ := vals_two huv
        cases hts : Nat.beq c.argTypes.size 2 with
        | false => simp [hts] at h
        | true =>
          simp only [hts, cond_true] at h
          exact does_of (opAppend_good ho hc hl hx hy (Nat.eq_of_beq_eq_true hts) h)
      · cases h
    · exact does_of (opGen_good (by intro cs b e; rw [ho] at e; cases e) h)
    · cases h
  case h_16 => cases h
  case h_17 => cases h
  case h_18 => cases h
  case h_19 => cases h
  case h_20 g1 g2 g3 g4 g5 g6 g7 g8 g9 g10 g11 g12 g13 g14 g15 g16 g17 g18 g19 => exact does_of (opGen_good (fun cs b e => g16 cs b e) h)

end Go.Proofs.YtcgjfkaipbhpkaaGreatX
