/- Our small machine: every operation that it takes holds in the model's world; what is known goes on step by step. No condition beside those stated. -/
import Derived.Test.YtcgjfkaipbhpkaaVxC

namespace Go.Proofs.YtcgjfkaipbhpkaaX
open Go.RowKit
set_option linter.unusedVariables false
set_option linter.unusedSimpArgs false

theorem vop_good {P : Program} {C : CallsBy} {E : EqBy} {S : St} {o : Oper} {k : Out → Option Value} {r : Value} (hC : CallsOk P C) (hE : EqOk P E) (h : vop P C E S o k = some r) :
    ∃ out, k out = some r ∧ Good P S.fs o S.heap.length out ∧ (∀ b, Touch out b → b < S.heap.length) := by
  unfold vop at h
  split at h
  case h_1 x ho =>
    split at h
    · rename_i v hx
      exact ⟨_, h, opMove_good (x := x) (fun ρ => by simp [execOp, ho]) hx (by simp [ho, Op.operands]), no_touch⟩
    · cases h
  case h_2 x ho =>
    split at h
    · rename_i v hx
      exact ⟨_, h, opMove_good (x := x) (fun ρ => by simp [execOp, ho]) hx (by simp [ho, Op.operands]), no_touch⟩
    · cases h
  case h_3 c x y ho =>
    split at h
    · rename_i t hc
      cases t with
      | true =>
        simp only [cond_true] at h
        split at h
        · rename_i v hx
          exact ⟨_, h, opPick_good (z := x) ho hc rfl hx, no_touch⟩
        · cases h
      | false =>
        simp only [cond_false] at h
        split at h
        · rename_i v hx
          exact ⟨_, h, opPick_good (z := y) ho hc rfl hx, no_touch⟩
        · cases h
    · cases h
  case h_4 t ho =>
    split at h
    · rename_i i hi
      split at h
      · rename_i v hz
        cases hf : aggB v with
        | false => simp [hf] at h
        | true => simp only [hf, cond_true] at h; exact ⟨_, h, opAlloc_good ho hi hz hf, no_touch'⟩
      · cases h
    · cases h
  case h_5 t x ho =>
    split at h
    · rename_i v hx
      cases hf : isA v with
      | false => simp [hf] at h
      | true => simp only [hf, cond_true] at h; exact ⟨_, h, opBox_good ho hx hf, no_touch'⟩
    · cases h
  case h_6 t x ho =>
    split at h
    · rename_i b off hx
      split at h
      · rename_i blk hb
        have hlt : b < S.heap.length := (List.getElem?_eq_some_iff.1 hb).1
        have ht : ∀ v, ∀ b1, Touch ⟨v, .non, some b⟩ b1 → b1 < S.heap.length := by
          intro v b1 h1
          rcases h1 with h1 | ⟨_, h1⟩
          · cases h1; exact hlt
          · cases h1
        split at h
        · rename_i i ha hi
          cases hl : Nat.ble (off + i.size) blk.cells.length with
          | false => simp [hl] at h
          | true =>
            simp only [hl, cond_true] at h
            have hl' := Nat.le_of_ble_eq_true hl
            refine ⟨_, h, opLoad_good ho hx hb fun σ w b' cs' h1 h2 => ?_, ht _⟩
            have := h2.length
            refine ⟨_, .inl (.inr ⟨_, _, rfl, rfl, ?_⟩), run_load_agg ha hi h1 (by simp at this; omega)⟩
            simpa using (h2.drop off).take i.size
        · rename_i ha
          split at h
          · rename_i v hv
            refine ⟨_, h, opLoad_good ho hx hb fun σ w b' cs' h1 h2 => ?_, ht _⟩
            obtain ⟨v', h3, h4⟩ := h2.get hv
            exact ⟨v', .inl (.inl h4), run_load_one ha h1 h3⟩
          · cases h
        · cases h
      · cases h
    · cases h
  case h_7 t x y ho =>
    split at h
    · rename_i b off v hx hy
      split at h
      · rename_i blk i hb hi
        have hlt : b < S.heap.length := (List.getElem?_eq_some_iff.1 hb).1
        cases hf : isA v with
        | false => simp [hf] at h
        | true =>
        cases hs : Nat.beq (cellsOfL v).length i.size with
        | false => simp [hs] at h
        | true =>
        cases hl : Nat.ble (off + i.size) blk.cells.length with
        | false => simp [hl] at h
        | true =>
        simp only [hf, hs, hl, Bool.and_true, cond_true] at h
        refine ⟨_, h, opStore_good ho hx hy hb hi hf (Nat.eq_of_beq_eq_true hs) (Nat.le_of_ble_eq_true hl), ?_⟩
        intro b1 h1
        rcases h1 with h1 | ⟨_, h1⟩
        · cases h1
        · cases h1; exact hlt
      · cases h
    · cases h
  case h_8 s x f ho =>
    split at h
    · rename_i b off fs hx hu
      split at h
      · rename_i fd hf
        split at h
        · rename_i i hi
          cases hz : Nat.beq i.size 0 with
          | true => simp [hz] at h
          | false =>
            simp only [hz, cond_false] at h
            exact ⟨_, h, opField_good ho hx hu hf hi (by intro e; rw [e] at hz; cases hz), no_touch⟩
        · cases h
      · cases h
    · cases h
  case h_9 op t x y ty ho =>
    have hs : ∀ cs b, o.op ≠ .select cs b := by intro cs b e; rw [ho] at e; cases e
    split at h
    · split at h
      · rename_i u v hx hy; exact opQuo_good (.inl rfl) ho hx hy h
      · cases h
    · split at h
      · rename_i u v hx hy; exact opQuo_good (.inr rfl) ho hx hy h
      · cases h
    · split at h
      · rename_i u v hx hy; exact opSh_good (.inl rfl) ho hx hy h
      · cases h
    · split at h
      · rename_i u v hx hy; exact opSh_good (.inr rfl) ho hx hy h
      · cases h
    · split at h
      · rename_i u v hx hy
        cases hu : flatB (.agg u) with
        | false => simp [hu] at h
        | true =>
        cases hv : flatB (.agg v) with
        | false => simp [hv] at h
        | true =>
        simp only [hu, hv, Bool.and_true, cond_true] at h
        split at h
        · rename_i r' hr
          exact ⟨_, h, opEq_good hE (.inl rfl) ho hx hy hu hv hr, no_touch⟩
        · cases h
      · exact opGen_good hs h
    · split at h
      · rename_i u v hx hy
        cases hu : flatB (.agg u) with
        | false => simp [hu] at h
        | true =>
        cases hv : flatB (.agg v) with
        | false => simp [hv] at h
        | true =>
        simp only [hu, hv, Bool.and_true, cond_true] at h
        split at h
        · rename_i r' hr
          exact ⟨_, h, opEq_good hE (.inr rfl) ho hx hy hu hv hr, no_touch⟩
        · cases h
      · exact opGen_good hs h
    · exact opGen_good hs h
  case h_10 c ho =>
    split at h
    · rename_i f hc
      split at h
      · rename_i vs ha
        exact opCall_good hC ho hc ha h
      · cases h
    · exact opGen_good (by intro cs b e; rw [ho] at e; cases e) h
    · cases h
  case h_11 => cases h
  case h_12 => cases h
  case h_13 => cases h
  case h_14 => cases h
  case h_15 h1 h2 h3 h4 h5 h6 h7 h8 h9 h10 h11 h12 h13 h14 => exact opGen_good (fun cs b e => h11 cs b e) h

/-! ### What is known of a frame and a world -/
structure Rel (B : Nat) (w0 : World) (F : Fs) (n : Nat) (σ : Num) (a : Act) (w : World) : Prop where
  env : ∀ t v, F.e t = some v → RV σ v (a.eval (.tmp t))
  size : a.tmps.size = n
  defers : a.defers = []
  heap : ∀ b blk, F.h b = some blk → Fits σ w b blk
  own : ∀ b b', σ b = some b' → B ≤ b' ∧ b' < w.heap.size ∧ ∃ blk, F.h b = some blk
  inj : ∀ b c b', σ b = some b' → σ c = some b' → b = c
  below : Below B w0 w
  base : B ≤ w.heap.size

def Fs.put (F : Fs) (o : Oper) (nb : Nat) (out : Out) : Fs :=
  { e := fun t => if o.dst = some t then some out.v else F.e t
    h := fun b => match out.eff with
      | .non => F.h b
      | .new blk => if b = nb then some blk else F.h b
      | .put c blk => if b = c then some blk else F.h b }

theorem ev_put {a : Act} {d : Option Tmp} {v : Value} {t : Nat} : (a.put d v).eval (.tmp t) = if d = some t ∧ t < a.tmps.size then v else a.eval (.tmp t) := by
  cases d with
  | none => simp [Act.put]
  | some d =>
    by_cases e : d = t
    · subst e
      by_cases hlt : d < a.tmps.size
      · simp [Act.put, Act.eval, hlt]
      · simp [Act.put, Act.eval, hlt]
    · simp [Act.put, Act.eval, Array.getElem?_setIfInBounds_ne e, e]
theorem put_size {a : Act} {d : Option Tmp} {v : Value} : (a.put d v).tmps.size = a.tmps.size := by cases d <;> simp [Act.put]
theorem put_def {a : Act} {d : Option Tmp} {v : Value} : (a.put d v).defers = a.defers := by cases d <;> rfl

theorem Fs.ev_rv {B : Nat} {w0 : World} {F : Fs} {n : Nat} {σ : Num} {a : Act} {w : World} (h : Rel B w0 F n σ a w) {x : Operand} {v : Value} (hx : F.ev x = some v) : RV σ v (a.eval x) := by
  cases x with
  | tmp t => exact h.env t v hx
  | const u =>
    simp only [Fs.ev] at hx
    cases hf : flatB u with
    | false => simp [hf] at hx
    | true => simp [hf] at hx; subst hx; exact RV.of_flat hf
  | _ => cases hx

theorem below_of_old {B : Nat} {w0 w w' : World} (h : Below B w0 w) (hB : B ≤ w.heap.size) (hb : Below w.heap.size w w') : Below B w0 w' := h.trans (hb.mono hB)

/-- One operation. -/
theorem Rel.step {P : Program} {B : Nat} {w0 : World} {F : Fs} {n : Nat} {σ : Num} {a : Act} {w : World} {o : Oper} {nb : Nat} {out : Out} (h : Rel B w0 F n σ a w) (hg : Good P F o nb out)
    (hd : ∀ d, o.dst = some d → d < n) (hn : ∀ blk, out.eff = .new blk → F.h nb = none) (ht : ∀ c blk, out.eff = .put c blk → ∃ old, F.h c = some old)
    {K : Act → World → Prop} {Q : Exit → Act → World → Prop} (hK : ∀ a' w' σ', Rel B w0 (F.put o nb out) n σ' a' w' → K a' w') : o.wp P a w K Q := by
  have hσn : ∀ blk, out.eff = .new blk → σ nb = none := fun blk0 hnew => by
    cases e : σ nb with
    | none => rfl
    | some b' => obtain ⟨_, _, blk, hb⟩ := h.own nb b' e; rw [hn blk0 hnew] at hb; cases hb
  refine hg σ a w (fun x _ v hv => Fs.ev_rv h hv) (fun b _ blk hb => h.heap b blk hb) hσn K Q fun v' w' σ' hrv hm => hK _ w' σ' ?_
  obtain ⟨ov, eff, rd⟩ := out
  have env' : Le σ σ' → ∀ t v, (F.put o nb ⟨ov, eff, rd⟩).e t = some v → RV σ' v ((a.put o.dst v').eval (.tmp t)) := by
    intro hle t v hv
    rw [ev_put]
    simp only [Fs.put] at hv
    by_cases e : o.dst = some t
    · rw [if_pos e] at hv
      rw [if_pos ⟨e, by rw [h.size]; exact hd t e⟩]
      cases hv; exact hrv
    · rw [if_neg e] at hv
      rw [if_neg (fun k => e k.1)]
      exact (h.env t v hv).mono hle
  cases eff with
  | non =>
    obtain ⟨rfl, hb⟩ := hm
    refine ⟨env' (Le.refl _), by rw [put_size, h.size], by rw [put_def, h.defers], fun b blk hb' => ?_, fun b b' hb' => ?_, h.inj, below_of_old h.below h.base hb, Nat.le_trans h.base hb.size⟩
    · obtain ⟨b', cs', h1, h2, h3⟩ := h.heap b blk hb'
      exact ⟨b', cs', h1, by rw [hb.block b' (h.own b b' h1).2.1]; exact h2, h3⟩
    · obtain ⟨h1, h2, h3⟩ := h.own b b' hb'
      exact ⟨h1, Nat.lt_of_lt_of_le h2 hb.size, h3⟩
  | new blk0 =>
    replace hσn := hσn blk0 rfl
    obtain ⟨b0, cs0, h0, h01, rfl, hb, hc, hr⟩ := hm
    have hle : Le σ (fun b => if b = nb then some b0 else σ b) := fun b b' e => by
      by_cases en : b = nb
      · subst en; rw [hσn] at e; cases e
      · simp only [if_neg en]; exact e
    refine ⟨env' hle, by rw [put_size, h.size], by rw [put_def, h.defers], fun b blk hb' => ?_, fun b b' hb' => ?_, fun b c b' e1 e2 => ?_, below_of_old h.below h.base hb, Nat.le_trans h.base hb.size⟩
    · simp only [Fs.put] at hb'
      by_cases en : b = nb
      · rw [if_pos en] at hb'
        cases hb'
        exact ⟨b0, cs0, by simp [en], hc, hr.mono fun _ _ => RL.mono hle⟩
      · rw [if_neg en] at hb'
        obtain ⟨b', cs', h1, h2, h3⟩ := h.heap b blk hb'
        exact ⟨b', cs', by simp only [if_neg en]; exact h1, by rw [hb.block b' (h.own b b' h1).2.1]; exact h2, h3.mono fun _ _ => RL.mono hle⟩
    · by_cases en : b = nb
      · simp only [if_pos en, Option.some.injEq] at hb'
        subst hb'
        exact ⟨Nat.le_trans h.base h0, h01, blk0, by simp [Fs.put, en]⟩
      · simp only [if_neg en] at hb'
        obtain ⟨h1, h2, blk, h3⟩ := h.own b b' hb'
        exact ⟨h1, Nat.lt_of_lt_of_le h2 hb.size, blk, by simp [Fs.put, en, h3]⟩
    · by_cases en : b = nb <;> by_cases em : c = nb
      · rw [en, em]
      · simp only [if_pos en, if_neg em, Option.some.injEq] at e1 e2
        have := (h.own c b' e2).2.1
        omega
      · simp only [if_neg en, if_pos em, Option.some.injEq] at e1 e2
        have := (h.own b b' e1).2.1
        omega
      · simp only [if_neg en, if_neg em] at e1 e2
        exact h.inj b c b' e1 e2
  | put c0 blk0 =>
    obtain ⟨rfl, b0, cs0, hb0, ho, htp, hou, hsz, hoth, hc, hr⟩ := hm
    obtain ⟨old, hold⟩ := ht c0 blk0 rfl
    refine ⟨env' (Le.refl _), by rw [put_size, h.size], by rw [put_def, h.defers], fun b blk hb' => ?_, fun b b' hb' => ?_, h.inj, ?_, by rw [hsz]; exact h.base⟩
    · simp only [Fs.put] at hb'
      by_cases en : b = c0
      · rw [if_pos en] at hb'
        cases hb'
        exact ⟨b0, cs0, by rw [en]; exact hb0, hc, hr⟩
      · rw [if_neg en] at hb'
        obtain ⟨b', cs', h1, h2, h3⟩ := h.heap b blk hb'
        refine ⟨b', cs', h1, ?_, h3⟩
        rw [hoth b' fun e => en (h.inj b c0 b0 (e ▸ h1) hb0)]
        exact h2
    · obtain ⟨h1, h2, blk, h3⟩ := h.own b b' hb'
      refine ⟨h1, by rw [hsz]; exact h2, ?_⟩
      simp only [Fs.put]
      by_cases en : b = c0
      · exact ⟨blk0, by rw [if_pos en]⟩
      · exact ⟨blk, by rw [if_neg en]; exact h3⟩
    · refine h.below.trans ⟨ho, htp, hou, Nat.le_of_eq hsz.symm, fun k hk => hoth k ?_⟩
      have := (h.own c0 b0 hb0).1
      omega

theorem put_fs {S : St} {o : Oper} {out : Out} (ht : ∀ b, Touch out b → b < S.heap.length) : (S.put o out).fs = S.fs.put o S.heap.length out := by
  obtain ⟨ov, eff, rd⟩ := out
  unfold St.fs Fs.put St.put
  congr 1
  · funext t
    cases o.dst with
    | none => simp
    | some d =>
      by_cases e : d = t
      · subst e; simp [look]
      · have : Nat.beq d t = false := by rw [← Bool.not_eq_true]; intro hh; exact e (Nat.eq_of_beq_eq_true hh)
        simp [look, this, e]
  · funext b
    cases eff with
    | non => rfl
    | new blk =>
      by_cases e : b = S.heap.length
      · subst e; simp
      · by_cases hlt : b < S.heap.length
        · simp [e, List.getElem?_append_left hlt]
        · have h1 : (S.heap ++ [blk])[b]? = none := by simp; omega
          have h2 : S.heap[b]? = none := by simp; omega
          simp [e, h1, h2]
    | put c blk =>
      have hc : c < S.heap.length := ht c (.inr ⟨blk, rfl⟩)
      by_cases e : b = c
      · subst e; simp [hc]
      · simp [e, List.getElem?_set_ne (Ne.symm e)]
theorem put_n {S : St} {o : Oper} {out : Out} : (S.put o out).n = S.n := rfl
theorem dst_lt {S : St} {o : Oper} (h : S.dstOk o = true) : ∀ d, o.dst = some d → d < S.n := by
  intro d hd
  simp only [St.dstOk, hd] at h
  exact Nat.le_of_ble_eq_true h

theorem Rel.know {B : Nat} {w0 : World} {S : St} {σ : Num} {a : Act} {w : World} (h : Rel B w0 S.fs S.n σ a w) {t : Nat} {v : Value} (hv : look S.env t = some v) : Rel B w0 (S.know t v).fs (S.know t v).n σ a w := by
  have e : (S.know t v).fs = S.fs := by
    unfold St.fs St.know
    congr 1
    funext u
    by_cases e : t = u
    · subst e; simp [look, hv]
    · have : Nat.beq t u = false := by rw [← Bool.not_eq_true]; intro hh; exact e (Nat.eq_of_beq_eq_true hh)
      simp [look, this]
  rw [e]; exact h
end Go.Proofs.YtcgjfkaipbhpkaaX
