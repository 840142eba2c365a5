/- Own work. No condition. -/
import Derived.Test.YtdjkdmjdcdljmaaGreatMf

namespace Go.Proofs.YtdjkdmjdcdljmaaGreatX
open Go.RowKit
set_option linter.unusedVariables false
set_option linter.unusedSimpArgs false
variable {M : Cfg} {α : Type}

theorem opMove_good {F : Fs} {o : Oper} {x : Operand} {v : V} (ho : ∀ ρ, execOp ρ o = pure (.value (ρ x))) (hx : F.ev x = some v) (hm : x ∈ o.op.operands) : Good M F o { v := v } :=
  good_still (rds := []) fun σ Z a w hi hop _ => ⟨a.eval x, hop x hm v hx, by rw [ho]; rfl⟩
theorem opPick_good {F : Fs} {o : Oper} {c x y z : Operand} {v : V} {t : Bool} (ho : o.op = .pick c x y) (hc : F.ev c = some (.lf (.bool t))) (hz : z = if t then x else y) (hx : F.ev z = some v) : Good M F o { v := v } := by
  refine good_still (rds := []) fun σ Z a w hi hop _ => ⟨a.eval z, hop z (by cases t <;> simp [ho, Op.operands, hz]) v hx, ?_⟩
  have e : a.eval c = .bool t := by have := hop c (by simp [ho, Op.operands]) _ hc; simp only [RV] at this; exact this.2
  simp only [execOp, ho, e, asBool, hz]
  cases t <;> rfl
theorem lf_eval {σ : Num} {Z : Zone} {w : World} {u v' : Value} (h : RV M σ Z w (.lf u) v') : v' = u := by simp only [RV] at h; exact h.2
theorem lf_rv {σ : Num} {Z : Zone} {w : World} {u : Value} (h : leafB u = true) : RV M σ Z w (.lf u) u := by simp only [RV]; exact ⟨h, by trivial⟩

theorem opDiv_good {F : Fs} {o : Oper} {op : BinOp} {t ty : TypeId} {x y : Operand} {u v : Value} {k : Out → Option α} {r : α} (hq : op = .quo ∨ op = .rem) (ho : o.op = .binOp op t x y ty)
    (hx : F.ev x = some (.lf u)) (hy : F.ev y = some (.lf v)) (h : opDiv op u v k = some r) : ∃ out, k out = some r ∧ Good M F o out := by
  rcases hq with rfl | rfl
  all_goals
    cases u <;> simp only [opDiv, reduceCtorEq] at h
    case int j a =>
    cases v <;> simp only [opDiv, reduceCtorEq] at h
    case int j' b =>
    cases hj : IntKind.beq' j j' with
    | false => simp [hj] at h
    | true =>
    have := IntKind.beq'_eq hj
    subst this
    cases hb : (b == 0) with
    | true => simp [hj, hb] at h
    | false =>
    simp only [hj, hb, cond_true, cond_false] at h
    refine ⟨_, h, good_still (rds := []) fun σ Z a' w hi hop _ => ⟨_, lf_rv rfl, ?_⟩⟩
    have e1 : a'.eval x = .int j a := lf_eval (hop x (by simp [ho, Op.operands]) _ hx)
    have e2 : a'.eval y = .int j b := lf_eval (hop y (by simp [ho, Op.operands]) _ hy)
    have hb' : b ≠ 0 := by simpa using hb
    simp [execOp, ho, e1, e2, eqGuard, binOp, Op.intDiv, hb']
theorem opSh_good {F : Fs} {o : Oper} {op : BinOp} {t ty : TypeId} {x y : Operand} {u v : Value} {k : Out → Option α} {r : α} (hq : op = .shl ∨ op = .shr) (ho : o.op = .binOp op t x y ty)
    (hx : F.ev x = some (.lf u)) (hy : F.ev y = some (.lf v)) (h : opSh op u v k = some r) : ∃ out, k out = some r ∧ Good M F o out := by
  rcases hq with rfl | rfl
  all_goals
    cases u <;> simp only [opSh, reduceCtorEq] at h
    case int j a =>
    cases v <;> simp only [opSh, reduceCtorEq] at h
    case int j' b =>
    cases hb : decide (b < 0) with
    | true => simp [hb] at h
    | false =>
    simp only [hb, cond_false] at h
    refine ⟨_, h, good_still (rds := []) fun σ Z a' w hi hop _ => ⟨_, lf_rv rfl, ?_⟩⟩
    have e1 : a'.eval x = .int j a := lf_eval (hop x (by simp [ho, Op.operands]) _ hx)
    have e2 : a'.eval y = .int j' b := lf_eval (hop y (by simp [ho, Op.operands]) _ hy)
    have hb' : ¬ b < 0 := by simpa using hb
    simp only [execOp, ho, e1, e2, Sem.run_bind, eqGuard]
    simp [binOp, Op.shift, hb']

def EqOk (P : Program) (E : EqBy) : Prop := ∀ t x y r, E t x y = some r →
  (∀ w, (Op.equalIn 10000 t x y).run P w = .ok r w) ∧ P.eqGuardType P.depth t = false

theorem nil_run {P : Program} {op : BinOp} {t ty : TypeId} {x y : Operand} {o : Oper} {a : Act} {w : World} {b : Bool} (hop : op = .eql ∨ op = .neq) (ho : o.op = .binOp op t x y ty) {u v : Value} (e1 : a.eval x = u) (e2 : a.eval y = v)
    (hg : (eqGuard op t x y u v).run P w = .ok () w) (hq : (Op.equalIn 10000 t u v).run P w = .ok b w) (h1 : (∃ p, u = .pointer p) ∧ v = .pointer none ∨ (∃ t' v', u = .iface t' v') ∧ v = .nilIface ∨ u = .nilIface ∧ v = .nilIface) :
    (execOp a.eval o).run P w = .ok (.value (.bool (if op = .eql then b else !b))) w := by
  have hq' : (Op.equal t u v).run P w = .ok b w := hq
  rcases hop with rfl | rfl
  · rcases h1 with ⟨⟨p, rfl⟩, rfl⟩ | ⟨⟨t', v', rfl⟩, rfl⟩ | ⟨rfl, rfl⟩ <;> simp [execOp, ho, e1, e2, hg, binOp, hq']
  · rcases h1 with ⟨⟨p, rfl⟩, rfl⟩ | ⟨⟨t', v', rfl⟩, rfl⟩ | ⟨rfl, rfl⟩ <;> simp [execOp, ho, e1, e2, hg, binOp, hq']
theorem guard_other {P : Program} {op : BinOp} {t : TypeId} {x y : Operand} {u v : Value} {w : World} (h1 : (∃ p, u = .pointer p) ∨ ∃ t' v', u = .iface t' v') : (eqGuard op t x y u v).run P w = .ok () w := by
  rcases h1 with ⟨p, rfl⟩ | ⟨t', v', rfl⟩ <;> cases op <;> simp [eqGuard]
theorem guard_nil {P : Program} {op : BinOp} {t : TypeId} {x y : Operand} {w : World} (hy : isConst y = true) : (eqGuard op t x y .nilIface .nilIface).run P w = .ok () w := by
  cases y <;> simp [isConst] at hy
  cases op <;> simp [eqGuard]

theorem isNil_spec {Z : Zone} {w : World} {e : Err} {u : Value} (h : ErrR M Z w e u) : (e.isNil = true ∧ u = .nilIface) ∨ (e.isNil = false ∧ ∃ t v, u = .iface t v) := by
  cases e with
  | nil => simp only [ErrR] at h; exact .inl ⟨rfl, h⟩
  | no n => simp only [ErrR] at h; exact .inr ⟨rfl, _, _, h⟩
  | «at» p e => obtain ⟨_, _, _, _, _, _, h, _⟩ := h; exact .inr ⟨rfl, _, _, h⟩

theorem lit_pin {t : Ty} {x : Option t.I} {u : Value} (h : isNilLit (.pin t x) u = true) : u = .pointer none := by
  cases u
  case pointer a => cases a with
    | none => rfl
    | some _ => cases h
  all_goals cases h
theorem lit_ptr {b : Bid} {i off : Nat} {u : Value} (h : isNilLit (.ptr b i off) u = true) : u = .pointer none := by
  cases u
  case pointer a => cases a with
    | none => rfl
    | some _ => cases h
  all_goals cases h
theorem eqIn_nn {P : Program} {t : TypeId} {ms : Array (String × TypeId)} (d : Nat) (hu : P.underlying t = some (.interface ms)) (w : World) : (Op.equalIn (d + 1) t .nilIface .nilIface).run P w = .ok true w := by simp [Op.equalIn, run_underlying hu]
theorem eqIn_in {P : Program} {t t' : TypeId} {v : Value} {ms : Array (String × TypeId)} (d : Nat) (hu : P.underlying t = some (.interface ms)) (w : World) : (Op.equalIn (d + 1) t (.iface t' v) .nilIface).run P w = .ok false w := by simp [Op.equalIn, run_underlying hu]
theorem eqIn_p {P : Program} {t el : TypeId} (d : Nat) (hu : P.underlying t = some (.pointer el)) (w : World) (p : Option Addr) : (Op.equalIn (d + 1) t (.pointer p) (.pointer none)).run P w = .ok p.isNone w := by
  cases p <;> simp [Op.equalIn, run_underlying hu]
theorem eq_nil_good {S : St} {o : Oper} {t ty : TypeId} {x y : Operand} {op : BinOp} {u : Value} {v : V} {b : Bool} {f : Option Nat} (hop : op = .eql ∨ op = .neq) (ho : o.op = .binOp op t x y ty) (hx : S.ev x = some v) (hy : S.ev y = some (.lf u))
    (hl : isNilLit v u = true) (hc : isConst y = true) (hn : nilB (M.P.underlying t) v = some (b, f)) (hp : ptrOk S v = true) : Good M S.fs o { v := .lf (.bool (if op = .eql then b else !b)), rds := idOf f } := by
  refine good_still fun σ Z a w hi hops ht => ⟨_, lf_rv rfl, ?_⟩
  have hv := hops x (by simp [ho, Op.operands]) v (by rw [fs_ev, hx])
  have e2 : a.eval y = u := lf_eval (hops y (by simp [ho, Op.operands]) _ (by rw [fs_ev, hy]))
  unfold nilB at hn
  split at hn
  · rename_i e
    split at hn
    · rename_i ms hu
      simp only [Option.some.injEq, Prod.mk.injEq] at hn
      obtain ⟨rfl, rfl⟩ := hn
      have hu2 : u = .nilIface := by unfold isNilLit at hl; cases u <;> first | rfl | cases hl
      subst hu2
      simp only [RV] at hv
      rcases isNil_spec hv with ⟨h1, h2⟩ | ⟨h1, t', v', h2⟩
      · exact nil_run hop ho h2 e2 (guard_nil hc) (by rw [h1]; exact eqIn_nn 9999 hu w) (.inr (.inr ⟨rfl, rfl⟩))
      · exact nil_run hop ho h2 e2 (guard_other (.inr ⟨_, _, rfl⟩)) (by rw [h1]; exact eqIn_in 9999 hu w) (.inr (.inl ⟨⟨_, _, rfl⟩, rfl⟩))
    · cases hn
  · rename_i t' y'
    split at hn
    · rename_i el hu
      simp only [Option.some.injEq, Prod.mk.injEq] at hn
      obtain ⟨rfl, rfl⟩ := hn
      have hu2 : u = .pointer none := lit_pin hl
      subst hu2
      simp only [RV] at hv
      cases y' with
      | none =>
        simp only [DV] at hv
        simp at hv
        exact nil_run hop ho hv e2 (guard_other (.inl ⟨_, rfl⟩)) (eqIn_p 9999 hu w _) (.inl ⟨⟨_, rfl⟩, rfl⟩)
      | some y' =>
        simp only [DV] at hv
        obtain ⟨_, _, _, _, _, _, _, _, hv, _⟩ := hv
        simp at hv
        exact nil_run hop ho hv e2 (guard_other (.inl ⟨_, rfl⟩)) (eqIn_p 9999 hu w _) (.inl ⟨⟨_, rfl⟩, rfl⟩)
    · cases hn
  · rename_i b' i off
    split at hn
    · rename_i el hu
      simp only [Option.some.injEq, Prod.mk.injEq] at hn
      obtain ⟨rfl, rfl⟩ := hn
      have hu2 : u = .pointer none := lit_ptr hl
      subst hu2
      obtain ⟨he, h1, h2⟩ := aliveB_spec (M := M) (show aliveB S.heap b' = true from hp)
      obtain ⟨s, hs, _⟩ := h2 σ Z w (ht b'.1 (by simp [idOf]) he h1)
      obtain ⟨r, _, hv⟩ := ptr_of hv hs
      exact nil_run hop ho hv e2 (guard_other (.inl ⟨_, rfl⟩)) (eqIn_p 9999 hu w _) (.inl ⟨⟨_, rfl⟩, rfl⟩)
    · cases hn
  · cases hn

theorem bif_eq (neg b : Bool) (op : BinOp) (h : neg = false ∧ op = .eql ∨ neg = true ∧ op = .neq) : (bif neg then !b else b) = if op = .eql then b else !b := by
  rcases h with ⟨rfl, rfl⟩ | ⟨rfl, rfl⟩ <;> rfl
theorem opEq_good {E : EqBy} {S : St} {o : Oper} {t ty : TypeId} {x y : Operand} {op : BinOp} {neg : Bool} {k : Out → Option α} {r : α} (hE : EqOk M.P E) (hop : neg = false ∧ op = .eql ∨ neg = true ∧ op = .neq) (ho : o.op = .binOp op t x y ty)
    (h : opEq M E S o t x y neg k = some r) : ∃ out, k out = some r ∧ Good M S.fs o out := by
  have hop' : op = .eql ∨ op = .neq := hop.imp And.right And.right
  unfold opEq at h
  split at h
  · exact opGen_good (by intro cs b e; rw [ho] at e; cases e) h
  · rename_i v u _ hx hy
    cases hc : (isNilLit v u && isConst y) with
    | false => simp [hc] at h
    | true =>
    simp only [hc, cond_true] at h
    simp only [Bool.and_eq_true] at hc
    split at h
    · rename_i b f hn
      cases hp : ptrOk S v with
      | false => simp [hp] at h
      | true =>
        simp only [hp, cond_true, bif_eq neg b op hop] at h
        exact ⟨_, h, eq_nil_good hop' ho hx hy hc.1 hc.2 hn hp⟩
    · cases h
  · rename_i u v hx hy
    split at h
    · rename_i us vs hu hv
      split at h
      · rename_i q hq
        rw [bif_eq neg q op hop] at h
        obtain ⟨h1, h2⟩ := hE _ _ _ _ hq
        refine ⟨_, h, good_still (rds := []) fun σ Z a w hi hops _ => ⟨_, lf_rv rfl, ?_⟩⟩
        have e1 : a.eval x = .agg us.toArray := (hops x (by simp [ho, Op.operands]) _ (by rw [fs_ev, hx])).flat (by simp [V.flat?, hu])
        have e2 : a.eval y = .agg vs.toArray := (hops y (by simp [ho, Op.operands]) _ (by rw [fs_ev, hy])).flat (by simp [V.flat?, hv])
        rcases hop' with rfl | rfl
        · simp [execOp, ho, e1, e2, run_eqGuard_agg w _ t x y us.toArray vs.toArray h2, run_eql_struct, h1]
        · simp [execOp, ho, e1, e2, run_eqGuard_agg w _ t x y us.toArray vs.toArray h2, run_neq_struct, h1]
      · cases h
    · cases h
  · cases h

theorem opField_good {S : St} {o : Oper} {s : TypeId} {x : Operand} {f : Nat} {u : V} {k : Out → Option α} {r : α} (ho : o.op = .fieldAddr s x f) (hx : S.ev x = some u) (h : opField M S s u f k = some r) :
    ∃ out, k out = some r ∧ Good M S.fs o out := by
  unfold opField at h
  split at h
  · rename_i fs hu
    split at h
    · rename_i fd hf
      split at h
      · rename_i i hi
        cases hz : Nat.beq i.size 0 with
        | true => simp [hz] at h
        | false =>
        simp only [hz, cond_false] at h
        have hz' : i.size ≠ 0 := by intro e; rw [e] at hz; cases hz
        split at h
        · rename_i b r' off
          cases hal : aliveB S.heap b with
          | false => simp [hal] at h
          | true =>
          simp only [hal, cond_true] at h
          obtain ⟨he, h1, h2⟩ := aliveB_spec (M := M) hal
          refine ⟨_, h, good_still fun σ Z a w hinv hops ht => ?_⟩
          obtain ⟨s', hs, _⟩ := h2 σ Z w (ht b.1 (by simp) he h1)
          obtain ⟨rr, h3, h4⟩ := ptr_of (hops x (by simp [ho, Op.operands]) _ (by rw [fs_ev, hx])) hs
          refine ⟨.pointer (some ⟨rr, r' * s'.row + (off + fd.offset), none⟩), by simp only [RV, hs]; exact ⟨rr, h3, rfl⟩, ?_⟩
          simp [execOp, ho, Instr.fieldAt, run_underlying hu, hf, h4, Instr.sureAddr, fieldPlace, run_sizeV hi, hz', add_off, Nat.add_assoc]
        · rename_i ty y
          split at h
          · rename_i z
            split at h
            · rename_i t' p hp
              refine ⟨_, h, good_still (rds := []) fun σ Z a w hinv hops _ => ?_⟩
              have hv := hops x (by simp [ho, Op.operands]) _ (by rw [fs_ev, hx])
              simp only [RV, DV] at hv
              obtain ⟨b, off, cs, el, fr, pre, row, post, k1, k2, k3, k4, k5, k6⟩ := hv
              simp at k1
              obtain ⟨pre2, mid, post2, q1, q2, q3⟩ := Ty.part_spec hp k6
              refine ⟨.pointer (some ⟨b, off + fd.offset, none⟩), ?_, ?_⟩
              · simp only [RV, DV]
                exact ⟨b, off + fd.offset, cs, el, fr, pre ++ pre2, mid, post2 ++ post, rfl, k2, k3, by rw [k4, q1]; simp, by rw [List.length_append, k5, q2], q3⟩
              · simp [execOp, ho, Instr.fieldAt, run_underlying hu, hf, k1, Instr.sureAddr, fieldPlace, run_sizeV hi, hz', add_off]
            · cases h
          · cases h
        · cases h
      · cases h
    · cases h
  · cases h

theorem inB_spec {i : Value} {n : Nat} {k : Nat → Option α} {r : α} (h : inB i n k = some r) : ∃ kd j, i = .int kd j ∧ 0 ≤ j ∧ j < (n : Int) ∧ k j.toNat = some r := by
  unfold inB at h
  split at h
  · rename_i kd j
    cases h0 : decide (0 ≤ j) with
    | false => simp [h0] at h
    | true =>
    cases h1 : Nat.blt j.toNat n with
    | false => simp [h0, h1] at h
    | true =>
    simp only [h0, h1, cond_true] at h
    have h0' : 0 ≤ j := by simpa using h0
    have h1' : j.toNat < n := Nat.le_of_ble_eq_true h1
    exact ⟨kd, j, rfl, h0', by omega, h⟩
  · cases h

theorem whole_spec {w : World} {st : Status} {e : TypeId} {row n : Nat} {cells : List Value} (h : BlkR w st e row n cells) (hrow : row ≠ 0) : ∃ s, st = .alive s ∧ s.row = row ∧ ((s.real = none ∧ n = 0 ∧ ∃ a, s.whole = .slice a 0 0) ∨ ∃ r, s.real = some r ∧ s.whole = .slice (some ⟨r, 0, none⟩) n s.cap ∧ n ≤ s.cap) := by
  obtain ⟨s, h1, h2, h3, h4⟩ := h
  refine ⟨s, h1, h2, ?_⟩
  rcases h4 with ⟨a, b, _, c⟩ | ⟨r, rest, a, b, c⟩
  · exact .inl ⟨a, b, c⟩
  · refine .inr ⟨r, a, (c hrow).2.2, ?_⟩
    have h5 := (c hrow).2.1
    have h6 := h3 hrow
    rw [List.length_append, h6] at h5
    have : n * row ≤ s.cap * row := by omega
    exact Nat.le_of_mul_le_mul_right this (Nat.pos_of_ne_zero hrow)
def WholeR (σ : Num) (H : List HE) (b : Bid) (n : Nat) : Prop := ∃ s, σ b.1 b.2 = .alive s ∧ s.row = rowSz H b.1 ∧ ((s.real = none ∧ n = 0 ∧ ∃ a, s.whole = .slice a 0 0) ∨ ∃ r, s.real = some r ∧ s.whole = .slice (some ⟨r, 0, none⟩) n s.cap ∧ n ≤ s.cap)
theorem lenAt_spec {H : List HE} {b : Bid} {n : Nat} (h : lenAt H b = some n) : ∃ he, H[b.1]? = some he ∧ ∀ (σ : Num) (Z : Zone) (w : World), HER M σ Z w b.1 he → WholeR σ H b n := by
  obtain ⟨F, kk⟩ := b
  unfold lenAt at h
  split at h
  · rename_i e row cs hh
    split at h
    · rename_i r h0
      have h0 : kk = 0 := h0
      subst h0
      cases h
      refine ⟨_, hh, fun σ Z w ⟨_, _, vs, n, k1, k2⟩ => ?_⟩
      have hn : cs.length / (r + 1) = n := by
        obtain ⟨s, _, _, q, _⟩ := k2
        rw [k1.length, q (by omega), Nat.mul_div_cancel _ (by omega)]
      obtain ⟨s, q1, q2, q3⟩ := whole_spec k2 (by omega)
      rw [hn]
      exact ⟨s, q1, by simp only [rowSz, hh, q2], q3⟩
    · cases h
  · rename_i e t fs xs hh
    split at h
    · rename_i h1
      simp only at h1; subst h1
      cases h
      refine ⟨_, hh, fun σ Z w ⟨_, rows, k1, k2⟩ => ?_⟩
      obtain ⟨s, q1, q2, q3⟩ := whole_spec k2 (Nat.pos_iff_ne_zero.1 t.size_pos)
      exact ⟨s, q1, by simp only [rowSz, hh, q2], q3⟩
    · cases h
  · rename_i e t xs hh
    split at h
    · rename_i ys hys
      cases h
      refine ⟨_, hh, fun σ Z w ⟨k1, _⟩ => ?_⟩
      obtain ⟨rows, q1, q2⟩ := k1 kk ys hys
      obtain ⟨s, q1, q4, q3⟩ := whole_spec q2 (Nat.pos_iff_ne_zero.1 t.size_pos)
      exact ⟨s, q1, by simp only [rowSz, hh, q4], q3⟩
    · cases h
  · cases h
theorem own_of {σ : Num} {Z : Zone} {w : World} {b : Bid} {v' : Value} {s : Slot} (h : RV M σ Z w (.own b) v') (hs : σ b.1 b.2 = .alive s) : v' = s.whole := by
  simp only [RV, hs] at h
  exact h.1
theorem sub_of {σ : Num} {Z : Zone} {w : World} {b : Bid} {lo n : Nat} {v' : Value} {s : Slot} (h : RV M σ Z w (.sub b lo n) v') (hs : σ b.1 b.2 = .alive s) : (s.real = none ∧ n = 0 ∧ ∃ a, v' = .slice a 0 0) ∨ ∃ r cap off, s.real = some r ∧ v' = .slice (some ⟨r, off, none⟩) n cap ∧ n ≤ cap ∧ (n = 0 ∨ off = lo * s.row) ∧ (lo = 0 → cap = s.cap ∧ off = 0) := by
  simp only [RV, hs] at h
  exact h.imp (fun h => ⟨h.1, h.2.1, h.2.2.2⟩) id
theorem sub_whole {σ : Num} {Z : Zone} {w : World} {b : Bid} {lo n : Nat} {v' : Value} {s : Slot} (h : RV M σ Z w (.sub b lo n) v') (hs : σ b.1 b.2 = .alive s) (hr : s.real = none) : v' = s.whole := by
  simp only [RV, hs] at h
  rcases h with h | ⟨r, _, _, h, _⟩
  · exact h.2.2.1
  · rw [hr] at h; cases h
end Go.Proofs.YtdjkdmjdcdljmaaGreatX
