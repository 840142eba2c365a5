/- Our small machine: each operation that it takes holds in the model's world. No condition beside those stated. -/
import Derived.Test.YtcgjfkaipbhpkaaGreatVxB

import Derived.Laws.CopyRow
import Derived.Laws.AppendOwn
namespace Go.Proofs.YtcgjfkaipbhpkaaGreatX
open Go.RowKit
set_option linter.unusedVariables false
set_option linter.unusedSimpArgs false

theorem opMove_good {P : Program} {S : St} {o : Oper} {x : Operand} {v : Value} (ho : ∀ ρ, execOp ρ o = pure (.value (ρ x))) (hx : S.ev x = some v) (hm : x ∈ o.op.operands) :
    Good P S.fs o S.heap.length ⟨v, .non, none⟩ := by
  intro σ a w hv _ _ K Q hK
  refine wp_value (w' := w) (v := a.eval x) (by rw [ho]; rfl) (hK _ w σ (hv x hm v (by rw [fs_ev, hx])) Moves.still)

theorem opPick_good {P : Program} {S : St} {o : Oper} {c x y z : Operand} {v : Value} {t : Bool} (ho : o.op = .pick c x y) (hc : S.ev c = some (.bool t)) (hz : z = if t then x else y) (hx : S.ev z = some v) :
    Good P S.fs o S.heap.length ⟨v, .non, none⟩ := by
  intro σ a w hv _ _ K Q hK
  have e : a.eval c = .bool t := RV.eq rfl (hv c (by simp [ho, Op.operands]) _ (by rw [fs_ev, hc]))
  have hz' : z ∈ o.op.operands := by cases t <;> simp [ho, Op.operands, hz]
  refine wp_value (w' := w) (v := a.eval z) ?_ (hK _ w σ (hv z hz' v (by rw [fs_ev, hx])) Moves.still)
  simp only [execOp, ho, e, asBool, hz]
  cases t <;> rfl

theorem opNew_good {P : Program} {S : St} {o : Oper} {t : TypeId} {cells : List Value}
    (ho : ∀ (σ : Num) (a : Act) (w : World), (∀ x ∈ o.op.operands, ∀ v, S.fs.ev x = some v → RV σ v (a.eval x)) → ∃ cs' : Array Value, All2 (RL σ) cells cs'.toList ∧
      (execOp a.eval o).run P w = .ok (.value (.pointer (some ⟨w.heap.size, 0, none⟩))) { w with heap := w.heap.push (.cells cs' t) }) :
    Good P S.fs o S.heap.length ⟨.pointer (some ⟨S.heap.length, 0, none⟩), .new { cells := cells, elem := t }, none⟩ := by
  intro σ a w hv _ hn K Q hK
  obtain ⟨cs', h1, h2⟩ := ho σ a w hv
  exact wp_value h2 (hK _ _ _ (.inl (.inl (.inr (.inl ⟨_, _, _, 0, by simp, rfl, rfl⟩)))) (moves_new (cap := 0) (blk := { cells := cells, elem := t }) (hn _ rfl) h1 (fun e => absurd rfl e)))

theorem opAlloc_good {P : Program} {S : St} {o : Oper} {t : TypeId} {i : TypeInfo} {v : Value} (ho : o.op = .alloc t) (hi : P.info? t = some i) (hz : i.zero = some v) (hf : aggB v = true) :
    Good P S.fs o S.heap.length ⟨.pointer (some ⟨S.heap.length, 0, none⟩), .new { cells := cellsOfL v, elem := t }, none⟩ := by
  refine opNew_good fun σ a w _ => ⟨v.cells, (RA.of_agg hf).cells, ?_⟩
  simp [execOp, ho, Instr.alloc, run_zeroV hi hz, newVar, newRow]

theorem opBox_good {P : Program} {S : St} {o : Oper} {t : TypeId} {x : Operand} {v : Value} (ho : o.op = .box t x) (hx : S.ev x = some v) (hf : isA v = true) :
    Good P S.fs o S.heap.length ⟨.pointer (some ⟨S.heap.length, 0, none⟩), .new { cells := cellsOfL v, elem := t }, none⟩ := by
  refine opNew_good fun σ a w hv => ⟨(a.eval x).cells, (RV.toRA hf (hv x (by simp [ho, Op.operands]) v (by rw [fs_ev, hx]))).cells, ?_⟩
  simp [execOp, ho, Instr.box, newVar, newRow]

theorem ptr_of {σ : Num} {b off : Nat} {v' : Value} (h : RV σ (.pointer (some ⟨b, off, none⟩)) v') : ∃ b' cap, σ b = some (b', cap) ∧ v' = .pointer (some ⟨b', off, none⟩) := by
  rcases h with (h | ⟨_, _, e, _⟩) | ⟨_, _, e, _⟩
  · rcases h with ⟨h, _⟩ | ⟨b1, o1, b', cap, h, e, e'⟩ | ⟨_, _, _, _, _, _, e, _⟩
    · cases h
    · cases e; exact ⟨b', cap, h, e'⟩
    · cases e
  · cases e
  · cases e
theorem slice_of {σ : Num} {b l c : Nat} {v' : Value} (h : RV σ (.slice (some ⟨b, 0, none⟩) l c) v') : ∃ b' cap, σ b = some (b', cap) ∧ v' = .slice (some ⟨b', 0, none⟩) l cap := by
  rcases h with (h | ⟨_, _, e, _⟩) | ⟨_, _, e, _⟩
  · rcases h with ⟨h, _⟩ | ⟨_, _, _, _, _, e, _⟩ | ⟨b1, b', cap, l1, c1, h, e, e'⟩
    · cases h
    · cases e
    · cases e; exact ⟨b', cap, h, e'⟩
  · cases e
  · cases e

theorem run_load_agg {P : Program} {w : World} {t : TypeId} {i : TypeInfo} {b off : Nat} {cs : Array Value} {e : TypeId} (ha : aggOk P t = some true) (hi : P.info? t = some i)
    (hg : w.heap[b]? = some (.cells cs e (0, 0))) (hl : off + i.size ≤ cs.size) :
    (loadVar t ⟨b, off, none⟩).run P w = .ok (.agg ((cs.toList.drop off).take i.size).toArray) w := by
  have hn : ((cs.toList.drop off).take i.size).length = i.size := by simp; omega
  have := run_loadCells_list (P := P) w ⟨b, off, none⟩ ((cs.toList.drop off).take i.size) fun j v hj => by
    rw [add_off]
    have hj' : j < i.size := by
      have := (List.getElem?_eq_some_iff.1 hj).1
      omega
    simp only [World.cell?, hg]
    rw [List.getElem?_take_of_lt hj', List.getElem?_drop, Array.getElem?_toList] at hj
    simpa using hj
  rw [hn] at this
  simp [loadVar, run_isAgg ha, run_sizeV hi, this]
theorem run_load_one {P : Program} {w : World} {t : TypeId} {b off : Nat} {cs : Array Value} {e : TypeId} {v : Value} (ha : aggOk P t = some false)
    (hg : w.heap[b]? = some (.cells cs e (0, 0))) (hl : cs.toList[off]? = some v) :
    (loadVar t ⟨b, off, none⟩).run P w = .ok v w := by
  have : w.cell? ⟨b, off, none⟩ = some v := by simp only [World.cell?, hg]; simpa using hl
  simp [loadVar, run_isAgg ha, this]

theorem opLoad_good {P : Program} {S : St} {o : Oper} {t : TypeId} {x : Operand} {b off : Nat} {blk : Blk} {v : Value} (ho : o.op = .load t x) (hx : S.ev x = some (.pointer (some ⟨b, off, none⟩)))
    (hb : S.heap[b]? = some blk) (hd : blk.dead = false)
    (hrun : ∀ (σ : Num) (w : World) (b' : Nat) (cs' rest : List Value), w.heap[b']? = some (.cells (cs' ++ rest).toArray blk.elem (0, 0)) → All2 (RL σ) blk.cells cs' →
      ∃ v', RV σ v v' ∧ (loadVar t ⟨b', off, none⟩).run P w = .ok v' w) :
    Good P S.fs o S.heap.length ⟨v, .non, some b⟩ := by
  intro σ a w hv ht _ K Q hK
  obtain ⟨b', cap, hb', e⟩ := ptr_of (hv x (by simp [ho, Op.operands]) _ (by rw [fs_ev, hx]))
  obtain ⟨b2, cap2, h1, h2⟩ := ht b (.inl rfl) blk hb
  obtain ⟨cs', rest, hc2, h3, _⟩ := h2 hd
  rw [hb'] at h1
  cases h1
  obtain ⟨v', h4, h5⟩ := hrun σ w b' cs' rest hc2 h3
  refine wp_value (w' := w) (v := v') ?_ (hK v' w σ h4 Moves.still)
  simp [execOp, ho, Instr.loadAt, e, Instr.sureAddr, h5]

theorem opStore_good {P : Program} {S : St} {o : Oper} {t : TypeId} {x y : Operand} {b off : Nat} {blk : Blk} {i : TypeInfo} {v : Value} (ho : o.op = .store t x y)
    (hx : S.ev x = some (.pointer (some ⟨b, off, none⟩))) (hy : S.ev y = some v) (hb : S.heap[b]? = some blk) (hd : blk.dead = false) (hi : P.info? t = some i)
    (hf : isA v = true) (hs : (cellsOfL v).length = i.size) (hl : off + i.size ≤ blk.cells.length) :
    Good P S.fs o S.heap.length ⟨undef, .put b { blk with cells := blk.cells.take off ++ (cellsOfL v ++ blk.cells.drop (off + i.size)) }, none⟩ := by
  intro σ a w hv ht _ K Q hK
  obtain ⟨b', cap, hb', e⟩ := ptr_of (hv x (by simp [ho, Op.operands]) _ (by rw [fs_ev, hx]))
  obtain ⟨b2, cap2, h1, h2⟩ := ht b (.inr ⟨_, rfl⟩) blk hb
  obtain ⟨cs', rest, hc2, h3, h4⟩ := h2 hd
  rw [hb'] at h1
  cases h1
  have hr := (RV.toRA hf (hv y (by simp [ho, Op.operands]) v (by rw [fs_ev, hy]))).cells
  have hlen := hr.length
  have hlen3 := h3.length
  have hst := run_storeCells_at P b' off blk.elem (cellsOfL (a.eval y)) 0 (cs' ++ rest).toArray w hc2 (by rw [← hlen]; simp; omega) hr.one
  have hsize : (a.eval y).cells.size = i.size := by rw [← hs, hlen]; simp [cellsOfL]
  have hcells : (cs' ++ rest).take off ++ (cellsOfL (a.eval y) ++ (cs' ++ rest).drop (off + i.size)) = (cs'.take off ++ (cellsOfL (a.eval y) ++ cs'.drop (off + i.size))) ++ rest := by
    rw [List.take_append_of_le_length (by omega), List.drop_append_of_le_length (by omega)]
    simp
  have hrun : (execOp a.eval o).run P w = .ok .skip (w.setRow b' ((cs'.take off ++ (cellsOfL (a.eval y) ++ cs'.drop (off + i.size))) ++ rest).toArray) := by
    rw [← hcells]
    simp only [execOp, ho, Instr.storeAt, e, Instr.sureAddr, Sem.run_bind, Sem.run_pure, Result.andThen_ok, storeVar, run_sizeV hi, hsize, ne_eq, not_true_eq_false, if_false]
    have hst' := hst
    unfold cellsOfL at hst'
    rw [hst']
    have hl2 : ((a.eval y).cells.toList).length = i.size := by simpa using hsize
    simp [cellsOfL, hsize]
  refine wp_skipV hrun (hK undef _ σ (RV.of_flat rfl) ⟨rfl, rfl, rfl, by simp [World.setRow], fun _ _ => rfl, fun _ => rfl, fun k hk hne => setRow_other w b' k _ (fun e => hne b _ rfl cap (by rw [e]; exact hb')), fun c x ec => ?_, (fun _ e => by cases e)⟩)
  cases ec
  refine ⟨b', cap, hb', fun _ => ⟨_, rest, setRow_heap w b' _ _ _ _ hc2, All2.append (h3.take off) (All2.append hr (h3.drop (off + i.size))), fun hrow => ?_⟩⟩
  obtain ⟨h5, h6⟩ := h4 hrow
  refine ⟨h5, ?_⟩
  rw [← h6]
  have := hr.length
  simp
  omega

theorem opField_good {P : Program} {S : St} {o : Oper} {s : TypeId} {x : Operand} {f b off : Nat} {fs : Array Field} {fd : Field} {i : TypeInfo} (ho : o.op = .fieldAddr s x f)
    (hx : S.ev x = some (.pointer (some ⟨b, off, none⟩))) (hu : P.underlying s = some (.struct fs)) (hf : fs[f]? = some fd) (hi : P.info? fd.type = some i) (hz : i.size ≠ 0) :
    Good P S.fs o S.heap.length ⟨.pointer (some ⟨b, off + fd.offset, none⟩), .non, none⟩ := by
  intro σ a w hv _ _ K Q hK
  obtain ⟨b', cap, hb', e⟩ := ptr_of (hv x (by simp [ho, Op.operands]) _ (by rw [fs_ev, hx]))
  refine wp_value (w' := w) (v := .pointer (some ⟨b', off + fd.offset, none⟩)) ?_ (hK _ w σ (.inl (.inl (.inr (.inl ⟨_, _, _, _, hb', rfl, rfl⟩)))) Moves.still)
  simp [execOp, ho, Instr.fieldAt, run_underlying hu, hf, e, Instr.sureAddr, fieldPlace, run_sizeV hi, hz, add_off]

theorem opPure_good {P : Program} {S : St} {o : Oper} {v : Value} (hf : flatB v = true)
    (hrun : ∀ (σ : Num) (a : Act) (w : World), (∀ x ∈ o.op.operands, ∀ v, S.fs.ev x = some v → RV σ v (a.eval x)) → (execOp a.eval o).run P w = .ok (.value v) w) :
    Good P S.fs o S.heap.length ⟨v, .non, none⟩ := by
  intro σ a w hv _ _ K Q hK
  exact wp_value (hrun σ a w hv) (hK v w σ (RV.of_flat hf) Moves.still)

theorem opQuo_good {P : Program} {S : St} {o : Oper} {op : BinOp} {t ty : TypeId} {x y : Operand} {u v : Value} {k : Out → Option Value} {r : Value} (hq : op = .quo ∨ op = .rem) (ho : o.op = .binOp op t x y ty)
    (hx : S.ev x = some u) (hy : S.ev y = some v) (h : opDiv op u v k = some r) : ∃ out, k out = some r ∧ Good P S.fs o S.heap.length out ∧ EffOk S.fs S.heap.length out := by
  rcases hq with rfl | rfl
  · cases u <;> simp only [opDiv, reduceCtorEq] at h
    case int j a =>
    cases v <;> simp only [opDiv, reduceCtorEq] at h
    case int j' b =>
    split at h
    · rename_i hj
      subst hj
      cases hb : (b == 0) with
      | true => simp [hb] at h
      | false =>
        simp only [hb, cond_false] at h
        refine ⟨_, h, opPure_good rfl fun σ a' w hv => ?_, EffOk.non⟩
        have e1 : a'.eval x = .int j a := RV.eq rfl (hv x (by simp [ho, Op.operands]) _ (by rw [fs_ev, hx]))
        have e2 : a'.eval y = .int j b := RV.eq rfl (hv y (by simp [ho, Op.operands]) _ (by rw [fs_ev, hy]))
        have hb' : b ≠ 0 := by simpa using hb
        simp [execOp, ho, e1, e2, eqGuard, binOp, Op.intDiv, hb']
    · cases h
  · cases u <;> simp only [opDiv, reduceCtorEq] at h
    case int j a =>
    cases v <;> simp only [opDiv, reduceCtorEq] at h
    case int j' b =>
    split at h
    · rename_i hj
      subst hj
      cases hb : (b == 0) with
      | true => simp [hb] at h
      | false =>
        simp only [hb, cond_false] at h
        refine ⟨_, h, opPure_good rfl fun σ a' w hv => ?_, EffOk.non⟩
        have e1 : a'.eval x = .int j a := RV.eq rfl (hv x (by simp [ho, Op.operands]) _ (by rw [fs_ev, hx]))
        have e2 : a'.eval y = .int j b := RV.eq rfl (hv y (by simp [ho, Op.operands]) _ (by rw [fs_ev, hy]))
        have hb' : b ≠ 0 := by simpa using hb
        simp [execOp, ho, e1, e2, eqGuard, binOp, Op.intDiv, hb']
    · cases h

theorem opSh_good {P : Program} {S : St} {o : Oper} {op : BinOp} {t ty : TypeId} {x y : Operand} {u v : Value} {k : Out → Option Value} {r : Value} (hq : op = .shl ∨ op = .shr) (ho : o.op = .binOp op t x y ty)
    (hx : S.ev x = some u) (hy : S.ev y = some v) (h : opSh op u v k = some r) : ∃ out, k out = some r ∧ Good P S.fs o S.heap.length out ∧ EffOk S.fs S.heap.length out := by
  rcases hq with rfl | rfl
  all_goals
    cases u <;> simp only [opSh, reduceCtorEq] at h
    case int j a =>
    cases v <;> simp only [opSh, reduceCtorEq] at h
    case int j' b =>
    cases hb : decide (b < 0) with
    | true => simp [hb] at h
    | false =>
      simp only [hb, cond_false] at h
      refine ⟨_, h, opPure_good rfl fun σ a' w hv => ?_, EffOk.non⟩
      have e1 : a'.eval x = .int j a := RV.eq rfl (hv x (by simp [ho, Op.operands]) _ (by rw [fs_ev, hx]))
      have e2 : a'.eval y = .int j' b := RV.eq rfl (hv y (by simp [ho, Op.operands]) _ (by rw [fs_ev, hy]))
      have hb' : ¬ b < 0 := by simpa using hb
      simp only [execOp, ho, e1, e2, Sem.run_bind, eqGuard]
      simp [binOp, Op.shift, hb']

theorem opEq_good {P : Program} {S : St} {o : Oper} {op : BinOp} {t ty : TypeId} {x y : Operand} {u v : Array Value} {r : Bool} {E : EqBy} (hE : EqOk P E) (hq : op = .eql ∨ op = .neq) (ho : o.op = .binOp op t x y ty)
    (hx : S.ev x = some (.agg u)) (hy : S.ev y = some (.agg v)) (hu : flatB (.agg u) = true) (hv : flatB (.agg v) = true) (h : E t (.agg u) (.agg v) = some r) :
    Good P S.fs o S.heap.length ⟨.bool (if op = .eql then r else !r), .non, none⟩ := by
  obtain ⟨h1, h2⟩ := hE _ _ _ _ h
  refine opPure_good rfl fun σ a w hop => ?_
  have e1 : a.eval x = .agg u := RV.eq hu (hop x (by simp [ho, Op.operands]) _ (by rw [fs_ev, hx]))
  have e2 : a.eval y = .agg v := RV.eq hv (hop y (by simp [ho, Op.operands]) _ (by rw [fs_ev, hy]))
  rcases hq with rfl | rfl
  · simp [execOp, ho, e1, e2, run_eqGuard_agg w _ t x y u v h2, run_eql_struct, h1]
  · simp [execOp, ho, e1, e2, run_eqGuard_agg w _ t x y u v h2, run_neq_struct, h1]

theorem opCall_good {P : Program} {C : CallsBy} {S : St} {o : Oper} {c : Call} {f : FuncId} {vs : List Value} {k : Out → Option Value} {r : Value} (hC : CallsOk P C) (ho : o.op = .call c) (hc : c.callee = .value (.func f))
    (ha : S.all c.args.toList = some vs) (h : C f vs (fun v => bif flatB v then k ⟨v, .non, none⟩ else none) = some r) :
    ∃ out, k out = some r ∧ Good P S.fs o S.heap.length out ∧ EffOk S.fs S.heap.length out := by
  obtain ⟨v, hk, ⟨fn, hf, hname, hbody⟩, hcall⟩ := hC _ _ _ _ h
  cases hfl : flatB v with
  | false => simp [hfl] at hk
  | true =>
    simp only [hfl, cond_true] at hk
    refine ⟨_, hk, ?_, EffOk.non⟩
    intro σ a w hv _ _ K Q hK
    have hargs : c.args.map a.eval = vs.toArray := by
      have := (all_spec ha σ a fun x hx => hv x (by simp only [ho, Op.operands, Call.operands, hc]; simp; right; simpa using hx)).1
      rw [← Array.toList_inj]; simpa using this
    have h1 : fn.name ≠ "runtime.NumGoroutine" := by simpa using hname
    obtain ⟨cc, hcc⟩ := Option.isSome_iff_exists.1 hbody
    have hrun : (execOp a.eval o).run P w = .ok (.enter f vs.toArray) w := by
      simp [execOp, ho, resolve, hc, Deferred.ofValue, invoke, Act.eval, hargs, callFunc, hf, h1, hcc]
    unfold Oper.wp
    rw [hrun, Oper.upon_enter]
    refine (hcall w).mono fun e w' ⟨he, hb⟩ => ?_
    subst he
    exact hK v w' σ (RV.of_flat hfl) (Moves.of_below hb)

/-! ### Addresses tested, strings and slices -/
theorem opNil_good {P : Program} {S : St} {o : Oper} {x : Operand} {a0 : Addr} (ho : o.op = .nilCheck x) (hx : S.ev x = some (.pointer (some a0))) :
    Good P S.fs o S.heap.length ⟨.pointer (some a0), .non, none⟩ := by
  intro σ a w hv _ _ K Q hK
  have hrv := hv x (by simp [ho, Op.operands]) _ (by rw [fs_ev, hx])
  have e : ∃ a1, a.eval x = .pointer (some a1) := by
    rcases hrv with (h | ⟨_, _, e, _⟩) | ⟨_, _, e, _⟩
    · rcases h with ⟨h, _⟩ | ⟨_, _, _, _, _, _, e⟩ | ⟨_, _, _, _, _, _, e, _⟩
      · cases h
      · exact ⟨_, e⟩
      · cases e
    · cases e
    · cases e
  obtain ⟨a1, e⟩ := e
  rw [e] at hrv
  refine wp_value (w' := w) (v := .pointer (some a1)) ?_ (hK _ w σ hrv Moves.still)
  simp [execOp, ho, e]
theorem run_vpart {P : Program} {t : TypeId} {cs : Array Value} {off : Nat} {v : Value} (h : vpart P t cs off = some v) (w : World) : (part t cs off).run P w = .ok v w := by
  unfold vpart at h
  unfold part
  split at h
  · rename_i ha
    split at h
    · rename_i i hi
      cases h
      simp [run_isAgg ha, run_sizeV hi]
    · cases h
  · rename_i ha
    simp [run_isAgg ha, h]
  · cases h

theorem opIndex_good {P : Program} {S : St} {o : Oper} {t : TypeId} {x i : Operand} {u v : Value} {k : Out → Option Value} {r : Value} (ho : o.op = .index t x i) (hx : S.ev x = some u) (hi : S.ev i = some v)
    (h : opIndex P t u v k = some r) : ∃ out, k out = some r ∧ Good P S.fs o S.heap.length out ∧ EffOk S.fs S.heap.length out := by
  unfold opIndex at h
  split at h
  · rename_i s j n hu
    cases h0 : decide (0 ≤ n) with
    | false => simp [h0] at h
    | true =>
    cases h1 : decide (n < (s.size : Int)) with
    | false => simp [h0, h1] at h
    | true =>
    simp only [h0, h1, cond_true] at h
    refine ⟨_, h, opPure_good rfl fun σ a w hv => ?_, EffOk.non⟩
    have e1 : a.eval x = .string s := RV.eq rfl (hv x (by simp [ho, Op.operands]) _ (by rw [fs_ev, hx]))
    have e2 : a.eval i = .int j n := RV.eq rfl (hv i (by simp [ho, Op.operands]) _ (by rw [fs_ev, hi]))
    have h0' : 0 ≤ n := by simpa using h0
    have h1' : n < (s.size : Int) := by simpa using h1
    have hlt : n.toNat < s.size := by omega
    simp [execOp, ho, e1, e2, Instr.index, asIntOf, run_underlying hu, h0', hlt, byteAt]
  · rename_i len e cs j n hu
    split at h
    · rename_i ti hti
      cases h0 : decide (0 ≤ n) with
      | false => simp [h0] at h
      | true =>
      cases h1 : decide (n < (len : Int)) with
      | false => simp [h0, h1] at h
      | true =>
      simp only [h0, h1, cond_true] at h
      split at h
      · rename_i v hv
        cases hfa : flatB (.agg cs) with
        | false => simp [hfa] at h
        | true =>
        cases hfv : flatB v with
        | false => simp [hfv] at h
        | true =>
        simp only [hfa, hfv, Bool.and_self, cond_true] at h
        refine ⟨_, h, opPure_good hfv fun σ a w hop => ?_, EffOk.non⟩
        have e1 : a.eval x = .agg cs := RV.eq hfa (hop x (by simp [ho, Op.operands]) _ (by rw [fs_ev, hx]))
        have e2 : a.eval i = .int j n := RV.eq rfl (hop i (by simp [ho, Op.operands]) _ (by rw [fs_ev, hi]))
        have h0' : 0 ≤ n := by simpa using h0
        have h1' : n < (len : Int) := by simpa using h1
        simp [execOp, ho, e1, e2, Instr.index, asIntOf, run_underlying hu, h0', h1', run_sizeV hti, run_vpart hv w]
      · cases h
    · cases h
  · cases h
theorem opLen_good {P : Program} {S : St} {o : Oper} {c : Call} {x : Operand} {u : Value} {k : Out → Option Value} {r : Value} (ho : o.op = .call c) (hc : c.callee = .builtin .len) (hargs : c.args.toList = [x]) (hx : S.ev x = some u)
    (h : opLen P (c.argTypes[0]?) u k = some r) : ∃ out, k out = some r ∧ Good P S.fs o S.heap.length out ∧ EffOk S.fs S.heap.length out := by
  have hargs' : c.args = #[x] := by rw [← Array.toList_inj]; exact hargs
  have hmem : x ∈ o.op.operands := by simp [ho, Op.operands, Call.operands, hc, hargs']
  unfold opLen at h
  split at h
  · rename_i t ht
    split at h
    · rename_i e A n cap' hu
      refine ⟨_, h, opPure_good rfl fun σ a w hv => ?_, EffOk.non⟩
      have hrv := hv x hmem _ (by rw [fs_ev, hx])
      have e1 : ∃ A' c', a.eval x = .slice A' n c' := by
        rcases hrv with (h | ⟨_, _, e, _⟩) | ⟨_, _, e, _⟩
        · rcases h with ⟨_, e⟩ | ⟨_, _, _, _, _, e, _⟩ | ⟨_, _, _, _, _, _, e, e'⟩
          · exact ⟨_, _, e⟩
          · cases e
          · cases e; exact ⟨_, _, e'⟩
        · cases e
        · cases e
      obtain ⟨A', c', e1⟩ := e1
      simp [execOp, ho, resolve, hc, hargs', e1, invoke, builtin, Builtin.len_, ht, run_underlying hu, goInt]
    · rename_i s hu
      refine ⟨_, h, opPure_good rfl fun σ a w hv => ?_, EffOk.non⟩
      have e1 : a.eval x = .string s := RV.eq rfl (hv x hmem _ (by rw [fs_ev, hx]))
      simp [execOp, ho, resolve, hc, hargs', e1, invoke, builtin, Builtin.len_, ht, run_underlying hu, goInt]
    · cases h
  · cases h
theorem opIndexAddr_good {P : Program} {S : St} {o : Oper} {t : TypeId} {x i : Operand} {u v : Value} {k : Out → Option Value} {r : Value} (ho : o.op = .indexAddr t x i) (hx : S.ev x = some u) (hi : S.ev i = some v)
    (h : opIndexAddr P t u v k = some r) : ∃ out, k out = some r ∧ Good P S.fs o S.heap.length out ∧ EffOk S.fs S.heap.length out := by
  unfold opIndexAddr at h
  split at h
  · rename_i e b len c j n hu
    split at h
    · rename_i ti hti
      cases h0 : decide (0 ≤ n) with
      | false => simp [h0] at h
      | true =>
      cases h1 : decide (n < (len : Int)) with
      | false => simp [h0, h1] at h
      | true =>
      simp only [h0, h1, cond_true] at h
      refine ⟨_, h, fun σ a w hv _ _ K Q hK => ?_, EffOk.non⟩
      obtain ⟨b', cap, hb', e1⟩ := slice_of (hv x (by simp [ho, Op.operands]) _ (by rw [fs_ev, hx]))
      have e2 : a.eval i = .int j n := RV.eq rfl (hv i (by simp [ho, Op.operands]) _ (by rw [fs_ev, hi]))
      have h0' : 0 ≤ n := by simpa using h0
      have h1' : n < (len : Int) := by simpa using h1
      refine wp_value (w' := w) (v := .pointer (some ⟨b', n.toNat * ti.size, none⟩)) ?_ (hK _ w σ (.inl (.inl (.inr (.inl ⟨_, _, _, _, hb', rfl, rfl⟩)))) Moves.still)
      have := add_off b' 0 (n.toNat * ti.size)
      simp only [Nat.zero_add] at this
      simp [execOp, ho, e1, e2, Instr.indexAt, asIntOf, run_underlying hu, h0', h1', run_sizeV hti, this]
    · cases h
  · rename_i len e b off j n hu
    split at h
    · rename_i ti hti
      cases h0 : decide (0 ≤ n) with
      | false => simp [h0] at h
      | true =>
      cases h1 : decide (n < (len : Int)) with
      | false => simp [h0, h1] at h
      | true =>
      simp only [h0, h1, cond_true] at h
      refine ⟨_, h, fun σ a w hv _ _ K Q hK => ?_, EffOk.non⟩
      obtain ⟨b', cap, hb', e1⟩ := ptr_of (hv x (by simp [ho, Op.operands]) _ (by rw [fs_ev, hx]))
      have e2 : a.eval i = .int j n := RV.eq rfl (hv i (by simp [ho, Op.operands]) _ (by rw [fs_ev, hi]))
      have h0' : 0 ≤ n := by simpa using h0
      have h1' : n < (len : Int) := by simpa using h1
      refine wp_value (w' := w) (v := .pointer (some ⟨b', off + n.toNat * ti.size, none⟩)) ?_ (hK _ w σ (.inl (.inl (.inr (.inl ⟨_, _, _, _, hb', rfl, rfl⟩)))) Moves.still)
      simp [execOp, ho, e1, e2, Instr.indexAt, asIntOf, run_underlying hu, h0', h1', run_sizeV hti, Instr.sureAddr, add_off]
    · cases h
  · cases h
theorem opExtract_good {P : Program} {S : St} {o : Oper} {x : Operand} {i : Nat} {vs : Array Value} {v : Value} (ho : o.op = .extract x i) (hx : S.ev x = some (.tuple vs)) (hv : vs[i]? = some v) :
    Good P S.fs o S.heap.length ⟨v, .non, none⟩ := by
  intro σ a w hop _ _ K Q hK
  have hrv := hop x (by simp [ho, Op.operands]) _ (by rw [fs_ev, hx])
  have e : ∃ vs', a.eval x = .tuple vs' ∧ All2 (RA σ) vs.toList vs'.toList := by
    rcases hrv with (h | ⟨_, _, e, _⟩) | ⟨_, cs', e, e', h⟩
    · rcases h with ⟨h, _⟩ | ⟨_, _, _, _, _, e, _⟩ | ⟨_, _, _, _, _, _, e, _⟩
      · cases h
      · cases e
      · cases e
    · cases e
    · cases e; exact ⟨cs', e', h⟩
  obtain ⟨vs', e, h⟩ := e
  obtain ⟨v', h1, h2⟩ := h.get (i := i) (by simpa using hv)
  refine wp_value (w' := w) (v := v') ?_ (hK v' w σ (.inl h2) Moves.still)
  have h1' : vs'[i]? = some v' := by simpa using h1
  simp [execOp, ho, e, Instr.extract, h1']
end Go.Proofs.YtcgjfkaipbhpkaaGreatX
