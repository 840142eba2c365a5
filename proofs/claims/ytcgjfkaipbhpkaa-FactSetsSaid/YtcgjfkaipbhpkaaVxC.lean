/- Our small machine: each operation that it takes holds in the model's world. No condition beside those stated. -/
import Derived.Test.YtcgjfkaipbhpkaaVxB

import Derived.Laws.CopyRow
namespace Go.Proofs.YtcgjfkaipbhpkaaX
open Go.RowKit
set_option linter.unusedVariables false
set_option linter.unusedSimpArgs false

theorem opMove_good {P : Program} {S : St} {o : Oper} {x : Operand} {v : Value} (ho : ∀ ρ, execOp ρ o = pure (.value (ρ x))) (hx : S.ev x = some v) (hm : x ∈ o.op.operands) :
    Good P S.fs o S.heap.length ⟨v, .non, none⟩ := by
  intro σ a w hv _ _ K Q hK
  refine wp_value (w' := w) (v := a.eval x) (by rw [ho]; rfl) (hK _ w σ (hv x hm v (by rw [fs_ev, hx])) ⟨rfl, Below.refl _ _⟩)

theorem opPick_good {P : Program} {S : St} {o : Oper} {c x y z : Operand} {v : Value} {t : Bool} (ho : o.op = .pick c x y) (hc : S.ev c = some (.bool t)) (hz : z = if t then x else y) (hx : S.ev z = some v) :
    Good P S.fs o S.heap.length ⟨v, .non, none⟩ := by
  intro σ a w hv _ _ K Q hK
  have e : a.eval c = .bool t := RV.eq rfl (hv c (by simp [ho, Op.operands]) _ (by rw [fs_ev, hc]))
  have hz' : z ∈ o.op.operands := by cases t <;> simp [ho, Op.operands, hz]
  refine wp_value (w' := w) (v := a.eval z) ?_ (hK _ w σ (hv z hz' v (by rw [fs_ev, hx])) ⟨rfl, Below.refl _ _⟩)
  simp only [execOp, ho, e, asBool, hz]
  cases t <;> rfl

theorem opNew_good {P : Program} {S : St} {o : Oper} {t : TypeId} {cells : List Value}
    (ho : ∀ (σ : Num) (a : Act) (w : World), (∀ x ∈ o.op.operands, ∀ v, S.fs.ev x = some v → RV σ v (a.eval x)) → ∃ cs' : Array Value, All2 (RL σ) cells cs'.toList ∧
      (execOp a.eval o).run P w = .ok (.value (.pointer (some ⟨w.heap.size, 0, none⟩))) { w with heap := w.heap.push (.cells cs' t) }) :
    Good P S.fs o S.heap.length ⟨.pointer (some ⟨S.heap.length, 0, none⟩), .new ⟨cells, t⟩, none⟩ := by
  intro σ a w hv _ hn K Q hK
  obtain ⟨cs', h1, h2⟩ := ho σ a w hv
  exact wp_value h2 (hK _ _ _ (.inl (.inl (.inr ⟨_, _, _, by simp, rfl, rfl⟩))) (moves_new (blk := ⟨cells, t⟩) (hn _ rfl) h1))

theorem opAlloc_good {P : Program} {S : St} {o : Oper} {t : TypeId} {i : TypeInfo} {v : Value} (ho : o.op = .alloc t) (hi : P.info? t = some i) (hz : i.zero = some v) (hf : aggB v = true) :
    Good P S.fs o S.heap.length ⟨.pointer (some ⟨S.heap.length, 0, none⟩), .new ⟨cellsOfL v, t⟩, none⟩ := by
  refine opNew_good fun σ a w _ => ⟨v.cells, (RA.of_agg hf).cells, ?_⟩
  simp [execOp, ho, Instr.alloc, run_zeroV hi hz, newVar, newRow]

theorem opBox_good {P : Program} {S : St} {o : Oper} {t : TypeId} {x : Operand} {v : Value} (ho : o.op = .box t x) (hx : S.ev x = some v) (hf : isA v = true) :
    Good P S.fs o S.heap.length ⟨.pointer (some ⟨S.heap.length, 0, none⟩), .new ⟨cellsOfL v, t⟩, none⟩ := by
  refine opNew_good fun σ a w hv => ⟨(a.eval x).cells, (RV.toRA hf (hv x (by simp [ho, Op.operands]) v (by rw [fs_ev, hx]))).cells, ?_⟩
  simp [execOp, ho, Instr.box, newVar, newRow]

theorem ptr_of {σ : Num} {b off : Nat} {v' : Value} (h : RV σ (.pointer (some ⟨b, off, none⟩)) v') : ∃ b', σ b = some b' ∧ v' = .pointer (some ⟨b', off, none⟩) := by
  rcases h with (h | ⟨_, _, e, _⟩) | ⟨_, _, e, _⟩
  · rcases h with ⟨h, _⟩ | ⟨b1, o1, b', h, e, e'⟩
    · cases h
    · cases e; exact ⟨b', h, e'⟩
  · cases e
  · cases e

theorem run_load_agg {P : Program} {w : World} {t : TypeId} {i : TypeInfo} {b off : Nat} {cs : Array Value} {e : TypeId} (ha : aggOk P t = some true) (hi : P.info? t = some i)
    (hg : w.heap[b]? = some (.cells cs e (0, 0))) (hl : off + i.size ≤ cs.size) :
    (loadVar t ⟨b, off, none⟩).run P w = .ok (.agg ((cs.toList.drop off).take i.size).toArray) w := by
  have hn : ((cs.toList.drop off).take i.size).length = i.size := by simp; omega
  have := run_loadCells_list (P := P) w ⟨b, off, none⟩ ((cs.toList.drop off).take i.size) fun j v hj => by
    rw [add_off]
    have hj' : j < i.size := by
      have := (List.getElem?_eq_some_iff.1 hj).1
      omega
    simp only [World.cell?, hg]
    rw [List.getElem?_take_of_lt hj', List.getElem?_drop, Array.getElem?_toList] at hj
    simpa using hj
  rw [hn] at this
  simp [loadVar, run_isAgg ha, run_sizeV hi, this]
theorem run_load_one {P : Program} {w : World} {t : TypeId} {b off : Nat} {cs : Array Value} {e : TypeId} {v : Value} (ha : aggOk P t = some false)
    (hg : w.heap[b]? = some (.cells cs e (0, 0))) (hl : cs.toList[off]? = some v) :
    (loadVar t ⟨b, off, none⟩).run P w = .ok v w := by
  have : w.cell? ⟨b, off, none⟩ = some v := by simp only [World.cell?, hg]; simpa using hl
  simp [loadVar, run_isAgg ha, this]

theorem opLoad_good {P : Program} {S : St} {o : Oper} {t : TypeId} {x : Operand} {b off : Nat} {blk : Blk} {v : Value} (ho : o.op = .load t x) (hx : S.ev x = some (.pointer (some ⟨b, off, none⟩)))
    (hb : S.heap[b]? = some blk)
    (hrun : ∀ (σ : Num) (w : World) (b' : Nat) (cs' : Array Value), w.heap[b']? = some (.cells cs' blk.elem (0, 0)) → All2 (RL σ) blk.cells cs'.toList →
      ∃ v', RV σ v v' ∧ (loadVar t ⟨b', off, none⟩).run P w = .ok v' w) :
    Good P S.fs o S.heap.length ⟨v, .non, some b⟩ := by
  intro σ a w hv ht _ K Q hK
  obtain ⟨b', hb', e⟩ := ptr_of (hv x (by simp [ho, Op.operands]) _ (by rw [fs_ev, hx]))
  obtain ⟨b2, cs', h1, h2, h3⟩ := ht b (.inl rfl) blk hb
  rw [hb'] at h1
  cases h1
  obtain ⟨v', h4, h5⟩ := hrun σ w b' cs' h2 h3
  refine wp_value (w' := w) (v := v') ?_ (hK v' w σ h4 ⟨rfl, Below.refl _ _⟩)
  simp [execOp, ho, Instr.loadAt, e, Instr.sureAddr, h5]

theorem opStore_good {P : Program} {S : St} {o : Oper} {t : TypeId} {x y : Operand} {b off : Nat} {blk : Blk} {i : TypeInfo} {v : Value} (ho : o.op = .store t x y)
    (hx : S.ev x = some (.pointer (some ⟨b, off, none⟩))) (hy : S.ev y = some v) (hb : S.heap[b]? = some blk) (hi : P.info? t = some i)
    (hf : isA v = true) (hs : (cellsOfL v).length = i.size) (hl : off + i.size ≤ blk.cells.length) :
    Good P S.fs o S.heap.length ⟨undef, .put b ⟨blk.cells.take off ++ (cellsOfL v ++ blk.cells.drop (off + i.size)), blk.elem⟩, none⟩ := by
  intro σ a w hv ht _ K Q hK
  obtain ⟨b', hb', e⟩ := ptr_of (hv x (by simp [ho, Op.operands]) _ (by rw [fs_ev, hx]))
  obtain ⟨b2, cs', h1, h2, h3⟩ := ht b (.inr ⟨_, rfl⟩) blk hb
  rw [hb'] at h1
  cases h1
  have hr := (RV.toRA hf (hv y (by simp [ho, Op.operands]) v (by rw [fs_ev, hy]))).cells
  have hlen := hr.length
  have hlen3 := h3.length
  have hst := run_storeCells_at P b' off blk.elem (cellsOfL (a.eval y)) 0 cs' w h2 (by rw [← hlen]; simp at hlen3; omega) hr.one
  have hsize : (a.eval y).cells.size = i.size := by rw [← hs, hlen]; simp [cellsOfL]
  have hrun : (execOp a.eval o).run P w = .ok .skip (w.setRow b' (cs'.toList.take off ++ (cellsOfL (a.eval y) ++ cs'.toList.drop (off + i.size))).toArray) := by
    simp only [execOp, ho, Instr.storeAt, e, Instr.sureAddr, Sem.run_bind, Sem.run_pure, Result.andThen_ok, storeVar, run_sizeV hi, hsize, ne_eq, not_true_eq_false, if_false]
    have hst' := hst
    unfold cellsOfL at hst'
    rw [hst']
    have hl2 : ((a.eval y).cells.toList).length = i.size := by simpa using hsize
    simp [cellsOfL, hsize]
  refine wp_skipV hrun (hK undef _ σ (RV.of_flat rfl) ⟨rfl, b', _, hb', rfl, rfl, rfl, by simp [World.setRow], fun k hk => setRow_other w b' k _ hk, setRow_heap w b' cs' _ _ _ h2, ?_⟩)
  simpa using All2.append (h3.take off) (All2.append hr (h3.drop (off + i.size)))

theorem opField_good {P : Program} {S : St} {o : Oper} {s : TypeId} {x : Operand} {f b off : Nat} {fs : Array Field} {fd : Field} {i : TypeInfo} (ho : o.op = .fieldAddr s x f)
    (hx : S.ev x = some (.pointer (some ⟨b, off, none⟩))) (hu : P.underlying s = some (.struct fs)) (hf : fs[f]? = some fd) (hi : P.info? fd.type = some i) (hz : i.size ≠ 0) :
    Good P S.fs o S.heap.length ⟨.pointer (some ⟨b, off + fd.offset, none⟩), .non, none⟩ := by
  intro σ a w hv _ _ K Q hK
  obtain ⟨b', hb', e⟩ := ptr_of (hv x (by simp [ho, Op.operands]) _ (by rw [fs_ev, hx]))
  refine wp_value (w' := w) (v := .pointer (some ⟨b', off + fd.offset, none⟩)) ?_ (hK _ w σ (.inl (.inl (.inr ⟨_, _, _, hb', rfl, rfl⟩))) ⟨rfl, Below.refl _ _⟩)
  simp [execOp, ho, Instr.fieldAt, run_underlying hu, hf, e, Instr.sureAddr, fieldPlace, run_sizeV hi, hz, add_off]

theorem opPure_good {P : Program} {S : St} {o : Oper} {v : Value} (hf : flatB v = true)
    (hrun : ∀ (σ : Num) (a : Act) (w : World), (∀ x ∈ o.op.operands, ∀ v, S.fs.ev x = some v → RV σ v (a.eval x)) → (execOp a.eval o).run P w = .ok (.value v) w) :
    Good P S.fs o S.heap.length ⟨v, .non, none⟩ := by
  intro σ a w hv _ _ K Q hK
  exact wp_value (hrun σ a w hv) (hK v w σ (RV.of_flat hf) ⟨rfl, Below.refl _ _⟩)

theorem opQuo_good {P : Program} {S : St} {o : Oper} {op : BinOp} {t ty : TypeId} {x y : Operand} {u v : Value} {k : Out → Option Value} {r : Value} (hq : op = .quo ∨ op = .rem) (ho : o.op = .binOp op t x y ty)
    (hx : S.ev x = some u) (hy : S.ev y = some v) (h : opDiv op u v k = some r) : ∃ out, k out = some r ∧ Good P S.fs o S.heap.length out ∧ (∀ b, Touch out b → b < S.heap.length) := by
  rcases hq with rfl | rfl
  · cases u <;> simp only [opDiv, reduceCtorEq] at h
    case int j a =>
    cases v <;> simp only [opDiv, reduceCtorEq] at h
    case int j' b =>
    split at h
    · rename_i hj
      subst hj
      cases hb : (b == 0) with
      | true => simp [hb] at h
      | false =>
        simp only [hb, cond_false] at h
        refine ⟨_, h, opPure_good rfl fun σ a' w hv => ?_, no_touch⟩
        have e1 : a'.eval x = .int j a := RV.eq rfl (hv x (by simp [ho, Op.operands]) _ (by rw [fs_ev, hx]))
        have e2 : a'.eval y = .int j b := RV.eq rfl (hv y (by simp [ho, Op.operands]) _ (by rw [fs_ev, hy]))
        have hb' : b ≠ 0 := by simpa using hb
        simp [execOp, ho, e1, e2, eqGuard, binOp, Op.intDiv, hb']
    · cases h
  · cases u <;> simp only [opDiv, reduceCtorEq] at h
    case int j a =>
    cases v <;> simp only [opDiv, reduceCtorEq] at h
    case int j' b =>
    split at h
    · rename_i hj
      subst hj
      cases hb : (b == 0) with
      | true => simp [hb] at h
      | false =>
        simp only [hb, cond_false] at h
        refine ⟨_, h, opPure_good rfl fun σ a' w hv => ?_, no_touch⟩
        have e1 : a'.eval x = .int j a := RV.eq rfl (hv x (by simp [ho, Op.operands]) _ (by rw [fs_ev, hx]))
        have e2 : a'.eval y = .int j b := RV.eq rfl (hv y (by simp [ho, Op.operands]) _ (by rw [fs_ev, hy]))
        have hb' : b ≠ 0 := by simpa using hb
        simp [execOp, ho, e1, e2, eqGuard, binOp, Op.intDiv, hb']
    · cases h

theorem opSh_good {P : Program} {S : St} {o : Oper} {op : BinOp} {t ty : TypeId} {x y : Operand} {u v : Value} {k : Out → Option Value} {r : Value} (hq : op = .shl ∨ op = .shr) (ho : o.op = .binOp op t x y ty)
    (hx : S.ev x = some u) (hy : S.ev y = some v) (h : opSh op u v k = some r) : ∃ out, k out = some r ∧ Good P S.fs o S.heap.length out ∧ (∀ b, Touch out b → b < S.heap.length) := by
  rcases hq with rfl | rfl
  all_goals
    cases u <;> simp only [opSh, reduceCtorEq] at h
    case int j a =>
    cases v <;> simp only [opSh, reduceCtorEq] at h
    case int j' b =>
    cases hb : decide (b < 0) with
    | true => simp [hb] at h
    | false =>
      simp only [hb, cond_false] at h
      refine ⟨_, h, opPure_good rfl fun σ a' w hv => ?_, no_touch⟩
      have e1 : a'.eval x = .int j a := RV.eq rfl (hv x (by simp [ho, Op.operands]) _ (by rw [fs_ev, hx]))
      have e2 : a'.eval y = .int j' b := RV.eq rfl (hv y (by simp [ho, Op.operands]) _ (by rw [fs_ev, hy]))
      have hb' : ¬ b < 0 := by simpa using hb
      simp only [execOp, ho, e1, e2, Sem.run_bind, eqGuard]
      simp [binOp, Op.shift, hb']

theorem opEq_good {P : Program} {S : St} {o : Oper} {op : BinOp} {t ty : TypeId} {x y : Operand} {u v : Array Value} {r : Bool} {E : EqBy} (hE : EqOk P E) (hq : op = .eql ∨ op = .neq) (ho : o.op = .binOp op t x y ty)
    (hx : S.ev x = some (.agg u)) (hy : S.ev y = some (.agg v)) (hu : flatB (.agg u) = true) (hv : flatB (.agg v) = true) (h : E t (.agg u) (.agg v) = some r) :
    Good P S.fs o S.heap.length ⟨.bool (if op = .eql then r else !r), .non, none⟩ := by
  obtain ⟨h1, h2⟩ := hE _ _ _ _ h
  refine opPure_good rfl fun σ a w hop => ?_
  have e1 : a.eval x = .agg u := RV.eq hu (hop x (by simp [ho, Op.operands]) _ (by rw [fs_ev, hx]))
  have e2 : a.eval y = .agg v := RV.eq hv (hop y (by simp [ho, Op.operands]) _ (by rw [fs_ev, hy]))
  rcases hq with rfl | rfl
  · simp [execOp, ho, e1, e2, run_eqGuard_agg w _ t x y u v h2, run_eql_struct, h1]
  · simp [execOp, ho, e1, e2, run_eqGuard_agg w _ t x y u v h2, run_neq_struct, h1]

theorem opCall_good {P : Program} {C : CallsBy} {S : St} {o : Oper} {c : Call} {f : FuncId} {vs : List Value} {k : Out → Option Value} {r : Value} (hC : CallsOk P C) (ho : o.op = .call c) (hc : c.callee = .value (.func f))
    (ha : S.all c.args.toList = some vs) (h : C f vs (fun v => bif flatB v then k ⟨v, .non, none⟩ else none) = some r) :
    ∃ out, k out = some r ∧ Good P S.fs o S.heap.length out ∧ (∀ b, Touch out b → b < S.heap.length) := by
  obtain ⟨v, hk, ⟨fn, hf, hname, hbody⟩, hcall⟩ := hC _ _ _ _ h
  cases hfl : flatB v with
  | false => simp [hfl] at hk
  | true =>
    simp only [hfl, cond_true] at hk
    refine ⟨_, hk, ?_, no_touch⟩
    intro σ a w hv _ _ K Q hK
    have hargs : c.args.map a.eval = vs.toArray := by
      have := (all_spec ha σ a fun x hx => hv x (by simp only [ho, Op.operands, Call.operands, hc]; simp; right; simpa using hx)).1
      rw [← Array.toList_inj]; simpa using this
    have h1 : fn.name ≠ "runtime.NumGoroutine" := by simpa using hname
    obtain ⟨cc, hcc⟩ := Option.isSome_iff_exists.1 hbody
    have hrun : (execOp a.eval o).run P w = .ok (.enter f vs.toArray) w := by
      simp [execOp, ho, resolve, hc, Deferred.ofValue, invoke, Act.eval, hargs, callFunc, hf, h1, hcc]
    unfold Oper.wp
    rw [hrun, Oper.upon_enter]
    refine (hcall w).mono fun e w' ⟨he, hb⟩ => ?_
    subst he
    exact hK v w' σ (RV.of_flat hfl) ⟨rfl, hb⟩
end Go.Proofs.YtcgjfkaipbhpkaaX
