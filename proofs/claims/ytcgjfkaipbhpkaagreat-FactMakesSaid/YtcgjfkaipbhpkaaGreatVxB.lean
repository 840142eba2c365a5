/- Our small machine, one operation: what it says of an operation holds in the model's world. No condition beside those stated. -/
import Derived.Test.YtcgjfkaipbhpkaaGreatVx

namespace Go.Proofs.YtcgjfkaipbhpkaaGreatX
open Go.RowKit
set_option linter.unusedVariables false
set_option linter.unusedSimpArgs false

theorem RV.toRA {σ : Num} {v v' : Value} (h : isA v = true) : RV σ v v' → RA σ v v'
  | .inl k => k
  | .inr ⟨_, _, e, _, _⟩ => by subst e; cases h
theorem leaf_cells {v : Value} (h : leafB v = true) : v.cells = #[v] := by cases v <;> first | rfl | cases h
theorem RL.cells {σ : Num} {v v' : Value} (h : RL σ v v') : All2 (RL σ) (cellsOfL v) (cellsOfL v') := by
  rcases h with ⟨h, rfl⟩ | ⟨b, o, b', cap, h, rfl, rfl⟩ | ⟨b, b', cap, l, c, h, rfl, rfl⟩
  · unfold cellsOfL; rw [leaf_cells h]; exact ⟨RL.of_leaf h, trivial⟩
  · exact ⟨.inr (.inl ⟨b, o, b', cap, h, rfl, rfl⟩), trivial⟩
  · exact ⟨.inr (.inr ⟨b, b', cap, l, c, h, rfl, rfl⟩), trivial⟩
theorem RA.cells {σ : Num} {v v' : Value} (h : RA σ v v') : All2 (RL σ) (cellsOfL v) (cellsOfL v') := by
  rcases h with h | ⟨cs, cs', rfl, rfl, h⟩
  · exact h.cells
  · exact h
theorem RL.one {σ : Num} {v v' : Value} (h : RL σ v v') : v'.oneCell' = true := by
  rcases h with ⟨h, rfl⟩ | ⟨b, o, b', cap, h, rfl, rfl⟩ | ⟨b, b', cap, l, c, h, rfl, rfl⟩
  · cases v' <;> first | rfl | cases h
  · rfl
  · rfl
theorem All2.one {σ : Num} : ∀ {l m : List Value}, All2 (RL σ) l m → ∀ v ∈ m, v.oneCell' = true
  | [], [], _, v, hv => by cases hv
  | _ :: l, b :: m, ⟨h1, h2⟩, v, hv => by
    rcases List.mem_cons.1 hv with rfl | hv
    · exact h1.one
    · exact All2.one h2 v hv
  | [], _ :: _, k, _, _ => k.elim
  | _ :: _, [], k, _, _ => k.elim

/-- What is known, as functions. -/
structure Fs where
  e : Nat → Option Value
  h : Nat → Option Blk
def St.fs (S : St) : Fs := ⟨look S.env, fun b => S.heap[b]?⟩
def Fs.ev (F : Fs) : Operand → Option Value
  | .tmp t => F.e t
  | .const v => bif flatB v then some v else none
  | _ => none
theorem fs_ev (S : St) (x : Operand) : S.fs.ev x = S.ev x := by cases x <;> rfl

def Touch (out : Out) (b : Nat) : Prop := out.rd = some b ∨ ∃ blk, out.eff.pt = some (b, blk)
def Fits (σ : Num) (w : World) (b : Nat) (blk : Blk) : Prop :=
  ∃ b' cap, σ b = some (b', cap) ∧ (blk.dead = false → ∃ cs' rest : List Value, w.heap[b']? = some (.cells (cs' ++ rest).toArray blk.elem (0, 0)) ∧ All2 (RL σ) blk.cells cs' ∧
    (blk.row ≠ 0 → cap ≤ maxLen ∧ (cs' ++ rest).length = cap * blk.row))

/-- The world's move. -/
structure Moves (σ : Num) (nb : Nat) (w w' : World) (σ' : Num) (eff : Eff) : Prop where
  os : w'.os = w.os
  tape : w'.tape = w.tape
  output : w'.output = w.output
  size : w.heap.size ≤ w'.heap.size
  num : ∀ b, b ≠ nb → σ' b = σ b
  same : eff.nw = none → σ' = σ
  block : ∀ k, k < w.heap.size → (∀ c blk, eff.pt = some (c, blk) → ∀ cap, σ c ≠ some (k, cap)) → w'.heap[k]? = w.heap[k]?
  put : ∀ c blk, eff.pt = some (c, blk) → Fits σ' w' c blk
  new : ∀ blk, eff.nw = some blk → Fits σ' w' nb blk ∧ ∀ b' cap, σ' nb = some (b', cap) → b' < w'.heap.size ∧ (w.heap.size ≤ b' ∨ ∃ c old cap0, eff.pt = some (c, old) ∧ old.dead = true ∧ σ c = some (b', cap0))

theorem Moves.of_below {σ : Num} {nb : Nat} {w w' : World} (h : Below w.heap.size w w') : Moves σ nb w w' σ .non :=
  ⟨h.os, h.tape, h.output, h.size, fun _ _ => rfl, fun _ => rfl, fun k hk _ => h.block k hk, (fun _ _ e => by cases e), (fun _ e => by cases e)⟩
theorem Moves.still {σ : Num} {nb : Nat} {w : World} : Moves σ nb w w σ .non := Moves.of_below (Below.refl _ _)

def Good (P : Program) (F : Fs) (o : Oper) (nb : Nat) (out : Out) : Prop :=
  ∀ (σ : Num) (a : Act) (w : World),
    (∀ x ∈ o.op.operands, ∀ v, F.ev x = some v → RV σ v (a.eval x)) →
    (∀ b, Touch out b → ∀ blk, F.h b = some blk → Fits σ w b blk) → (∀ blk, out.eff.nw = some blk → σ nb = none) →
    ∀ (K : Act → World → Prop) (Q : Exit → Act → World → Prop),
      (∀ v' w' σ', RV σ' out.v v' → Moves σ nb w w' σ' out.eff → K (a.put o.dst v') w') → o.wp P a w K Q
/-- What is written was there, and known. -/
structure EffOk (F : Fs) (nb : Nat) (out : Out) : Prop where
  loc : out.eff.all = none
  touch : ∀ b, Touch out b → ∃ blk, F.h b = some blk
  put : ∀ c blk, out.eff.pt = some (c, blk) → ∃ old, F.h c = some old ∧ old.dead = false
  new : ∀ blk, out.eff.nw = some blk → blk.dead = false

/-- What is told of calls. -/
def CallsOk (P : Program) (C : CallsBy) : Prop := ∀ f args (k : Value → Option Value) r, C f args k = some r →
  ∃ v, k v = some r ∧ (∃ fn, P.funcs[f]? = some fn ∧ (fn.name == "runtime.NumGoroutine") = false ∧ fn.body.isSome = true) ∧
    ∀ w, Calls P f args.toArray w fun e w' => e = .returned v ∧ Below w.heap.size w w'
/-- What is told of equality. -/
def EqOk (P : Program) (E : EqBy) : Prop := ∀ t x y r, E t x y = some r →
  (∀ w, (Op.equalIn 10000 t x y).run P w = .ok r w) ∧ P.eqGuardType P.depth t = false

theorem wp_value {P : Program} {o : Oper} {a : Act} {w w' : World} {v : Value} {K : Act → World → Prop} {Q : Exit → Act → World → Prop}
    (h : (execOp a.eval o).run P w = .ok (.value v) w') (hk : K (a.put o.dst v) w') : o.wp P a w K Q := by
  unfold Oper.wp; rw [h]; exact hk
theorem wp_skipV {P : Program} {o : Oper} {a : Act} {w w' : World} {K : Act → World → Prop} {Q : Exit → Act → World → Prop}
    (h : (execOp a.eval o).run P w = .ok .skip w') (hk : K (a.put o.dst undef) w') : o.wp P a w K Q := by
  unfold Oper.wp; rw [h]; exact hk

theorem all_spec {S : St} : ∀ {l : List Operand} {vs : List Value}, S.all l = some vs →
    ∀ (σ : Num) (a : Act), (∀ x ∈ l, ∀ v, S.fs.ev x = some v → RV σ v (a.eval x)) → l.map a.eval = vs ∧ (∀ x ∈ l, (S.ev x).getD undef = a.eval x)
  | [], vs, h, σ, a, _ => by simp [St.all] at h; subst h; simp
  | x :: l, vs, h, σ, a, hv => by
    simp only [St.all] at h
    cases hx : S.ev x with
    | none => simp [hx] at h
    | some v =>
      simp only [hx] at h
      cases hf : flatB v with
      | false => simp [hf] at h
      | true =>
        simp only [hf, cond_true] at h
        cases hr : S.all l with
        | none => simp [hr] at h
        | some ws =>
          simp only [hr, Option.some.injEq] at h
          subst h
          obtain ⟨h1, h2⟩ := all_spec hr σ a fun y hy => hv y (by simp [hy])
          have e : a.eval x = v := RV.eq hf (hv x (by simp) v (by rw [fs_ev, hx]))
          refine ⟨by simp [h1, e], fun y hy => ?_⟩
          rcases List.mem_cons.1 hy with rfl | hy
          · rw [hx, e]; rfl
          · exact h2 y hy

theorem EffOk.non {F : Fs} {nb : Nat} {v : Value} : EffOk F nb ⟨v, .non, none⟩ :=
  ⟨rfl, (fun b hb => by rcases hb with hb | ⟨_, hb⟩ <;> cases hb), (fun _ _ e => by cases e), (fun _ e => by cases e)⟩
theorem EffOk.fresh {F : Fs} {nb : Nat} {v : Value} {blk : Blk} (h : blk.dead = false) : EffOk F nb ⟨v, .new blk, none⟩ :=
  ⟨rfl, (fun b hb => by rcases hb with hb | ⟨_, hb⟩ <;> cases hb), (fun _ _ e => by cases e), (fun b e => by cases e; exact h)⟩
theorem EffOk.read {F : Fs} {nb : Nat} {v : Value} {b : Nat} {blk : Blk} (h : F.h b = some blk) : EffOk F nb ⟨v, .non, some b⟩ :=
  ⟨rfl, (fun c hc => by rcases hc with hc | ⟨_, hc⟩ <;> cases hc; exact ⟨blk, h⟩), (fun _ _ e => by cases e), (fun _ e => by cases e)⟩
theorem EffOk.write {F : Fs} {nb : Nat} {v : Value} {b : Nat} {blk old : Blk} (h : F.h b = some old) (hd : old.dead = false) : EffOk F nb ⟨v, .put b blk, none⟩ :=
  ⟨rfl, (fun c hc => by rcases hc with hc | ⟨_, hc⟩ <;> cases hc; exact ⟨old, h⟩), (fun c x e => by cases e; exact ⟨old, h, hd⟩), (fun _ e => by cases e)⟩

theorem opGen_good {P : Program} {S : St} {o : Oper} {k : Out → Option Value} {r : Value} (hs : ∀ cs b, o.op ≠ .select cs b) (h : opGen P S o k = some r) :
    ∃ out, k out = some r ∧ Good P S.fs o S.heap.length out ∧ EffOk S.fs S.heap.length out := by
  unfold opGen at h
  cases ha : S.all o.op.operands.toList with
  | none => simp [ha] at h
  | some vs =>
    simp only [ha] at h
    cases hc : calm P (execOp (fun x => (S.ev x).getD undef) o) with
    | none => simp [hc] at h
    | some n =>
      simp only [hc] at h
      cases n <;> simp only [reduceCtorEq] at h
      case value v =>
      cases hf : flatB v with
      | false => simp [hf] at h
      | true =>
        simp only [hf, cond_true] at h
        refine ⟨_, h, ?_, ?_⟩
        · intro σ a w hv _ _ K Q hK
          obtain ⟨_, h2⟩ := all_spec ha σ a fun x hx => hv x (by simpa using hx)
          have e : execOp (fun x => (S.ev x).getD undef) o = execOp a.eval o := execOp_congr o hs fun x hx => h2 x (by simpa using hx)
          rw [e] at hc
          exact wp_value (calm_run _ w hc) (hK v w σ (RV.of_flat hf) Moves.still)
        · exact EffOk.non

theorem run_isAgg {P : Program} {t : TypeId} {b : Bool} (h : aggOk P t = some b) (w : World) : (isAgg t).run P w = .ok b w := by
  unfold aggOk at h
  cases hu : P.underlying t with
  | none => simp [hu] at h
  | some d =>
    simp only [hu] at h
    unfold isAgg
    rw [Sem.run_bind, run_underlying hu]
    cases d <;> simp at h <;> subst h <;> rfl
theorem run_zeroV {P : Program} {t : TypeId} {i : TypeInfo} {v : Value} (h : P.info? t = some i) (hz : i.zero = some v) (w : World) : (zeroValue t).run P w = .ok v w := by
  simp [zeroValue, typeInfo, h, hz]
theorem run_sizeV {P : Program} {t : TypeId} {i : TypeInfo} (h : P.info? t = some i) (w : World) : (sizeOf t).run P w = .ok i.size w := by
  simp [sizeOf, typeInfo, h]

/-- A new block. -/
theorem moves_new {σ : Num} {nb : Nat} {w : World} {cs' : Array Value} {blk : Blk} {cap : Nat} (hn : σ nb = none) (h : All2 (RL σ) blk.cells cs'.toList) (hc : blk.row ≠ 0 → cap ≤ maxLen ∧ cs'.size = cap * blk.row) :
    Moves σ nb w { w with heap := w.heap.push (.cells cs' blk.elem) } (fun b => if b = nb then some (w.heap.size, cap) else σ b) (.new blk) := by
  have hle : Le σ (fun b => if b = nb then some (w.heap.size, cap) else σ b) := fun b b' e => by
    by_cases en : b = nb
    · subst en; rw [hn] at e; cases e
    · simp only [if_neg en]; exact e
  refine ⟨rfl, rfl, rfl, by simp, fun b hb => if_neg hb, (fun e => by cases e), fun k hk _ => ?_, (fun _ _ e => by cases e), fun b e => ?_⟩
  · exact Below.heap_alloc w _ k hk
  · cases e
    refine ⟨⟨w.heap.size, cap, by simp, fun _ => ⟨cs'.toList, [], by simp, h.mono fun _ _ => RL.mono hle, by simpa using hc⟩⟩, fun b' cap' e => ?_⟩
    simp only [if_pos, Option.some.injEq, Prod.mk.injEq] at e
    obtain ⟨rfl, _⟩ := e
    exact ⟨by simp, .inl (Nat.le_refl _)⟩

theorem add_off (b o j : Nat) : (⟨b, o, none⟩ : Addr).add j = ⟨b, o + j, none⟩ := by unfold Addr.add; split <;> simp_all
end Go.Proofs.YtcgjfkaipbhpkaaGreatX
