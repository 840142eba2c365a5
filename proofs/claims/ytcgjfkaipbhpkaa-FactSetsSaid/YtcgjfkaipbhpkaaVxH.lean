/- Our small machine: a function's code as a whole. Where it comes to a value, the model's call returns this value, and what was there before stays. No condition beside those stated. -/
import Derived.Test.YtcgjfkaipbhpkaaVxG

import Derived.Scope
namespace Go.Proofs.YtcgjfkaipbhpkaaX
open Go.RowKit
set_option linter.unusedVariables false
set_option linter.unusedSimpArgs false

inductive Ex
  | normal
  | exit (id : Nat)
  | ret
abbrev Kn := Ex → St → Option Value

def loopN (body : Kn → St → Option Value) (K : Kn) : Nat → St → Option Value
  | 0, _ => none
  | n + 1, S => body (fun ex S' => match ex with | .normal => loopN body K n S' | e => K e S') S

def exec (P : Program) (C : CallsBy) (E : EqBy) (L : Nat) : Code → Kn → St → Option Value
  | .skip, K, S => K .normal S
  | .region _ ops draw, K, S => bif draw
    then vseq P C E ops ops.toList S [] fun S' rs => bif regOk ops rs then K .normal S' else none
    else vseq P C E ops ops.toList S [] fun S' _ => K .normal S'
  | .seq a b, K, S => exec P C E L a (fun ex S' => match ex with | .normal => exec P C E L b K S' | e => K e S') S
  | .cond c a b, K, S => match c with
    | .tmp t => match look S.env t with
      | some (.bool g) => bif g then exec P C E L a K (S.know t (.bool true)) else exec P C E L b K (S.know t (.bool false))
      | _ => none
    | .const (.bool g) => bif g then exec P C E L a K S else exec P C E L b K S
    | _ => none
  | .block id c, K, S => exec P C E L c (fun ex S' => match ex with
    | .normal => K .normal S'
    | .exit j => bif Nat.beq j id then K .normal S' else K (.exit j) S'
    | .ret => K .ret S') S
  | .loop c, K, S => loopN (exec P C E L c) K L S
  | .scope c, K, S => exec P C E L c K S
  | .exit id, K, S => K (.exit id) S
  | .ret, K, S => K .ret S
  | .label _, K, S => K .normal S
  | _, _, _ => none

def Ex.out : Ex → Exit
  | .normal => .normal
  | .exit id => .exit id
  | .ret => .ret

section
variable {P : Program} {C : CallsBy} {E : EqBy} {L : Nat} {B : Nat} {w0 : World} {n : Nat}

theorem region_text (hC : CallsOk P C) (hE : EqOk P E) {ops : Array Oper} {id : Nat} {S : St} {σ : Num} {a : Act} {w : World} {k : St → List Rec → Option Value} {r : Value} {Q : Exit → Act → World → Prop} (h : Rel B w0 S.fs S.n σ a w)
    (hr : vseq P C E ops ops.toList S [] k = some r) (hQ : ∀ S' rs σ' a' w', S'.n = S.n → k S' rs = some r → Rel B w0 S'.fs S'.n σ' a' w' → Q .normal a' w') : (Code.region id ops false).wp P Q a w := by
  obtain ⟨xs, S', h1, h2, h3, h4, h5⟩ := vseq_spec hC hE hr
  refine wp_region ?_
  have hlen : xs.length = ops.size := by have := congrArg List.length h1; simpa using this
  have := wpOps_chain (P := P) (ops := ops) (Q := Q) (k := 0) h h2 (fun j => by rw [← List.getElem?_map, h1]; simp) h4 fun σ' a' w' hrel => hQ S' _ σ' a' w' h3 h5 (by rw [h3]; exact hrel)
  rw [hlen] at this
  rw [List.range_eq_range']
  exact this

theorem region_drawn (hC : CallsOk P C) (hE : EqOk P E) (hm : P.follows .mixedOrders = true) {ops : Array Oper} {id : Nat} {S : St} {σ : Num} {a : Act} {w : World} {k : St → Option Value} {r : Value} {Q : Exit → Act → World → Prop} (h : Rel B w0 S.fs S.n σ a w)
    (hr : (vseq P C E ops ops.toList S [] fun S' rs => bif regOk ops rs then k S' else none) = some r) (hQ : ∀ S' σ' a' w', S'.n = S.n → k S' = some r → Rel B w0 S'.fs S'.n σ' a' w' → Q .normal a' w') : (Code.region id ops true).wp P Q a w := by
  obtain ⟨xs, S', h1, h2, h3, h4, h5⟩ := vseq_spec hC hE hr
  simp only [List.nil_append] at h5
  cases hk : regOk ops (xs.map Ob.note) with
  | false => simp [hk] at h5
  | true =>
  simp only [hk, cond_true] at h5
  have ha := apart_of hk h1
  obtain ⟨h6, h7⟩ := chain_at ha (F0 := S.fs) (k := 0) h2 (fun j => by simp) (At.start xs S.fs _ fun j => Nat.not_lt_zero j)
  refine wp_region_any hm ?_
  refine any_order ha h1 h4 (fun i x hx => h6 i x (Nat.zero_le i) hx) (by simpa using h7) (fun σ' a' w' hrel => hQ S' σ' a' w' h3 h5 (by rw [h3]; exact hrel)) ops.size (Array.replicate ops.size false) S.fs σ a _ (by simp) ?_ ?_ ?_ ?_
  · refine At.start xs S.fs _ fun j => ?_
    simp only [Array.getD_eq_getD_getElem?, Array.getElem?_replicate]
    split <;> simp
  · intro i x _ hD
    simp only [Array.getD_eq_getD_getElem?, Array.getElem?_replicate] at hD
    split at hD <;> simp at hD
  · exact ⟨h.env, h.size, h.defers, h.heap, h.own, h.inj, ⟨h.below.os, h.below.tape, h.below.output, h.below.size, h.below.block⟩, h.base⟩
  · refine Nat.le_trans (List.countP_le_length) (by simp)

/-- What a continuation is good for. -/
def KOk (B : Nat) (w0 : World) (n : Nat) (K : Kn) (r : Value) (Q : Exit → Act → World → Prop) : Prop :=
  ∀ ex S σ a w, S.n = n → K ex S = some r → Rel B w0 S.fs S.n σ a w → Q ex.out a w

theorem exec_sound (hC : CallsOk P C) (hE : EqOk P E) (hm : P.follows .mixedOrders = true) {r : Value} : ∀ (c : Code) {K : Kn} {S : St} {σ : Num} {a : Act} {w : World} {Q : Exit → Act → World → Prop},
    S.n = n → exec P C E L c K S = some r → Rel B w0 S.fs S.n σ a w → KOk B w0 n K r Q → c.wp P Q a w := by
  intro c
  induction c with
  | skip => intro K S σ a w Q hn h hrel hK; exact wp_skip (hK .normal S σ a w hn h hrel)
  | label l => intro K S σ a w Q hn h hrel hK; exact wp_label (hK .normal S σ a w hn h hrel)
  | exit id => intro K S σ a w Q hn h hrel hK; exact wp_exit (hK (.exit id) S σ a w hn h hrel)
  | ret => intro K S σ a w Q hn h hrel hK; exact wp_ret (hK .ret S σ a w hn h hrel)
  | region id ops draw =>
    intro K S σ a w Q hn h hrel hK
    simp only [exec] at h
    cases draw with
    | true => exact region_drawn hC hE hm (k := fun S' => K .normal S') hrel h fun S' σ' a' w' h1 h2 h3 => hK .normal S' σ' a' w' (h1.trans hn) h2 h3
    | false => exact region_text hC hE hrel h fun S' rs σ' a' w' h1 h2 h3 => hK .normal S' σ' a' w' (h1.trans hn) h2 h3
  | seq x y ihx ihy =>
    intro K S σ a w Q hn h hrel hK
    simp only [exec] at h
    refine wp_seq (ihx hn h hrel fun ex S' σ' a' w' h1 h2 h3 => ?_)
    cases ex with
    | normal => exact ihy h1 h2 h3 hK
    | exit id => exact hK (.exit id) S' σ' a' w' h1 h2 h3
    | ret => exact hK .ret S' σ' a' w' h1 h2 h3
  | cond c x y ihx ihy =>
    intro K S σ a w Q hn h hrel hK
    simp only [exec] at h
    split at h
    · rename_i t
      split at h
      · rename_i g hg
        have hv : a.eval (.tmp t) = .bool g := RV.eq rfl (hrel.env t _ hg)
        cases g with
        | true => exact wp_cond_true hv (ihx (S := S.know t (.bool true)) hn h (hrel.know hg) hK)
        | false => exact wp_cond_false hv (ihy (S := S.know t (.bool false)) hn h (hrel.know hg) hK)
      · cases h
    · rename_i g
      cases g with
      | true => exact wp_cond_true rfl (ihx hn h hrel hK)
      | false => exact wp_cond_false rfl (ihy hn h hrel hK)
    · cases h
  | block id c ih =>
    intro K S σ a w Q hn h hrel hK
    simp only [exec] at h
    refine wp_block (ih hn h hrel fun ex S' σ' a' w' h1 h2 h3 => ?_)
    cases ex with
    | normal => exact hK .normal S' σ' a' w' h1 h2 h3
    | ret => exact hK .ret S' σ' a' w' h1 h2 h3
    | exit j =>
      simp only at h2
      simp only [Ex.out, Exit.inBlock]
      cases hj : Nat.beq j id with
      | true =>
        rw [hj] at h2
        rw [if_pos (Nat.eq_of_beq_eq_true hj)]
        exact hK .normal S' σ' a' w' h1 h2 h3
      | false =>
        rw [hj] at h2
        rw [if_neg (fun e => by subst e; rw [Nat.beq_refl] at hj; cases hj)]
        exact hK (.exit j) S' σ' a' w' h1 h2 h3
  | loop c ih =>
    intro K S σ a w Q hn h hrel hK
    simp only [exec] at h
    intro b k cs
    have key : ∀ (m : Nat) (S : St) (σ : Num) (a : Act) (w : World), S.n = n → loopN (exec P C E L c) K m S = some r → Rel B w0 S.fs S.n σ a w →
        ∃ e a' w', Q e a' w' ∧ Arrives P (lone (b.at a (.code c :: .inLoop c :: k)) cs w) b k cs e a' w' := by
      intro m
      induction m with
      | zero => intro S σ a w _ h; simp [loopN] at h
      | succ m ihm =>
        intro S σ a w hn h hrel
        simp only [loopN] at h
        have hw : c.wp P (fun e a1 w1 => match e with
            | .normal => ∃ S1 σ1, S1.n = n ∧ loopN (exec P C E L c) K m S1 = some r ∧ Rel B w0 S1.fs S1.n σ1 a1 w1
            | e => Q e a1 w1) a w := ih hn h hrel fun ex S' σ' a' w' h1 h2 h3 => by
          cases ex with
          | normal => exact ⟨S', σ', h1, h2, h3⟩
          | exit id => exact hK (.exit id) S' σ' a' w' h1 h2 h3
          | ret => exact hK .ret S' σ' a' w' h1 h2 h3
        obtain ⟨e, a₁, w₁, hq, harr⟩ := hw b (.inLoop c :: k) cs
        cases e with
        | normal =>
          obtain ⟨S1, σ1, h1, h2, h3⟩ := hq
          obtain ⟨e₂, a₂, w₂, hq₂, harr₂⟩ := ihm S1 σ1 a₁ w₁ h1 h2 h3
          exact ⟨e₂, a₂, w₂, hq₂, .of_steps (Steps.trans harr (.one step_inLoop)) harr₂⟩
        | exit id => exact ⟨_, a₁, w₁, hq, .pass (x := .inLoop c) rfl (fun _ _ => .inl (by simp)) harr⟩
        | goto l => exact ⟨_, a₁, w₁, hq, .pass (x := .inLoop c) rfl (fun _ _ => .inl (by simp)) harr⟩
        | ret => exact ⟨_, a₁, w₁, hq, .pass (x := .inLoop c) rfl (fun _ _ => .inl (by simp)) harr⟩
        | panic ch => exact ⟨_, a₁, w₁, hq, .pass (x := .inLoop c) rfl (fun _ _ => .inl (by simp)) harr⟩
        | outgrown => exact ⟨_, a₁, w₁, hq, .pass (x := .inLoop c) rfl (fun _ _ => .inl (by simp)) harr⟩
    obtain ⟨e, a', w', hq, harr⟩ := key L S σ a w hn h hrel
    exact ⟨e, a', w', hq, .of_steps (.one step_loop) harr⟩
  | scope c ih =>
    intro K S σ a w Q hn h hrel hK
    simp only [exec] at h
    refine wp_scope_straight (ih hn h hrel fun ex S' σ' a' w' h1 h2 h3 => ?_)
    cases ex with
    | normal => exact hK .normal S' σ' a' w' h1 h2 h3
    | exit id => exact hK (.exit id) S' σ' a' w' h1 h2 h3
    | ret => exact hK .ret S' σ' a' w' h1 h2 h3
  | _ => intro K S σ a w Q hn h hrel hK; simp [exec] at h

/-! ### The results -/
def resOne (P : Program) (S : St) : ResultVar → Option Value
  | .tmp t => match look S.env t with | some v => bif aggB v then some v else none | none => none
  | .cell x t => match look S.env x with
    | some (.pointer (some ⟨b, off, none⟩)) => match S.heap[b]? with
      | some blk => match aggOk P t, P.info? t with
        | some true, some i => bif Nat.ble (off + i.size) blk.cells.length && ((blk.cells.drop off).take i.size).all leafB then some (.agg ((blk.cells.drop off).take i.size).toArray) else none
        | some false, _ => match blk.cells[off]? with
          | some v => bif leafB v then some v else none
          | none => none
        | _, _ => none
      | none => none
    | _ => none
def resAll (P : Program) (S : St) : List ResultVar → Option (List Value)
  | [] => some []
  | x :: xs => match resOne P S x with
    | some v => match resAll P S xs with | some vs => some (v :: vs) | none => none
    | none => none
def resV : List Value → Value
  | [v] => v
  | vs => .tuple vs.toArray

def resSem (tmps : Array Value) : ResultVar → Sem Value
  | .tmp t => pure (tmps.getD t undef)
  | .cell a t => do loadVar t (← asAddr (tmps.getD a undef))
theorem results_eq (fn : Func) (tmps : Array Value) : results fn tmps = (do
    let vs ← fn.results.mapM (resSem tmps)
    pure (if h : vs.size = 1 then vs[0] else .tuple vs)) := by
  unfold results
  congr 2

theorem resOne_sound {S : St} {σ : Num} {a : Act} {w : World} (h : Rel B w0 S.fs S.n σ a w) {x : ResultVar} {v : Value} (hx : resOne P S x = some v) : (resSem a.tmps x).run P w = .ok v w := by
  cases x with
  | tmp t =>
    simp only [resOne] at hx
    cases he : look S.env t with
    | none => simp [he] at hx
    | some u =>
      simp only [he] at hx
      cases hf : aggB u with
      | false => simp [hf] at hx
      | true =>
        simp only [hf, cond_true, Option.some.injEq] at hx
        subst hx
        have hfl : flatB u = true := by cases u <;> first | exact hf | cases hf
        have : a.eval (.tmp t) = u := RV.eq hfl (h.env t _ he)
        simp only [resSem, Sem.run_pure]
        rw [show a.tmps.getD t undef = u from this]
  | cell x t =>
    simp only [resOne] at hx
    split at hx
    · rename_i b off hp
      obtain ⟨b', hb', e⟩ := ptr_of (h.env x _ hp)
      split at hx
      · rename_i blk hb
        obtain ⟨b2, cs', h1, h2, h3⟩ := h.heap b blk hb
        rw [hb'] at h1
        cases h1
        have hl := h3.length
        have hsem : resSem a.tmps (.cell x t) = loadVar t ⟨b', off, none⟩ := by
          simp only [resSem]
          rw [show a.tmps.getD x undef = .pointer (some ⟨b', off, none⟩) from e]
          rfl
        split at hx
        · rename_i i ha hi
          cases hle : Nat.ble (off + i.size) blk.cells.length with
          | false => simp [hle] at hx
          | true =>
          cases hlf : ((blk.cells.drop off).take i.size).all leafB with
          | false => simp [hle, hlf] at hx
          | true =>
          simp only [hle, hlf, Bool.and_self, cond_true, Option.some.injEq] at hx
          subst hx
          have hle' := Nat.le_of_ble_eq_true hle
          rw [hsem, run_load_agg ha hi h2 (by simp at hl; omega)]
          have := All2.eq (fun a b ha hr => RL.eq (List.all_eq_true.1 hlf a ha) hr) ((h3.drop off).take i.size)
          rw [this]
        · rename_i ha
          split at hx
          · rename_i u hu
            cases hlf : leafB u with
            | false => simp [hlf] at hx
            | true =>
              simp only [hlf, cond_true, Option.some.injEq] at hx
              subst hx
              obtain ⟨v', h4, h5⟩ := h3.get hu
              rw [hsem, run_load_one ha h2 h4, RL.eq hlf h5]
          · cases hx
        · cases hx
      · cases hx
    · cases hx

theorem resAll_sound {S : St} {σ : Num} {a : Act} {w : World} (h : Rel B w0 S.fs S.n σ a w) : ∀ {xs : List ResultVar} {vs : List Value}, resAll P S xs = some vs → (xs.mapM (resSem a.tmps)).run P w = .ok vs w
  | [], vs, hx => by simp [resAll] at hx; subst hx; simp
  | x :: xs, vs, hx => by
    simp only [resAll] at hx
    split at hx
    · rename_i v hv
      split at hx
      · rename_i us hus
        cases hx
        simp only [List.mapM_cons, Sem.run_bind, resOne_sound h hv, Result.andThen_ok, resAll_sound h hus, Sem.run_pure]
      · cases hx
    · cases hx

theorem results_sound {S : St} {σ : Num} {a : Act} {w : World} (h : Rel B w0 S.fs S.n σ a w) {fn : Func} {vs : List Value} (hx : resAll P S fn.results.toList = some vs) : (results fn a.tmps).run P w = .ok (resV vs) w := by
  rw [results_eq, Array.mapM_eq_mapM_toList]
  simp only [Sem.run_bind, Sem.run_map, resAll_sound h hx, Result.andThen_ok, Sem.run_pure]
  cases vs with
  | nil => rfl
  | cons v vs => cases vs with
    | nil => rfl
    | cons u us => simp [resV]

/-- The code of a function, begun with these arguments. -/
def envOf : Nat → List Value → List (Nat × Value)
  | _, [] => []
  | i, v :: vs => (i, v) :: envOf (i + 1) vs
def run (P : Program) (C : CallsBy) (E : EqBy) (L : Nat) (fn : Func) (c : Code) (args : List Value) : Option Value :=
  exec P C E L c (fun ex S => match ex with
    | .exit _ => none
    | _ => match resAll P S fn.results.toList with | some vs => some (resV vs) | none => none) ⟨envOf 0 args, [], args.length + (fn.ntmps - args.length)⟩

def runF (P : Program) (C : CallsBy) (E : EqBy) (L : Nat) (fn : Func) (args : List Value) : Option Value :=
  match fn.body with
  | some c => run P C E L fn c args
  | none => none

theorem look_env : ∀ {vs : List Value} {i t : Nat} {v : Value}, look (envOf i vs) t = some v → ∃ j, t = i + j ∧ vs[j]? = some v
  | [], i, t, v, h => by simp [envOf, look] at h
  | u :: vs, i, t, v, h => by
    simp only [envOf, look] at h
    cases e : Nat.beq i t with
    | true =>
      simp only [e, cond_true, Option.some.injEq] at h
      have := Nat.eq_of_beq_eq_true e
      exact ⟨0, by omega, by simp [h]⟩
    | false =>
      simp only [e, cond_false] at h
      obtain ⟨j, h1, h2⟩ := look_env h
      exact ⟨j + 1, by omega, by simpa using h2⟩

theorem run_sound (hC : CallsOk P C) (hE : EqOk P E) (hm : P.follows .mixedOrders = true) {f : FuncId} {fn : Func} {c : Code} {args : List Value} {r : Value} (hf : P.funcs[f]? = some fn) (hb : fn.body = some c)
    (hargs : args.all flatB = true) (h : run P C E L fn c args = some r) (w : World) :
    Calls P f args.toArray w fun e w' => e = .returned r ∧ Below w.heap.size w w' := by
  refine calls_of_wp hf hb ?_
  unfold run at h
  refine exec_sound (B := w.heap.size) (w0 := w) (n := args.length + (fn.ntmps - args.length)) (σ := fun _ => none) hC hE hm c rfl h ?_ ?_
  · refine ⟨fun t v hv => ?_, by simp, rfl, fun b blk hb => ?_, fun b b' hb => absurd hb (by simp), fun b c b' hb => absurd hb (by simp), Below.refl _ _, Nat.le_refl _⟩
    · obtain ⟨j, hj, hv'⟩ := look_env hv
      rw [Nat.zero_add] at hj
      subst hj
      have hlt := (List.getElem?_eq_some_iff.1 hv').1
      have hfl : flatB v = true := List.all_eq_true.1 hargs v (List.mem_of_getElem? hv')
      have : Act.eval { tmps := args.toArray ++ Array.replicate (fn.ntmps - args.toArray.size) undef, defers := [] } (.tmp t) = v := by
        simp only [Act.eval, Array.getD_eq_getD_getElem?]
        rw [Array.getElem?_append_left (by simpa using hlt)]
        simp [hv']
      rw [this]
      exact RV.of_flat hfl
    · simp [St.fs] at hb
  · intro ex S σ a w' hn hk hrel
    cases ex with
    | exit id => cases hk
    | normal =>
      simp only at hk
      split at hk
      · rename_i vs hvs
        cases hk
        exact ⟨hrel.defers, resV vs, results_sound hrel hvs, rfl, hrel.below⟩
      · cases hk
    | ret =>
      simp only at hk
      split at hk
      · rename_i vs hvs
        cases hk
        exact ⟨hrel.defers, resV vs, results_sound hrel hvs, rfl, hrel.below⟩
      · cases hk

theorem runF_sound (hC : CallsOk P C) (hE : EqOk P E) (hm : P.follows .mixedOrders = true) {f : FuncId} {fn : Func} {args : List Value} {r : Value} (hf : P.funcs[f]? = some fn)
    (hargs : args.all flatB = true) (h : runF P C E L fn args = some r) (w : World) :
    Calls P f args.toArray w fun e w' => e = .returned r ∧ Below w.heap.size w w' := by
  unfold runF at h
  cases hb : fn.body with
  | none => simp [hb] at h
  | some c => simp only [hb] at h; exact run_sound hC hE hm hf hb hargs h w
end
end Go.Proofs.YtcgjfkaipbhpkaaX
