/- Our small machine: a function's code as a whole. Where it comes to a value, the model's call returns this value, and what was there before stays. No condition beside those stated. -/
import Derived.Test.YtcgjfkaipbhpkaaGreatVxG

import Derived.Scope
namespace Go.Proofs.YtcgjfkaipbhpkaaGreatX
open Go.RowKit
set_option linter.unusedVariables false
set_option linter.unusedSimpArgs false

inductive Ex
  | normal
  | exit (id : Nat)
  | ret
abbrev Kn := Ex → St → Option Value

def loopN (body : Kn → St → Option Value) (K : Kn) : Nat → St → Option Value
  | 0, _ => none
  | n + 1, S => body (fun ex S' => match ex with | .normal => loopN body K n S' | e => K e S') S

def exec (P : Program) (C : CallsBy) (I : InBy) (inl : Nat → Bool) (E : EqBy) (L : Nat) : Code → Kn → St → Option Value
  | .skip, K, S => K .normal S
  | .region _ ops draw, K, S => bif draw
    then vseq P C I inl E ops ops.toList S [] fun S' rs => bif regOk ops rs then K .normal S' else none
    else vseq P C I inl E ops ops.toList S [] fun S' _ => K .normal S'
  | .seq a b, K, S => exec P C I inl E L a (fun ex S' => match ex with | .normal => exec P C I inl E L b K S' | e => K e S') S
  | .cond c a b, K, S => match c with
    | .tmp t => match look S.env t with
      | some (.bool g) => bif g then exec P C I inl E L a K (S.know t (.bool true)) else exec P C I inl E L b K (S.know t (.bool false))
      | _ => none
    | .const (.bool g) => bif g then exec P C I inl E L a K S else exec P C I inl E L b K S
    | _ => none
  | .block id c, K, S => exec P C I inl E L c (fun ex S' => match ex with
    | .normal => K .normal S'
    | .exit j => bif Nat.beq j id then K .normal S' else K (.exit j) S'
    | .ret => K .ret S') S
  | .loop c, K, S => loopN (exec P C I inl E L c) K L S
  | .scope c, K, S => exec P C I inl E L c K S
  | .exit id, K, S => K (.exit id) S
  | .ret, K, S => K .ret S
  | .label _, K, S => K .normal S
  | _, _, _ => none

def Ex.out : Ex → Exit
  | .normal => .normal
  | .exit id => .exit id
  | .ret => .ret

/-- From what is known here the code leads there. -/
def Leads (P : Program) (c : Code) (S : St) (ex : Ex) (S' : St) : Prop :=
  S'.n = S.n ∧ ∀ (B : Nat) (w0 : World) (σ0 σ : Num) (a : Act) (w : World) (Q : Exit → Act → World → Prop), Rel B w0 σ0 S.fs S.n σ a w →
    (∀ σ' a' w', Rel B w0 σ0 S'.fs S'.n σ' a' w' → Q ex.out a' w') → c.wp P Q a w

section
variable {P : Program} {C : CallsBy} {I : InBy} {inl : Nat → Bool} {E : EqBy} {L : Nat}

theorem region_text (hC : CallsOk P C) (hI : InOk P I) (hE : EqOk P E) {ops : Array Oper} {id : Nat} {S : St} {k : St → List Rec → Option Value} {r : Value}
    (hr : vseq P C I inl E ops ops.toList S [] k = some r) : ∃ S' rs, k S' rs = some r ∧ Leads P (.region id ops false) S .normal S' := by
  obtain ⟨xs, S', h1, h2, h3, h4, h5⟩ := vseq_spec hC hI hE hr
  refine ⟨S', _, h5, h3, fun B w0 σ0 σ a w Q h hQ => wp_region ?_⟩
  have hlen : xs.length = ops.size := by have := congrArg List.length h1; simpa using this
  have := wpOps_chain (P := P) (ops := ops) (Q := Q) (k := 0) h h2 (fun j => by rw [← List.getElem?_map, h1]; simp) h4 fun σ' a' w' hrel => hQ σ' a' w' (by rw [h3]; exact hrel)
  rw [hlen] at this
  rw [List.range_eq_range']
  exact this

theorem region_drawn (hC : CallsOk P C) (hI : InOk P I) (hE : EqOk P E) (hm : P.follows .mixedOrders = true) {ops : Array Oper} {id : Nat} {S : St} {k : St → Option Value} {r : Value}
    (hr : (vseq P C I inl E ops ops.toList S [] fun S' rs => bif regOk ops rs then k S' else none) = some r) : ∃ S', k S' = some r ∧ Leads P (.region id ops true) S .normal S' := by
  obtain ⟨xs, S', h1, h2, h3, h4, h5⟩ := vseq_spec hC hI hE hr
  simp only [List.nil_append] at h5
  cases hk : regOk ops (xs.map Ob.note) with
  | false => simp [hk] at h5
  | true =>
  simp only [hk, cond_true] at h5
  have ha := apart_of hk h1
  have hself : ∀ x ∈ xs, ∀ c old, x.out.eff.pt = some (c, old) → c ≠ x.nb := fun x hx c old hp => by
    have hxo := h4 x hx
    cases hrun : x.run with
    | false => rw [hxo.skip hrun] at hp; cases hp
    | true =>
      rcases hxo.does hrun with ⟨_, he⟩ | ⟨hs, _⟩
      · obtain ⟨was, hw, _⟩ := he.put c old hp
        have : c < x.S.heap.length := (List.getElem?_eq_some_iff.1 hw).1
        exact fun e => by rw [e] at this; exact Nat.lt_irrefl _ this
      · obtain ⟨i, hi⟩ := List.getElem?_of_mem hx
        rw [ha.loc i x hi] at hs; cases hs
  obtain ⟨h6, h7⟩ := chain_at ha hself (F0 := S.fs) (k := 0) h2 (fun j => by simp) (At.start xs S.fs _ fun j => Nat.not_lt_zero j)
  refine ⟨S', h5, h3, fun B w0 σ0 σ a w Q h hQ => wp_region_any hm ?_⟩
  refine any_order ha h1 h4 hself (fun i x hx => h6 i x (Nat.zero_le i) hx) (by simpa using h7) (fun σ' a' w' hrel => hQ σ' a' w' (by rw [h3]; exact hrel)) ops.size (Array.replicate ops.size false) S.fs σ a _ (by simp) ?_ ?_ ?_ ?_
  · refine At.start xs S.fs _ fun j => ?_
    simp only [Array.getD_eq_getD_getElem?, Array.getElem?_replicate]
    split <;> simp
  · intro i x _ hD
    simp only [Array.getD_eq_getD_getElem?, Array.getElem?_replicate] at hD
    split at hD <;> simp at hD
  · have hw := h.wr
    exact ⟨h.env, h.size, h.defers, ⟨hw.heap, hw.own, hw.inj, ⟨hw.below.os, hw.below.tape, hw.below.output, hw.below.size, hw.below.block⟩, hw.base⟩, h.le⟩
  · refine Nat.le_trans (List.countP_le_length) (by simp)

theorem exec_leads (hC : CallsOk P C) (hI : InOk P I) (hE : EqOk P E) (hm : P.follows .mixedOrders = true) {r : Value} : ∀ (c : Code) {K : Kn} {S : St},
    exec P C I inl E L c K S = some r → ∃ ex S', K ex S' = some r ∧ Leads P c S ex S' := by
  intro c
  induction c with
  | skip => intro K S h; exact ⟨.normal, S, h, rfl, fun B w0 σ0 σ a w Q hr hQ => wp_skip (hQ σ a w hr)⟩
  | label l => intro K S h; exact ⟨.normal, S, h, rfl, fun B w0 σ0 σ a w Q hr hQ => wp_label (hQ σ a w hr)⟩
  | exit id => intro K S h; exact ⟨.exit id, S, h, rfl, fun B w0 σ0 σ a w Q hr hQ => wp_exit (hQ σ a w hr)⟩
  | ret => intro K S h; exact ⟨.ret, S, h, rfl, fun B w0 σ0 σ a w Q hr hQ => wp_ret (hQ σ a w hr)⟩
  | region id ops draw =>
    intro K S h
    simp only [exec] at h
    cases draw with
    | true => obtain ⟨S', h1, h2⟩ := region_drawn (id := id) hC hI hE hm (k := fun S' => K .normal S') h; exact ⟨.normal, S', h1, h2⟩
    | false => obtain ⟨S', rs, h1, h2⟩ := region_text (id := id) hC hI hE h; exact ⟨.normal, S', h1, h2⟩
  | seq x y ihx ihy =>
    intro K S h
    simp only [exec] at h
    obtain ⟨ex, S1, h1, hn1, hl1⟩ := ihx h
    cases ex with
    | normal =>
      obtain ⟨ex2, S2, h2, hn2, hl2⟩ := ihy h1
      exact ⟨ex2, S2, h2, hn2.trans hn1, fun B w0 σ0 σ a w Q hr hQ => wp_seq (hl1 B w0 σ0 σ a w _ hr fun σ' a' w' hr' => hl2 B w0 σ0 σ' a' w' Q hr' hQ)⟩
    | exit id => exact ⟨.exit id, S1, h1, hn1, fun B w0 σ0 σ a w Q hr hQ => wp_seq (hl1 B w0 σ0 σ a w _ hr hQ)⟩
    | ret => exact ⟨.ret, S1, h1, hn1, fun B w0 σ0 σ a w Q hr hQ => wp_seq (hl1 B w0 σ0 σ a w _ hr hQ)⟩
  | cond c x y ihx ihy =>
    intro K S h
    simp only [exec] at h
    split at h
    · rename_i t
      split at h
      · rename_i g hg
        cases g with
        | true =>
          obtain ⟨ex, S1, h1, hn1, hl1⟩ := ihx h
          exact ⟨ex, S1, h1, hn1, fun B w0 σ0 σ a w Q hr hQ => wp_cond_true (RV.eq rfl (hr.env t _ hg)) (hl1 B w0 σ0 σ a w Q (hr.know hg) hQ)⟩
        | false =>
          obtain ⟨ex, S1, h1, hn1, hl1⟩ := ihy h
          exact ⟨ex, S1, h1, hn1, fun B w0 σ0 σ a w Q hr hQ => wp_cond_false (RV.eq rfl (hr.env t _ hg)) (hl1 B w0 σ0 σ a w Q (hr.know hg) hQ)⟩
      · cases h
    · rename_i g
      cases g with
      | true =>
        obtain ⟨ex, S1, h1, hn1, hl1⟩ := ihx h
        exact ⟨ex, S1, h1, hn1, fun B w0 σ0 σ a w Q hr hQ => wp_cond_true rfl (hl1 B w0 σ0 σ a w Q hr hQ)⟩
      | false =>
        obtain ⟨ex, S1, h1, hn1, hl1⟩ := ihy h
        exact ⟨ex, S1, h1, hn1, fun B w0 σ0 σ a w Q hr hQ => wp_cond_false rfl (hl1 B w0 σ0 σ a w Q hr hQ)⟩
    · cases h
  | block id c ih =>
    intro K S h
    simp only [exec] at h
    obtain ⟨ex, S1, h1, hn1, hl1⟩ := ih h
    cases ex with
    | normal => exact ⟨.normal, S1, h1, hn1, fun B w0 σ0 σ a w Q hr hQ => wp_block (hl1 B w0 σ0 σ a w _ hr hQ)⟩
    | ret => exact ⟨.ret, S1, h1, hn1, fun B w0 σ0 σ a w Q hr hQ => wp_block (hl1 B w0 σ0 σ a w _ hr hQ)⟩
    | exit j =>
      simp only at h1
      cases hj : Nat.beq j id with
      | true =>
        rw [hj] at h1
        have e := Nat.eq_of_beq_eq_true hj
        refine ⟨.normal, S1, h1, hn1, fun B w0 σ0 σ a w Q hr hQ => wp_block (hl1 B w0 σ0 σ a w _ hr fun σ' a' w' hr' => ?_)⟩
        simp only [Ex.out, Exit.inBlock]
        rw [if_pos e]
        exact hQ σ' a' w' hr'
      | false =>
        rw [hj] at h1
        refine ⟨.exit j, S1, h1, hn1, fun B w0 σ0 σ a w Q hr hQ => wp_block (hl1 B w0 σ0 σ a w _ hr fun σ' a' w' hr' => ?_)⟩
        simp only [Ex.out, Exit.inBlock]
        rw [if_neg (fun e => by subst e; rw [Nat.beq_refl] at hj; cases hj)]
        exact hQ σ' a' w' hr'
  | loop c ih =>
    intro K S h
    simp only [exec] at h
    have key : ∀ (m : Nat) (S : St), loopN (exec P C I inl E L c) K m S = some r → ∃ ex S', K ex S' = some r ∧ S'.n = S.n ∧ ∀ (B : Nat) (w0 : World) (σ0 σ : Num) (a : Act) (w : World) (Q : Exit → Act → World → Prop), Rel B w0 σ0 S.fs S.n σ a w →
        (∀ σ' a' w', Rel B w0 σ0 S'.fs S'.n σ' a' w' → Q ex.out a' w') → ∀ (b : Frame) (k : List Item) (cs : List Frame), ∃ e a' w', Q e a' w' ∧ Arrives P (lone (b.at a (.code c :: .inLoop c :: k)) cs w) b k cs e a' w' := by
      intro m
      induction m with
      | zero => intro S h; simp [loopN] at h
      | succ m ihm =>
        intro S h
        simp only [loopN] at h
        obtain ⟨ex, S1, h1, hn1, hl1⟩ := ih h
        have out : ∀ ex' : Ex, ex'.out ≠ .normal → ∀ (B : Nat) (w0 : World) (σ0 σ : Num) (a : Act) (w : World) (Q : Exit → Act → World → Prop), Rel B w0 σ0 S.fs S.n σ a w →
            (∀ σ' a' w', Rel B w0 σ0 S1.fs S1.n σ' a' w' → Q ex'.out a' w') → Leads P c S ex' S1 → ∀ (b : Frame) (k : List Item) (cs : List Frame), ∃ e a' w', Q e a' w' ∧ Arrives P (lone (b.at a (.code c :: .inLoop c :: k)) cs w) b k cs e a' w' := by
          intro ex' hne B w0 σ0 σ a w Q hr hQ hl b k cs
          obtain ⟨e, a₁, w₁, ⟨he, hq⟩, harr⟩ := hl.2 B w0 σ0 σ a w (fun e a w => e = ex'.out ∧ Q e a w) hr (fun σ' a' w' hr' => ⟨rfl, hQ σ' a' w' hr'⟩) b (.inLoop c :: k) cs
          exact ⟨e, a₁, w₁, hq, .pass (x := .inLoop c) rfl (fun _ _ => .inl (by rw [he]; exact hne)) harr⟩
        cases ex with
        | normal =>
          obtain ⟨ex2, S2, h2, hn2, hl2⟩ := ihm S1 h1
          refine ⟨ex2, S2, h2, hn2.trans hn1, fun B w0 σ0 σ a w Q hr hQ b k cs => ?_⟩
          obtain ⟨e, a₁, w₁, ⟨he, σ1, hr1⟩, harr⟩ := hl1 B w0 σ0 σ a w (fun e a w => e = .normal ∧ ∃ σ1, Rel B w0 σ0 S1.fs S1.n σ1 a w) hr (fun σ' a' w' hr' => ⟨rfl, σ', hr'⟩) b (.inLoop c :: k) cs
          subst he
          obtain ⟨e₂, a₂, w₂, hq₂, harr₂⟩ := hl2 B w0 σ0 σ1 a₁ w₁ Q hr1 hQ b k cs
          exact ⟨e₂, a₂, w₂, hq₂, .of_steps (Steps.trans harr (.one step_inLoop)) harr₂⟩
        | exit id => exact ⟨.exit id, S1, h1, hn1, fun B w0 σ0 σ a w Q hr hQ => out (.exit id) (by simp [Ex.out]) B w0 σ0 σ a w Q hr hQ ⟨hn1, hl1⟩⟩
        | ret => exact ⟨.ret, S1, h1, hn1, fun B w0 σ0 σ a w Q hr hQ => out .ret (by simp [Ex.out]) B w0 σ0 σ a w Q hr hQ ⟨hn1, hl1⟩⟩
    obtain ⟨ex, S', h1, h2, h3⟩ := key L S h
    refine ⟨ex, S', h1, h2, fun B w0 σ0 σ a w Q hr hQ b k cs => ?_⟩
    obtain ⟨e, a', w', hq, harr⟩ := h3 B w0 σ0 σ a w Q hr hQ b k cs
    exact ⟨e, a', w', hq, .of_steps (.one step_loop) harr⟩
  | scope c ih =>
    intro K S h
    simp only [exec] at h
    obtain ⟨ex, S1, h1, hn1, hl1⟩ := ih h
    refine ⟨ex, S1, h1, hn1, fun B w0 σ0 σ a w Q hr hQ => wp_scope_straight (hl1 B w0 σ0 σ a w _ hr fun σ' a' w' hr' => ?_)⟩
    cases ex with
    | normal => exact hQ σ' a' w' hr'
    | exit id => exact hQ σ' a' w' hr'
    | ret => exact hQ σ' a' w' hr'
  | _ => intro K S h; simp [exec] at h

/-! ### The results -/
def resOne (P : Program) (S : St) : ResultVar → Option Value
  | .tmp t => match look S.env t with | some v => bif isA v then some v else none | none => none
  | .cell x t => match look S.env x with
    | some (.pointer (some ⟨b, off, none⟩)) => match S.heap[b]? with
      | some blk => bif blk.dead then none else match aggOk P t, P.info? t with
        | some true, some i => bif Nat.ble (off + i.size) blk.cells.length then some (.agg ((blk.cells.drop off).take i.size).toArray) else none
        | some false, _ => blk.cells[off]?
        | _, _ => none
      | none => none
    | _ => none
def resAll (P : Program) (S : St) : List ResultVar → Option (List Value)
  | [] => some []
  | x :: xs => match resOne P S x with
    | some v => match resAll P S xs with | some vs => some (v :: vs) | none => none
    | none => none
def resV : List Value → Value
  | [v] => v
  | vs => .tuple vs.toArray

def resSem (tmps : Array Value) : ResultVar → Sem Value
  | .tmp t => pure (tmps.getD t undef)
  | .cell a t => do loadVar t (← asAddr (tmps.getD a undef))
theorem results_eq (fn : Func) (tmps : Array Value) : results fn tmps = (do
    let vs ← fn.results.mapM (resSem tmps)
    pure (if h : vs.size = 1 then vs[0] else .tuple vs)) := by
  unfold results
  congr 2

theorem resOne_sound {B : Nat} {w0 : World} {σ0 : Num} {S : St} {σ : Num} {a : Act} {w : World} (h : Rel B w0 σ0 S.fs S.n σ a w) {x : ResultVar} {v : Value} (hx : resOne P S x = some v) : ∃ v', RA σ v v' ∧ (resSem a.tmps x).run P w = .ok v' w := by
  cases x with
  | tmp t =>
    simp only [resOne] at hx
    cases he : look S.env t with
    | none => simp [he] at hx
    | some u =>
      simp only [he] at hx
      cases hf : isA u with
      | false => simp [hf] at hx
      | true =>
        simp only [hf, cond_true, Option.some.injEq] at hx
        subst hx
        exact ⟨a.eval (.tmp t), RV.toRA hf (h.env t _ he), rfl⟩
  | cell x t =>
    simp only [resOne] at hx
    split at hx
    · rename_i b off hp
      obtain ⟨b', cap, hb', e⟩ := ptr_of (h.env x _ hp)
      split at hx
      · rename_i blk hb
        cases hd : blk.dead with
        | true => simp [hd] at hx
        | false =>
        simp only [hd, cond_false] at hx
        obtain ⟨b2, cap2, h1, h2⟩ := h.wr.heap b blk hb
        rw [hb'] at h1
        cases h1
        obtain ⟨cs', rest, h2, h3, _⟩ := h2 hd
        have hl := h3.length
        have hsem : resSem a.tmps (.cell x t) = loadVar t ⟨b', off, none⟩ := by
          simp only [resSem]
          rw [show a.tmps.getD x undef = .pointer (some ⟨b', off, none⟩) from e]
          rfl
        split at hx
        · rename_i i ha hi
          cases hle : Nat.ble (off + i.size) blk.cells.length with
          | false => simp [hle] at hx
          | true =>
          simp only [hle, cond_true, Option.some.injEq] at hx
          subst hx
          have hle' := Nat.le_of_ble_eq_true hle
          have hsz : off + i.size ≤ (cs' ++ rest).toArray.size := by rw [List.size_toArray, List.length_append]; omega
          have hrun := run_load_agg (P := P) (off := off) (cs := (cs' ++ rest).toArray) ha hi (by assumption) hsz
          have ee : (((cs' ++ rest).toArray.toList.drop off).take i.size) = (cs'.drop off).take i.size := by
            have hdl : i.size ≤ (cs'.drop off).length := by rw [List.length_drop]; omega
            simp only [List.drop_append_of_le_length (show off ≤ cs'.length by omega)]
            rw [List.take_append_of_le_length hdl]
          rw [ee] at hrun
          rw [hsem]
          exact ⟨_, .inr ⟨_, _, rfl, rfl, by simpa using (h3.drop off).take i.size⟩, hrun⟩
        · rename_i ha
          obtain ⟨v', h4, h5⟩ := h3.get hx
          have hlt := (List.getElem?_eq_some_iff.1 h4).1
          rw [hsem]
          exact ⟨v', .inl h5, run_load_one ha (by assumption) (by simp [List.getElem?_append_left hlt, h4])⟩
        · cases hx
      · cases hx
    · cases hx

theorem resAll_sound {B : Nat} {w0 : World} {σ0 : Num} {S : St} {σ : Num} {a : Act} {w : World} (h : Rel B w0 σ0 S.fs S.n σ a w) : ∀ {xs : List ResultVar} {vs : List Value}, resAll P S xs = some vs → ∃ vs', All2 (RA σ) vs vs' ∧ (xs.mapM (resSem a.tmps)).run P w = .ok vs' w
  | [], vs, hx => by simp [resAll] at hx; subst hx; exact ⟨[], trivial, by simp⟩
  | x :: xs, vs, hx => by
    simp only [resAll] at hx
    split at hx
    · rename_i v hv
      split at hx
      · rename_i us hus
        cases hx
        obtain ⟨v', h1, h2⟩ := resOne_sound h hv
        obtain ⟨us', h3, h4⟩ := resAll_sound h hus
        exact ⟨v' :: us', ⟨h1, h3⟩, by simp only [List.mapM_cons, Sem.run_bind, h2, Result.andThen_ok, h4, Sem.run_pure]⟩
      · cases hx
    · cases hx

theorem results_sound {B : Nat} {w0 : World} {σ0 : Num} {S : St} {σ : Num} {a : Act} {w : World} (h : Rel B w0 σ0 S.fs S.n σ a w) {fn : Func} {vs : List Value} (hx : resAll P S fn.results.toList = some vs) :
    ∃ v', RV σ (resV vs) v' ∧ (results fn a.tmps).run P w = .ok v' w := by
  obtain ⟨vs', h1, h2⟩ := resAll_sound h hx
  have h3 : (results fn a.tmps).run P w = .ok (resV vs') w := by
    rw [results_eq, Array.mapM_eq_mapM_toList]
    simp only [Sem.run_bind, Sem.run_map, h2, Result.andThen_ok, Sem.run_pure]
    cases vs' with
    | nil => rfl
    | cons v vs' => cases vs' with
      | nil => rfl
      | cons u us => simp [resV]
  refine ⟨resV vs', ?_, h3⟩
  match vs, vs', h1 with
  | [], [], _ => exact .inr ⟨#[], #[], rfl, rfl, trivial⟩
  | [v], [v'], ⟨k, _⟩ => exact .inl k
  | v :: u :: us, v' :: u' :: us', k => exact .inr ⟨_, _, rfl, rfl, by simpa using k⟩
  | [], _ :: _, k => exact k.elim
  | _ :: _, [], k => exact k.elim
  | [_], _ :: _ :: _, ⟨_, k⟩ => exact k.elim
  | _ :: _ :: _, [_], ⟨_, k⟩ => exact k.elim

/-- The code of a function, begun with these arguments. -/
def envOf : Nat → List Value → List (Nat × Value)
  | _, [] => []
  | i, v :: vs => (i, v) :: envOf (i + 1) vs
def runIn (P : Program) (C : CallsBy) (I : InBy) (inl : Nat → Bool) (E : EqBy) (L : Nat) (fn : Func) (c : Code) (args : List Value) (H : List Blk) (k : Value → List Blk → Option Value) : Option Value :=
  exec P C I inl E L c (fun ex S => match ex with
    | .exit _ => none
    | _ => match resAll P S fn.results.toList with | some vs => k (resV vs) S.heap | none => none) ⟨envOf 0 args, H, args.length + (fn.ntmps - args.length)⟩
/-- Functions gone through in place, to a depth. -/
def inBy (P : Program) (C : CallsBy) (inl : Nat → Bool) (E : EqBy) (L : Nat) : Nat → InBy
  | 0 => fun _ _ _ _ => none
  | d + 1 => fun f vs H k => match P.funcs[f]? with
    | some fn => bif fn.name == "runtime.NumGoroutine" then none else match fn.body with
      | some c => runIn P C (inBy P C inl E L d) inl E L fn c vs H k
      | none => none
    | none => none
def runF (P : Program) (C : CallsBy) (inl : Nat → Bool) (d : Nat) (E : EqBy) (L : Nat) (fn : Func) (args : List Value) : Option Value :=
  match fn.body with
  | some c => runIn P C (inBy P C inl E L d) inl E L fn c args [] fun v _ => bif flatB v then some v else none
  | none => none

theorem look_env : ∀ {vs : List Value} {i t : Nat} {v : Value}, look (envOf i vs) t = some v → ∃ j, t = i + j ∧ vs[j]? = some v
  | [], i, t, v, h => by simp [envOf, look] at h
  | u :: vs, i, t, v, h => by
    simp only [envOf, look] at h
    cases e : Nat.beq i t with
    | true =>
      simp only [e, cond_true, Option.some.injEq] at h
      have := Nat.eq_of_beq_eq_true e
      exact ⟨0, by omega, by simp [h]⟩
    | false =>
      simp only [e, cond_false] at h
      obtain ⟨j, h1, h2⟩ := look_env h
      exact ⟨j + 1, by omega, by simpa using h2⟩

theorem runIn_sound (hC : CallsOk P C) (hI : InOk P I) (hE : EqOk P E) (hm : P.follows .mixedOrders = true) {f : FuncId} {fn : Func} {c : Code} {vs : List Value} {H : List Blk} {k : Value → List Blk → Option Value} {r : Value} (hf : P.funcs[f]? = some fn) (hb : fn.body = some c)
    (h : runIn P C I inl E L fn c vs H k = some r) : ∃ v H', k v H' = some r ∧ ∀ (B : Nat) (w0 : World) (σ : Num) (w : World) (args : List Value), WRel B w0 (fun b => H[b]?) σ w → All2 (RV σ) vs args →
      Calls P f args.toArray w fun e w' => ∃ v' σ', e = .returned v' ∧ RV σ' v v' ∧ Le σ σ' ∧ WRel B w0 (fun b => H'[b]?) σ' w' := by
  unfold runIn at h
  obtain ⟨ex, S', h1, hn, hl⟩ := exec_leads hC hI hE hm c h
  have fin : ∀ us, resAll P S' fn.results.toList = some us → k (resV us) S'.heap = some r → (ex = .normal ∨ ex = .ret) → ∃ v H', k v H' = some r ∧ ∀ (B : Nat) (w0 : World) (σ : Num) (w : World) (args : List Value), WRel B w0 (fun b => H[b]?) σ w → All2 (RV σ) vs args →
      Calls P f args.toArray w fun e w' => ∃ v' σ', e = .returned v' ∧ RV σ' v v' ∧ Le σ σ' ∧ WRel B w0 (fun b => H'[b]?) σ' w' := by
    intro us hus hk hex
    refine ⟨resV us, S'.heap, hk, fun B w0 σ w args hw hargs => calls_of_wp hf hb ?_⟩
    have hlen := hargs.length
    refine hl B w0 σ σ _ w _ ⟨fun t v hv => ?_, by simp [hlen], rfl, hw, Le.refl σ⟩ fun σ' a' w' hr => ?_
    · obtain ⟨j, hj, hv'⟩ := look_env hv
      rw [Nat.zero_add] at hj
      subst hj
      obtain ⟨v', hv2, hrv⟩ := hargs.get hv'
      have hlt := (List.getElem?_eq_some_iff.1 hv2).1
      have : Act.eval { tmps := args.toArray ++ Array.replicate (fn.ntmps - args.toArray.size) undef, defers := [] } (.tmp t) = v' := by
        simp only [Act.eval, Array.getD_eq_getD_getElem?]
        rw [Array.getElem?_append_left (by simpa using hlt)]
        simp [hv2]
      rw [this]
      exact hrv
    · obtain ⟨v', h3, h4⟩ := results_sound hr hus
      rcases hex with rfl | rfl
      · exact ⟨hr.defers, v', h4, v', σ', rfl, h3, hr.le, hr.wr⟩
      · exact ⟨hr.defers, v', h4, v', σ', rfl, h3, hr.le, hr.wr⟩
  cases ex with
  | exit id => cases h1
  | normal =>
    simp only at h1
    split at h1
    · rename_i us hus; exact fin us hus h1 (.inl rfl)
    · cases h1
  | ret =>
    simp only at h1
    split at h1
    · rename_i us hus; exact fin us hus h1 (.inr rfl)
    · cases h1

theorem inBy_ok (hC : CallsOk P C) (hE : EqOk P E) (hm : P.follows .mixedOrders = true) : ∀ d, InOk P (inBy P C inl E L d)
  | 0 => fun f vs H k r h => by simp [inBy] at h
  | d + 1 => fun f vs H k r h => by
    simp only [inBy] at h
    split at h
    · rename_i fn hf
      cases hname : (fn.name == "runtime.NumGoroutine") with
      | true => simp [hname] at h
      | false =>
      simp only [hname, cond_false] at h
      split at h
      · rename_i c hb
        obtain ⟨v, H', h1, h2⟩ := runIn_sound hC (inBy_ok hC hE hm d) hE hm hf hb h
        exact ⟨v, H', h1, ⟨fn, hf, hname, by rw [hb]; rfl⟩, h2⟩
      · cases h
    · cases h

theorem runF_sound (hC : CallsOk P C) (hE : EqOk P E) (hm : P.follows .mixedOrders = true) {d : Nat} {f : FuncId} {fn : Func} {args : List Value} {r : Value} (hf : P.funcs[f]? = some fn)
    (hargs : args.all flatB = true) (h : runF P C inl d E L fn args = some r) (w : World) :
    Calls P f args.toArray w fun e w' => e = .returned r ∧ Below w.heap.size w w' := by
  unfold runF at h
  cases hb : fn.body with
  | none => simp [hb] at h
  | some c =>
    simp only [hb] at h
    obtain ⟨v, H', h1, h2⟩ := runIn_sound hC (inBy_ok hC hE hm d) hE hm hf hb h
    cases hfl : flatB v with
    | false => simp [hfl] at h1
    | true =>
    simp only [hfl, cond_true, Option.some.injEq] at h1
    subst h1
    refine (h2 w.heap.size w (fun _ => none) w args ⟨fun b blk hb => by simp at hb, fun b b' cap hb => absurd hb (by simp), fun b c b' cap cap' x y hb => absurd hb (by simp), Below.refl _ _, Nat.le_refl _⟩ (All2.refl fun v hv => RV.of_flat (List.all_eq_true.1 hargs v hv))).mono fun e w' ⟨v', σ', he, hrv, _, hw⟩ => ?_
    subst he
    rw [RV.eq hfl hrv]
    exact ⟨rfl, hw.below⟩
end
end Go.Proofs.YtcgjfkaipbhpkaaGreatX
