/- Own work. No condition. -/
import Derived.Test.YtdjkdmjdcdljmaaGreatMs

import Derived.Scope
namespace Go.Proofs.YtdjkdmjdcdljmaaGreatX
open Go.RowKit
set_option linter.unusedVariables false
set_option linter.unusedSimpArgs false
variable {M : Cfg} {α : Type}

inductive Ex
  | normal
  | exit (id : Nat)
  | ret
abbrev Kn (α : Type) := Ex → St → Option α
abbrev LoopsBy (α : Type) := Nat → Option (St → Kn α → Option α)
def loopKey : Code → Option Nat
  | .region id _ _ => some id
  | .seq a b => match loopKey a with
    | some k => some k
    | none => loopKey b
  | .cond _ a b => match loopKey a with
    | some k => some k
    | none => loopKey b
  | .block _ c => loopKey c
  | .loop c => loopKey c
  | .scope c => loopKey c
  | _ => none
def loopsOf : Code → List Code
  | .seq a b => loopsOf a ++ loopsOf b
  | .cond _ a b => loopsOf a ++ loopsOf b
  | .block _ c => loopsOf c
  | .loop c => c :: loopsOf c
  | .scope c => loopsOf c
  | _ => []
def loopN (body : Kn α → St → Option α) (K : Kn α) : Nat → St → Option α
  | 0, _ => none
  | n + 1, S => body (fun ex S' => match ex with | .normal => loopN body K n S' | e => K e S') S
abbrev RefitBy := Nat → Option (St → Option St)
def refit (RF : RefitBy) (id : Nat) (S : St) : Option St := match RF id with
  | some f => f S
  | none => some S
def noRefit : RefitBy := fun _ => none
abbrev CutBy (α : Type) := Nat → Option (Array Oper → Bool → St → (St → Option α) → Option α)
def noCuts : CutBy α := fun _ => none
def exec (M : Cfg) (C : CallsBy α) (E : EqBy) (LP : LoopsBy α) (RF : RefitBy) (CP : CutBy α) (L : Nat) : Code → Kn α → St → Option α
  | .skip, K, S => K .normal S
  | .region id ops draw, K, S => match CP id with
    | some ct => ct ops draw S (K .normal)
    | none => match refit RF id S with
      | some S => bif draw
        then vseq M C E ops ops.toList S [] fun S' rs => bif regOk ops rs then K .normal S' else none
        else vseq M C E ops ops.toList S [] fun S' _ => K .normal S'
      | none => none
  | .seq a b, K, S => exec M C E LP RF CP L a (fun ex S' => match ex with | .normal => exec M C E LP RF CP L b K S' | e => K e S') S
  | .cond c a b, K, S => match c with
    | .tmp t => match look S.env t with
      | some (.lf (.bool g)) => bif g then exec M C E LP RF CP L a K (S.know t (.lf (.bool true))) else exec M C E LP RF CP L b K (S.know t (.lf (.bool false)))
      | _ => none
    | .const (.bool g) => bif g then exec M C E LP RF CP L a K S else exec M C E LP RF CP L b K S
    | _ => none
  | .block id c, K, S => exec M C E LP RF CP L c (fun ex S' => match ex with
    | .normal => K .normal S'
    | .exit j => bif Nat.beq j id then K .normal S' else K (.exit j) S'
    | .ret => K .ret S') S
  | .loop c, K, S => match loopKey c with
    | some key => match LP key with
      | some lp => lp S K
      | none => loopN (exec M C E LP RF CP L c) K L S
    | none => loopN (exec M C E LP RF CP L c) K L S
  | .scope c, K, S => exec M C E LP RF CP L c K S
  | .exit id, K, S => K (.exit id) S
  | .ret, K, S => K .ret S
  | .label _, K, S => K .normal S
  | _, _, _ => none
def Ex.out : Ex → Exit
  | .normal => .normal
  | .exit id => .exit id
  | .ret => .ret

def Leads (M : Cfg) (m : Nat) (c : Code) (S : St) (ex : Ex) (S' : St) : Prop :=
  S'.n = S.n ∧ ∀ (E : Ent) (σ : Num) (Z : Zone) (a : Act) (w : World) (Q : Exit → Act → World → Prop), E.m = m → Rel M E S.fs S.n σ Z a w →
    (∀ σ' Z' a' w', Rel M E S'.fs S'.n σ' Z' a' w' → Q ex.out a' w') → c.wp M.P Q a w
def LoopOk (M : Cfg) (m : Nat) (c : Code) (lp : St → Kn α → Option α) : Prop := ∀ (K : Kn α) S r, lp S K = some r → ∃ ex S', K ex S' = some r ∧ Leads M m (.loop c) S ex S'
def CutOk (M : Cfg) (m : Nat) (ct : Array Oper → Bool → St → (St → Option α) → Option α) : Prop := ∀ ops draw S k r, ct ops draw S k = some r → ∃ S', k S' = some r ∧ ∀ id, Leads M m (.region id ops draw) S .normal S'
def CutsOk (M : Cfg) (m : Nat) (CP : CutBy α) : Prop := ∀ id ct, CP id = some ct → CutOk M m ct
theorem noCuts_ok {m : Nat} : CutsOk (α := α) M m noCuts := fun _ _ h => by cases h
def RefitOk (M : Cfg) (m : Nat) (RF : RefitBy) : Prop := ∀ id f S S', RF id = some f → f S = some S' → S'.n = S.n ∧ ∀ (E : Ent) (σ : Num) (Z : Zone) (a : Act) (w : World), E.m = m → Rel M E S.fs S.n σ Z a w → ∃ σ' Z', Rel M E S'.fs S.n σ' Z' a w
theorem noRefit_ok {m : Nat} : RefitOk M m noRefit := fun _ _ _ _ h => by cases h
def LoopsOk (M : Cfg) (m : Nat) (LP : LoopsBy α) (cs : List Code) : Prop := ∀ c ∈ cs, ∀ key lp, loopKey c = some key → LP key = some lp → LoopOk M m c lp

section
variable {C : CallsBy α} {E : EqBy} {LP : LoopsBy α} {RF : RefitBy} {CP : CutBy α} {L m : Nat}
def Past (S S' : St) (ops : Array Oper) (rs : List Rec) : Prop := ∃ xs : List Ob, Chain S.fs xs S'.fs ∧ xs.map Ob.o = ops.toList ∧ rs = xs.map Ob.note
theorem region_text (hC : CallsOk M C) (hE : EqOk M.P E) {ops : Array Oper} {id : Nat} {S : St} {k : St → List Rec → Option α} {r : α}
    (hr : vseq M C E ops ops.toList S [] k = some r) : ∃ S' rs, k S' rs = some r ∧ Leads M m (.region id ops false) S .normal S' ∧ Past S S' ops rs := by
  obtain ⟨xs, S', h1, h2, h3, h4, h5⟩ := vseq_spec hC hE hr
  refine ⟨S', _, h5, ⟨h3, fun E σ Z a w Q hm h hQ => wp_region ?_⟩, xs, h2, h1, rfl⟩
  have hlen : xs.length = ops.size := by have := congrArg List.length h1; simpa using this
  have := wpOps_chain (ops := ops) (Q := Q) (k := 0) h h2 (fun j => by rw [← List.getElem?_map, h1]; simp) h4 fun σ' Z' a' w' hrel => hQ σ' Z' a' w' (by rw [h3]; exact hrel)
  rw [hlen] at this
  rw [List.range_eq_range']
  exact this
theorem region_drawn (hC : CallsOk M C) (hE : EqOk M.P E) (hm : M.P.follows .mixedOrders = true) {ops : Array Oper} {id : Nat} {S : St} {k : St → List Rec → Option α} {r : α}
    (hr : (vseq M C E ops ops.toList S [] fun S' rs => bif regOk ops rs then k S' rs else none) = some r) : ∃ S' rs, k S' rs = some r ∧ Leads M m (.region id ops true) S .normal S' ∧ Past S S' ops rs := by
  obtain ⟨xs, S', h1, h2, h3, h4, h5⟩ := vseq_spec hC hE hr
  simp only [List.nil_append] at h5
  obtain ⟨hk, h5⟩ := bif_some h5
  have ha := apart_of hk h1
  obtain ⟨h6, h7⟩ := chain_at ha (F0 := S.fs) (k := 0) h2 (fun j => by simp) (At.start xs S.fs _ fun j => Nat.not_lt_zero j)
  refine ⟨S', _, h5, ⟨h3, fun E σ Z a w Q hEm h hQ => wp_region_any hm ?_⟩, xs, h2, h1, rfl⟩
  refine any_order ha h1 h4 (fun i x hx => h6 i x (Nat.zero_le i) hx) (by simpa using h7) (fun σ' Z' a' w' hrel => hQ σ' Z' a' w' (by rw [h3]; exact hrel)) ops.size (Array.replicate ops.size false) S.fs σ Z a _ (by simp) ?_ ?_ ?_ ?_
  · refine At.start xs S.fs _ fun j => ?_
    simp only [Array.getD_eq_getD_getElem?, Array.getElem?_replicate]
    split <;> simp
  · intro i x _ hD
    simp only [Array.getD_eq_getD_getElem?, Array.getElem?_replicate] at hD
    split at hD <;> simp at hD
  · have := h.step (o := { dst := none, op := .alloc 0, type := 0, pos := "", after := #[], guard := none }) (out := skipOut) (fun d e => by cases e) (und_rv (σ := σ) (Z := Z) (w := w.drew)) (Moves.of_below h.inv (Below.drew (Below.refl _ _)))
    have e : S.fs.put { dst := none, op := .alloc 0, type := 0, pos := "", after := #[], guard := none } skipOut = S.fs := by
      unfold Fs.put skipOut
      simp only [look2]
      rfl
    rw [e] at this
    exact this
  · refine Nat.le_trans (List.countP_le_length) (by simp)

theorem leads_refit {id : Nat} {S S1 S' : St} {ex : Ex} {c : Code} (hR : RefitOk M m RF) (h : refit RF id S = some S1) (hl : Leads M m c S1 ex S') : Leads M m c S ex S' := by
  unfold refit at h
  split at h
  · rename_i f hf
    obtain ⟨h1, h2⟩ := hR id f S S1 hf h
    refine ⟨hl.1.trans h1, fun E σ Z a w Q hE hr hQ => ?_⟩
    obtain ⟨σ', Z', hr'⟩ := h2 E σ Z a w hE hr
    rw [← h1] at hr'
    exact hl.2 E σ' Z' a w Q hE hr' hQ
  · cases h; exact hl
theorem exec_leads (hC : CallsOk M C) (hE : EqOk M.P E) (hm : M.P.follows .mixedOrders = true) (hR : RefitOk M m RF) (hCP : CutsOk M m CP) {r : α} : ∀ (c : Code) {K : Kn α} {S : St}, LoopsOk M m LP (loopsOf c) →
    exec M C E LP RF CP L c K S = some r → ∃ ex S', K ex S' = some r ∧ Leads M m c S ex S' := by
  intro c
  induction c with
  | skip => intro K S _ h; exact ⟨.normal, S, h, rfl, fun E σ Z a w Q _ hr hQ => wp_skip (hQ σ Z a w hr)⟩
  | label l => intro K S _ h; exact ⟨.normal, S, h, rfl, fun E σ Z a w Q _ hr hQ => wp_label (hQ σ Z a w hr)⟩
  | exit id => intro K S _ h; exact ⟨.exit id, S, h, rfl, fun E σ Z a w Q _ hr hQ => wp_exit (hQ σ Z a w hr)⟩
  | ret => intro K S _ h; exact ⟨.ret, S, h, rfl, fun E σ Z a w Q _ hr hQ => wp_ret (hQ σ Z a w hr)⟩
  | region id ops draw =>
    intro K S _ h
    simp only [exec] at h
    split at h
    · rename_i ct hct
      obtain ⟨S', h1, h2⟩ := hCP id ct hct ops draw S _ r h
      exact ⟨.normal, S', h1, h2 id⟩
    · split at h
      · rename_i S1 hS1
        cases draw with
        | true => obtain ⟨S', rs, h1, h2, _⟩ := region_drawn (id := id) hC hE hm (k := fun S' _ => K .normal S') h; exact ⟨.normal, S', h1, leads_refit hR hS1 h2⟩
        | false => obtain ⟨S', rs, h1, h2, _⟩ := region_text (id := id) hC hE h; exact ⟨.normal, S', h1, leads_refit hR hS1 h2⟩
      · cases h
  | seq x y ihx ihy =>
    intro K S hL h
    simp only [exec] at h
    obtain ⟨ex, S1, h1, hn1, hl1⟩ := ihx (fun c hc => hL c (by simp [loopsOf, hc])) h
    cases ex with
    | normal =>
      obtain ⟨ex2, S2, h2, hn2, hl2⟩ := ihy (fun c hc => hL c (by simp [loopsOf, hc])) h1
      exact ⟨ex2, S2, h2, hn2.trans hn1, fun E σ Z a w Q hEm hr hQ => wp_seq (hl1 E σ Z a w _ hEm hr fun σ' Z' a' w' hr' => hl2 E σ' Z' a' w' Q hEm hr' hQ)⟩
    | exit id => exact ⟨.exit id, S1, h1, hn1, fun E σ Z a w Q hEm hr hQ => wp_seq (hl1 E σ Z a w _ hEm hr hQ)⟩
    | ret => exact ⟨.ret, S1, h1, hn1, fun E σ Z a w Q hEm hr hQ => wp_seq (hl1 E σ Z a w _ hEm hr hQ)⟩
  | cond c x y ihx ihy =>
    intro K S hL h
    simp only [exec] at h
    split at h
    · rename_i t
      split at h
      · rename_i g hg
        cases g with
        | true =>
          obtain ⟨ex, S1, h1, hn1, hl1⟩ := ihx (fun c hc => hL c (by simp [loopsOf, hc])) h
          exact ⟨ex, S1, h1, hn1, fun E σ Z a w Q hEm hr hQ => wp_cond_true (lf_eval (hr.env t _ hg)) (hl1 E σ Z a w Q hEm (hr.know hg) hQ)⟩
        | false =>
          obtain ⟨ex, S1, h1, hn1, hl1⟩ := ihy (fun c hc => hL c (by simp [loopsOf, hc])) h
          exact ⟨ex, S1, h1, hn1, fun E σ Z a w Q hEm hr hQ => wp_cond_false (lf_eval (hr.env t _ hg)) (hl1 E σ Z a w Q hEm (hr.know hg) hQ)⟩
      · cases h
    · rename_i g
      cases g with
      | true =>
        obtain ⟨ex, S1, h1, hn1, hl1⟩ := ihx (fun c hc => hL c (by simp [loopsOf, hc])) h
        exact ⟨ex, S1, h1, hn1, fun E σ Z a w Q hEm hr hQ => wp_cond_true rfl (hl1 E σ Z a w Q hEm hr hQ)⟩
      | false =>
        obtain ⟨ex, S1, h1, hn1, hl1⟩ := ihy (fun c hc => hL c (by simp [loopsOf, hc])) h
        exact ⟨ex, S1, h1, hn1, fun E σ Z a w Q hEm hr hQ => wp_cond_false rfl (hl1 E σ Z a w Q hEm hr hQ)⟩
    · cases h
  | block id c ih =>
    intro K S hL h
    simp only [exec] at h
    obtain ⟨ex, S1, h1, hn1, hl1⟩ := ih hL h
    cases ex with
    | normal => exact ⟨.normal, S1, h1, hn1, fun E σ Z a w Q hEm hr hQ => wp_block (hl1 E σ Z a w _ hEm hr hQ)⟩
    | ret => exact ⟨.ret, S1, h1, hn1, fun E σ Z a w Q hEm hr hQ => wp_block (hl1 E σ Z a w _ hEm hr hQ)⟩
    | exit j =>
      simp only at h1
      cases hj : Nat.beq j id with
      | true =>
        rw [hj] at h1
        have e := Nat.eq_of_beq_eq_true hj
        refine ⟨.normal, S1, h1, hn1, fun E σ Z a w Q hEm hr hQ => wp_block (hl1 E σ Z a w _ hEm hr fun σ' Z' a' w' hr' => ?_)⟩
        simp only [Ex.out, Exit.inBlock]
        rw [if_pos e]
        exact hQ σ' Z' a' w' hr'
      | false =>
        rw [hj] at h1
        refine ⟨.exit j, S1, h1, hn1, fun E σ Z a w Q hEm hr hQ => wp_block (hl1 E σ Z a w _ hEm hr fun σ' Z' a' w' hr' => ?_)⟩
        simp only [Ex.out, Exit.inBlock]
        rw [if_neg (fun e => by subst e; rw [Nat.beq_refl] at hj; cases hj)]
        exact hQ σ' Z' a' w' hr'
  | loop c ih =>
    intro K S hL h
    have hLc : LoopsOk M m LP (loopsOf c) := fun c' hc => hL c' (by simp [loopsOf, hc])
    have plain : loopN (exec M C E LP RF CP L c) K L S = some r → ∃ ex S', K ex S' = some r ∧ Leads M m (.loop c) S ex S' := by
      intro h
      have key : ∀ (q : Nat) (S : St), loopN (exec M C E LP RF CP L c) K q S = some r → ∃ ex S', K ex S' = some r ∧ S'.n = S.n ∧ ∀ (E : Ent) (σ : Num) (Z : Zone) (a : Act) (w : World) (Q : Exit → Act → World → Prop), E.m = m → Rel M E S.fs S.n σ Z a w →
          (∀ σ' Z' a' w', Rel M E S'.fs S'.n σ' Z' a' w' → Q ex.out a' w') → ∀ (b : Frame) (k : List Item) (cs : List Frame), ∃ e a' w', Q e a' w' ∧ Arrives M.P (lone (b.at a (.code c :: .inLoop c :: k)) cs w) b k cs e a' w' := by
        intro q
        induction q with
        | zero => intro S h; simp [loopN] at h
        | succ q ihq =>
          intro S h
          simp only [loopN] at h
          obtain ⟨ex, S1, h1, hn1, hl1⟩ := ih hLc h
          have out : ∀ ex' : Ex, ex'.out ≠ .normal → Leads M m c S ex' S1 → ∀ (E : Ent) (σ : Num) (Z : Zone) (a : Act) (w : World) (Q : Exit → Act → World → Prop), E.m = m → Rel M E S.fs S.n σ Z a w →
              (∀ σ' Z' a' w', Rel M E S1.fs S1.n σ' Z' a' w' → Q ex'.out a' w') → ∀ (b : Frame) (k : List Item) (cs : List Frame), ∃ e a' w', Q e a' w' ∧ Arrives M.P (lone (b.at a (.code c :: .inLoop c :: k)) cs w) b k cs e a' w' := by
            intro ex' hne hl E σ Z a w Q hEm hr hQ b k cs
            obtain ⟨e, a₁, w₁, ⟨he, hq⟩, harr⟩ := hl.2 E σ Z a w (fun e a w => e = ex'.out ∧ Q e a w) hEm hr (fun σ' Z' a' w' hr' => ⟨rfl, hQ σ' Z' a' w' hr'⟩) b (.inLoop c :: k) cs
            exact ⟨e, a₁, w₁, hq, .pass (x := .inLoop c) rfl (fun _ _ => .inl (by rw [he]; exact hne)) harr⟩
          cases ex with
          | normal =>
            obtain ⟨ex2, S2, h2, hn2, hl2⟩ := ihq S1 h1
            refine ⟨ex2, S2, h2, hn2.trans hn1, fun E σ Z a w Q hEm hr hQ b k cs => ?_⟩
            obtain ⟨e, a₁, w₁, ⟨he, σ1, Z1, hr1⟩, harr⟩ := hl1 E σ Z a w (fun e a w => e = .normal ∧ ∃ σ1 Z1, Rel M E S1.fs S1.n σ1 Z1 a w) hEm hr (fun σ' Z' a' w' hr' => ⟨rfl, σ', Z', hr'⟩) b (.inLoop c :: k) cs
            subst he
            obtain ⟨e₂, a₂, w₂, hq₂, harr₂⟩ := hl2 E σ1 Z1 a₁ w₁ Q hEm hr1 hQ b k cs
            exact ⟨e₂, a₂, w₂, hq₂, .of_steps (Steps.trans harr (.one step_inLoop)) harr₂⟩
          | exit id => exact ⟨.exit id, S1, h1, hn1, fun E σ Z a w Q hEm hr hQ => out (.exit id) (by simp [Ex.out]) ⟨hn1, hl1⟩ E σ Z a w Q hEm hr hQ⟩
          | ret => exact ⟨.ret, S1, h1, hn1, fun E σ Z a w Q hEm hr hQ => out .ret (by simp [Ex.out]) ⟨hn1, hl1⟩ E σ Z a w Q hEm hr hQ⟩
      obtain ⟨ex, S', h1, h2, h3⟩ := key L S h
      refine ⟨ex, S', h1, h2, fun E σ Z a w Q hEm hr hQ b k cs => ?_⟩
      obtain ⟨e, a', w', hq, harr⟩ := h3 E σ Z a w Q hEm hr hQ b k cs
      exact ⟨e, a', w', hq, .of_steps (.one step_loop) harr⟩
    simp only [exec] at h
    split at h
    · rename_i key hkey
      split at h
      · rename_i lp hlp
        exact hL c (by simp [loopsOf]) key lp hkey hlp K S r h
      · exact plain h
    · exact plain h
  | scope c ih =>
    intro K S hL h
    simp only [exec] at h
    obtain ⟨ex, S1, h1, hn1, hl1⟩ := ih hL h
    refine ⟨ex, S1, h1, hn1, fun E σ Z a w Q hEm hr hQ => wp_scope_straight (hl1 E σ Z a w _ hEm hr fun σ' Z' a' w' hr' => ?_)⟩
    cases ex with
    | normal => exact hQ σ' Z' a' w' hr'
    | exit id => exact hQ σ' Z' a' w' hr'
    | ret => exact hQ σ' Z' a' w' hr'
  | _ => intro K S _ h; simp [exec] at h
end

structure SSh where
  tmps : List Nat
  sh : Sh
  hs : List HSh
@[reducible] def SSh.I (s : SSh) : Type := s.sh.I × HsI s.hs
def envZ : List Nat → List V → List (Nat × V)
  | t :: ts, v :: vs => (t, v) :: envZ ts vs
  | _, _ => []
def SSh.enc (s : SSh) (n : Nat) (x : s.I) : St := { env := envZ s.tmps (s.sh.enc x.1), heap := encH s.hs x.2, n := n }
def looks (env : List (Nat × V)) : List Nat → Option (List V)
  | [] => some []
  | t :: ts => match look env t with
    | some v => match looks env ts with | some vs => some (v :: vs) | none => none
    | none => none
def SSh.fit (s : SSh) (m : Nat) (S : St) : Option s.I :=
  match looks S.env s.tmps with
  | some vs => match Go.Proofs.YtdjkdmjdcdljmaaGreatX.fit s.sh s.hs m vs S.heap with
    | some (x, _) => some x
    | none => none
  | none => none
theorem looks_rv {E : Ent} {S : St} {n : Nat} {σ : Num} {Z : Zone} {a : Act} {w : World} (h : Rel M E S.fs n σ Z a w) : ∀ {ts : List Nat} {vs : List V}, looks S.env ts = some vs → RVs M σ Z w vs (ts.map fun t => a.eval (.tmp t))
  | [], vs, e => by simp [looks] at e; subst e; simp [RVs]
  | t :: ts, vs, e => by
    simp only [looks] at e
    split at e
    · rename_i v hv
      split at e
      · rename_i us hus
        cases e
        simp only [List.map_cons, RVs]
        exact ⟨_, _, rfl, h.env t v hv, looks_rv h hus⟩
      · cases e
    · cases e
theorem envZ_look {σ : Num} {Z : Zone} {w : World} {a : Act} : ∀ {ts : List Nat} {vs : List V}, RVs M σ Z w vs (ts.map fun t => a.eval (.tmp t)) → ∀ t v, look (envZ ts vs) t = some v → RV M σ Z w v (a.eval (.tmp t))
  | [], vs, h, t, v, e => by cases vs <;> simp [envZ, look] at e
  | u :: ts, [], h, t, v, e => by simp [envZ, look] at e
  | u :: ts, x :: vs, h, t, v, e => by
    obtain ⟨x', m, e1, h1, h2⟩ := h.cons
    simp only [List.map_cons, List.cons.injEq] at e1
    obtain ⟨rfl, rfl⟩ := e1
    simp only [envZ, look] at e
    cases hb : Nat.beq u t with
    | true =>
      rw [hb] at e
      simp only [cond_true, Option.some.injEq] at e
      have := Nat.eq_of_beq_eq_true hb
      subst this
      subst e
      exact h1
    | false =>
      rw [hb] at e
      exact envZ_look h2 t v e
theorem Frm.fit {E : Ent} {σ σl : Num} {Z Zl : Zone} {w : World} (h : Frm E σ Z w) (f : Fitted M σ Z w E.m σl Zl) : Frm E σl Zl w := by
  refine ⟨h.os, h.tape, h.output, h.size, h.block, fun r hr => f.zone r (h.zone r hr), fun r hr => ?_, fun r hr => h.own r (f.own r hr), fun F hF k => (h.mono F hF k).trans (f.mono F hF k)⟩
  rcases f.znew r hr with h1 | h1
  · exact h.znew r h1
  · exact .inr (h.own r h1)
theorem SSh.fit_ok {s : SSh} {m n : Nat} {S : St} {x : s.I} (h : s.fit m S = some x) (hm : m ≤ s.hs.length) {E : Ent} (hE : E.m = m) {σ : Num} {Z : Zone} {a : Act} {w : World} (hr : Rel M E S.fs n σ Z a w) :
    ∃ σ' Z', Rel M E (s.enc n x).fs n σ' Z' a w := by
  unfold SSh.fit at h
  split at h
  · rename_i vs hvs
    split at h
    · rename_i x' W hf
      cases h
      obtain ⟨_, g⟩ := fit_spec (M := M) hf hm
      obtain ⟨k1, k2, k3, k4⟩ := g σ Z w _ hr.inv (fun G he _ hG => hr.heap G he hG) (looks_rv hr hvs)
      refine ⟨_, _, ⟨fun t v ht => envZ_look k1 t v ht, hr.size, hr.defers, k2, fun F hF k => ?_, k4.inv, hr.frm.fit (by rw [hE]; exact k4)⟩⟩
      refine k3 F ?_ k
      have : (encH s.hs x.2)[F]? = none := hF
      rw [List.getElem?_eq_none_iff, encH_len] at this
      exact this
    · cases h
  · cases h

def rfOf (m n : Nat) (ssh : SSh) : St → Option St := fun S => bif Nat.beq S.n n then (match ssh.fit m S with
  | some x => some (ssh.enc n x)
  | none => none) else none
theorem rfOf_ok {m n : Nat} {ssh : SSh} {S S' : St} (hm : m ≤ ssh.hs.length) (h : rfOf m n ssh S = some S') : S'.n = S.n ∧ ∀ (E : Ent) (σ : Num) (Z : Zone) (a : Act) (w : World), E.m = m → Rel M E S.fs S.n σ Z a w → ∃ σ' Z', Rel M E S'.fs S.n σ' Z' a w := by
  unfold rfOf at h
  obtain ⟨hn, h⟩ := bif_some h
  have hn := Nat.eq_of_beq_eq_true hn
  split at h
  · rename_i x hx
    cases h
    exact ⟨hn.symm, fun E σ Z a w hE hr => ssh.fit_ok hx hm hE hr⟩
  · cases h
def rfPut (m n id : Nat) (ssh : SSh) (rest : RefitBy) : RefitBy := fun j => bif Nat.beq j id then some (rfOf m n ssh) else rest j
theorem rfPut_ok {m n id : Nat} {ssh : SSh} {rest : RefitBy} (hm : m ≤ ssh.hs.length) (hr : RefitOk M m rest) : RefitOk M m (rfPut m n id ssh rest) := by
  intro j f S S' h1 h2
  unfold rfPut at h1
  cases hj : Nat.beq j id with
  | true => rw [hj] at h1; cases h1; exact rfOf_ok hm h2
  | false => rw [hj] at h1; exact hr j f S S' h1 h2

def lpOf (m n : Nat) (hsh : SSh) {T : Type} (G : hsh.I → Option T) (out : T → Ex × St) : St → Kn α → Option α := fun S K =>
  bif Nat.beq S.n n then (match hsh.fit m S with
    | some x => (G x).bind fun y => K (out y).1 (out y).2
    | none => none) else none
theorem lpOf_ok {m n : Nat} {hsh : SSh} {T : Type} {G : hsh.I → Option T} {out : T → Ex × St} {c : Code} (hm : m ≤ hsh.hs.length) (h : ∀ x y, G x = some y → Leads M m (.loop c) (hsh.enc n x) (out y).1 (out y).2) : LoopOk (α := α) M m c (lpOf m n hsh G out) := by
  intro K S r hr
  unfold lpOf at hr
  obtain ⟨hn, hr⟩ := bif_some hr
  have hn := Nat.eq_of_beq_eq_true hn
  split at hr
  · rename_i x hx
    cases hG : G x with
    | none => rw [hG] at hr; cases hr
    | some y =>
      rw [hG] at hr
      have hl := h x y hG
      refine ⟨_, _, hr, hl.1.trans hn.symm, fun E σ Z a w Q hE hrel hQ => ?_⟩
      rw [hn] at hrel
      obtain ⟨σ', Z', hrel'⟩ := hsh.fit_ok hx hm hE hrel
      exact hl.2 E σ' Z' a w Q hE hrel' hQ
  · cases hr
def Kl (m : Nat) (hsh : SSh) {T : Type} (G : hsh.I → Option T) (back : Kn T) : Kn T := fun ex S' => match ex with
  | .normal => (hsh.fit m S').bind G
  | e => back e S'
def backX (m n j : Nat) (xsh : SSh) : Kn xsh.I := fun ex S' => match ex with
  | .exit i => bif Nat.beq i j then xsh.fit m S' else none
  | _ => none
def outX (n j : Nat) (xsh : SSh) : xsh.I → Ex × St := fun y => (.exit j, xsh.enc n y)
def backXR (m j : Nat) (xsh rsh : SSh) : Kn (xsh.I ⊕ rsh.I) := fun ex S' => match ex with
  | .exit i => bif Nat.beq i j then (xsh.fit m S').bind fun y => some (.inl y) else none
  | .ret => (rsh.fit m S').bind fun y => some (.inr y)
  | .normal => none
def outXR (n j : Nat) (xsh rsh : SSh) : xsh.I ⊕ rsh.I → Ex × St
  | .inl y => (.exit j, xsh.enc n y)
  | .inr y => (.ret, rsh.enc n y)
def BackOk (M : Cfg) (m n : Nat) {T : Type} (back : Kn T) (out : T → Ex × St) : Prop := (∀ S', back .normal S' = none) ∧ ∀ ex S' y, back ex S' = some y → S'.n = n → (out y).1 = ex ∧ (out y).2.n = n ∧ ∀ (E : Ent) σ Z a w, E.m = m → Rel M E S'.fs n σ Z a w → ∃ σ' Z', Rel M E (out y).2.fs n σ' Z' a w
theorem backX_ok {m n j : Nat} {xsh : SSh} (hm : m ≤ xsh.hs.length) : BackOk M m n (backX m n j xsh) (outX n j xsh) := by
  refine ⟨fun _ => rfl, fun ex S' y h hn => ?_⟩
  cases ex with
  | normal => cases h
  | ret => cases h
  | exit i =>
    simp only [backX] at h
    replace h := bif_some h
    obtain ⟨hj, h⟩ := h
    have := Nat.eq_of_beq_eq_true hj
    subst this
    exact ⟨rfl, rfl, fun E σ Z a w hE hr => xsh.fit_ok h hm hE hr⟩
theorem backXR_ok {m n j : Nat} {xsh rsh : SSh} (hm : m ≤ xsh.hs.length) (hm' : m ≤ rsh.hs.length) : BackOk M m n (backXR m j xsh rsh) (outXR n j xsh rsh) := by
  refine ⟨fun _ => rfl, fun ex S' y h hn => ?_⟩
  cases ex with
  | normal => cases h
  | ret =>
    simp only [backXR] at h
    cases hx : rsh.fit m S' with
    | none => rw [hx] at h; cases h
    | some z =>
      rw [hx] at h
      simp only [Option.bind_some, Option.some.injEq] at h
      subst h
      exact ⟨rfl, rfl, fun E σ Z a w hE hr => rsh.fit_ok hx hm' hE hr⟩
  | exit i =>
    simp only [backXR] at h
    replace h := bif_some h
    obtain ⟨hj, h⟩ := h
    have := Nat.eq_of_beq_eq_true hj
    subst this
    cases hx : xsh.fit m S' with
    | none => rw [hx] at h; cases h
    | some z =>
      rw [hx] at h
      simp only [Option.bind_some, Option.some.injEq] at h
      subst h
      exact ⟨rfl, rfl, fun E σ Z a w hE hr => xsh.fit_ok hx hm hE hr⟩

theorem loop_sound {m n L : Nat} {hsh : SSh} {T : Type} {C : CallsBy T} {E : EqBy} {LP : LoopsBy T} {RF : RefitBy} {CP : CutBy T} {G : Nat → hsh.I → Option T} {back : Kn T} {out : T → Ex × St} {c : Code} (hC : CallsOk M C) (hE : EqOk M.P E) (hmx : M.P.follows .mixedOrders = true) (hR : RefitOk M m RF) (hCP : CutsOk M m CP) (hL : LoopsOk M m LP (loopsOf c)) (hm : m ≤ hsh.hs.length) (hb : BackOk M m n back out)
    (h0 : ∀ x, G 0 x = none) (hs : ∀ k x y, G (k + 1) x = some y → exec M C E LP RF CP L c (Kl m hsh (G k) back) (hsh.enc n x) = some y) : ∀ k x y, G k x = some y → Leads M m (.loop c) (hsh.enc n x) (out y).1 (out y).2 := by
  have key : ∀ (k : Nat) x y, G k x = some y → (out y).2.n = n ∧ ∀ (E : Ent) (σ : Num) (Z : Zone) (a : Act) (w : World) (Q : Exit → Act → World → Prop), E.m = m → Rel M E (hsh.enc n x).fs n σ Z a w →
      (∀ σ' Z' a' w', Rel M E (out y).2.fs n σ' Z' a' w' → Q (out y).1.out a' w') → ∀ (b : Frame) (q : List Item) (cs : List Frame), ∃ e a' w', Q e a' w' ∧ Arrives M.P (lone (b.at a (.code c :: .inLoop c :: q)) cs w) b q cs e a' w' := by
    intro k
    induction k with
    | zero => intro x y h; rw [h0] at h; cases h
    | succ k ih =>
      intro x y h
      obtain ⟨ex, S1, h1, hn1, hl1⟩ := exec_leads hC hE hmx hR hCP (m := m) c hL (hs k x y h)
      have hn1 : S1.n = n := hn1
      have leave : ∀ ex' : Ex, ex' ≠ .normal → Kl m hsh (G k) back ex' S1 = back ex' S1 := fun ex' hne => by cases ex' <;> first | rfl | exact absurd rfl hne
      by_cases hne : ex = .normal
      · subst hne
        simp only [Kl] at h1
        cases hx : hsh.fit m S1 with
        | none => rw [hx] at h1; cases h1
        | some z =>
          rw [hx] at h1
          obtain ⟨g1, g2⟩ := ih z y h1
          refine ⟨g1, fun E σ Z a w Q hEm hr hQ b q cs => ?_⟩
          obtain ⟨e, a₁, w₁, ⟨he, σ1, Z1, hr1⟩, harr⟩ := hl1 E σ Z a w (fun e a w => e = .normal ∧ ∃ σ1 Z1, Rel M E S1.fs S1.n σ1 Z1 a w) hEm hr (fun σ' Z' a' w' hr' => ⟨rfl, σ', Z', hr'⟩) b (.inLoop c :: q) cs
          subst he
          rw [hn1] at hr1
          obtain ⟨σ2, Z2, hr2⟩ := hsh.fit_ok hx hm hEm hr1
          obtain ⟨e₂, a₂, w₂, hq₂, harr₂⟩ := g2 E σ2 Z2 a₁ w₁ Q hEm hr2 hQ b q cs
          exact ⟨e₂, a₂, w₂, hq₂, .of_steps (Steps.trans harr (.one step_inLoop)) harr₂⟩
      · rw [leave ex hne] at h1
        obtain ⟨g1, g2, g3⟩ := hb.2 ex S1 y h1 hn1
        refine ⟨g2, fun E σ Z a w Q hEm hr hQ b q cs => ?_⟩
        obtain ⟨e, a₁, w₁, ⟨he, hq⟩, harr⟩ := hl1 E σ Z a w (fun e a w => e = ex.out ∧ Q e a w) hEm hr (fun σ' Z' a' w' hr' => ⟨rfl, by
          rw [hn1] at hr'
          obtain ⟨σ2, Z2, hr2⟩ := g3 E σ' Z' a' w' hEm hr'
          have := hQ σ2 Z2 a' w' hr2
          rwa [g1] at this⟩) b (.inLoop c :: q) cs
        exact ⟨e, a₁, w₁, hq, .pass (x := .inLoop c) rfl (fun _ _ => .inl (by rw [he]; cases ex <;> first | exact absurd rfl hne | simp [Ex.out])) harr⟩
  intro k x y h
  obtain ⟨g1, g2⟩ := key k x y h
  refine ⟨g1, fun E σ Z a w Q hEm hr hQ b q cs => ?_⟩
  rw [g1] at hQ
  obtain ⟨e, a', w', hq, harr⟩ := g2 E σ Z a w Q hEm hr hQ b q cs
  exact ⟨e, a', w', hq, .of_steps (.one step_loop) harr⟩

def noLoops : LoopsBy α := fun _ => none
def lpPut (key : Nat) (lp : St → Kn α → Option α) (rest : LoopsBy α) : LoopsBy α := fun j => bif Nat.beq j key then some lp else rest j
def nthLoop (f : Func) (i : Nat) : Code := match f.body with
  | some c => match (loopsOf c)[i]? with
    | some l => l
    | none => .skip
  | none => .skip
end Go.Proofs.YtdjkdmjdcdljmaaGreatX
