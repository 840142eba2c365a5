/- The law AvermentUnique, in parts: this text is packed by program (names shortened). No condition. -/
import Derived.Test.YtdjkdmjdcdljmaaGreatDoorQB
import Derived.Scope
import Derived.Lib.SliceRun
import Derived.Test.YtdjkdmjdcdljmaaGreatDoorProg
import Derived.WalkKit
import Derived.LaidEql
import Derived.Stop.Asserts
import Derived.RowKitTokens
import Derived.Elder7
import Derived.Deep.RegionWith
set_option linter.unusedVariables false
set_option linter.unusedSimpArgs false
namespace Go.Proofs.YtdjkdmjdcdljmaaGreatDoorY
open Go.RowKit
variable {M : Cfg} {α : Type}
inductive Ex
  | normal
  | exit (id : Nat)
  | ret
abbrev Kn (α : Type) := Ex → St → Option α
abbrev q48 (α : Type) := Nat → Option (St → Kn α → Option α)
def q5o : Code → Option Nat
  | .region id _ _ => some id
  | .seq a b => match q5o a with
    | some k => some k
    | none => q5o b
  | .cond _ a b => match q5o a with
    | some k => some k
    | none => q5o b
  | .block _ c => q5o c
  | .loop c => q5o c
  | .scope c => q5o c
  | _ => none
def q2d : Code → List Code
  | .seq a b => q2d a ++ q2d b
  | .cond _ a b => q2d a ++ q2d b
  | .block _ c => q2d c
  | .loop c => c :: q2d c
  | .scope c => q2d c
  | _ => []
def j00 (body : Kn α → St → Option α) (K : Kn α) : Nat → St → Option α
  | 0, _ => none
  | n + 1, S => body (fun ex S' => match ex with | .normal => j00 body K n S' | e => K e S') S
abbrev q4s := Nat → Option (St → Option St)
def refit (RF : q4s) (id : Nat) (S : St) : Option St := match RF id with
  | some f => f S
  | none => some S
def q42 : q4s := fun _ => none
abbrev q79 (α : Type) := Nat → Option (Array Oper → Bool → St → (St → Option α) → Option α)
def q67 : q79 α := fun _ => none
def exec (M : Cfg) (C : q13 α) (E : EqBy) (LP : q48 α) (RF : q4s) (CP : q79 α) (L : Nat) : Code → Kn α → St → Option α
  | .skip, K, S => K .normal S
  | .region id ops draw, K, S => match CP id with
    | some ct => ct ops draw S (K .normal)
    | none => match refit RF id S with
      | some S => bif draw
        then vseq M C E ops ops.toList S [] fun S' rs => bif j04 ops rs then K .normal S' else none
        else vseq M C E ops ops.toList S [] fun S' _ => K .normal S'
      | none => none
  | .seq a b, K, S => exec M C E LP RF CP L a (fun ex S' => match ex with | .normal => exec M C E LP RF CP L b K S' | e => K e S') S
  | .cond c a b, K, S => match c with
    | .tmp t => match look S.env t with
      | some (.lf (.bool g)) => bif g then exec M C E LP RF CP L a K (S.know t (.lf (.bool true))) else exec M C E LP RF CP L b K (S.know t (.lf (.bool false)))
      | _ => none
    | .const (.bool g) => bif g then exec M C E LP RF CP L a K S else exec M C E LP RF CP L b K S
    | _ => none
  | .block id c, K, S => exec M C E LP RF CP L c (fun ex S' => match ex with
    | .normal => K .normal S'
    | .exit j => bif Nat.beq j id then K .normal S' else K (.exit j) S'
    | .ret => K .ret S') S
  | .loop c, K, S => match q5o c with
    | some key => match LP key with
      | some lp => lp S K
      | none => j00 (exec M C E LP RF CP L c) K L S
    | none => j00 (exec M C E LP RF CP L c) K L S
  | .scope c, K, S => exec M C E LP RF CP L c K S
  | .exit id, K, S => K (.exit id) S
  | .ret, K, S => K .ret S
  | .label _, K, S => K .normal S
  | _, _, _ => none
def Ex.out : Ex → Exit
  | .normal => .normal
  | .exit id => .exit id
  | .ret => .ret
def q8b (M : Cfg) (m : Nat) (c : Code) (S : St) (ex : Ex) (S' : St) : Prop :=
  S'.n = S.n ∧ ∀ (E : Ent) (σ : Num) (Z : Zone) (a : Act) (w : World) (Q : Exit → Act → World → Prop), E.m = m → Rel M E S.fs S.n σ Z a w →
    (∀ σ' Z' a' w', Rel M E S'.fs S'.n σ' Z' a' w' → Q ex.out a' w') → c.wp M.P Q a w
def z2g (M : Cfg) (m : Nat) (c : Code) (lp : St → Kn α → Option α) : Prop := ∀ (K : Kn α) S r, lp S K = some r → ∃ ex S', K ex S' = some r ∧ q8b M m (.loop c) S ex S'
def CutOk (M : Cfg) (m : Nat) (ct : Array Oper → Bool → St → (St → Option α) → Option α) : Prop := ∀ ops draw S k r, ct ops draw S k = some r → ∃ S', k S' = some r ∧ ∀ id, q8b M m (.region id ops draw) S .normal S'
def q7g (M : Cfg) (m : Nat) (CP : q79 α) : Prop := ∀ id ct, CP id = some ct → CutOk M m ct
theorem q65 {m : Nat} : q7g (α := α) M m q67 := fun _ _ h => by cases h
def q6y (M : Cfg) (m : Nat) (RF : q4s) : Prop := ∀ id f S S', RF id = some f → f S = some S' → S'.n = S.n ∧ ∀ (E : Ent) (σ : Num) (Z : Zone) (a : Act) (w : World), E.m = m → Rel M E S.fs S.n σ Z a w → ∃ σ' Z', Rel M E S'.fs S.n σ' Z' a w
theorem q5s {m : Nat} : q6y M m q42 := fun _ _ _ _ h => by cases h
def q4x (M : Cfg) (m : Nat) (LP : q48 α) (cs : List Code) : Prop := ∀ c ∈ cs, ∀ key lp, q5o c = some key → LP key = some lp → z2g M m c lp
section
variable {C : q13 α} {E : EqBy} {LP : q48 α} {RF : q4s} {CP : q79 α} {L m : Nat}
def Past (S S' : St) (ops : Array Oper) (rs : List Rec) : Prop := ∃ xs : List Ob, z10 S.fs xs S'.fs ∧ xs.map Ob.o = ops.toList ∧ rs = xs.map Ob.note
theorem z2m (hC : q2q M C) (hE : EqOk M.P E) {ops : Array Oper} {S : St} {k : St → List Rec → Option α} {r : α}
    (hr : vseq M C E ops ops.toList S [] k = some r) : ∃ S' rs, k S' rs = some r ∧ (∀ id, q8b M m (.region id ops false) S .normal S') ∧ Past S S' ops rs := by
  obtain ⟨xs, S', h1, h2, h3, h4, h5⟩ := z4z hC hE hr
  refine ⟨S', _, h5, fun id => ⟨h3, fun E σ Z a w Q hm h hQ => wp_region ?_⟩, xs, h2, h1, rfl⟩
  have hlen : xs.length = ops.size := by have := congrArg List.length h1; simpa using this
  have := z4u (ops := ops) (Q := Q) (k := 0) h h2 (fun j => by rw [← List.getElem?_map, h1]; simp) h4 fun σ' Z' a' w' hrel => hQ σ' Z' a' w' (by rw [h3]; exact hrel)
  rw [hlen] at this
  rw [List.range_eq_range']
  exact this
theorem z1f (hC : q2q M C) (hE : EqOk M.P E) (hm : M.P.follows .mixedOrders = true) {ops : Array Oper} {S : St} {k : St → List Rec → Option α} {r : α}
    (hr : (vseq M C E ops ops.toList S [] fun S' rs => bif j04 ops rs then k S' rs else none) = some r) : ∃ S' rs, k S' rs = some r ∧ (∀ id, q8b M m (.region id ops true) S .normal S') ∧ Past S S' ops rs := by
  obtain ⟨xs, S', h1, h2, h3, h4, h5⟩ := z4z hC hE hr
  simp only [List.nil_append] at h5
  obtain ⟨hk, h5⟩ := q00 h5
  have ha := apart_of hk h1
  obtain ⟨h6, h7⟩ := j2e ha (F0 := S.fs) (k := 0) h2 (fun j => by simp) (At.start xs S.fs _ fun j => Nat.not_lt_zero j)
  refine ⟨S', _, h5, fun id => ⟨h3, fun E σ Z a w Q hEm h hQ => wp_region_any hm ?_⟩, xs, h2, h1, rfl⟩
  refine any_order ha h1 h4 (fun i x hx => h6 i x (Nat.zero_le i) hx) (by simpa using h7) (fun σ' Z' a' w' hrel => hQ σ' Z' a' w' (by rw [h3]; exact hrel)) ops.size (Array.replicate ops.size false) S.fs σ Z a _ (by simp) ?_ ?_ ?_ ?_
  · refine At.start xs S.fs _ fun j => ?_
    simp only [Array.getD_eq_getD_getElem?, Array.getElem?_replicate]
    split <;> simp
  · intro i x _ hD
    simp only [Array.getD_eq_getD_getElem?, Array.getElem?_replicate] at hD
    split at hD <;> simp at hD
  · have := h.step (o := { dst := none, op := .alloc 0, type := 0, pos := "", after := #[], guard := none }) (out := q5d) (fun d e => by cases e) (j1z (σ := σ) (Z := Z) (w := w.drew)) (q4a.z7f h.inv (Below.drew (Below.refl _ _)))
    have e : S.fs.put { dst := none, op := .alloc 0, type := 0, pos := "", after := #[], guard := none } q5d = S.fs := by
      unfold Fs.put q5d
      simp only [q89]
      rfl
    rw [e] at this
    exact this
  · refine Nat.le_trans (List.countP_le_length) (by simp)
theorem z3n (hC : q2q M C) (hE : EqOk M.P E) {ops : Array Oper} {id : Nat} {S : St} {k : St → List Rec → Option α} {r : α}
    (hr : vseq M C E ops ops.toList S [] k = some r) : ∃ S' rs, k S' rs = some r ∧ q8b M m (.region id ops false) S .normal S' ∧ Past S S' ops rs := by
  obtain ⟨S', rs, h1, h2, h3⟩ := z2m (m := m) hC hE hr
  exact ⟨S', rs, h1, h2 id, h3⟩
theorem z2h (hC : q2q M C) (hE : EqOk M.P E) (hm : M.P.follows .mixedOrders = true) {ops : Array Oper} {id : Nat} {S : St} {k : St → List Rec → Option α} {r : α}
    (hr : (vseq M C E ops ops.toList S [] fun S' rs => bif j04 ops rs then k S' rs else none) = some r) : ∃ S' rs, k S' rs = some r ∧ q8b M m (.region id ops true) S .normal S' ∧ Past S S' ops rs := by
  obtain ⟨S', rs, h1, h2, h3⟩ := z1f (m := m) hC hE hm hr
  exact ⟨S', rs, h1, h2 id, h3⟩
theorem z4n {id : Nat} {S S1 S' : St} {ex : Ex} {c : Code} (hR : q6y M m RF) (h : refit RF id S = some S1) (hl : q8b M m c S1 ex S') : q8b M m c S ex S' := by
  unfold refit at h
  split at h
  · rename_i f hf
    obtain ⟨h1, h2⟩ := hR id f S S1 hf h
    refine ⟨hl.1.trans h1, fun E σ Z a w Q hE hr hQ => ?_⟩
    obtain ⟨σ', Z', hr'⟩ := h2 E σ Z a w hE hr
    rw [← h1] at hr'
    exact hl.2 E σ' Z' a w Q hE hr' hQ
  · cases h; exact hl
theorem q5x (hC : q2q M C) (hE : EqOk M.P E) (hm : M.P.follows .mixedOrders = true) (hR : q6y M m RF) (hCP : q7g M m CP) {r : α} : ∀ (c : Code) {K : Kn α} {S : St}, q4x M m LP (q2d c) →
    exec M C E LP RF CP L c K S = some r → ∃ ex S', K ex S' = some r ∧ q8b M m c S ex S' := by
  intro c
  induction c with
  | skip => intro K S _ h; exact ⟨.normal, S, h, rfl, fun E σ Z a w Q _ hr hQ => wp_skip (hQ σ Z a w hr)⟩
  | label l => intro K S _ h; exact ⟨.normal, S, h, rfl, fun E σ Z a w Q _ hr hQ => wp_label (hQ σ Z a w hr)⟩
  | exit id => intro K S _ h; exact ⟨.exit id, S, h, rfl, fun E σ Z a w Q _ hr hQ => wp_exit (hQ σ Z a w hr)⟩
  | ret => intro K S _ h; exact ⟨.ret, S, h, rfl, fun E σ Z a w Q _ hr hQ => wp_ret (hQ σ Z a w hr)⟩
  | region id ops draw =>
    intro K S _ h
    simp only [exec] at h
    split at h
    · rename_i ct hct
      obtain ⟨S', h1, h2⟩ := hCP id ct hct ops draw S _ r h
      exact ⟨.normal, S', h1, h2 id⟩
    · split at h
      · rename_i S1 hS1
        cases draw with
        | true => obtain ⟨S', rs, h1, h2, _⟩ := z2h (id := id) hC hE hm (k := fun S' _ => K .normal S') h; exact ⟨.normal, S', h1, z4n hR hS1 h2⟩
        | false => obtain ⟨S', rs, h1, h2, _⟩ := z3n (id := id) hC hE h; exact ⟨.normal, S', h1, z4n hR hS1 h2⟩
      · cases h
  | seq x y ihx ihy =>
    intro K S hL h
    simp only [exec] at h
    obtain ⟨ex, S1, h1, hn1, hl1⟩ := ihx (fun c hc => hL c (by simp [q2d, hc])) h
    cases ex with
    | normal =>
      obtain ⟨ex2, S2, h2, hn2, hl2⟩ := ihy (fun c hc => hL c (by simp [q2d, hc])) h1
      exact ⟨ex2, S2, h2, hn2.trans hn1, fun E σ Z a w Q hEm hr hQ => wp_seq (hl1 E σ Z a w _ hEm hr fun σ' Z' a' w' hr' => hl2 E σ' Z' a' w' Q hEm hr' hQ)⟩
    | exit id => exact ⟨.exit id, S1, h1, hn1, fun E σ Z a w Q hEm hr hQ => wp_seq (hl1 E σ Z a w _ hEm hr hQ)⟩
    | ret => exact ⟨.ret, S1, h1, hn1, fun E σ Z a w Q hEm hr hQ => wp_seq (hl1 E σ Z a w _ hEm hr hQ)⟩
  | cond c x y ihx ihy =>
    intro K S hL h
    simp only [exec] at h
    split at h
    · rename_i t
      split at h
      · rename_i g hg
        cases g with
        | true =>
          obtain ⟨ex, S1, h1, hn1, hl1⟩ := ihx (fun c hc => hL c (by simp [q2d, hc])) h
          exact ⟨ex, S1, h1, hn1, fun E σ Z a w Q hEm hr hQ => wp_cond_true (q2x (hr.env t _ hg)) (hl1 E σ Z a w Q hEm (hr.know hg) hQ)⟩
        | false =>
          obtain ⟨ex, S1, h1, hn1, hl1⟩ := ihy (fun c hc => hL c (by simp [q2d, hc])) h
          exact ⟨ex, S1, h1, hn1, fun E σ Z a w Q hEm hr hQ => wp_cond_false (q2x (hr.env t _ hg)) (hl1 E σ Z a w Q hEm (hr.know hg) hQ)⟩
      · cases h
    · rename_i g
      cases g with
      | true =>
        obtain ⟨ex, S1, h1, hn1, hl1⟩ := ihx (fun c hc => hL c (by simp [q2d, hc])) h
        exact ⟨ex, S1, h1, hn1, fun E σ Z a w Q hEm hr hQ => wp_cond_true rfl (hl1 E σ Z a w Q hEm hr hQ)⟩
      | false =>
        obtain ⟨ex, S1, h1, hn1, hl1⟩ := ihy (fun c hc => hL c (by simp [q2d, hc])) h
        exact ⟨ex, S1, h1, hn1, fun E σ Z a w Q hEm hr hQ => wp_cond_false rfl (hl1 E σ Z a w Q hEm hr hQ)⟩
    · cases h
  | block id c ih =>
    intro K S hL h
    simp only [exec] at h
    obtain ⟨ex, S1, h1, hn1, hl1⟩ := ih hL h
    cases ex with
    | normal => exact ⟨.normal, S1, h1, hn1, fun E σ Z a w Q hEm hr hQ => wp_block (hl1 E σ Z a w _ hEm hr hQ)⟩
    | ret => exact ⟨.ret, S1, h1, hn1, fun E σ Z a w Q hEm hr hQ => wp_block (hl1 E σ Z a w _ hEm hr hQ)⟩
    | exit j =>
      simp only at h1
      cases hj : Nat.beq j id with
      | true =>
        rw [hj] at h1
        have e := Nat.eq_of_beq_eq_true hj
        refine ⟨.normal, S1, h1, hn1, fun E σ Z a w Q hEm hr hQ => wp_block (hl1 E σ Z a w _ hEm hr fun σ' Z' a' w' hr' => ?_)⟩
        simp only [Ex.out, Exit.inBlock]
        rw [if_pos e]
        exact hQ σ' Z' a' w' hr'
      | false =>
        rw [hj] at h1
        refine ⟨.exit j, S1, h1, hn1, fun E σ Z a w Q hEm hr hQ => wp_block (hl1 E σ Z a w _ hEm hr fun σ' Z' a' w' hr' => ?_)⟩
        simp only [Ex.out, Exit.inBlock]
        rw [if_neg (fun e => by subst e; rw [Nat.beq_refl] at hj; cases hj)]
        exact hQ σ' Z' a' w' hr'
  | loop c ih =>
    intro K S hL h
    have hLc : q4x M m LP (q2d c) := fun c' hc => hL c' (by simp [q2d, hc])
    have plain : j00 (exec M C E LP RF CP L c) K L S = some r → ∃ ex S', K ex S' = some r ∧ q8b M m (.loop c) S ex S' := by
      intro h
      have key : ∀ (q : Nat) (S : St), j00 (exec M C E LP RF CP L c) K q S = some r → ∃ ex S', K ex S' = some r ∧ S'.n = S.n ∧ ∀ (E : Ent) (σ : Num) (Z : Zone) (a : Act) (w : World) (Q : Exit → Act → World → Prop), E.m = m → Rel M E S.fs S.n σ Z a w →
          (∀ σ' Z' a' w', Rel M E S'.fs S'.n σ' Z' a' w' → Q ex.out a' w') → ∀ (b : Frame) (k : List Item) (cs : List Frame), ∃ e a' w', Q e a' w' ∧ Arrives M.P (lone (b.at a (.code c :: .inLoop c :: k)) cs w) b k cs e a' w' := by
        intro q
        induction q with
        | zero => intro S h; simp [j00] at h
        | succ q ihq =>
          intro S h
          simp only [j00] at h
          obtain ⟨ex, S1, h1, hn1, hl1⟩ := ih hLc h
          have out : ∀ ex' : Ex, ex'.out ≠ .normal → q8b M m c S ex' S1 → ∀ (E : Ent) (σ : Num) (Z : Zone) (a : Act) (w : World) (Q : Exit → Act → World → Prop), E.m = m → Rel M E S.fs S.n σ Z a w →
              (∀ σ' Z' a' w', Rel M E S1.fs S1.n σ' Z' a' w' → Q ex'.out a' w') → ∀ (b : Frame) (k : List Item) (cs : List Frame), ∃ e a' w', Q e a' w' ∧ Arrives M.P (lone (b.at a (.code c :: .inLoop c :: k)) cs w) b k cs e a' w' := by
            intro ex' hne hl E σ Z a w Q hEm hr hQ b k cs
            obtain ⟨e, a₁, w₁, ⟨he, hq⟩, harr⟩ := hl.2 E σ Z a w (fun e a w => e = ex'.out ∧ Q e a w) hEm hr (fun σ' Z' a' w' hr' => ⟨rfl, hQ σ' Z' a' w' hr'⟩) b (.inLoop c :: k) cs
            exact ⟨e, a₁, w₁, hq, .pass (x := .inLoop c) rfl (fun _ _ => .inl (by rw [he]; exact hne)) harr⟩
          cases ex with
          | normal =>
            obtain ⟨ex2, S2, h2, hn2, hl2⟩ := ihq S1 h1
            refine ⟨ex2, S2, h2, hn2.trans hn1, fun E σ Z a w Q hEm hr hQ b k cs => ?_⟩
            obtain ⟨e, a₁, w₁, ⟨he, σ1, Z1, hr1⟩, harr⟩ := hl1 E σ Z a w (fun e a w => e = .normal ∧ ∃ σ1 Z1, Rel M E S1.fs S1.n σ1 Z1 a w) hEm hr (fun σ' Z' a' w' hr' => ⟨rfl, σ', Z', hr'⟩) b (.inLoop c :: k) cs
            subst he
            obtain ⟨e₂, a₂, w₂, hq₂, harr₂⟩ := hl2 E σ1 Z1 a₁ w₁ Q hEm hr1 hQ b k cs
            exact ⟨e₂, a₂, w₂, hq₂, .of_steps (Steps.trans harr (.one step_inLoop)) harr₂⟩
          | exit id => exact ⟨.exit id, S1, h1, hn1, fun E σ Z a w Q hEm hr hQ => out (.exit id) (by simp [Ex.out]) ⟨hn1, hl1⟩ E σ Z a w Q hEm hr hQ⟩
          | ret => exact ⟨.ret, S1, h1, hn1, fun E σ Z a w Q hEm hr hQ => out .ret (by simp [Ex.out]) ⟨hn1, hl1⟩ E σ Z a w Q hEm hr hQ⟩
      obtain ⟨ex, S', h1, h2, h3⟩ := key L S h
      refine ⟨ex, S', h1, h2, fun E σ Z a w Q hEm hr hQ b k cs => ?_⟩
      obtain ⟨e, a', w', hq, harr⟩ := h3 E σ Z a w Q hEm hr hQ b k cs
      exact ⟨e, a', w', hq, .of_steps (.one step_loop) harr⟩
    simp only [exec] at h
    split at h
    · rename_i key hkey
      split at h
      · rename_i lp hlp
        exact hL c (by simp [q2d]) key lp hkey hlp K S r h
      · exact plain h
    · exact plain h
  | scope c ih =>
    intro K S hL h
    simp only [exec] at h
    obtain ⟨ex, S1, h1, hn1, hl1⟩ := ih hL h
    refine ⟨ex, S1, h1, hn1, fun E σ Z a w Q hEm hr hQ => wp_scope_straight (hl1 E σ Z a w _ hEm hr fun σ' Z' a' w' hr' => ?_)⟩
    cases ex with
    | normal => exact hQ σ' Z' a' w' hr'
    | exit id => exact hQ σ' Z' a' w' hr'
    | ret => exact hQ σ' Z' a' w' hr'
  | _ => intro K S _ h; simp [exec] at h
end
structure SSh where
  tmps : List Nat
  sh : Sh
  hs : List HSh
@[reducible] def SSh.I (s : SSh) : Type := s.sh.I × HsI s.hs
def envZ : List Nat → List V → List (Nat × V)
  | t :: ts, v :: vs => (t, v) :: envZ ts vs
  | _, _ => []
def SSh.enc (s : SSh) (n : Nat) (x : s.I) : St := { env := envZ s.tmps (s.sh.enc x.1), heap := encH s.hs x.2, n := n }
def looks (env : List (Nat × V)) : List Nat → Option (List V)
  | [] => some []
  | t :: ts => match look env t with
    | some v => match looks env ts with | some vs => some (v :: vs) | none => none
    | none => none
def SSh.fit (s : SSh) (m : Nat) (S : St) : Option s.I :=
  match looks S.env s.tmps with
  | some vs => match Go.Proofs.YtdjkdmjdcdljmaaGreatDoorY.fit s.sh s.hs m vs S.heap with
    | some (x, _) => some x
    | none => none
  | none => none
theorem j2n {E : Ent} {S : St} {n : Nat} {σ : Num} {Z : Zone} {a : Act} {w : World} (h : Rel M E S.fs n σ Z a w) : ∀ {ts : List Nat} {vs : List V}, looks S.env ts = some vs → RVs M σ Z w vs (ts.map fun t => a.eval (.tmp t))
  | [], vs, e => by simp [looks] at e; subst e; simp [RVs]
  | t :: ts, vs, e => by
    simp only [looks] at e
    split at e
    · rename_i v hv
      split at e
      · rename_i us hus
        cases e
        simp only [List.map_cons, RVs]
        exact ⟨_, _, rfl, h.env t v hv, j2n h hus⟩
      · cases e
    · cases e
theorem z8k {σ : Num} {Z : Zone} {w : World} {a : Act} : ∀ {ts : List Nat} {vs : List V}, RVs M σ Z w vs (ts.map fun t => a.eval (.tmp t)) → ∀ t v, look (envZ ts vs) t = some v → RV M σ Z w v (a.eval (.tmp t))
  | [], vs, h, t, v, e => by cases vs <;> simp [envZ, look] at e
  | u :: ts, [], h, t, v, e => by simp [envZ, look] at e
  | u :: ts, x :: vs, h, t, v, e => by
    obtain ⟨x', m, e1, h1, h2⟩ := h.cons
    simp only [List.map_cons, List.cons.injEq] at e1
    obtain ⟨rfl, rfl⟩ := e1
    simp only [envZ, look] at e
    cases hb : Nat.beq u t with
    | true =>
      rw [hb] at e
      simp only [cond_true, Option.some.injEq] at e
      have := Nat.eq_of_beq_eq_true hb
      subst this
      subst e
      exact h1
    | false =>
      rw [hb] at e
      exact z8k h2 t v e
theorem Frm.fit {E : Ent} {σ σl : Num} {Z Zl : Zone} {w : World} (h : Frm E σ Z w) (f : Fitted M σ Z w E.m σl Zl) : Frm E σl Zl w := by
  refine ⟨h.os, h.tape, h.output, h.size, h.block, fun r hr => f.zone r (h.zone r hr), fun r hr => ?_, fun r hr => h.own r (f.own r hr), fun F hF k => (h.mono F hF k).trans (f.mono F hF k)⟩
  rcases f.znew r hr with h1 | h1
  · exact h.znew r h1
  · exact .inr (h.own r h1)
theorem SSh.z5u {s : SSh} {m n : Nat} {S : St} {x : s.I} (h : s.fit m S = some x) (hm : m ≤ s.hs.length) {E : Ent} (hE : E.m = m) {σ : Num} {Z : Zone} {a : Act} {w : World} (hr : Rel M E S.fs n σ Z a w) :
    ∃ σ' Z', Rel M E (s.enc n x).fs n σ' Z' a w := by
  unfold SSh.fit at h
  split at h
  · rename_i vs hvs
    split at h
    · rename_i x' W hf
      cases h
      obtain ⟨_, g⟩ := z3d (M := M) hf hm
      obtain ⟨k1, k2, k3, k4⟩ := g σ Z w _ hr.inv (fun G he _ hG => hr.heap G he hG) (j2n hr hvs)
      refine ⟨_, _, ⟨fun t v ht => z8k k1 t v ht, hr.size, hr.defers, k2, fun F hF k => ?_, k4.inv, hr.frm.fit (by rw [hE]; exact k4)⟩⟩
      refine k3 F ?_ k
      have : (encH s.hs x.2)[F]? = none := hF
      rw [List.getElem?_eq_none_iff, z6t] at this
      exact this
    · cases h
  · cases h
def rfOf (m n : Nat) (ssh : SSh) : St → Option St := fun S => bif Nat.beq S.n n then (match ssh.fit m S with
  | some x => some (ssh.enc n x)
  | none => none) else none
theorem rfOf_ok {m n : Nat} {ssh : SSh} {S S' : St} (hm : m ≤ ssh.hs.length) (h : rfOf m n ssh S = some S') : S'.n = S.n ∧ ∀ (E : Ent) (σ : Num) (Z : Zone) (a : Act) (w : World), E.m = m → Rel M E S.fs S.n σ Z a w → ∃ σ' Z', Rel M E S'.fs S.n σ' Z' a w := by
  unfold rfOf at h
  obtain ⟨hn, h⟩ := q00 h
  have hn := Nat.eq_of_beq_eq_true hn
  split at h
  · rename_i x hx
    cases h
    exact ⟨hn.symm, fun E σ Z a w hE hr => ssh.z5u hx hm hE hr⟩
  · cases h
def rfPut (m n id : Nat) (ssh : SSh) (rest : q4s) : q4s := fun j => bif Nat.beq j id then some (rfOf m n ssh) else rest j
theorem rfPut_ok {m n id : Nat} {ssh : SSh} {rest : q4s} (hm : m ≤ ssh.hs.length) (hr : q6y M m rest) : q6y M m (rfPut m n id ssh rest) := by
  intro j f S S' h1 h2
  unfold rfPut at h1
  cases hj : Nat.beq j id with
  | true => rw [hj] at h1; cases h1; exact rfOf_ok hm h2
  | false => rw [hj] at h1; exact hr j f S S' h1 h2
def lpOf (m n : Nat) (hsh : SSh) {T : Type} (G : hsh.I → Option T) (out : T → Ex × St) : St → Kn α → Option α := fun S K =>
  bif Nat.beq S.n n then (match hsh.fit m S with
    | some x => (G x).bind fun y => K (out y).1 (out y).2
    | none => none) else none
theorem lpOf_ok {m n : Nat} {hsh : SSh} {T : Type} {G : hsh.I → Option T} {out : T → Ex × St} {c : Code} (hm : m ≤ hsh.hs.length) (h : ∀ x y, G x = some y → q8b M m (.loop c) (hsh.enc n x) (out y).1 (out y).2) : z2g (α := α) M m c (lpOf m n hsh G out) := by
  intro K S r hr
  unfold lpOf at hr
  obtain ⟨hn, hr⟩ := q00 hr
  have hn := Nat.eq_of_beq_eq_true hn
  split at hr
  · rename_i x hx
    cases hG : G x with
    | none => rw [hG] at hr; cases hr
    | some y =>
      rw [hG] at hr
      have hl := h x y hG
      refine ⟨_, _, hr, hl.1.trans hn.symm, fun E σ Z a w Q hE hrel hQ => ?_⟩
      rw [hn] at hrel
      obtain ⟨σ', Z', hrel'⟩ := hsh.z5u hx hm hE hrel
      exact hl.2 E σ' Z' a w Q hE hrel' hQ
  · cases hr
def Kl (m : Nat) (hsh : SSh) {T : Type} (G : hsh.I → Option T) (back : Kn T) : Kn T := fun ex S' => match ex with
  | .normal => (hsh.fit m S').bind G
  | e => back e S'
def backX (m n j : Nat) (xsh : SSh) : Kn xsh.I := fun ex S' => match ex with
  | .exit i => bif Nat.beq i j then xsh.fit m S' else none
  | _ => none
def outX (n j : Nat) (xsh : SSh) : xsh.I → Ex × St := fun y => (.exit j, xsh.enc n y)
def z52 (m j : Nat) (xsh rsh : SSh) : Kn (xsh.I ⊕ rsh.I) := fun ex S' => match ex with
  | .exit i => bif Nat.beq i j then (xsh.fit m S').bind fun y => some (.inl y) else none
  | .ret => (rsh.fit m S').bind fun y => some (.inr y)
  | .normal => none
def j3k (n j : Nat) (xsh rsh : SSh) : xsh.I ⊕ rsh.I → Ex × St
  | .inl y => (.exit j, xsh.enc n y)
  | .inr y => (.ret, rsh.enc n y)
def BackOk (M : Cfg) (m n : Nat) {T : Type} (back : Kn T) (out : T → Ex × St) : Prop := (∀ S', back .normal S' = none) ∧ ∀ ex S' y, back ex S' = some y → S'.n = n → (out y).1 = ex ∧ (out y).2.n = n ∧ ∀ (E : Ent) σ Z a w, E.m = m → Rel M E S'.fs n σ Z a w → ∃ σ' Z', Rel M E (out y).2.fs n σ' Z' a w
theorem backX_ok {m n j : Nat} {xsh : SSh} (hm : m ≤ xsh.hs.length) : BackOk M m n (backX m n j xsh) (outX n j xsh) := by
  refine ⟨fun _ => rfl, fun ex S' y h hn => ?_⟩
  cases ex with
  | normal => cases h
  | ret => cases h
  | exit i =>
    simp only [backX] at h
    replace h := q00 h
    obtain ⟨hj, h⟩ := h
    have := Nat.eq_of_beq_eq_true hj
    subst this
    exact ⟨rfl, rfl, fun E σ Z a w hE hr => xsh.z5u h hm hE hr⟩
theorem backXR_ok {m n j : Nat} {xsh rsh : SSh} (hm : m ≤ xsh.hs.length) (hm' : m ≤ rsh.hs.length) : BackOk M m n (z52 m j xsh rsh) (j3k n j xsh rsh) := by
  refine ⟨fun _ => rfl, fun ex S' y h hn => ?_⟩
  cases ex with
  | normal => cases h
  | ret =>
    simp only [z52] at h
    cases hx : rsh.fit m S' with
    | none => rw [hx] at h; cases h
    | some z =>
      rw [hx] at h
      simp only [Option.bind_some, Option.some.injEq] at h
      subst h
      exact ⟨rfl, rfl, fun E σ Z a w hE hr => rsh.z5u hx hm' hE hr⟩
  | exit i =>
    simp only [z52] at h
    replace h := q00 h
    obtain ⟨hj, h⟩ := h
    have := Nat.eq_of_beq_eq_true hj
    subst this
    cases hx : xsh.fit m S' with
    | none => rw [hx] at h; cases h
    | some z =>
      rw [hx] at h
      simp only [Option.bind_some, Option.some.injEq] at h
      subst h
      exact ⟨rfl, rfl, fun E σ Z a w hE hr => xsh.z5u hx hm hE hr⟩
theorem z6m {m n L : Nat} {hsh : SSh} {T : Type} {C : q13 T} {E : EqBy} {LP : q48 T} {RF : q4s} {CP : q79 T} {G : Nat → hsh.I → Option T} {back : Kn T} {out : T → Ex × St} {c : Code} (hC : q2q M C) (hE : EqOk M.P E) (hmx : M.P.follows .mixedOrders = true) (hR : q6y M m RF) (hCP : q7g M m CP) (hL : q4x M m LP (q2d c)) (hm : m ≤ hsh.hs.length) (hb : BackOk M m n back out)
    (h0 : ∀ x, G 0 x = none) (hs : ∀ k x y, G (k + 1) x = some y → exec M C E LP RF CP L c (Kl m hsh (G k) back) (hsh.enc n x) = some y) : ∀ k x y, G k x = some y → q8b M m (.loop c) (hsh.enc n x) (out y).1 (out y).2 := by
  have key : ∀ (k : Nat) x y, G k x = some y → (out y).2.n = n ∧ ∀ (E : Ent) (σ : Num) (Z : Zone) (a : Act) (w : World) (Q : Exit → Act → World → Prop), E.m = m → Rel M E (hsh.enc n x).fs n σ Z a w →
      (∀ σ' Z' a' w', Rel M E (out y).2.fs n σ' Z' a' w' → Q (out y).1.out a' w') → ∀ (b : Frame) (q : List Item) (cs : List Frame), ∃ e a' w', Q e a' w' ∧ Arrives M.P (lone (b.at a (.code c :: .inLoop c :: q)) cs w) b q cs e a' w' := by
    intro k
    induction k with
    | zero => intro x y h; rw [h0] at h; cases h
    | succ k ih =>
      intro x y h
      obtain ⟨ex, S1, h1, hn1, hl1⟩ := q5x hC hE hmx hR hCP (m := m) c hL (hs k x y h)
      have hn1 : S1.n = n := hn1
      have leave : ∀ ex' : Ex, ex' ≠ .normal → Kl m hsh (G k) back ex' S1 = back ex' S1 := fun ex' hne => by cases ex' <;> first | rfl | exact absurd rfl hne
      by_cases hne : ex = .normal
      · subst hne
        simp only [Kl] at h1
        cases hx : hsh.fit m S1 with
        | none => rw [hx] at h1; cases h1
        | some z =>
          rw [hx] at h1
          obtain ⟨g1, g2⟩ := ih z y h1
          refine ⟨g1, fun E σ Z a w Q hEm hr hQ b q cs => ?_⟩
          obtain ⟨e, a₁, w₁, ⟨he, σ1, Z1, hr1⟩, harr⟩ := hl1 E σ Z a w (fun e a w => e = .normal ∧ ∃ σ1 Z1, Rel M E S1.fs S1.n σ1 Z1 a w) hEm hr (fun σ' Z' a' w' hr' => ⟨rfl, σ', Z', hr'⟩) b (.inLoop c :: q) cs
          subst he
          rw [hn1] at hr1
          obtain ⟨σ2, Z2, hr2⟩ := hsh.z5u hx hm hEm hr1
          obtain ⟨e₂, a₂, w₂, hq₂, harr₂⟩ := g2 E σ2 Z2 a₁ w₁ Q hEm hr2 hQ b q cs
          exact ⟨e₂, a₂, w₂, hq₂, .of_steps (Steps.trans harr (.one step_inLoop)) harr₂⟩
      · rw [leave ex hne] at h1
        obtain ⟨g1, g2, g3⟩ := hb.2 ex S1 y h1 hn1
        refine ⟨g2, fun E σ Z a w Q hEm hr hQ b q cs => ?_⟩
        obtain ⟨e, a₁, w₁, ⟨he, hq⟩, harr⟩ := hl1 E σ Z a w (fun e a w => e = ex.out ∧ Q e a w) hEm hr (fun σ' Z' a' w' hr' => ⟨rfl, by
          rw [hn1] at hr'
          obtain ⟨σ2, Z2, hr2⟩ := g3 E σ' Z' a' w' hEm hr'
          have := hQ σ2 Z2 a' w' hr2
          rwa [g1] at this⟩) b (.inLoop c :: q) cs
        exact ⟨e, a₁, w₁, hq, .pass (x := .inLoop c) rfl (fun _ _ => .inl (by rw [he]; cases ex <;> first | exact absurd rfl hne | simp [Ex.out])) harr⟩
  intro k x y h
  obtain ⟨g1, g2⟩ := key k x y h
  refine ⟨g1, fun E σ Z a w Q hEm hr hQ b q cs => ?_⟩
  rw [g1] at hQ
  obtain ⟨e, a', w', hq, harr⟩ := g2 E σ Z a w Q hEm hr hQ b q cs
  exact ⟨e, a', w', hq, .of_steps (.one step_loop) harr⟩
def q4r : q48 α := fun _ => none
def lpPut (key : Nat) (lp : St → Kn α → Option α) (rest : q48 α) : q48 α := fun j => bif Nat.beq j key then some lp else rest j
def q01 (f : Func) (i : Nat) : Code := match f.body with
  | some c => match (q2d c)[i]? with
    | some l => l
    | none => .skip
  | none => .skip
end Go.Proofs.YtdjkdmjdcdljmaaGreatDoorY
namespace Go.Proofs.YtdjkdmjdcdljmaaGreatDoorY
open Go.RowKit
variable {M : Cfg} {α : Type}
def j2c (M : Cfg) (S : St) : ResultVar → Option V
  | .tmp t => match look S.env t with
    | some v => bif v.isA then some v else none
    | none => none
  | .cell x t => match look S.env x with
    | some (.ptr b i off) => rowAt S.heap b i fun cs => z47 M t cs off
    | _ => none
def z35 (M : Cfg) (S : St) : List ResultVar → Option (List V)
  | [] => some []
  | x :: xs => match j2c M S x with
    | some v => match z35 M S xs with | some vs => some (v :: vs) | none => none
    | none => none
def resV : List V → V
  | [v] => v
  | vs => .tup vs
def z0c : List Value → Value
  | [v] => v
  | vs => .tuple vs.toArray
def z9l (tmps : Array Value) : ResultVar → Sem Value
  | .tmp t => pure (tmps.getD t undef)
  | .cell a t => do loadVar t (← asAddr (tmps.getD a undef))
theorem j3i (fn : Func) (tmps : Array Value) : results fn tmps = (do
    let vs ← fn.results.mapM (z9l tmps)
    pure (if h : vs.size = 1 then vs[0] else .tuple vs)) := by
  unfold results
  congr 2
theorem z9c {E : Ent} {S : St} {n : Nat} {σ : Num} {Z : Zone} {a : Act} {w : World} (h : Rel M E S.fs n σ Z a w) {x : ResultVar} {v : V} (hx : j2c M S x = some v) : ∃ v', RV M σ Z w v v' ∧ (z9l a.tmps x).run M.P w = .ok v' w := by
  cases x with
  | tmp t =>
    simp only [j2c] at hx
    split at hx
    · rename_i u hu
      obtain ⟨hf, hx⟩ := q00 hx
      cases hx
      exact ⟨a.eval (.tmp t), h.env t _ hu, rfl⟩
    · cases hx
  | cell x t =>
    simp only [j2c] at hx
    split at hx
    · rename_i b i off hp
      obtain ⟨cs, he, h1, h2, h3⟩ := z9p (M := M) hx
      obtain ⟨⟨s, rr, pre, vs, post, e, g1, g2, g3, g4, g5⟩, g6⟩ := h3 σ Z w (h.heap b.1 he h1)
      obtain ⟨r', k1, k2⟩ := q98 (h.env x _ hp) g1
      rw [g2] at k1
      cases k1
      obtain ⟨v', q1, q2⟩ := z1x h2 g6 g3 g5
      refine ⟨v', q1, ?_⟩
      rw [g4] at q2
      simp only [z9l]
      rw [show a.tmps.getD x undef = _ from k2]
      exact q2
    · cases hx
theorem q9g {E : Ent} {S : St} {n : Nat} {σ : Num} {Z : Zone} {a : Act} {w : World} (h : Rel M E S.fs n σ Z a w) : ∀ {xs : List ResultVar} {vs : List V}, z35 M S xs = some vs → ∃ vs', RVs M σ Z w vs vs' ∧ (xs.mapM (z9l a.tmps)).run M.P w = .ok vs' w
  | [], vs, hx => by simp [z35] at hx; subst hx; exact ⟨[], by simp [RVs], by simp⟩
  | x :: xs, vs, hx => by
    simp only [z35] at hx
    split at hx
    · rename_i v hv
      split at hx
      · rename_i us hus
        cases hx
        obtain ⟨v', h1, h2⟩ := z9c h hv
        obtain ⟨us', h3, h4⟩ := q9g h hus
        exact ⟨v' :: us', by simp only [RVs]; exact ⟨_, _, rfl, h1, h3⟩, by simp only [List.mapM_cons, Sem.run_bind, h2, Result.andThen_ok, h4, Sem.run_pure]⟩
      · cases hx
    · cases hx
theorem z6b {fn : Func} {a : Act} {w : World} {vs' : List Value} (h : (fn.results.toList.mapM (z9l a.tmps)).run M.P w = .ok vs' w) : (results fn a.tmps).run M.P w = .ok (z0c vs') w := by
  rw [j3i, Array.mapM_eq_mapM_toList]
  simp only [Sem.run_bind, Sem.run_map, h, Result.andThen_ok, Sem.run_pure]
  cases vs' with
  | nil => rfl
  | cons v vs' => cases vs' with
    | nil => rfl
    | cons u us => simp [z0c]
theorem resV_rv {σ : Num} {Z : Zone} {w : World} {vs : List V} {us : List Value} (h1 : vs.all V.isA = true) (h : RVs M σ Z w vs us) : RV M σ Z w (resV vs) (z0c us) := by
  have hl := h.length
  match vs, us, h, hl with
  | [], [], h, _ => simp only [resV, z0c, RV]; exact ⟨_, rfl, rfl, h⟩
  | [v], [u], h, _ => exact RVs.one.1 h
  | v :: v' :: vs, u :: u' :: us, h, _ => simp only [resV, z0c, RV]; exact ⟨_, rfl, h1, h⟩
  | [], _ :: _, _, hl => simp at hl
  | _ :: _, [], _, hl => simp at hl
  | [_], _ :: _ :: _, _, hl => simp at hl
  | _ :: _ :: _, [_], _, hl => simp at hl
structure Sig where
  ish : Sh
  ihs : List HSh
  osh : Sh
  ohs : List HSh
@[reducible] def Sig.In (g : Sig) : Type := g.ish.I × HsI g.ihs
@[reducible] def Sig.Ou (g : Sig) : Type := g.osh.I × HsI g.ohs
def j3n : Nat → List V → List (Nat × V)
  | _, [] => []
  | i, v :: vs => (i, v) :: j3n (i + 1) vs
theorem j18 : ∀ {vs : List V} {i t : Nat} {v : V}, look (j3n i vs) t = some v → ∃ j, t = i + j ∧ vs[j]? = some v
  | [], i, t, v, h => by simp [j3n, look] at h
  | u :: vs, i, t, v, h => by
    simp only [j3n, look] at h
    cases e : Nat.beq i t with
    | true =>
      simp only [e, cond_true, Option.some.injEq] at h
      have := Nat.eq_of_beq_eq_true e
      exact ⟨0, by omega, by simp [h]⟩
    | false =>
      simp only [e, cond_false] at h
      obtain ⟨j, h1, h2⟩ := j18 h
      exact ⟨j + 1, by omega, by simpa using h2⟩
def fitY (osh : Sh) (ohs : List HSh) (m : Nat) (us : List V) (H : List HE) : Option (osh.I × HsI ohs) :=
  match fit0 osh ohs m us H with
  | some p => bif q7y H p.2.map then some p.1 else none
  | none => none
theorem fitY_eq {osh : Sh} {ohs : List HSh} {m : Nat} {us : List V} {H : List HE} : fitY osh ohs m us H = match fit osh ohs m us H with
  | some (y, _) => some y
  | none => none := by
  unfold fitY fit
  cases fit0 osh ohs m us H with
  | none => rfl
  | some p => simp only; cases q7y H p.2.map <;> rfl
def endK (M : Cfg) (fn : Func) (m : Nat) (osh : Sh) (ohs : List HSh) : Kn (osh.I × HsI ohs) := fun ex S => match ex with
  | .exit _ => none
  | _ => match z35 M S fn.results.toList with
    | some us => fitY osh ohs m us S.heap
    | none => none
def runF (M : Cfg) (g : Sig) (C : q13 g.Ou) (E : EqBy) (LP : q48 g.Ou) (RF : q4s) (CP : q79 g.Ou) (L : Nat) (fn : Func) (c : Code) (x : g.In) : Option g.Ou :=
  exec M C E LP RF CP L c (endK M fn g.ihs.length g.osh g.ohs) ⟨j3n 0 (g.ish.enc x.1), encH g.ihs x.2, (g.ish.enc x.1).length + (fn.ntmps - (g.ish.enc x.1).length)⟩
def RetK (M : Cfg) (g : Sig) (σ : Num) (Z : Zone) (w : World) (y : g.Ou) (e : Ending) (w' : World) : Prop :=
  ∃ us σ' Z', e = .returned (z0c us) ∧ RVs M σ' Z' w' (g.osh.enc y.1) us ∧ HeapR M σ' Z' w' (encH g.ohs y.2) ∧ (∀ F, g.ohs.length ≤ F → ∀ k, σ' F k = .fresh) ∧ Inv σ' Z' w' ∧ Frm ⟨σ, Z, w, g.ihs.length⟩ σ' Z' w'
def Rets (M : Cfg) (f : FuncId) (g : Sig) (x : g.In) (y : g.Ou) : Prop :=
  ∀ (σ : Num) (Z : Zone) (w : World) (args : List Value), Inv σ Z w → RVs M σ Z w (g.ish.enc x.1) args → HeapR M σ Z w (encH g.ihs x.2) → (∀ F, g.ihs.length ≤ F → ∀ k, σ F k = .fresh) →
    Calls M.P f args.toArray w (RetK M g σ Z w y)
theorem runF_rets {g : Sig} {C : q13 g.Ou} {E : EqBy} {LP : q48 g.Ou} {RF : q4s} {CP : q79 g.Ou} {L : Nat} {f : FuncId} {fn : Func} {c : Code} {x : g.In} {y : g.Ou} (hC : q2q M C) (hE : EqOk M.P E) (hmx : M.P.follows .mixedOrders = true) (hR : q6y M g.ihs.length RF) (hCP : q7g M g.ihs.length CP) (hL : q4x M g.ihs.length LP (q2d c)) (hm : g.ihs.length ≤ g.ohs.length)
    (hf : M.P.funcs[f]? = some fn) (hb : fn.body = some c) (h : runF M g C E LP RF CP L fn c x = some y) : Rets M f g x y := by
  intro σ Z w args hinv hargs hheap hfresh
  unfold runF at h
  obtain ⟨ex, S', h1, hn, hl⟩ := q5x hC hE hmx hR hCP (m := g.ihs.length) c hL h
  have fin : ∀ us, z35 M S' fn.results.toList = some us → fitY g.osh g.ohs g.ihs.length us S'.heap = some y → (ex = .normal ∨ ex = .ret) → Calls M.P f args.toArray w (RetK M g σ Z w y) := by
    intro us hus hk hex
    rw [fitY_eq] at hk
    split at hk
    · rename_i y' W hfit
      cases hk
      obtain ⟨_, g1⟩ := z3d (M := M) hfit hm
      refine calls_of_wp hf hb ?_
      have hlen := hargs.length
      have hinit : Rel M ⟨σ, Z, w, g.ihs.length⟩ (St.fs ⟨j3n 0 (g.ish.enc x.1), encH g.ihs x.2, (g.ish.enc x.1).length + (fn.ntmps - (g.ish.enc x.1).length)⟩) ((g.ish.enc x.1).length + (fn.ntmps - (g.ish.enc x.1).length)) σ Z { tmps := args.toArray ++ Array.replicate (fn.ntmps - args.toArray.size) undef, defers := [] } w := by
        refine ⟨fun t v hv => ?_, by simp [hlen], rfl, hheap, fun F hF k => hfresh F ?_ k, hinv, Frm.start σ Z w _⟩
        · obtain ⟨j, hj, hv'⟩ := j18 hv
          rw [Nat.zero_add] at hj
          subst hj
          obtain ⟨v', hv2, hrv⟩ := hargs.get hv'
          have hlt := (List.getElem?_eq_some_iff.1 hv2).1
          have : Act.eval { tmps := args.toArray ++ Array.replicate (fn.ntmps - args.toArray.size) undef, defers := [] } (.tmp t) = v' := by
            simp only [Act.eval, Array.getD_eq_getD_getElem?]
            rw [Array.getElem?_append_left (by simpa using hlt)]
            simp [hv2]
          rw [this]
          exact hrv
        · have : (encH g.ihs x.2)[F]? = none := hF
          rw [List.getElem?_eq_none_iff, z6t] at this
          exact this
      refine hl ⟨σ, Z, w, g.ihs.length⟩ σ Z _ w _ rfl hinit fun σ' Z' a' w' hr => ?_
      obtain ⟨vs', h3, h4⟩ := q9g hr hus
      obtain ⟨k1, k2, k3, k4⟩ := g1 σ' Z' w' vs' hr.inv (fun G he _ hG => hr.heap G he hG) h3
      have res := z6b h4
      rcases hex with rfl | rfl
      · exact ⟨hr.defers, z0c vs', res, vs', _, _, rfl, k1, k2, k3, k4.inv, hr.frm.fit k4⟩
      · exact ⟨hr.defers, z0c vs', res, vs', _, _, rfl, k1, k2, k3, k4.inv, hr.frm.fit k4⟩
    · cases hk
  unfold endK at h1
  cases ex with
  | exit id => cases h1
  | normal =>
    simp only at h1
    split at h1
    · rename_i us hus; exact fin us hus h1 (.inl rfl)
    · cases h1
  | ret =>
    simp only at h1
    split at h1
    · rename_i us hus; exact fin us hus h1 (.inr rfl)
    · cases h1
def Sh.encR (f : Nat → Nat) : (s : Sh) → s.I → List V
  | .ty t, x => t.cells [] x
  | .own F, _ => [.own (f F, 0)]
  | .ownI F, k => [.own (f F, k)]
  | .ptr F off, _ => [.ptr (f F, 0) 0 off]
  | .ptrI F off, i => [.ptr (f F, 0) i off]
  | .unit, _ => []
  | .cons a b, x => a.encR f x.1 ++ b.encR f x.2
  | .agg a, x => [.agg (a.encR f x)]
  | .tup a, x => [.tup (a.encR f x)]
  | .fn g a b, x => [.fn (.func g) (a.encR f x.1) (b.encR f x.2)]
def HSh.encR (f : Nat → Nat) : (h : HSh) → h.I → HE
  | .dead, _ => .dead
  | .cells e row s, x => .cells e row (s.encR f x)
  | .list e t fs, x => .list e t (fs.map f) x
  | .many e t, x => .many e t x
  | .void e t, _ => .many e t []
def Sh.free : Sh → Bool
  | .ty t => t.free
  | .cons a b => a.free && b.free
  | .agg a => a.free
  | .tup a => a.free
  | .fn _ a b => a.free && b.free
  | _ => true
theorem z3f : ∀ {f : Nat → Nat} {s : Sh} (x : s.I), (s.encR f x).all V.one = (s.enc x).all V.one
  | _, .ty _, _ | _, .own _, _ | _, .ownI _, _ | _, .ptr _ _, _ | _, .ptrI _ _, _ | _, .unit, _ | _, .fn _ _ _, _ | _, .agg _, _ | _, .tup _, _ => rfl
  | f, .cons a b, x => by simp only [Sh.encR, Sh.enc, List.all_append, z3f x.1, z3f x.2]
theorem z22 : ∀ {f : Nat → Nat} {s : Sh} (x : s.I), (s.encR f x).all V.isA = (s.enc x).all V.isA
  | _, .ty _, _ | _, .own _, _ | _, .ownI _, _ | _, .ptr _ _, _ | _, .ptrI _ _, _ | _, .unit, _ | _, .fn _ _ _, _ | _, .agg _, _ | _, .tup _, _ => rfl
  | f, .cons a b, x => by simp only [Sh.encR, Sh.enc, List.all_append, z22 x.1, z22 x.2]
structure Ren (σ σ' : Num) (f : Nat → Nat) (n : Nat) : Prop where
  eq : ∀ F, F < n → ∀ k, σ' (f F) k = σ F k
  out : ∀ F, n ≤ F → ∀ k, σ F k = .fresh
theorem q9c {σ σ' : Num} {Z : Zone} {w : World} {f : Nat → Nat} {n : Nat} (hr : Ren σ σ' f n) : ∀ {s : Sh} {x : s.I} {us : List Value}, s.free = true → RVs M σ Z w (s.enc x) us → RVs M σ' Z w (s.encR f x) us
  | .ty t, x, us, hf, h => DV.rvs [] (RVs.dv [] hf h)
  | .own F, x, us, _, h => by
    obtain ⟨u, m, rfl, h1, h2⟩ := RVs.cons h
    simp only [RVs] at h2
    subst h2
    by_cases hF : F < n
    · exact RVs.one.2 (q93 (hr.eq F hF 0) h1)
    · simp only [RV, hr.out F (by omega)] at h1
  | .ownI F, x, us, _, h => by
    obtain ⟨u, m, rfl, h1, h2⟩ := RVs.cons h
    simp only [RVs] at h2
    subst h2
    by_cases hF : F < n
    · exact RVs.one.2 (q93 (hr.eq F hF x) h1)
    · simp only [RV, hr.out F (by omega)] at h1
  | .ptr F off, x, us, _, h => by
    obtain ⟨u, m, rfl, h1, h2⟩ := RVs.cons h
    simp only [RVs] at h2
    subst h2
    by_cases hF : F < n
    · exact RVs.one.2 (z24 (hr.eq F hF 0) h1)
    · simp only [RV, hr.out F (by omega)] at h1
  | .ptrI F off, x, us, _, h => by
    obtain ⟨u, m, rfl, h1, h2⟩ := RVs.cons h
    simp only [RVs] at h2
    subst h2
    by_cases hF : F < n
    · exact RVs.one.2 (z24 (hr.eq F hF 0) h1)
    · simp only [RV, hr.out F (by omega)] at h1
  | .unit, x, us, _, h => h
  | .cons a b, x, us, hf, h => by
    simp only [Sh.free, Bool.and_eq_true] at hf
    obtain ⟨l, m, rfl, h1, h2⟩ := RVs.q68 (show RVs M σ Z w (a.enc x.1 ++ b.enc x.2) us from h)
    exact (q9c hr hf.1 h1).append (q9c hr hf.2 h2)
  | .agg a, x, us, hf, h => by
    obtain ⟨u, m, rfl, h1, h2⟩ := RVs.cons h
    simp only [RVs] at h2
    subst h2
    simp only [RV] at h1
    obtain ⟨cs', rfl, q1, q2⟩ := h1
    have q3 := q9c (s := a) hr hf q2
    refine RVs.one.2 ?_
    simp only [RV]
    exact ⟨cs', rfl, by rw [z3f]; exact q1, q3⟩
  | .tup a, x, us, hf, h => by
    obtain ⟨u, m, rfl, h1, h2⟩ := RVs.cons h
    simp only [RVs] at h2
    subst h2
    simp only [RV] at h1
    obtain ⟨cs', rfl, q1, q2⟩ := h1
    have q3 := q9c (s := a) hr hf q2
    refine RVs.one.2 ?_
    simp only [RV]
    exact ⟨cs', rfl, by rw [z22]; exact q1, q3⟩
  | .fn g a b, x, us, hf, h => by
    simp only [Sh.free, Bool.and_eq_true] at hf
    obtain ⟨u, m, rfl, h1, h2⟩ := RVs.cons h
    simp only [RVs] at h2
    subst h2
    simp only [RV] at h1
    obtain ⟨fs', cs', rfl, q1, q2⟩ := h1
    refine RVs.one.2 ?_
    simp only [RV]
    exact ⟨fs', cs', rfl, q9c hr hf.1 q1, q9c hr hf.2 q2⟩
def HSh.ok : HSh → Bool
  | .list _ t fs => t.z14 fs.length
  | .many _ t => t.z14 0
  | .cells _ _ s => s.free
  | _ => true
theorem z4w {σ σ' : Num} {Z : Zone} {w : World} {f : Nat → Nat} {n : Nat} (hr : Ren σ σ' f n) {fs : List Nat} : ∀ {t : Ty} {x : t.I} {us : List Value}, t.z14 fs.length = true → RVs M σ Z w (t.cells fs x) us → RVs M σ' Z w (t.cells (fs.map f) x) us
  | .pair a b, x, us, h, hv => by
    simp only [Ty.z14, Bool.and_eq_true] at h
    simp only [Ty.cells] at hv ⊢
    obtain ⟨l, m, rfl, h1, h2⟩ := hv.q68
    exact (z4w hr h.1 h1).append (z4w hr h.2 h2)
  | .own j, k, us, h, hv => by
    have hj : j < fs.length := Nat.le_of_ble_eq_true h
    obtain ⟨u, m, rfl, h1, h2⟩ := RVs.cons hv
    simp only [RVs] at h2
    subst h2
    have e : (fs.map f).getD j 0 = f (fs.getD j 0) := by simp [hj]
    simp only [Ty.cells]
    rw [e]
    by_cases hF : fs.getD j 0 < n
    · exact RVs.one.2 (q93 (hr.eq _ hF k) h1)
    · simp only [RV, hr.out _ (Nat.le_of_not_lt hF)] at h1
  | .int kd, x, us, h, hv => DV.rvs _ (RVs.dv fs rfl hv)
  | .bool, x, us, h, hv => DV.rvs _ (RVs.dv fs rfl hv)
  | .str, x, us, h, hv => DV.rvs _ (RVs.dv fs rfl hv)
  | .err, x, us, h, hv => DV.rvs _ (RVs.dv fs rfl hv)
  | .slice t, x, us, h, hv => by
    obtain ⟨u, m, rfl, h1, h2⟩ := RVs.cons hv
    simp only [RVs] at h2
    subst h2
    simp only [RV] at h1
    refine RVs.one.2 ?_
    simp only [RV]
    exact h1
  | .ptr t, x, us, h, hv => by
    obtain ⟨u, m, rfl, h1, h2⟩ := RVs.cons hv
    simp only [RVs] at h2
    subst h2
    simp only [RV] at h1
    refine RVs.one.2 ?_
    simp only [RV]
    exact h1
theorem hencR {σ σ' : Num} {Z : Zone} {w : World} {f : Nat → Nat} {n : Nat} (hr : Ren σ σ' f n) {h : HSh} {x : h.I} {F : Nat} (hF : F < n) (hok : h.ok = true) (hh : HER M σ Z w F (h.enc x)) : HER M σ' Z w (f F) (h.encR f x) := by
  cases h with
  | dead => exact fun k => by rw [hr.eq F hF]; exact hh k
  | void e t =>
    obtain ⟨h1, h2⟩ := hh
    exact ⟨fun k ys hy => by simp at hy, fun k hk => by rw [hr.eq F hF]; exact h2 k (by simp)⟩
  | cells e row s =>
    obtain ⟨hd, hone, vs, k, h1, h2⟩ := hh
    exact ⟨fun k => by rw [hr.eq F hF]; exact hd k, by rw [z3f]; exact hone, vs, k, q9c hr hok h1, by rw [hr.eq F hF]; exact h2⟩
  | many e t =>
    obtain ⟨h1, h2⟩ := hh
    refine ⟨fun k ys hy => ?_, fun k hk => by rw [hr.eq F hF]; exact h2 k hk⟩
    obtain ⟨rows, q1, q2⟩ := h1 k ys hy
    exact ⟨rows, q84 (n := 0) (fun _ h => h) (fun j hj => absurd hj (Nat.not_lt_zero j)) hok q1, by rw [hr.eq F hF]; exact q2⟩
  | list e t fs =>
    obtain ⟨hd, rows, h1, h2⟩ := hh
    refine ⟨fun k => by rw [hr.eq F hF]; exact hd k, rows, ?_, by rw [hr.eq F hF]; exact h2⟩
    refine All2.mono (fun x row _ hx => ?_) h1
    exact z4w hr hok hx
end Go.Proofs.YtdjkdmjdcdljmaaGreatDoorY
namespace Go.Proofs.YtdjkdmjdcdljmaaGreatDoorY
open Go.RowKit
variable {M : Cfg} {α : Type}
def renL : Bind → Nat → Nat → List Nat
  | _, 0, _ => []
  | some (.at G) :: r, n + 1, nx => G :: renL r n nx
  | _ :: r, n + 1, nx => nx :: renL r n (nx + 1)
  | [], n + 1, nx => nx :: renL [] n (nx + 1)
def j3e : Bind → List Nat
  | [] => []
  | some (.cut G _) :: r => G :: j3e r
  | _ :: r => j3e r
def z6l : List Nat → List Nat
  | [] => []
  | F :: r => bif hasB r F then z6l r else F :: z6l r
def z2x (f : Nat → Nat) : (hs : List HSh) → HsI hs → List HE
  | [], _ => []
  | h :: r, x => h.encR f x.1 :: z2x f r x.2
def zipC : List Nat → List HE → List (Nat × HE)
  | F :: fs, he :: hs => (F, he) :: zipC fs hs
  | _, _ => []
def killL (W : Wit) : List Nat := z6l (W.fz ++ j3e W.map)
def renF (l : List Nat) (F : Nat) : Nat := l.getD F 0
def Sig.ok (g : Sig) : Bool := Nat.ble g.ihs.length g.ohs.length && g.osh.isAs && g.osh.free && g.ohs.all HSh.ok
def z51 (g : Sig) (W : Wit) (n : Nat) : Bool := z1c (killL W ++ renL W.map g.ohs.length n)
def callW (g : Sig) (G : g.In → Option g.Ou) (vs : List V) (H : List HE) (k : Out → Option α) (other : Option α) : Option α :=
  match fit g.ish g.ihs 0 vs H with
  | some (x, W) => bif z51 g W H.length then (G x).bind fun y =>
      k { v := resV (g.osh.encR (renF (renL W.map g.ohs.length H.length)) y.1), chg := (killL W).map (fun G => (G, HE.dead)) ++ zipC (renL W.map g.ohs.length H.length) (z2x (renF (renL W.map g.ohs.length H.length)) g.ohs y.2) } else none
  | none => other
def j1w (n : FuncId) (g : Sig) (G : g.In → Option g.Ou) (rest : q13 α) : q13 α := fun f vs H k => bif Nat.beq f n then callW g G vs H k (rest f vs H k) else rest f vs H k
def q44 : q13 α := fun _ _ _ _ => none
theorem q5v : q2q M (q44 (α := α)) := fun _ _ _ _ _ h => by cases h
theorem z28 : ∀ {m : Bind} {n nx : Nat}, (renL m n nx).length = n
  | m, 0, nx => by cases m <;> rfl
  | [], n + 1, nx => by simp [renL, z28 (m := [])]
  | none :: r, n + 1, nx => by simp [renL, z28 (m := r)]
  | some p :: r, n + 1, nx => by cases p <;> simp [renL, z28 (m := r)]
theorem q92 : ∀ {m : Bind} {n nx F G : Nat}, (renL m n nx)[F]? = some G → getB m F = some (.at G) ∨ (nx ≤ G ∧ ∀ G', getB m F ≠ some (.at G'))
  | m, 0, nx, F, G, h => by cases m <;> simp [renL] at h
  | [], n + 1, nx, 0, G, h => by simp [renL] at h; exact .inr ⟨by omega, fun G' e => by simp [getB] at e⟩
  | [], n + 1, nx, F + 1, G, h => by
    simp [renL] at h
    rcases q92 (m := []) h with h | ⟨h, h'⟩
    · simp [getB] at h
    · exact .inr ⟨by omega, fun G' e => by simp [getB] at e⟩
  | o :: r, n + 1, nx, 0, G, h => by
    have e0 : getB (o :: r) 0 = o := by simp [getB]
    rw [e0]
    cases o with
    | none => simp [renL] at h; exact .inr ⟨by omega, fun G' e => by cases e⟩
    | some p =>
      cases p <;> simp [renL] at h
      case «at» G' => exact .inl (by rw [h])
      all_goals exact .inr ⟨by omega, fun G' e => by cases e⟩
  | o :: r, n + 1, nx, F + 1, G, h => by
    have e0 : getB (o :: r) (F + 1) = getB r F := by simp [getB]
    rw [e0]
    cases o with
    | none =>
      simp [renL] at h
      rcases q92 h with h | ⟨h, h'⟩
      · exact .inl h
      · exact .inr ⟨by omega, h'⟩
    | some p =>
      cases p <;> simp [renL] at h
      case «at» G' => exact q92 h
      all_goals
        rcases q92 h with h | ⟨h, h'⟩
        · exact .inl h
        · exact .inr ⟨by omega, h'⟩
theorem z86 : ∀ {m : Bind} {F G n : Nat}, getB m F = some (.cut G n) → G ∈ j3e m
  | [], F, G, n, h => by simp [getB] at h
  | o :: r, 0, G, n, h => by
    have e0 : getB (o :: r) 0 = o := by simp [getB]
    rw [e0] at h
    subst h
    simp [j3e]
  | o :: r, F + 1, G, n, h => by
    have e0 : getB (o :: r) (F + 1) = getB r F := by simp [getB]
    rw [e0] at h
    have := z86 h
    cases o with
    | none => exact this
    | some p => cases p <;> simp [j3e, this]
theorem z0u : ∀ {l : List Nat} {F : Nat}, F ∈ z6l l ↔ F ∈ l
  | [], F => by simp [z6l]
  | G :: r, F => by
    simp only [z6l]
    cases hb : hasB r G with
    | true =>
      obtain ⟨u, hu, he⟩ := List.any_eq_true.1 hb
      have := Nat.eq_of_beq_eq_true he
      subst this
      simp only [cond_true, z0u]
      simp only [List.mem_cons]
      exact ⟨.inr, fun h => h.elim (fun e => e ▸ hu) id⟩
    | false => simp only [cond_false, List.mem_cons, z0u]
theorem z5q : ∀ {l : List Nat}, z1c l = true → l.Nodup
  | [], _ => List.nodup_nil
  | F :: r, h => by
    simp only [z1c, Bool.and_eq_true, Bool.not_eq_true'] at h
    refine List.nodup_cons.2 ⟨fun hF => ?_, z5q h.2⟩
    rw [z00 hF] at h
    cases h.1
theorem z84 {f : Nat → Nat} : ∀ {hs : List HSh} (x : HsI hs), (z2x f hs x).length = hs.length
  | [], _ => rfl
  | h :: r, x => by simp [z2x, z84 x.2]
theorem z98 : ∀ {fs : List Nat} {hs : List HE}, fs.length = hs.length → fams (zipC fs hs) = fs
  | [], [], _ => rfl
  | F :: fs, h :: hs, e => by
    have := z98 (fs := fs) (hs := hs) (by simpa using e)
    unfold fams at this ⊢
    simp only [zipC, List.map_cons, this]
  | [], _ :: _, e => by simp at e
  | _ :: _, [], e => by simp at e
theorem j2y : ∀ {fs : List Nat} {hs : List HE} {G : Nat} {he : HE}, (G, he) ∈ zipC fs hs → ∃ F : Nat, fs[F]? = some G ∧ hs[F]? = some he
  | [], hs, G, he, h => by cases hs <;> simp [zipC] at h
  | F :: fs, [], G, he, h => by simp [zipC] at h
  | F :: fs, x :: hs, G, he, h => by
    simp only [zipC, List.mem_cons] at h
    rcases h with h | h
    · cases h; exact ⟨0, rfl, rfl⟩
    · obtain ⟨j, h1, h2⟩ := j2y h
      exact ⟨j + 1, by simpa using h1, by simpa using h2⟩
theorem z8d {f : Nat → Nat} : ∀ {hs : List HSh} {x : HsI hs} {F : Nat} {he : HE}, (z2x f hs x)[F]? = some he → ∃ (h : HSh) (z : h.I), hs[F]? = some h ∧ he = h.encR f z ∧ (encH hs x)[F]? = some (h.enc z)
  | [], x, F, he, h => by simp [z2x] at h
  | h0 :: r, x, 0, he, h => by simp [z2x] at h; exact ⟨h0, x.1, rfl, h.symm, rfl⟩
  | h0 :: r, x, F + 1, he, h => by
    obtain ⟨h1, z, a, b, c⟩ := z8d (x := x.2) (F := F) (by simpa [z2x] using h)
    exact ⟨h1, z, by simpa using a, b, by simpa [encH] using c⟩
noncomputable def z7d (σ σl : Num) (ks rs : List Nat) : Num := fun G k => open Classical in
  if h : ∃ F : Nat, rs[F]? = some G then σl (Classical.choose h) k else if G ∈ ks then .dead else σ G k
theorem nodup_get {l : List Nat} (h : l.Nodup) {i j G : Nat} (hi : l[i]? = some G) (hj : l[j]? = some G) : i = j := by
  obtain ⟨h1, h2⟩ := List.getElem?_eq_some_iff.1 hi
  obtain ⟨h3, h4⟩ := List.getElem?_eq_some_iff.1 hj
  exact (List.getElem_inj h).1 (h2.trans h4.symm)
theorem z42 {σ σl : Num} {ks rs : List Nat} (hn : rs.Nodup) {F G : Nat} (hF : rs[F]? = some G) (k : Nat) : z7d σ σl ks rs G k = σl F k := by
  have h : ∃ F : Nat, rs[F]? = some G := ⟨F, hF⟩
  unfold z7d
  rw [dif_pos h, nodup_get hn (Classical.choose_spec h) hF]
theorem z2c {σ σl : Num} {ks rs : List Nat} {G : Nat} (h1 : G ∉ rs) (h2 : G ∈ ks) (k : Nat) : z7d σ σl ks rs G k = .dead := by
  unfold z7d
  rw [dif_neg (fun ⟨F, hF⟩ => h1 (List.mem_of_getElem? hF)), if_pos h2]
theorem z0k {σ σl : Num} {ks rs : List Nat} {G : Nat} (h1 : G ∉ rs) (h2 : G ∉ ks) (k : Nat) : z7d σ σl ks rs G k = σ G k := by
  unfold z7d
  rw [dif_neg (fun ⟨F, hF⟩ => h1 (List.mem_of_getElem? hF)), if_neg h2]
theorem stDead (s : Status) : StLe s .dead := by
  cases s with
  | fresh => exact .born _
  | dead => exact .same _
  | alive s => exact .died s
theorem j3f {g : Sig} {G : g.In → Option g.Ou} {f : FuncId} {vs : List V} {H : List HE} {k : Out → Option α} {other : Option α} {r : α} (hg : g.ok = true) (hG : ∀ x y, G x = some y → Rets M f g x y) (h : callW g G vs H k other = some r) :
    other = some r ∨ ∃ out, k out = some r ∧ q96 M f vs (fun G => H[G]?) out := by
  unfold Sig.ok at hg
  simp only [Bool.and_eq_true] at hg
  obtain ⟨⟨⟨hle, hisA⟩, hfree⟩, hok⟩ := hg
  have hle := Nat.le_of_ble_eq_true hle
  unfold callW at h
  split at h
  · rename_i x W hfit
    right
    replace h := q00 h
    obtain ⟨hcall, h⟩ := h
    cases hy : G x with
    | none => rw [hy] at h; cases h
    | some y =>
      rw [hy] at h
      simp only [Option.bind_some] at h
      refine ⟨_, h, ?_⟩
      clear h
      obtain ⟨x1, x2⟩ := x
      obtain ⟨hwit, g1⟩ := z3d (M := M) hfit (Nat.zero_le _)
      unfold z51 at hcall
      have hnod := z5q hcall
      generalize hrs : renL W.map g.ohs.length H.length = rs at hnod
      generalize hks : killL W = ks at hnod
      have hrsl : rs.length = g.ohs.length := by rw [← hrs, z28]
      obtain ⟨hnk, hnr, hdis⟩ := List.nodup_append.1 hnod
      intro σ Z w args hinv hargs hheap hfresh
      have hfam : fams (ks.map (fun G => (G, HE.dead)) ++ zipC rs (z2x (renF rs) g.ohs y.2)) = ks ++ rs := by
        have := z98 (fs := rs) (hs := z2x (renF rs) g.ohs y.2) (by rw [z84, hrsl])
        unfold fams at this ⊢
        rw [List.map_append, this, List.map_map]
        congr 1
        simp [Function.comp_def]
      simp only [hfam] at hheap hfresh
      have hcut : ∀ F G n, getB W.map F = some (.cut G n) → G ∈ ks := fun F G n e => by rw [← hks]; exact z0u.2 (List.mem_append_right _ (z86 e))
      have hfz : ∀ G ∈ W.fz, G ∈ ks := fun G hG' => by rw [← hks]; exact z0u.2 (List.mem_append_left _ hG')
      have hwl : W.map.length = g.ihs.length := by
        unfold witOk at hwit
        simp only [Bool.and_eq_true] at hwit
        exact Nat.eq_of_beq_eq_true hwit.1.1
      have hat : ∀ F G, getB W.map F = some (.at G) → F < g.ihs.length ∧ rs[F]? = some G := fun F G e => by
        have hF : F < g.ihs.length := by
          rw [← hwl]
          refine Decidable.byContradiction fun hn => ?_
          unfold getB at e
          rw [List.getElem?_eq_none (by omega)] at e
          cases e
        refine ⟨hF, ?_⟩
        have hlt : F < rs.length := by omega
        have e2 : (renL W.map g.ohs.length H.length)[F]? = some rs[F] := by rw [hrs]; simp [hlt]
        rcases q92 e2 with h1 | ⟨_, h1⟩
        · rw [e] at h1
          simp only [Option.some.injEq, MP.at.injEq] at h1
          rw [h1]; simp [hlt]
        · exact absurd e (h1 G)
      have htouch : ∀ G, j1r W G → G ∈ ks ++ rs := fun G hT => by
        rcases hT with hT | ⟨F, hT | ⟨n, hT⟩⟩
        · exact List.mem_append_left _ (hfz G hT)
        · exact List.mem_append_right _ (List.mem_of_getElem? (hat F G hT).2)
        · exact List.mem_append_left _ (hcut F G n hT)
      obtain ⟨k1, k2, k3, k4⟩ := g1 σ Z w args hinv (fun G he hT hG' => hheap G (.inr (htouch G hT)) he hG') hargs
      refine (hG (x1, x2) y hy _ _ w args k4.inv k1 k2 k3).mono fun e w' hret => ?_
      obtain ⟨us, σl, Zl, he, q1, q2, q3, q4, q5⟩ := hret
      generalize hσ0 : pull σ W.map g.ihs = σ0 at k1 k2 k3 k4 q5
      have hren : Ren σl (z7d σ σl ks rs) (renF rs) g.ohs.length := ⟨fun F hF k => z42 hnr (by simp [renF, hrsl, hF]) k, q3⟩
      have hreal : ∀ G k r, (z7d σ σl ks rs).real G k r → (∃ F : Nat, rs[F]? = some G ∧ σl.real F k r) ∨ (G ∉ rs ∧ G ∉ ks ∧ σ.real G k r) := fun G k r ⟨s, e1, e2⟩ => by
        by_cases h1 : G ∈ rs
        · obtain ⟨F, hF⟩ := List.getElem?_of_mem h1
          rw [z42 hnr hF] at e1
          exact .inl ⟨F, hF, s, e1, e2⟩
        · by_cases h2 : G ∈ ks
          · rw [z2c h1 h2] at e1; cases e1
          · rw [z0k h1 h2] at e1; exact .inr ⟨h1, h2, s, e1, e2⟩
      have hown0 : ∀ r, σ0.own r → ownT σ (ks ++ rs) r := fun r ⟨F, k, hr⟩ => by
        rw [← hσ0] at hr
        obtain ⟨G, h1, h2⟩ := z8i hr
        rcases h1 with h1 | ⟨n, h1, _⟩
        · exact ⟨G, List.mem_append_right _ (List.mem_of_getElem? (hat F G h1).2), k, h2⟩
        · exact ⟨G, List.mem_append_left _ (hcut F G n h1), k, h2⟩
      have hownl : ∀ r, σl.own r → ownT σ (ks ++ rs) r ∨ w.heap.size ≤ r := fun r hr => (q5.own r hr).imp (hown0 r) id
      have hz : ∀ r, Zl r → Z r ∨ ownT σ (ks ++ rs) r ∨ w.heap.size ≤ r := fun r hr => by
        rcases q5.znew r hr with h1 | h1 | h1
        · rcases h1 with h1 | ⟨G, hG', h1⟩
          · exact .inl h1
          · exact .inr (.inl ⟨G, List.mem_append_left _ (hfz G hG'), 0, h1⟩)
        · exact .inr (.inl (hown0 r h1))
        · exact .inr (.inr h1)
      have hsz : w.heap.size ≤ w'.heap.size := q5.size
      have hcross : ∀ G k r, G ∉ rs → G ∉ ks → σ.real G k r → ¬ ownT σ (ks ++ rs) r := fun G k r h1 h2 h3 ⟨G', hG', k', h4⟩ => by
        obtain ⟨rfl, _⟩ := hinv.inj _ _ _ _ r h3 h4
        rcases List.mem_append.1 hG' with h | h
        · exact h2 h
        · exact h1 h
      refine ⟨z0c us, z7d σ σl ks rs, Zl, he, resV_rv (by rw [z22]; exact z3a _ hisA) (q9c hren hfree q1), ?_⟩
      refine ⟨q5.os, q5.tape, q5.output, hsz, fun G k => ?_, fun G hG' k => ?_, fun r hr => q5.zone r (k4.zone r hr), fun r hr => by rw [hfam]; exact hz r hr, fun r hr hno => q5.block r hr fun ho => ?_, fun G k r hG' hr => ?_, ⟨fun G k G' k' r a b => ?_, fun r ⟨G, k, hr⟩ => ?_, q4.zlt, fun r ⟨G, k, hr⟩ hzr => ?_, q4.glob⟩, fun G he' hG' => ?_⟩
      · by_cases h1 : G ∈ rs
        · obtain ⟨F, hF⟩ := List.getElem?_of_mem h1
          rw [z42 hnr hF]
          have e2 : (renL W.map g.ohs.length H.length)[F]? = some G := by rw [hrs]; exact hF
          rcases q92 e2 with h2 | ⟨h2, _⟩
          · have := q5.mono F (hat F G h2).1 k
            rw [← hσ0] at this
            replace this : StLe (pull σ W.map g.ihs F k) (σl F k) := this
            rwa [show pull σ W.map g.ihs F k = σ G k from q41 h2 k] at this
          · rw [hfresh G (List.mem_append_right _ h1) (List.getElem?_eq_none h2) k]
            exact .born _
        · by_cases h2 : G ∈ ks
          · rw [z2c h1 h2]; exact stDead _
          · rw [z0k h1 h2]; exact .same _
      · rw [hfam] at hG'
        simp only [List.mem_append, not_or] at hG'
        exact z0k hG'.2 hG'.1 k
      · rw [hfam] at hno
        exact hno (hown0 r ho)
      · rw [hfam]
        rcases hreal G k r hr with ⟨F, _, h1⟩ | ⟨h1, h2, _⟩
        · exact hownl r ⟨F, k, h1⟩
        · rw [hfam] at hG'
          rcases List.mem_append.1 hG' with h | h
          · exact absurd h h2
          · exact absurd h h1
      · rcases hreal G k r a with ⟨F, hF, a1⟩ | ⟨a1, a2, a3⟩ <;> rcases hreal G' k' r b with ⟨F', hF', b1⟩ | ⟨b1, b2, b3⟩
        · obtain ⟨rfl, rfl⟩ := q4.inj _ _ _ _ r a1 b1
          rw [hF] at hF'
          cases hF'
          exact ⟨rfl, rfl⟩
        · rcases hownl r ⟨F, k, a1⟩ with h | h
          · exact absurd h (hcross _ _ r b1 b2 b3)
          · have := hinv.lt r ⟨_, _, b3⟩; omega
        · rcases hownl r ⟨F', k', b1⟩ with h | h
          · exact absurd h (hcross _ _ r a1 a2 a3)
          · have := hinv.lt r ⟨_, _, a3⟩; omega
        · exact hinv.inj _ _ _ _ r a3 b3
      · rcases hreal G k r hr with ⟨F, _, h1⟩ | ⟨_, _, h1⟩
        · exact q4.lt r ⟨F, k, h1⟩
        · have := hinv.lt r ⟨_, _, h1⟩; omega
      · rcases hreal G k r hr with ⟨F, _, h1⟩ | ⟨h1, h2, h3⟩
        · exact q4.off r ⟨F, k, h1⟩ hzr
        · rcases hz r hzr with h | h | h
          · exact hinv.off r ⟨_, _, h3⟩ h
          · exact hcross _ _ r h1 h2 h3 h
          · have := hinv.lt r ⟨_, _, h3⟩; omega
      · rcases List.mem_append.1 hG' with hG' | hG'
        · obtain ⟨G', h1, e⟩ := List.mem_map.1 hG'
          cases e
          exact fun k => z2c (fun h2 => hdis _ h1 _ h2 rfl) h1 k
        · obtain ⟨F, h1, h2⟩ := j2y hG'
          obtain ⟨hh, z, e1, e2, e3⟩ := z8d h2
          subst e2
          have hF : F < g.ohs.length := (List.getElem?_eq_some_iff.1 e1).1
          have := hencR hren hF (List.all_eq_true.1 hok hh (List.mem_of_getElem? e1)) (q2 F _ e3)
          have e4 : renF rs F = G := by simp [renF, h1]
          rwa [e4] at this
  · exact .inl h
theorem entryC_ok {n : FuncId} {g : Sig} {G : g.In → Option g.Ou} {rest : q13 α} {fn : Func} (hrest : q2q M rest) (hg : g.ok = true) (hf : M.P.funcs[n]? = some fn) (hname : (fn.name == "runtime.NumGoroutine") = false) (hb : fn.body.isSome = true)
    (hG : ∀ x y, G x = some y → Rets M n g x y) : q2q M (j1w n g G rest) := by
  intro f vs H k r h
  unfold j1w at h
  cases hn : Nat.beq f n with
  | false => rw [hn] at h; exact hrest f vs H k r h
  | true =>
    rw [hn] at h
    have := Nat.eq_of_beq_eq_true hn
    subst this
    rcases j3f hg hG h with h | ⟨out, h1, h2⟩
    · exact hrest f vs H k r h
    · exact ⟨out, h1, ⟨fn, hf, hname, hb⟩, h2⟩
end Go.Proofs.YtdjkdmjdcdljmaaGreatDoorY
namespace Go.Proofs.YtdjkdmjdcdljmaaGreatDoorY
open Go.RowKit
def j1v (P : Program) (t : TypeId) (cs : Array Value) (off : Nat) : Option Value :=
  match j24 P t with
  | some true => match P.info? t with
    | some i => some (.agg (cs.extract off (off + i.size)))
    | none => none
  | some false => cs[off]?
  | none => none
theorem z5y {P : Program} {t : TypeId} {cs : Array Value} {off : Nat} {v : Value} (h : j1v P t cs off = some v) (w : World) : (part t cs off).run P w = .ok v w := by
  unfold j1v at h
  unfold part
  split at h
  · rename_i ha
    split at h
    · rename_i i hi
      cases h
      simp [q8j ha, q26 hi]
    · cases h
  · rename_i ha
    simp [q8j ha, h]
  · cases h
def veqF (P : Program) (eq : TypeId → Value → Value → Option Bool) (xs ys : Array Value) : List Field → Option Bool
  | [] => some true
  | f :: fs => bif f.name == "_" then none else
    match j1v P f.type xs f.offset, j1v P f.type ys f.offset with
    | some a, some b => match eq f.type a b with
      | some r => match fs with
        | [] => some r
        | g :: gs => match veqF P eq xs ys (g :: gs) with
          | some s => some (r && s)
          | none => none
      | none => none
    | _, _ => none
def veq (P : Program) : Nat → TypeId → Value → Value → Option Bool
  | 0, _, _, _ => none
  | d + 1, t, x, y => match P.underlying t with
    | some .bool => match x, y with
      | .bool a, .bool b => some (a == b)
      | _, _ => none
    | some (.int _) => match x, y with
      | .int k a, .int k' b => if k = k' then some (a == b) else none
      | _, _ => none
    | some .string => match x, y with
      | .string a, .string b => some (a == b)
      | _, _ => none
    | some (.struct fs) => match x, y with
      | .agg xs, .agg ys => bif P.stoodInHeld t then none else veqF P (veq P d) xs ys fs.toList
      | _, _ => none
    | _ => none
def eqBy (P : Program) : EqBy := fun t x y => bif P.eqGuardType P.depth t then none else veq P 8 t x y
theorem j2l {P : Program} {d : Nat} {eq : TypeId → Value → Value → Option Bool} (heq : ∀ t x y r, eq t x y = some r → ∀ w, (Op.equalIn d t x y).run P w = .ok r w) {xs ys : Array Value} :
    ∀ {fs : List Field} {r : Bool}, veqF P eq xs ys fs = some r → ∀ w, (Op.eqFields d xs ys fs).run P w = .ok r w
  | [], r, h, w => by simp [veqF] at h; subst h; simp [Op.eqFields]
  | f :: fs, r, h, w => by
    rw [veqF] at h
    cases hn : (f.name == "_") with
    | true => simp [hn] at h
    | false =>
    simp only [hn, cond_false] at h
    have hn' : f.name ≠ "_" := by simpa using hn
    split at h
    · rename_i a b ha hb
      split at h
      · rename_i r0 hr0
        simp only [Op.eqFields, if_pos hn', Sem.run_bind, z5y ha w, z5y hb w, heq _ _ _ _ hr0 w, Result.andThen_ok, Sem.run_ite]
        split at h
        · cases h
          cases r <;> simp [Op.eqFields]
        · split at h
          · rename_i s hs
            cases h
            cases r0
            · simp
            · simpa using j2l heq hs w
          · cases h
      · cases h
    · cases h
theorem run_veq {P : Program} : ∀ {d : Nat} {t : TypeId} {x y : Value} {r : Bool}, veq P d t x y = some r → ∀ (m : Nat) (w : World), (Op.equalIn (d + m) t x y).run P w = .ok r w
  | 0, _, _, _, _, h, _, _ => by simp [veq] at h
  | d + 1, t, x, y, r, h, m, w => by
    rw [Nat.add_right_comm]
    simp only [veq] at h
    split at h
    · rename_i hu
      split at h
      · cases h; simp [Op.equalIn, run_underlying hu]
      · cases h
    · rename_i hu
      split at h
      · split at h
        · rename_i k a k' b hk
          cases h
          simp [Op.equalIn, run_underlying hu, hk]
        · cases h
      · cases h
    · rename_i hu
      split at h
      · cases h; simp [Op.equalIn, run_underlying hu]
      · cases h
    · rename_i fs hu
      split at h
      · rename_i xs ys
        cases hs : P.stoodInHeld t with
        | true => simp [hs] at h
        | false =>
          simp only [hs, cond_false] at h
          have hf : P.fieldsOf t = fs := by simp [Program.fieldsOf, hu]
          rw [run_equalIn_struct (P := P) w (d + m) t xs ys (by rw [hf]; exact hu) hs, hf]
          exact j2l (fun t x y r he w => run_veq he m w) h w
      · cases h
    · cases h
theorem q6q (P : Program) : EqOk P (eqBy P) := by
  intro t x y r h
  unfold eqBy at h
  cases hg : P.eqGuardType P.depth t with
  | true => simp [hg] at h
  | false =>
    simp only [hg, cond_false] at h
    exact ⟨fun w => run_veq h 9992 w, rfl⟩
end Go.Proofs.YtdjkdmjdcdljmaaGreatDoorY
namespace Go.Proofs.YtdjkdmjdcdljmaaGreatDoorY
open Go.RowKit
variable {M : Cfg} {α : Type}
def q2u {A R B : Type} (F : A → Option R) (cv : A → R → B) : A → Option B := fun x => (F x).bind fun r => some (cv x r)
def smap {A R R' B B' : Type} (cv : A → R → B) (cv' : A → R' → B') (x : A) : R ⊕ R' → B ⊕ B' := Sum.map (cv x) (cv' x)
def callD (g : Sig) {R : Type} (F : g.In → Option R) (cv : g.In → R → g.Ou) (vs : List V) (H : List HE) (k : Out → Option α) (other : Option α) : Option α :=
  match fit0 g.ish g.ihs 0 vs H with
  | some (x, W) => bif q7y H W.map then (bif z51 g W H.length then (F x).bind fun r =>
      k { v := resV (g.osh.encR (renF (renL W.map g.ohs.length H.length)) (cv x r).1), chg := (killL W).map (fun G => (G, HE.dead)) ++ zipC (renL W.map g.ohs.length H.length) (z2x (renF (renL W.map g.ohs.length H.length)) g.ohs (cv x r).2) } else none) else other
  | none => other
theorem callD_eq {g : Sig} {R : Type} {F : g.In → Option R} {cv : g.In → R → g.Ou} {vs : List V} {H : List HE} {k : Out → Option α} {other : Option α} : callD g F cv vs H k other = callW g (q2u F cv) vs H k other := by
  unfold callD callW q2u fit
  cases fit0 g.ish g.ihs 0 vs H with
  | none => rfl
  | some p =>
    obtain ⟨x, W⟩ := p
    simp only
    cases q7y H W.map with
    | false => rfl
    | true =>
    simp only [cond_true]
    cases z51 g W H.length with
    | false => rfl
    | true =>
      simp only [cond_true]
      cases F x <;> rfl
def z5v (n : FuncId) (g : Sig) {R : Type} (F : g.In → Option R) (cv : g.In → R → g.Ou) (rest : q13 α) : q13 α := fun f vs H k => bif Nat.beq f n then callD g F cv vs H k (rest f vs H k) else rest f vs H k
theorem z4r {n : FuncId} {g : Sig} {R : Type} {F : g.In → Option R} {cv : g.In → R → g.Ou} {rest : q13 α} {fn : Func} (hrest : q2q M rest) (hg : g.ok = true) (hf : M.P.funcs[n]? = some fn) (hname : (fn.name == "runtime.NumGoroutine") = false) (hb : fn.body.isSome = true)
    (hG : ∀ x y, q2u F cv x = some y → Rets M n g x y) : q2q M (z5v n g F cv rest) := by
  have : z5v n g F cv rest = j1w n g (q2u F cv) rest := by
    funext f vs H k
    unfold z5v j1w
    rw [callD_eq]
  rw [this]
  exact entryC_ok hrest hg hf hname hb hG
def callO (g : Sig) {R : Type} (F : g.In → Option R) (cv : g.In → R → g.Ou) (vs : List V) (H : List HE) (k : Out → Option α) (other : Option α) : Option α :=
  match fit0 g.ish g.ihs 0 vs H with
  | some (x, W) => bif q7y H W.map then (bif z51 g W H.length then Option.elim (F x) other fun r =>
      k { v := resV (g.osh.encR (renF (renL W.map g.ohs.length H.length)) (cv x r).1), chg := (killL W).map (fun G => (G, HE.dead)) ++ zipC (renL W.map g.ohs.length H.length) (z2x (renF (renL W.map g.ohs.length H.length)) g.ohs (cv x r).2) } else none) else other
  | none => other
theorem j0t {g : Sig} {R : Type} {F : g.In → Option R} {cv : g.In → R → g.Ou} {vs : List V} {H : List HE} {k : Out → Option α} {other : Option α} : callO g F cv vs H k other = other ∨ callO g F cv vs H k other = callD g F cv vs H k other := by
  unfold callO callD
  cases fit0 g.ish g.ihs 0 vs H with
  | none => exact .inl rfl
  | some p =>
    obtain ⟨x, W⟩ := p
    simp only
    cases q7y H W.map with
    | false => exact .inl rfl
    | true =>
      simp only [cond_true]
      cases z51 g W H.length with
      | false => exact .inr rfl
      | true =>
        simp only [cond_true]
        cases F x with
        | none => exact .inl rfl
        | some r => exact .inr rfl
def entryO (n : FuncId) (g : Sig) {R : Type} (F : g.In → Option R) (cv : g.In → R → g.Ou) (rest : q13 α) : q13 α := fun f vs H k => bif Nat.beq f n then callO g F cv vs H k (rest f vs H k) else rest f vs H k
theorem entryO_ok {n : FuncId} {g : Sig} {R : Type} {F : g.In → Option R} {cv : g.In → R → g.Ou} {rest : q13 α} {fn : Func} (hrest : q2q M rest) (hg : g.ok = true) (hf : M.P.funcs[n]? = some fn) (hname : (fn.name == "runtime.NumGoroutine") = false) (hb : fn.body.isSome = true)
    (hG : ∀ x y, q2u F cv x = some y → Rets M n g x y) : q2q M (entryO n g F cv rest) := by
  intro f vs H k r h
  unfold entryO at h
  cases hn : Nat.beq f n with
  | false => rw [hn] at h; exact hrest f vs H k r h
  | true =>
    rw [hn, cond_true] at h
    rcases j0t (g := g) (F := F) (cv := cv) (vs := vs) (H := H) (k := k) (other := rest f vs H k) with e | e
    · rw [e] at h; exact hrest f vs H k r h
    · refine z4r hrest hg hf hname hb hG f vs H k r ?_
      unfold z5v
      rw [hn, cond_true, ← e]
      exact h
def lpX (m n j : Nat) (hsh xsh : SSh) {R : Type} (F : hsh.I → Option R) (cv : hsh.I → R → xsh.I) : St → Kn α → Option α := fun S K =>
  bif Nat.beq S.n n then (match hsh.fit m S with
    | some x => (F x).bind fun r => K (.exit j) (xsh.enc n (cv x r))
    | none => none) else none
def lpXRD (m n j : Nat) (hsh xsh rsh : SSh) {R R' : Type} (F : hsh.I → Option (R ⊕ R')) (cv : hsh.I → R → xsh.I) (cv' : hsh.I → R' → rsh.I) : St → Kn α → Option α := fun S K =>
  bif Nat.beq S.n n then (match hsh.fit m S with
    | some x => (F x).bind fun y => Sum.elim (fun a => K (.exit j) (xsh.enc n (cv x a))) (fun b => K .ret (rsh.enc n (cv' x b))) y
    | none => none) else none
theorem lpX_eq {m n j : Nat} {hsh xsh : SSh} {R : Type} {F : hsh.I → Option R} {cv : hsh.I → R → xsh.I} : lpX (α := α) m n j hsh xsh F cv = lpOf m n hsh (q2u F cv) (outX n j xsh) := by
  funext S K
  unfold lpX lpOf q2u
  congr 1
  cases hsh.fit m S with
  | none => rfl
  | some x => simp only; cases F x <;> rfl
theorem lpXRD_eq {m n j : Nat} {hsh xsh rsh : SSh} {R R' : Type} {F : hsh.I → Option (R ⊕ R')} {cv : hsh.I → R → xsh.I} {cv' : hsh.I → R' → rsh.I} : lpXRD (α := α) m n j hsh xsh rsh F cv cv' = lpOf m n hsh (q2u F (smap cv cv')) (j3k n j xsh rsh) := by
  funext S K
  unfold lpXRD lpOf q2u
  congr 1
  cases hsh.fit m S with
  | none => rfl
  | some x => simp only; cases F x with
    | none => rfl
    | some y => cases y <;> rfl
variable {m n j L key : Nat} {hsh xsh rsh : SSh} {R R' : Type} {c : Code}
theorem lpX_ok {F : hsh.I → Option R} {cv : hsh.I → R → xsh.I} (hm : m ≤ hsh.hs.length) (h : ∀ x y, q2u F cv x = some y → q8b M m (.loop c) (hsh.enc n x) (outX n j xsh y).1 (outX n j xsh y).2) : z2g (α := α) M m c (lpX m n j hsh xsh F cv) := by
  rw [lpX_eq]; exact lpOf_ok hm h
theorem lpXRD_ok {F : hsh.I → Option (R ⊕ R')} {cv : hsh.I → R → xsh.I} {cv' : hsh.I → R' → rsh.I} (hm : m ≤ hsh.hs.length) (h : ∀ x y, q2u F (smap cv cv') x = some y → q8b M m (.loop c) (hsh.enc n x) (j3k n j xsh rsh y).1 (j3k n j xsh rsh y).2) : z2g (α := α) M m c (lpXRD m n j hsh xsh rsh F cv cv') := by
  rw [lpXRD_eq]; exact lpOf_ok hm h
def keyIs (k : Nat) (c : Code) : Bool := match q5o c with
  | some j => Nat.beq j k
  | none => false
theorem j0g {lp : St → Kn α → Option α} {rest : q48 α} {cs : List Code} (hk : q5o c = some key) (h : z2g M m c lp) (hr : q4x M m rest cs) (hn : cs.all (fun c' => !keyIs key c') = true) : q4x M m (lpPut key lp rest) (c :: cs) := by
  intro c' hc key' lp' h1 h2
  unfold lpPut at h2
  rcases List.mem_cons.1 hc with rfl | hc
  · rw [hk] at h1; cases h1
    rw [Nat.beq_refl] at h2; cases h2; exact h
  · cases e : Nat.beq key' key with
    | true =>
      have := List.all_eq_true.1 hn c' hc
      simp [keyIs, h1, e] at this
    | false => rw [e] at h2; exact hr c' hc key' lp' h1 h2
theorem q5u {cs : List Code} : q4x (α := α) M m q4r cs := fun _ _ _ _ _ h => by cases h
theorem z9i {rest : q48 α} {cs : List Code} (hk : q5o c = some key) (h : rest key = none) (hr : q4x M m rest cs) : q4x M m rest (c :: cs) := by
  intro c' hc key' lp' h1 h2
  rcases List.mem_cons.1 hc with rfl | hc
  · rw [hk] at h1; cases h1; rw [h] at h2; cases h2
  · exact hr c' hc key' lp' h1 h2
theorem j0v {C : q13 xsh.I} {E : EqBy} {LP : q48 xsh.I} {RF : q4s} {CP : q79 xsh.I} {F : Nat → hsh.I → Option R} {cv : hsh.I → R → xsh.I} (hC : q2q M C) (hE : EqOk M.P E) (hmx : M.P.follows .mixedOrders = true) (hR : q6y M m RF) (hCP : q7g M m CP) (hL : q4x M m LP (q2d c)) (hm : m ≤ hsh.hs.length) (hx : m ≤ xsh.hs.length)
    (h0 : ∀ x, F 0 x = none) (hs : ∀ k x, exec M C E LP RF CP L c (Kl m hsh (q2u (F k) cv) (backX m n j xsh)) (hsh.enc n x) = q2u (F (k + 1)) cv x) : ∀ k x y, q2u (F k) cv x = some y → q8b M m (.loop c) (hsh.enc n x) (outX n j xsh y).1 (outX n j xsh y).2 :=
  z6m hC hE hmx hR hCP hL hm (backX_ok hx) (fun x => by simp [q2u, h0]) fun k x y h => (hs k x).trans h
theorem z77 {C : q13 (xsh.I ⊕ rsh.I)} {E : EqBy} {LP : q48 (xsh.I ⊕ rsh.I)} {RF : q4s} {CP : q79 (xsh.I ⊕ rsh.I)} {F : Nat → hsh.I → Option (R ⊕ R')} {cv : hsh.I → R → xsh.I} {cv' : hsh.I → R' → rsh.I} (hC : q2q M C) (hE : EqOk M.P E) (hmx : M.P.follows .mixedOrders = true) (hR : q6y M m RF) (hCP : q7g M m CP) (hL : q4x M m LP (q2d c)) (hm : m ≤ hsh.hs.length) (hx : m ≤ xsh.hs.length) (hx' : m ≤ rsh.hs.length)
    (h0 : ∀ x, F 0 x = none) (hs : ∀ k x, exec M C E LP RF CP L c (Kl m hsh (q2u (F k) (smap cv cv')) (z52 m j xsh rsh)) (hsh.enc n x) = q2u (F (k + 1)) (smap cv cv') x) : ∀ k x y, q2u (F k) (smap cv cv') x = some y → q8b M m (.loop c) (hsh.enc n x) (j3k n j xsh rsh y).1 (j3k n j xsh rsh y).2 :=
  z6m hC hE hmx hR hCP hL hm (backXR_ok hx hx') (fun x => by simp [q2u, h0]) fun k x y h => (hs k x).trans h
def q1g {A B : Type} (o : Option A) (f : A → Option B) : Option B := o.bind f
@[reducible] def TysI : List Ty → Type
  | [] => Unit
  | [t] => t.I
  | t :: r => t.I × TysI r
def z6s : (ts : List Ty) → List V → Option (TysI ts)
  | [], [] => some ()
  | [t], [v] => t.un1 [] [v]
  | t :: u :: r, v :: vs => match t.un1 [] [v] with
    | some x => match z6s (u :: r) vs with
      | some y => some (x, y)
      | none => none
    | none => none
  | _, _ => none
def z2v : (ts : List Ty) → List Nat → TysI ts → List (Nat × V)
  | [t], [d], x => (t.cells [] x).map fun v => (d, v)
  | t :: u :: r, d :: ds, x => (t.cells [] x.1).map (fun v => (d, v)) ++ z2v (u :: r) ds x.2
  | _, _, _ => []
def dstIn (ops : List Oper) (t : Nat) : Bool := ops.any fun o => match o.dst with
  | some d => Nat.beq d t
  | none => false
def z0s (ops : List Oper) : List (Nat × V) → List (Nat × V)
  | [] => []
  | (t, v) :: r => bif dstIn ops t then z0s ops r else (t, v) :: z0s ops r
def cutIn (M : Cfg) (ts : List Ty) (ds : List Nat) (C : q13 (TysI ts)) (E : EqBy) (ops : Array Oper) (draw : Bool) (S : St) : Option (TysI ts) :=
  bif draw
    then vseq M C E ops ops.toList S [] fun S' rs => bif j04 ops rs then (bif rs.all (fun r => r.puts.isEmpty) then (match looks S'.env ds with | some vs => z6s ts vs | none => none) else none) else none
    else vseq M C E ops ops.toList S [] fun S' rs => bif rs.all (fun r => r.puts.isEmpty) then (match looks S'.env ds with | some vs => z6s ts vs | none => none) else none
def cutBack (ts : List Ty) (ds : List Nat) (ops : Array Oper) (S : St) (x : TysI ts) : St := { env := z2v ts ds x ++ z0s ops.toList S.env, heap := S.heap, n := S.n }
def rpCut (M : Cfg) (B : {A B : Type} → Option A → (A → Option B) → Option B) (ts : List Ty) (ds : List Nat) (C : q13 (TysI ts)) (E : EqBy) (ops : Array Oper) (draw : Bool) (S : St) (k : St → Option α) : Option α :=
  B (cutIn M ts ds C E ops draw S) fun x => k (cutBack ts ds ops S x)
theorem z82 {ops : List Oper} {t : Nat} (ht : dstIn ops t = false) : ∀ {xs : List Ob} {F F' : Fs}, z10 F xs F' → (∀ x ∈ xs, x.o ∈ ops) → F'.e t = F.e t
  | [], F, F', h, _ => by simp only [z10] at h; rw [h]
  | x :: xs, F, F', ⟨_, h⟩, hm => by
    rw [z82 ht h fun y hy => hm y (by simp [hy])]
    simp only [Fs.put]
    rw [if_neg]
    intro e
    have := hm x (by simp)
    unfold dstIn at ht
    have h2 := List.any_eq_false.1 ht x.o this
    rw [e] at h2
    simp [Nat.beq_refl] at h2
theorem z6e : ∀ {xs : List Ob} {F F' : Fs}, z10 F xs F' → (∀ x ∈ xs, x.note.puts = []) → F'.h = F.h
  | [], F, F', h, _ => by simp only [z10] at h; rw [h]
  | x :: xs, F, F', ⟨_, h⟩, hm => by
    rw [z6e h fun y hy => hm y (by simp [hy])]
    have := hm x (by simp)
    simp only [Ob.note, z20, List.map_eq_nil_iff] at this
    funext G
    simp only [Fs.put, this]
    rfl
theorem z3q {ops : List Oper} {t : Nat} {v : V} : ∀ {env : List (Nat × V)}, look (z0s ops env) t = some v → dstIn ops t = false ∧ look env t = some v
  | [], h => by simp [z0s, look] at h
  | (u, w) :: r, h => by
    simp only [z0s] at h
    cases hd : dstIn ops u with
    | true =>
      rw [hd] at h
      obtain ⟨h1, h2⟩ := z3q (env := r) h
      refine ⟨h1, ?_⟩
      simp only [look]
      cases hb : Nat.beq u t with
      | true => have := Nat.eq_of_beq_eq_true hb; subst this; rw [hd] at h1; cases h1
      | false => exact h2
    | false =>
      rw [hd] at h
      simp only [cond_false, look] at h ⊢
      cases hb : Nat.beq u t with
      | true =>
        rw [hb] at h
        have := Nat.eq_of_beq_eq_true hb
        subst this
        exact ⟨hd, h⟩
      | false => rw [hb] at h; exact z3q (env := r) h
theorem z4y {a b : List (Nat × V)} {t : Nat} {v : V} (h : look (a ++ b) t = some v) : look a t = some v ∨ look b t = some v := by
  induction a with
  | nil => exact .inr h
  | cons p a ih =>
    obtain ⟨u, w⟩ := p
    simp only [List.cons_append, look] at h ⊢
    cases hb : Nat.beq u t with
    | true => rw [hb] at h; exact .inl h
    | false => rw [hb] at h; exact ih h
theorem j1n {t : Ty} {x : t.I} {d u : Nat} {v : V} (h : look ((t.cells [] x).map fun v => (d, v)) u = some v) : d = u ∧ v ∈ t.cells [] x := by
  generalize t.cells [] x = l at h
  induction l with
  | nil => simp [look] at h
  | cons w l ih =>
    simp only [List.map_cons, look] at h
    cases hb : Nat.beq d u with
    | true => rw [hb] at h; cases h; exact ⟨Nat.eq_of_beq_eq_true hb, by simp⟩
    | false => rw [hb] at h; obtain ⟨h1, h2⟩ := ih h; exact ⟨h1, by simp [h2]⟩
theorem un1_one {t : Ty} {w v : V} {x : t.I} {σ : Num} {Z : Zone} {W : World} {val : Value} (h : t.un1 [] [w] = some x) (hw : RV M σ Z W w val) (hv : v ∈ t.cells [] x) : RV M σ Z W v val := by
  have h1 := Ty.z09 h (RVs.one.2 hw)
  have hl := h1.length
  match hc : t.cells [] x, hl with
  | [u], _ =>
    rw [hc] at hv h1
    simp at hv
    subst hv
    exact RVs.one.1 h1
theorem z4x {S' : St} {σ : Num} {Z : Zone} {w : World} {a : Act} (hr : ∀ t v, look S'.env t = some v → RV M σ Z w v (a.eval (.tmp t))) : ∀ {ts : List Ty} {ds : List Nat} {vs : List V} {x : TysI ts}, looks S'.env ds = some vs → z6s ts vs = some x → ∀ t v, look (z2v ts ds x) t = some v → RV M σ Z w v (a.eval (.tmp t))
  | [], ds, vs, x, _, _, t, v, h => by cases ds <;> simp [z2v, look] at h
  | [ty], [], vs, x, _, _, t, v, h => by simp [z2v, look] at h
  | [ty], d :: d' :: ds, vs, x, _, _, t, v, h => by simp [z2v, look] at h
  | [ty], [d], vs, x, hl, hu, t, v, h => by
    simp only [looks] at hl
    split at hl
    · rename_i w0 hw0
      simp only [Option.some.injEq] at hl
      subst hl
      simp only [z6s] at hu
      obtain ⟨h1, h2⟩ := j1n h
      subst h1
      exact un1_one hu (hr _ _ hw0) h2
    · cases hl
  | ty :: u :: r, [], vs, x, _, _, t, v, h => by simp [z2v, look] at h
  | ty :: u :: r, d :: ds, vs, x, hl, hu, t, v, h => by
    simp only [looks] at hl
    split at hl
    · rename_i w0 hw0
      split at hl
      · rename_i us hus
        simp only [Option.some.injEq] at hl
        subst hl
        simp only [z6s] at hu
        split at hu
        · rename_i x0 hx0
          split at hu
          · rename_i y hy
            simp only [Option.some.injEq] at hu
            subst hu
            rcases z4y h with h | h
            · obtain ⟨h1, h2⟩ := j1n h
              subst h1
              exact un1_one hx0 (hr _ _ hw0) h2
            · exact z4x hr hus hy t v h
          · cases hu
        · cases hu
      · cases hl
    · cases hl
theorem z6u {m : Nat} {ts : List Ty} {ds : List Nat} {C : q13 (TysI ts)} {E : EqBy} (hC : q2q M C) (hE : EqOk M.P E) (hmx : M.P.follows .mixedOrders = true) : CutOk (α := α) M m (rpCut M q1g ts ds C E) := by
  intro ops draw S k r h
  unfold rpCut q1g at h
  cases hc : cutIn M ts ds C E ops draw S with
  | none => rw [hc] at h; cases h
  | some x =>
    rw [hc] at h
    refine ⟨_, h, fun id => ?_⟩
    have fin : ∀ S' rs, (bif rs.all (fun r => r.puts.isEmpty) then (match looks S'.env ds with | some vs => z6s ts vs | none => none) else none) = some x → q8b M m (.region id ops draw) S .normal S' → Past S S' ops rs → q8b M m (.region id ops draw) S .normal (cutBack ts ds ops S x) := by
      intro S' rs hk hl hp
      obtain ⟨hputs, hk2⟩ := q00 hk
      clear hk
      split at hk2
      · rename_i vs hvs
        obtain ⟨xs, hch, hops, rfl⟩ := hp
        have hh : S'.fs.h = S.fs.h := z6e hch fun y hy => by
          have := List.all_eq_true.1 hputs y.note (List.mem_map.2 ⟨y, hy, rfl⟩)
          simpa using this
        refine ⟨rfl, fun E σ Z a w Q hEm hr hQ => hl.2 E σ Z a w Q hEm hr fun σ' Z' a' w' hr' => hQ σ' Z' a' w' ?_⟩
        rw [hl.1] at hr'
        refine ⟨fun t v hv => ?_, hr'.size, hr'.defers, fun G he hG => hr'.heap G he (by rw [hh]; exact hG), fun G hG => hr'.fresh G (by rw [hh]; exact hG), hr'.inv, hr'.frm⟩
        rcases z4y (show look (z2v ts ds x ++ z0s ops.toList S.env) t = some v from hv) with hv | hv
        · exact z4x (fun t v hv => hr'.env t v hv) hvs hk2 t v hv
        · obtain ⟨h1, h2⟩ := z3q hv
          refine hr'.env t v ?_
          rw [z82 h1 hch fun y hy => by rw [← hops]; exact List.mem_map.2 ⟨y, hy, rfl⟩]
          exact h2
      · cases hk2
    unfold cutIn at hc
    cases draw with
    | true =>
      obtain ⟨S', rs, h1, h2, h3⟩ := z2h (m := m) (id := id) hC hE hmx (k := fun S' rs => bif rs.all (fun r => r.puts.isEmpty) then (match looks S'.env ds with | some vs => z6s ts vs | none => none) else none) hc
      exact fin S' rs h1 h2 h3
    | false =>
      obtain ⟨S', rs, h1, h2, h3⟩ := z3n (m := m) (id := id) hC hE (k := fun S' rs => bif rs.all (fun r => r.puts.isEmpty) then (match looks S'.env ds with | some vs => z6s ts vs | none => none) else none) hc
      exact fin S' rs h1 h2 h3
def j25 (id : Nat) (ct : Array Oper → Bool → St → (St → Option α) → Option α) (rest : q79 α) : q79 α := fun j => bif Nat.beq j id then some ct else rest j
theorem z3g {m id : Nat} {ct : Array Oper → Bool → St → (St → Option α) → Option α} {rest : q79 α} (h : CutOk M m ct) (hr : q7g M m rest) : q7g M m (j25 id ct rest) := by
  intro j c hc
  unfold j25 at hc
  cases hj : Nat.beq j id with
  | true => rw [hj] at hc; cases hc; exact h
  | false => rw [hj] at hc; exact hr j c hc
theorem j30 {A B D : Type} {o : Option A} {f : A → Option B} {g : B → Option D} : (q1g o f).bind g = q1g o fun x => (f x).bind g := by cases o <;> rfl
theorem el : (∀ {A B D : Type} {o : Option A} {f : A → Option B} {g : B → Option D}, (q1g o f).bind g = q1g o fun x => (f x).bind g) ∧ (∀ {A B : Type} {c : Bool} {x y : Option A} {f : A → Option B}, (bif c then x else y).bind f = bif c then x.bind f else y.bind f) ∧
    (∀ {A B D : Type} {o : Option A} {f : A → Option B} {g : B → Option D}, (o.bind f).bind g = o.bind fun x => (f x).bind g) ∧ (∀ {A B : Type} {a : A} {f : A → Option B}, (some a).bind f = f a) ∧ (∀ {A B : Type} {f : A → Option B}, (none : Option A).bind f = none) ∧
    (∀ {A A' B D : Type} {f : A → Option B} {g : A' → Option B} {y : A ⊕ A'} {h : B → Option D}, (Sum.elim f g y).bind h = Sum.elim (fun a => (f a).bind h) (fun b => (g b).bind h) y) ∧
    (∀ {A B D : Type} {y : Option A} {f : Option B} {g : A → Option B} {h : B → Option D}, (Option.elim y f g).bind h = Option.elim y (f.bind h) (fun a => (g a).bind h)) :=
  ⟨j30, @fun _ _ c _ _ _ => by cases c <;> rfl, @fun _ _ _ o _ _ => by cases o <;> rfl, rfl, rfl, @fun _ _ _ _ _ _ y _ => by cases y <;> rfl, @fun _ _ _ y _ _ _ => by cases y <;> rfl⟩
def z2s (f : Func) : Code := match f.body with
  | some c => c
  | none => .skip
theorem q0b {A B : Type} {a : A} {f : A → Option B} : (some a).bind f = f a := rfl
theorem q7a {A B : Type} {c : Bool} {x y : Option A} {f : A → Option B} : (bif c then x else y).bind f = bif c then x.bind f else y.bind f := by cases c <;> rfl
theorem q0a {A R B : Type} {F : A → Option R} {cv : A → R → B} {x : A} : q2u F cv x = (F x).bind fun r => some (cv x r) := rfl
theorem lb {a b : Nat} (h : Nat.ble a b = true) : a ≤ b := Nat.le_of_ble_eq_true h
structure En (M : Cfg) where
  n : FuncId
  g : Sig
  R : Type
  F : g.In → Option R
  cv : g.In → R → g.Ou
  ok : g.ok = true
  fn : Func
  hf : M.P.funcs[n]? = some fn
  hname : (fn.name == "runtime.NumGoroutine") = false
  hb : fn.body.isSome = true
  rets : ∀ x y, q2u F cv x = some y → Rets M n g x y
def callsE : List (En M) → q13 α
  | [] => q44
  | e :: r => z5v e.n e.g e.F e.cv (callsE r)
theorem z08 : ∀ {l : List (En M)}, q2q M (callsE (α := α) l)
  | [] => q5v
  | e :: _ => z4r z08 e.ok e.hf e.hname e.hb e.rets
def z8n (alt : List Nat) : List (En M) → q13 α
  | [] => q44
  | e :: r => bif hasB alt e.n then entryO e.n e.g e.F e.cv (z8n alt r) else z5v e.n e.g e.F e.cv (z8n alt r)
theorem z4p {alt : List Nat} : ∀ {l : List (En M)}, q2q M (z8n (α := α) alt l)
  | [] => q5v
  | e :: r => by
    unfold z8n
    cases hasB alt e.n with
    | true => exact entryO_ok z4p e.ok e.hf e.hname e.hb e.rets
    | false => exact z4r z4p e.ok e.hf e.hname e.hb e.rets
theorem lpX_okS {C : q13 xsh.I} {LP : q48 xsh.I} {RF : q4s} {CP : q79 xsh.I} {F : Nat → hsh.I → Option R} {cv : hsh.I → R → xsh.I} {q : Nat} (hC : q2q M C) (hmx : M.P.follows .mixedOrders = true) (hR : q6y M m RF) (hCP : q7g M m CP) (hL : q4x M m LP (q2d c)) (hm : m ≤ hsh.hs.length) (hx : m ≤ xsh.hs.length)
    (h0 : ∀ x, F 0 x = none) (hs : ∀ k x, exec M C (eqBy M.P) LP RF CP L c (Kl m hsh (q2u (F k) cv) (backX m n j xsh)) (hsh.enc n x) = q2u (F (k + 1)) cv x) : z2g (α := α) M m c (lpX m n j hsh xsh (F q) cv) :=
  lpX_ok hm (j0v hC (q6q _) hmx hR hCP hL hm hx h0 hs q)
theorem lpXRD_okS {C : q13 (xsh.I ⊕ rsh.I)} {LP : q48 (xsh.I ⊕ rsh.I)} {RF : q4s} {CP : q79 (xsh.I ⊕ rsh.I)} {F : Nat → hsh.I → Option (R ⊕ R')} {cv : hsh.I → R → xsh.I} {cv' : hsh.I → R' → rsh.I} {q : Nat} (hC : q2q M C) (hmx : M.P.follows .mixedOrders = true) (hR : q6y M m RF) (hCP : q7g M m CP) (hL : q4x M m LP (q2d c)) (hm : m ≤ hsh.hs.length) (hx : m ≤ xsh.hs.length) (hx' : m ≤ rsh.hs.length)
    (h0 : ∀ x, F 0 x = none) (hs : ∀ k x, exec M C (eqBy M.P) LP RF CP L c (Kl m hsh (q2u (F k) (smap cv cv')) (z52 m j xsh rsh)) (hsh.enc n x) = q2u (F (k + 1)) (smap cv cv') x) : z2g (α := α) M m c (lpXRD m n j hsh xsh rsh (F q) cv cv') :=
  lpXRD_ok hm (z77 hC (q6q _) hmx hR hCP hL hm hx hx' h0 hs q)
theorem z6n {g : Sig} {R : Type} {F : g.In → Option R} {cv : g.In → R → g.Ou} {C : q13 g.Ou} {LP : q48 g.Ou} {RF : q4s} {CP : q79 g.Ou} {f : FuncId} {fn : Func} (hC : q2q M C) (hmx : M.P.follows .mixedOrders = true) (hR : q6y M g.ihs.length RF) (hCP : q7g M g.ihs.length CP) (hL : q4x M g.ihs.length LP (q2d (z2s fn))) (hm : g.ihs.length ≤ g.ohs.length)
    (hf : M.P.funcs[f]? = some fn) (hb : fn.body = some (z2s fn)) (heq : ∀ x, runF M g C (eqBy M.P) LP RF CP 20 fn (z2s fn) x = q2u F cv x) : ∀ x y, q2u F cv x = some y → Rets M f g x y := fun x y h =>
  runF_rets hC (q6q _) hmx hR hCP hL hm hf hb ((heq x).trans h)
end Go.Proofs.YtdjkdmjdcdljmaaGreatDoorY
namespace Go.Proofs.YtdjkdmjdcdljmaaGreatDoorY
open Go.RowKit
variable {M : Cfg} {α : Type}
theorem j2g {g : Sig} {fn : Func} {ex : Ex} {S' : St} {y : g.Ou} {σ σ' : Num} {Z Z' : Zone} {w w' : World} {a' : Act} (hm : g.ihs.length ≤ g.ohs.length) (hk : endK M fn g.ihs.length g.osh g.ohs ex S' = some y)
    (hr : Rel M ⟨σ, Z, w, g.ihs.length⟩ S'.fs S'.n σ' Z' a' w') : (ex = .normal ∨ ex = .ret) ∧ a'.defers = [] ∧ ∃ v, (results fn a'.tmps).run M.P w' = .ok v w' ∧ RetK M g σ Z w y (.returned v) w' := by
  unfold endK at hk
  have fin : ∀ us, z35 M S' fn.results.toList = some us → fitY g.osh g.ohs g.ihs.length us S'.heap = some y → a'.defers = [] ∧ ∃ v, (results fn a'.tmps).run M.P w' = .ok v w' ∧ RetK M g σ Z w y (.returned v) w' := by
    intro us hus hk
    rw [fitY_eq] at hk
    split at hk
    · rename_i y' W hfit
      cases hk
      obtain ⟨_, g1⟩ := z3d (M := M) hfit hm
      obtain ⟨vs', h3, h4⟩ := q9g hr hus
      obtain ⟨k1, k2, k3, k4⟩ := g1 σ' Z' w' vs' hr.inv (fun G he _ hG => hr.heap G he hG) h3
      exact ⟨hr.defers, z0c vs', z6b h4, vs', _, _, rfl, k1, k2, k3, k4.inv, hr.frm.fit k4⟩
    · cases hk
  cases ex with
  | exit id => cases hk
  | normal =>
    simp only at hk
    split at hk
    · rename_i us hus; exact ⟨.inl rfl, fin us hus hk⟩
    · cases hk
  | ret =>
    simp only at hk
    split at hk
    · rename_i us hus; exact ⟨.inr rfl, fin us hus hk⟩
    · cases hk
def keepK : Kn St := fun ex S => match ex with
  | .normal => some S
  | _ => none
def nilS : V := .lf (.slice none 0 0)
def j0d (n : Nat) (T : Ty) (xs : List T.I) (b : Bool) : St := { env := [(4, .lf (.bool b)), (3, .deep T xs), (2, nilS), (0, .deep T xs)], heap := [], n := n }
theorem q6x {g : Sig} {T : Ty} {t e t' ty1 ty2 : TypeId} {p1 p2 : String} {id n L : Nat} {a1 a2 : Array Edge} {f : FuncId} {fn : Func} {c0 X D : Code} {G : List T.I → Option g.Ou} {x : List T.I} {y : g.Ou} {args0 : g.ish.I}
    (hmx : M.P.follows .mixedOrders = true) (hf : M.P.funcs[f]? = some fn) (hb : fn.body = some (.seq c0 (.seq (.seq (.region id #[⟨some 3, .move (.tmp 0), ty1, p1, a1, none⟩, ⟨some 4, .binOp .eql t (.tmp 3) (.const (.slice none 0 0)) t', ty2, p2, a2, none⟩] false) X) D)))
    (hu : M.P.underlying t = some (.slice e)) (hish : g.ish.enc args0 = [.deep T x]) (hihs : g.ihs = []) (hn : 1 + (fn.ntmps - 1) = n) (hn5 : 5 ≤ n) (hlX : q2d X = []) (hlD : q2d D = []) (hl0 : q2d c0 = [])
    (h0 : exec M q44 (eqBy M.P) q4r q42 q67 L c0 keepK ⟨[(0, .deep T x)], [], n⟩ = some ⟨[(2, nilS), (0, .deep T x)], [], n⟩)
    (h1 : exec (α := g.Ou) M q44 (eqBy M.P) q4r q42 q67 L (.seq X D) (endK M fn 0 g.osh g.ohs) (j0d n T x false) = G x)
    (h2 : exec (α := g.Ou) M q44 (eqBy M.P) q4r q42 q67 L (.seq X D) (endK M fn 0 g.osh g.ohs) (j0d n T [] true) = G [])
    (h : G x = some y) (z : HsI g.ihs) : Rets M f g (args0, z) y := by
  intro σ Z w args hinv hargs hheap hfresh
  refine calls_of_wp hf hb ?_
  simp only [hish] at hargs
  have hlen := hargs.length
  obtain ⟨v, hvs⟩ : ∃ v, args = [v] := by
    match args, hlen with
    | [v], _ => exact ⟨v, rfl⟩
  subst hvs
  have hv : RV M σ Z w (.deep T x) v := RVs.one.1 hargs
  have hinit : Rel M ⟨σ, Z, w, 0⟩ (St.fs ⟨[(0, .deep T x)], [], n⟩) n σ Z { tmps := #[v] ++ Array.replicate (fn.ntmps - 1) undef, defers := [] } w := by
    refine ⟨fun t u hu => ?_, by simp [hn], rfl, fun G he hG => by simp [St.fs] at hG, fun F hF k => hfresh F (by rw [hihs]; simp) k, hinv, Frm.start σ Z w _⟩
    simp only [St.fs, look] at hu
    cases ht : Nat.beq 0 t with
    | true =>
      have := Nat.eq_of_beq_eq_true ht
      subst this
      rw [ht] at hu
      cases hu
      have : Act.eval { tmps := #[v] ++ Array.replicate (fn.ntmps - 1) undef, defers := [] } (.tmp 0) = v := by
        simp only [Act.eval, Array.getD_eq_getD_getElem?]
        rw [Array.getElem?_append_left (by simp)]
        rfl
      rw [this]
      exact hv
    | false => rw [ht] at hu; cases hu
  obtain ⟨ex, S1, k1, k2, k3⟩ := q5x (α := St) (C := q44) (E := eqBy M.P) (LP := q4r) (RF := q42) (CP := q67) (L := L) (m := 0) q5v (q6q _) hmx q5s q65 c0 q5u h0
  have hex : ex = .normal ∧ S1 = ⟨[(2, nilS), (0, .deep T x)], [], n⟩ := by
    unfold keepK at k1
    cases ex <;> first | (cases k1; exact ⟨rfl, rfl⟩) | cases k1
  obtain ⟨rfl, rfl⟩ := hex
  have post : ∀ (ex : Ex) (S' : St) (σ' : Num) (Z' : Zone) (a' : Act) (w' : World), endK M fn 0 g.osh g.ohs ex S' = some y → Rel M ⟨σ, Z, w, 0⟩ S'.fs S'.n σ' Z' a' w' → bodyPost M.P fn (RetK M g σ Z w y) ex.out a' w' := by
    intro ex S' σ' Z' a' w' hk hr
    have hl0 : g.ihs.length = 0 := by rw [hihs]; rfl
    obtain ⟨q1, q2⟩ := j2g (M := M) (g := g) (fn := fn) (by rw [hl0]; exact Nat.zero_le _) (by rw [hl0]; exact hk) (by rw [hl0]; exact hr)
    rcases q1 with rfl | rfl
    · exact q2
    · exact q2
  have body : ∀ (S2 : St) (σ1 : Num) (Z1 : Zone) (a1 : Act) (w1 : World), Rel M ⟨σ, Z, w, 0⟩ S2.fs S2.n σ1 Z1 a1 w1 → exec (α := g.Ou) M q44 (eqBy M.P) q4r q42 q67 L (.seq X D) (endK M fn 0 g.osh g.ohs) S2 = some y →
      X.wp M.P (Exit.then (D.wp M.P (bodyPost M.P fn (RetK M g σ Z w y))) (bodyPost M.P fn (RetK M g σ Z w y))) a1 w1 := by
    intro S2 σ1 Z1 a1 w1 hr hx
    simp only [exec] at hx
    obtain ⟨ex, S3, q1, q2, q3⟩ := q5x (C := q44) (E := eqBy M.P) (LP := q4r) (RF := q42) (CP := q67) (L := L) (m := 0) q5v (q6q _) hmx q5s q65 X q5u hx
    refine q3 ⟨σ, Z, w, 0⟩ σ1 Z1 a1 w1 _ rfl hr fun σ' Z' a' w' hr' => ?_
    cases ex with
    | normal =>
      obtain ⟨ex2, S4, r1, r2, r3⟩ := q5x (C := q44) (E := eqBy M.P) (LP := q4r) (RF := q42) (CP := q67) (L := L) (m := 0) q5v (q6q _) hmx q5s q65 D q5u q1
      exact r3 ⟨σ, Z, w, 0⟩ σ' Z' a' w' _ rfl hr' fun σ'' Z'' a'' w'' hr'' => post ex2 S4 σ'' Z'' a'' w'' r1 hr''
    | exit id => exact post (.exit id) S3 σ' Z' a' w' q1 hr'
    | ret => exact post .ret S3 σ' Z' a' w' q1 hr'
  refine wp_seq (k3 ⟨σ, Z, w, 0⟩ σ Z _ w _ rfl hinit fun σ' Z' a' w' hr' => ?_)
  refine wp_seq (wp_seq (wp_region ?_))
  have ht0 := hr'.env 0 (.deep T x) rfl
  obtain ⟨ad, cap, e0, -, e2⟩ := z1p ht0
  have hz : n = a'.tmps.size := hr'.size.symm
  show wpOps M.P _ _ [0, 1] a' w'
  simp only [wpOps_cons]
  refine .inl ?_
  have s1 := hr'.step (o := ⟨some 3, .move (.tmp 0), ty1, p1, a1, none⟩) (out := { v := .deep T x }) (fun d e => by cases e; exact Nat.lt_of_lt_of_le (by decide) hn5) ht0 (q4a.still hr'.inv)
  refine q3a (v := a'.eval (.tmp 0)) (w' := w') (by simp [execOp]) ?_
  refine .inl ?_
  have e3 : (a'.put (some 3) (a'.eval (.tmp 0))).eval (.tmp 3) = a'.eval (.tmp 0) := by rw [ev_put, if_pos ⟨rfl, by omega⟩]
  have s2 := s1.step (o := ⟨some 4, .binOp .eql t (.tmp 3) (.const (.slice none 0 0)) t', ty2, p2, a2, none⟩) (out := { v := .lf (.bool ad.isNone) }) (fun d e => by cases e; exact Nat.lt_of_lt_of_le (by decide) hn5) (v' := .bool ad.isNone) (q9l rfl) (q4a.still s1.inv)
  refine q3a (v := .bool ad.isNone) (w' := w') ?_ ?_
  · have e3' : (a'.put (some 3) (a'.eval (.tmp 0))).eval (.tmp 3) = .slice ad x.length cap := by rw [e3, e0]
    have := Go.Lib.run_eql_slice_nil (P := M.P) w' t e ad x.length cap 0 0 hu
    have key : ∀ ev : Operand → Value, ev (.tmp 3) = .slice ad x.length cap → ev (.const (.slice none 0 0)) = .slice none 0 0 →
        (execOp ev ⟨some 4, .binOp .eql t (.tmp 3) (.const (.slice none 0 0)) t', ty2, p2, a2, none⟩).run M.P w' = .ok (.value (.bool ad.isNone)) w' := by
      intro ev h1 h2
      simp only [execOp, h1, h2]
      simp [this, eqGuard]
    exact key _ e3' rfl
  · have fin : Rel M ⟨σ, Z, w, 0⟩ (j0d n T x ad.isNone).fs n σ' Z' ((a'.put (some 3) (a'.eval (.tmp 0))).put (some 4) (.bool ad.isNone)) w' := by
      refine ⟨fun u v' hu => s2.env u v' ?_, s2.size, s2.defers, fun G he hG => by simp [St.fs, j0d] at hG, fun F hF k => hr'.fresh F (by simp [St.fs]) k, s2.inv, s2.frm⟩
      simp only [j0d, St.fs, look] at hu
      simp only [Fs.put, St.fs, look, Option.some.injEq]
      by_cases e4 : 4 = u
      · subst e4
        simpa using hu
      · have e4' : Nat.beq 4 u = false := by cases hb : Nat.beq 4 u with
          | false => rfl
          | true => exact absurd (Nat.eq_of_beq_eq_true hb) e4
        rw [e4'] at hu
        rw [if_neg e4]
        by_cases e3 : 3 = u
        · subst e3
          simpa using hu
        · have e3' : Nat.beq 3 u = false := by cases hb : Nat.beq 3 u with
            | false => rfl
            | true => exact absurd (Nat.eq_of_beq_eq_true hb) e3
          rw [e3'] at hu
          rw [if_neg e3]
          exact hu
    cases ad with
    | some _ =>
      simp only [wpOps, Exit.then]
      exact body (j0d n T x false) σ' Z' _ w' fin (by rw [h1]; exact h)
    | none =>
      have hx0 : x = [] := by
        rcases e2 with e2 | ⟨b, off, cs, el, fr, pre, post, rows, q, _⟩
        · exact e2
        · cases q
      subst hx0
      simp only [wpOps, Exit.then]
      exact body (j0d n T [] true) σ' Z' _ w' fin (by rw [h2]; exact h)
def z2q (n : Nat) (e : TypeId) (T : Ty) (xs : List T.I) (b : Bool) : St := { env := [(4, .lf (.bool b)), (3, .own (0, 0)), (2, nilS), (0, .own (0, 0))], heap := [.list e T [] xs], n := n }
theorem j0j {g : Sig} {T : Ty} {t e t' ty1 ty2 : TypeId} {p1 p2 : String} {id n L : Nat} {a1 a2 : Array Edge} {f : FuncId} {fn : Func} {c0 X D : Code} {G : List T.I → Option g.Ou} {x : List T.I} {y : g.Ou} {args0 : g.ish.I} {z : HsI g.ihs}
    (hmx : M.P.follows .mixedOrders = true) (hf : M.P.funcs[f]? = some fn) (hb : fn.body = some (.seq c0 (.seq (.seq (.region id #[⟨some 3, .move (.tmp 0), ty1, p1, a1, none⟩, ⟨some 4, .binOp .eql t (.tmp 3) (.const (.slice none 0 0)) t', ty2, p2, a2, none⟩] false) X) D)))
    (hu : M.P.underlying t = some (.slice e)) (hish : g.ish.enc args0 = [.own (0, 0)]) (hihs : g.ihs = [.list e T []]) (hz : encH g.ihs z = [.list e T [] x]) (hT : T.size ≠ 0) (ho : 1 ≤ g.ohs.length) (hn : 1 + (fn.ntmps - 1) = n) (hn5 : 5 ≤ n) (hlX : q2d X = []) (hlD : q2d D = []) (hl0 : q2d c0 = [])
    (h0 : exec M q44 (eqBy M.P) q4r q42 q67 L c0 keepK ⟨[(0, .own (0, 0))], [.list e T [] x], n⟩ = some ⟨[(2, nilS), (0, .own (0, 0))], [.list e T [] x], n⟩)
    (h1 : exec (α := g.Ou) M q44 (eqBy M.P) q4r q42 q67 L (.seq X D) (endK M fn 1 g.osh g.ohs) (z2q n e T x false) = G x)
    (h2 : exec (α := g.Ou) M q44 (eqBy M.P) q4r q42 q67 L (.seq X D) (endK M fn 1 g.osh g.ohs) (z2q n e T [] true) = G [])
    (h : G x = some y) : Rets M f g (args0, z) y := by
  intro σ Z w args hinv hargs hheap hfresh
  refine calls_of_wp hf hb ?_
  simp only [hish] at hargs
  have hlen := hargs.length
  obtain ⟨v, hvs⟩ : ∃ v, args = [v] := by
    match args, hlen with
    | [v], _ => exact ⟨v, rfl⟩
  subst hvs
  have hv : RV M σ Z w (.own (0, 0)) v := RVs.one.1 hargs
  have hinit : Rel M ⟨σ, Z, w, 1⟩ (St.fs ⟨[(0, .own (0, 0))], [.list e T [] x], n⟩) n σ Z { tmps := #[v] ++ Array.replicate (fn.ntmps - 1) undef, defers := [] } w := by
    refine ⟨fun t u hu => ?_, by simp [hn], rfl, fun G he hG => hheap G he (by rw [hz]; exact hG), fun F hF k => hfresh F (by rw [hihs]; have h2 : ([HE.list e T [] x] : List HE)[F]? = none := hF; rw [List.getElem?_eq_none_iff] at h2; exact h2) k, hinv, Frm.start σ Z w _⟩
    simp only [St.fs, look] at hu
    cases ht : Nat.beq 0 t with
    | true =>
      have := Nat.eq_of_beq_eq_true ht
      subst this
      rw [ht] at hu
      cases hu
      have : Act.eval { tmps := #[v] ++ Array.replicate (fn.ntmps - 1) undef, defers := [] } (.tmp 0) = v := by
        simp only [Act.eval, Array.getD_eq_getD_getElem?]
        rw [Array.getElem?_append_left (by simp)]
        rfl
      rw [this]
      exact hv
    | false => rw [ht] at hu; cases hu
  obtain ⟨ex, S1, k1, k2, k3⟩ := q5x (α := St) (C := q44) (E := eqBy M.P) (LP := q4r) (RF := q42) (CP := q67) (L := L) (m := 1) q5v (q6q _) hmx q5s q65 c0 q5u h0
  have hex : ex = .normal ∧ S1 = ⟨[(2, nilS), (0, .own (0, 0))], [.list e T [] x], n⟩ := by
    unfold keepK at k1
    cases ex <;> first | (cases k1; exact ⟨rfl, rfl⟩) | cases k1
  obtain ⟨rfl, rfl⟩ := hex
  have post : ∀ (ex : Ex) (S' : St) (σ' : Num) (Z' : Zone) (a' : Act) (w' : World), endK M fn 1 g.osh g.ohs ex S' = some y → Rel M ⟨σ, Z, w, 1⟩ S'.fs S'.n σ' Z' a' w' → bodyPost M.P fn (RetK M g σ Z w y) ex.out a' w' := by
    intro ex S' σ' Z' a' w' hk hr
    have hl0 : g.ihs.length = 1 := by rw [hihs]; rfl
    obtain ⟨q1, q2⟩ := j2g (M := M) (g := g) (fn := fn) (by rw [hl0]; exact ho) (by rw [hl0]; exact hk) (by rw [hl0]; exact hr)
    rcases q1 with rfl | rfl
    · exact q2
    · exact q2
  have body : ∀ (S2 : St) (σ1 : Num) (Z1 : Zone) (a1 : Act) (w1 : World), Rel M ⟨σ, Z, w, 1⟩ S2.fs S2.n σ1 Z1 a1 w1 → exec (α := g.Ou) M q44 (eqBy M.P) q4r q42 q67 L (.seq X D) (endK M fn 1 g.osh g.ohs) S2 = some y →
      X.wp M.P (Exit.then (D.wp M.P (bodyPost M.P fn (RetK M g σ Z w y))) (bodyPost M.P fn (RetK M g σ Z w y))) a1 w1 := by
    intro S2 σ1 Z1 a1 w1 hr hx
    simp only [exec] at hx
    obtain ⟨ex, S3, q1, q2, q3⟩ := q5x (C := q44) (E := eqBy M.P) (LP := q4r) (RF := q42) (CP := q67) (L := L) (m := 1) q5v (q6q _) hmx q5s q65 X q5u hx
    refine q3 ⟨σ, Z, w, 1⟩ σ1 Z1 a1 w1 _ rfl hr fun σ' Z' a' w' hr' => ?_
    cases ex with
    | normal =>
      obtain ⟨ex2, S4, r1, r2, r3⟩ := q5x (C := q44) (E := eqBy M.P) (LP := q4r) (RF := q42) (CP := q67) (L := L) (m := 1) q5v (q6q _) hmx q5s q65 D q5u q1
      exact r3 ⟨σ, Z, w, 1⟩ σ' Z' a' w' _ rfl hr' fun σ'' Z'' a'' w'' hr'' => post ex2 S4 σ'' Z'' a'' w'' r1 hr''
    | exit id => exact post (.exit id) S3 σ' Z' a' w' q1 hr'
    | ret => exact post .ret S3 σ' Z' a' w' q1 hr'
  refine wp_seq (k3 ⟨σ, Z, w, 1⟩ σ Z _ w _ rfl hinit fun σ' Z' a' w' hr' => ?_)
  refine wp_seq (wp_seq (wp_region ?_))
  have ht0 := hr'.env 0 (.own (0, 0)) rfl
  have hH := hr'.heap 0 (.list e T [] x) rfl
  obtain ⟨ad, cap, e0, e2⟩ : ∃ ad cap, a'.eval (.tmp 0) = .slice ad x.length cap ∧ (ad = none → x = []) := by
    obtain ⟨_, rows, q1, s, q2, q3, q4, q5⟩ := hH
    simp only [RV, q2] at ht0
    rw [ht0.1]
    rcases q5 with ⟨_, h0, _, a, ha⟩ | ⟨r, rest, _, _, h3⟩
    · rw [ha]; exact ⟨a, 0, by rw [h0], fun _ => List.length_eq_zero_iff.1 h0⟩
    · obtain ⟨_, _, h4⟩ := h3 hT
      exact ⟨_, _, h4, fun h => by cases h⟩
  have hz : n = a'.tmps.size := hr'.size.symm
  show wpOps M.P _ _ [0, 1] a' w'
  simp only [wpOps_cons]
  refine .inl ?_
  have s1 := hr'.step (o := ⟨some 3, .move (.tmp 0), ty1, p1, a1, none⟩) (out := { v := .own (0, 0) }) (fun d e => by cases e; exact Nat.lt_of_lt_of_le (by decide) hn5) ht0 (q4a.still hr'.inv)
  refine q3a (v := a'.eval (.tmp 0)) (w' := w') (by simp [execOp]) ?_
  refine .inl ?_
  have e3 : (a'.put (some 3) (a'.eval (.tmp 0))).eval (.tmp 3) = a'.eval (.tmp 0) := by rw [ev_put, if_pos ⟨rfl, by omega⟩]
  have s2 := s1.step (o := ⟨some 4, .binOp .eql t (.tmp 3) (.const (.slice none 0 0)) t', ty2, p2, a2, none⟩) (out := { v := .lf (.bool ad.isNone) }) (fun d e => by cases e; exact Nat.lt_of_lt_of_le (by decide) hn5) (v' := .bool ad.isNone) (q9l rfl) (q4a.still s1.inv)
  refine q3a (v := .bool ad.isNone) (w' := w') ?_ ?_
  · have e3' : (a'.put (some 3) (a'.eval (.tmp 0))).eval (.tmp 3) = .slice ad x.length cap := by rw [e3, e0]
    have := Go.Lib.run_eql_slice_nil (P := M.P) w' t e ad x.length cap 0 0 hu
    have key : ∀ ev : Operand → Value, ev (.tmp 3) = .slice ad x.length cap → ev (.const (.slice none 0 0)) = .slice none 0 0 →
        (execOp ev ⟨some 4, .binOp .eql t (.tmp 3) (.const (.slice none 0 0)) t', ty2, p2, a2, none⟩).run M.P w' = .ok (.value (.bool ad.isNone)) w' := by
      intro ev h1 h2
      simp only [execOp, h1, h2]
      simp [this, eqGuard]
    exact key _ e3' rfl
  · have fin : Rel M ⟨σ, Z, w, 1⟩ (z2q n e T x ad.isNone).fs n σ' Z' ((a'.put (some 3) (a'.eval (.tmp 0))).put (some 4) (.bool ad.isNone)) w' := by
      refine ⟨fun u v' hu => s2.env u v' ?_, s2.size, s2.defers, fun G he hG => s2.heap G he (by simpa [Fs.put, q89, St.fs, z2q] using hG), fun F hF k => s2.fresh F (by simpa [Fs.put, q89, St.fs, z2q] using hF) k, s2.inv, s2.frm⟩
      simp only [z2q, St.fs, look] at hu
      simp only [Fs.put, St.fs, look, Option.some.injEq]
      by_cases e4 : 4 = u
      · subst e4
        simpa using hu
      · have e4' : Nat.beq 4 u = false := by cases hb : Nat.beq 4 u with
          | false => rfl
          | true => exact absurd (Nat.eq_of_beq_eq_true hb) e4
        rw [e4'] at hu
        rw [if_neg e4]
        by_cases e3 : 3 = u
        · subst e3
          simpa using hu
        · have e3' : Nat.beq 3 u = false := by cases hb : Nat.beq 3 u with
            | false => rfl
            | true => exact absurd (Nat.eq_of_beq_eq_true hb) e3
          rw [e3'] at hu
          rw [if_neg e3]
          exact hu
    cases ad with
    | some _ =>
      simp only [wpOps, Exit.then]
      exact body (z2q n e T x false) σ' Z' _ w' fin (by rw [h1]; exact h)
    | none =>
      have hx0 : x = [] := e2 rfl
      subst hx0
      simp only [wpOps, Exit.then]
      exact body (z2q n e T [] true) σ' Z' _ w' fin (by rw [h2]; exact h)
end Go.Proofs.YtdjkdmjdcdljmaaGreatDoorY
namespace Go.Proofs.YtdjkdmjdcdljmaaGreatDoorY
open Go.RowKit
variable {M : Cfg} {α : Type}
def takeA (A : Nat) : List (Nat × HE) → Option (HE × List (Nat × HE))
  | [] => none
  | (F, he) :: r => bif Nat.beq F A then (bif hasB (fams r) A then none else some (he, (A, HE.dead) :: r)) else match takeA A r with
    | some (h, r') => some (h, (F, he) :: r')
    | none => none
theorem z59 {A : Nat} : ∀ {l l' : List (Nat × HE)} {he : HE}, takeA A l = some (he, l') → (A, he) ∈ l ∧ fams l' = fams l ∧ ∀ F h, (F, h) ∈ l' → (F = A ∧ h = .dead) ∨ (F ≠ A ∧ (F, h) ∈ l)
  | [], l', he, h => by cases h
  | (F, h0) :: r, l', he, h => by
    simp only [takeA] at h
    cases hF : Nat.beq F A with
    | true =>
      rw [hF] at h
      have e := Nat.eq_of_beq_eq_true hF
      subst e
      cases hb : hasB (fams r) F with
      | true => rw [hb] at h; cases h
      | false =>
        rw [hb] at h
        simp only [cond_true, cond_false, Option.some.injEq, Prod.mk.injEq] at h
        obtain ⟨rfl, rfl⟩ := h
        refine ⟨by simp, by simp [fams], fun F' h' hm => ?_⟩
        rcases List.mem_cons.1 hm with hm2 | hm2
        · cases hm2; exact .inl ⟨rfl, rfl⟩
        · refine .inr ⟨fun e => ?_, List.mem_cons_of_mem _ hm2⟩
          subst e
          have : hasB (fams r) F' = true := List.any_eq_true.2 ⟨F', List.mem_map.2 ⟨(F', h'), hm2, rfl⟩, Nat.beq_refl _⟩
          rw [hb] at this; cases this
    | false =>
      rw [hF] at h
      simp only [cond_false] at h
      split at h
      · rename_i h1 r' hr
        simp only [Option.some.injEq, Prod.mk.injEq] at h
        obtain ⟨rfl, rfl⟩ := h
        obtain ⟨q1, q2, q3⟩ := z59 hr
        refine ⟨List.mem_cons_of_mem _ q1, ?_, fun F' h' hm => ?_⟩
        · unfold fams at q2 ⊢; simp [q2]
        · rcases List.mem_cons.1 hm with hm | hm
          · cases hm
            exact .inr ⟨fun e => (by rw [e, Nat.beq_refl] at hF; cases hF), List.mem_cons_self⟩
          · rcases q3 F' h' hm with q | ⟨q, q'⟩
            · exact .inl q
            · exact .inr ⟨q, List.mem_cons_of_mem _ q'⟩
      · cases h
def heFree : HE → Bool
  | .dead => true
  | .list _ t fs _ => t.free && fs.isEmpty
  | .many _ t _ => t.free
  | _ => false
def adCell (A : Nat) (b : Bid) : V → Option V
  | .own c => bif Nat.beq c.1 A then (match c.2 with | 0 => some (.own b) | _ + 1 => none) else some (.own c)
  | .lf v => some (.lf v)
  | .err e => some (.err e)
  | .deep t xs => some (.deep t xs)
  | .pin t x => some (.pin t x)
  | _ => none
def z63 (A : Nat) (b : Bid) : List V → Option (List V)
  | [] => some []
  | v :: r => match adCell A b v with
    | some u => match z63 A b r with
      | some us => some (u :: us)
      | none => none
    | none => none
def adV (A : Nat) (b : Bid) : V → Option V
  | .agg cs => match z63 A b cs with
    | some us => some (.agg us)
    | none => none
  | _ => none
def adopt1 (H : List HE) (A G : Nat) (out : Out) : Option Out :=
  match takeA A out.chg with
  | some (.list e t fs xs, c) => match H[G]? with
    | some (.many e' t' ys) => match Ty.cast (F := List) t t' xs with
      | some zs => bif Nat.beq e e' && Nat.ble H.length A && t'.free && fs.isEmpty && !hasB (fams c) G && c.all (fun p => heFree p.2)
        then (match adV A (G, ys.length) out.v with
          | some v => some { v := v, chg := (G, .many e' t' (ys ++ [some zs])) :: c, rds := out.rds }
          | none => none) else none
      | none => none
    | _ => none
  | _ => none
theorem adCell_rv {σ σ' : Num} {Z : Zone} {w : World} {A : Nat} {b : Bid} (hb : σ' b.1 b.2 = σ A 0) (ho : ∀ F k, F ≠ A → (F, k) ≠ b → σ' F k = σ F k) (hf : σ b.1 b.2 = .fresh) {v u : V} {v' : Value} (h : adCell A b v = some u) (hv : RV M σ Z w v v') : RV M σ' Z w u v' ∧ u.one = v.one := by
  cases v with
  | own c =>
    simp only [adCell] at h
    cases hc : Nat.beq c.1 A with
    | true =>
      rw [hc] at h
      simp only [cond_true] at h
      have e1 := Nat.eq_of_beq_eq_true hc
      split at h
      · rename_i h0
        cases h
        refine ⟨?_, rfl⟩
        simp only [RV, e1, h0] at hv
        simp only [RV, hb]
        exact hv
      · cases h
    | false =>
      rw [hc] at h
      cases h
      refine ⟨?_, rfl⟩
      have hne : c.1 ≠ A := fun e => by rw [e, Nat.beq_refl] at hc; cases hc
      by_cases hcb : c = b
      · subst hcb
        simp only [RV, hf] at hv
      · have := ho c.1 c.2 hne hcb
        simp only [RV] at hv ⊢
        rw [this]
        exact hv
  | lf v => cases h; exact ⟨hv, rfl⟩
  | err e => cases h; exact ⟨hv, rfl⟩
  | deep t xs => cases h; exact ⟨hv, rfl⟩
  | pin t x => cases h; exact ⟨hv, rfl⟩
  | _ => cases h
theorem z5s {σ σ' : Num} {Z : Zone} {w : World} {A : Nat} {b : Bid} (hb : σ' b.1 b.2 = σ A 0) (ho : ∀ F k, F ≠ A → (F, k) ≠ b → σ' F k = σ F k) (hf : σ b.1 b.2 = .fresh) : ∀ {vs us : List V} {vs' : List Value}, z63 A b vs = some us → RVs M σ Z w vs vs' → RVs M σ' Z w us vs' ∧ us.all V.one = vs.all V.one
  | [], us, vs', h, hv => by cases h; exact ⟨hv, rfl⟩
  | v :: r, us, vs', h, hv => by
    simp only [z63] at h
    split at h
    · rename_i u hu
      split at h
      · rename_i us' hus
        cases h
        obtain ⟨v', m, rfl, h1, h2⟩ := hv.cons
        obtain ⟨q1, q2⟩ := adCell_rv hb ho hf hu h1
        obtain ⟨q3, q4⟩ := z5s hb ho hf hus h2
        exact ⟨by simp only [RVs]; exact ⟨_, _, rfl, q1, q3⟩, by simp only [List.all_cons, q2, q4]⟩
      · cases h
    · cases h
def adN (σ : Num) (A G n : Nat) : Num := fun F k => if F = A then .dead else if F = G ∧ k = n then σ A 0 else σ F k
theorem z27 {σ σ' : Num} {Z : Zone} {w : World} {t : Ty} (hf : t.free = true) {xs : List t.I} {rows : List (List Value)} (h : q3f M σ Z w t [] xs rows) : q3f M σ' Z w t [] xs rows :=
  All2.mono (fun x row _ hr => DV.rvs [] (RVs.dv [] hf hr)) h
theorem j1h {f : FuncId} {vs : List V} {H : List HE} {A G : Nat} {out out' : Out} (hg : q96 M f vs (fun G => H[G]?) out) (h : adopt1 H A G out = some out') : q96 M f vs (fun G => H[G]?) out' := by
  unfold adopt1 at h
  split at h
  · rename_i e t fs xs c hc
    obtain ⟨hA, hfam, hmem⟩ := z59 hc
    split at h
    · rename_i e' t' ys hG
      split at h
      · rename_i zs hzs
        obtain ⟨et, ex⟩ := Ty.q33 hzs
        subst et
        subst ex
        obtain ⟨hk, h2⟩ := q00 h
        clear h
        simp only [Bool.and_eq_true, Bool.not_eq_true'] at hk
        obtain ⟨⟨⟨⟨⟨k1, k2⟩, k3⟩, k4⟩, k5⟩, k6⟩ := hk
        have k1 := Nat.eq_of_beq_eq_true k1
        subst k1
        have k2 := Nat.le_of_ble_eq_true k2
        have k4 : fs = [] := by simpa using k4
        subst k4
        split at h2
        · rename_i v hv
          simp only [Option.some.injEq] at h2
          subst h2
          have hGc : G ∉ fams out.chg := fun hm => by
            have : hasB (fams c) G = true := List.any_eq_true.2 ⟨G, by rw [hfam]; exact hm, Nat.beq_refl _⟩
            rw [k5] at this; cases this
          have hGA : G ≠ A := fun e => by
            have := (List.getElem?_eq_some_iff.1 hG).1
            omega
          intro σ Z w args hinv hargs ht hn
          simp only [fams, List.map_cons, List.mem_cons] at ht hn
          have hfc : c.map (·.1) = fams out.chg := hfam
          rw [hfc] at ht hn
          have hGm := ht G (.inr (.inl rfl)) _ hG
          have hAf : A ∈ fams out.chg := List.mem_map.2 ⟨_, hA, rfl⟩
          have hfresh : ∀ k, σ A k = .fresh := hn A (.inr hAf) (List.getElem?_eq_none k2)
          refine (hg σ Z w args hinv hargs (fun G' h1 he h2 => ht G' (h1.imp id .inr) he h2) (fun G' h1 h2 => hn G' (.inr h1) h2)).mono fun e1 w1 hpost => ?_
          obtain ⟨v1, σ1, Z1, he, hrv, hm⟩ := hpost
          have hG1 : HER M σ1 Z1 w1 G (.many e t ys) := hm.keep hinv hGc hGm
          have hA1 : HER M σ1 Z1 w1 A (.list e t [] zs) := hm.her A _ hA
          have hf : σ1 G ys.length = .fresh := hG1.2 ys.length (Nat.le_refl _)
          have hf0 : σ G ys.length = .fresh := hGm.2 ys.length (Nat.le_refl _)
          have hb : adN σ1 A G ys.length G ys.length = σ1 A 0 := by unfold adN; rw [if_neg hGA, if_pos ⟨rfl, rfl⟩]
          have ho : ∀ F k, F ≠ A → (F, k) ≠ (G, ys.length) → adN σ1 A G ys.length F k = σ1 F k := fun F k h1 h2 => by
            unfold adN
            rw [if_neg h1, if_neg (fun e => h2 (by rw [e.1, e.2]))]
          have hreal : ∀ F k r, (adN σ1 A G ys.length).real F k r → (F = G ∧ k = ys.length ∧ σ1.real A 0 r) ∨ (F ≠ A ∧ ¬ (F = G ∧ k = ys.length) ∧ σ1.real F k r) := fun F k r ⟨s, h1, h2⟩ => by
            unfold adN at h1
            split at h1
            · cases h1
            · rename_i hFA
              split at h1
              · rename_i hFG; exact .inl ⟨hFG.1, hFG.2, s, h1, h2⟩
              · rename_i hFG; exact .inr ⟨hFA, hFG, s, h1, h2⟩
          refine ⟨v1, adN σ1 A G ys.length, Z1, he, ?_, ?_⟩
          · unfold adV at hv
            split at hv
            · rename_i cs hov
              split at hv
              · rename_i us hus
                cases hv
                rw [hov] at hrv
                simp only [RV] at hrv ⊢
                obtain ⟨cs', q1, q2, q3⟩ := hrv
                obtain ⟨q4, q5⟩ := z5s hb ho hf hus q3
                exact ⟨cs', q1, by rw [q5]; exact q2, q4⟩
              · cases hv
            · cases hv
          · have hsub : ∀ r, ownT σ (fams out.chg) r → ownT σ (fams ((G, HE.many e t (ys ++ [some zs])) :: c)) r := fun r ⟨F, hF, k, hr⟩ => ⟨F, by simp only [fams, List.map_cons, List.mem_cons]; rw [hfc]; exact .inr hF, k, hr⟩
            have hfam' : ∀ F, F ∈ fams ((G, HE.many e t (ys ++ [some zs])) :: c) ↔ F = G ∨ F ∈ fams out.chg := fun F => by simp only [fams, List.map_cons, List.mem_cons]; rw [hfc]; rfl
            refine ⟨hm.os, hm.tape, hm.output, hm.size, fun F k => ?_, fun F hF k => ?_, hm.zone, fun r hr => (hm.znew r hr).imp id (.imp (hsub r) id), fun r hr hno => hm.block r hr fun h => hno (hsub r h), fun F k r hF hr => ?_, ⟨fun F k F' k' r a b => ?_, fun r ⟨F, k, h⟩ => ?_, hm.inv.zlt, fun r ⟨F, k, h⟩ hz => ?_, hm.inv.glob⟩, fun F he' hF => ?_⟩
            · by_cases h1 : F = A
              · subst h1
                rw [hfresh]; exact .born _
              · by_cases h2 : (F, k) = (G, ys.length)
                · cases h2; rw [hf0]; exact .born _
                · rw [ho F k h1 h2]; exact hm.st F k
            · have hF' := fun h => hF ((hfam' F).2 h)
              have h1 : F ≠ A := fun e => hF' (.inr (e ▸ hAf))
              have h2 : F ≠ G := fun e => hF' (.inl e)
              rw [ho F k h1 fun e => h2 (by cases e; rfl)]
              exact hm.other F (fun h => hF' (.inr h)) k
            · rcases hreal F k r hr with ⟨_, _, h1⟩ | ⟨h1, h2, h3⟩
              · exact (hm.new A 0 r hAf h1).imp (hsub r) id
              · rcases (hfam' F).1 hF with rfl | h4
                · have : σ1 F k = σ F k := hm.other F hGc k
                  obtain ⟨s, q1, q2⟩ := h3
                  rw [this] at q1
                  exact .inl ⟨F, (hfam' F).2 (.inl rfl), k, s, q1, q2⟩
                · exact (hm.new F k r h4 h3).imp (hsub r) id
            · rcases hreal F k r a with ⟨a1, a2, a3⟩ | ⟨a1, a2, a3⟩ <;> rcases hreal F' k' r b with ⟨b1, b2, b3⟩ | ⟨b1, b2, b3⟩
              · exact ⟨a1.trans b1.symm, a2.trans b2.symm⟩
              · exact absurd (hm.inv.inj _ _ _ _ r a3 b3).1.symm b1
              · exact absurd (hm.inv.inj _ _ _ _ r a3 b3).1 a1
              · exact hm.inv.inj _ _ _ _ r a3 b3
            · rcases hreal F k r h with ⟨_, _, h1⟩ | ⟨_, _, h1⟩
              · exact hm.inv.lt r ⟨_, _, h1⟩
              · exact hm.inv.lt r ⟨_, _, h1⟩
            · rcases hreal F k r h with ⟨_, _, h1⟩ | ⟨_, _, h1⟩
              · exact hm.inv.off r ⟨_, _, h1⟩ hz
              · exact hm.inv.off r ⟨_, _, h1⟩ hz
            · rcases List.mem_cons.1 hF with hF | hF
              · cases hF
                obtain ⟨hA2, rows, q1, q2⟩ := hA1
                refine ⟨fun k zs' hk => ?_, fun k hk => ?_⟩
                · by_cases hkn : k < ys.length
                  · rw [List.getElem?_append_left hkn] at hk
                    obtain ⟨rows', r1, r2⟩ := hG1.1 k zs' hk
                    exact ⟨rows', z27 k3 r1, by rw [ho G k hGA (fun e => by cases e; omega)]; exact r2⟩
                  · rw [List.getElem?_append_right (by omega)] at hk
                    have hk0 : k = ys.length := by
                      have := (List.getElem?_eq_some_iff.1 hk).1
                      simp at this
                      omega
                    subst hk0
                    simp at hk
                    subst hk
                    exact ⟨rows, z27 k3 q1, by rw [hb]; exact q2⟩
                · rw [List.length_append] at hk
                  rw [ho G k hGA (fun e => by cases e; simp at hk; omega)]
                  exact hG1.2 k (by simp at hk; omega)
              · rcases hmem F he' hF with ⟨rfl, rfl⟩ | ⟨h1, h2⟩
                · exact fun k => by unfold adN; rw [if_pos rfl]
                · have hFG : F ≠ G := fun e => hGc (by subst e; exact List.mem_map.2 ⟨_, h2, rfl⟩)
                  have hh := hm.her F he' h2
                  have hsame : ∀ k, adN σ1 A G ys.length F k = σ1 F k := fun k => ho F k h1 fun e => hFG (by cases e; rfl)
                  have hfr := List.all_eq_true.1 k6 _ hF
                  cases he' with
                  | dead => exact fun k => by rw [hsame]; exact hh k
                  | cells _ _ _ => cases hfr
                  | list e2 t2 fs2 xs2 =>
                    simp only [heFree, Bool.and_eq_true, List.isEmpty_iff] at hfr
                    obtain ⟨f1, f2⟩ := hfr
                    subst f2
                    obtain ⟨g1, rows, g2, g3⟩ := hh
                    exact ⟨fun k => by rw [hsame]; exact g1 k, rows, z27 f1 g2, by rw [hsame]; exact g3⟩
                  | many e2 t2 xs2 =>
                    exact ⟨fun k zs hk => by
                      obtain ⟨rows, g2, g3⟩ := hh.1 k zs hk
                      exact ⟨rows, z27 hfr g2, by rw [hsame]; exact g3⟩, fun k hk => by rw [hsame]; exact hh.2 k hk⟩
        · cases h2
      · cases h
    · cases h
  · cases h
def z29 (H : List HE) : List (Nat × Nat) → Out → Option Out
  | [], out => some out
  | (i, G) :: r, out => match adopt1 H (H.length + i) G out with
    | some o => z29 H r o
    | none => none
theorem z05 {f : FuncId} {vs : List V} {H : List HE} : ∀ {tg : List (Nat × Nat)} {out out' : Out}, q96 M f vs (fun G => H[G]?) out → z29 H tg out = some out' → q96 M f vs (fun G => H[G]?) out'
  | [], out, out', hg, h => by cases h; exact hg
  | (i, G) :: r, out, out', hg, h => by
    simp only [z29] at h
    split at h
    · rename_i o ho
      exact z05 (j1h hg ho) h
    · cases h
def adoptC (n : FuncId) (tg : List (Nat × Nat)) (C : q13 α) : q13 α := fun f vs H k => bif Nat.beq f n
  then C f vs H (fun out => match z29 H tg out with | some o => k o | none => none) else C f vs H k
theorem adoptC_ok {n : FuncId} {tg : List (Nat × Nat)} {C : q13 α} (hC : q2q M C) : q2q M (adoptC n tg C) := by
  intro f vs H k r h
  unfold adoptC at h
  cases hn : Nat.beq f n with
  | false => rw [hn] at h; exact hC f vs H k r h
  | true =>
    rw [hn] at h
    obtain ⟨out, h1, h2, h3⟩ := hC f vs H _ r h
    split at h1
    · rename_i o ho
      exact ⟨o, h1, h2, z05 h3 ho⟩
    · cases h1
end Go.Proofs.YtdjkdmjdcdljmaaGreatDoorY
namespace Go.Proofs.YtdjkdmjdcdljmaaGreatDoorY
open Go.RowKit
variable {M : Cfg} {α : Type}
def reC (A : Nat) (b : Bid) : V → V
  | .own c => bif Nat.beq c.1 A && Nat.beq c.2 0 then .own b else .own c
  | v => v
def reV (A : Nat) (b : Bid) : V → V
  | .agg cs => .agg (cs.map (reC A b))
  | v => reC A b v
def reHE (A : Nat) (b : Bid) : HE → HE
  | .cells e row cs => .cells e row (cs.map (reC A b))
  | he => he
def adoptS (A G : Nat) (S : St) : Option St :=
  match S.heap[A]? with
  | some (.list e t fs xs) => match S.heap[G]? with
    | some (.many e' t' ys) => match Ty.cast (F := List) t t' xs with
      | some zs => bif Nat.beq e e' && !Nat.beq A G && fs.isEmpty
        then some { env := S.env.map fun p => (p.1, reV A (G, ys.length) p.2), heap := ((S.heap.map (reHE A (G, ys.length))).set A .dead).set G (.many e' t' (ys ++ [some zs])), n := S.n } else none
      | none => none
    | _ => none
  | _ => none
theorem reC_one (A : Nat) (b : Bid) (v : V) : (reC A b v).one = v.one := by
  cases v with
  | own c => simp only [reC]; cases Nat.beq c.1 A && Nat.beq c.2 0 <;> rfl
  | _ => rfl
theorem j14 {f : V → V} : ∀ {l : List (Nat × V)} {t : Nat} {u : V}, look (l.map fun p => (p.1, f p.2)) t = some u → ∃ v, look l t = some v ∧ u = f v
  | [], t, u, h => by simp [look] at h
  | (s, v) :: l, t, u, h => by
    simp only [List.map_cons, look] at h ⊢
    cases hb : Nat.beq s t with
    | true => rw [hb] at h; cases h; exact ⟨v, rfl, rfl⟩
    | false => rw [hb] at h; exact j14 h
theorem reC_rv {σ σ' : Num} {Z : Zone} {w : World} {A : Nat} {b : Bid} {s : Slot} (hle : Le σ Z w σ' Z w) (hA : σ A 0 = .alive s) (hb : σ' b.1 b.2 = .alive s) {v : V} {v' : Value} (h : RV M σ Z w v v') : RV M σ' Z w (reC A b v) v' := by
  cases v with
  | own c =>
    simp only [reC]
    cases hc : Nat.beq c.1 A && Nat.beq c.2 0 with
    | true =>
      simp only [Bool.and_eq_true] at hc
      have e1 := Nat.eq_of_beq_eq_true hc.1
      have e2 := Nat.eq_of_beq_eq_true hc.2
      simp only [cond_true]
      simp only [RV, e1, e2, hA] at h
      simp only [RV, hb]
      exact h
    | false => exact RV.mono hle h
  | _ => exact RV.mono hle h
theorem j1f {σ σ' : Num} {Z : Zone} {w : World} {A : Nat} {b : Bid} {s : Slot} (hle : Le σ Z w σ' Z w) (hA : σ A 0 = .alive s) (hb : σ' b.1 b.2 = .alive s) : ∀ {vs : List V} {us : List Value}, RVs M σ Z w vs us → RVs M σ' Z w (vs.map (reC A b)) us
  | [], us, h => by simpa [RVs] using h
  | v :: vs, us, h => by
    obtain ⟨v', m, rfl, h1, h2⟩ := h.cons
    simp only [List.map_cons, RVs]
    exact ⟨_, _, rfl, reC_rv hle hA hb h1, j1f hle hA hb h2⟩
theorem reC_all (A : Nat) (b : Bid) (cs : List V) : (cs.map (reC A b)).all V.one = cs.all V.one := by
  induction cs with
  | nil => rfl
  | cons v l ih => simp only [List.map_cons, List.all_cons, ih, reC_one]
theorem reV_rv {σ σ' : Num} {Z : Zone} {w : World} {A : Nat} {b : Bid} {s : Slot} (hle : Le σ Z w σ' Z w) (hA : σ A 0 = .alive s) (hb : σ' b.1 b.2 = .alive s) {v : V} {v' : Value} (h : RV M σ Z w v v') : RV M σ' Z w (reV A b v) v' := by
  cases v with
  | agg cs =>
    simp only [RV] at h
    obtain ⟨cs', h1, h2, h3⟩ := h
    simp only [reV, RV]
    exact ⟨cs', h1, by rw [reC_all]; exact h2, j1f hle hA hb h3⟩
  | _ => exact reC_rv hle hA hb h
theorem adoptS_ok {A G : Nat} {S S' : St} (h : adoptS A G S = some S') : S'.n = S.n ∧ ∀ (E : Ent) (σ : Num) (Z : Zone) (a : Act) (w : World), Rel M E S.fs S.n σ Z a w → ∃ σ' Z', Rel M E S'.fs S.n σ' Z' a w := by
  unfold adoptS at h
  split at h
  · rename_i e t fs xs hA
    split at h
    · rename_i e' t' ys hG
      split at h
      · rename_i zs hzs
        obtain ⟨et, ex⟩ := Ty.q33 hzs
        subst et
        subst ex
        obtain ⟨hk, h2⟩ := q00 h
        clear h
        simp only [Bool.and_eq_true, Bool.not_eq_true', List.isEmpty_iff] at hk
        obtain ⟨⟨k1, k2⟩, k3⟩ := hk
        have k1 := Nat.eq_of_beq_eq_true k1
        subst k1
        subst k3
        have hAG : A ≠ G := fun e => by rw [e, Nat.beq_refl] at k2; cases k2
        simp only [Option.some.injEq] at h2
        subst h2
        refine ⟨rfl, fun E σ Z a w hr => ?_⟩
        have hAr : HER M σ Z w A (.list e t [] zs) := hr.heap A _ hA
        have hGr : HER M σ Z w G (.many e t ys) := hr.heap G _ hG
        obtain ⟨hd, rows, g1, s, hs, g3, g4, g5⟩ := hAr
        have hf0 : σ G ys.length = .fresh := hGr.2 _ (Nat.le_refl _)
        have hb : adN σ A G ys.length G ys.length = .alive s := by unfold adN; rw [if_neg (Ne.symm hAG), if_pos ⟨rfl, rfl⟩]; exact hs
        have ho : ∀ F k, F ≠ A → ¬ (F = G ∧ k = ys.length) → adN σ A G ys.length F k = σ F k := fun F k h1 h2 => by
          unfold adN
          rw [if_neg h1, if_neg h2]
        have hle : Le σ Z w (adN σ A G ys.length) Z w := by
          refine ⟨fun F k => ?_, fun _ h => h, fun _ _ => rfl⟩
          by_cases h1 : F = A
          · subst h1
            have e1 : adN σ F G ys.length F k = .dead := by unfold adN; rw [if_pos rfl]
            rw [e1]
            cases k with
            | zero => rw [hs]; exact .died _
            | succ k => rw [hd]; exact .same _
          · by_cases h2 : F = G ∧ k = ys.length
            · obtain ⟨rfl, rfl⟩ := h2
              rw [hf0]; exact .born _
            · rw [ho F k h1 h2]; exact .same _
        have hreal : ∀ F k r, (adN σ A G ys.length).real F k r → (F = G ∧ k = ys.length ∧ σ.real A 0 r) ∨ (F ≠ A ∧ ¬ (F = G ∧ k = ys.length) ∧ σ.real F k r) := fun F k r ⟨s', h1, h2⟩ => by
          unfold adN at h1
          split at h1
          · cases h1
          · rename_i hFA
            split at h1
            · rename_i hFG; exact .inl ⟨hFG.1, hFG.2, s', h1, h2⟩
            · rename_i hFG; exact .inr ⟨hFA, hFG, s', h1, h2⟩
        have hown : ∀ r, (adN σ A G ys.length).own r → σ.own r := fun r ⟨F, k, h⟩ => by
          rcases hreal F k r h with ⟨_, _, h1⟩ | ⟨_, _, h1⟩
          · exact ⟨_, _, h1⟩
          · exact ⟨_, _, h1⟩
        have hlA : A < S.heap.length := (List.getElem?_eq_some_iff.1 hA).1
        have hlG : G < S.heap.length := (List.getElem?_eq_some_iff.1 hG).1
        have inj : Inv (adN σ A G ys.length) Z w := by
          refine ⟨fun F k F' k' r a b => ?_, fun r h => hr.inv.lt r (hown r h), hr.inv.zlt, fun r h hz => hr.inv.off r (hown r h) hz, hr.inv.glob⟩
          rcases hreal F k r a with ⟨a1, a2, a3⟩ | ⟨a1, a2, a3⟩ <;> rcases hreal F' k' r b with ⟨b1, b2, b3⟩ | ⟨b1, b2, b3⟩
          · exact ⟨a1.trans b1.symm, a2.trans b2.symm⟩
          · exact absurd (hr.inv.inj _ _ _ _ r a3 b3).1.symm b1
          · exact absurd (hr.inv.inj _ _ _ _ r a3 b3).1 a1
          · exact hr.inv.inj _ _ _ _ r a3 b3
        have hrows : ∀ {t : Ty} {fs : List Nat} {xs : List t.I} {rows : List (List Value)}, q3f M σ Z w t fs xs rows → q3f M (adN σ A G ys.length) Z w t fs xs rows := fun h => h.mono hle
        refine ⟨adN σ A G ys.length, Z, fun t u hu => ?_, hr.size, hr.defers, fun F he hF => ?_, fun F hF k => ?_, inj, ⟨hr.frm.os, hr.frm.tape, hr.frm.output, hr.frm.size, hr.frm.block, hr.frm.zone, hr.frm.znew, fun r h => hr.frm.own r (hown r h), fun F hF k => (hr.frm.mono F hF k).trans (hle.st F k)⟩⟩
        · obtain ⟨v, hv, rfl⟩ := j14 (f := reV A (G, ys.length)) hu
          exact reV_rv hle hs hb (hr.env t v hv)
        · by_cases h1 : F = G
          · subst h1
            have e1 : (((S.heap.map (reHE A (F, ys.length))).set A .dead).set F (.many e t (ys ++ [some zs])))[F]? = some (.many e t (ys ++ [some zs])) := List.getElem?_set_self (by simpa using hlG)
            have hF : (((S.heap.map (reHE A (F, ys.length))).set A .dead).set F (.many e t (ys ++ [some zs])))[F]? = some he := hF
            rw [e1] at hF
            cases hF
            refine ⟨fun k zs' hk => ?_, fun k hk => ?_⟩
            · by_cases hkn : k = ys.length
              · subst hkn
                simp at hk
                subst hk
                exact ⟨rows, hrows g1, s, hb, g3, g4, g5⟩
              · have hlt : k < ys.length := by have := (List.getElem?_eq_some_iff.1 hk).1; simp at this; omega
                rw [List.getElem?_append_left hlt] at hk
                obtain ⟨rows', r1, r2⟩ := hGr.1 k zs' hk
                exact ⟨rows', hrows r1, by rw [ho F k (Ne.symm hAG) (fun e => hkn e.2)]; exact r2⟩
            · rw [List.length_append] at hk
              simp at hk
              rw [ho F k (Ne.symm hAG) (fun e => by omega)]
              exact hGr.2 k (by omega)
          · have hF : (((S.heap.map (reHE A (G, ys.length))).set A .dead).set G (.many e t (ys ++ [some zs])))[F]? = some he := hF
            rw [List.getElem?_set_ne (Ne.symm h1)] at hF
            by_cases h2 : F = A
            · subst h2
              rw [List.getElem?_set_self (by simpa using hlA)] at hF
              cases hF
              exact fun k => by unfold adN; rw [if_pos rfl]
            · rw [List.getElem?_set_ne (Ne.symm h2), List.getElem?_map] at hF
              cases h0 : S.heap[F]? with
              | none => rw [h0] at hF; cases hF
              | some he0 =>
                rw [h0] at hF
                cases hF
                have hh := hr.heap F he0 h0
                have hsame : ∀ k, adN σ A G ys.length F k = σ F k := fun k => ho F k h2 fun e => h1 e.1
                cases he0 with
                | cells e2 row cs =>
                  obtain ⟨q1, q2, vs, n, q3, q4⟩ := hh
                  exact ⟨fun k => by rw [hsame]; exact q1 k, by rw [reC_all]; exact q2, vs, n, j1f hle hs hb q3, by rw [hsame]; exact q4⟩
                | dead => exact HER.keep hle hsame (fun _ _ _ => rfl) hh
                | list e2 t2 fs2 xs2 => exact HER.keep hle hsame (fun _ _ _ => rfl) hh
                | many e2 t2 xs2 => exact HER.keep hle hsame (fun _ _ _ => rfl) hh
        · have hF : (((S.heap.map (reHE A (G, ys.length))).set A .dead).set G (.many e t (ys ++ [some zs])))[F]? = none := hF
          rw [List.getElem?_eq_none_iff] at hF
          simp at hF
          have : F ≠ A := fun e => by omega
          have : F ≠ G := fun e => by omega
          rw [ho F k (by assumption) (fun e => by omega)]
          exact hr.fresh F (List.getElem?_eq_none_iff.2 hF) k
      · cases h
    · cases h
  · cases h
def z2z (t' : Ty) : Ty → Ty
  | .own _ => .slice t'
  | .pair a b => .pair (z2z t' a) (z2z t' b)
  | .int k => .int k
  | .bool => .bool
  | .str => .str
  | .err => .err
  | .slice t => .slice t
  | .ptr t => .ptr t
def memIn {A : Type} (ys : List (Option A)) (k : Nat) : Bool := match ys[k]? with
  | some (some _) => true
  | _ => false
def memAt {A : Type} (ys : List (Option (List A))) (k : Nat) : List A := match ys[k]? with
  | some (some zs) => zs
  | _ => []
def z44 {A : Type} (ys : List (Option A)) : (T : Ty) → T.I → Bool
  | .own j, k => match j with
    | 0 => memIn ys k
    | _ + 1 => false
  | .pair a b, x => z44 ys a x.1 && z44 ys b x.2
  | .int _, _ => true
  | .bool, _ => true
  | .str, _ => true
  | .err, _ => true
  | .slice _, _ => true
  | .ptr _, _ => true
def z5a (t' : Ty) (ys : List (Option (List t'.I))) : (T : Ty) → T.I → (z2z t' T).I
  | .own _, k => memAt ys k
  | .pair a b, x => (z5a t' ys a x.1, z5a t' ys b x.2)
  | .int _, x => x
  | .bool, x => x
  | .str, x => x
  | .err, x => x
  | .slice _, x => x
  | .ptr _, x => x
def deepS (O : Nat) (S : St) : Option (Bool × St) :=
  match S.heap[O]? with
  | some (.list e T fs xs) => match fs with
    | [G] => match S.heap[G]? with
      | some (.many e' t' ys) => bif !Nat.beq O G && t'.free
        then some (xs.all (z44 ys T), { S with heap := (S.heap.set O (.list e (z2z t' T) [] (xs.map (z5a t' ys T)))).set G .dead }) else none
      | _ => none
    | _ => none
  | _ => none
theorem z3l (t' : Ty) : ∀ T : Ty, (z2z t' T).size = T.size
  | .own _ | .int _ | .bool | .str | .err | .slice _ | .ptr _ => rfl
  | .pair a b => by simp only [z2z, Ty.size, z3l t' a, z3l t' b]
theorem mem_dv {σ : Num} {Z Z' : Zone} {w : World} {G k e' : Nat} {t' : Ty} {ys : List (Option (List t'.I))} {zs : List t'.I} {s : Slot} (hz : ∀ r, Z r → Z' r) (hG : ∀ k r, σ.real G k r → Z' r) (hf : t'.free = true) (hm : HER M σ Z w G (.many e' t' ys)) (hk : ys[k]? = some (some zs)) (hs : σ G k = .alive s) : DV M Z' w (.slice t') zs [s.whole] := by
  obtain ⟨rows, h1, s', h2, h3, h4, h5⟩ := hm.1 k zs hk
  rw [hs] at h2
  cases h2
  have hpos := t'.size_pos
  rcases h5 with ⟨q1, q2, _, a, q3⟩ | ⟨r, rest, q1, q2, q3⟩
  · rw [q3]
    have : zs = [] := List.length_eq_zero_iff.1 q2
    subst this
    exact ⟨a, 0, rfl, Nat.le_refl _, .inl rfl⟩
  · obtain ⟨p1, p2, p3⟩ := q3 (by omega)
    rw [p3]
    refine ⟨_, _, rfl, ?_, .inr ⟨r, 0, _, _, _, [], rest, rows, rfl, hG k r ⟨s, hs, q1⟩, q2, by simp, rfl, ?_⟩⟩
    · have e1 := h4 (by omega)
      rw [List.length_append, e1] at p2
      have : zs.length * t'.size ≤ s.cap * t'.size := by omega
      exact Nat.le_of_mul_le_mul_right this hpos
    · exact All2.mono (fun x row _ hx => (RVs.dv [] hf hx).mono hz (fun _ _ => rfl)) h1
theorem z7c {σ σ' : Num} {Z Z' : Zone} {w : World} {G e' : Nat} {t' : Ty} {ys : List (Option (List t'.I))} (hle : Le σ Z w σ' Z' w) (hz : ∀ r, Z r → Z' r) (hG : ∀ k r, σ.real G k r → Z' r) (hf : t'.free = true) (hm : HER M σ Z w G (.many e' t' ys)) : ∀ {T : Ty} {x : T.I} {us : List Value}, z44 ys T x = true → RVs M σ Z w (T.cells [G] x) us → RVs M σ' Z' w ((z2z t' T).cells [] (z5a t' ys T x)) us
  | .pair a b, x, us, h, hv => by
    simp only [z44, Bool.and_eq_true] at h
    simp only [Ty.cells] at hv
    obtain ⟨l, m, rfl, h1, h2⟩ := hv.q68
    simp only [z2z, z5a, Ty.cells]
    exact (z7c hle hz hG hf hm h.1 h1).append (z7c hle hz hG hf hm h.2 h2)
  | .own 0, k, us, h, hv => by
    obtain ⟨u, m, rfl, h1, h2⟩ := RVs.cons hv
    simp only [RVs] at h2
    subst h2
    have hg0 : ([G] : List Nat).getD 0 0 = G := rfl
    simp only [z44, memIn] at h
    cases hk : ys[(k : Nat)]? with
    | none => rw [hk] at h; cases h
    | some o => cases o with
      | none => rw [hk] at h; cases h
      | some zs =>
        obtain ⟨_, _, s, hs, _⟩ := hm.1 k zs hk
        simp only [RV, hg0, hs] at h1
        have hd := mem_dv hz hG hf hm hk hs
        simp only [z2z, z5a, Ty.cells, memAt, hk]
        refine RVs.one.2 ?_
        simp only [RV]
        rw [h1.1]
        exact hd
  | .own (_ + 1), k, us, h, hv => by simp [z44] at h
  | .int _, x, us, h, hv => RVs.mono hle hv
  | .bool, x, us, h, hv => RVs.mono hle hv
  | .str, x, us, h, hv => RVs.mono hle hv
  | .err, x, us, h, hv => RVs.mono hle hv
  | .slice _, x, us, h, hv => RVs.mono hle hv
  | .ptr _, x, us, h, hv => RVs.mono hle hv
theorem z9k {σ σ' : Num} {Z Z' : Zone} {w : World} {G e' : Nat} {t' : Ty} {ys : List (Option (List t'.I))} (hle : Le σ Z w σ' Z' w) (hz : ∀ r, Z r → Z' r) (hG : ∀ k r, σ.real G k r → Z' r) (hf : t'.free = true) (hm : HER M σ Z w G (.many e' t' ys)) {T : Ty} : ∀ {xs : List T.I} {rows : List (List Value)}, xs.all (z44 ys T) = true → q3f M σ Z w T [G] xs rows → q3f M σ' Z' w (z2z t' T) [] (xs.map (z5a t' ys T)) rows
  | [], [], _, _ => trivial
  | x :: xs, row :: rows, h, hr => by
    simp only [List.all_cons, Bool.and_eq_true] at h
    exact ⟨z7c hle hz hG hf hm h.1 hr.1, z9k hle hz hG hf hm h.2 hr.2⟩
  | [], _ :: _, _, k => k.elim
  | _ :: _, [], _, k => k.elim
theorem deepS_ok {O : Nat} {S S' : St} {g : Bool} (h : deepS O S = some (g, S')) (hg : g = true) : S'.n = S.n ∧ ∀ (E : Ent) (σ : Num) (Z : Zone) (a : Act) (w : World), Rel M E S.fs S.n σ Z a w → ∃ σ' Z', Rel M E S'.fs S.n σ' Z' a w := by
  unfold deepS at h
  split at h
  · rename_i e T fs xs hO
    split at h
    · rename_i G
      split at h
      · rename_i e' t' ys hG
        obtain ⟨hk, h2⟩ := q00 h
        clear h
        simp only [Bool.and_eq_true, Bool.not_eq_true'] at hk
        obtain ⟨k2, hf⟩ := hk
        have hOG : O ≠ G := fun e => by rw [e, Nat.beq_refl] at k2; cases k2
        simp only [Option.some.injEq, Prod.mk.injEq] at h2
        obtain ⟨e1, e2⟩ := h2
        subst e2
        rw [hg] at e1
        refine ⟨rfl, fun E σ Z a w hr => ?_⟩
        have hOr : HER M σ Z w O (.list e T [G] xs) := hr.heap O _ hO
        have hGr : HER M σ Z w G (.many e' t' ys) := hr.heap G _ hG
        have hlO : O < S.heap.length := (List.getElem?_eq_some_iff.1 hO).1
        have hlG : G < S.heap.length := (List.getElem?_eq_some_iff.1 hG).1
        let Z' : Zone := fun r => Z r ∨ ∃ k, σ.real G k r
        have hkill : ∀ F k, F ≠ G → σ.kill [G] F k = σ F k := fun F k h => if_neg (by simpa using h)
        have hdead : ∀ k, σ.kill [G] G k = .dead := fun k => if_pos (by simp)
        have hle : Le σ Z w (σ.kill [G]) Z' w := by
          refine ⟨fun F k => ?_, fun _ h => .inl h, fun _ _ => rfl⟩
          by_cases h1 : F = G
          · subst h1
            rw [hdead]
            cases h : σ F k with
            | fresh => exact .born _
            | dead => exact .same _
            | alive s => exact .died s
          · rw [hkill F k h1]; exact .same _
        have hreal : ∀ F k r, (σ.kill [G]).real F k r → F ≠ G ∧ σ.real F k r := fun F k r ⟨s, h1, h2⟩ => by
          by_cases h : F = G
          · subst h; rw [hdead] at h1; cases h1
          · exact ⟨h, s, by rw [← hkill F k h]; exact h1, h2⟩
        refine ⟨σ.kill [G], Z', fun t u hu => RV.mono hle (hr.env t u hu), hr.size, hr.defers, fun F he hF => ?_, fun F hF k => ?_, ⟨fun F k F' k' r a b => hr.inv.inj _ _ _ _ r (hreal _ _ _ a).2 (hreal _ _ _ b).2, fun r ⟨F, k, h⟩ => hr.inv.lt r ⟨F, k, (hreal _ _ _ h).2⟩, fun r h => ?_, fun r ⟨F, k, h⟩ hz => ?_, hr.inv.glob.keep (fun _ h => .inl h) fun _ _ => rfl⟩,
          ⟨hr.frm.os, hr.frm.tape, hr.frm.output, hr.frm.size, hr.frm.block, fun r h => .inl (hr.frm.zone r h), fun r h => ?_, fun r ⟨F, k, h⟩ => hr.frm.own r ⟨F, k, (hreal _ _ _ h).2⟩, fun F hF k => (hr.frm.mono F hF k).trans (hle.st F k)⟩⟩
        · have hF : ((S.heap.set O (.list e (z2z t' T) [] (xs.map (z5a t' ys T)))).set G .dead)[F]? = some he := hF
          by_cases h1 : F = G
          · subst h1
            rw [List.getElem?_set_self (by simpa using hlG)] at hF
            cases hF
            exact hdead
          · rw [List.getElem?_set_ne (Ne.symm h1)] at hF
            by_cases h2 : F = O
            · subst h2
              rw [List.getElem?_set_self hlO] at hF
              cases hF
              obtain ⟨hd, rows, g1, g2⟩ := hOr
              refine ⟨fun k => by rw [hkill F _ h1]; exact hd k, rows, z9k hle (fun _ h => .inl h) (fun k r h => .inr ⟨k, h⟩) hf hGr e1 g1, ?_⟩
              rw [hkill F _ h1, z3l, List.length_map]
              exact g2
            · rw [List.getElem?_set_ne (Ne.symm h2)] at hF
              exact HER.keep hle (fun k => hkill F k h1) (fun _ _ _ => rfl) (hr.heap F he hF)
        · have hF : ((S.heap.set O (.list e (z2z t' T) [] (xs.map (z5a t' ys T)))).set G .dead)[F]? = none := hF
          rw [List.getElem?_eq_none_iff] at hF
          simp at hF
          rw [hkill F k (fun e => by omega)]
          exact hr.fresh F (List.getElem?_eq_none_iff.2 hF) k
        · rcases h with h | ⟨k, h⟩
          · exact hr.inv.zlt r h
          · exact hr.inv.lt r ⟨G, k, h⟩
        · obtain ⟨h1, h2⟩ := hreal _ _ _ h
          rcases hz with hz | ⟨k', hz⟩
          · exact hr.inv.off r ⟨F, k, h2⟩ hz
          · exact h1 (hr.inv.inj _ _ _ _ r h2 hz).1
        · rcases h with h | ⟨k, h⟩
          · exact hr.frm.znew r h
          · exact .inr (hr.frm.own r ⟨G, k, h⟩)
      · cases h
    · cases h
  · cases h
inductive Pre
  | shape (m n : Nat) (s : SSh)
  | adopt (A G : Nat)
  | deep (O : Nat)
def preK : List Pre → St → (St → Option α) → Option α
  | [], S, k => k S
  | .shape m n s :: r, S, k => match rfOf m n s S with
    | some S' => preK r S' k
    | none => none
  | .adopt A G :: r, S, k => match adoptS A G S with
    | some S' => preK r S' k
    | none => none
  | .deep O :: r, S, k => match deepS O S with
    | some p => bif p.1 then preK r p.2 k else none
    | none => none
def Pre.ok (m : Nat) : Pre → Bool
  | .shape m' _ s => Nat.beq m' m && Nat.ble m s.hs.length
  | _ => true
theorem z6o {m : Nat} : ∀ {ps : List Pre} {S : St} {k : St → Option α} {r : α}, ps.all (Pre.ok m) = true → preK ps S k = some r → ∃ S1, k S1 = some r ∧ S1.n = S.n ∧ ∀ (E : Ent) (σ : Num) (Z : Zone) (a : Act) (w : World), E.m = m → Rel M E S.fs S.n σ Z a w → ∃ σ' Z', Rel M E S1.fs S.n σ' Z' a w
  | [], S, k, r, _, h => ⟨S, h, rfl, fun _ σ Z _ _ _ hr => ⟨σ, Z, hr⟩⟩
  | .shape m' n s :: ps, S, k, r, hp, h => by
    simp only [List.all_cons, Bool.and_eq_true, Pre.ok] at hp
    have em := Nat.eq_of_beq_eq_true hp.1.1
    subst em
    simp only [preK] at h
    split at h
    · rename_i S' hS
      obtain ⟨S1, h1, h2, h3⟩ := z6o hp.2 h
      obtain ⟨q1, q2⟩ := rfOf_ok (M := M) (Nat.le_of_ble_eq_true hp.1.2) hS
      refine ⟨S1, h1, h2.trans q1, fun E σ Z a w hE hr => ?_⟩
      obtain ⟨σ1, Z1, r1⟩ := q2 E σ Z a w hE hr
      rw [← q1] at r1 ⊢
      exact h3 E σ1 Z1 a w hE r1
    · cases h
  | .adopt A G :: ps, S, k, r, hp, h => by
    simp only [List.all_cons, Bool.and_eq_true] at hp
    simp only [preK] at h
    split at h
    · rename_i S' hS
      obtain ⟨S1, h1, h2, h3⟩ := z6o hp.2 h
      obtain ⟨q1, q2⟩ := adoptS_ok (M := M) hS
      refine ⟨S1, h1, h2.trans q1, fun E σ Z a w hE hr => ?_⟩
      obtain ⟨σ1, Z1, r1⟩ := q2 E σ Z a w hr
      rw [← q1] at r1 ⊢
      exact h3 E σ1 Z1 a w hE r1
    · cases h
  | .deep O :: ps, S, k, r, hp, h => by
    simp only [List.all_cons, Bool.and_eq_true] at hp
    simp only [preK] at h
    split at h
    · rename_i p hS
      obtain ⟨g, S'⟩ := p
      obtain ⟨hg, h'⟩ := q00 h
      obtain ⟨S1, h1, h2, h3⟩ := z6o hp.2 h'
      obtain ⟨q1, q2⟩ := deepS_ok (M := M) hS hg
      refine ⟨S1, h1, h2.trans q1, fun E σ Z a w hE hr => ?_⟩
      obtain ⟨σ1, Z1, r1⟩ := q2 E σ Z a w hr
      have q1' : S.n = S'.n := q1.symm
      rw [q1'] at r1 ⊢
      exact h3 E σ1 Z1 a w hE r1
    · cases h
def preCt (M : Cfg) (ps : List Pre) (C : q13 α) (E : EqBy) : Array Oper → Bool → St → (St → Option α) → Option α := fun ops draw S k => preK ps S fun S1 =>
  bif draw then vseq M C E ops ops.toList S1 [] (fun S' rs => bif j04 ops rs then k S' else none) else vseq M C E ops ops.toList S1 [] fun S' _ => k S'
theorem preCt_ok {m : Nat} {ps : List Pre} {C : q13 α} {E : EqBy} (hC : q2q M C) (hE : EqOk M.P E) (hmx : M.P.follows .mixedOrders = true) (hp : ps.all (Pre.ok m) = true) : CutOk M m (preCt M ps C E) := by
  intro ops draw S k r h
  unfold preCt at h
  obtain ⟨S1, h1, h2, h3⟩ := z6o (M := M) hp h
  have fin : ∀ {S' : St}, (∀ id, q8b M m (.region id ops draw) S1 .normal S') → ∀ id, q8b M m (.region id ops draw) S .normal S' := fun {S'} hl id =>
    ⟨(hl id).1.trans h2, fun E σ Z a w Q hE hr hQ => by
      obtain ⟨σ1, Z1, r1⟩ := h3 E σ Z a w hE hr
      rw [← h2] at r1
      exact (hl id).2 E σ1 Z1 a w Q hE r1 hQ⟩
  cases draw with
  | true =>
    obtain ⟨S', rs, q1, q2, q3⟩ := z1f (m := m) hC hE hmx (k := fun S' _ => k S') h1
    exact ⟨S', q1, fin q2⟩
  | false =>
    obtain ⟨S', rs, q1, q2, q3⟩ := z2m (m := m) hC hE (k := fun S' _ => k S') h1
    exact ⟨S', q1, fin q2⟩
end Go.Proofs.YtdjkdmjdcdljmaaGreatDoorY
namespace Go.Proofs.YtdjkdmjdcdljmaaGreatDoorY
open Go.RowKit
variable {M : Cfg} {α : Type} {m : Nat}
def rfsE (m n : Nat) : List (Nat × SSh) → q4s
  | [] => q42
  | p :: r => rfPut m n p.1 p.2 (rfsE m n r)
theorem z70 {n : Nat} : ∀ {l : List (Nat × SSh)}, l.all (fun p => Nat.ble m p.2.hs.length) = true → q6y M m (rfsE m n l)
  | [], _ => q5s
  | p :: r, h => by
    simp only [List.all_cons, Bool.and_eq_true] at h
    exact rfPut_ok (Nat.le_of_ble_eq_true h.1) (z70 h.2)
def adsE : List (FuncId × List (Nat × Nat)) → q13 α → q13 α
  | [], C => C
  | p :: r, C => adoptC p.1 p.2 (adsE r C)
theorem adsE_ok {C : q13 α} (h : q2q M C) : ∀ {l : List (FuncId × List (Nat × Nat))}, q2q M (adsE l C)
  | [] => h
  | p :: r => adoptC_ok (adsE_ok h)
def cpsE (M : Cfg) (C : (α : Type) → q13 α) : List (Nat × List Ty × List Nat) → q79 α
  | [] => q67
  | p :: r => j25 p.1 (rpCut M q1g p.2.1 p.2.2 (C (TysI p.2.1)) (eqBy M.P)) (cpsE M C r)
theorem cpsE_ok {C : (α : Type) → q13 α} (hmx : M.P.follows .mixedOrders = true) (h : ∀ α, q2q M (C α)) : ∀ {l : List (Nat × List Ty × List Nat)}, q7g (α := α) M m (cpsE M C l)
  | [] => q65
  | p :: r => z3g (z6u (h _) (q6q _) hmx) (cpsE_ok hmx h)
def prsE (M : Cfg) (C : q13 α) (rest : q79 α) : List (Nat × List Pre) → q79 α
  | [] => rest
  | p :: r => j25 p.1 (preCt M p.2 C (eqBy M.P)) (prsE M C rest r)
theorem prsE_ok {C : q13 α} {rest : q79 α} (hmx : M.P.follows .mixedOrders = true) (h : q2q M C) (hr : q7g M m rest) : ∀ {l : List (Nat × List Pre)}, l.all (fun p => p.2.all (Pre.ok m)) = true → q7g (α := α) M m (prsE M C rest l)
  | [], _ => hr
  | p :: r, hp => by
    simp only [List.all_cons, Bool.and_eq_true] at hp
    exact z3g (preCt_ok h (q6q _) hmx hp.1) (prsE_ok hmx h hr hp.2)
structure Fx (M : Cfg) (m : Nat) where
  hmx : M.P.follows .mixedOrders = true
  nt : Nat
  cs : List (En M)
  ad : List (FuncId × List (Nat × Nat)) := []
  rf : List (Nat × SSh) := []
  cp : List (Nat × List Ty × List Nat) := []
  pr : List (Nat × List Pre) := []
  alt : List Nat := []
  hr : rf.all (fun p => Nat.ble m p.2.hs.length) = true := by rfl
  hp : pr.all (fun p => p.2.all (Pre.ok m)) = true := by rfl
def Fx.C (X : Fx M m) (α : Type) : q13 α := adsE X.ad (z8n X.alt X.cs)
theorem Fx.C_ok (X : Fx M m) (α : Type) : q2q M (X.C α) := adsE_ok z4p
def Fx.RF (X : Fx M m) : q4s := rfsE m X.nt X.rf
def Fx.CP (X : Fx M m) (α : Type) : q79 α := prsE M (X.C α) (cpsE M X.C X.cp) X.pr
theorem Fx.CP_ok (X : Fx M m) (α : Type) : q7g M m (X.CP α) := prsE_ok X.hmx (X.C_ok α) (cpsE_ok X.hmx X.C_ok) X.hp
structure Lp (M : Cfg) (m : Nat) where
  key : Nat
  c : Code
  hk : q5o c = some key
  lp : (α : Type) → St → Kn α → Option α
  ok : ∀ α, z2g M m c (lp α)
def z6k (α : Type) : List (Lp M m) → q48 α
  | [] => q4r
  | e :: r => lpPut e.key (e.lp α) (z6k α r)
def z3v : List (Lp M m) → Bool
  | [] => true
  | e :: r => (r.map (·.c)).all (fun c => !keyIs e.key c) && z3v r
theorem z56 : ∀ {l : List (Lp M m)}, z3v l = true → q4x M m (z6k α l) (l.map (·.c))
  | [], _ => q5u
  | e :: r, h => by
    simp only [z3v, Bool.and_eq_true] at h
    exact j0g e.hk (e.ok α) (z56 h.2) h.1
theorem z3t {l : List (Lp M m)} {c : Code} (h : (q2d c, z3v l) = (l.map (·.c), true)) : q4x M m (z6k α l) (q2d c) := by
  rw [show q2d c = l.map (·.c) from congrArg Prod.fst h]
  exact z56 (congrArg Prod.snd h)
theorem ble2 {a b c : Nat} (h : (Nat.ble a b && Nat.ble a c) = true) : a ≤ b ∧ a ≤ c := by
  simp only [Bool.and_eq_true] at h
  exact ⟨Nat.le_of_ble_eq_true h.1, Nat.le_of_ble_eq_true h.2⟩
theorem ble3 {a b c d : Nat} (h : (Nat.ble a b && Nat.ble a c && Nat.ble a d) = true) : a ≤ b ∧ a ≤ c ∧ a ≤ d := by
  simp only [Bool.and_eq_true] at h
  exact ⟨Nat.le_of_ble_eq_true h.1.1, Nat.le_of_ble_eq_true h.1.2, Nat.le_of_ble_eq_true h.2⟩
section
variable (X : Fx M m) (key n j : Nat) (c : Code) (h x r : SSh) {R R' : Type} (K : Nat) (I : List (Lp M m))
def q24 (F : Nat → h.I → Option R) (cv : h.I → R → x.I)
    (hs : ∀ k y, exec M (X.C x.I) (eqBy M.P) (z6k x.I I) X.RF (X.CP x.I) 20 c (Kl m h (q2u (F k) cv) (backX m n j x)) (h.enc n y) = q2u (F (k + 1)) cv y)
    (h0 : ∀ x, F 0 x = none := by intro x; rfl) (hk : q5o c = some key := by kernel_rfl) (hL : (q2d c, z3v I) = (I.map (·.c), true) := by kernel_rfl)
    (hm : (Nat.ble m h.hs.length && Nat.ble m x.hs.length) = true := by rfl) : Lp M m :=
  { key := key, c := c, hk := hk, lp := fun α => lpX m n j h x (F K) cv, ok := fun α => lpX_okS (X.C_ok _) X.hmx (z70 X.hr) (X.CP_ok _) (z3t hL) (ble2 hm).1 (ble2 hm).2 h0 hs }
def q3s (F : Nat → h.I → Option (R ⊕ R')) (cv : h.I → R → x.I) (cv' : h.I → R' → r.I)
    (hs : ∀ k y, exec M (X.C (x.I ⊕ r.I)) (eqBy M.P) (z6k (x.I ⊕ r.I) I) X.RF (X.CP (x.I ⊕ r.I)) 20 c (Kl m h (q2u (F k) (smap cv cv')) (z52 m j x r)) (h.enc n y) = q2u (F (k + 1)) (smap cv cv') y)
    (h0 : ∀ x, F 0 x = none := by intro x; rfl) (hk : q5o c = some key := by kernel_rfl) (hL : (q2d c, z3v I) = (I.map (·.c), true) := by kernel_rfl)
    (hm : (Nat.ble m h.hs.length && Nat.ble m x.hs.length && Nat.ble m r.hs.length) = true := by rfl) : Lp M m :=
  { key := key, c := c, hk := hk, lp := fun α => lpXRD m n j h x r (F K) cv cv', ok := fun α => lpXRD_okS (X.C_ok _) X.hmx (z70 X.hr) (X.CP_ok _) (z3t hL) (ble3 hm).1 (ble3 hm).2.1 (ble3 hm).2.2 h0 hs }
def fnE {m : Nat} (X : Fx M m) (n : FuncId) {fn : Func} (hf : M.P.funcs[n]? = some fn) (g : Sig) (I : List (Lp M m)) {R : Type} (F : g.In → Option R) (cv : g.In → R → g.Ou)
    (hs : ∀ x, runF M g (X.C g.Ou) (eqBy M.P) (z6k g.Ou I) X.RF (X.CP g.Ou) 20 fn (z2s fn) x = q2u F cv x)
    (hb : fn.body = some (z2s fn) := by kernel_rfl) (hg : g.ok = true := by rfl) (hname : (fn.name == "runtime.NumGoroutine") = false := by kernel_rfl) (hbs : fn.body.isSome = true := by rfl)
    (hL : (q2d (z2s fn), z3v I) = (I.map (·.c), true) := by kernel_rfl) (hm : (Nat.beq g.ihs.length m && Nat.ble m g.ohs.length) = true := by rfl) : En M :=
  { n := n, g := g, R := R, F := F, cv := cv, ok := hg, fn := fn, hf := hf, hname := hname, hb := hbs,
    rets := by
      simp only [Bool.and_eq_true] at hm
      obtain ⟨h1, h2⟩ := hm
      have h1 := Nat.eq_of_beq_eq_true h1
      subst h1
      exact z6n (X.C_ok _) X.hmx (z70 X.hr) (X.CP_ok _) (z3t hL) (Nat.le_of_ble_eq_true h2) hf hb hs }
end
end Go.Proofs.YtdjkdmjdcdljmaaGreatDoorY
namespace Go.Proofs.YtdjkdmjdcdljmaaGreatDoorY
open Go.RowKit Go.Extern.Stop Go.Stop Go.Extern
theorem z4o (t : Addr) (w : World) : (ReflectliteValue.unpack (.iface 202 (.pointer (some t)))).run Tryz.prog w
    = .ok (.agg #[.pointer (some ⟨1, 202, none⟩), .pointer (some ⟨w.heap.size, 0, none⟩), .int .u64 150]) (w.alloc (.cells #[.pointer (some t)] 202)) := by kernel_rfl
theorem j28 (n : Int) (w : World) : (ReflectliteValue.unpack (.iface 98 (.int .i64 n))).run Tryz.prog w
    = .ok (.agg #[.pointer (some ⟨1, 98, none⟩), .pointer (some ⟨w.heap.size, 0, none⟩), .int .u64 130]) (w.alloc (.cells #[.int .i64 n] 98)) := by kernel_rfl
theorem j15 (a : Addr) (w : World) : (ReflectliteValue.methodAny (ReflectliteValue.valueError "reflectlite.Value.Type" 0) (fun t _ _ _ => ReflectliteType.toType t) #[.agg #[.pointer (some ⟨1, 202, none⟩), .pointer (some a), .int .u64 150]]).run Tryz.prog w
    = .ok (.iface 338 (.agg #[.pointer (some ⟨1, 202, none⟩)])) w := by kernel_rfl
theorem mKind (h : Value) (w : World) : (Go.method 507 338 (.agg #[h]) "Kind").run Tryz.prog w = .ok (243, h) w := by kernel_rfl
theorem mElem (h : Value) (w : World) : (Go.method 507 338 (.agg #[h]) "Elem").run Tryz.prog w = .ok (261, .agg #[h]) w := by kernel_rfl
theorem z4l (h : Value) (w : World) : (Go.method 507 338 (.agg #[h]) "Implements").run Tryz.prog w = .ok (262, .agg #[h]) w := by kernel_rfl
theorem z68 (h : Value) (w : World) : (Go.method 507 338 (.agg #[h]) "AssignableTo").run Tryz.prog w = .ok (259, .agg #[h]) w := by kernel_rfl
theorem mUnwrap (h : Value) (w : World) : (Go.method 507 203 h "Unwrap").run Tryz.prog w = .ok (254, h) w := by kernel_rfl
theorem kind202 (w : World) : ((ReflectliteType.abiMethod fun t => (fun a : Nat => Value.int IntKind.u8 (a : Int)) <$> Rtype.kind t) #[.pointer (some ⟨1, 202, none⟩)]).run Tryz.prog w = .ok (.int .u8 22) w := by kernel_rfl
theorem kind98 (w : World) : ((ReflectliteType.abiMethod fun t => (fun a : Nat => Value.int IntKind.u8 (a : Int)) <$> Rtype.kind t) #[.pointer (some ⟨1, 98, none⟩)]).run Tryz.prog w = .ok (.int .u8 2) w := by kernel_rfl
theorem elem202 (w : World) : (ReflectliteType.method ReflectliteType.elem #[.agg #[.pointer (some ⟨1, 202, none⟩)]]).run Tryz.prog w = .ok (.iface 338 (.agg #[.pointer (some ⟨1, 98, none⟩)])) w := by kernel_rfl
theorem z2n (w : World) : (ReflectliteType.relation "Implements" ReflectliteType.implements_ #[.agg #[.pointer (some ⟨1, 98, none⟩)], .iface 338 (.agg #[.pointer (some ⟨1, 34, none⟩)])]).run Tryz.prog w = .ok (.bool true) w := by kernel_rfl
theorem typeOf98 (v : Value) (w : World) : (ReflectliteType.typeOf #[.iface 98 v]).run Tryz.prog w = .ok (.iface 338 (.agg #[.pointer (some ⟨1, 98, none⟩)])) w := by kernel_rfl
theorem typeOf203 (v : Value) (w : World) : (ReflectliteType.typeOf #[.iface 203 v]).run Tryz.prog w = .ok (.iface 338 (.agg #[.pointer (some ⟨1, 203, none⟩)])) w := by kernel_rfl
theorem assign98 (w : World) : (ReflectliteType.relation "AssignableTo" ReflectliteType.assignableTo #[.agg #[.pointer (some ⟨1, 98, none⟩)], .iface 338 (.agg #[.pointer (some ⟨1, 98, none⟩)])]).run Tryz.prog w = .ok (.bool true) w := by kernel_rfl
theorem j4b (w : World) : (ReflectliteType.relation "AssignableTo" ReflectliteType.assignableTo #[.agg #[.pointer (some ⟨1, 203, none⟩)], .iface 338 (.agg #[.pointer (some ⟨1, 98, none⟩)])]).run Tryz.prog w = .ok (.bool false) w := by kernel_rfl
theorem noAs98 (v : Value) (xT : TypeId) (w : World) : (Instr.typeAssert (.iface 98 v) xT 343 true).run Tryz.prog w = .ok (.tuple #[.nilIface, .bool false]) w := run_typeAssert_lacksB Tryz.underlying343 (by kernel_rfl) (by kernel_rfl) v xT w
theorem noAs203 (v : Value) (xT : TypeId) (w : World) : (Instr.typeAssert (.iface 203 v) xT 343 true).run Tryz.prog w = .ok (.tuple #[.nilIface, .bool false]) w := run_typeAssert_lacksB Tryz.underlying343 (by kernel_rfl) (by kernel_rfl) v xT w
theorem hasUn203 (v : Value) (xT : TypeId) (w : World) : (Instr.typeAssert (.iface 203 v) xT 346 true).run Tryz.prog w = .ok (.tuple #[.iface 203 v, .bool true]) w := run_typeAssert_hasB Tryz.underlying346 (by kernel_rfl) v xT w
theorem j2d (a : Addr) (w : World) : (ReflectliteValue.parts (.agg #[.pointer (some ⟨1, 202, none⟩), .pointer (some a), .int .u64 150])).run Tryz.prog w = .ok (some (202, a, 150)) w := by kernel_rfl
theorem j2q (a p : Addr) (W : World) (ha : W.cell? a = some (.pointer (some p))) :
    (ReflectliteValue.method (ReflectliteValue.valueError "reflectlite.Value.IsNil" 0) ReflectliteValue.isNil #[.agg #[.pointer (some ⟨1, 202, none⟩), .pointer (some a), .int .u64 150]]).run Tryz.prog W = .ok (.bool false) W := by
  change (ReflectliteValue.parts (.agg #[.pointer (some ⟨1, 202, none⟩), .pointer (some a), .int .u64 150]) >>= _ : Sem Value).run Tryz.prog W = _
  simp only [Sem.run_bind, j2d, Result.andThen]
  simp [ReflectliteValue.isNil, loadVar, isAgg, underlying, Tryz.underlying202, ha, Result.andThen]
theorem elemOf202 (w : World) : (Rtype.elem? 202).run Tryz.prog w = .ok (some 98) w := by kernel_rfl
theorem mk98 (p : Addr) (w : World) : (ReflectliteValue.mk 98 p ReflectliteValue.flagAddr).run Tryz.prog w = .ok (.agg #[.pointer (some ⟨1, 98, none⟩), .pointer (some p), .int .u64 386]) w := by kernel_rfl
theorem elemV202 (a p : Addr) (W : World) (ha : W.cell? a = some (.pointer (some p))) :
    (ReflectliteValue.method (ReflectliteValue.valueError "reflectlite.Value.Elem" 0) ReflectliteValue.elem #[.agg #[.pointer (some ⟨1, 202, none⟩), .pointer (some a), .int .u64 150]]).run Tryz.prog W
      = .ok (.agg #[.pointer (some ⟨1, 98, none⟩), .pointer (some p), .int .u64 386]) W := by
  change (ReflectliteValue.parts (.agg #[.pointer (some ⟨1, 202, none⟩), .pointer (some a), .int .u64 150]) >>= _ : Sem Value).run Tryz.prog W = _
  simp only [Sem.run_bind, j2d, Result.andThen]
  simp [ReflectliteValue.elem, loadVar, isAgg, underlying, Tryz.underlying202, ha, Result.andThen, elemOf202, mk98]
theorem parts98a (a : Addr) (w : World) : (ReflectliteValue.parts (.agg #[.pointer (some ⟨1, 98, none⟩), .pointer (some a), .int .u64 386])).run Tryz.prog w = .ok (some (98, a, 386)) w := by kernel_rfl
theorem parts98 (a : Addr) (w : World) : (ReflectliteValue.parts (.agg #[.pointer (some ⟨1, 98, none⟩), .pointer (some a), .int .u64 130])).run Tryz.prog w = .ok (some (98, a, 130)) w := by kernel_rfl
theorem direct98 (w : World) : (Rtype.directlyAssignable 98 98).run Tryz.prog w = .ok true w := by kernel_rfl
theorem set98 (ta b : Addr) (n : Int) (old : Value) (W : World) (hb : W.cell? b = some (.int .i64 n)) (ht : W.cell? ta = some old) (hf : W.frozen? ta = false) :
    (ReflectliteValue.set #[.agg #[.pointer (some ⟨1, 98, none⟩), .pointer (some ta), .int .u64 386], .agg #[.pointer (some ⟨1, 98, none⟩), .pointer (some b), .int .u64 130]]).run Tryz.prog W
      = .ok (.tuple #[]) (W.setCell ta (.int .i64 n)) := by
  change (ReflectliteValue.parts (.agg #[.pointer (some ⟨1, 98, none⟩), .pointer (some ta), .int .u64 386]) >>= fun _ => ReflectliteValue.parts (.agg #[.pointer (some ⟨1, 98, none⟩), .pointer (some b), .int .u64 130]) >>= _ : Sem Value).run Tryz.prog W = _
  simp only [Sem.run_bind, parts98a, parts98, Result.andThen]
  simp [ReflectliteValue.flagAddr, loadVar, isAgg, underlying, Tryz.underlying98, hb, Result.andThen, direct98, storeVar, Value.cells, storeCells, Addr.add]
  rw [run_store Tryz.prog W ta _ _ (by rfl)]
  simp [ht, hf]
end Go.Proofs.YtdjkdmjdcdljmaaGreatDoorY
namespace Go.Proofs.YtdjkdmjdcdljmaaGreatDoorY
open Go.RowKit Go.Extern.Stop Go.Stop Go.Extern
inductive ErrC (W : World) : Value → Option Int → Nat → Prop
  | no (n : Int) : ErrC W (.iface 98 (.int .i64 n)) (some n) 0
  | last (b : Nat) : W.cell? ⟨b, 1, none⟩ = some .nilIface → ErrC W (.iface 203 (.pointer (some ⟨b, 0, none⟩))) none 0
  | wrap (b : Nat) (E : Value) (r : Option Int) (k : Nat) : W.cell? ⟨b, 1, none⟩ = some E → ErrC W E r k → ErrC W (.iface 203 (.pointer (some ⟨b, 0, none⟩))) r (k + 1)
theorem ErrC.unique {W : World} {E : Value} {r r' : Option Int} {k k' : Nat} (h : ErrC W E r k) (h' : ErrC W E r' k') : r = r' ∧ k = k' := by
  induction h generalizing r' k' with
  | no n => cases h'; exact ⟨rfl, rfl⟩
  | last b hb =>
    cases h' with
    | last _ _ => exact ⟨rfl, rfl⟩
    | wrap _ E2 _ _ hc2 h2 => rw [hb] at hc2; cases hc2; cases h2
  | wrap b E1 r1 k1 hb h1 ih =>
    cases h' with
    | last _ hc2 => rw [hb] at hc2; cases hc2; cases h1
    | wrap _ E2 _ _ hc2 h2 => rw [hb] at hc2; cases hc2; obtain ⟨e1, e2⟩ := ih h2; exact ⟨e1, by rw [e2]⟩
open Classical in
noncomputable def z25 (W : World) (E : Value) : Nat := if h : ∃ k, ∃ r, ErrC W E r k then h.choose else 0
theorem z4e {W : World} {E : Value} {r : Option Int} {k : Nat} (h : ErrC W E r k) : z25 W E = k := by
  unfold z25
  have hh : ∃ k, ∃ r, ErrC W E r k := ⟨k, r, h⟩
  rw [dif_pos hh]
  obtain ⟨r', h'⟩ := hh.choose_spec
  exact (ErrC.unique h' h).2
theorem q7n {W : World} {a : Addr} {v : Value} (h : W.cell? a = some v) : a.block < W.heap.size := by
  rcases Nat.lt_or_ge a.block W.heap.size with h' | h'
  · exact h'
  · simp [World.cell?, Array.getElem?_eq_none h'] at h
theorem ErrC.alloc {W : World} {o : Obj} {E : Value} {r : Option Int} {k : Nat} (h : ErrC W E r k) : ErrC (W.alloc o) E r k := by
  induction h with
  | no n => exact .no n
  | last b hb => exact .last b (by rw [World.cell?_alloc_lt _ _ ⟨b, 1, none⟩ (q7n hb)]; exact hb)
  | wrap b E r k hb _ ih => exact .wrap b E r k (by rw [World.cell?_alloc_lt _ _ ⟨b, 1, none⟩ (q7n hb)]; exact hb) ih
set_option maxHeartbeats 4000000 in
set_option maxRecDepth 1000000 in
theorem as98 {W : World} (E : Value) (r : Option Int) (k : Nat) (a t : Addr) (old : Value) (hch : ErrC W E r k) (ha : W.cell? a = some (.pointer (some t))) (ht : W.cell? t = some old) (hf : W.frozen? t = false) :
    Calls Tryz.prog 143 #[E, .iface 202 (.pointer (some t)), .agg #[.pointer (some ⟨1, 202, none⟩), .pointer (some a), .int .u64 150], .iface 338 (.agg #[.pointer (some ⟨1, 98, none⟩)])] W fun e w' =>
      (r = none ∧ e = .returned (.bool false) ∧ w' = W.alloc (.cells #[.pointer (some ⟨1, 202, none⟩), .pointer (some a), .int .u64 150] 279)) ∨
      ∃ n, r = some n ∧ e = .returned (.bool true) ∧ w' = ((W.alloc (.cells #[.pointer (some ⟨1, 202, none⟩), .pointer (some a), .int .u64 150] 279)).alloc (.cells #[.int .i64 n] 98)).setCell t (.int .i64 n) := by
  have h140 := @run_callFunc_extern Tryz.prog 140 _ (fun args => ReflectliteValue.unpack (args.getD 0 (.tuple #[]))) Tryz.func140 (by kernel_rfl) (by kernel_rfl) (by kernel_rfl) (by kernel_rfl)
  have h195 := @run_callFunc_extern Tryz.prog 195 _ ReflectliteType.typeOf Tryz.func195 (by kernel_rfl) (by kernel_rfl) (by kernel_rfl) (by kernel_rfl)
  have h259 := @run_callFunc_extern Tryz.prog 259 _ (ReflectliteType.relation "AssignableTo" ReflectliteType.assignableTo) Tryz.func259 (by kernel_rfl) (by kernel_rfl) (by kernel_rfl) (by kernel_rfl)
  have h196 := @run_callFunc_extern Tryz.prog 196 _ (ReflectliteValue.method (ReflectliteValue.valueError "reflectlite.Value.Elem" 0) ReflectliteValue.elem) Tryz.func196 (by kernel_rfl) (by kernel_rfl) (by kernel_rfl) (by kernel_rfl)
  have h197 := @run_callFunc_extern Tryz.prog 197 _ ReflectliteValue.set Tryz.func197 (by kernel_rfl) (by kernel_rfl) (by kernel_rfl) (by kernel_rfl)
  have tO := typeOf98
  have tP := typeOf203
  have mA := z68
  have mU := mUnwrap
  have a98 := assign98
  have a203 := j4b
  have v98 := j28
  have n1 := noAs98
  have n2 := noAs203
  have u1 := hasUn203
  have hal := q7n ha
  have htl := q7n ht
  go_enter Tryz.func143, Tryz.ntmps143
  go_wp2
  go_loopw [0] (fun E' wl => wl = W.alloc (.cells #[.pointer (some ⟨1, 202, none⟩), .pointer (some a), .int .u64 150] 279) ∧ ∃ k', ErrC W E' r k') (fun E' _ => z25 W E')
  case atStart => exact ⟨rfl, k, hch⟩
  case round =>
    obtain ⟨rfl, k', hc'⟩ := hrel
    cases hc' with
    | no n =>
      have el := elemV202 a t (W.alloc (.cells #[.pointer (some ⟨1, 202, none⟩), .pointer (some a), .int .u64 150] 279)) (by rw [World.cell?_alloc_lt _ _ a hal]; exact ha)
      have st := set98 t ⟨W.heap.size + 1, 0, none⟩ n old ((W.alloc (.cells #[.pointer (some ⟨1, 202, none⟩), .pointer (some a), .int .u64 150] 279)).alloc (.cells #[.int .i64 n] 98))
        (by rw [World.cell?_alloc_at _ _ _ _ (by simp)]; rfl)
        (by rw [World.cell?_alloc_lt _ _ t (by simp; omega), World.cell?_alloc_lt _ _ t htl]; exact ht)
        (by rw [World.frozen?_alloc_old _ _ t (by simp; omega), World.frozen?_alloc_old _ _ t (Nat.ne_of_lt htl)]; exact hf)
      go_wp2
      go_ret
      exact .inr ⟨n, rfl, rfl, rfl⟩
    | last b hb =>
      have hb' : (W.alloc (.cells #[.pointer (some ⟨1, 202, none⟩), .pointer (some a), .int .u64 150] 279)).cell? ⟨b, 1, none⟩ = some .nilIface := by rw [World.cell?_alloc_lt _ _ ⟨b, 1, none⟩ (q7n hb)]; exact hb
      go_wp2
      go_ret
      exact ⟨rfl, rfl⟩
    | wrap b E1 _ k1 hb h1 =>
      have hb' : (W.alloc (.cells #[.pointer (some ⟨1, 202, none⟩), .pointer (some a), .int .u64 150] 279)).cell? ⟨b, 1, none⟩ = some E1 := by rw [World.cell?_alloc_lt _ _ ⟨b, 1, none⟩ (q7n hb)]; exact hb
      have hlen := z4e h1
      have hlen0 := z4e (ErrC.wrap b E1 r k1 hb h1)
      have hne : ∃ u v, E1 = .iface u v := by cases h1 <;> exact ⟨_, _, rfl⟩
      obtain ⟨u1, v1, rfl⟩ := hne
      have HC : Hid (ErrC W (.iface u1 v1) r k1) := h1
      clear h1
      go_wp2
      go_roundw
      case rel => exact ⟨trivial, k1, HC.out⟩
      case measure =>
        show z25 W (.iface u1 v1) < _
        rw [hlen, hlen0]; simp
end Go.Proofs.YtdjkdmjdcdljmaaGreatDoorY
namespace Go.Proofs.YtdjkdmjdcdljmaaGreatDoorY
open Go.RowKit Go.Extern.Stop Go.Stop Go.Extern
def asNo : Err → Option Int
  | .nil => none
  | .no n => some n
  | .at _ e => asNo e
def z1m (e : Err) : Int := bif e.isNil then 0 else (asNo e).getD 21
theorem as98n {W : World} (u : TypeId) (v : Value) (k : Nat) (a t : Addr) (old : Value) (hch : ErrC W (.iface u v) none k) (ha : W.cell? a = some (.pointer (some t))) (ht : W.cell? t = some old) (hf : W.frozen? t = false) :
    Calls Tryz.prog 143 #[.iface u v, .iface 202 (.pointer (some t)), .agg #[.pointer (some ⟨1, 202, none⟩), .pointer (some a), .int .u64 150], .iface 338 (.agg #[.pointer (some ⟨1, 98, none⟩)])] W fun e w' =>
      e = .returned (.bool false) ∧ w' = W.alloc (.cells #[.pointer (some ⟨1, 202, none⟩), .pointer (some a), .int .u64 150] 279) :=
  (as98 _ none k a t old hch ha ht hf).mono fun e w' h => by
    rcases h with ⟨_, h1, h2⟩ | ⟨n, h, _⟩
    · exact ⟨h1, h2⟩
    · cases h
theorem as98s {W : World} (u : TypeId) (v : Value) (n : Int) (k : Nat) (a t : Addr) (old : Value) (hch : ErrC W (.iface u v) (some n) k) (ha : W.cell? a = some (.pointer (some t))) (ht : W.cell? t = some old) (hf : W.frozen? t = false) :
    Calls Tryz.prog 143 #[.iface u v, .iface 202 (.pointer (some t)), .agg #[.pointer (some ⟨1, 202, none⟩), .pointer (some a), .int .u64 150], .iface 338 (.agg #[.pointer (some ⟨1, 98, none⟩)])] W fun e w' =>
      e = .returned (.bool true) ∧ w' = ((W.alloc (.cells #[.pointer (some ⟨1, 202, none⟩), .pointer (some a), .int .u64 150] 279)).alloc (.cells #[.int .i64 n] 98)).setCell t (.int .i64 n) :=
  (as98 _ (some n) k a t old hch ha ht hf).mono fun e w' h => by
    rcases h with ⟨h, _⟩ | ⟨n', h, h1, h2⟩
    · cases h
    · cases h; exact ⟨h1, h2⟩
set_option maxHeartbeats 4000000 in
set_option maxRecDepth 1000000 in
theorem As98n {w : World} (u : TypeId) (v : Value) (k : Nat) (t : Addr) (old : Value) (hch : ErrC w (.iface u v) none k) (hg : w.cell? ⟨0, 0, none⟩ = some (.iface 338 (.agg #[.pointer (some ⟨1, 34, none⟩)]))) (ht : w.cell? t = some old) (hf : w.frozen? t = false) :
    Calls Tryz.prog 85 #[.iface u v, .iface 202 (.pointer (some t))] w fun e w' => e = .returned (.bool false) ∧ w' = (((w.alloc (.cells #[.pointer (some t)] 202)).alloc (.cells #[.pointer (some ⟨1, 202, none⟩), .pointer (some ⟨w.heap.size, 0, none⟩), .int .u64 150] 279)).alloc (.cells #[.pointer (some ⟨1, 202, none⟩), .pointer (some ⟨w.heap.size, 0, none⟩), .int .u64 150] 279)) := by
  have h140 := @run_callFunc_extern Tryz.prog 140 _ (fun args => ReflectliteValue.unpack (args.getD 0 (.tuple #[]))) Tryz.func140 (by kernel_rfl) (by kernel_rfl) (by kernel_rfl) (by kernel_rfl)
  have h141 := @run_callFunc_extern Tryz.prog 141 _ (ReflectliteValue.methodAny (ReflectliteValue.valueError "reflectlite.Value.Type" 0) (fun t _ _ _ => ReflectliteType.toType t)) Tryz.func141 (by kernel_rfl) (by kernel_rfl) (by kernel_rfl) (by kernel_rfl)
  have h142 := @run_callFunc_extern Tryz.prog 142 _ (ReflectliteValue.method (ReflectliteValue.valueError "reflectlite.Value.IsNil" 0) ReflectliteValue.isNil) Tryz.func142 (by kernel_rfl) (by kernel_rfl) (by kernel_rfl) (by kernel_rfl)
  have h243 := @run_callFunc_extern Tryz.prog 243 _ (ReflectliteType.abiMethod fun t => do pure (.int .u8 (← Rtype.kind t))) Tryz.func243 (by kernel_rfl) (by kernel_rfl) (by kernel_rfl) (by kernel_rfl)
  have h261 := @run_callFunc_extern Tryz.prog 261 _ (ReflectliteType.method ReflectliteType.elem) Tryz.func261 (by kernel_rfl) (by kernel_rfl) (by kernel_rfl) (by kernel_rfl)
  have h262 := @run_callFunc_extern Tryz.prog 262 _ (ReflectliteType.relation "Implements" ReflectliteType.implements_) Tryz.func262 (by kernel_rfl) (by kernel_rfl) (by kernel_rfl) (by kernel_rfl)
  have f6 := z4o
  have f7 := j15
  have mK := mKind
  have mE := mElem
  have mI := z4l
  have k1 := kind202
  have k2 := kind98
  have e1 := elem202
  have i1 := z2n
  have hlt := q7n hg
  have htl := q7n ht
  have n8 := j2q ⟨w.heap.size, 0, none⟩ t ((w.alloc (.cells #[.pointer (some t)] 202)).alloc (.cells #[.pointer (some ⟨1, 202, none⟩), .pointer (some ⟨w.heap.size, 0, none⟩), .int .u64 150] 279)) (by simp)
  have hg2 : ((w.alloc (.cells #[.pointer (some t)] 202)).alloc (.cells #[.pointer (some ⟨1, 202, none⟩), .pointer (some ⟨w.heap.size, 0, none⟩), .int .u64 150] 279)).cell? ⟨0, 0, none⟩ = some (.iface 338 (.agg #[.pointer (some ⟨1, 34, none⟩)])) := by
    rw [World.cell?_alloc_lt _ _ ⟨0, 0, none⟩ (by simp), World.cell?_alloc_lt _ _ ⟨0, 0, none⟩ hlt]; exact hg
  have c2 : ((w.alloc (.cells #[.pointer (some t)] 202)).alloc (.cells #[.pointer (some ⟨1, 202, none⟩), .pointer (some ⟨w.heap.size, 0, none⟩), .int .u64 150] 279)).cell? ⟨w.heap.size, 0, none⟩ = some (.pointer (some t)) := by
    rw [World.cell?_alloc_lt _ _ ⟨w.heap.size, 0, none⟩ (by simp)]; simp
  have c3 : ((w.alloc (.cells #[.pointer (some t)] 202)).alloc (.cells #[.pointer (some ⟨1, 202, none⟩), .pointer (some ⟨w.heap.size, 0, none⟩), .int .u64 150] 279)).cell? t = some old := by
    rw [World.cell?_alloc_lt _ _ t (by simp; omega), World.cell?_alloc_lt _ _ t htl]; exact ht
  have c4 : ((w.alloc (.cells #[.pointer (some t)] 202)).alloc (.cells #[.pointer (some ⟨1, 202, none⟩), .pointer (some ⟨w.heap.size, 0, none⟩), .int .u64 150] 279)).frozen? t = false := by
    rw [World.frozen?_alloc_old _ _ t (by simp; omega), World.frozen?_alloc_old _ _ t (Nat.ne_of_lt htl)]; exact hf
  have cc := as98n (W := ((w.alloc (.cells #[.pointer (some t)] 202)).alloc (.cells #[.pointer (some ⟨1, 202, none⟩), .pointer (some ⟨w.heap.size, 0, none⟩), .int .u64 150] 279))) u v k ⟨w.heap.size, 0, none⟩ t old hch.alloc.alloc c2 c3 c4
  go_enter Tryz.func85, Tryz.ntmps85
  go_wp2_with (go_at_call 143; refine Calls.mono cc ?_; rintro e w' ⟨rfl, rfl⟩)
  all_goals (try go_wp2)
  go_ret
  exact ⟨rfl, rfl⟩
set_option maxHeartbeats 4000000 in
set_option maxRecDepth 1000000 in
theorem As98s {w : World} (u : TypeId) (v : Value) (n : Int) (k : Nat) (t : Addr) (old : Value) (hch : ErrC w (.iface u v) (some n) k) (hg : w.cell? ⟨0, 0, none⟩ = some (.iface 338 (.agg #[.pointer (some ⟨1, 34, none⟩)]))) (ht : w.cell? t = some old) (hf : w.frozen? t = false) :
    Calls Tryz.prog 85 #[.iface u v, .iface 202 (.pointer (some t))] w fun e w' => e = .returned (.bool true) ∧ w' = ((((w.alloc (.cells #[.pointer (some t)] 202)).alloc (.cells #[.pointer (some ⟨1, 202, none⟩), .pointer (some ⟨w.heap.size, 0, none⟩), .int .u64 150] 279)).alloc (.cells #[.pointer (some ⟨1, 202, none⟩), .pointer (some ⟨w.heap.size, 0, none⟩), .int .u64 150] 279)).alloc (.cells #[.int .i64 n] 98)).setCell t (.int .i64 n) := by
  have h140 := @run_callFunc_extern Tryz.prog 140 _ (fun args => ReflectliteValue.unpack (args.getD 0 (.tuple #[]))) Tryz.func140 (by kernel_rfl) (by kernel_rfl) (by kernel_rfl) (by kernel_rfl)
  have h141 := @run_callFunc_extern Tryz.prog 141 _ (ReflectliteValue.methodAny (ReflectliteValue.valueError "reflectlite.Value.Type" 0) (fun t _ _ _ => ReflectliteType.toType t)) Tryz.func141 (by kernel_rfl) (by kernel_rfl) (by kernel_rfl) (by kernel_rfl)
  have h142 := @run_callFunc_extern Tryz.prog 142 _ (ReflectliteValue.method (ReflectliteValue.valueError "reflectlite.Value.IsNil" 0) ReflectliteValue.isNil) Tryz.func142 (by kernel_rfl) (by kernel_rfl) (by kernel_rfl) (by kernel_rfl)
  have h243 := @run_callFunc_extern Tryz.prog 243 _ (ReflectliteType.abiMethod fun t => do pure (.int .u8 (← Rtype.kind t))) Tryz.func243 (by kernel_rfl) (by kernel_rfl) (by kernel_rfl) (by kernel_rfl)
  have h261 := @run_callFunc_extern Tryz.prog 261 _ (ReflectliteType.method ReflectliteType.elem) Tryz.func261 (by kernel_rfl) (by kernel_rfl) (by kernel_rfl) (by kernel_rfl)
  have h262 := @run_callFunc_extern Tryz.prog 262 _ (ReflectliteType.relation "Implements" ReflectliteType.implements_) Tryz.func262 (by kernel_rfl) (by kernel_rfl) (by kernel_rfl) (by kernel_rfl)
  have f6 := z4o
  have f7 := j15
  have mK := mKind
  have mE := mElem
  have mI := z4l
  have k1 := kind202
  have k2 := kind98
  have e1 := elem202
  have i1 := z2n
  have hlt := q7n hg
  have htl := q7n ht
  have n8 := j2q ⟨w.heap.size, 0, none⟩ t ((w.alloc (.cells #[.pointer (some t)] 202)).alloc (.cells #[.pointer (some ⟨1, 202, none⟩), .pointer (some ⟨w.heap.size, 0, none⟩), .int .u64 150] 279)) (by simp)
  have hg2 : ((w.alloc (.cells #[.pointer (some t)] 202)).alloc (.cells #[.pointer (some ⟨1, 202, none⟩), .pointer (some ⟨w.heap.size, 0, none⟩), .int .u64 150] 279)).cell? ⟨0, 0, none⟩ = some (.iface 338 (.agg #[.pointer (some ⟨1, 34, none⟩)])) := by
    rw [World.cell?_alloc_lt _ _ ⟨0, 0, none⟩ (by simp), World.cell?_alloc_lt _ _ ⟨0, 0, none⟩ hlt]; exact hg
  have c2 : ((w.alloc (.cells #[.pointer (some t)] 202)).alloc (.cells #[.pointer (some ⟨1, 202, none⟩), .pointer (some ⟨w.heap.size, 0, none⟩), .int .u64 150] 279)).cell? ⟨w.heap.size, 0, none⟩ = some (.pointer (some t)) := by
    rw [World.cell?_alloc_lt _ _ ⟨w.heap.size, 0, none⟩ (by simp)]; simp
  have c3 : ((w.alloc (.cells #[.pointer (some t)] 202)).alloc (.cells #[.pointer (some ⟨1, 202, none⟩), .pointer (some ⟨w.heap.size, 0, none⟩), .int .u64 150] 279)).cell? t = some old := by
    rw [World.cell?_alloc_lt _ _ t (by simp; omega), World.cell?_alloc_lt _ _ t htl]; exact ht
  have c4 : ((w.alloc (.cells #[.pointer (some t)] 202)).alloc (.cells #[.pointer (some ⟨1, 202, none⟩), .pointer (some ⟨w.heap.size, 0, none⟩), .int .u64 150] 279)).frozen? t = false := by
    rw [World.frozen?_alloc_old _ _ t (by simp; omega), World.frozen?_alloc_old _ _ t (Nat.ne_of_lt htl)]; exact hf
  have cc := as98s (W := ((w.alloc (.cells #[.pointer (some t)] 202)).alloc (.cells #[.pointer (some ⟨1, 202, none⟩), .pointer (some ⟨w.heap.size, 0, none⟩), .int .u64 150] 279))) u v n k ⟨w.heap.size, 0, none⟩ t old hch.alloc.alloc c2 c3 c4
  go_enter Tryz.func85, Tryz.ntmps85
  go_wp2_with (go_at_call 143; refine Calls.mono cc ?_; rintro e w' ⟨rfl, rfl⟩)
  all_goals (try go_wp2)
  go_ret
  exact ⟨rfl, rfl⟩
end Go.Proofs.YtdjkdmjdcdljmaaGreatDoorY
namespace Go.Proofs.YtdjkdmjdcdljmaaGreatDoorY
open Go.RowKit Go.Extern.Stop Go.Stop Go.Extern
theorem errC_of {M : Cfg} (h1 : M.errno = 98) (h2 : M.placed = 203) {Z : Zone} {w : World} : ∀ {e : Err} {E : Value}, ErrR M Z w e E → e.isNil = false → ∃ k u v, E = .iface u v ∧ ErrC w (.iface u v) (asNo e) k
  | .nil, _, _, h => by cases h
  | .no n, E, he, _ => by
    simp only [ErrR, h1] at he
    subst he
    exact ⟨0, _, _, rfl, .no n⟩
  | .at p e, E, he, _ => by
    simp only [ErrR, h2] at he
    obtain ⟨b, cs, el, fr, u, post, rfl, hz, hb, hcs, hr⟩ := he
    have hc : w.cell? ⟨b, 1, none⟩ = some u := by
      simp only [World.cell?, hb]
      have : cs[1]? = some u := by rw [← Array.getElem?_toList, hcs]; rfl
      simpa using this
    cases hn : e.isNil with
    | true =>
      cases e with
      | nil =>
        simp only [ErrR] at hr
        subst hr
        exact ⟨0, _, _, rfl, .last b hc⟩
      | no n => cases hn
      | «at» p e => cases hn
    | false =>
      obtain ⟨k, u1, v1, rfl, hch⟩ := errC_of h1 h2 hr hn
      exact ⟨k + 1, _, _, rfl, .wrap b _ _ k hc hch⟩
set_option maxHeartbeats 4000000 in
set_option maxRecDepth 1000000 in
theorem j32 {M : Cfg} (h1 : M.errno = 98) (h2 : M.placed = 203) {Z : Zone} {w : World} {e : Err} {E : Value} (he : ErrR M Z w e E) (hg : w.cell? ⟨0, 0, none⟩ = some (.iface 338 (.agg #[.pointer (some ⟨1, 34, none⟩)]))) :
    Calls Tryz.prog 30 #[E] w fun ev w' => ev = .returned (.int .i64 (z1m e)) ∧ Below w.heap.size w w' := by
  cases hn : e.isNil with
  | true =>
    have : E = .nilIface := by
      cases e with
      | nil => simpa only [ErrR] using he
      | no n => cases hn
      | «at» p e => cases hn
    subst this
    have hk : z1m e = 0 := by unfold z1m; rw [hn]; rfl
    go_enter Tryz.func30, Tryz.ntmps30
    go_wp2
    go_ret
    exact ⟨by rw [hk]; rfl, Below.refl _ _⟩
  | false =>
    obtain ⟨k, u, v, rfl, hch⟩ := errC_of h1 h2 he hn
    have hlt := q7n hg
    have hg' : (w.alloc (.cells #[.int .i64 0] 98)).cell? ⟨0, 0, none⟩ = some (.iface 338 (.agg #[.pointer (some ⟨1, 34, none⟩)])) := by
      rw [World.cell?_alloc_lt _ _ ⟨0, 0, none⟩ hlt]; exact hg
    have ht : (w.alloc (.cells #[.int .i64 0] 98)).cell? ⟨w.heap.size, 0, none⟩ = some (.int .i64 0) := by
      rw [World.cell?_alloc_at _ _ _ _ rfl]; rfl
    have hf : (w.alloc (.cells #[.int .i64 0] 98)).frozen? ⟨w.heap.size, 0, none⟩ = false := World.frozen?_alloc_new _ _ _ 0
    have hb0 : Below w.heap.size w (w.alloc (.cells #[.int .i64 0] 98)) := (Below.refl _ w).alloc (Nat.le_refl _) _
    cases hr : asNo e with
    | none =>
      rw [hr] at hch
      have hk : z1m e = 21 := by unfold z1m; rw [hn, hr]; rfl
      have cc := As98n (w := w.alloc (.cells #[.int .i64 0] 98)) u v k ⟨w.heap.size, 0, none⟩ (.int .i64 0) hch.alloc hg' ht hf
      go_enter Tryz.func30, Tryz.ntmps30
      go_wp2_with (go_at_call 85; refine Calls.mono cc ?_; rintro e w' ⟨rfl, rfl⟩)
      all_goals (try go_wp2)
      go_ret
      refine ⟨by rw [hk]; rfl, ?_⟩
      exact ((hb0.alloc (by simp) _).alloc (by simp; omega) _).alloc (by simp; omega) _
    | some n =>
      rw [hr] at hch
      have hk : z1m e = n := by unfold z1m; rw [hn, hr]; rfl
      have cc := As98s (w := w.alloc (.cells #[.int .i64 0] 98)) u v n k ⟨w.heap.size, 0, none⟩ (.int .i64 0) hch.alloc hg' ht hf
      have hc : (((((w.alloc (.cells #[.int .i64 0] 98)).alloc (.cells #[.pointer (some ⟨w.heap.size, 0, none⟩)] 202)).alloc (.cells #[.pointer (some ⟨1, 202, none⟩), .pointer (some ⟨(w.alloc (.cells #[.int .i64 0] 98)).heap.size, 0, none⟩), .int .u64 150] 279)).alloc (.cells #[.pointer (some ⟨1, 202, none⟩), .pointer (some ⟨(w.alloc (.cells #[.int .i64 0] 98)).heap.size, 0, none⟩), .int .u64 150] 279)).alloc (.cells #[.int .i64 n] 98)).cell? ⟨w.heap.size, 0, none⟩ = some (.int .i64 0) := by
        rw [World.cell?_alloc_lt _ _ ⟨w.heap.size, 0, none⟩ (by simp; omega), World.cell?_alloc_lt _ _ ⟨w.heap.size, 0, none⟩ (by simp; omega), World.cell?_alloc_lt _ _ ⟨w.heap.size, 0, none⟩ (by simp; omega), World.cell?_alloc_lt _ _ ⟨w.heap.size, 0, none⟩ (by simp)]
        exact ht
      have hc2 := World.cell?_setCell_same' _ ⟨w.heap.size, 0, none⟩ (.int .i64 n) (by rw [hc]; rfl)
      go_enter Tryz.func30, Tryz.ntmps30
      go_wp2_with (go_at_call 85; refine Calls.mono cc ?_; rintro e w' ⟨rfl, rfl⟩)
      all_goals (try go_wp2)
      go_ret
      refine ⟨by rw [hk]; rfl, ?_⟩
      exact (((((Below.refl _ w).alloc (Nat.le_refl _) _).alloc (by simp) _).alloc (by simp; omega) _).alloc (by simp; omega) _).alloc (by simp; omega) _
theorem j3d {M : Cfg} (hP : M.P = Tryz.prog) (h1 : M.errno = 98) (h2 : M.placed = 203) (x : Err × Unit) : Rets M 30 ⟨.ty .err, [], .ty (.int .i64), []⟩ x (z1m x.1, ()) := by
  intro σ Z w args hinv hargs hheap hfresh
  have hlen := hargs.length
  obtain ⟨E, rfl⟩ : ∃ E, args = [E] := by
    match args, hlen with
    | [E], _ => exact ⟨E, rfl⟩
  have he : ErrR M Z w x.1 E := RVs.one.1 hargs
  obtain ⟨_, hg⟩ := hinv.glob _ rfl
  rw [hP]
  refine (j32 h1 h2 he hg).mono fun ev w' ⟨e1, hb⟩ => ?_
  have mv := q4a.z7f (M := M) hinv hb
  exact ⟨[.int .i64 (z1m x.1)], σ, Z, e1, ⟨_, _, rfl, ⟨rfl, rfl⟩, rfl⟩, (fun F he h => by simp [encH] at h), hfresh, mv.inv, (Frm.start σ Z w _).move mv⟩
end Go.Proofs.YtdjkdmjdcdljmaaGreatDoorY
