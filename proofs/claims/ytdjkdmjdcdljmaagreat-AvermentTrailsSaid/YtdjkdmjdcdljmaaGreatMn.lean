/- Own work. No condition. -/
import Derived.Test.YtdjkdmjdcdljmaaGreatMm

namespace Go.Proofs.YtdjkdmjdcdljmaaGreatX
open Go.RowKit
set_option linter.unusedVariables false
set_option linter.unusedSimpArgs false
variable {M : Cfg} {α : Type}

structure Ent where
  σ : Num
  Z : Zone
  w : World
  m : Nat
structure Frm (E : Ent) (σ : Num) (Z : Zone) (w : World) : Prop where
  os : w.os = E.w.os
  tape : w.tape = E.w.tape
  output : w.output = E.w.output
  size : E.w.heap.size ≤ w.heap.size
  block : ∀ r, r < E.w.heap.size → ¬ E.σ.own r → w.heap[r]? = E.w.heap[r]?
  zone : ∀ r, E.Z r → Z r
  znew : ∀ r, Z r → E.Z r ∨ E.σ.own r ∨ E.w.heap.size ≤ r
  own : ∀ r, σ.own r → E.σ.own r ∨ E.w.heap.size ≤ r
  mono : ∀ F, F < E.m → ∀ k, StLe (E.σ F k) (σ F k)
theorem Frm.start (σ : Num) (Z : Zone) (w : World) (m : Nat) : Frm ⟨σ, Z, w, m⟩ σ Z w := ⟨rfl, rfl, rfl, Nat.le_refl _, fun _ _ _ => rfl, fun _ h => h, fun _ h => .inl h, fun _ h => .inl h, fun _ _ _ => .same _⟩
theorem Frm.move {E : Ent} {σ σ' : Num} {Z Z' : Zone} {w w' : World} {chg : List (Nat × HE)} (h : Frm E σ Z w) (m : Moves M σ Z w σ' Z' w' chg) : Frm E σ' Z' w' := by
  have hsz := h.size
  have hsz' := m.size
  refine ⟨m.os.trans h.os, m.tape.trans h.tape, m.output.trans h.output, by omega, fun r hr ho => ?_, fun r hr => m.zone r (h.zone r hr), fun r hr => ?_, fun r ⟨F, k, hr⟩ => ?_, fun F hF k => (h.mono F hF k).trans (m.st F k)⟩
  · refine (m.block r (by omega) fun ho' => ?_).trans (h.block r hr ho)
    rcases h.own r ho'.own with h1 | h1
    · exact ho h1
    · omega
  · rcases m.znew r hr with h1 | h1 | h1
    · exact h.znew r h1
    · rcases h.own r h1.own with h2 | h2
      · exact .inr (.inl h2)
      · exact .inr (.inr h2)
    · exact .inr (.inr (by omega))
  · by_cases hF : F ∈ fams chg
    · rcases m.new F k r hF hr with h1 | h1
      · exact h.own r h1.own
      · exact .inr (by omega)
    · obtain ⟨s, e1, e2⟩ := hr
      rw [m.other F hF] at e1
      exact h.own r ⟨F, k, s, e1, e2⟩
structure Rel (M : Cfg) (E : Ent) (F : Fs) (n : Nat) (σ : Num) (Z : Zone) (a : Act) (w : World) : Prop where
  env : ∀ t v, F.e t = some v → RV M σ Z w v (a.eval (.tmp t))
  size : a.tmps.size = n
  defers : a.defers = []
  heap : ∀ G he, F.h G = some he → HER M σ Z w G he
  fresh : ∀ G, F.h G = none → ∀ k, σ G k = .fresh
  inv : Inv σ Z w
  frm : Frm E σ Z w

theorem ev_put {a : Act} {d : Option Tmp} {v : Value} {t : Nat} : (a.put d v).eval (.tmp t) = if d = some t ∧ t < a.tmps.size then v else a.eval (.tmp t) := by
  cases d with
  | none => simp [Act.put]
  | some d =>
    by_cases e : d = t
    · subst e
      by_cases hlt : d < a.tmps.size
      · simp [Act.put, Act.eval, hlt]
      · simp [Act.put, Act.eval, hlt]
    · simp [Act.put, Act.eval, Array.getElem?_setIfInBounds_ne e, e]
theorem put_size {a : Act} {d : Option Tmp} {v : Value} : (a.put d v).tmps.size = a.tmps.size := by cases d <;> simp [Act.put]
theorem put_def {a : Act} {d : Option Tmp} {v : Value} : (a.put d v).defers = a.defers := by cases d <;> rfl

def look2 : List (Nat × HE) → Nat → Option HE
  | [], _ => none
  | (F, he) :: r, G => if F = G then some he else look2 r G
theorem look2_mem : ∀ {l : List (Nat × HE)} {G : Nat} {he : HE}, look2 l G = some he → (G, he) ∈ l
  | [], _, _, h => by cases h
  | (F, x) :: r, G, he, h => by
    simp only [look2] at h
    split at h
    · rename_i e; subst e; cases h; simp
    · exact List.mem_cons_of_mem _ (look2_mem h)
theorem look2_fams : ∀ {l : List (Nat × HE)} {G : Nat}, G ∈ fams l → ∃ he, look2 l G = some he
  | [], G, h => by simp [fams] at h
  | (F, x) :: r, G, h => by
    simp only [look2]
    by_cases e : F = G
    · exact ⟨x, if_pos e⟩
    · rw [if_neg e]
      exact look2_fams (by simp [fams] at h ⊢; rcases h with h | h; exact absurd h.symm e; exact h)
theorem look2_none {l : List (Nat × HE)} {G : Nat} (h : look2 l G = none) : G ∉ fams l := fun h1 => by obtain ⟨he, e⟩ := look2_fams h1; rw [h] at e; cases e
def Fs.put (F : Fs) (o : Oper) (out : Out) : Fs := { e := fun t => if o.dst = some t then some out.v else F.e t, h := fun G => match look2 out.chg G with | some he => some he | none => F.h G }

theorem leaf_of_vlit {σ : Num} {Z : Zone} {w : World} {u : Value} {v : V} (h : vlit u = some v) : RV M σ Z w v u := by
  unfold vlit at h
  cases hl : leafB u with
  | true => rw [hl] at h; simp at h; subst h; simp only [RV]; exact ⟨hl, by trivial⟩
  | false =>
    rw [hl] at h
    simp only [cond_false] at h
    split at h
    · rename_i fn first captured
      cases hc : (first.isEmpty && captured.isEmpty) with
      | false => rw [hc] at h; cases h
      | true =>
        rw [hc] at h
        simp only [cond_true, Option.some.injEq] at h
        subst h
        simp only [Bool.and_eq_true, Array.isEmpty_iff] at hc
        simp only [RV, RVs]
        exact ⟨first, captured, rfl, by simp [hc.1], by simp [hc.2]⟩
    · cases h
theorem Fs.ev_rv {E : Ent} {F : Fs} {n : Nat} {σ : Num} {Z : Zone} {a : Act} {w : World} (h : Rel M E F n σ Z a w) {x : Operand} {v : V} (hx : F.ev x = some v) : RV M σ Z w v (a.eval x) := by
  cases x with
  | tmp t => exact h.env t v hx
  | const u => exact leaf_of_vlit hx
  | func f =>
    simp only [Fs.ev, Option.some.injEq] at hx
    subst hx
    simp only [RV, RVs]
    exact ⟨#[], #[], rfl, rfl, rfl⟩
  | global g => cases hx

theorem Rel.step {E : Ent} {F : Fs} {n : Nat} {σ : Num} {Z : Zone} {a : Act} {w : World} (h : Rel M E F n σ Z a w) {o : Oper} {out : Out} (hd : ∀ d, o.dst = some d → d < n) {v' : Value} {w' : World} {σ' : Num} {Z' : Zone} (hv : RV M σ' Z' w' out.v v') (m : Moves M σ Z w σ' Z' w' out.chg) :
    Rel M E (F.put o out) n σ' Z' (a.put o.dst v') w' := by
  refine ⟨fun t u hu => ?_, by rw [put_size, h.size], by rw [put_def, h.defers], fun G he hG => ?_, fun G hG k => ?_, m.inv, h.frm.move m⟩
  · rw [ev_put]
    simp only [Fs.put] at hu
    by_cases e : o.dst = some t
    · rw [if_pos e] at hu
      rw [if_pos ⟨e, by rw [h.size]; exact hd t e⟩]
      cases hu; exact hv
    · rw [if_neg e] at hu
      rw [if_neg (fun k => e k.1)]
      exact (h.env t u hu).mono (m.le h.inv)
  · simp only [Fs.put] at hG
    split at hG
    · rename_i he' e; cases hG; exact m.her G he (look2_mem e)
    · rename_i e; exact m.keep h.inv (look2_none e) (h.heap G he hG)
  · simp only [Fs.put] at hG
    split at hG
    · cases hG
    · rename_i e; rw [m.other G (look2_none e)]; exact h.fresh G hG k
theorem Rel.run {E : Ent} {F : Fs} {n : Nat} {σ : Num} {Z : Zone} {a : Act} {w : World} (h : Rel M E F n σ Z a w) {o : Oper} {out : Out} (hg : Good M F o out) (hd : ∀ d, o.dst = some d → d < n) {K : Act → World → Prop} {Q : Exit → Act → World → Prop}
    (hK : ∀ a' w' σ' Z', Rel M E (F.put o out) n σ' Z' a' w' → K a' w') : o.wp M.P a w K Q :=
  hg σ Z a w h.inv (fun x _ v hv => Fs.ev_rv h hv) (fun G _ he hG => h.heap G he hG) (fun G _ hG => h.fresh G hG) K Q fun v' w' σ' Z' hv m => hK _ w' σ' Z' (h.step hd hv m)

theorem setHE_get {H : List HE} {F : Nat} {he : HE} (hF : F ≤ H.length) (G : Nat) : (setHE H F he)[G]? = if F = G then some he else H[G]? := by
  unfold setHE
  cases hb : Nat.blt F H.length with
  | true =>
    have : F < H.length := Nat.le_of_ble_eq_true hb
    simp only [cond_true]
    by_cases e : F = G
    · subst e; simp [this]
    · rw [if_neg e, List.getElem?_set_ne e]
  | false =>
    have : F = H.length := by
      have : ¬ F < H.length := fun h => by rw [show Nat.blt F H.length = true from Nat.ble_eq_true_of_le h] at hb; cases hb
      omega
    subst this
    simp only [cond_false]
    by_cases e : H.length = G
    · subst e; simp
    · rw [if_neg e]
      by_cases hlt : G < H.length
      · rw [List.getElem?_append_left hlt]
      · rw [List.getElem?_eq_none (by simp; omega), List.getElem?_eq_none (by omega)]
theorem setHE_len {H : List HE} {F : Nat} {he : HE} : (setHE H F he).length = if Nat.blt F H.length = true then H.length else H.length + 1 := by
  unfold setHE
  cases hb : Nat.blt F H.length <;> simp
theorem nodup_spec : ∀ {l : List (Nat × HE)} {F : Nat} {he : HE}, nodupB ((F, he) :: l) = true → look2 l F = none ∧ nodupB l = true := by
  intro l F he h
  simp only [nodupB, Bool.and_eq_true, Bool.not_eq_true'] at h
  refine ⟨?_, h.2⟩
  cases hq : look2 l F with
  | none => rfl
  | some x =>
    have := look2_mem hq
    have h2 : hasB (l.map (·.1)) F = true := List.any_eq_true.2 ⟨F, List.mem_map.2 ⟨_, this, rfl⟩, Nat.beq_refl F⟩
    rw [h2] at h; cases h.1
theorem apply_get : ∀ {l : List (Nat × HE)} {H : List HE}, chgOk H.length l = true → nodupB l = true → ∀ G, (applyChg H l)[G]? = match look2 l G with | some he => some he | none => H[G]?
  | [], H, _, _, G => rfl
  | (F, he) :: l, H, h, hn, G => by
    obtain ⟨h1, h2⟩ := nodup_spec hn
    simp only [chgOk] at h
    have hF : F ≤ H.length ∧ chgOk (setHE H F he).length l = true := by
      rw [setHE_len]
      cases hb : Nat.blt F H.length with
      | true => rw [hb] at h; simp only [cond_true] at h; exact ⟨Nat.le_of_lt (Nat.le_of_ble_eq_true hb), by simpa using h⟩
      | false =>
        rw [hb] at h
        simp only [cond_false, Bool.and_eq_true] at h
        exact ⟨Nat.le_of_eq (Nat.eq_of_beq_eq_true h.1), by simpa using h.2⟩
    simp only [applyChg, look2]
    rw [apply_get hF.2 h2 G, setHE_get hF.1]
    by_cases e : F = G
    · subst e; rw [h1]; simp
    · simp only [if_neg e]
theorem put_fs {S : St} {o : Oper} {out : Out} (h : outOk S out = true) : (S.put o out).fs = S.fs.put o out := by
  unfold outOk at h
  rw [Bool.and_eq_true] at h
  unfold St.fs Fs.put St.put
  congr 1
  · funext t
    cases hd : o.dst with
    | none => simp
    | some d =>
      by_cases e : d = t
      · subst e; simp [look, Nat.beq_refl]
      · have : Nat.beq d t = false := by rw [← Bool.not_eq_true]; intro hh; exact e (Nat.eq_of_beq_eq_true hh)
        simp [look, this, e]
  · funext G; exact apply_get h.1 h.2 G
theorem put_n {S : St} {o : Oper} {out : Out} : (S.put o out).n = S.n := rfl
theorem dst_lt {S : St} {o : Oper} (h : S.dstOk o = true) : ∀ d, o.dst = some d → d < S.n := by
  intro d hd
  simp only [St.dstOk, hd] at h
  exact Nat.le_of_ble_eq_true h
theorem know_fs {S : St} {t : Nat} {v : V} (hv : look S.env t = some v) : (S.know t v).fs = S.fs := by
  unfold St.fs St.know
  congr 1
  funext u
  by_cases e : t = u
  · subst e; simp [look, hv]
  · have : Nat.beq t u = false := by rw [← Bool.not_eq_true]; intro hh; exact e (Nat.eq_of_beq_eq_true hh)
    simp [look, this]
theorem Rel.know {E : Ent} {S : St} {σ : Num} {Z : Zone} {a : Act} {w : World} (h : Rel M E S.fs S.n σ Z a w) {t : Nat} {v : V} (hv : look S.env t = some v) : Rel M E (S.know t v).fs (S.know t v).n σ Z a w := by
  rw [know_fs hv]; exact h

structure Ob where
  o : Oper
  out : Out
  run : Bool
  S : St
def Ob.F (x : Ob) : Fs := x.S.fs
def Ob.note (x : Ob) : Rec := recOf x.out
def Chain : Fs → List Ob → Fs → Prop
  | F, [], F' => F = F'
  | F, x :: xs, F' => x.F = F ∧ Chain (F.put x.o x.out) xs F'
def guardSays (F : Fs) (ops : Array Oper) (o : Oper) : Option Bool :=
  match o.guard with
  | none => some true
  | some (j, want) => match (ops[j]?).bind (·.dst) with
    | some d => match F.e d with
      | some (.lf (.bool b)) => some (b == want)
      | some (.tup _) => some false
      | _ => none
    | none => none
structure ObOk (M : Cfg) (ops : Array Oper) (n : Nat) (x : Ob) : Prop where
  dst : ∀ d, x.o.dst = some d → d < n
  guard : guardSays x.F ops x.o = some x.run
  does : x.run = true → Good M x.F x.o x.out
  skip : x.run = false → x.out = skipOut
theorem skip_ok (S : St) : outOk S skipOut = true := rfl

theorem vseq_spec {C : CallsBy α} {E : EqBy} {ops : Array Oper} (hC : CallsOk M C) (hE : EqOk M.P E) : ∀ {l : List Oper} {S : St} {rs : List Rec} {k : St → List Rec → Option α} {r : α},
    vseq M C E ops l S rs k = some r → ∃ xs S', xs.map Ob.o = l ∧ Chain S.fs xs S'.fs ∧ S'.n = S.n ∧ (∀ x ∈ xs, ObOk M ops S.n x) ∧ k S' (rs ++ xs.map Ob.note) = some r
  | [], S, rs, k, r, h => ⟨[], S, rfl, rfl, rfl, by simp, by simpa [vseq] using h⟩
  | o :: rest, S, rs, k, r, h => by
    simp only [vseq] at h
    obtain ⟨hd, h⟩ := bif_some h
    have hdst := dst_lt hd
    have go : ∀ (T : St) (out : Out) (run : Bool), T.fs = S.fs → T.heap = S.heap → T.n = S.n → guardSays S.fs ops o = some run → (run = true → Good M T.fs o out) → (run = false → out = skipOut) → outOk S out = true →
        vseq M C E ops rest (T.put o out) (rs ++ [recOf out]) k = some r →
        ∃ xs S', xs.map Ob.o = o :: rest ∧ Chain S.fs xs S'.fs ∧ S'.n = S.n ∧ (∀ x ∈ xs, ObOk M ops S.n x) ∧ k S' (rs ++ xs.map Ob.note) = some r := by
      intro T out run hfs hheap hn hgs hg hs hok hv
      obtain ⟨xs, S', h1, h2, h3, h4, h5⟩ := vseq_spec hC hE hv
      have hok' : outOk T out = true := by unfold outOk at hok ⊢; rw [hheap]; exact hok
      refine ⟨⟨o, out, run, T⟩ :: xs, S', by simp [h1], ⟨hfs, ?_⟩, h3.trans hn, ?_, ?_⟩
      · rw [put_fs hok', hfs] at h2; exact h2
      · intro x hx
        rcases List.mem_cons.1 hx with rfl | hx
        · exact ⟨hdst, by show guardSays T.fs ops o = _; rw [hfs]; exact hgs, hg, hs⟩
        · have := h4 x hx
          rw [put_n, hn] at this
          exact this
      · simpa [List.append_assoc, Ob.note] using h5
    cases hgd : o.guard with
    | none =>
      simp only [hgd] at h
      obtain ⟨out, h1, h2⟩ := vop_good hC hE h
      obtain ⟨hok, h1⟩ := bif_some h1
      exact go S out true rfl rfl rfl (by simp [guardSays, hgd]) (fun _ => h2) (fun e => by cases e) hok h1
    | some jw =>
      obtain ⟨j, want⟩ := jw
      simp only [hgd] at h
      cases hdj : (ops[j]?).bind (·.dst) with
      | none => simp only [hdj] at h; cases h
      | some d =>
        simp only [hdj] at h
        have hsays : ∀ b, look S.env d = some (.lf (.bool b)) → guardSays S.fs ops o = some (b == want) := by
          intro b hb
          simp only [guardSays, hgd, hdj]
          simp only [St.fs, hb]
        split at h
        · rename_i g hb
          have hk := know_fs hb
          have both : ∀ b : Bool, look S.env d = some (.lf (.bool b)) → (vop M C E (S.know d (.lf (.bool b))) o fun out => bif outOk S out then vseq M C E ops rest ((S.know d (.lf (.bool b))).put o out) (rs ++ [recOf out]) k else none) = some r → want = b →
              ∃ xs S', xs.map Ob.o = o :: rest ∧ Chain S.fs xs S'.fs ∧ S'.n = S.n ∧ (∀ x ∈ xs, ObOk M ops S.n x) ∧ k S' (rs ++ xs.map Ob.note) = some r := by
            intro b hb h hw
            obtain ⟨out, h1, h2⟩ := vop_good hC hE h
            obtain ⟨hok, h1⟩ := bif_some h1
            exact go _ out true (know_fs hb) rfl rfl (by rw [hsays b hb, hw]; cases b <;> rfl) (fun _ => h2) (fun e => by cases e) hok h1
          cases g with
          | true =>
            simp only [cond_true] at h
            cases want with
            | true => simp only [cond_true] at h; exact both true hb h rfl
            | false =>
              simp only [cond_false] at h
              exact go _ skipOut false hk rfl rfl (hsays _ hb) (fun e => by cases e) (fun _ => rfl) (skip_ok _) h
          | false =>
            simp only [cond_false] at h
            cases want with
            | true =>
              simp only [cond_true] at h
              exact go _ skipOut false hk rfl rfl (hsays _ hb) (fun e => by cases e) (fun _ => rfl) (skip_ok _) h
            | false => simp only [cond_false] at h; exact both false hb h rfl
        · rename_i cs hb
          refine go S skipOut false rfl rfl rfl ?_ (fun e => by cases e) (fun _ => rfl) (skip_ok _) h
          simp only [guardSays, hgd, hdj, St.fs, hb]
        · cases h

theorem wanted_of {E : Ent} {F : Fs} {n : Nat} {σ : Num} {Z : Zone} {a : Act} {w : World} (h : Rel M E F n σ Z a w) {ops : Array Oper} {o : Oper} {run : Bool} (hg : guardSays F ops o = some run) :
    Region.wanted o (yielded ops a.tmps) = run := by
  unfold guardSays at hg
  unfold Region.wanted
  cases hgd : o.guard with
  | none => simp [hgd] at hg; simp [hg]
  | some jw =>
    obtain ⟨j, want⟩ := jw
    simp only [hgd] at hg ⊢
    cases hdj : (ops[j]?).bind (·.dst) with
    | none => simp [hdj] at hg
    | some d =>
      simp only [hdj] at hg
      split at hg
      · rename_i b he
        cases hg
        have hv : a.eval (.tmp d) = .bool b := lf_eval (h.env d _ he)
        have hy : yielded ops a.tmps j = some b := by
          unfold yielded
          rw [hdj]
          simp only [Option.bind_some]
          simp only [Act.eval] at hv
          cases ht : a.tmps[d]? with
          | none => rw [Array.getD_eq_getD_getElem?, ht] at hv; cases hv
          | some u => rw [Array.getD_eq_getD_getElem?, ht] at hv; simp only [Option.getD_some] at hv; rw [hv]
        rw [hy]
        cases b <;> cases want <;> rfl
      · rename_i cs he
        cases hg
        have hv := h.env d _ he
        simp only [RV] at hv
        obtain ⟨cs', hv, _⟩ := hv
        have hy : yielded ops a.tmps j = none := by
          unfold yielded
          rw [hdj]
          simp only [Option.bind_some]
          simp only [Act.eval] at hv
          cases ht : a.tmps[d]? with
          | none => rfl
          | some u => rw [Array.getD_eq_getD_getElem?, ht] at hv; simp only [Option.getD_some] at hv; rw [hv]
        rw [hy]
        rfl
      · cases hg
theorem wpOp_ob {E : Ent} {F : Fs} {n : Nat} {σ : Num} {Z : Zone} {a : Act} {w : World} (h : Rel M E F n σ Z a w) {ops : Array Oper} {i : Nat} {o : Oper} {out : Out} {run : Bool} (hi : ops[i]? = some o)
    (hd : ∀ d, o.dst = some d → d < n) (hgs : guardSays F ops o = some run) {K : Act → World → Prop} {Q : Exit → Act → World → Prop}
    (hg : run = true → Good M F o out) (hs : run = false → out = skipOut)
    (hK : ∀ a' w' σ' Z', Rel M E (F.put o out) n σ' Z' a' w' → K a' w') : wpOp M.P ops Q i K a w := by
  unfold wpOp
  simp only [hi]
  rw [wanted_of h hgs]
  cases hr : run with
  | true => simp only [if_true]; exact .inl (h.run (hg hr) hd hK)
  | false =>
    simp only [Bool.false_eq_true, if_false]
    have ho := hs hr
    subst ho
    exact hK _ _ σ Z (h.step hd und_rv (Moves.still h.inv))
theorem wpOps_chain {E : Ent} {n : Nat} {ops : Array Oper} {Q : Exit → Act → World → Prop} {F' : Fs} : ∀ {xs : List Ob} {F : Fs} {k : Nat} {σ : Num} {Z : Zone} {a : Act} {w : World},
    Rel M E F n σ Z a w → Chain F xs F' → (∀ j, (xs[j]?).map Ob.o = ops[k + j]?) → (∀ x ∈ xs, ObOk M ops n x) → (∀ σ' Z' a' w', Rel M E F' n σ' Z' a' w' → Q .normal a' w') →
    wpOps M.P ops Q (List.range' k xs.length) a w
  | [], F, k, σ, Z, a, w, h, hc, _, _, hQ => by
    simp only [Chain] at hc
    subst hc
    exact hQ σ Z a w h
  | x :: xs, F, k, σ, Z, a, w, h, ⟨e, hc⟩, hl, hok, hQ => by
    have hx := hok x (by simp)
    subst e
    have hi : ops[k]? = some x.o := by simpa using (hl 0).symm
    simp only [List.length_cons, List.range'_succ, wpOps_cons]
    refine wpOp_ob h hi hx.dst hx.guard hx.does hx.skip fun a' w' σ' Z' h' => ?_
    exact wpOps_chain h' hc (fun j => by have := hl (j + 1); simpa [Nat.add_assoc, Nat.add_comm 1 j] using this) (fun y hy => hok y (by simp [hy])) hQ
end Go.Proofs.YtdjkdmjdcdljmaaGreatX
