/- Our small machine: operations one after another, and in every order that their edges allow. No condition beside those stated. -/
import Derived.Test.YtcgjfkaipbhpkaaVxD

namespace Go.Proofs.YtcgjfkaipbhpkaaX
open Go.RowKit
set_option linter.unusedVariables false
set_option linter.unusedSimpArgs false

/-- One operation of a region, as it was gone through: what was known before, whether it ran, what it did. -/
structure Ob where
  o : Oper
  out : Out
  nb : Nat
  run : Bool
  F : Fs
def Ob.note (x : Ob) : Rec := { nb := x.nb, new := x.out.eff.isNew, put := x.out.eff.puts, rd := x.out.rd }
def Chain : Fs → List Ob → Fs → Prop
  | F, [], F' => F = F'
  | F, x :: xs, F' => x.F = F ∧ Chain (F.put x.o x.nb x.out) xs F'

def guardSays (F : Fs) (ops : Array Oper) (o : Oper) : Option Bool :=
  match o.guard with
  | none => some true
  | some (j, want) => match (ops[j]?).bind (·.dst) with
    | some d => match F.e d with
      | some (.bool b) => some (b == want)
      | some (.tuple _) => some false
      | _ => none
    | none => none

structure ObOk (P : Program) (ops : Array Oper) (n : Nat) (x : Ob) : Prop where
  dst : ∀ d, x.o.dst = some d → d < n
  nb : x.F.h x.nb = none
  touch : ∀ b, Touch x.out b → ∃ blk, x.F.h b = some blk
  guard : guardSays x.F ops x.o = some x.run
  good : x.run = true → Good P x.F x.o x.nb x.out
  skip : x.run = false → x.out = skipOut

theorem heap_end (S : St) : S.fs.h S.heap.length = none := by simp [St.fs]
theorem touch_some {S : St} {out : Out} (ht : ∀ b, Touch out b → b < S.heap.length) : ∀ b, Touch out b → ∃ blk, S.fs.h b = some blk := fun b hb => ⟨S.heap[b]'(ht b hb), by simp [St.fs, ht b hb]⟩
theorem skip_touch {n : Nat} : ∀ b, Touch skipOut b → b < n := by
  intro b hb; rcases hb with hb | ⟨_, hb⟩ <;> cases hb

theorem know_fs {S : St} {t : Nat} {v : Value} (hv : look S.env t = some v) : (S.know t v).fs = S.fs := by
  unfold St.fs St.know
  congr 1
  funext u
  by_cases e : t = u
  · subst e; simp [look, hv]
  · have : Nat.beq t u = false := by rw [← Bool.not_eq_true]; intro hh; exact e (Nat.eq_of_beq_eq_true hh)
    simp [look, this]

theorem vseq_spec {P : Program} {C : CallsBy} {E : EqBy} {ops : Array Oper} (hC : CallsOk P C) (hE : EqOk P E) : ∀ {l : List Oper} {S : St} {rs : List Rec} {k : St → List Rec → Option Value} {r : Value},
    vseq P C E ops l S rs k = some r → ∃ xs S', xs.map Ob.o = l ∧ Chain S.fs xs S'.fs ∧ S'.n = S.n ∧ (∀ x ∈ xs, ObOk P ops S.n x) ∧ k S' (rs ++ xs.map Ob.note) = some r
  | [], S, rs, k, r, h => ⟨[], S, rfl, rfl, rfl, by simp, by simpa [vseq] using h⟩
  | o :: rest, S, rs, k, r, h => by
    simp only [vseq] at h
    cases hd : S.dstOk o with
    | false => simp [hd] at h
    | true =>
    simp only [hd, cond_true] at h
    have hdst := dst_lt hd
    have go : ∀ (out : Out) (run : Bool), guardSays S.fs ops o = some run → (run = true → Good P S.fs o S.heap.length out) → (run = false → out = skipOut) → (∀ b, Touch out b → b < S.heap.length) →
        vseq P C E ops rest (S.put o out) (rs ++ [recOf S out]) k = some r →
        ∃ xs S', xs.map Ob.o = o :: rest ∧ Chain S.fs xs S'.fs ∧ S'.n = S.n ∧ (∀ x ∈ xs, ObOk P ops S.n x) ∧ k S' (rs ++ xs.map Ob.note) = some r := by
      intro out run hgs hg hs ht hv
      obtain ⟨xs, S', h1, h2, h3, h4, h5⟩ := vseq_spec hC hE hv
      refine ⟨⟨o, out, S.heap.length, run, S.fs⟩ :: xs, S', by simp [h1], ⟨rfl, ?_⟩, h3, ?_, ?_⟩
      · rw [put_fs ht] at h2; exact h2
      · intro x hx
        rcases List.mem_cons.1 hx with rfl | hx
        · exact ⟨hdst, heap_end S, touch_some ht, hgs, hg, hs⟩
        · exact h4 x hx
      · simpa [List.append_assoc, Ob.note, recOf] using h5
    cases hgd : o.guard with
    | none =>
      simp only [hgd] at h
      obtain ⟨out, h1, h2, h3⟩ := vop_good hC hE h
      exact go out true (by simp [guardSays, hgd]) (fun _ => h2) (fun e => by cases e) h3 h1
    | some jw =>
      obtain ⟨j, want⟩ := jw
      simp only [hgd] at h
      cases hdj : (ops[j]?).bind (·.dst) with
      | none => simp only [hdj] at h; cases h
      | some d =>
        simp only [hdj] at h
        have hsays : ∀ b, look S.env d = some (.bool b) → guardSays S.fs ops o = some (b == want) := by
          intro b hb
          simp only [guardSays, hgd, hdj]
          simp only [St.fs, hb]
        split at h
        · rename_i g hb
          have hk := know_fs hb
          have go' : ∀ (out : Out) (run : Bool), guardSays S.fs ops o = some run → (run = true → Good P (S.know d (.bool g)).fs o (S.know d (.bool g)).heap.length out) → (run = false → out = skipOut) → (∀ b, Touch out b → b < (S.know d (.bool g)).heap.length) →
              vseq P C E ops rest ((S.know d (.bool g)).put o out) (rs ++ [recOf S out]) k = some r →
              ∃ xs S', xs.map Ob.o = o :: rest ∧ Chain S.fs xs S'.fs ∧ S'.n = S.n ∧ (∀ x ∈ xs, ObOk P ops S.n x) ∧ k S' (rs ++ xs.map Ob.note) = some r := by
            intro out run hgs hg hs ht hv
            obtain ⟨xs, S', h1, h2, h3, h4, h5⟩ := vseq_spec hC hE hv
            refine ⟨⟨o, out, S.heap.length, run, S.fs⟩ :: xs, S', by simp [h1], ⟨rfl, ?_⟩, h3, ?_, ?_⟩
            · rw [put_fs ht, hk] at h2; exact h2
            · intro x hx
              rcases List.mem_cons.1 hx with rfl | hx
              · exact ⟨hdst, heap_end S, touch_some ht, hgs, fun e => by have := hg e; rw [hk] at this; exact this, hs⟩
              · exact h4 x hx
            · simpa [List.append_assoc, Ob.note, recOf] using h5
          cases g with
          | true =>
            simp only [cond_true] at h
            cases want with
            | true =>
              simp only [cond_true] at h
              obtain ⟨out, h1, h2, h3⟩ := vop_good hC hE h
              exact go' out true (hsays _ hb) (fun _ => h2) (fun e => by cases e) h3 h1
            | false =>
              simp only [cond_false] at h
              exact go' skipOut false (hsays _ hb) (fun e => by cases e) (fun _ => rfl) skip_touch h
          | false =>
            simp only [cond_false] at h
            cases want with
            | true =>
              simp only [cond_true] at h
              exact go' skipOut false (hsays _ hb) (fun e => by cases e) (fun _ => rfl) skip_touch h
            | false =>
              simp only [cond_false] at h
              obtain ⟨out, h1, h2, h3⟩ := vop_good hC hE h
              exact go' out true (hsays _ hb) (fun _ => h2) (fun e => by cases e) h3 h1
        · rename_i cs hb
          refine go skipOut false ?_ (fun e => by cases e) (fun _ => rfl) skip_touch h
          simp only [guardSays, hgd, hdj, St.fs, hb]
        · cases h

/-! ### One operation of a region -/
theorem wanted_of {B : Nat} {w0 : World} {F : Fs} {n : Nat} {σ : Num} {a : Act} {w : World} (h : Rel B w0 F n σ a w) {ops : Array Oper} {o : Oper} {run : Bool} (hg : guardSays F ops o = some run) :
    Region.wanted o (yielded ops a.tmps) = run := by
  unfold guardSays at hg
  unfold Region.wanted
  cases hgd : o.guard with
  | none => simp [hgd] at hg; simp [hg]
  | some jw =>
    obtain ⟨j, want⟩ := jw
    simp only [hgd] at hg ⊢
    cases hdj : (ops[j]?).bind (·.dst) with
    | none => simp [hdj] at hg
    | some d =>
      simp only [hdj] at hg
      cases he : F.e d with
      | none => simp [he] at hg
      | some v =>
        simp only [he] at hg
        cases v <;> simp only [reduceCtorEq, Option.some.injEq] at hg
        case tuple cs =>
          obtain ⟨cs', hv⟩ : ∃ cs', a.eval (.tmp d) = .tuple cs' := by
            rcases h.env d _ he with (h1 | ⟨_, _, e, _⟩) | ⟨_, cs', _, e, _⟩
            · rcases h1 with ⟨h1, _⟩ | ⟨_, _, _, _, e, _⟩
              · cases h1
              · cases e
            · cases e
            · exact ⟨cs', e⟩
          have hy : yielded ops a.tmps j = none := by
            unfold yielded
            rw [hdj]
            simp only [Option.bind_some]
            simp only [Act.eval] at hv
            cases ht : a.tmps[d]? with
            | none => rfl
            | some u => rw [Array.getD_eq_getD_getElem?, ht] at hv; simp only [Option.getD_some] at hv; rw [hv]
          rw [hy, ← hg]
          rfl
        case bool b =>
        have hv : a.eval (.tmp d) = .bool b := RV.eq rfl (h.env d _ he)
        have hy : yielded ops a.tmps j = some b := by
          unfold yielded
          rw [hdj]
          simp only [Option.bind_some]
          simp only [Act.eval] at hv
          cases ht : a.tmps[d]? with
          | none => rw [Array.getD_eq_getD_getElem?, ht] at hv; cases hv
          | some u => rw [Array.getD_eq_getD_getElem?, ht] at hv; simp only [Option.getD_some] at hv; rw [hv]
        rw [hy, ← hg]
        cases b <;> cases want <;> rfl

theorem wpOp_ob {P : Program} {B : Nat} {w0 : World} {F : Fs} {n : Nat} {σ : Num} {a : Act} {w : World} (h : Rel B w0 F n σ a w) {ops : Array Oper} {i : Nat} {x : Ob} (hi : ops[i]? = some x.o)
    (hd : ∀ d, x.o.dst = some d → d < n) (hn : ∀ blk, x.out.eff = .new blk → F.h x.nb = none) (ht : ∀ c blk, x.out.eff = .put c blk → ∃ old, F.h c = some old) (hgs : guardSays F ops x.o = some x.run)
    (hg : x.run = true → Good P F x.o x.nb x.out) (hs : x.run = false → x.out = skipOut)
    {K : Act → World → Prop} {Q : Exit → Act → World → Prop} (hK : ∀ a' w' σ', Rel B w0 (F.put x.o x.nb x.out) n σ' a' w' → K a' w') : wpOp P ops Q i K a w := by
  unfold wpOp
  simp only [hi]
  rw [wanted_of h hgs]
  cases hr : x.run with
  | true => simp only [if_true]; exact .inl (h.step (hg hr) hd hn ht hK)
  | false =>
    simp only [Bool.false_eq_true, if_false]
    have ho := hs hr
    refine hK _ _ σ ?_
    rw [ho]
    refine ⟨fun t v hv => ?_, by rw [put_size, h.size], by rw [put_def, h.defers], h.heap, h.own, h.inj, h.below, h.base⟩
    rw [ev_put]
    simp only [Fs.put, skipOut] at hv
    by_cases e : x.o.dst = some t
    · rw [if_pos e] at hv
      rw [if_pos ⟨e, by rw [h.size]; exact hd t e⟩]
      cases hv; exact RV.of_flat rfl
    · rw [if_neg e] at hv
      rw [if_neg (fun k => e k.1)]
      exact h.env t v hv

/-- In the order of the text. -/
theorem wpOps_chain {P : Program} {B : Nat} {w0 : World} {n : Nat} {ops : Array Oper} {Q : Exit → Act → World → Prop} {F' : Fs} : ∀ {xs : List Ob} {F : Fs} {k : Nat} {σ : Num} {a : Act} {w : World},
    Rel B w0 F n σ a w → Chain F xs F' → (∀ j, (xs[j]?).map Ob.o = ops[k + j]?) → (∀ x ∈ xs, ObOk P ops n x) → (∀ σ' a' w', Rel B w0 F' n σ' a' w' → Q .normal a' w') →
    wpOps P ops Q (List.range' k xs.length) a w
  | [], F, k, σ, a, w, h, hc, _, _, hQ => by
    simp only [Chain] at hc
    subst hc
    exact hQ σ a w h
  | x :: xs, F, k, σ, a, w, h, ⟨e, hc⟩, hl, hok, hQ => by
    have hx := hok x (by simp)
    subst e
    have hi : ops[k]? = some x.o := by simpa using (hl 0).symm
    simp only [List.length_cons, List.range'_succ, wpOps_cons]
    refine wpOp_ob h hi hx.dst (fun _ _ => hx.nb) (fun c blk hp => hx.touch c (.inr ⟨blk, hp⟩)) hx.guard hx.good hx.skip fun a' w' σ' h' => ?_
    exact wpOps_chain h' hc (fun j => by have := hl (j + 1); simpa [Nat.add_assoc, Nat.add_comm 1 j] using this) (fun y hy => hok y (by simp [hy])) hQ
end Go.Proofs.YtcgjfkaipbhpkaaX
