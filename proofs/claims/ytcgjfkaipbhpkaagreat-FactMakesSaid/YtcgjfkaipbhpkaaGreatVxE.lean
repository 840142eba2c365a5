/- Our small machine: operations one after another, and in every order that their edges allow. No condition beside those stated. -/
import Derived.Test.YtcgjfkaipbhpkaaGreatVxD

namespace Go.Proofs.YtcgjfkaipbhpkaaGreatX
open Go.RowKit
set_option linter.unusedVariables false
set_option linter.unusedSimpArgs false

/-- One operation of a region, as it was gone through: the state before, whether it ran, what it did. -/
structure Ob where
  o : Oper
  out : Out
  run : Bool
  S : St
def Ob.F (x : Ob) : Fs := x.S.fs
def Ob.nb (x : Ob) : Nat := x.S.heap.length
def Ob.note (x : Ob) : Rec := recOf x.S x.out
def Chain : Fs → List Ob → Fs → Prop
  | F, [], F' => F = F'
  | F, x :: xs, F' => x.F = F ∧ Chain (F.put x.o x.nb x.out) xs F'

def guardSays (F : Fs) (ops : Array Oper) (o : Oper) : Option Bool :=
  match o.guard with
  | none => some true
  | some (j, want) => match (ops[j]?).bind (·.dst) with
    | some d => match F.e d with
      | some (.bool b) => some (b == want)
      | some (.tuple _) => some false
      | _ => none
    | none => none

structure ObOk (P : Program) (ops : Array Oper) (n : Nat) (x : Ob) : Prop where
  dst : ∀ d, x.o.dst = some d → d < n
  n : x.S.n = n
  guard : guardSays x.F ops x.o = some x.run
  does : x.run = true → Does P x.S x.o x.out
  skip : x.run = false → x.out = skipOut

theorem skip_pt {n : Nat} : ∀ c old, skipOut.eff.pt = some (c, old) → c < n := fun _ _ e => by cases e

theorem vseq_spec {P : Program} {C : CallsBy} {I : InBy} {inl : Nat → Bool} {E : EqBy} {ops : Array Oper} (hC : CallsOk P C) (hI : InOk P I) (hE : EqOk P E) : ∀ {l : List Oper} {S : St} {rs : List Rec} {k : St → List Rec → Option Value} {r : Value},
    vseq P C I inl E ops l S rs k = some r → ∃ xs S', xs.map Ob.o = l ∧ Chain S.fs xs S'.fs ∧ S'.n = S.n ∧ (∀ x ∈ xs, ObOk P ops S.n x) ∧ k S' (rs ++ xs.map Ob.note) = some r
  | [], S, rs, k, r, h => ⟨[], S, rfl, rfl, rfl, by simp, by simpa [vseq] using h⟩
  | o :: rest, S, rs, k, r, h => by
    simp only [vseq] at h
    cases hd : S.dstOk o with
    | false => simp [hd] at h
    | true =>
    simp only [hd, cond_true] at h
    have hdst := dst_lt hd
    -- one more, from a state T that knows what S knows
    have go : ∀ (T : St) (out : Out) (run : Bool), T.fs = S.fs → T.heap = S.heap → T.n = S.n → guardSays S.fs ops o = some run → (run = true → Does P T o out) → (run = false → out = skipOut) → (∀ c old, out.eff.pt = some (c, old) → c < T.heap.length) →
        vseq P C I inl E ops rest (T.put o out) (rs ++ [recOf S out]) k = some r →
        ∃ xs S', xs.map Ob.o = o :: rest ∧ Chain S.fs xs S'.fs ∧ S'.n = S.n ∧ (∀ x ∈ xs, ObOk P ops S.n x) ∧ k S' (rs ++ xs.map Ob.note) = some r := by
      intro T out run hfs hheap hn hgs hg hs ht hv
      obtain ⟨xs, S', h1, h2, h3, h4, h5⟩ := vseq_spec hC hI hE hv
      refine ⟨⟨o, out, run, T⟩ :: xs, S', by simp [h1], ⟨hfs, ?_⟩, h3.trans hn, ?_, ?_⟩
      · rw [put_fs ht, hfs] at h2; exact h2
      · intro x hx
        rcases List.mem_cons.1 hx with rfl | hx
        · exact ⟨hdst, hn, by show guardSays T.fs ops o = _; rw [hfs]; exact hgs, hg, hs⟩
        · exact hn ▸ h4 x hx
      · have e : recOf S out = recOf T out := by simp only [recOf, hheap]
        rw [e] at h5
        simpa [List.append_assoc, Ob.note] using h5
    cases hgd : o.guard with
    | none =>
      simp only [hgd] at h
      obtain ⟨out, h1, h2, h3⟩ := vop_good hC hI hE h
      exact go S out true rfl rfl rfl (by simp [guardSays, hgd]) (fun _ => h2) (fun e => by cases e) h3 h1
    | some jw =>
      obtain ⟨j, want⟩ := jw
      simp only [hgd] at h
      cases hdj : (ops[j]?).bind (·.dst) with
      | none => simp only [hdj] at h; cases h
      | some d =>
        simp only [hdj] at h
        have hsays : ∀ b, look S.env d = some (.bool b) → guardSays S.fs ops o = some (b == want) := by
          intro b hb
          simp only [guardSays, hgd, hdj]
          simp only [St.fs, hb]
        split at h
        · rename_i g hb
          have hk := know_fs hb
          cases g with
          | true =>
            simp only [cond_true] at h
            cases want with
            | true =>
              simp only [cond_true] at h
              obtain ⟨out, h1, h2, h3⟩ := vop_good hC hI hE h
              exact go _ out true hk rfl rfl (hsays _ hb) (fun _ => h2) (fun e => by cases e) h3 h1
            | false =>
              simp only [cond_false] at h
              exact go _ skipOut false hk rfl rfl (hsays _ hb) (fun e => by cases e) (fun _ => rfl) skip_pt h
          | false =>
            simp only [cond_false] at h
            cases want with
            | true =>
              simp only [cond_true] at h
              exact go _ skipOut false hk rfl rfl (hsays _ hb) (fun e => by cases e) (fun _ => rfl) skip_pt h
            | false =>
              simp only [cond_false] at h
              obtain ⟨out, h1, h2, h3⟩ := vop_good hC hI hE h
              exact go _ out true hk rfl rfl (hsays _ hb) (fun _ => h2) (fun e => by cases e) h3 h1
        · rename_i cs hb
          refine go S skipOut false rfl rfl rfl ?_ (fun e => by cases e) (fun _ => rfl) skip_pt h
          simp only [guardSays, hgd, hdj, St.fs, hb]
        · cases h

/-! ### One operation of a region -/
theorem wanted_of {B : Nat} {w0 : World} {σ0 : Num} {F : Fs} {n : Nat} {σ : Num} {a : Act} {w : World} (h : Rel B w0 σ0 F n σ a w) {ops : Array Oper} {o : Oper} {run : Bool} (hg : guardSays F ops o = some run) :
    Region.wanted o (yielded ops a.tmps) = run := by
  unfold guardSays at hg
  unfold Region.wanted
  cases hgd : o.guard with
  | none => simp [hgd] at hg; simp [hg]
  | some jw =>
    obtain ⟨j, want⟩ := jw
    simp only [hgd] at hg ⊢
    cases hdj : (ops[j]?).bind (·.dst) with
    | none => simp [hdj] at hg
    | some d =>
      simp only [hdj] at hg
      cases he : F.e d with
      | none => simp [he] at hg
      | some v =>
        simp only [he] at hg
        cases v <;> simp only [reduceCtorEq, Option.some.injEq] at hg
        case tuple cs =>
          obtain ⟨cs', hv⟩ : ∃ cs', a.eval (.tmp d) = .tuple cs' := by
            rcases h.env d _ he with (h1 | ⟨_, _, e, _⟩) | ⟨_, cs', _, e, _⟩
            · rcases h1 with ⟨h1, _⟩ | ⟨_, _, _, _, _, e, _⟩ | ⟨_, _, _, _, _, _, e, _⟩
              · cases h1
              · cases e
              · cases e
            · cases e
            · exact ⟨cs', e⟩
          have hy : yielded ops a.tmps j = none := by
            unfold yielded
            rw [hdj]
            simp only [Option.bind_some]
            simp only [Act.eval] at hv
            cases ht : a.tmps[d]? with
            | none => rfl
            | some u => rw [Array.getD_eq_getD_getElem?, ht] at hv; simp only [Option.getD_some] at hv; rw [hv]
          rw [hy, ← hg]
          rfl
        case bool b =>
        have hv : a.eval (.tmp d) = .bool b := RV.eq rfl (h.env d _ he)
        have hy : yielded ops a.tmps j = some b := by
          unfold yielded
          rw [hdj]
          simp only [Option.bind_some]
          simp only [Act.eval] at hv
          cases ht : a.tmps[d]? with
          | none => rw [Array.getD_eq_getD_getElem?, ht] at hv; cases hv
          | some u => rw [Array.getD_eq_getD_getElem?, ht] at hv; simp only [Option.getD_some] at hv; rw [hv]
        rw [hy, ← hg]
        cases b <;> cases want <;> rfl

theorem wpOp_ob {P : Program} {B : Nat} {w0 : World} {σ0 : Num} {F : Fs} {n : Nat} {σ : Num} {a : Act} {w : World} (h : Rel B w0 σ0 F n σ a w) {ops : Array Oper} {i : Nat} {o : Oper} {nb : Nat} {out : Out} {run : Bool} (hi : ops[i]? = some o)
    (hd : ∀ d, o.dst = some d → d < n) (hgs : guardSays F ops o = some run) {K : Act → World → Prop} {Q : Exit → Act → World → Prop}
    (hg : run = true → (∀ a' w' σ', Rel B w0 σ0 (F.put o nb out) n σ' a' w' → K a' w') → o.wp P a w K Q) (hs : run = false → out = skipOut)
    (hK : ∀ a' w' σ', Rel B w0 σ0 (F.put o nb out) n σ' a' w' → K a' w') : wpOp P ops Q i K a w := by
  unfold wpOp
  simp only [hi]
  rw [wanted_of h hgs]
  cases hr : run with
  | true => simp only [if_true]; exact .inl (hg hr hK)
  | false =>
    simp only [Bool.false_eq_true, if_false]
    have ho := hs hr
    refine hK _ _ σ ?_
    rw [ho]
    refine ⟨fun t v hv => ?_, by rw [put_size, h.size], by rw [put_def, h.defers], h.wr, h.le⟩
    rw [ev_put]
    simp only [Fs.put, skipOut] at hv
    by_cases e : o.dst = some t
    · rw [if_pos e] at hv
      rw [if_pos ⟨e, by rw [h.size]; exact hd t e⟩]
      cases hv; exact RV.of_flat rfl
    · rw [if_neg e] at hv
      rw [if_neg (fun k => e k.1)]
      exact h.env t v hv

theorem heap_end (S : St) : S.fs.h S.heap.length = none := by simp [St.fs]

/-- In the order of the text. -/
theorem wpOps_chain {P : Program} {B : Nat} {w0 : World} {σ0 : Num} {n : Nat} {ops : Array Oper} {Q : Exit → Act → World → Prop} {F' : Fs} : ∀ {xs : List Ob} {F : Fs} {k : Nat} {σ : Num} {a : Act} {w : World},
    Rel B w0 σ0 F n σ a w → Chain F xs F' → (∀ j, (xs[j]?).map Ob.o = ops[k + j]?) → (∀ x ∈ xs, ObOk P ops n x) → (∀ σ' a' w', Rel B w0 σ0 F' n σ' a' w' → Q .normal a' w') →
    wpOps P ops Q (List.range' k xs.length) a w
  | [], F, k, σ, a, w, h, hc, _, _, hQ => by
    simp only [Chain] at hc
    subst hc
    exact hQ σ a w h
  | x :: xs, F, k, σ, a, w, h, ⟨e, hc⟩, hl, hok, hQ => by
    have hx := hok x (by simp)
    subst e
    have hi : ops[k]? = some x.o := by simpa using (hl 0).symm
    simp only [List.length_cons, List.range'_succ, wpOps_cons]
    refine wpOp_ob h hi hx.dst hx.guard (nb := x.nb) (out := x.out) (fun hr hK => ?_) hx.skip fun a' w' σ' h' => ?_
    · rcases hx.does hr with ⟨hg, he⟩ | ⟨_, hg⟩
      · exact h.step hg hx.dst (fun _ _ => heap_end x.S) he hK
      · have hn := hx.n
        subst hn
        exact hg B w0 σ0 σ a w h hx.dst _ Q hK
    · exact wpOps_chain h' hc (fun j => by have := hl (j + 1); simpa [Nat.add_assoc, Nat.add_comm 1 j] using this) (fun y hy => hok y (by simp [hy])) hQ
end Go.Proofs.YtcgjfkaipbhpkaaGreatX
