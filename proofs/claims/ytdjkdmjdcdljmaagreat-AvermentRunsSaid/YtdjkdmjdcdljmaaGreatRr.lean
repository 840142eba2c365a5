/- A module whose blocks are laid in another order is well-formed, too. No condition beside those stated. -/
import Derived.Test.YtdjkdmjdcdljmaaGreatRq

namespace Go.Proofs.YtdjkdmjdcdljmaaGreat.AR
open Go.Proofs.YtdjkdmjdcdljmaaGreatX
set_option linter.unusedVariables false
set_option linter.unusedSimpArgs false
set_option maxRecDepth 100000
set_option maxHeartbeats 4000000
variable {K : Nat}

def LaidS (f f' : LFunc) : Prop := ∃ p, Laid f f' p
theorem set_mid' {α : Type} {l1 l2 : List α} {x y : α} : (l1 ++ x :: l2).set l1.length y = l1 ++ y :: l2 := by simp
theorem relaidAll (hK : 2000 ≤ K) {nc : Nat} {ar : List Int} (har : ∀ v ∈ ar, v ≤ 4) : ∀ (l2 l1 : List LFunc) (k : Nat), l1.length + l2.length ≤ 1000 → l2.length < k → (∀ f ∈ l2, okFunc nc ar f) →
    ∃ l2', avermenttop_AvermentRuns.l0.f K k ((l1.length : Nat) : Int) (l1 ++ l2) = some (l1 ++ l2') ∧ All2 LaidS l2 l2'
  | l2, l1, 0, hl, hk, ho => by omega
  | [], l1, k + 1, hl, hk, ho => by
    rw [avermenttop_AvermentRuns.l0.f]
    have e : decide (((l1.length : Nat) : Int) < (((l1 ++ []).length : Nat) : Int)) = false := by simp
    simp only [e, cond_false]
    exact ⟨[], rfl, trivial⟩
  | f :: l2, l1, k + 1, hl, hk, ho => by
    rw [avermenttop_AvermentRuns.l0.f]
    have e : decide (((l1.length : Nat) : Int) < (((l1 ++ f :: l2).length : Nat) : Int)) = true := by simp; omega
    have b1 : Nat.blt l1.length (l1 ++ f :: l2).length = true := blt_of (by simp)
    have g1 : (l1 ++ f :: l2)[l1.length]? = some f := by simp
    obtain ⟨f', p, h1, h2⟩ := relaid_val (K := K) hK (ho f (by simp)) har
    simp only [e, cond_true, ge0', Int.toNat_natCast, b1, g1, some_bind, h1, wrap_next (l1 := l1) (x := f') (by simp at hl; omega)]
    rw [show (l1 ++ f :: l2).set l1.length (f'.1, f'.2.1, f'.2.2.1, f'.2.2.2) = (l1 ++ [f']) ++ l2 by rw [set_mid']; simp]
    obtain ⟨l2', q1, q2⟩ := relaidAll hK har l2 (l1 ++ [f']) k (by simp at hl ⊢; omega) (by simp at hk; omega) (fun g hg => ho g (by simp [hg]))
    exact ⟨f' :: l2', by rw [q1]; simp, ⟨p, h2⟩, q2⟩
theorem Laid.ok {f f' : LFunc} {p : List Int} (h : Laid f f' p) {nc : Nat} {ar : List Int} (ok : okFunc nc ar f) : okFunc nc ar f' := by
  obtain ⟨o1, o2, o3, o4, o5⟩ := ok
  refine ⟨by rw [h.name]; exact o1, by rw [h.arity]; exact o2, by rw [h.regs, h.arity]; exact o3, by rw [h.len]; exact o4, fun B' hB' => ?_⟩
  obtain ⟨i, hi⟩ := List.mem_iff_getElem?.1 hB'
  have hlt : i < f.2.2.2.length := by have := (List.getElem?_eq_some_iff.1 hi).1; rw [h.len] at this; exact this
  obtain ⟨b, hb, hpb⟩ := h.onto i hlt
  obtain ⟨j, e1, e2, e3⟩ := h.place b hb
  rw [hpb] at e1
  have : i = j := by simp only [Option.some.injEq] at e1; omega
  subst this
  have hB := List.getElem?_eq_getElem hb
  have := e3 _ hB
  rw [hi] at this
  cases this
  obtain ⟨k1, k2, k3⟩ := o5 _ (List.getElem_mem hb)
  rw [h.regs, h.len]
  refine ⟨k1, k2, ?_⟩
  have pl : ∀ v : Int, reg f.2.2.2.length v → reg f.2.2.2.length (p.getD v.toNat 0) := fun v hv => by
    unfold reg at hv
    obtain ⟨j, q1, q2, _⟩ := h.place v.toNat (by omega)
    simp only [List.getD, q1, Option.getD_some]
    unfold reg
    omega
  obtain ⟨op, a, t, el⟩ := k3
  dsimp only at *
  unfold relP
  split
  · rename_i h2
    rw [if_neg (by omega)] at t
    rw [if_pos h2] at el
    exact ⟨op, a, by dsimp only; rw [if_neg (by omega)]; exact pl _ t, by dsimp only; rw [if_pos h2]; exact pl _ el⟩
  · rename_i h2
    split
    · rename_i h1
      rw [if_neg (by omega)] at t
      rw [if_neg h2] at el
      exact ⟨op, a, by dsimp only; rw [if_neg (by omega)]; exact pl _ t, by dsimp only; rw [if_neg h2]; exact el⟩
    · exact ⟨op, a, t, el⟩
theorem All2.map_eq {α β γ : Type} {R : α → β → Prop} {g : α → γ} {g' : β → γ} : ∀ {l : List α} {m : List β}, All2 R l m → (∀ a b, R a b → g' b = g a) → m.map g' = l.map g
  | [], [], _, _ => rfl
  | a :: l, b :: m, ⟨h1, h2⟩, hg => by simp [hg a b h1, All2.map_eq h2 hg]
  | [], _ :: _, h, _ => h.elim
  | _ :: _, [], h, _ => h.elim
theorem All2.getB {α β : Type} {R : α → β → Prop} : ∀ {l : List α} {m : List β} {i : Nat} {b : β}, All2 R l m → m[i]? = some b → ∃ a, l[i]? = some a ∧ R a b
  | a :: l, c :: m, 0, b, ⟨h1, _⟩, e => ⟨a, rfl, by simp at e; exact e ▸ h1⟩
  | _ :: l, _ :: m, i + 1, b, ⟨_, h2⟩, e => by
    have := All2.getB (i := i) h2 (by simpa using e)
    simpa using this
  | [], [], _, _, _, e => by simp at e
  | [], _ :: _, _, _, k, _ => k.elim
  | _ :: _, [], _, _, k, _ => k.elim
theorem WF.laid {cells : List Int} {fs fs' : List LFunc} (h : WF cells fs []) (hl : All2 LaidS fs fs') : WF cells fs' [] := by
  have hn : names fs' [] = names fs [] := by
    simp only [names, List.map_nil, List.append_nil]
    exact All2.map_eq hl fun a b ⟨p, q⟩ => q.name
  have ha : arities fs' [] = arities fs [] := by
    simp only [arities, List.map_nil, List.append_nil]
    exact All2.map_eq hl fun a b ⟨p, q⟩ => q.arity
  have hlen := hl.length
  refine ⟨h.ncells, by have := h.count; simp at this ⊢; omega, fun i f' hi => ?_, fun i m hm => by simp at hm⟩
  obtain ⟨f, hf, p, hp⟩ := All2.getB hl hi
  obtain ⟨ok, hx⟩ := h.funcs i f hf
  rw [hn, ha, hp.name]
  exact ⟨hp.ok ok, hx⟩
theorem WF.fits {cells : List Int} {fs : List LFunc} {is : List LImport} (h : WF cells fs is) : fits fs := by
  refine ⟨by have := h.count; omega, fun f hf => ?_⟩
  obtain ⟨i, hi⟩ := List.mem_iff_getElem?.1 hf
  obtain ⟨ok, _⟩ := h.funcs i f hi
  refine ⟨by have := ok.blocks; omega, fun b hb => ?_⟩
  have okb := ok.each b hb
  exact ⟨by have := okb.len; omega, fun x hx => by have := argsLen (okb.insns x hx) h.ar_le; omega⟩
end Go.Proofs.YtdjkdmjdcdljmaaGreat.AR
