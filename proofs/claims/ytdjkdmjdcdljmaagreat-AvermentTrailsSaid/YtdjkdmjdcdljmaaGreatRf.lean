/- Own work. No condition. -/
import Derived.Test.YtdjkdmjdcdljmaaGreatRe

namespace Go.Proofs.YtdjkdmjdcdljmaaGreat.AT
open Go.Proofs.YtdjkdmjdcdljmaaGreatX
set_option linter.unusedVariables false
set_option linter.unusedSimpArgs false
set_option maxRecDepth 100000
set_option maxHeartbeats 4000000
variable {K : Nat}

theorem indexF_l0 {regs : Int} {l : List Int} (hl : l.length ≤ 1000) (ha : ∀ v ∈ l, reg regs v) : ∀ (l2 l1 : List Int) (k : Nat), l = l1 ++ l2 → l2.length < k → slices_IndexFunc_int_int.l0.f K k l ((l.length : Nat) : Int) ((l1.length : Nat) : Int) regs = some (.inl ())
  | l2, l1, 0, h, hk => by omega
  | [], l1, k + 1, h, hk => by
    rw [slices_IndexFunc_int_int.l0.f]
    simp only [lt_end h, cond_false]
  | x :: l2, l1, k + 1, h, hk => by
    rw [slices_IndexFunc_int_int.l0.f]
    have hl1 : l1.length ≤ 1000 := by rw [h] at hl; simp at hl; omega
    have hx := ha x (by rw [h]; simp)
    have e : (decide (0 ≤ x) && decide (x < regs)) = true := by simpa [reg] using hx
    simp only [lt_mid h, ge0, at_mid h, cond_true, some_bind, ir_Module_insn_1.f, within_val, wrap_next (l1 := l1) (x := x) (by omega), e, Bool.not_true, cond_false]
    exact indexF_l0 hl ha l2 (l1 ++ [x]) k (mid_next h) (by simp at hk; omega)
theorem contains_val (hK : 2000 ≤ K) {regs : Int} {l : List Int} (hl : l.length ≤ 1000) (ha : ∀ v ∈ l, reg regs v) : slices_ContainsFunc_int_int.f K l regs = some false := by
  unfold slices_ContainsFunc_int_int.f slices_IndexFunc_int_int.f
  have : slices_IndexFunc_int_int.l0.f K K l ((l.length : Nat) : Int) (0 : Int) regs = some (.inl ()) := indexF_l0 hl ha l [] K rfl (by omega)
  simp [this]
theorem insn_val (hK : 2000 ≤ K) {cells : List Int} {fs : List LFunc} {is : List LImport} (hl : fs.length + is.length ≤ 1000) {regs op d a b n : Int} {args : List Int} (ha : args.length ≤ 1000)
    (h : okInsn cells.length (arities fs is) regs (op, d, a, b, n, args)) : ir_Module_insn.f K cells fs is regs op d a b n args = some 0 := by
  obtain ⟨⟨h1, h2⟩, hd, hA, hb, hn, hg⟩ := h
  dsimp only at *
  have len : (arities fs is).length = fs.length + is.length := by simp
  unfold ir_Module_insn.f ir_Insn_spare.f
  simp only [bindC_def, some_bind, cond_some, c_or, c_and, c_imp, within_val]
  by_cases h17 : op = 17
  · subst h17
    simp [usesD, usesA, usesB, reg] at hd hA hb hn hg
    have e2 : arI (arities fs is) b = args.length := hb.2
    have e3 := contains_val (K := K) hK (regs := regs) (l := args) ha hg
    have e5 : (((args.length : Nat) : Int) == -1) = false := beq_eq_false_iff_ne.2 (by omega)
    simp [ir_Insn_fields.f, hd, hA, hn, arity_val (K := K) hl (i := b) (by omega), e2, e3, e5, hb]
  · simp only [h17, if_false] at hg
    have hop := op_cases h1 h2
    rcases hop with rfl | rfl | rfl | rfl | rfl | rfl | rfl | rfl | rfl | rfl | rfl | rfl | rfl | rfl | rfl | rfl | rfl <;> first | exact absurd rfl h17 | skip
    all_goals (simp [usesD, usesA, usesB, reg] at hd hA hb hn <;> simp [ir_Insn_fields.f, hd, hA, hb, hn, hg])

structure okEnd (regs : Int) (nb : Nat) (e : LEnd) : Prop where
  op : 1 ≤ e.1 ∧ e.1 ≤ 3
  a : if e.1 = 1 then e.2.1 = 0 else reg regs e.2.1
  to : if e.1 = 3 then e.2.2.1 = 0 else reg nb e.2.2.1
  els : if e.1 = 2 then reg nb e.2.2.2 else e.2.2.2 = 0
theorem cond_ne {c : Bool} {v X : Int} (hv : v ≠ 0) (h : (bif c then v else X) = 0) : c = false ∧ X = 0 := by
  cases c with
  | true => exact absurd h hv
  | false => exact ⟨rfl, h⟩
theorem end4_ok {regs : Int} {bs : List LBlock} (o a t e : Int) : ∃ r, avermentref04_end.f K regs bs o a t e = some r ∧ (r = 0 → okEnd regs bs.length (o, a, t, e)) := by
  unfold avermentref04_end.f
  simp only [bindC_def, some_bind, cond_some, c_or, c_and, c_imp]
  refine ⟨_, rfl, fun h => ?_⟩
  obtain ⟨h1, h⟩ := cond_ne (by decide) h
  obtain ⟨h2, h⟩ := cond_ne (by decide) h
  obtain ⟨h3, h⟩ := cond_ne (by decide) h
  obtain ⟨h4, h⟩ := cond_ne (by decide) h
  simp only [Bool.or_eq_false_iff, decide_eq_false_iff_not] at h1
  have : o = 1 ∨ o = 2 ∨ o = 3 := by omega
  rcases this with rfl | rfl | rfl
  all_goals (simp at h2 h3 h4; refine ⟨⟨by dsimp only; decide, by dsimp only; decide⟩, ?_, ?_, ?_⟩ <;> simp [reg] <;> first | omega | (simp_all; done) | (simp_all; omega))
theorem end_val {regs : Int} {bs : List LBlock} {o a t e : Int} (h : okEnd regs bs.length (o, a, t, e)) : ir_Func_end.f K regs bs o a t e = some 0 := by
  obtain ⟨⟨h1, h2⟩, hA, ht, he⟩ := h
  dsimp only at *
  unfold ir_Func_end.f
  simp only [bindC_def, some_bind, cond_some, c_or, c_and, c_imp, within_val]
  have : o = 1 ∨ o = 2 ∨ o = 3 := by omega
  rcases this with rfl | rfl | rfl
  all_goals (simp [reg] at hA ht he; simp [hA, ht, he])

structure okBlock (nc : Nat) (ar : List Int) (regs : Int) (nb : Nat) (b : LBlock) : Prop where
  len : b.1.length ≤ 12
  insns : ∀ x ∈ b.1, okInsn nc ar regs x
  fin : okEnd regs nb b.2
structure okFunc (nc : Nat) (ar : List Int) (f : LFunc) : Prop where
  name : nameOk f.1
  arity : 0 ≤ f.2.1 ∧ f.2.1 ≤ 4
  regs : 1 ≤ f.2.2.1 ∧ f.2.2.1 ≤ 8 ∧ f.2.1 ≤ f.2.2.1
  blocks : 1 ≤ f.2.2.2.length ∧ f.2.2.2.length ≤ 12
  each : ∀ b ∈ f.2.2.2, okBlock nc ar f.2.2.1 f.2.2.2.length b
section
variable {cells : List Int} {fs : List LFunc} {is : List LImport} (hl : fs.length + is.length ≤ 1000)
include hl
theorem check_l2 (hK : 2000 ≤ K) {p q regs : Int} {l : List LInsn} (hll : l.length ≤ 1000) (hla : ∀ x ∈ l, x.2.2.2.2.2.length ≤ 1000) : ∀ (l2 l1 : List LInsn) (k : Nat), l = l1 ++ l2 → l2.length < k →
    ∃ r, avermentref04_Check.l2.f K k p q l ((l1.length : Nat) : Int) cells fs is regs = some r ∧ (r = .inl () → ∀ x ∈ l2, okInsn cells.length (arities fs is) regs x) ∧ ∀ v, r = .inr v → v.1 ≠ 0
  | l2, l1, 0, h, hk => by omega
  | [], l1, k + 1, h, hk => by
    rw [avermentref04_Check.l2.f]
    simp only [lt_end h, cond_false]
    exact ⟨_, rfl, fun _ v hv => by simp at hv, fun n h => by cases h⟩
  | x :: l2, l1, k + 1, h, hk => by
    rw [avermentref04_Check.l2.f]
    have hl1 : l1.length ≤ 1000 := by rw [h] at hll; simp at hll; omega
    obtain ⟨v, e1, e2⟩ := insn4_ok (K := K) hK (cells := cells) hl regs x.1 x.2.1 x.2.2.1 x.2.2.2.1 x.2.2.2.2.1 x.2.2.2.2.2 (hla x (by rw [h]; simp))
    simp only [lt_mid h, ge0, at_mid h, cond_true, some_bind, wrap_next (l1 := l1) (x := x) (by omega), e1]
    by_cases hv : v = 0
    · subst hv
      simp only [show ((0 : Int) != 0) = false from rfl, cond_false]
      obtain ⟨r, g1, g2, g3⟩ := check_l2 hK hll hla l2 (l1 ++ [x]) k (mid_next h) (by simp at hk; omega)
      refine ⟨r, g1, fun hr y hy => ?_, g3⟩
      rcases List.mem_cons.1 hy with rfl | hy
      · exact e2 rfl
      · exact g2 hr y hy
    · have : (v != 0) = true := by simp [hv]
      simp only [this, cond_true]
      exact ⟨_, rfl, (fun h => by cases h), (fun w h => by cases h; exact hv)⟩
theorem check_l1 (hK : 2000 ≤ K) {p regs : Int} {l : List LBlock} (hll : l.length ≤ 1000) (hlb : ∀ b ∈ l, b.1.length ≤ 1000 ∧ ∀ x ∈ b.1, x.2.2.2.2.2.length ≤ 1000) : ∀ (l2 l1 : List LBlock) (k : Nat), l = l1 ++ l2 → l2.length < k →
    ∃ r, avermentref04_Check.l1.f K k p ((l1.length : Nat) : Int) cells fs is regs l = some r ∧ (r = .inl () → ∀ b ∈ l2, okBlock cells.length (arities fs is) regs l.length b) ∧ ∀ v, r = .inr v → v.1 ≠ 0
  | l2, l1, 0, h, hk => by omega
  | [], l1, k + 1, h, hk => by
    rw [avermentref04_Check.l1.f]
    simp only [lt_end h, cond_false]
    exact ⟨_, rfl, fun _ v hv => by simp at hv, fun n h => by cases h⟩
  | x :: l2, l1, k + 1, h, hk => by
    rw [avermentref04_Check.l1.f]
    have hl1 : l1.length ≤ 1000 := by rw [h] at hll; simp at hll; omega
    obtain ⟨q1, q2⟩ := hlb x (by rw [h]; simp)
    simp only [lt_mid h, ge0, at_mid h, cond_true, some_bind, wrap_next (l1 := l1) (x := x) (by omega)]
    by_cases h12 : x.1.length > 12
    · have : decide (((x.1.length : Nat) : Int) > (12 : Int)) = true := by simp; omega
      simp only [this, cond_true]
      exact ⟨_, rfl, (fun h => by cases h), (fun w h => by cases h; dsimp only; decide)⟩
    · have e0 : decide (((x.1.length : Nat) : Int) > (12 : Int)) = false := by simp; omega
      obtain ⟨r, g1, g2, g3⟩ := check_l2 (K := K) (cells := cells) (p := p) (q := ((l1.length : Nat) : Int)) (regs := regs) hl hK q1 q2 x.1 [] K rfl (by omega)
      have g1' : avermentref04_Check.l2.f K K p ((l1.length : Nat) : Int) x.1 (0 : Int) cells fs is regs = some r := g1
      simp only [e0, cond_false, g1', some_bind]
      cases r with
      | inr v => exact ⟨_, rfl, (fun h => by cases h), (fun w h => by cases h; exact g3 v rfl)⟩
      | inl u =>
        obtain ⟨v, e1, e2⟩ := end4_ok (K := K) (regs := regs) (bs := l) x.2.1 x.2.2.1 x.2.2.2.1 x.2.2.2.2
        simp only [Sum.elim_inl, e1, some_bind]
        by_cases hv : v = 0
        · subst hv
          simp only [show ((0 : Int) != 0) = false from rfl, cond_false]
          obtain ⟨r, f1, f2, f3⟩ := check_l1 hK hll hlb l2 (l1 ++ [x]) k (mid_next h) (by simp at hk; omega)
          refine ⟨r, f1, fun hr y hy => ?_, f3⟩
          rcases List.mem_cons.1 hy with rfl | hy
          · exact ⟨by omega, g2 rfl, e2 rfl⟩
          · exact f2 hr y hy
        · have : (v != 0) = true := by simp [hv]
          simp only [this, cond_true]
          exact ⟨_, rfl, (fun h => by cases h), (fun w h => by cases h; exact hv)⟩
theorem check_l0 (hK : 2000 ≤ K) (hf : fits fs) : ∀ (l2 l1 : List LFunc) (k : Nat), fs = l1 ++ l2 → l2.length < k →
    ∃ r, avermentref04_Check.l0.f K k ((l1.length : Nat) : Int) cells fs is = some r ∧ (r = .inl () → ∀ (i : Nat) f, l2[i]? = some f → okFunc cells.length (arities fs is) f ∧ ((l1.length + i : Nat) : Int) ≤ fndI (names fs is) f.1) ∧ ∀ v, r = .inr v → v.1 ≠ 0
  | l2, l1, 0, h, hk => by omega
  | [], l1, k + 1, h, hk => by
    rw [avermentref04_Check.l0.f]
    simp only [lt_end h, cond_false]
    exact ⟨_, rfl, fun _ i v hv => by simp at hv, fun n h => by cases h⟩
  | x :: l2, l1, k + 1, h, hk => by
    rw [avermentref04_Check.l0.f]
    have hl1 : l1.length ≤ 1000 := by have := hl; rw [h] at this; simp at this; omega
    obtain ⟨q1, q2⟩ := hf.2 x (by rw [h]; simp)
    obtain ⟨nb, n1, n2⟩ := named4 (K := K) (by omega) x.1
    simp only [lt_mid h, ge0, at_mid h, cond_true, some_bind, wrap_next (l1 := l1) (x := x) (by omega), n1, find4_val hl hK, bindC_def, cond_some, c_or]
    have stop : ∀ {c : Bool} {v : Int × List Int} {X : Option (Unit ⊕ (Int × List Int))} {P : Prop}, v.1 ≠ 0 → (c = false → ∃ r, X = some r ∧ (r = .inl () → P) ∧ ∀ v, r = .inr v → v.1 ≠ 0) → ∃ r, (bif c then some (Sum.inr v) else X) = some r ∧ (r = .inl () → P) ∧ ∀ v, r = .inr v → v.1 ≠ 0 := by
      intro c v X P hv h
      cases c with
      | true => exact ⟨_, rfl, (fun h => by cases h), (fun w h => by cases h; exact hv)⟩
      | false => exact h rfl
    refine stop (by dsimp only; decide) fun h1 => stop (by dsimp only; decide) fun h2 => stop (by dsimp only; decide) fun h3 => stop (by dsimp only; decide) fun h4 => stop (by dsimp only; decide) fun h5 => ?_
    obtain ⟨r, g1, g2, g3⟩ := check_l1 (K := K) (cells := cells) (p := ((l1.length : Nat) : Int)) (regs := x.2.2.1) hl hK q1 q2 x.2.2.2 [] K rfl (by omega)
    have g1' : avermentref04_Check.l1.f K K ((l1.length : Nat) : Int) (0 : Int) cells fs is x.2.2.1 x.2.2.2 = some r := g1
    simp only [g1', some_bind]
    cases r with
    | inr v => exact ⟨_, rfl, (fun h => by cases h), (fun w h => by cases h; exact g3 v rfl)⟩
    | inl u =>
      simp only [Sum.elim_inl]
      obtain ⟨r, f1, f2, f3⟩ := check_l0 hK hf l2 (l1 ++ [x]) k (mid_next h) (by simp at hk; omega)
      refine ⟨r, f1, fun hr i y hy => ?_, f3⟩
      simp at h1 h2 h3 h4 h5
      cases i with
      | zero =>
        simp at hy
        subst hy
        exact ⟨⟨n2 h1, by omega, by omega, by omega, g2 rfl⟩, by simpa using h2⟩
      | succ i =>
        have := f2 hr i y (by simpa using hy)
        refine ⟨this.1, ?_⟩
        have h9 := this.2
        simp at h9 ⊢
        omega
end
end Go.Proofs.YtdjkdmjdcdljmaaGreat.AT
