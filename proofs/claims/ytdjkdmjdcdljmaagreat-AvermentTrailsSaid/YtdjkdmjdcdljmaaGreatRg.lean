/- Own work. No condition. -/
import Derived.Test.YtdjkdmjdcdljmaaGreatRf

namespace Go.Proofs.YtdjkdmjdcdljmaaGreat.AT
open Go.Proofs.YtdjkdmjdcdljmaaGreatX
set_option linter.unusedVariables false
set_option linter.unusedSimpArgs false
set_option linter.unusedSectionVars false
set_option maxRecDepth 100000
set_option maxHeartbeats 4000000
variable {K : Nat}

def afterB (is : List LImport) (i : Nat) (m : LImport) : Prop := ∀ j p, i = j + 1 → is[j]? = some p → (Op.bytesLess m.1.toList p.1.toList || m.1.toList == p.1.toList) = false
structure okImport (fs : List LFunc) (is : List LImport) (i : Nat) (m : LImport) : Prop where
  name : nameOk m.1
  after : afterB is i m
  new : ((fs.length : Nat) : Int) ≤ fndI (names fs is) m.1
  arity : 0 ≤ m.2 ∧ m.2 ≤ 4
structure WF (cells : List Int) (fs : List LFunc) (is : List LImport) : Prop where
  ncells : cells.length ≤ 16
  count : fs.length + is.length ≤ 24
  funcs : ∀ (i : Nat) f, fs[i]? = some f → okFunc cells.length (arities fs is) f ∧ ((i : Nat) : Int) ≤ fndI (names fs is) f.1
  imports : ∀ (i : Nat) m, is[i]? = some m → okImport fs is i m
theorem stopV {c : Bool} {v : Int × List Int} {X : Option (Unit ⊕ (Int × List Int))} {P : Prop} (hv : v.1 ≠ 0) (h : c = false → ∃ r, X = some r ∧ (r = .inl () → P) ∧ ∀ v, r = .inr v → v.1 ≠ 0) : ∃ r, (bif c then some (Sum.inr v) else X) = some r ∧ (r = .inl () → P) ∧ ∀ v, r = .inr v → v.1 ≠ 0 := by
  cases c with
  | true => exact ⟨_, rfl, (fun h => by cases h), (fun w h => by cases h; exact hv)⟩
  | false => exact h rfl
theorem prev_get {α : Type} {l l1 l2 : List α} {x p : α} {l0 : List α} (h : l = l1 ++ x :: l2) (h1 : l1 = l0 ++ [p]) : l[((l1.length : Nat) : Int).toNat - 1]? = some p ∧ l[l0.length]? = some p := by
  subst h h1; simp
section
variable {cells : List Int} {fs : List LFunc} {is : List LImport} (hl : fs.length + is.length ≤ 1000)
include hl
theorem prevs {l1 l2 : List LImport} {x : LImport} (h : is = l1 ++ x :: l2) : ∃ b : Bool, (bif decide (((l1.length : Nat) : Int) > (0 : Int)) then bif decide ((0 : Int) ≤ IntKind.i64.wrap (((l1.length : Nat) : Int) - (1 : Int))) && true then is[(IntKind.i64.wrap (((l1.length : Nat) : Int) - (1 : Int))).toNat]?.bind fun t_2 => some (Op.bytesLess (ByteArray.toList x.1) (ByteArray.toList t_2.1) || ByteArray.toList x.1 == ByteArray.toList t_2.1) else none else some false) = some b ∧ (b = false ↔ afterB is l1.length x) := by
  rcases List.eq_nil_or_concat l1 with rfl | ⟨l0, p, rfl⟩
  · exact ⟨false, rfl, fun _ j p hj => by simp at hj, fun _ => rfl⟩
  · simp only [List.concat_eq_append] at h ⊢
    have hlen : (l0 ++ [p]).length = l0.length + 1 := by simp
    have hl0 : l0.length ≤ 1000 := by have := hl; rw [h] at this; simp at this; omega
    have e1 : decide ((((l0 ++ [p]).length : Nat) : Int) > (0 : Int)) = true := by rw [decide_eq_true_eq, hlen]; omega
    have w : IntKind.i64.wrap ((((l0 ++ [p]).length : Nat) : Int) - (1 : Int)) = ((l0.length : Nat) : Int) := by rw [wrap64_of (by rw [hlen]; omega) (by rw [hlen]; omega), hlen]; omega
    have hp : is[l0.length]? = some p := (prev_get h rfl).2
    refine ⟨(Op.bytesLess x.1.toList p.1.toList || x.1.toList == p.1.toList), by simp only [e1, w, ge0, cond_true, Int.toNat_natCast, hp, some_bind], ?_, ?_⟩
    · intro hb j q hj hq
      rw [hlen] at hj
      have : j = l0.length := by omega
      subst this
      rw [hp] at hq
      cases hq
      exact hb
    · intro ha
      exact ha l0.length p hlen hp
theorem check_l3 (hK : 2000 ≤ K) : ∀ (l2 l1 : List LImport) (k : Nat), is = l1 ++ l2 → l2.length < k →
    ∃ r, avermentref04_Check.l3.f K k ((l1.length : Nat) : Int) fs is = some r ∧ (r = .inl () → ∀ (i : Nat) m, l2[i]? = some m → okImport fs is (l1.length + i) m) ∧ ∀ v, r = .inr v → v.1 ≠ 0
  | l2, l1, 0, h, hk => by omega
  | [], l1, k + 1, h, hk => by
    rw [avermentref04_Check.l3.f]
    simp only [lt_end h, cond_false]
    exact ⟨_, rfl, fun _ i v hv => by simp at hv, fun n h => by cases h⟩
  | x :: l2, l1, k + 1, h, hk => by
    rw [avermentref04_Check.l3.f]
    have hl1 : l1.length ≤ 1000 := by have := hl; rw [h] at this; simp at this; omega
    obtain ⟨nb, n1, n2⟩ := named4 (K := K) (by omega) x.1
    obtain ⟨pb, p1, p2⟩ := prevs (hl := hl) h
    simp only [lt_mid h, ge0, at_mid h, cond_true, some_bind, wrap_next (l1 := l1) (x := x) (by omega), n1, find4_val hl hK, bindC_def, cond_some, c_or]
    try simp only [cond_some] at p1
    rw [p1]
    simp only [some_bind]
    refine stopV (by dsimp only; decide) fun h1 => stopV (by dsimp only; decide) fun h2 => stopV (by dsimp only; decide) fun h3 => stopV (by dsimp only; decide) fun h4 => ?_
    obtain ⟨r, f1, f2, f3⟩ := check_l3 hK l2 (l1 ++ [x]) k (mid_next h) (by simp at hk; omega)
    refine ⟨r, f1, fun hr i y hy => ?_, f3⟩
    simp at h1 h3 h4
    cases i with
    | zero =>
      simp at hy
      subst hy
      exact ⟨n2 h1, p2.1 h2, h3, h4⟩
    | succ i =>
      have := f2 hr i y (by simpa using hy)
      rw [List.length_append] at this
      rwa [show l1.length + (i + 1) = l1.length + [x].length + i by simp; omega]
end
theorem check4_ok (hK : 2000 ≤ K) {cells : List Int} {fs : List LFunc} {is : List LImport} (hl : fs.length + is.length ≤ 1000) (hf : fits fs) : ∃ r, avermentref04_Check.f K cells fs is = some r ∧ (r.1 = 0 → WF cells fs is) := by
  unfold avermentref04_Check.f
  simp only [bindC_def, some_bind, cond_some, c_or, count_val hl]
  cases hc : (decide (((cells.length : Nat) : Int) > (16 : Int)) || decide (((fs.length + is.length : Nat) : Int) > (24 : Int))) with
  | true => exact ⟨_, rfl, fun h => by cases h⟩
  | false =>
    simp only [cond_false]
    obtain ⟨r, g1, g2, g3⟩ := check_l0 (K := K) (cells := cells) hl hK hf fs [] K rfl (by omega)
    rw [show avermentref04_Check.l0.f K K (0 : Int) cells fs is = some r from g1]
    simp only [some_bind]
    cases r with
    | inr v => exact ⟨_, rfl, fun h => absurd h (g3 v rfl)⟩
    | inl u =>
      simp only [Sum.elim_inl]
      obtain ⟨r, i1, i2, i3⟩ := check_l3 (K := K) (fs := fs) (is := is) hl hK is [] K rfl (by omega)
      rw [show avermentref04_Check.l3.f K K (0 : Int) fs is = some r from i1]
      simp only [some_bind]
      cases r with
      | inr v => exact ⟨_, rfl, fun h => absurd h (i3 v rfl)⟩
      | inl u =>
        refine ⟨_, rfl, fun _ => ?_⟩
        simp at hc
        exact ⟨by omega, by omega, fun i f hi => by simpa using g2 rfl i f hi, fun i m hi => by simpa using i2 rfl i m hi⟩

theorem block_l0 (hK : 2000 ≤ K) {cells : List Int} {fs : List LFunc} {is : List LImport} (hl : fs.length + is.length ≤ 1000) {regs : Int} {l : List LInsn} (hll : l.length ≤ 1000) (ho : ∀ x ∈ l, okInsn cells.length (arities fs is) regs x) (hla : ∀ x ∈ l, x.2.2.2.2.2.length ≤ 1000) : ∀ (l2 l1 : List LInsn) (k : Nat), l = l1 ++ l2 → l2.length < k →
    ir_Module_block.l0.f K k l ((l.length : Nat) : Int) ((l1.length : Nat) : Int) cells fs is regs = some (.inl ())
  | l2, l1, 0, h, hk => by omega
  | [], l1, k + 1, h, hk => by
    rw [ir_Module_block.l0.f]
    simp only [lt_end h, cond_false]
  | x :: l2, l1, k + 1, h, hk => by
    rw [ir_Module_block.l0.f]
    have hl1 : l1.length ≤ 1000 := by rw [h] at hll; simp at hll; omega
    have hx : x ∈ l := by rw [h]; simp
    simp only [lt_mid h, ge0, at_mid h, cond_true, some_bind, wrap_next (l1 := l1) (x := x) (by omega), insn_val hK hl (hla x hx) (ho x hx), show ((0 : Int) != 0) = false from rfl, cond_false]
    exact block_l0 hK hl hll ho hla l2 (l1 ++ [x]) k (mid_next h) (by simp at hk; omega)
theorem argsLen {nc : Nat} {ar : List Int} {regs : Int} {x : LInsn} (h : okInsn nc ar regs x) (har : ∀ v ∈ ar, v ≤ 4) : x.2.2.2.2.2.length ≤ 4 := by
  have h1 := h.args
  have h2 := h.b
  by_cases h17 : x.1 = 17
  · rw [if_neg (by rw [h17]; decide), if_neg (by omega), if_pos h17] at h2
    obtain ⟨⟨q1, q2⟩, q3⟩ := h2
    unfold arI at q3
    rw [if_pos q1] at q3
    split at q3
    · rename_i v hv
      have := har v (List.mem_of_getElem? hv)
      omega
    · omega
  · rw [if_neg h17] at h1
    rw [h1]; simp
theorem WF.ar_le {cells : List Int} {fs : List LFunc} {is : List LImport} (h : WF cells fs is) : ∀ v ∈ arities fs is, v ≤ 4 := by
  intro v hv
  rcases List.mem_append.1 hv with hv | hv
  · obtain ⟨f, hf, rfl⟩ := List.mem_map.1 hv
    obtain ⟨i, hi⟩ := List.mem_iff_getElem?.1 hf
    exact (h.funcs i f hi).1.arity.2
  · obtain ⟨m, hm, rfl⟩ := List.mem_map.1 hv
    obtain ⟨i, hi⟩ := List.mem_iff_getElem?.1 hm
    exact (h.imports i m hi).arity.2
theorem block_val (hK : 2000 ≤ K) {cells : List Int} {fs : List LFunc} {is : List LImport} (hl : fs.length + is.length ≤ 1000) (har : ∀ v ∈ arities fs is, v ≤ 4) {regs : Int} {bs : List LBlock} {b : LBlock} (h : okBlock cells.length (arities fs is) regs bs.length b) :
    ir_Module_block.f K cells fs is regs bs b.1 b.2.1 b.2.2.1 b.2.2.2.1 b.2.2.2.2 = some Err.nil := by
  unfold ir_Module_block.f
  have h12 := h.len
  have e0 : decide (((b.1.length : Nat) : Int) > (12 : Int)) = false := by simp; omega
  have l0 : ir_Module_block.l0.f K K b.1 ((b.1.length : Nat) : Int) (0 : Int) cells fs is regs = some (.inl ()) := block_l0 hK hl (by omega) h.insns (fun x hx => by have := argsLen (h.insns x hx) har; omega) b.1 [] K rfl (by omega)
  have e := end_val (K := K) (regs := regs) (bs := bs) (o := b.2.1) (a := b.2.2.1) (t := b.2.2.2.1) (e := b.2.2.2.2) h.fin
  simp only [e0, cond_false, l0, some_bind, Sum.elim_inl, e, show ((0 : Int) != 0) = false from rfl]
theorem func_l0 (hK : 2000 ≤ K) {cells : List Int} {fs : List LFunc} {is : List LImport} (hl : fs.length + is.length ≤ 1000) (har : ∀ v ∈ arities fs is, v ≤ 4) {p : Int} (hp : 0 ≤ p) {f : LFunc} (hf : fs[p.toNat]? = some f) {l : List LBlock} (hll : l.length ≤ 1000) (ho : ∀ b ∈ l, okBlock cells.length (arities fs is) f.2.2.1 f.2.2.2.length b) : ∀ (l2 l1 : List LBlock) (k : Nat), l = l1 ++ l2 → l2.length < k →
    ir_Module_function.l0.f K k p l ((l.length : Nat) : Int) ((l1.length : Nat) : Int) cells fs is = some (.inl ())
  | l2, l1, 0, h, hk => by omega
  | [], l1, k + 1, h, hk => by
    rw [ir_Module_function.l0.f]
    simp only [lt_end h, cond_false]
  | x :: l2, l1, k + 1, h, hk => by
    rw [ir_Module_function.l0.f]
    have hl1 : l1.length ≤ 1000 := by rw [h] at hll; simp at hll; omega
    have hx : x ∈ l := by rw [h]; simp
    simp only [lt_mid h, ge0, at_mid h, cond_true, some_bind, wrap_next (l1 := l1) (x := x) (by omega), decide_eq_true hp, Bool.and_true, hf, block_val hK hl har (ho x hx), Err.isNil, Bool.not_true, cond_false]
    exact func_l0 hK hl har hp hf hll ho l2 (l1 ++ [x]) k (mid_next h) (by simp at hk; omega)
theorem function_val (hK : 2000 ≤ K) {cells : List Int} {fs : List LFunc} {is : List LImport} (h : WF cells fs is) {i : Nat} {f : LFunc} (hi : fs[i]? = some f) : ir_Module_function.f K cells fs is ((i : Nat) : Int) = some Err.nil := by
  have hl : fs.length + is.length ≤ 1000 := by have := h.count; omega
  obtain ⟨ok, hn⟩ := h.funcs i f hi
  unfold ir_Module_function.f ir_Module_first.f
  have hb := ok.blocks
  have hr := ok.regs
  have ha := ok.arity
  have l0 : ir_Module_function.l0.f K K ((i : Nat) : Int) f.2.2.2 ((f.2.2.2.length : Nat) : Int) (0 : Int) cells fs is = some (.inl ()) := func_l0 hK hl h.ar_le (by omega) (by simpa using hi) (by omega) ok.each f.2.2.2 [] K rfl (by omega)
  have e1 : decide (fndI (names fs is) f.1 < ((i : Nat) : Int)) = false := by simp; omega
  have e2 : (decide (0 ≤ f.2.1) && decide (f.2.1 < 5)) = true := by simp; omega
  have e3 : decide (f.2.2.1 < if (1 : Int) > f.2.1 then (1 : Int) else f.2.1) = false := by simp; split <;> omega
  have e4 : decide (f.2.2.1 > (8 : Int)) = false := by simp; omega
  have e5 : decide (((f.2.2.2.length : Nat) : Int) < (1 : Int)) = false := by simp; omega
  have e6 : decide (((f.2.2.2.length : Nat) : Int) > (12 : Int)) = false := by simp; omega
  simp only [ge0, cond_true, Int.toNat_natCast, hi, some_bind, named_val (K := K) (by omega) ok.name, Bool.not_true, cond_false, find_val hl hK, e1, within_val, e2, bindC_def, e3, e4, e5, e6, show ((0 : Int) != 0) = false from rfl, l0, Sum.elim_inl]
theorem imported_val (hK : 2000 ≤ K) {cells : List Int} {fs : List LFunc} {is : List LImport} (h : WF cells fs is) {l1 l2 : List LImport} {x : LImport} (hi : is = l1 ++ x :: l2) : ir_Module_imported.f K fs is ((l1.length : Nat) : Int) = some 0 := by
  have hl : fs.length + is.length ≤ 1000 := by have := h.count; omega
  have ok := h.imports l1.length x (by rw [hi]; simp)
  obtain ⟨pb, p1, p2⟩ := prevs (hl := hl) hi
  have hpb := p2.2 ok.after
  subst hpb
  have ha := ok.arity
  unfold ir_Module_imported.f
  have e1 : decide (fndI (names fs is) x.1 < ((fs.length : Nat) : Int)) = false := by have := ok.new; simp; omega
  have e2 : (decide (0 ≤ x.2) && decide (x.2 < 5)) = true := by simp; omega
  simp only [ge0, cond_true, at_mid hi, some_bind, named_val (K := K) (by omega) ok.name, Bool.not_true, cond_false, bindC_def, p1, find_val hl hK, e1, within_val, e2]
theorem icheck_l0 (hK : 2000 ≤ K) {cells : List Int} {fs : List LFunc} {is : List LImport} (h : WF cells fs is) : ∀ (l2 l1 : List LFunc) (k : Nat), fs = l1 ++ l2 → l2.length < k → ir_Check.l0.f K k ((fs.length : Nat) : Int) ((l1.length : Nat) : Int) cells fs is = some (.inl ())
  | l2, l1, 0, hh, hk => by omega
  | [], l1, k + 1, hh, hk => by
    rw [ir_Check.l0.f]
    simp only [lt_end hh, cond_false]
  | x :: l2, l1, k + 1, hh, hk => by
    rw [ir_Check.l0.f]
    have hl1 : l1.length ≤ 1000 := by have := h.count; rw [hh] at this; simp at this; omega
    simp only [lt_mid hh, cond_true, function_val hK h (show fs[l1.length]? = some x by rw [hh]; simp), some_bind, Err.isNil, Bool.not_true, cond_false, wrap_next (l1 := l1) (x := x) (by omega)]
    exact icheck_l0 hK h l2 (l1 ++ [x]) k (mid_next hh) (by simp at hk; omega)
theorem icheck_l1 (hK : 2000 ≤ K) {cells : List Int} {fs : List LFunc} {is : List LImport} (h : WF cells fs is) : ∀ (l2 l1 : List LImport) (k : Nat), is = l1 ++ l2 → l2.length < k → ir_Check.l1.f K k ((is.length : Nat) : Int) ((l1.length : Nat) : Int) fs is = some (.inl ())
  | l2, l1, 0, hh, hk => by omega
  | [], l1, k + 1, hh, hk => by
    rw [ir_Check.l1.f]
    simp only [lt_end hh, cond_false]
  | x :: l2, l1, k + 1, hh, hk => by
    rw [ir_Check.l1.f]
    have hl1 : l1.length ≤ 1000 := by have := h.count; rw [hh] at this; simp at this; omega
    simp only [lt_mid hh, cond_true, imported_val hK h hh, some_bind, show ((0 : Int) != 0) = false from rfl, cond_false, wrap_next (l1 := l1) (x := x) (by omega)]
    exact icheck_l1 hK h l2 (l1 ++ [x]) k (mid_next hh) (by simp at hk; omega)
theorem icheck_val (hK : 2000 ≤ K) {cells : List Int} {fs : List LFunc} {is : List LImport} (h : WF cells fs is) : ir_Check.f K cells fs is = some Err.nil := by
  unfold ir_Check.f
  have hc := h.ncells
  have hn := h.count
  have w : IntKind.i64.wrap (((fs.length : Nat) : Int) + ((is.length : Nat) : Int)) = ((fs.length + is.length : Nat) : Int) := by rw [wrap64_of (by omega) (by omega)]; simp
  have e1 : decide (((cells.length : Nat) : Int) > (16 : Int)) = false := by simp; omega
  have e2 : decide (((fs.length + is.length : Nat) : Int) > (24 : Int)) = false := by simp; omega
  have l0 : ir_Check.l0.f K K ((fs.length : Nat) : Int) (0 : Int) cells fs is = some (.inl ()) := icheck_l0 hK h fs [] K rfl (by omega)
  have l1 : ir_Check.l1.f K K ((is.length : Nat) : Int) (0 : Int) fs is = some (.inl ()) := icheck_l1 hK h is [] K rfl (by omega)
  simp only [bindC_def, w, e1, e2, cond_false, some_bind, l0, l1, Sum.elim_inl]
theorem ready_ok (hK : 2000 ≤ K) {cells : List Int} {fs : List LFunc} {is : List LImport} (hl : fs.length + is.length ≤ 1000) (hf : fits fs) (p : Int) (args : List Int) : ∃ b, avermentlaw07_Ready.f K cells fs is p args = some b ∧ (b = true → WF cells fs is ∧ is = [] ∧ 0 ≤ p ∧ ∃ f, fs[p.toNat]? = some f ∧ ((args.length : Nat) : Int) = f.2.1) := by
  obtain ⟨r, h1, h2⟩ := check4_ok hK (cells := cells) hl hf
  unfold avermentlaw07_Ready.f avermentref07_Right.f
  rw [h1]
  simp only [some_bind, bindC_def, cond_some, c_or]
  by_cases hr : r.1 = 0
  · have hwf := h2 hr
    simp only [hr, show ((0 : Int) == 0) = true from rfl, cond_true]
    cases is with
    | cons m is =>
      have e : decide ((((m :: is).length : Nat) : Int) > (0 : Int)) = true := by simp
      simp only [e, cond_true, some_bind]
      exact ⟨_, rfl, fun h => by simp at h⟩
    | nil =>
      have e : decide (((([] : List LImport).length : Nat) : Int) > (0 : Int)) = false := by simp
      simp only [e, cond_false]
      cases hp : (decide (p < 0) || decide (p ≥ ((fs.length : Nat) : Int))) with
      | true => simp only [cond_true, some_bind]; exact ⟨_, rfl, fun h => by simp at h⟩
      | false =>
        simp at hp
        have hlt : p.toNat < fs.length := by omega
        have e2 : (decide ((0 : Int) ≤ p) && true) = true := by simp; omega
        simp only [cond_false, e2, cond_true, List.getElem?_eq_getElem hlt, some_bind]
        refine ⟨_, rfl, fun h => ⟨hwf, by first | rfl | trivial, by omega, _, rfl, ?_⟩⟩
        by_cases hh : ((args.length : Nat) : Int) = fs[p.toNat].2.1
        · exact hh
        · have : (((args.length : Nat) : Int) != fs[p.toNat].2.1) = true := by simp [hh]
          simp [this] at h
  · have : (r.1 == 0) = false := by simp [hr]
    simp only [this, cond_false, some_bind]
    exact ⟨_, rfl, fun h => by cases h⟩
end Go.Proofs.YtdjkdmjdcdljmaaGreat.AT
