/- Modules as bytes: what is written, as a whole. No condition beside those stated. -/
import Derived.Test.YtdjkdmjdcdljmaaGreatRi

namespace Go.Proofs.YtdjkdmjdcdljmaaGreat.AR
open Go.Proofs.YtdjkdmjdcdljmaaGreatX
set_option linter.unusedVariables false
set_option linter.unusedSimpArgs false
set_option maxRecDepth 100000
set_option maxHeartbeats 4000000
variable {K : Nat}

theorem encU_len (n : Nat) : (encU n).length ≤ 10 := (encN_len 9 n).2
theorem encI_len (n : Int) : (encI n).length ≤ 10 := encU_len _
theorem encInsn_len {x : LInsn} (h : lowI x) : (encInsn x).length ≤ 14 := by
  obtain ⟨⟨h1, h2⟩, hd, ha, hb, hn, hl, hg⟩ := h
  have hop := op_cases h1 h2
  have := encI_len x.2.2.2.2.1
  unfold encInsn
  rcases hop with h | h | h | h | h | h | h | h | h | h | h | h | h | h | h | h | h <;> rw [h] <;> simp [usesD, usesA, usesB, hasB'] <;> omega
def encEnd (e : LEnd) : List Int := [e.1] ++ ((if e.1 = 1 then [] else [e.2.1]) ++ ((if e.1 = 3 then [] else [e.2.2.1]) ++ (if e.1 = 2 then [e.2.2.2] else [])))
structure lowE (e : LEnd) : Prop where
  op : 1 ≤ e.1 ∧ e.1 ≤ 3
  a : 0 ≤ e.2.1 ∧ e.2.1 < 128
  t : 0 ≤ e.2.2.1 ∧ e.2.2.1 < 128
  e : 0 ≤ e.2.2.2 ∧ e.2.2.2 < 128
theorem okEnd.low {regs : Int} {nb : Nat} {e : LEnd} (h : okEnd regs nb e) (hr : regs ≤ 8) (hb : nb ≤ 12) : lowE e := by
  obtain ⟨op, a, t, el⟩ := h
  refine ⟨op, ?_, ?_, ?_⟩
  · split at a
    · omega
    · unfold reg at a; omega
  · split at t
    · omega
    · unfold reg at t; omega
  · split at el
    · unfold reg at el; omega
    · omega
theorem encEnd_len (e : LEnd) : (encEnd e).length ≤ 4 := by
  unfold encEnd
  by_cases h1 : e.1 = 1 <;> by_cases h3 : e.1 = 3 <;> by_cases h2 : e.1 = 2 <;> simp [h1, h2, h3]
theorem putEnd_val (hK : 2000 ≤ K) {o a t e : Int} {w : List Int} (h : lowE (o, a, t, e)) (hw : w.length + 60 ≤ 100000) : code_putEnd.f K o a t e w = some (w ++ encEnd (o, a, t, e)) := by
  obtain ⟨⟨h1, h2⟩, hA, ht, he⟩ := h
  dsimp only at *
  unfold code_putEnd.f encEnd
  have u : ∀ {v : Int} {l : List Int}, 0 ≤ v ∧ v < 128 → l.length + 10 ≤ 100000 → wire_Writer_Uint.f K (IntKind.u64.wrap v) l = some (l ++ [v]) := fun hv hl => uintS_val hK hv.1 hv.2 hl
  have by_ : wire_Writer_Byte.f K (IntKind.u8.wrap o) w = some (w ++ [o]) := by rw [wrap8_of (by omega) (by omega)]; exact byte_val (by omega)
  rw [by_]
  have : o = 1 ∨ o = 2 ∨ o = 3 := by omega
  rcases this with rfl | rfl | rfl
  · simp [u ht (l := w ++ [1]) (by simp; omega)]
  · simp [u hA (l := w ++ [2]) (by simp; omega), u ht (l := w ++ [2, a]) (by simp; omega), u he (l := w ++ [2, a, t]) (by simp; omega)]
  · simp [u hA (l := w ++ [3]) (by simp; omega)]
/-! ### Blocks, functions -/
def encBlock (b : LBlock) : List Int := ((b.1.length : Nat) : Int) :: (b.1.flatMap encInsn ++ encEnd b.2)
structure lowB (b : LBlock) : Prop where
  len : b.1.length ≤ 12
  insns : ∀ x ∈ b.1, lowI x
  fin : lowE b.2
theorem flat_len {α : Type} {f : α → List Int} {c : Nat} : ∀ {l : List α}, (∀ x ∈ l, (f x).length ≤ c) → (l.flatMap f).length ≤ c * l.length
  | [], _ => by simp
  | x :: l, h => by
    have h1 := h x (by simp)
    have h2 := flat_len (l := l) fun y hy => h y (by simp [hy])
    simp only [List.flatMap_cons, List.length_append, List.length_cons, Nat.mul_add]
    omega
theorem encBlock_len {b : LBlock} (h : lowB b) : (encBlock b).length ≤ 173 := by
  have h1 := flat_len (f := encInsn) (c := 14) fun x hx => encInsn_len (h.insns x hx)
  have h2 := encEnd_len b.2
  have h3 := h.len
  have h4 : 14 * b.1.length ≤ 14 * 12 := Nat.mul_le_mul_left _ h3
  simp only [encBlock, List.length_cons, List.length_append]
  omega
theorem putFunc_l1 (hK : 2000 ≤ K) {l : List LInsn} (hl : l.length ≤ 12) (hr : ∀ x ∈ l, lowI x) : ∀ (l2 l1 : List LInsn) (k : Nat) (w : List Int), l = l1 ++ l2 → l2.length < k → w.length + 14 * l2.length + 100 ≤ 100000 →
    code_putFunc.l1.f K k l ((l.length : Nat) : Int) ((l1.length : Nat) : Int) w = some (w ++ l2.flatMap encInsn)
  | l2, l1, 0, w, h, hk, hw => by omega
  | [], l1, k + 1, w, h, hk, hw => by
    rw [code_putFunc.l1.f]
    simp only [lt_end h, cond_false, List.flatMap_nil, List.append_nil]
  | x :: l2, l1, k + 1, w, h, hk, hw => by
    rw [code_putFunc.l1.f]
    have hl1 : l1.length ≤ 12 := by rw [h] at hl; simp at hl; omega
    have hx := hr x (by rw [h]; simp)
    have hlen := encInsn_len hx
    simp only [List.length_cons] at hw hk
    simp only [lt_mid h, ge0, at_mid h, cond_true, some_bind, putInsn_val hK (op := x.1) (d := x.2.1) (a := x.2.2.1) (b := x.2.2.2.1) (n := x.2.2.2.2.1) (args := x.2.2.2.2.2) hx (w := w) (by omega), wrap_next (l1 := l1) (x := x) (by omega)]
    refine (putFunc_l1 hK hl hr l2 (l1 ++ [x]) k _ (mid_next h) (by omega) ?_).trans ?_
    · simp only [List.length_append]
      have : (encInsn (x.1, x.2.1, x.2.2.1, x.2.2.2.1, x.2.2.2.2.1, x.2.2.2.2.2)).length ≤ 14 := hlen
      omega
    · simp only [List.flatMap_cons, List.append_assoc]
theorem putFunc_l0 (hK : 2000 ≤ K) {l : List LBlock} (hl : l.length ≤ 12) (hr : ∀ b ∈ l, lowB b) : ∀ (l2 l1 : List LBlock) (k : Nat) (w : List Int), l = l1 ++ l2 → l2.length < k → w.length + 173 * l2.length + 400 ≤ 100000 →
    code_putFunc.l0.f K k l ((l.length : Nat) : Int) ((l1.length : Nat) : Int) w = some (w ++ l2.flatMap encBlock)
  | l2, l1, 0, w, h, hk, hw => by omega
  | [], l1, k + 1, w, h, hk, hw => by
    rw [code_putFunc.l0.f]
    simp only [lt_end h, cond_false, List.flatMap_nil, List.append_nil]
  | x :: l2, l1, k + 1, w, h, hk, hw => by
    rw [code_putFunc.l0.f]
    have hl1 : l1.length ≤ 12 := by rw [h] at hl; simp at hl; omega
    have hx := hr x (by rw [h]; simp)
    have hlen := encBlock_len hx
    have h12 := hx.len
    simp only [List.length_cons] at hw hk
    have g1 : code_putFunc.l1.f K K x.1 ((x.1.length : Nat) : Int) (0 : Int) (w ++ [((x.1.length : Nat) : Int)]) = some (w ++ [((x.1.length : Nat) : Int)] ++ x.1.flatMap encInsn) := putFunc_l1 hK h12 hx.insns x.1 [] K _ rfl (by omega) (by simp only [List.length_append, List.length_cons, List.length_nil]; omega)
    have hfl := flat_len (f := encInsn) (c := 14) fun y hy => encInsn_len (hx.insns y hy)
    have h4 : 14 * x.1.length ≤ 14 * 12 := Nat.mul_le_mul_left _ h12
    have g2 := putEnd_val (K := K) hK (o := x.2.1) (a := x.2.2.1) (t := x.2.2.2.1) (e := x.2.2.2.2) (w := w ++ [((x.1.length : Nat) : Int)] ++ x.1.flatMap encInsn) hx.fin (by simp only [List.length_append, List.length_cons, List.length_nil]; omega)
    simp only [lt_mid h, ge0, at_mid h, cond_true, some_bind, uintS_val hK (n := ((x.1.length : Nat) : Int)) (l := w) (by omega) (by omega) (by omega), g1, g2, wrap_next (l1 := l1) (x := x) (by omega)]
    have he : w ++ [((x.1.length : Nat) : Int)] ++ x.1.flatMap encInsn ++ encEnd (x.2.1, x.2.2.1, x.2.2.2.1, x.2.2.2.2) = w ++ encBlock x := by simp [encBlock]
    rw [he]
    refine (putFunc_l0 hK hl hr l2 (l1 ++ [x]) k _ (mid_next h) (by omega) ?_).trans ?_
    · simp only [List.length_append]; omega
    · simp only [List.flatMap_cons, List.append_assoc]
def encName (s : ByteArray) : List Int := ((s.size : Nat) : Int) :: bytesOf s
def encFunc (f : LFunc) : List Int := encName f.1 ++ (f.2.1 :: f.2.2.1 :: ((f.2.2.2.length : Nat) : Int) :: f.2.2.2.flatMap encBlock)
structure lowF (f : LFunc) : Prop where
  name : f.1.size ≤ 12
  arity : 0 ≤ f.2.1 ∧ f.2.1 ≤ 4
  regs : 0 ≤ f.2.2.1 ∧ f.2.2.1 ≤ 8
  len : f.2.2.2.length ≤ 12
  blocks : ∀ b ∈ f.2.2.2, lowB b
theorem encFunc_len {f : LFunc} (h : lowF f) : (encFunc f).length ≤ 2092 := by
  have h1 := flat_len (f := encBlock) (c := 173) fun x hx => encBlock_len (h.blocks x hx)
  have h3 := h.len
  have h4 : 173 * f.2.2.2.length ≤ 173 * 12 := Nat.mul_le_mul_left _ h3
  have h5 := h.name
  simp only [encFunc, encName, List.length_cons, List.length_append, bytesOf_len]
  omega
theorem section_val (hK : 2000 ≤ K) {s : ByteArray} {w : List Int} (hs : s.size ≤ 12) (hw : w.length + 60 ≤ 100000) : wire_Writer_Section.f K (bytesOf s) w = some (w ++ encName s) := by
  unfold wire_Writer_Section.f
  have hb := bytesOf_len s
  rw [uintS_val hK (n := (((bytesOf s).length : Nat) : Int)) (by omega) (by omega) (by omega), some_bind, raw_val (by simp; omega), hb]
  simp [encName]
theorem putFunc_val (hK : 2000 ≤ K) {f : LFunc} {w : List Int} (h : lowF f) (hw : w.length + 3000 ≤ 100000) : code_putFunc.f K f.1 f.2.1 f.2.2.1 f.2.2.2 w = some (w ++ encFunc f) := by
  obtain ⟨hn, ha, hr, hl, hb⟩ := h
  unfold code_putFunc.f
  have hbl := bytesOf_len f.1
  have e : Nat.ble f.1.size 100000 = true := Nat.ble_eq_true_of_le (by omega)
  have hlen : (encName f.1).length ≤ 13 := by simp [encName, hbl]; omega
  have u : ∀ {v : Int} {l : List Int}, 0 ≤ v ∧ v < 128 → l.length + 10 ≤ 100000 → wire_Writer_Uint.f K (IntKind.u64.wrap v) l = some (l ++ [v]) := fun hv hl => uintS_val hK hv.1 hv.2 hl
  have g : code_putFunc.l0.f K K f.2.2.2 ((f.2.2.2.length : Nat) : Int) (0 : Int) (w ++ encName f.1 ++ [f.2.1] ++ [f.2.2.1] ++ [((f.2.2.2.length : Nat) : Int)]) = _ := putFunc_l0 hK hl hb f.2.2.2 [] K _ rfl (by omega) (by
    have h4 : 173 * f.2.2.2.length ≤ 173 * 12 := Nat.mul_le_mul_left _ hl
    simp only [List.length_append, List.length_cons, List.length_nil]; omega)
  simp only [e, cond_true, section_val hK hn (w := w) (by omega), some_bind, u (v := f.2.1) ⟨ha.1, by omega⟩ (l := w ++ encName f.1) (by simp only [List.length_append]; omega),
    u (v := f.2.2.1) ⟨hr.1, by omega⟩ (l := w ++ encName f.1 ++ [f.2.1]) (by simp only [List.length_append, List.length_cons, List.length_nil]; omega),
    u (v := ((f.2.2.2.length : Nat) : Int)) ⟨by omega, by omega⟩ (l := w ++ encName f.1 ++ [f.2.1] ++ [f.2.2.1]) (by simp only [List.length_append, List.length_cons, List.length_nil]; omega), g]
  simp [encFunc]
/-! ### Modules -/
def encImport (m : LImport) : List Int := encName m.1 ++ [m.2]
def encMod (cells : List Int) (fs : List LFunc) (is : List LImport) : List Int :=
  [65, 86, 1] ++ (((cells.length : Nat) : Int) :: (cells.flatMap encI ++ (((fs.length : Nat) : Int) :: (fs.flatMap encFunc ++ (((is.length : Nat) : Int) :: is.flatMap encImport)))))
structure lowM (cells : List Int) (fs : List LFunc) (is : List LImport) : Prop where
  clen : cells.length ≤ 16
  cells : ∀ c ∈ cells, i64 c
  len : fs.length + is.length ≤ 24
  funcs : ∀ f ∈ fs, lowF f
  imports : ∀ m ∈ is, m.1.size ≤ 12 ∧ 0 ≤ m.2 ∧ m.2 ≤ 4
theorem write_l0 (hK : 2000 ≤ K) {l : List Int} (hl : l.length ≤ 16) (hr : ∀ c ∈ l, i64 c) : ∀ (l2 l1 : List Int) (k : Nat) (w : List Int), l = l1 ++ l2 → l2.length < k → w.length + 10 * l2.length + 100 ≤ 100000 →
    code_Write.l0.f K k l ((l.length : Nat) : Int) ((l1.length : Nat) : Int) w = some (w ++ l2.flatMap encI)
  | l2, l1, 0, w, h, hk, hw => by omega
  | [], l1, k + 1, w, h, hk, hw => by
    rw [code_Write.l0.f]
    simp only [lt_end h, cond_false, List.flatMap_nil, List.append_nil]
  | x :: l2, l1, k + 1, w, h, hk, hw => by
    rw [code_Write.l0.f]
    have hl1 : l1.length ≤ 16 := by rw [h] at hl; simp at hl; omega
    have hx := hr x (by rw [h]; simp)
    have hlen := encI_len x
    simp only [List.length_cons] at hw hk
    simp only [lt_mid h, ge0, at_mid h, cond_true, some_bind, wint_val hK hx (l := w) (by omega), wrap_next (l1 := l1) (x := x) (by omega)]
    refine (write_l0 hK hl hr l2 (l1 ++ [x]) k _ (mid_next h) (by omega) ?_).trans ?_
    · simp only [List.length_append]; omega
    · simp only [List.flatMap_cons, List.append_assoc]
theorem write_l1 (hK : 2000 ≤ K) {l : List LFunc} (hl : l.length ≤ 24) (hr : ∀ f ∈ l, lowF f) : ∀ (l2 l1 : List LFunc) (k : Nat) (w : List Int), l = l1 ++ l2 → l2.length < k → w.length + 2092 * l2.length + 3000 ≤ 100000 →
    code_Write.l1.f K k l ((l.length : Nat) : Int) ((l1.length : Nat) : Int) w = some (w ++ l2.flatMap encFunc)
  | l2, l1, 0, w, h, hk, hw => by omega
  | [], l1, k + 1, w, h, hk, hw => by
    rw [code_Write.l1.f]
    simp only [lt_end h, cond_false, List.flatMap_nil, List.append_nil]
  | x :: l2, l1, k + 1, w, h, hk, hw => by
    rw [code_Write.l1.f]
    have hl1 : l1.length ≤ 24 := by rw [h] at hl; simp at hl; omega
    have hx := hr x (by rw [h]; simp)
    have hlen := encFunc_len hx
    simp only [List.length_cons] at hw hk
    simp only [lt_mid h, ge0, at_mid h, cond_true, some_bind, putFunc_val hK hx (w := w) (by omega), wrap_next (l1 := l1) (x := x) (by omega)]
    refine (write_l1 hK hl hr l2 (l1 ++ [x]) k _ (mid_next h) (by omega) ?_).trans ?_
    · simp only [List.length_append]; omega
    · simp only [List.flatMap_cons, List.append_assoc]
theorem encImport_len {m : LImport} (h : m.1.size ≤ 12) : (encImport m).length ≤ 14 := by
  simp only [encImport, encName, List.length_append, List.length_cons, List.length_nil, bytesOf_len]; omega
theorem write_l2 (hK : 2000 ≤ K) {l : List LImport} (hl : l.length ≤ 24) (hr : ∀ m ∈ l, m.1.size ≤ 12 ∧ 0 ≤ m.2 ∧ m.2 ≤ 4) : ∀ (l2 l1 : List LImport) (k : Nat) (w : List Int), l = l1 ++ l2 → l2.length < k → w.length + 14 * l2.length + 100 ≤ 100000 →
    code_Write.l2.f K k l ((l.length : Nat) : Int) ((l1.length : Nat) : Int) w = some (w ++ l2.flatMap encImport)
  | l2, l1, 0, w, h, hk, hw => by omega
  | [], l1, k + 1, w, h, hk, hw => by
    rw [code_Write.l2.f]
    simp only [lt_end h, cond_false, List.flatMap_nil, List.append_nil]
  | x :: l2, l1, k + 1, w, h, hk, hw => by
    rw [code_Write.l2.f]
    have hl1 : l1.length ≤ 24 := by rw [h] at hl; simp at hl; omega
    obtain ⟨q1, q2, q3⟩ := hr x (by rw [h]; simp)
    have e : Nat.ble x.1.size 100000 = true := Nat.ble_eq_true_of_le (by omega)
    have hlen := encImport_len (m := x) q1
    have hlen2 : (encName x.1).length ≤ 13 := by simp [encName, bytesOf_len]; omega
    simp only [List.length_cons] at hw hk
    simp only [lt_mid h, ge0, at_mid h, cond_true, some_bind, e, section_val hK q1 (w := w) (by omega), uintS_val hK q2 (n := x.2) (by omega) (l := w ++ encName x.1) (by simp only [List.length_append]; omega), wrap_next (l1 := l1) (x := x) (by omega)]
    refine (write_l2 hK hl hr l2 (l1 ++ [x]) k _ (mid_next h) (by omega) ?_).trans ?_
    · simp only [List.length_append, List.length_cons, List.length_nil]; omega
    · simp [encImport]
theorem encMod_len {cells : List Int} {fs : List LFunc} {is : List LImport} (h : lowM cells fs is) : (encMod cells fs is).length ≤ 60000 := by
  have a1 := flat_len (f := encI) (c := 10) (l := cells) fun x hx => encI_len x
  have a2 := flat_len (f := encFunc) (c := 2092) fun x hx => encFunc_len (h.funcs x hx)
  have a3 := flat_len (f := encImport) (c := 14) (l := is) fun x hx => encImport_len (h.imports x hx).1
  have h1 := h.clen
  have h2 := h.len
  simp only [encMod, List.length_append, List.length_cons, List.length_nil]
  omega
theorem write_val (hK : 2000 ≤ K) {cells : List Int} {fs : List LFunc} {is : List LImport} (hwf : WF cells fs is) (h : lowM cells fs is) : code_Write.f K cells fs is = some (encMod cells fs is, Err.nil) := by
  unfold code_Write.f
  have a1 := flat_len (f := encI) (c := 10) (l := cells) fun x hx => encI_len x
  have a2 := flat_len (f := encFunc) (c := 2092) fun x hx => encFunc_len (h.funcs x hx)
  have a3 := flat_len (f := encImport) (c := 14) (l := is) fun x hx => encImport_len (h.imports x hx).1
  have hml := encMod_len h
  obtain ⟨h1, h2, h3, h4, h5⟩ := h
  have u : ∀ {v : Int} {l : List Int}, 0 ≤ v ∧ v < 128 → l.length + 10 ≤ 100000 → wire_Writer_Uint.f K (IntKind.u64.wrap v) l = some (l ++ [v]) := fun hv hl => uintS_val hK hv.1 hv.2 hl
  have g0 : code_Write.l0.f K K cells ((cells.length : Nat) : Int) (0 : Int) ([] ++ [65, 86, 1] ++ [((cells.length : Nat) : Int)]) = _ := write_l0 hK h1 h2 cells [] K _ rfl (by omega) (by simp only [List.length_append, List.length_cons, List.length_nil]; omega)
  have g1 : code_Write.l1.f K K fs ((fs.length : Nat) : Int) (0 : Int) ([] ++ [65, 86, 1] ++ [((cells.length : Nat) : Int)] ++ cells.flatMap encI ++ [((fs.length : Nat) : Int)]) = _ := write_l1 hK (by omega) h4 fs [] K _ rfl (by omega) (by simp only [List.length_append, List.length_cons, List.length_nil]; omega)
  have g2 : code_Write.l2.f K K is ((is.length : Nat) : Int) (0 : Int) ([] ++ [65, 86, 1] ++ [((cells.length : Nat) : Int)] ++ cells.flatMap encI ++ [((fs.length : Nat) : Int)] ++ fs.flatMap encFunc ++ [((is.length : Nat) : Int)]) = _ := write_l2 hK (by omega) h5 is [] K _ rfl (by omega) (by simp only [List.length_append, List.length_cons, List.length_nil]; omega)
  simp only [icheck_val hK hwf, some_bind, Err.isNil, Bool.not_true, cond_true, cond_false, wire_New.f, raw_val (K := K) (a := [65, 86, 1]) (l := []) (by simp),
    u (v := ((cells.length : Nat) : Int)) ⟨by omega, by omega⟩ (l := [] ++ [65, 86, 1]) (by simp), g0,
    u (v := ((fs.length : Nat) : Int)) ⟨by omega, by omega⟩ (l := [] ++ [65, 86, 1] ++ [((cells.length : Nat) : Int)] ++ cells.flatMap encI) (by simp only [List.length_append, List.length_cons, List.length_nil]; omega), g1,
    u (v := ((is.length : Nat) : Int)) ⟨by omega, by omega⟩ (l := [] ++ [65, 86, 1] ++ [((cells.length : Nat) : Int)] ++ cells.flatMap encI ++ [((fs.length : Nat) : Int)] ++ fs.flatMap encFunc) (by simp only [List.length_append, List.length_cons, List.length_nil]; omega), g2]
  have e : [] ++ [65, 86, 1] ++ [((cells.length : Nat) : Int)] ++ cells.flatMap encI ++ [((fs.length : Nat) : Int)] ++ fs.flatMap encFunc ++ [((is.length : Nat) : Int)] ++ is.flatMap encImport = encMod cells fs is := by simp [encMod]
  rw [e]
  unfold wire_Writer_Bytes.f slices_Clone_byte_byte_in.f
  rw [Nat.ble_eq_true_of_le (by omega)]
  rfl
end Go.Proofs.YtdjkdmjdcdljmaaGreat.AR
