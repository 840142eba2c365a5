/- Modules as bytes: a module that was written is read back. No condition beside those stated. -/
import Derived.Test.YtdjkdmjdcdljmaaGreatRl

namespace Go.Proofs.YtdjkdmjdcdljmaaGreat.AR
open Go.Proofs.YtdjkdmjdcdljmaaGreatX
set_option linter.unusedVariables false
set_option linter.unusedSimpArgs false
set_option maxRecDepth 100000
set_option maxHeartbeats 4000000
variable {K : Nat}

structure tightF (f : LFunc) : Prop where
  name : f.1.size ≤ 12
  arity : 0 ≤ f.2.1 ∧ f.2.1 ≤ 4
  regs : 0 ≤ f.2.2.1 ∧ f.2.2.1 ≤ 8
  len : f.2.2.2.length ≤ 12
  blocks : ∀ b ∈ f.2.2.2, tightB b
theorem takeFunc_l0 (hK : 2000 ≤ K) {n : Nat} {l post : List Int} (hl : l.length ≤ 100000) (hn : n ≤ 12) : ∀ (r acc : List LBlock) (pre : List Int) (k : Nat), l = pre ++ (r.flatMap encBlock ++ post) → acc.length + r.length = n → r.length < k → (∀ x ∈ r, tightB x) →
    code_taker_function.l0.f K k ((n : Nat) : Int) ((acc.length : Nat) : Int) Err.nil l ((pre.length : Nat) : Int) acc = some (Err.nil, (((pre ++ r.flatMap encBlock).length : Nat) : Int), acc ++ r)
  | r, acc, pre, 0, h, hr, hk, hv => by omega
  | [], acc, pre, k + 1, h, hr, hk, hv => by
    rw [code_taker_function.l0.f]
    have e : decide (((acc.length : Nat) : Int) < ((n : Nat) : Int)) = false := by simp at hr ⊢; omega
    simp only [e, cond_false, List.append_nil, List.flatMap_nil]
  | x :: r, acc, pre, k + 1, h, hr, hk, hv => by
    rw [code_taker_function.l0.f]
    have e : decide (((acc.length : Nat) : Int) < ((n : Nat) : Int)) = true := by simp at hr ⊢; omega
    have u := takeBlock (K := K) hK (b := x) (l := l) (pre := pre) (post := r.flatMap encBlock ++ post) (by rw [h]; simp) hl (hv x (by simp))
    have e4 : Nat.ble (acc.length + [(x.1, x.2.1, x.2.2.1, x.2.2.2.1, x.2.2.2.2)].length) 100000 = true := Nat.ble_eq_true_of_le (by simp at hr ⊢; omega)
    simp only [e, cond_true, u, some_bind, e4, wrap_next (l1 := acc) (x := x) (by simp at hr; omega)]
    refine (takeFunc_l0 (post := post) hK hl hn r (acc ++ [x]) (pre ++ encBlock x) k (by rw [h]; simp) (by simp at hr ⊢; omega) (by simp at hk; omega) (fun v hv' => hv v (by simp [hv']))).trans ?_
    simp
theorem takeFunc (hK : 2000 ≤ K) {f : LFunc} {l pre post : List Int} (h : l = pre ++ (encFunc f ++ post)) (hl : l.length ≤ 100000) (hf : tightF f) :
    code_taker_function.f K Err.nil l ((pre.length : Nat) : Int) = some (f.1, f.2.1, f.2.2.1, f.2.2.2, Err.nil, l, (((pre ++ encFunc f).length : Nat) : Int)) := by
  obtain ⟨h1, h2, h3, h4, h5⟩ := hf
  unfold code_taker_function.f
  simp only [encFunc] at h ⊢
  rw [takeName hK (s := f.1) (post := f.2.1 :: f.2.2.1 :: ((f.2.2.2.length : Nat) : Int) :: (f.2.2.2.flatMap encBlock ++ post)) (by rw [h]; simp) hl h1]
  simp only [some_bind]
  rw [upto_val hK (v := f.2.1) (post := f.2.2.1 :: ((f.2.2.2.length : Nat) : Int) :: (f.2.2.2.flatMap encBlock ++ post)) (by rw [h]; simp) hl h2.1 h2.2 (by omega)]
  simp only [some_bind]
  rw [upto_val hK (v := f.2.2.1) (post := ((f.2.2.2.length : Nat) : Int) :: (f.2.2.2.flatMap encBlock ++ post)) (by rw [h]; simp) hl h3.1 h3.2 (by omega)]
  simp only [some_bind]
  rw [upto_val hK (v := ((f.2.2.2.length : Nat) : Int)) (post := f.2.2.2.flatMap encBlock ++ post) (by rw [h]; simp) hl (by omega) (by omega) (by omega)]
  simp only [some_bind]
  have t := takeFunc_l0 (K := K) hK (n := f.2.2.2.length) (l := l) (post := post) hl h4 f.2.2.2 [] (pre ++ encName f.1 ++ [f.2.1] ++ [f.2.2.1] ++ [((f.2.2.2.length : Nat) : Int)]) K (by rw [h]; simp) (by simp) (by omega) h5
  rw [show code_taker_function.l0.f K K ((f.2.2.2.length : Nat) : Int) (0 : Int) Err.nil l _ [] = _ from t]
  simp
theorem takeMod_l0 (hK : 2000 ≤ K) {n : Nat} {l post : List Int} (hl : l.length ≤ 100000) (hn : n ≤ 16) : ∀ (r acc : List Int) (pre : List Int) (k : Nat), l = pre ++ (r.flatMap encI ++ post) → acc.length + r.length = n → r.length < k → (∀ x ∈ r, i64 x) →
    code_taker_module.l0.f K k ((n : Nat) : Int) ((acc.length : Nat) : Int) Err.nil l ((pre.length : Nat) : Int) acc = some (Err.nil, (((pre ++ r.flatMap encI).length : Nat) : Int), acc ++ r)
  | r, acc, pre, 0, h, hr, hk, hv => by omega
  | [], acc, pre, k + 1, h, hr, hk, hv => by
    rw [code_taker_module.l0.f]
    have e : decide (((acc.length : Nat) : Int) < ((n : Nat) : Int)) = false := by simp at hr ⊢; omega
    simp only [e, cond_false, List.append_nil, List.flatMap_nil]
  | x :: r, acc, pre, k + 1, h, hr, hk, hv => by
    rw [code_taker_module.l0.f]
    have e : decide (((acc.length : Nat) : Int) < ((n : Nat) : Int)) = true := by simp at hr ⊢; omega
    have u := signed_val (K := K) hK (n := x) (l := l) (pre := pre) (post := r.flatMap encI ++ post) (by rw [h]; simp) hl (hv x (by simp))
    have e4 : Nat.ble (acc.length + [x].length) 100000 = true := Nat.ble_eq_true_of_le (by simp at hr ⊢; omega)
    simp only [e, cond_true, u, some_bind, e4, wrap_next (l1 := acc) (x := x) (by simp at hr; omega)]
    refine (takeMod_l0 (post := post) hK hl hn r (acc ++ [x]) (pre ++ encI x) k (by rw [h]; simp) (by simp at hr ⊢; omega) (by simp at hk; omega) (fun v hv' => hv v (by simp [hv']))).trans ?_
    simp
theorem takeMod_l1 (hK : 2000 ≤ K) {n : Nat} {l post : List Int} (hl : l.length ≤ 100000) (hn : n ≤ 24) : ∀ (r acc : List LFunc) (pre : List Int) (k : Nat), l = pre ++ (r.flatMap encFunc ++ post) → acc.length + r.length = n → r.length < k → (∀ x ∈ r, tightF x) →
    code_taker_module.l1.f K k ((n : Nat) : Int) ((acc.length : Nat) : Int) Err.nil l ((pre.length : Nat) : Int) acc = some (Err.nil, l, (((pre ++ r.flatMap encFunc).length : Nat) : Int), acc ++ r)
  | r, acc, pre, 0, h, hr, hk, hv => by omega
  | [], acc, pre, k + 1, h, hr, hk, hv => by
    rw [code_taker_module.l1.f]
    have e : decide (((acc.length : Nat) : Int) < ((n : Nat) : Int)) = false := by simp at hr ⊢; omega
    simp only [e, cond_false, List.append_nil, List.flatMap_nil]
  | x :: r, acc, pre, k + 1, h, hr, hk, hv => by
    rw [code_taker_module.l1.f]
    have e : decide (((acc.length : Nat) : Int) < ((n : Nat) : Int)) = true := by simp at hr ⊢; omega
    have u := takeFunc (K := K) hK (f := x) (l := l) (pre := pre) (post := r.flatMap encFunc ++ post) (by rw [h]; simp) hl (hv x (by simp))
    have e4 : Nat.ble (acc.length + [(x.1, x.2.1, x.2.2.1, x.2.2.2)].length) 100000 = true := Nat.ble_eq_true_of_le (by simp at hr ⊢; omega)
    simp only [e, cond_true, u, some_bind, e4, wrap_next (l1 := acc) (x := x) (by simp at hr; omega)]
    refine (takeMod_l1 (post := post) hK hl hn r (acc ++ [x]) (pre ++ encFunc x) k (by rw [h]; simp) (by simp at hr ⊢; omega) (by simp at hk; omega) (fun v hv' => hv v (by simp [hv']))).trans ?_
    simp
theorem takeMod_l2 (hK : 2000 ≤ K) {n : Nat} {l post : List Int} (hl : l.length ≤ 100000) (hn : n ≤ 24) : ∀ (r acc : List LImport) (pre : List Int) (k : Nat), l = pre ++ (r.flatMap encImport ++ post) → acc.length + r.length = n → r.length < k → (∀ x ∈ r, x.1.size ≤ 12 ∧ 0 ≤ x.2 ∧ x.2 ≤ 4) →
    code_taker_module.l2.f K k ((n : Nat) : Int) ((acc.length : Nat) : Int) Err.nil l ((pre.length : Nat) : Int) acc = some (Err.nil, (((pre ++ r.flatMap encImport).length : Nat) : Int), acc ++ r)
  | r, acc, pre, 0, h, hr, hk, hv => by omega
  | [], acc, pre, k + 1, h, hr, hk, hv => by
    rw [code_taker_module.l2.f]
    have e : decide (((acc.length : Nat) : Int) < ((n : Nat) : Int)) = false := by simp at hr ⊢; omega
    simp only [e, cond_false, List.append_nil, List.flatMap_nil]
  | x :: r, acc, pre, k + 1, h, hr, hk, hv => by
    rw [code_taker_module.l2.f]
    have e : decide (((acc.length : Nat) : Int) < ((n : Nat) : Int)) = true := by simp at hr ⊢; omega
    obtain ⟨q1, q2, q3⟩ := hv x (by simp)
    have u := takeName (K := K) hK (s := x.1) (l := l) (pre := pre) (post := x.2 :: (r.flatMap encImport ++ post)) (by rw [h]; simp [encImport]) hl q1
    have u2 := upto_val (K := K) hK (most := 4) (v := x.2) (l := l) (pre := pre ++ encName x.1) (post := r.flatMap encImport ++ post) (by rw [h]; simp [encImport]) hl q2 q3 (by omega)
    have e4 : Nat.ble (acc.length + [(x.1, x.2)].length) 100000 = true := Nat.ble_eq_true_of_le (by simp at hr ⊢; omega)
    simp only [e, cond_true, u, u2, some_bind, e4, wrap_next (l1 := acc) (x := x) (by simp at hr; omega)]
    refine (takeMod_l2 (post := post) hK hl hn r (acc ++ [x]) (pre ++ encName x.1 ++ [x.2]) k (by rw [h]; simp [encImport]) (by simp at hr ⊢; omega) (by simp at hk; omega) (fun v hv' => hv v (by simp [hv']))).trans ?_
    simp [encImport]
structure tightM (cells : List Int) (fs : List LFunc) (is : List LImport) : Prop where
  clen : cells.length ≤ 16
  cells : ∀ c ∈ cells, i64 c
  len : fs.length + is.length ≤ 24
  funcs : ∀ f ∈ fs, tightF f
  imports : ∀ m ∈ is, m.1.size ≤ 12 ∧ 0 ≤ m.2 ∧ m.2 ≤ 4
theorem head_ok : (!(strOf [(65 : Int), (86 : Int), (1 : Int)]).toList == (ByteArray.mk #[(65 : UInt8), (86 : UInt8), (1 : UInt8)]).toList) = false := by
  rw [ByteArray.toList_eq, ByteArray.toList_eq]
  decide
theorem rend_val {l : List Int} (hl : l.length ≤ 100000) : wire_Reader_End.f K l ((l.length : Nat) : Int) = some Err.nil := by
  unfold wire_Reader_End.f
  rw [rleft_val (Nat.le_refl _) hl]
  simp
/-- All of a module's bytes, in some place of others: the taker stands behind them. -/
theorem takeMod (hK : 2000 ≤ K) {cells : List Int} {fs : List LFunc} {is : List LImport} {l pre : List Int} (h : l = pre ++ (encMod cells fs is)) (hl : l.length ≤ 100000) (hm : tightM cells fs is) :
    code_taker_module.f K l ((pre.length : Nat) : Int) = some (cells, fs, is, Err.nil, l, ((l.length : Nat) : Int)) := by
  obtain ⟨h1, h2, h3, h4, h5⟩ := hm
  unfold code_taker_module.f
  simp only [encMod] at h
  rw [show wire_Reader_Raw.f K (3 : Int) l ((pre.length : Nat) : Int) = _ from rraw_val (K := K) (x := [65, 86, 1]) (l := l) (pre := pre) (post := (((cells.length : Nat) : Int) :: (cells.flatMap encI ++ (((fs.length : Nat) : Int) :: (fs.flatMap encFunc ++ (((is.length : Nat) : Int) :: is.flatMap encImport)))))) (by rw [h]) hl]
  simp only [wire_Reader_At.f, some_bind, Err.isNil, cond_true, cond_false, head_ok, bindC_def]
  rw [upto_val hK (v := ((cells.length : Nat) : Int)) (post := cells.flatMap encI ++ (((fs.length : Nat) : Int) :: (fs.flatMap encFunc ++ (((is.length : Nat) : Int) :: is.flatMap encImport)))) (by rw [h]; simp) hl (by omega) (by omega) (by omega)]
  simp only [some_bind]
  have t0 := takeMod_l0 (K := K) hK (n := cells.length) (l := l) (post := ((fs.length : Nat) : Int) :: (fs.flatMap encFunc ++ (((is.length : Nat) : Int) :: is.flatMap encImport))) hl h1 cells [] (pre ++ [65, 86, 1] ++ [((cells.length : Nat) : Int)]) K (by rw [h]; simp) (by simp) (by omega) h2
  rw [show code_taker_module.l0.f K K ((cells.length : Nat) : Int) (0 : Int) Err.nil l _ [] = _ from t0]
  simp only [some_bind]
  rw [upto_val hK (v := ((fs.length : Nat) : Int)) (post := fs.flatMap encFunc ++ (((is.length : Nat) : Int) :: is.flatMap encImport)) (by rw [h]; simp) hl (by omega) (by omega) (by omega)]
  simp only [some_bind]
  have t1 := takeMod_l1 (K := K) hK (n := fs.length) (l := l) (post := ((is.length : Nat) : Int) :: is.flatMap encImport) hl (by omega) fs [] (pre ++ [65, 86, 1] ++ [((cells.length : Nat) : Int)] ++ cells.flatMap encI ++ [((fs.length : Nat) : Int)]) K (by rw [h]; simp) (by simp) (by omega) h4
  rw [show code_taker_module.l1.f K K ((fs.length : Nat) : Int) (0 : Int) Err.nil l _ [] = _ from t1]
  simp only [some_bind]
  rw [upto_val hK (v := ((is.length : Nat) : Int)) (post := is.flatMap encImport) (by rw [h]; simp) hl (by omega) (by omega) (by omega)]
  simp only [some_bind]
  have t2 := takeMod_l2 (K := K) hK (n := is.length) (l := l) (post := []) hl (by omega) is [] (pre ++ [65, 86, 1] ++ [((cells.length : Nat) : Int)] ++ cells.flatMap encI ++ [((fs.length : Nat) : Int)] ++ fs.flatMap encFunc ++ [((is.length : Nat) : Int)]) K (by rw [h]; simp) (by simp) (by omega) h5
  rw [show code_taker_module.l2.f K K ((is.length : Nat) : Int) (0 : Int) Err.nil l _ [] = _ from t2]
  have he : pre ++ [65, 86, 1] ++ [((cells.length : Nat) : Int)] ++ cells.flatMap encI ++ [((fs.length : Nat) : Int)] ++ fs.flatMap encFunc ++ [((is.length : Nat) : Int)] ++ is.flatMap encImport = l := by rw [h]; simp
  simp only [some_bind, cond_true, cond_false, List.nil_append, he, rend_val hl]
theorem take_val (hK : 2000 ≤ K) {cells : List Int} {fs : List LFunc} {is : List LImport} {l pre : List Int} (h : l = pre ++ (encMod cells fs is)) (hl : l.length ≤ 100000) (hm : tightM cells fs is) (hwf : WF cells fs is) :
    code_Take.f K l ((pre.length : Nat) : Int) = some (cells, fs, is, Err.nil, l, ((l.length : Nat) : Int)) := by
  unfold code_Take.f
  rw [takeMod hK h hl hm]
  simp only [some_bind, Err.isNil, cond_true, cond_false, icheck_val hK hwf, Bool.not_true]
theorem read_val (hK : 2000 ≤ K) {cells : List Int} {fs : List LFunc} {is : List LImport} (hm : tightM cells fs is) (hwf : WF cells fs is) (hl : (encMod cells fs is).length ≤ 100000) : code_Read.f K (encMod cells fs is) = some (cells, fs, is, Err.nil) := by
  unfold code_Read.f wire_Read.f slices_Clone_byte_byte.f
  rw [Nat.ble_eq_true_of_le (by omega)]
  simp only [cond_true, some_bind]
  rw [show code_Take.f K (encMod cells fs is) (0 : Int) = _ from take_val hK (pre := []) (by simp) hl hm hwf]
  rfl
/-- All numbers are of 64 bits. -/
def wide (cells : List Int) (fs : List LFunc) : Prop := (∀ c ∈ cells, i64 c) ∧ ∀ f ∈ fs, ∀ b ∈ f.2.2.2, ∀ x ∈ b.1, i64 x.2.2.2.2.1
theorem ar_len {fs : List LFunc} {is : List LImport} : (arities fs is).length = fs.length + is.length := by simp
theorem WF.low {cells : List Int} {fs : List LFunc} {is : List LImport} (h : WF cells fs is) (hw : wide cells fs) : lowM cells fs is := by
  refine ⟨h.ncells, hw.1, h.count, fun f hf => ?_, fun m hm => ?_⟩
  · obtain ⟨i, hi⟩ := List.mem_iff_getElem?.1 hf
    obtain ⟨ok, _⟩ := h.funcs i f hi
    have hr := ok.regs
    refine ⟨ok.name.2.1, ok.arity, ⟨by omega, by omega⟩, ok.blocks.2, fun b hb => ?_⟩
    have okb := ok.each b hb
    exact ⟨okb.len, fun x hx => (okb.insns x hx).low hr.2.1 h.ncells (by rw [ar_len]; exact h.count) h.ar_le (hw.2 f hf b hb x hx), okb.fin.low hr.2.1 ok.blocks.2⟩
  · obtain ⟨i, hi⟩ := List.mem_iff_getElem?.1 hm
    have ok := h.imports i m hi
    exact ⟨ok.name.2.1, ok.arity⟩
theorem WF.tight {cells : List Int} {fs : List LFunc} {is : List LImport} (h : WF cells fs is) (hw : wide cells fs) : tightM cells fs is := by
  refine ⟨h.ncells, hw.1, h.count, fun f hf => ?_, fun m hm => ?_⟩
  · obtain ⟨i, hi⟩ := List.mem_iff_getElem?.1 hf
    obtain ⟨ok, _⟩ := h.funcs i f hi
    have hr := ok.regs
    refine ⟨ok.name.2.1, ok.arity, ⟨by omega, by omega⟩, ok.blocks.2, fun b hb => ?_⟩
    have okb := ok.each b hb
    exact ⟨okb.len, fun x hx => (okb.insns x hx).tight hr.2.1 h.ncells (by rw [ar_len]; exact h.count) h.ar_le (hw.2 f hf b hb x hx), okb.fin.tight hr.2.1 ok.blocks.2⟩
  · obtain ⟨i, hi⟩ := List.mem_iff_getElem?.1 hm
    have ok := h.imports i m hi
    exact ⟨ok.name.2.1, ok.arity⟩
/-- Written and read back. -/
theorem round_trip (hK : 2000 ≤ K) {cells : List Int} {fs : List LFunc} {is : List LImport} (h : WF cells fs is) (hw : wide cells fs) : ∃ bs, code_Write.f K cells fs is = some (bs, Err.nil) ∧ code_Read.f K bs = some (cells, fs, is, Err.nil) :=
  ⟨_, write_val hK h (h.low hw), read_val hK (h.tight hw) h (by have := encMod_len (h.low hw); omega)⟩
end Go.Proofs.YtdjkdmjdcdljmaaGreat.AR
