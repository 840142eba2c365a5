/- Modules as bytes: what is read back. No condition beside those stated. -/
import Derived.Test.YtdjkdmjdcdljmaaGreatRj

namespace Go.Proofs.YtdjkdmjdcdljmaaGreat.AR
open Go.Proofs.YtdjkdmjdcdljmaaGreatX
set_option linter.unusedVariables false
set_option linter.unusedSimpArgs false
set_option maxRecDepth 100000
set_option maxHeartbeats 4000000
variable {K : Nat}

theorem app_next {α : Type} {l pre x post : List α} (h : l = pre ++ (x ++ post)) : l = (pre ++ x) ++ post := by subst h; simp
theorem upto_val (hK : 2000 ≤ K) {most v : Int} {l pre post : List Int} (h : l = pre ++ (v :: post)) (hl : l.length ≤ 100000) (h0 : 0 ≤ v) (hm : v ≤ most) (h128 : most < 128) : code_taker_upto.f K most Err.nil l ((pre.length : Nat) : Int) = some (v, Err.nil, (((pre ++ [v]).length : Nat) : Int)) := by
  obtain ⟨n, rfl⟩ : ∃ n : Nat, v = n := ⟨v.toNat, by omega⟩
  obtain ⟨m, rfl⟩ : ∃ m : Nat, most = m := ⟨most.toNat, by omega⟩
  unfold code_taker_upto.f
  have hn : n < 128 := by omega
  have e := runit_val (K := K) hK (most := m) (n := n) (l := l) (pre := pre) (post := post) (by rw [encU_small hn]; exact h) hl (by omega) (by omega)
  rw [encU_small hn] at e
  rw [wrapU_of (n := ((m : Nat) : Int)) (by omega) (by omega), e]
  simp only [Err.isNil, Bool.not_true, cond_true, cond_false, some_bind]
  rw [wrap64_of (by omega) (by omega)]
theorem signed_val (hK : 2000 ≤ K) {n : Int} {l pre post : List Int} (h : l = pre ++ (encI n ++ post)) (hl : l.length ≤ 100000) (hn : i64 n) : code_taker_signed.f K Err.nil l ((pre.length : Nat) : Int) = some (n, Err.nil, (((pre ++ encI n).length : Nat) : Int)) := by
  unfold code_taker_signed.f wire_Reader_Int.f
  have e := runit_val (K := K) hK (most := 18446744073709551615) (n := zz n) (l := l) (pre := pre) (post := post) h hl (zz_lt hn) (by have := zz_lt hn; omega)
  rw [show wire_Reader_Uint.f K (18446744073709551615 : Int) l ((pre.length : Nat) : Int) = _ from e]
  simp only [Err.isNil, Bool.not_true, cond_true, cond_false, some_bind, zag_val hn]
theorem rbyte_val {v : Int} {l pre post : List Int} (h : l = pre ++ (v :: post)) (hl : l.length ≤ 100000) : wire_Reader_Byte.f K l ((pre.length : Nat) : Int) = some (v, Err.nil, (((pre ++ [v]).length : Nat) : Int)) := by
  unfold wire_Reader_Byte.f
  have hp : pre.length + 1 + post.length = l.length := by rw [h]; simp; omega
  have e1 : (((pre.length : Nat) : Int) == ((l.length : Nat) : Int)) = false := beq_eq_false_iff_ne.2 (by omega)
  have w1 : IntKind.i64.wrap (((pre.length : Nat) : Int) + (1 : Int)) = (((pre ++ [v]).length : Nat) : Int) := wrap_next (by omega)
  have w2 : IntKind.i64.wrap ((((pre ++ [v]).length : Nat) : Int) - (1 : Int)) = ((pre.length : Nat) : Int) := by rw [wrap64_of (by omega) (by simp; omega)]; simp
  simp only [e1, cond_false, w1, w2, ge0, cond_true, at_mid h, some_bind]
theorem kind_val {most v : Int} {l pre post : List Int} (h : l = pre ++ (v :: post)) (hl : l.length ≤ 100000) (h0 : 1 ≤ v) (hm : v ≤ most) (h128 : most < 128) : code_taker_kind.f K most Err.nil l ((pre.length : Nat) : Int) = some (v, Err.nil, (((pre ++ [v]).length : Nat) : Int)) := by
  unfold code_taker_kind.f
  have e1 : decide (v < 1) = false := by simp; omega
  have e2 : decide (v > most) = false := by simp; omega
  simp only [Err.isNil, Bool.not_true, cond_true, cond_false, some_bind, wire_Reader_At.f, rbyte_val h hl, bindC_def, e1, wrap64_of (n := v) (by omega) (by omega), e2]
/-! ### Instructions -/
noncomputable def optT {R : Type} (c : Bool) (K : Nat) (most : Int) (e : Err) (l : List Int) (p : Int) (f : Int → Err → Int → Option R) : Option R := bif c then (code_taker_upto.f K most e l p).bind fun t => f t.1 t.2.1 t.2.2 else f 0 e p
theorem insn_split (e : Err) (l : List Int) (p : Int) : code_taker_insn.f K e l p = (code_taker_kind.f K 17 e l p).bind fun t => (code_of.f K t.1).bind fun c => optT c.1 K 7 t.2.1 l t.2.2 fun d e p => optT c.2.1 K 7 e l p fun a e p => optT c.2.2.1 K c.2.2.2.1 e l p fun b e p =>
    bif t.1 == 1 then (code_taker_signed.f K e l p).bind fun s => some (t.1, d, a, b, s.1, [], s.2.1, s.2.2) else bif t.1 == 17 then (code_taker_upto.f K 4 e l p).bind fun u => (code_taker_insn.l0.f K K u.1 0 u.2.1 l u.2.2 []).bind fun w => some (t.1, d, a, b, 0, w.2.2, w.1, w.2.1) else some (t.1, d, a, b, 0, [], e, p) := by
  rfl
theorem optT_val (hK : 2000 ≤ K) {R : Type} {c : Bool} {most v : Int} {l pre post : List Int} {f : Int → Err → Int → Option R} (h : l = pre ++ ((if c then [v] else []) ++ post)) (hl : l.length ≤ 100000) (h0 : 0 ≤ v) (hm : v ≤ most) (h128 : most < 128) (hc : c = false → v = 0) :
    optT c K most Err.nil l ((pre.length : Nat) : Int) f = f v Err.nil (((pre ++ (if c then [v] else [])).length : Nat) : Int) := by
  unfold optT
  cases c with
  | true => simp only [if_true] at h ⊢; rw [cond_true, upto_val hK h hl h0 hm h128]; rfl
  | false => simp only [Bool.false_eq_true, if_false, List.append_nil, cond_false]; rw [hc rfl]
def mostOf (op : Int) : Int := if op = 13 ∨ op = 14 then 15 else if op = 17 then 23 else 7
theorem codeOf_val {op : Int} (h1 : 1 ≤ op) (h2 : op ≤ 17) : code_of.f K op = some (usesD op, usesA op, hasB' op, mostOf op, true) := by
  rcases op_cases h1 h2 with rfl | rfl | rfl | rfl | rfl | rfl | rfl | rfl | rfl | rfl | rfl | rfl | rfl | rfl | rfl | rfl | rfl <;> simp [code_of.f, usesD, usesA, usesB, hasB', mostOf]
/-- What an instruction has at most, and what is 0. -/
structure tightI (x : LInsn) : Prop where
  op : 1 ≤ x.1 ∧ x.1 ≤ 17
  d : 0 ≤ x.2.1 ∧ x.2.1 ≤ 7 ∧ (usesD x.1 = false → x.2.1 = 0)
  a : 0 ≤ x.2.2.1 ∧ x.2.2.1 ≤ 7 ∧ (usesA x.1 = false → x.2.2.1 = 0)
  b : 0 ≤ x.2.2.2.1 ∧ x.2.2.2.1 ≤ mostOf x.1 ∧ (hasB' x.1 = false → x.2.2.2.1 = 0)
  n : i64 x.2.2.2.2.1 ∧ (x.1 ≠ 1 → x.2.2.2.2.1 = 0)
  len : x.2.2.2.2.2.length ≤ 4 ∧ (x.1 ≠ 17 → x.2.2.2.2.2 = [])
  args : ∀ v ∈ x.2.2.2.2.2, 0 ≤ v ∧ v ≤ 7
theorem okInsn.tight {nc : Nat} {ar : List Int} {regs : Int} {x : LInsn} (h : okInsn nc ar regs x) (hr : regs ≤ 8) (hc : nc ≤ 16) (har : ar.length ≤ 24) (ha : ∀ v ∈ ar, v ≤ 4) (hn : i64 x.2.2.2.2.1) : tightI x := by
  have hal := argsLen h ha
  obtain ⟨op, d, a, b, n, g⟩ := h
  refine ⟨op, ?_, ?_, ?_, ⟨hn, n⟩, ⟨hal, fun h17 => by rw [if_neg h17] at g; exact g⟩, ?_⟩
  · split at d
    · rename_i hu; unfold reg at d; exact ⟨by omega, by omega, fun h => by rw [hu] at h; cases h⟩
    · exact ⟨by omega, by omega, fun _ => d⟩
  · split at a
    · rename_i hu; unfold reg at a; exact ⟨by omega, by omega, fun h => by rw [hu] at h; cases h⟩
    · exact ⟨by omega, by omega, fun _ => a⟩
  · unfold mostOf hasB'
    split at b
    · rename_i hu
      unfold reg at b
      refine ⟨by omega, by split <;> (try split) <;> omega, fun h => by rw [hu] at h; simp at h⟩
    · split at b
      · rename_i hu h13
        unfold reg at b
        rw [if_pos h13]
        exact ⟨by omega, by omega, fun h => by rcases h13 with h13 | h13 <;> simp [h13] at h⟩
      · split at b
        · rename_i hu h13 h17
          have := b.1; unfold reg at this
          rw [if_neg h13, if_pos h17]
          exact ⟨by omega, by omega, fun h => by simp [h17] at h⟩
        · rename_i hu h13 h17
          rw [if_neg h13, if_neg h17]
          exact ⟨by omega, by omega, fun _ => b⟩
  · split at g
    · intro v hv; have := g v hv; unfold reg at this; omega
    · rw [g]; intro v hv; simp at hv
theorem takeArgs (hK : 2000 ≤ K) {n : Nat} {l post : List Int} (hl : l.length ≤ 100000) (hn : n ≤ 4) : ∀ (r acc pre : List Int) (k : Nat), l = pre ++ (r ++ post) → acc.length + r.length = n → r.length < k → (∀ v ∈ r, 0 ≤ v ∧ v ≤ 7) →
    code_taker_insn.l0.f K k ((n : Nat) : Int) ((acc.length : Nat) : Int) Err.nil l ((pre.length : Nat) : Int) acc = some (Err.nil, (((pre ++ r).length : Nat) : Int), acc ++ r)
  | r, acc, pre, 0, h, hr, hk, hv => by omega
  | [], acc, pre, k + 1, h, hr, hk, hv => by
    rw [code_taker_insn.l0.f]
    have e : decide (((acc.length : Nat) : Int) < ((n : Nat) : Int)) = false := by simp at hr ⊢; omega
    simp only [e, cond_false, List.append_nil]
  | x :: r, acc, pre, k + 1, h, hr, hk, hv => by
    rw [code_taker_insn.l0.f]
    have e : decide (((acc.length : Nat) : Int) < ((n : Nat) : Int)) = true := by simp at hr ⊢; omega
    have hx := hv x (by simp)
    have u := upto_val (K := K) hK (most := 7) (v := x) (l := l) (pre := pre) (post := r ++ post) h hl hx.1 hx.2 (by omega)
    have e4 : Nat.ble (acc.length + [x].length) 100000 = true := Nat.ble_eq_true_of_le (by simp at hr ⊢; omega)
    simp only [e, cond_true, u, some_bind, e4, wrap_next (l1 := acc) (x := x) (by simp at hr; omega)]
    rw [takeArgs (post := post) hK hl hn r (acc ++ [x]) (pre ++ [x]) k (by rw [h]; simp) (by simp at hr ⊢; omega) (by simp at hk; omega) (fun v hv' => hv v (by simp [hv']))]
    simp
theorem takeInsn (hK : 2000 ≤ K) {x : LInsn} {l pre post : List Int} (h : l = pre ++ (encInsn x ++ post)) (hl : l.length ≤ 100000) (hx : tightI x) :
    code_taker_insn.f K Err.nil l ((pre.length : Nat) : Int) = some (x.1, x.2.1, x.2.2.1, x.2.2.2.1, x.2.2.2.2.1, x.2.2.2.2.2, Err.nil, (((pre ++ encInsn x).length : Nat) : Int)) := by
  obtain ⟨op, d, a, b, n, args⟩ := x
  obtain ⟨⟨h1, h2⟩, hd, ha, hb, hn, hal, hg⟩ := hx
  dsimp only at *
  rw [insn_split]
  have hm : mostOf op < 128 := by unfold mostOf; split <;> (try split) <;> omega
  simp only [encInsn] at h ⊢
  rw [kind_val (K := K) (most := 17) (v := op) (post := (if usesD op then [d] else []) ++ ((if usesA op then [a] else []) ++ ((if hasB' op then [b] else []) ++ ((if op = 1 then encI n else []) ++ ((if op = 17 then ((args.length : Nat) : Int) :: args else []) ++ post))))) (by rw [h]; simp) hl h1 h2 (by omega)]
  simp only [some_bind, codeOf_val h1 h2]
  rw [optT_val hK (v := d) (post := (if usesA op then [a] else []) ++ ((if hasB' op then [b] else []) ++ ((if op = 1 then encI n else []) ++ ((if op = 17 then ((args.length : Nat) : Int) :: args else []) ++ post)))) (by rw [h]; simp) hl hd.1 hd.2.1 (by omega) hd.2.2]
  rw [optT_val hK (v := a) (post := (if hasB' op then [b] else []) ++ ((if op = 1 then encI n else []) ++ ((if op = 17 then ((args.length : Nat) : Int) :: args else []) ++ post))) (by rw [h]; simp) hl ha.1 ha.2.1 (by omega) ha.2.2]
  rw [optT_val hK (v := b) (post := (if op = 1 then encI n else []) ++ ((if op = 17 then ((args.length : Nat) : Int) :: args else []) ++ post)) (by rw [h]; simp) hl hb.1 hb.2.1 hm hb.2.2]
  by_cases o1 : op = 1
  · have e1 : (op == 1) = true := by simp [o1]
    have hargs : args = [] := hal.2 (by omega)
    subst hargs
    have o17 : ¬ op = 17 := by omega
    simp only [e1, cond_true]
    rw [signed_val hK (n := n) (post := post) (by rw [h]; simp [o1]) hl hn.1]
    simp [o1]
  · have e1 : (op == 1) = false := by simp [o1]
    have hn0 : n = 0 := hn.2 o1
    subst hn0
    simp only [e1, cond_false]
    by_cases o17 : op = 17
    · have e17 : (op == 17) = true := by simp [o17]
      simp only [e17, cond_true]
      rw [upto_val hK (v := ((args.length : Nat) : Int)) (post := args ++ post) (by rw [h]; simp [o1, o17]) hl (by omega) (by omega) (by omega)]
      simp only [some_bind]
      have t := takeArgs (K := K) hK (n := args.length) (l := l) (post := post) hl hal.1 args [] (((((pre ++ [op]) ++ if usesD op = true then [d] else []) ++ if usesA op = true then [a] else []) ++ if hasB' op = true then [b] else []) ++ [((args.length : Nat) : Int)]) K (by rw [h]; simp [o1, o17]) (by simp) (by omega) hg
      rw [show code_taker_insn.l0.f K K ((args.length : Nat) : Int) (0 : Int) Err.nil l _ [] = _ from t]
      simp [o1, o17]
    · have e17 : (op == 17) = false := by simp [o17]
      have hargs : args = [] := hal.2 o17
      subst hargs
      simp only [e17, cond_false]
      simp [o1, o17]
end Go.Proofs.YtdjkdmjdcdljmaaGreat.AR
