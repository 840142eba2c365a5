/- Modules as bytes: what is read back, as a whole: what was written. No condition beside those stated. -/
import Derived.Test.YtdjkdmjdcdljmaaGreatRk

namespace Go.Proofs.YtdjkdmjdcdljmaaGreat.AR
open Go.Proofs.YtdjkdmjdcdljmaaGreatX
set_option linter.unusedVariables false
set_option linter.unusedSimpArgs false
set_option maxRecDepth 100000
set_option maxHeartbeats 4000000
variable {K : Nat}

structure tightE (e : LEnd) : Prop where
  op : 1 ≤ e.1 ∧ e.1 ≤ 3
  a : 0 ≤ e.2.1 ∧ e.2.1 ≤ 7 ∧ (e.1 = 1 → e.2.1 = 0)
  t : 0 ≤ e.2.2.1 ∧ e.2.2.1 ≤ 11 ∧ (e.1 = 3 → e.2.2.1 = 0)
  e : 0 ≤ e.2.2.2 ∧ e.2.2.2 ≤ 11 ∧ (e.1 ≠ 2 → e.2.2.2 = 0)
theorem okEnd.tight {regs : Int} {nb : Nat} {e : LEnd} (h : okEnd regs nb e) (hr : regs ≤ 8) (hb : nb ≤ 12) : tightE e := by
  obtain ⟨op, a, t, el⟩ := h
  refine ⟨op, ?_, ?_, ?_⟩
  · split at a
    · exact ⟨by omega, by omega, fun _ => a⟩
    · unfold reg at a; exact ⟨by omega, by omega, fun h => by omega⟩
  · split at t
    · exact ⟨by omega, by omega, fun _ => t⟩
    · unfold reg at t; exact ⟨by omega, by omega, fun h => by omega⟩
  · split at el
    · unfold reg at el; exact ⟨by omega, by omega, fun h => by omega⟩
    · exact ⟨by omega, by omega, fun _ => el⟩
theorem takeEnd (hK : 2000 ≤ K) {e : LEnd} {l pre post : List Int} (h : l = pre ++ (encEnd e ++ post)) (hl : l.length ≤ 100000) (he : tightE e) :
    code_taker_end.f K Err.nil l ((pre.length : Nat) : Int) = some (e.1, e.2.1, e.2.2.1, e.2.2.2, Err.nil, (((pre ++ encEnd e).length : Nat) : Int)) := by
  obtain ⟨o, a, t, x⟩ := e
  obtain ⟨⟨h1, h2⟩, ha, ht, hx⟩ := he
  dsimp only at *
  unfold code_taker_end.f
  simp only [encEnd] at h ⊢
  rw [kind_val (K := K) (most := 3) (v := o) (post := (if o = 1 then [] else [a]) ++ ((if o = 3 then [] else [t]) ++ ((if o = 2 then [x] else []) ++ post))) (by rw [h]; simp) hl h1 h2 (by omega)]
  have : o = 1 ∨ o = 2 ∨ o = 3 := by omega
  rcases this with rfl | rfl | rfl
  · have hx0 : x = 0 := hx.2.2 (by omega)
    have ha0 : a = 0 := ha.2.2 rfl
    subst hx0 ha0
    simp at h
    simp only [some_bind, show ((1 : Int) != 1) = false from rfl, show ((1 : Int) != 3) = true from rfl, show ((1 : Int) == 2) = false from rfl, cond_true, cond_false]
    rw [upto_val hK (v := t) (post := post) (by rw [h]; simp) hl ht.1 ht.2.1 (by omega)]
    simp
  · simp at h
    simp only [some_bind, show ((2 : Int) != 1) = true from rfl, show ((2 : Int) != 3) = true from rfl, show ((2 : Int) == 2) = true from rfl, cond_true, cond_false]
    rw [upto_val hK (v := a) (post := t :: x :: post) (by rw [h]; simp) hl ha.1 ha.2.1 (by omega)]
    simp only [some_bind]
    rw [upto_val hK (v := t) (post := x :: post) (by rw [h]; simp) hl ht.1 ht.2.1 (by omega)]
    simp only [some_bind]
    rw [upto_val hK (v := x) (post := post) (by rw [h]; simp) hl hx.1 hx.2.1 (by omega)]
    simp
  · have hx0 : x = 0 := hx.2.2 (by omega)
    have ht0 : t = 0 := ht.2.2 rfl
    subst hx0 ht0
    simp at h
    simp only [some_bind, show ((3 : Int) != 1) = true from rfl, show ((3 : Int) != 3) = false from rfl, show ((3 : Int) == 2) = false from rfl, cond_true, cond_false]
    rw [upto_val hK (v := a) (post := post) (by rw [h]; simp) hl ha.1 ha.2.1 (by omega)]
    simp
structure tightB (b : LBlock) : Prop where
  len : b.1.length ≤ 12
  insns : ∀ x ∈ b.1, tightI x
  fin : tightE b.2
theorem takeBlock_l0 (hK : 2000 ≤ K) {n : Nat} {l post : List Int} (hl : l.length ≤ 100000) (hn : n ≤ 12) : ∀ (r acc : List LInsn) (pre : List Int) (k : Nat), l = pre ++ (r.flatMap encInsn ++ post) → acc.length + r.length = n → r.length < k → (∀ x ∈ r, tightI x) →
    code_taker_block.l0.f K k ((n : Nat) : Int) ((acc.length : Nat) : Int) Err.nil l ((pre.length : Nat) : Int) acc = some (Err.nil, (((pre ++ r.flatMap encInsn).length : Nat) : Int), acc ++ r)
  | r, acc, pre, 0, h, hr, hk, hv => by omega
  | [], acc, pre, k + 1, h, hr, hk, hv => by
    rw [code_taker_block.l0.f]
    have e : decide (((acc.length : Nat) : Int) < ((n : Nat) : Int)) = false := by simp at hr ⊢; omega
    simp only [e, cond_false, List.append_nil, List.flatMap_nil]
  | x :: r, acc, pre, k + 1, h, hr, hk, hv => by
    rw [code_taker_block.l0.f]
    have e : decide (((acc.length : Nat) : Int) < ((n : Nat) : Int)) = true := by simp at hr ⊢; omega
    have u := takeInsn (K := K) hK (x := x) (l := l) (pre := pre) (post := r.flatMap encInsn ++ post) (by rw [h]; simp) hl (hv x (by simp))
    have e4 : Nat.ble (acc.length + [(x.1, x.2.1, x.2.2.1, x.2.2.2.1, x.2.2.2.2.1, x.2.2.2.2.2)].length) 100000 = true := Nat.ble_eq_true_of_le (by simp at hr ⊢; omega)
    simp only [e, cond_true, u, some_bind, e4, wrap_next (l1 := acc) (x := x) (by simp at hr; omega)]
    refine (takeBlock_l0 (post := post) hK hl hn r (acc ++ [x]) (pre ++ encInsn x) k (by rw [h]; simp) (by simp at hr ⊢; omega) (by simp at hk; omega) (fun v hv' => hv v (by simp [hv']))).trans ?_
    simp
theorem takeBlock (hK : 2000 ≤ K) {b : LBlock} {l pre post : List Int} (h : l = pre ++ (encBlock b ++ post)) (hl : l.length ≤ 100000) (hb : tightB b) :
    code_taker_block.f K Err.nil l ((pre.length : Nat) : Int) = some (b.1, b.2.1, b.2.2.1, b.2.2.2.1, b.2.2.2.2, Err.nil, (((pre ++ encBlock b).length : Nat) : Int)) := by
  obtain ⟨h1, h2, h3⟩ := hb
  unfold code_taker_block.f
  simp only [encBlock] at h ⊢
  rw [upto_val hK (v := ((b.1.length : Nat) : Int)) (post := b.1.flatMap encInsn ++ encEnd b.2 ++ post) (by rw [h]; simp) hl (by omega) (by omega) (by omega)]
  simp only [some_bind]
  have t := takeBlock_l0 (K := K) hK (n := b.1.length) (l := l) (post := encEnd b.2 ++ post) hl h1 b.1 [] (pre ++ [((b.1.length : Nat) : Int)]) K (by rw [h]; simp) (by simp) (by omega) h2
  rw [show code_taker_block.l0.f K K ((b.1.length : Nat) : Int) (0 : Int) Err.nil l _ [] = _ from t]
  simp only [some_bind]
  rw [takeEnd hK (e := b.2) (post := post) (by rw [h]; simp) hl h3]
  simp
/-! ### Names -/
theorem strOf_bytesOf (s : ByteArray) : strOf (bytesOf s) = s := by
  obtain ⟨d⟩ := s
  unfold strOf bytesOf
  congr 1
  apply Array.ext'
  rw [List.map_map]
  conv => rhs; rw [← List.map_id d.toList]
  refine List.map_congr_left fun b _ => ?_
  simp
theorem rleft_val {l : List Int} {p : Nat} (hp : p ≤ l.length) (hl : l.length ≤ 100000) : wire_Reader_Left.f K l ((p : Nat) : Int) = some ((l.length - p : Nat) : Int) := by
  unfold wire_Reader_Left.f
  rw [wrap64_of (by omega) (by omega)]
  rw [show ((l.length : Nat) : Int) - ((p : Nat) : Int) = ((l.length - p : Nat) : Int) by omega]
theorem rraw_val {x l pre post : List Int} (h : l = pre ++ (x ++ post)) (hl : l.length ≤ 100000) : wire_Reader_Raw.f K ((x.length : Nat) : Int) l ((pre.length : Nat) : Int) = some (x, Err.nil, (((pre ++ x).length : Nat) : Int)) := by
  unfold wire_Reader_Raw.f
  have hlen : pre.length + x.length + post.length = l.length := by rw [h]; simp; omega
  have rl0 := rleft_val (K := K) (l := l) (p := pre.length) (by omega) hl
  have e1 : decide (((x.length : Nat) : Int) < (0 : Int)) = false := by simp
  have e2 : decide (((x.length : Nat) : Int) > ((l.length - pre.length : Nat) : Int)) = false := by simp; omega
  have w1 : IntKind.i64.wrap (((pre.length : Nat) : Int) + ((x.length : Nat) : Int)) = ((pre.length + x.length : Nat) : Int) := by rw [wrap64_of (by omega) (by omega)]; simp
  have w2 : IntKind.i64.wrap (((pre.length + x.length : Nat) : Int) - ((x.length : Nat) : Int)) = ((pre.length : Nat) : Int) := by rw [wrap64_of (by omega) (by omega)]; omega
  have e3 : (decide ((0 : Int) ≤ ((pre.length : Nat) : Int)) && decide (((pre.length : Nat) : Int) ≤ ((pre.length + x.length : Nat) : Int)) && decide (((pre.length + x.length : Nat) : Int) ≤ ((l.length : Nat) : Int)) && true) = true := by simp; omega
  have ed : List.drop pre.length (List.take (pre.length + x.length) l) = x := by
    rw [h, ← List.append_assoc, List.take_left' (by simp), List.drop_left]
  have e4 : slices_Clone_byte_byte.f K x = some x := by
    unfold slices_Clone_byte_byte.f
    rw [Nat.ble_eq_true_of_le (by omega)]; rfl
  rw [bindC_def, some_bind, e1, cond_false, rl0, some_bind, e2, cond_false, w1, w2, e3, cond_true, Int.toNat_natCast, Int.toNat_natCast, ed, e4, some_bind, List.length_append]
theorem takeName (hK : 2000 ≤ K) {s : ByteArray} {l pre post : List Int} (h : l = pre ++ (encName s ++ post)) (hl : l.length ≤ 100000) (hs : s.size ≤ 12) :
    code_taker_name.f K Err.nil l ((pre.length : Nat) : Int) = some (s, Err.nil, (((pre ++ encName s).length : Nat) : Int)) := by
  unfold code_taker_name.f wire_Reader_Section.f
  have hbl := bytesOf_len s
  have hlen : pre.length + 1 + s.size + post.length = l.length := by rw [h]; simp [encName, hbl]; omega
  have lk := look_val (K := K) hK (most := 18446744073709551615) (n := s.size) (l := l) (pre := pre) (post := bytesOf s ++ post) (by rw [h, encU_small (by omega)]; simp [encName]) hl (by omega) (by omega)
  rw [encU_small (by omega)] at lk
  have lk' : wire_Reader_look.f K (18446744073709551615 : Int) l ((pre.length : Nat) : Int) = some (((s.size : Nat) : Int), (1 : Int), 0) := lk
  have w1 : IntKind.i64.wrap (((l.length - pre.length : Nat) : Int) - (1 : Int)) = ((l.length - pre.length - 1 : Nat) : Int) := by rw [wrap64_of (by omega) (by omega)]; omega
  have w2 : IntKind.u64.wrap ((l.length - pre.length - 1 : Nat) : Int) = ((l.length - pre.length - 1 : Nat) : Int) := wrapU_of (by omega) (by omega)
  have e1 : decide (((s.size : Nat) : Int) > ((l.length - pre.length - 1 : Nat) : Int)) = false := by simp; omega
  have w3 : IntKind.i64.wrap ((s.size : Nat) : Int) = ((s.size : Nat) : Int) := wrap64_of (by omega) (by omega)
  have w4 : IntKind.i64.wrap (((pre.length : Nat) : Int) + (1 : Int)) = ((pre.length + 1 : Nat) : Int) := by rw [wrap64_of (by omega) (by omega)]; simp
  have w5 : IntKind.i64.wrap (((pre.length + 1 : Nat) : Int) + ((s.size : Nat) : Int)) = ((pre.length + 1 + s.size : Nat) : Int) := by rw [wrap64_of (by omega) (by omega)]; simp
  have w6 : IntKind.i64.wrap ((1 : Int) + ((s.size : Nat) : Int)) = ((1 + s.size : Nat) : Int) := by rw [wrap64_of (by omega) (by omega)]; simp
  have w7 : IntKind.i64.wrap (((pre.length : Nat) : Int) + ((1 + s.size : Nat) : Int)) = ((pre.length + 1 + s.size : Nat) : Int) := by rw [wrap64_of (by omega) (by omega)]; omega
  have e2 : (decide (((0 : Nat) : Int) ≤ ((pre.length + 1 + s.size : Nat) : Int)) && decide (((pre.length + 1 + s.size : Nat) : Int) ≤ ((l.length : Nat) : Int)) && true) = true := by simp; omega
  have hsub : List.take (pre.length + 1 + s.size) l = pre ++ ([((s.size : Nat) : Int)] ++ bytesOf s) := by
    rw [h]
    simp only [encName, List.cons_append]
    rw [List.take_append]
    simp [hbl, show pre.length + 1 + s.size - pre.length = s.size + 1 by omega]
    exact List.take_of_length_le (by omega)
  have rl := rleft_val (K := K) (l := pre ++ ([((s.size : Nat) : Int)] ++ bytesOf s)) (p := pre.length + 1) (by simp) (by simp [hbl]; omega)
  have hlx : ((pre ++ ([((s.size : Nat) : Int)] ++ bytesOf s)).length - (pre.length + 1) : Nat) = (bytesOf s).length := by simp; omega
  rw [hlx] at rl
  have rr := rraw_val (K := K) (x := bytesOf s) (l := pre ++ ([((s.size : Nat) : Int)] ++ bytesOf s)) (pre := pre ++ [((s.size : Nat) : Int)]) (post := []) (by simp) (by simp [hbl]; omega)
  have hp1 : (pre ++ [((s.size : Nat) : Int)]).length = pre.length + 1 := by simp
  rw [hp1] at rr
  simp only [Err.isNil, Bool.not_true, cond_true, cond_false, lk', some_bind, show ((0 : Int) != 0) = false from rfl, rleft_val (K := K) (l := l) (p := pre.length) (by omega) hl, w1, w2, e1, w3, w4, w5, w6, w7, e2, Int.toNat_natCast, List.drop_zero, hsub, rl, rr, strOf_bytesOf]
  simp [encName, hbl]
  omega
end Go.Proofs.YtdjkdmjdcdljmaaGreat.AR
