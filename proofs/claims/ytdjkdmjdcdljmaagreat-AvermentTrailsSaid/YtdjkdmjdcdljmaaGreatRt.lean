/- Own work. No condition. -/
import Derived.Test.YtdjkdmjdcdljmaaGreatRs

namespace Go.Proofs.YtdjkdmjdcdljmaaGreat.AT
open Go.Proofs.YtdjkdmjdcdljmaaGreatX
set_option linter.unusedVariables false
set_option linter.unusedSimpArgs false
set_option maxRecDepth 100000
set_option maxHeartbeats 4000000
variable {K : Nat}

theorem FrOk.set {fs : List LFunc} {regs : List (List Int)} {ll : List Nat} {y : Fr} {F : LFunc} {B : LBlock} {rl : List Int} (h : FrOk fs regs ll y F B rl) {r : Nat} {r0 r1 : List Int} (hr : regs[r]? = some r0) (hl : r1.length = r0.length) : ∃ rl', FrOk fs (regs.set r r1) ll y F B rl' := by
  have hlt := (List.getElem?_eq_some_iff.1 hr).1
  by_cases e : y.2.2.2.1 = r
  · have := h.rg
    rw [e, hr] at this
    cases this
    exact ⟨r1, ⟨h.fn, h.bl, h.at_, by rw [e]; simp [hlt], by rw [hl]; exact h.rlen, by rw [hl]; exact h.ls, h.small⟩⟩
  · exact ⟨rl, ⟨h.fn, h.bl, h.at_, by rw [List.getElem?_set_ne (fun e' => e e'.symm)]; exact h.rg, h.rlen, h.ls, h.small⟩⟩
theorem FrOk.more {fs : List LFunc} {regs : List (List Int)} {ll : List Nat} {y : Fr} {F : LFunc} {B : LBlock} {rl : List Int} (h : FrOk fs regs ll y F B rl) (r : List Int) (n : Nat) : FrOk fs (regs ++ [r]) (ll ++ [n]) y F B rl := by
  have h1 := (List.getElem?_eq_some_iff.1 h.rg).1
  have h2 := (List.getElem?_eq_some_iff.1 h.ls).1
  exact ⟨h.fn, h.bl, h.at_, by rw [List.getElem?_append_left h1]; exact h.rg, h.rlen, by rw [List.getElem?_append_left h2]; exact h.ls, h.small⟩
structure Inv (fs : List LFunc) (regs : List (List Int)) (ll : List Nat) (F0 : List Fr) (x : Fr) : Prop where
  top : ∃ F B rl, FrOk fs regs ll x F B rl
  outer : ∀ y ∈ F0, ∃ F B rl I, FrOk fs regs ll y F B rl ∧ B.1[y.2.2.1]? = some I ∧ I.1 = 17
  depth : F0.length + 1 ≤ 64
theorem arith_some (op a b : Int) : ∃ r, vm_Arith.f K op a b = some r := by
  unfold vm_Arith.f vm_flag.f
  cases hb : (b == 0) <;> simp only [cond_true, cond_false, cond_some, some_bind] <;> exact ⟨_, rfl⟩
theorem value_val {fs : List LFunc} {regs : List (List Int)} {ll : List Nat} {x : Fr} {F : LFunc} {B : LBlock} {rl cells inp : List Int} (ok : FrOk fs regs ll x F B rl) {op d a b n : Int} {args : List Int} {ar : List Int} (hi : okInsn cells.length ar F.2.2.1 (op, d, a, b, n, args)) (h17 : op ≠ 17) (h14 : op ≠ 14) (h16 : op ≠ 16) (hin : inp.length ≤ 100000) :
    ∃ r : Int × Bool × List Int, r.2.2.length ≤ inp.length ∧ ∀ (pb : Nat → Nat → Nat) (F0 : List CFr), vm_Machine_value.f K F0.length op a b n inp cells (F0 ++ [encF pb x]) regs = some r := by
  obtain ⟨⟨o1, o2⟩, hd, ha, hb, hn, hg⟩ := hi
  dsimp only at *
  have hrg := ok.rg
  by_cases h1 : op = 1
  · subst h1
    exact ⟨(n, true, inp), Nat.le_refl _, fun pb F0 => rfl⟩
  by_cases h2 : op = 2
  · subst h2
    rw [if_pos (show usesA 2 = true from rfl)] at ha
    obtain ⟨a1, a2⟩ := reg_lt ok.rlen ha
    refine ⟨(rl[a.toNat], true, inp), Nat.le_refl _, fun pb F0 => ?_⟩
    unfold vm_Machine_value.f
    simp only [show ((2 : Int) == 1) = false from rfl, show ((2 : Int) == 2) = true from rfl, cond_true, cond_false, get_last, some_bind, encF, hrg, bindC_def, a1, blt_of a2, List.getElem?_eq_getElem a2]
  by_cases h3 : op = 3
  · subst h3
    rw [if_pos (show usesA 3 = true from rfl)] at ha
    obtain ⟨a1, a2⟩ := reg_lt ok.rlen ha
    refine ⟨(IntKind.i64.wrap (0 - rl[a.toNat]), true, inp), Nat.le_refl _, fun pb F0 => ?_⟩
    unfold vm_Machine_value.f
    simp only [show ((3 : Int) == 1) = false from rfl, show ((3 : Int) == 2) = false from rfl, show ((3 : Int) == 3) = true from rfl, cond_true, cond_false, get_last, some_bind, encF, hrg, bindC_def, a1, blt_of a2, List.getElem?_eq_getElem a2]
  by_cases h13 : op = 13
  · subst h13
    rw [if_neg (by decide), if_pos (.inl rfl)] at hb
    unfold reg at hb
    have b1 : decide ((0 : Int) ≤ b) = true := by simp; omega
    have b2 : b.toNat < cells.length := by omega
    refine ⟨(cells[b.toNat], true, inp), Nat.le_refl _, fun pb F0 => ?_⟩
    unfold vm_Machine_value.f
    simp only [show ((13 : Int) == 1) = false from rfl, show ((13 : Int) == 2) = false from rfl, show ((13 : Int) == 3) = false from rfl, show ((13 : Int) == 13) = true from rfl, cond_true, cond_false, b1, blt_of b2, List.getElem?_eq_getElem b2, some_bind]
  by_cases h15 : op = 15
  · subst h15
    cases inp with
    | nil =>
      refine ⟨(0, false, []), Nat.le_refl _, fun pb F0 => ?_⟩
      rfl
    | cons v inp =>
      refine ⟨(v, true, inp), by simp, fun pb F0 => ?_⟩
      unfold vm_Machine_value.f
      have e0 : ((((v :: inp).length : Nat) : Int) == (0 : Int)) = false := beq_eq_false_iff_ne.2 (by simp; omega)
      have e1 : (decide ((1 : Int) ≤ (((v :: inp).length : Nat) : Int)) && decide ((((v :: inp).length : Nat) : Int) ≤ (((v :: inp).length : Nat) : Int)) && true) = true := by simp; omega
      simp only [show ((15 : Int) == 1) = false from rfl, show ((15 : Int) == 2) = false from rfl, show ((15 : Int) == 3) = false from rfl, show ((15 : Int) == 13) = false from rfl, show ((15 : Int) == 15) = true from rfl, cond_true, cond_false, e0, List.getElem?_cons_zero, some_bind, e1, Int.toNat_natCast, List.take_length, List.drop_succ_cons, List.drop_zero]
  have uB : usesB op = true := by unfold usesB; simp; omega
  have uA : usesA op = true := by unfold usesA; simp; omega
  rw [if_pos uA] at ha
  rw [if_pos uB] at hb
  obtain ⟨a1, a2⟩ := reg_lt ok.rlen ha
  obtain ⟨b1, b2⟩ := reg_lt ok.rlen hb
  obtain ⟨r, hr⟩ := arith_some (K := K) op rl[a.toNat] rl[b.toNat]
  refine ⟨(r.1, r.2, inp), Nat.le_refl _, fun pb F0 => ?_⟩
  unfold vm_Machine_value.f
  simp only [beq_eq_false_iff_ne.2 h1, beq_eq_false_iff_ne.2 h2, beq_eq_false_iff_ne.2 h3, beq_eq_false_iff_ne.2 h13, beq_eq_false_iff_ne.2 h15, cond_false, cond_true, get_last, some_bind, encF, hrg, bindC_def, a1, b1, blt_of a2, blt_of b2, List.getElem?_eq_getElem a2, List.getElem?_eq_getElem b2, hr]
def regsOf (F : LFunc) (args : List Int) : List Int := List.take (List.replicate F.2.2.1.toNat (0 : Int)).length args ++ List.drop args.length (List.replicate F.2.2.1.toNat 0)
theorem frame_l0 {P : Lprogram} {f : Nat} {v : Int} (hv : P.2.2[f]? = some v) {n : Nat} (hn : n ≤ 1000) : ∀ (m k : Nat) (acc : List Int), n - acc.length ≤ m → m < k → acc.length ≤ n → ∃ la, vm_program_frame.l0.f K k (some P) ((f : Nat) : Int) ((n : Nat) : Int) ((acc.length : Nat) : Int) acc = some la ∧ la.length = n
  | m, 0, acc, h, hk, ha => by omega
  | m, k + 1, acc, h, hk, ha => by
    rw [vm_program_frame.l0.f]
    by_cases hlt : acc.length < n
    · have e : decide (((acc.length : Nat) : Int) < ((n : Nat) : Int)) = true := by simp; omega
      have e4 : Nat.ble (acc.length + [IntKind.i64.wrap (v + ((acc.length : Nat) : Int))].length) 100000 = true := Nat.ble_eq_true_of_le (by simp; omega)
      simp only [e, cond_true, some_bind, ge0, Int.toNat_natCast, hv, e4, wrap_next (l1 := acc) (x := IntKind.i64.wrap (v + ((acc.length : Nat) : Int))) (by omega)]
      exact frame_l0 hv hn (m - 1) k (acc ++ [IntKind.i64.wrap (v + ((acc.length : Nat) : Int))]) (by simp; omega) (by omega) (by simp; omega)
    · have e : decide (((acc.length : Nat) : Int) < ((n : Nat) : Int)) = false := by simp; omega
      simp only [e, cond_false]
      exact ⟨acc, rfl, by omega⟩
theorem regsOf_len {F : LFunc} {args : List Int} : (regsOf F args).length = F.2.2.1.toNat := by
  unfold regsOf; simp; omega
theorem frame_val (hK : 2000 ≤ K) {fs : List LFunc} {P : Lprogram} {pb : Nat → Nat → Nat} (v : View fs P pb) {f : Nat} {F : LFunc} (hf : fs[f]? = some F) (h0 : 0 ≤ F.2.2.1) (h8 : F.2.2.1 ≤ 8) (args : List Int) : ∃ la, vm_program_frame.f K (some P) ((f : Nat) : Int) args = some (0, 0, regsOf F args, la) ∧ la.length = F.2.2.1.toNat := by
  obtain ⟨G, g1, g2⟩ := v.regs f F hf
  obtain ⟨u, hu⟩ := v.first f F hf
  obtain ⟨la, l1, l2⟩ := frame_l0 (K := K) hu (n := F.2.2.1.toNat) (by omega) F.2.2.1.toNat K [] (by simp) (by omega) (by simp)
  refine ⟨la, ?_, l2⟩
  unfold vm_program_frame.f
  have e1 : (decide ((0 : Int) ≤ F.2.2.1) && decide (F.2.2.1 ≤ (100000 : Int)) && F.2.2.1 == F.2.2.1 && true && true && true) = true := by simp; omega
  have hlen : (List.take (List.replicate F.2.2.1.toNat (0 : Int)).length args ++ List.drop args.length (List.replicate F.2.2.1.toNat 0)).length = F.2.2.1.toNat := regsOf_len
  simp only [some_bind, ge0, cond_true, Int.toNat_natCast, g1, g2, e1, hlen]
  rw [show vm_program_frame.l0.f K K (some P) ((f : Nat) : Int) ((F.2.2.1.toNat : Nat) : Int) (0 : Int) [] = some la from l1]
  rfl
theorem call_l0 {fs : List LFunc} {regs : List (List Int)} {ll : List Nat} {x : Fr} {F : LFunc} {B : LBlock} {rl : List Int} (ok : FrOk fs regs ll x F B rl) {l : List Int} (hl : l.length ≤ 1000) (ha : ∀ v ∈ l, reg F.2.2.1 v) (pb : Nat → Nat → Nat) (F0 : List CFr) : ∀ (l2 l1 : List Int) (k : Nat) (acc : List Int), l = l1 ++ l2 → l2.length < k → acc.length = l1.length →
    vm_Machine_call.l0.f K k F0.length l ((l.length : Nat) : Int) ((l1.length : Nat) : Int) (F0 ++ [encF pb x]) regs acc = some (acc ++ l2.map fun a => rl.getD a.toNat 0)
  | l2, l1, 0, acc, h, hk, hacc => by omega
  | [], l1, k + 1, acc, h, hk, hacc => by
    rw [vm_Machine_call.l0.f]
    simp only [lt_end h, cond_false]
    simp
  | a :: l2, l1, k + 1, acc, h, hk, hacc => by
    rw [vm_Machine_call.l0.f]
    have hl1 : l1.length ≤ 1000 := by rw [h] at hl; simp at hl; omega
    obtain ⟨a1, a2⟩ := reg_lt ok.rlen (ha a (by rw [h]; simp))
    have e4 : Nat.ble (acc.length + [rl[a.toNat]].length) 100000 = true := Nat.ble_eq_true_of_le (by simp; omega)
    simp only [lt_mid h, ge0, at_mid h, cond_true, some_bind, get_last, encF, ok.rg, bindC_def, a1, blt_of a2, List.getElem?_eq_getElem a2, e4, wrap_next (l1 := l1) (x := a) (by omega)]
    have ih := call_l0 ok hl ha pb F0 l2 (l1 ++ [a]) k (acc ++ [rl[a.toNat]]) (mid_next h) (by simp at hk; omega) (by simp [hacc])
    refine ih.trans ?_
    simp [List.getD, List.getElem?_eq_getElem a2]
end Go.Proofs.YtdjkdmjdcdljmaaGreat.AT
