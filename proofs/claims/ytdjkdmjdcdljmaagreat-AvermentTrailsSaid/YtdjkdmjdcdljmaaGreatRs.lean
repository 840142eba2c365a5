/- Own work. No condition. -/
import Derived.Test.YtdjkdmjdcdljmaaGreatTr

namespace Go.Proofs.YtdjkdmjdcdljmaaGreat.AT
open Go.Proofs.YtdjkdmjdcdljmaaGreatX
set_option linter.unusedVariables false
set_option linter.unusedSimpArgs false
set_option maxRecDepth 100000
set_option maxHeartbeats 4000000
variable {K : Nat}

abbrev Fr := Nat × Nat × Nat × Nat × Nat
abbrev CFr := Int × Int × Int × Nat × Nat
def encF (pb : Nat → Nat → Nat) (x : Fr) : CFr := (((x.1 : Nat) : Int), ((pb x.1 x.2.1 : Nat) : Int), ((x.2.2.1 : Nat) : Int), x.2.2.2.1, x.2.2.2.2)
def endV (q : Nat → Nat) (e : LEnd) : LEnd := if e.1 = 2 then (e.1, e.2.1, ((q e.2.2.1.toNat : Nat) : Int), ((q e.2.2.2.toNat : Nat) : Int)) else if e.1 = 1 then (e.1, e.2.1, ((q e.2.2.1.toNat : Nat) : Int), e.2.2.2) else e
structure View (fs : List LFunc) (P : Lprogram) (pb : Nat → Nat → Nat) : Prop where
  regs : ∀ (f : Nat) F, fs[f]? = some F → ∃ G, P.1[f]? = some G ∧ G.2.2.1 = F.2.2.1
  first : ∀ (f : Nat) F, fs[f]? = some F → ∃ v, P.2.2[f]? = some v
  blk : ∀ (f : Nat) F (b : Nat) B, fs[f]? = some F → F.2.2.2[b]? = some B → ∃ bl st, P.2.1[f]? = some bl ∧ bl[pb f b]? = some (B.1, st, endV (pb f) B.2) ∧ st.length = B.1.length
  zero : ∀ (f : Nat) F, fs[f]? = some F → pb f 0 = 0
structure FrOk (fs : List LFunc) (regs : List (List Int)) (ll : List Nat) (x : Fr) (F : LFunc) (B : LBlock) (rl : List Int) : Prop where
  fn : fs[x.1]? = some F
  bl : F.2.2.2[x.2.1]? = some B
  at_ : x.2.2.1 ≤ B.1.length
  rg : regs[x.2.2.2.1]? = some rl
  rlen : ((rl.length : Nat) : Int) = F.2.2.1
  ls : ll[x.2.2.2.2]? = some rl.length
  small : B.1.length ≤ 12
theorem inner_val {l : List CFr} {x : CFr} (hl : l.length ≤ 1000) : vm_Machine_inner.f K (l ++ [x]) = some l.length := by
  unfold vm_Machine_inner.f
  have w : IntKind.i64.wrap ((((l ++ [x]).length : Nat) : Int) - (1 : Int)) = ((l.length : Nat) : Int) := by rw [wrap64_of (by simp <;> omega) (by simp <;> omega)]; simp
  rw [w]
  simp only [ge0', Int.toNat_natCast, blt_of (show l.length < (l ++ [x]).length by simp), cond_true]
theorem lens_get {last : List (List Int)} {ll : List Nat} (h : last.map (·.length) = ll) {i n : Nat} (hi : ll[i]? = some n) : ∃ la, last[i]? = some la ∧ la.length = n := by
  subst h
  rw [List.getElem?_map] at hi
  cases hg : last[i]? with
  | none => rw [hg] at hi; cases hi
  | some la => rw [hg] at hi; exact ⟨la, rfl, by simpa using hi⟩
theorem lens_set {last : List (List Int)} {i : Nat} {la la' : List Int} (hi : last[i]? = some la) (hl : la'.length = la.length) : (last.set i la').map (·.length) = last.map (·.length) := by
  rw [List.map_set, hl]
  exact set_same (by rw [List.getElem?_map, hi]; rfl)
theorem set_val {fs : List LFunc} {P : Lprogram} {pb : Nat → Nat → Nat} (v : View fs P pb) {frames : List CFr} {regs last : List (List Int)} {ll : List Nat} {x : Fr} {F : LFunc} {B : LBlock} {rl : List Int} {idx : Nat} {D n : Int}
    (hf : frames[idx]? = some (encF pb x)) (ok : FrOk fs regs ll x F B rl) (hi : x.2.2.1 < B.1.length) (hD : reg F.2.2.1 D) (hll : last.map (·.length) = ll) :
    ∃ last', vm_Machine_set.f K idx D n (some P) frames regs last = some (frames.set idx (encF pb (x.1, x.2.1, x.2.2.1 + 1, x.2.2.2)), regs.set x.2.2.2.1 (rl.set D.toNat n), last') ∧ last'.map (·.length) = ll := by
  obtain ⟨bl, st, h1, h2, h3⟩ := v.blk _ _ _ _ ok.fn ok.bl
  obtain ⟨la, l1, l2⟩ := lens_get hll ok.ls
  have hr := ok.rg
  have hrl := ok.rlen
  unfold reg at hD
  have d0 : decide ((0 : Int) ≤ D) = true := by simp; omega
  have dr : D.toNat < rl.length := by omega
  have dl : D.toNat < la.length := by omega
  have hst : x.2.2.1 < st.length := by omega
  have hsm := ok.small
  have w : IntKind.i64.wrap (((x.2.2.1 : Nat) : Int) + (1 : Int)) = ((x.2.2.1 + 1 : Nat) : Int) := by rw [wrap64_of (by omega) (by omega)]; simp
  refine ⟨last.set x.2.2.2.2 (la.set D.toNat st[x.2.2.1]), ?_, by rw [lens_set l1 (by simp)]; exact hll⟩
  unfold vm_Machine_set.f
  simp only [hf, some_bind, encF, ge0, Int.toNat_natCast, h1, h2, List.getElem?_eq_getElem hst, cond_true, hr, l1, bindC_def, d0, blt_of dr, blt_of dl, List.getElem?_eq_getElem dr, List.getElem?_eq_getElem dl, w]
theorem reg_lt {F : LFunc} {rl : List Int} {a : Int} (hrl : ((rl.length : Nat) : Int) = F.2.2.1) (ha : reg F.2.2.1 a) : decide ((0 : Int) ≤ a) = true ∧ a.toNat < rl.length := by
  unfold reg at ha
  exact ⟨by simp; omega, by omega⟩
theorem set_last {α : Type} {l : List α} {x y : α} : (l ++ [x]).set l.length y = l ++ [y] := by simp
theorem get_last {α : Type} {l : List α} {x : α} : (l ++ [x])[l.length]? = some x := by simp
theorem end_go {fs : List LFunc} {P : Lprogram} {pb : Nat → Nat → Nat} {F0 : List CFr} {regs last : List (List Int)} {ll : List Nat} {x : Fr} {F : LFunc} {B : LBlock} {rl : List Int} {how res : Int}
    (ok : FrOk fs regs ll x F B rl) {e : LEnd} {nb : Nat} (he : okEnd F.2.2.1 nb e) (h3 : e.1 ≠ 3) : ∃ to : Nat, to < nb ∧ ∀ (P : Lprogram) (pb : Nat → Nat → Nat) (F0 : List CFr) (last : List (List Int)), 
    vm_Machine_end.f K F0.length (endV (pb x.1) e).1 (endV (pb x.1) e).2.1 (endV (pb x.1) e).2.2.1 (endV (pb x.1) e).2.2.2 (some P) how res (F0 ++ [encF pb x]) regs last = some (how, res, regs, last, F0 ++ [encF pb (x.1, to, 0, x.2.2.2)]) := by
  obtain ⟨op, a, t, el⟩ := he
  have b3 : (e.1 == 3) = false := beq_eq_false_iff_ne.2 h3
  rw [if_neg h3] at t
  by_cases h2 : e.1 = 2
  · rw [if_neg (by omega)] at a
    rw [if_pos h2] at el
    obtain ⟨a1, a2⟩ := reg_lt ok.rlen a
    have b2 : (e.1 == 2) = true := by simp [h2]
    unfold reg at t el
    by_cases hz : rl[e.2.1.toNat] = 0
    · refine ⟨e.2.2.2.toNat, by omega, fun P pb F0 last => ?_⟩
      have ez : (rl[e.2.1.toNat] == 0) = true := by simp [hz]
      unfold vm_Machine_end.f
      simp only [endV, h2, if_true, show ((2 : Int) == 3) = false from rfl, show ((2 : Int) == 2) = true from rfl, cond_true, cond_false, get_last, some_bind, encF, ok.rg, bindC_def, a1, blt_of a2, List.getElem?_eq_getElem a2, ez, set_last]
      rfl
    · refine ⟨e.2.2.1.toNat, by omega, fun P pb F0 last => ?_⟩
      have ez : (rl[e.2.1.toNat] == 0) = false := by simp [hz]
      unfold vm_Machine_end.f
      simp only [endV, h2, if_true, show ((2 : Int) == 3) = false from rfl, show ((2 : Int) == 2) = true from rfl, cond_true, cond_false, get_last, some_bind, encF, ok.rg, bindC_def, a1, blt_of a2, List.getElem?_eq_getElem a2, ez, set_last]
      rfl
  · have h1 : e.1 = 1 := by omega
    unfold reg at t
    refine ⟨e.2.2.1.toNat, by omega, fun P pb F0 last => ?_⟩
    unfold vm_Machine_end.f
    have hv : endV (pb x.1) e = (1, e.2.1, ((pb x.1 e.2.2.1.toNat : Nat) : Int), e.2.2.2) := by unfold endV; rw [if_neg h2, if_pos h1, h1]
    simp only [hv, show ((1 : Int) == 3) = false from rfl, show ((1 : Int) == 2) = false from rfl, cond_true, cond_false, get_last, some_bind, encF, bindC_def, set_last]
    rfl
theorem end_ret {fs : List LFunc} {regs : List (List Int)} {ll : List Nat} {x : Fr} {F : LFunc} {B : LBlock} {rl : List Int} {how res : Int} (ok : FrOk fs regs ll x F B rl) {e : LEnd} {nb : Nat} (he : okEnd F.2.2.1 nb e) (h3 : e.1 = 3) (P : Lprogram) (pb : Nat → Nat → Nat) (F0 : List CFr) (last : List (List Int)) :
    vm_Machine_end.f K F0.length (endV (pb x.1) e).1 (endV (pb x.1) e).2.1 (endV (pb x.1) e).2.2.1 (endV (pb x.1) e).2.2.2 (some P) how res (F0 ++ [encF pb x]) regs last = vm_Machine_back.f K (rl.getD e.2.1.toNat 0) (some P) how res (F0 ++ [encF pb x]) regs last := by
  obtain ⟨op, a, t, el⟩ := he
  rw [if_neg (by omega)] at a
  obtain ⟨a1, a2⟩ := reg_lt ok.rlen a
  have hv : endV (pb x.1) e = e := by unfold endV; rw [if_neg (by omega), if_neg (by omega)]
  unfold vm_Machine_end.f
  simp only [hv, h3, show ((3 : Int) == 3) = true from rfl, cond_true, get_last, some_bind, encF, ok.rg, bindC_def, a1, blt_of a2, List.getElem?_eq_getElem a2, List.getD, Option.getD_some]
theorem back_done {P : Lprogram} {n how res : Int} {z : CFr} {regs last : List (List Int)} : vm_Machine_back.f K n (some P) how res [z] regs last = some (1, n, regs, last, []) := by
  unfold vm_Machine_back.f
  have w : IntKind.i64.wrap ((([z].length : Nat) : Int) - (1 : Int)) = 0 := by rw [wrap64_of (by simp) (by simp)]; rfl
  rw [w]
  rfl
theorem back_on {fs : List LFunc} {P : Lprogram} {pb : Nat → Nat → Nat} (v : View fs P pb) {n how res : Int} {F1 : List CFr} {y : Fr} {z : CFr} {regs last : List (List Int)} {ll : List Nat} {F : LFunc} {B : LBlock} {rl : List Int} {I : LInsn} (hF : F1.length ≤ 100)
    (ok : FrOk fs regs ll y F B rl) (hI : B.1[y.2.2.1]? = some I) (hD : reg F.2.2.1 I.2.1) (hll : last.map (·.length) = ll) :
    ∃ last', vm_Machine_back.f K n (some P) how res (F1 ++ [encF pb y] ++ [z]) regs last = some (how, res, regs.set y.2.2.2.1 (rl.set I.2.1.toNat n), last', F1 ++ [encF pb (y.1, y.2.1, y.2.2.1 + 1, y.2.2.2)]) ∧ last'.map (·.length) = ll := by
  have hlt := (List.getElem?_eq_some_iff.1 hI).1
  obtain ⟨last', s1, s2⟩ := set_val (K := K) v (frames := F1 ++ [encF pb y]) (idx := F1.length) (n := n) get_last ok hlt hD hll
  refine ⟨last', ?_, s2⟩
  obtain ⟨bl, st, h1, h2, h3⟩ := v.blk _ _ _ _ ok.fn ok.bl
  unfold vm_Machine_back.f
  have w : IntKind.i64.wrap ((((F1 ++ [encF pb y] ++ [z]).length : Nat) : Int) - (1 : Int)) = (((F1 ++ [encF pb y]).length : Nat) : Int) := by rw [wrap64_of (by simp <;> omega) (by simp <;> omega)]; simp <;> omega
  have e1 : (decide (((0 : Nat) : Int) ≤ (((F1 ++ [encF pb y]).length : Nat) : Int)) && decide ((((F1 ++ [encF pb y]).length : Nat) : Int) ≤ (((F1 ++ [encF pb y] ++ [z]).length : Nat) : Int))) = true := by simp; omega
  have e2 : ((((F1 ++ [encF pb y]).length - 0 : Nat) : Int) == (0 : Int)) = false := beq_eq_false_iff_ne.2 (by simp; omega)
  have e3 : Nat.ble ((F1 ++ [encF pb y]).length - 0) (F1 ++ [encF pb y] ++ [z]).length = true := Nat.ble_eq_true_of_le (by simp)
  have e4 : List.take ((F1 ++ [encF pb y]).length - 0) (F1 ++ [encF pb y] ++ [z]) = F1 ++ [encF pb y] := by rw [Nat.sub_zero]; exact List.take_left
  simp only [w, e1, cond_true, Int.toNat_natCast, e2, cond_false, e3, e4, inner_val (K := K) (l := F1) (x := encF pb y) (by omega), some_bind, get_last]
  have q1 : (encF pb y).1 = ((y.1 : Nat) : Int) := rfl
  have q2 : (encF pb y).2.1 = ((pb y.1 y.2.1 : Nat) : Int) := rfl
  have q3 : (encF pb y).2.2.1 = ((y.2.2.1 : Nat) : Int) := rfl
  simp only [q1, q2, q3, ge0, cond_true, Int.toNat_natCast, h1, h2, some_bind, hI, s1, set_last]
end Go.Proofs.YtdjkdmjdcdljmaaGreat.AT
