/- Own work. No condition. -/
import Derived.Test.YtdjkdmjdcdljmaaGreatRt

namespace Go.Proofs.YtdjkdmjdcdljmaaGreat.AT
open Go.Proofs.YtdjkdmjdcdljmaaGreatX
set_option linter.unusedVariables false
set_option linter.unusedSimpArgs false
set_option maxRecDepth 100000
set_option maxHeartbeats 4000000
variable {K : Nat}

theorem sets_val {op d : Int} (h : 1 ≤ op ∧ op ≤ 17) : ir_Sets.f K op d = some (bif usesD op then (d, true) else (0, false)) := by
  rcases op_cases h.1 h.2 with rfl | rfl | rfl | rfl | rfl | rfl | rfl | rfl | rfl | rfl | rfl | rfl | rfl | rfl | rfl | rfl | rfl <;> rfl
def sets (l : List LInsn) : Nat := l.countP fun x => usesD x.1
def bsN (l : List LBlock) : Nat := (l.map fun b => sets b.1).sum
def fN (f : LFunc) : Nat := f.2.2.1.toNat + bsN f.2.2.2
def fsN (l : List LFunc) : Nat := (l.map fN).sum
def opsOk (l : List LInsn) : Prop := ∀ x ∈ l, 1 ≤ x.1 ∧ x.1 ≤ 17
theorem sets_app (a b : List LInsn) : sets (a ++ b) = sets a + sets b := List.countP_append
theorem bsN_app (a b : List LBlock) : bsN (a ++ b) = bsN a + bsN b := by unfold bsN; rw [List.map_append, List.sum_append]
theorem fsN_app (a b : List LFunc) : fsN (a ++ b) = fsN a + fsN b := by unfold fsN; rw [List.map_append, List.sum_append]
theorem sets_one (x : LInsn) : sets [x] = if usesD x.1 = true then 1 else 0 := by
  unfold sets
  rw [List.countP_cons, List.countP_nil, Nat.zero_add]
theorem bsN_one (x : LBlock) : bsN [x] = sets x.1 := by simp [bsN]
theorem fsN_one (x : LFunc) : fsN [x] = fN x := by simp [fsN]
theorem sets_le (l : List LInsn) : sets l ≤ l.length := List.countP_le_length
theorem bsN_le {l : List LBlock} (h : ∀ b ∈ l, b.1.length ≤ 12) : bsN l ≤ 12 * l.length := by
  induction l with
  | nil => exact Nat.le_refl _
  | cons x l ih =>
    have := ih fun b hb => h b (by simp [hb])
    have h1 := h x (by simp)
    have h2 := sets_le x.1
    rw [show x :: l = [x] ++ l from rfl, bsN_app, bsN_one]
    simp only [List.length_append, List.length_singleton]
    omega
theorem get_app {α : Type} {l : List α} {x y : α} {i : Nat} (h : (l ++ [x])[i]? = some y) : (i < l.length ∧ l[i]? = some y) ∨ (i = l.length ∧ y = x) := by
  by_cases hi : i < l.length
  · rw [List.getElem?_append_left hi] at h; exact .inl ⟨hi, h⟩
  · have := (List.getElem?_eq_some_iff.1 h).1
    have : i = l.length := by simp at this; omega
    subst this
    simp at h
    exact .inr ⟨rfl, h.symm⟩
theorem take_app {α : Type} {l : List α} {x : α} {i : Nat} (h : i ≤ l.length) : (l ++ [x]).take i = l.take i := by
  rw [List.take_append_of_le_length h]
theorem take_all {α : Type} {l : List α} {x : α} : (l ++ [x]).take l.length = l := by simp

theorem ready_l2p {l : List LInsn} (hl : l.length ≤ 1000) (ho : opsOk l) {s0 : Nat} (hs0 : s0 ≤ 1000000000) : ∀ (l2 l1 : List LInsn) (k : Nat) (st : List Int), l = l1 ++ l2 → l2.length < k → st.length = l.length →
    (∀ (i : Nat) I, l1[i]? = some I → usesD I.1 = true → st[i]? = some ((s0 + sets (l1.take i) : Nat) : Int)) →
    ∃ st', vm_ready.l2.f K k ((s0 + sets l1 : Nat) : Int) l ((l.length : Nat) : Int) ((l1.length : Nat) : Int) st = some (((s0 + sets l : Nat) : Int), st') ∧ st'.length = l.length ∧ ∀ (i : Nat) I, l[i]? = some I → usesD I.1 = true → st'[i]? = some ((s0 + sets (l.take i) : Nat) : Int)
  | l2, l1, 0, st, h, hk, hs, hp => by omega
  | [], l1, k + 1, st, h, hk, hs, hp => by
    rw [vm_ready.l2.f]
    simp only [lt_end h, cond_false]
    have e : l = l1 := by simpa using h
    subst e
    exact ⟨st, rfl, hs, hp⟩
  | x :: l2, l1, k + 1, st, h, hk, hs, hp => by
    rw [vm_ready.l2.f]
    have hl1 : l1.length ≤ 1000 := by rw [h] at hl; simp at hl; omega
    have hlt : l1.length < st.length := by rw [hs, h]; simp
    have e1 : Nat.blt l1.length st.length = true := Nat.ble_eq_true_of_le (by omega)
    have a1 : l[l1.length]? = some x := by rw [h]; simp
    have hset := sets_le l1
    simp only [lt_mid h, ge0', Bool.and_true, a1, cond_true, some_bind, sets_val (K := K) (d := x.2.1) (ho x (by rw [h]; simp)), e1, Int.toNat_natCast, List.getElem?_eq_getElem hlt, wrap_next (l1 := l1) (x := x) (by omega)]
    cases hu : usesD x.1 with
    | true =>
      have e2 : IntKind.i64.wrap (((s0 + sets l1 : Nat) : Int) + (1 : Int)) = ((s0 + sets (l1 ++ [x]) : Nat) : Int) := by
        rw [wrap64_of (by omega) (by omega), sets_app, sets_one, if_pos hu]; omega
      simp only [cond_true, e2]
      refine ready_l2p hl ho hs0 l2 (l1 ++ [x]) k _ (mid_next h) (by simp at hk; omega) (by simpa using hs) fun i I hI hI2 => ?_
      rcases get_app hI with ⟨h1, h2⟩ | ⟨h1, h2⟩
      · rw [List.getElem?_set_ne (by omega), take_app (by omega)]; exact hp i I h2 hI2
      · subst h1; rw [take_all]; simp [hlt]
    | false =>
      have e2 : sets (l1 ++ [x]) = sets l1 := by rw [sets_app, sets_one, if_neg (by simp [hu])]; rfl
      simp only [cond_false]
      rw [← e2]
      refine ready_l2p hl ho hs0 l2 (l1 ++ [x]) k _ (mid_next h) (by simp at hk; omega) hs fun i I hI hI2 => ?_
      rcases get_app hI with ⟨h1, h2⟩ | ⟨h1, h2⟩
      · rw [take_app (by omega)]; exact hp i I h2 hI2
      · subst h2; rw [hu] at hI2; cases hI2
def sitedP (s0 : Nat) (b : LBlock) (s : Lsited) : Prop := s.1 = b.1 ∧ s.2.1.length = b.1.length ∧ s.2.2 = b.2 ∧ ∀ (i : Nat) I, b.1[i]? = some I → usesD I.1 = true → s.2.1[i]? = some ((s0 + sets (b.1.take i) : Nat) : Int)
def rowsP (s0 : Nat) (l : List LBlock) (acc : List Lsited) : Prop := acc.length = l.length ∧ ∀ (i : Nat) b, l[i]? = some b → ∃ s, acc[i]? = some s ∧ sitedP (s0 + bsN (l.take i)) b s
theorem ready_l1p (hK : 2000 ≤ K) {l : List LBlock} (hl : l.length ≤ 1000) (ha : ∀ b ∈ l, b.1.length ≤ 12 ∧ opsOk b.1) {s0 : Nat} (hs0 : s0 ≤ 100000000) : ∀ (l2 l1 : List LBlock) (k : Nat) (acc : List Lsited), l = l1 ++ l2 → l2.length < k → rowsP s0 l1 acc →
    ∃ acc', vm_ready.l1.f K k ((s0 + bsN l1 : Nat) : Int) l ((l.length : Nat) : Int) ((l1.length : Nat) : Int) acc = some (((s0 + bsN l : Nat) : Int), acc') ∧ rowsP s0 l acc'
  | l2, l1, 0, acc, h, hk, hs => by omega
  | [], l1, k + 1, acc, h, hk, hs => by
    rw [vm_ready.l1.f]
    simp only [lt_end h, cond_false]
    have e : l = l1 := by simpa using h
    subst e
    exact ⟨acc, rfl, hs⟩
  | x :: l2, l1, k + 1, acc, h, hk, hs => by
    rw [vm_ready.l1.f]
    have hl1 : l1.length ≤ 1000 := by rw [h] at hl; simp at hl; omega
    obtain ⟨q, qo⟩ := ha x (by rw [h]; simp)
    have hacc := hs.1
    have hbs := bsN_le (l := l1) fun b hb => (ha b (by rw [h]; simp [hb])).1
    obtain ⟨st1, g1, g2, g3⟩ := ready_l2p (K := K) (l := x.1) (by omega) qo (s0 := s0 + bsN l1) (by omega) x.1 [] K (List.replicate ((x.1.length : Nat) : Int).toNat 0) rfl (by omega) (by simp) (fun i I hI => by simp at hI)
    have g1' : vm_ready.l2.f K K ((s0 + bsN l1 : Nat) : Int) x.1 ((x.1.length : Nat) : Int) (0 : Int) (List.replicate ((x.1.length : Nat) : Int).toNat 0) = some (((s0 + bsN (l1 ++ [x]) : Nat) : Int), st1) := by
      rw [bsN_app, bsN_one, ← Nat.add_assoc]; exact g1
    have e3 : (decide (((x.1.length : Nat) : Int) ≤ (100000 : Int)) && ((x.1.length : Nat) : Int) == ((x.1.length : Nat) : Int) && true && true && true) = true := by simp; omega
    have e4 : Nat.ble (acc.length + [(x.1, st1, x.2.1, x.2.2.1, x.2.2.2.1, x.2.2.2.2)].length) 100000 = true := Nat.ble_eq_true_of_le (by simp; omega)
    simp only [lt_mid h, ge0, at_mid h, cond_true, some_bind, e3, g1', e4, wrap_next (l1 := l1) (x := x) (by omega)]
    refine ready_l1p hK hl ha hs0 l2 (l1 ++ [x]) k _ (mid_next h) (by simp at hk; omega) ⟨by simp [hacc], fun i b hb => ?_⟩
    rcases get_app hb with ⟨h1, h2⟩ | ⟨h1, h2⟩
    · obtain ⟨s, z1, z2⟩ := hs.2 i b h2
      exact ⟨s, by rw [List.getElem?_append_left (by omega)]; exact z1, by rw [take_app (by omega)]; exact z2⟩
    · subst h1; subst h2
      exact ⟨_, by rw [← hacc]; exact get_last, by rw [take_all]; exact ⟨rfl, g2, rfl, g3⟩⟩
def progP (l : List LFunc) (acc : List (List Lsited)) (fst : List Int) : Prop := acc.length = l.length ∧ fst.length = l.length ∧ ∀ (i : Nat) f, l[i]? = some f → fst[i]? = some ((fsN (l.take i) : Nat) : Int) ∧ ∃ a, acc[i]? = some a ∧ rowsP (fsN (l.take i) + f.2.2.1.toNat) f.2.2.2 a
structure small (f : LFunc) : Prop where
  regs : 0 ≤ f.2.2.1 ∧ f.2.2.1 ≤ 8
  blocks : f.2.2.2.length ≤ 12
  each : ∀ b ∈ f.2.2.2, b.1.length ≤ 12 ∧ opsOk b.1
theorem fN_le {f : LFunc} (h : small f) : fN f ≤ 152 := by
  have h1 := bsN_le (l := f.2.2.2) fun b hb => (h.each b hb).1
  have h2 := h.blocks
  have h3 := h.regs
  unfold fN
  omega
theorem fsN_le {l : List LFunc} (h : ∀ f ∈ l, small f) : fsN l ≤ 152 * l.length := by
  induction l with
  | nil => exact Nat.le_refl _
  | cons x l ih =>
    have := ih fun b hb => h b (by simp [hb])
    have h1 := fN_le (h x (by simp))
    rw [show x :: l = [x] ++ l from rfl, fsN_app, fsN_one]
    simp only [List.length_append, List.length_singleton]
    omega
theorem ready_l0p (hK : 2000 ≤ K) {l : List LFunc} (hl : l.length ≤ 1000) (ha : ∀ f ∈ l, small f) : ∀ (l2 l1 : List LFunc) (k : Nat) (acc : List (List Lsited)) (fst : List Int), l = l1 ++ l2 → l2.length < k → progP l1 acc fst →
    ∃ acc' fst', vm_ready.l0.f K k ((fsN l1 : Nat) : Int) l ((l.length : Nat) : Int) ((l1.length : Nat) : Int) acc fst = some (acc', fst') ∧ progP l acc' fst'
  | l2, l1, 0, acc, fst, h, hk, hs => by omega
  | [], l1, k + 1, acc, fst, h, hk, hs => by
    rw [vm_ready.l0.f]
    simp only [lt_end h, cond_false]
    have e : l = l1 := by simpa using h
    subst e
    exact ⟨acc, fst, rfl, hs⟩
  | x :: l2, l1, k + 1, acc, fst, h, hk, hs => by
    rw [vm_ready.l0.f]
    have hl1 : l1.length ≤ 1000 := by rw [h] at hl; simp at hl; omega
    have q := ha x (by rw [h]; simp)
    have qr := q.regs
    have hacc := hs.1
    have hfst := hs.2.1
    have hfs := fsN_le (l := l1) fun b hb => ha b (by rw [h]; simp [hb])
    obtain ⟨a1, g1, g2⟩ := ready_l1p (K := K) hK (l := x.2.2.2) (by have := q.blocks; omega) q.each (s0 := fsN l1 + x.2.2.1.toNat) (by omega) x.2.2.2 [] K [] rfl (by have := q.blocks; omega) ⟨rfl, fun i b hb => by simp at hb⟩
    have w : IntKind.i64.wrap (((fsN l1 : Nat) : Int) + x.2.2.1) = ((fsN l1 + x.2.2.1.toNat : Nat) : Int) := by rw [wrap64_of (by omega) (by omega)]; omega
    have g1' : vm_ready.l1.f K K ((fsN l1 + x.2.2.1.toNat : Nat) : Int) x.2.2.2 ((x.2.2.2.length : Nat) : Int) (0 : Int) [] = some (((fsN (l1 ++ [x]) : Nat) : Int), a1) := by
      rw [fsN_app, fsN_one, fN, ← Nat.add_assoc]; exact g1
    have e3 : Nat.ble (fst.length + [((fsN l1 : Nat) : Int)].length) 100000 = true := Nat.ble_eq_true_of_le (by simp; omega)
    have e4 : Nat.ble (acc.length + [a1].length) 100000 = true := Nat.ble_eq_true_of_le (by simp; omega)
    simp only [lt_mid h, ge0, at_mid h, cond_true, some_bind, e3, w, g1', e4, wrap_next (l1 := l1) (x := x) (by omega)]
    refine ready_l0p hK hl ha l2 (l1 ++ [x]) k _ _ (mid_next h) (by simp at hk; omega) ⟨by simp [hacc], by simp [hfst], fun i f hf => ?_⟩
    rcases get_app hf with ⟨h1, h2⟩ | ⟨h1, h2⟩
    · obtain ⟨z0, s, z1, z2⟩ := hs.2.2 i f h2
      exact ⟨by rw [List.getElem?_append_left (by omega), take_app (by omega)]; exact z0, s, by rw [List.getElem?_append_left (by omega)]; exact z1, by rw [take_app (by omega)]; exact z2⟩
    · subst h1; subst h2
      exact ⟨by rw [take_all, ← hfst]; exact get_last, _, by rw [← hacc]; exact get_last, by rw [take_all]; exact g2⟩
theorem ready_p (hK : 2000 ≤ K) {fs : List LFunc} (hl : fs.length ≤ 1000) (ha : ∀ f ∈ fs, small f) : ∃ bls fst, vm_ready.f K fs = some (some (fs, bls, fst)) ∧ progP fs bls fst := by
  unfold vm_ready.f
  obtain ⟨bls, fst, h1, h2⟩ := ready_l0p (K := K) hK hl ha fs [] K [] [] rfl (by omega) ⟨rfl, rfl, fun i f hf => by simp at hf⟩
  rw [show vm_ready.l0.f K K (0 : Int) fs ((fs.length : Nat) : Int) (0 : Int) [] [] = some (bls, fst) from h1]
  exact ⟨bls, fst, rfl, h2⟩

theorem bsets_l0 {l : List LInsn} (hl : l.length ≤ 1000) (ho : opsOk l) : ∀ (l2 l1 : List LInsn) (k : Nat), l = l1 ++ l2 → l2.length < k → ir_Block_sets.l0.f K k ((sets l1 : Nat) : Int) l ((l.length : Nat) : Int) ((l1.length : Nat) : Int) = some ((sets l : Nat) : Int)
  | l2, l1, 0, h, hk => by omega
  | [], l1, k + 1, h, hk => by
    rw [ir_Block_sets.l0.f]
    simp only [lt_end h, cond_false]
    have e : l = l1 := by simpa using h
    rw [e]
  | x :: l2, l1, k + 1, h, hk => by
    rw [ir_Block_sets.l0.f]
    have hl1 : l1.length ≤ 1000 := by rw [h] at hl; simp at hl; omega
    have hset := sets_le l1
    simp only [lt_mid h, ge0, at_mid h, cond_true, some_bind, sets_val (K := K) (d := x.2.1) (ho x (by rw [h]; simp)), wrap_next (l1 := l1) (x := x) (by omega)]
    cases hu : usesD x.1 with
    | true =>
      have e2 : IntKind.i64.wrap (((sets l1 : Nat) : Int) + (1 : Int)) = ((sets (l1 ++ [x]) : Nat) : Int) := by
        rw [wrap64_of (by omega) (by omega), sets_app, sets_one, if_pos hu]; omega
      simp only [cond_true, e2]
      exact bsets_l0 hl ho l2 (l1 ++ [x]) k (mid_next h) (by simp at hk; omega)
    | false =>
      have e2 : sets (l1 ++ [x]) = sets l1 := by rw [sets_app, sets_one, if_neg (by simp [hu])]; rfl
      simp only [cond_false]
      rw [← e2]
      exact bsets_l0 hl ho l2 (l1 ++ [x]) k (mid_next h) (by simp at hk; omega)
theorem bsets_val (hK : 2000 ≤ K) {l : List LInsn} (hl : l.length ≤ 1000) (ho : opsOk l) : ir_Block_sets.f K l = some ((sets l : Nat) : Int) := bsets_l0 hl ho l [] K rfl (by omega)
theorem fsites_l0 (hK : 2000 ≤ K) {l : List LBlock} (hl : l.length ≤ 1000) (ha : ∀ b ∈ l, b.1.length ≤ 12 ∧ opsOk b.1) {s0 : Nat} (hs0 : s0 ≤ 100000000) : ∀ (l2 l1 : List LBlock) (k : Nat), l = l1 ++ l2 → l2.length < k → ir_Func_sites.l0.f K k ((s0 + bsN l1 : Nat) : Int) l ((l.length : Nat) : Int) ((l1.length : Nat) : Int) = some ((s0 + bsN l : Nat) : Int)
  | l2, l1, 0, h, hk => by omega
  | [], l1, k + 1, h, hk => by
    rw [ir_Func_sites.l0.f]
    simp only [lt_end h, cond_false]
    have e : l = l1 := by simpa using h
    rw [e]
  | x :: l2, l1, k + 1, h, hk => by
    rw [ir_Func_sites.l0.f]
    have hl1 : l1.length ≤ 1000 := by rw [h] at hl; simp at hl; omega
    obtain ⟨q, qo⟩ := ha x (by rw [h]; simp)
    have hset := sets_le x.1
    have hbs := bsN_le (l := l1) fun b hb => (ha b (by rw [h]; simp [hb])).1
    have e2 : IntKind.i64.wrap (((s0 + bsN l1 : Nat) : Int) + ((sets x.1 : Nat) : Int)) = ((s0 + bsN (l1 ++ [x]) : Nat) : Int) := by
      rw [wrap64_of (by omega) (by omega), bsN_app, bsN_one]; omega
    simp only [lt_mid h, ge0, at_mid h, cond_true, some_bind, bsets_val hK (show x.1.length ≤ 1000 by omega) qo, e2, wrap_next (l1 := l1) (x := x) (by omega)]
    exact fsites_l0 hK hl ha hs0 l2 (l1 ++ [x]) k (mid_next h) (by simp at hk; omega)
theorem site_l0 (hK : 2000 ≤ K) {l : List LBlock} (hl : l.length ≤ 1000) (ha : ∀ b ∈ l, b.1.length ≤ 12 ∧ opsOk b.1) {s0 : Nat} (hs0 : s0 ≤ 100000000) : ∀ (l2 l1 : List LBlock) (k : Nat), l = l1 ++ l2 → l2.length < k → ir_Site.l0.f K k ((s0 + bsN l1 : Nat) : Int) l ((l.length : Nat) : Int) ((l1.length : Nat) : Int) = some ((s0 + bsN l : Nat) : Int)
  | l2, l1, 0, h, hk => by omega
  | [], l1, k + 1, h, hk => by
    rw [ir_Site.l0.f]
    simp only [lt_end h, cond_false]
    have e : l = l1 := by simpa using h
    rw [e]
  | x :: l2, l1, k + 1, h, hk => by
    rw [ir_Site.l0.f]
    have hl1 : l1.length ≤ 1000 := by rw [h] at hl; simp at hl; omega
    obtain ⟨q, qo⟩ := ha x (by rw [h]; simp)
    have hset := sets_le x.1
    have hbs := bsN_le (l := l1) fun b hb => (ha b (by rw [h]; simp [hb])).1
    have e2 : IntKind.i64.wrap (((s0 + bsN l1 : Nat) : Int) + ((sets x.1 : Nat) : Int)) = ((s0 + bsN (l1 ++ [x]) : Nat) : Int) := by
      rw [wrap64_of (by omega) (by omega), bsN_app, bsN_one]; omega
    simp only [lt_mid h, ge0, at_mid h, cond_true, some_bind, bsets_val hK (show x.1.length ≤ 1000 by omega) qo, e2, wrap_next (l1 := l1) (x := x) (by omega)]
    exact site_l0 hK hl ha hs0 l2 (l1 ++ [x]) k (mid_next h) (by simp at hk; omega)
theorem max0 {r : Int} (h : 0 ≤ r) : (if (0 : Int) > r then (0 : Int) else r) = ((r.toNat : Nat) : Int) := by rw [if_neg (by omega)]; omega
theorem fsites_val (hK : 2000 ≤ K) {f : LFunc} (h : small f) : ir_Func_sites.f K f.2.2.1 f.2.2.2 = some ((fN f : Nat) : Int) := by
  have hr := h.regs
  have hb := h.blocks
  unfold ir_Func_sites.f
  rw [max0 hr.1]
  exact fsites_l0 (K := K) hK (l := f.2.2.2) (by omega) h.each (s0 := f.2.2.1.toNat) (by omega) f.2.2.2 [] K rfl (by omega)
theorem sites_l0 (hK : 2000 ≤ K) {l : List LFunc} (hl : l.length ≤ 1000) (ha : ∀ f ∈ l, small f) : ∀ (l2 l1 : List LFunc) (k : Nat), l = l1 ++ l2 → l2.length < k → ir_Sites.l0.f K k ((fsN l1 : Nat) : Int) l ((l.length : Nat) : Int) ((l1.length : Nat) : Int) = some ((fsN l : Nat) : Int)
  | l2, l1, 0, h, hk => by omega
  | [], l1, k + 1, h, hk => by
    rw [ir_Sites.l0.f]
    simp only [lt_end h, cond_false]
    have e : l = l1 := by simpa using h
    rw [e]
  | x :: l2, l1, k + 1, h, hk => by
    rw [ir_Sites.l0.f]
    have hl1 : l1.length ≤ 1000 := by rw [h] at hl; simp at hl; omega
    have q := ha x (by rw [h]; simp)
    have hx := fN_le q
    have hfs := fsN_le (l := l1) fun b hb => ha b (by rw [h]; simp [hb])
    have e2 : IntKind.i64.wrap (((fsN l1 : Nat) : Int) + ((fN x : Nat) : Int)) = ((fsN (l1 ++ [x]) : Nat) : Int) := by
      rw [wrap64_of (by omega) (by omega), fsN_app, fsN_one]; omega
    simp only [lt_mid h, ge0, at_mid h, cond_true, some_bind, fsites_val hK q, e2, wrap_next (l1 := l1) (x := x) (by omega)]
    exact sites_l0 hK hl ha l2 (l1 ++ [x]) k (mid_next h) (by simp at hk; omega)
theorem first_val (hK : 2000 ≤ K) {fs : List LFunc} (hl : fs.length ≤ 1000) (ha : ∀ f ∈ fs, small f) {p : Nat} (hp : p < fs.length) : ir_First.f K fs ((p : Nat) : Int) = some ((fsN (fs.take p) : Nat) : Int) := by
  unfold ir_First.f
  have e1 : (decide ((0 : Int) ≤ ((p : Nat) : Int)) && decide (((p : Nat) : Int) < ((fs.length : Nat) : Int))) = true := by simp; omega
  have e2 : (decide (((0 : Nat) : Int) ≤ ((p : Nat) : Int)) && decide (((p : Nat) : Int) ≤ ((fs.length : Nat) : Int)) && true) = true := by simp; omega
  simp only [within_val, some_bind, e1, Bool.not_true, cond_false, e2, cond_true, Int.toNat_natCast, List.drop_zero]
  exact sites_l0 (K := K) hK (l := fs.take p) (by simp; omega) (fun f hf => ha f (List.mem_of_mem_take hf)) (fs.take p) [] K rfl (by simp; omega)
theorem site_val (hK : 2000 ≤ K) {fs : List LFunc} (hl : fs.length ≤ 1000) (ha : ∀ f ∈ fs, small f) {p b i : Nat} {F : LFunc} {B : LBlock} {I : LInsn} (hF : fs[p]? = some F) (hB : F.2.2.2[b]? = some B) (hI : B.1[i]? = some I) :
    ∃ s, ir_Site.f K fs ((p : Nat) : Int) ((b : Nat) : Int) ((i : Nat) : Int) = some s ∧ (usesD I.1 = true → s = ((fsN (fs.take p) + F.2.2.1.toNat + bsN (F.2.2.2.take b) + sets (B.1.take i) : Nat) : Int)) := by
  have lp := (List.getElem?_eq_some_iff.1 hF).1
  have lb := (List.getElem?_eq_some_iff.1 hB).1
  have li := (List.getElem?_eq_some_iff.1 hI).1
  have sm := ha F (List.mem_of_getElem? hF)
  have hr := sm.regs
  have hnb := sm.blocks
  obtain ⟨q, qo⟩ := sm.each B (List.mem_of_getElem? hB)
  have hop := qo I (List.mem_of_getElem? hI)
  have w1 : (decide ((0 : Int) ≤ ((p : Nat) : Int)) && decide (((p : Nat) : Int) < ((fs.length : Nat) : Int))) = true := by simp; omega
  have w2 : (decide ((0 : Int) ≤ ((b : Nat) : Int)) && decide (((b : Nat) : Int) < ((F.2.2.2.length : Nat) : Int))) = true := by simp; omega
  have w3 : (decide ((0 : Int) ≤ ((i : Nat) : Int)) && decide (((i : Nat) : Int) < ((B.1.length : Nat) : Int))) = true := by simp; omega
  have w4 : (decide (((0 : Nat) : Int) ≤ ((i : Nat) : Int)) && decide (((i : Nat) : Int) ≤ ((B.1.length : Nat) : Int)) && true) = true := by simp; omega
  have w5 : (decide (((0 : Nat) : Int) ≤ ((b : Nat) : Int)) && decide (((b : Nat) : Int) ≤ ((F.2.2.2.length : Nat) : Int)) && true) = true := by simp; omega
  have hfs := fsN_le (l := fs.take p) fun f hf => ha f (List.mem_of_mem_take hf)
  have hts : (fs.take p).length ≤ 1000 := by simp; omega
  have hset := sets_le (B.1.take i)
  have hti : (B.1.take i).length ≤ 12 := by simp; omega
  unfold ir_Site.f
  simp only [bindC_def, within_val, some_bind, w1, w2, w3, w4, w5, Bool.not_true, cond_false, cond_true, ge0, Int.toNat_natCast, hF, hB, hI, sets_val (K := K) (d := I.2.1) hop, first_val hK hl ha lp, List.drop_zero]
  cases hu : usesD I.1 with
  | false => exact ⟨_, rfl, fun h => by cases h⟩
  | true =>
    have e : IntKind.i64.wrap (IntKind.i64.wrap (((fsN (fs.take p) : Nat) : Int) + if (0 : Int) > F.2.2.1 then (0 : Int) else F.2.2.1) + ((sets (B.1.take i) : Nat) : Int)) = ((fsN (fs.take p) + F.2.2.1.toNat + sets (B.1.take i) : Nat) : Int) := by
      have e0 : IntKind.i64.wrap (((fsN (fs.take p) : Nat) : Int) + ((F.2.2.1.toNat : Nat) : Int)) = ((fsN (fs.take p) + F.2.2.1.toNat : Nat) : Int) := by rw [wrap64_of (by omega) (by omega)]; omega
      rw [max0 hr.1, e0, wrap64_of (by omega) (by omega)]; omega
    refine ⟨_, ?_, fun _ => rfl⟩
    simp only [cond_true, Bool.not_true, cond_false, bsets_val hK (show (B.1.take i).length ≤ 1000 by omega) (fun x hx => qo x (List.mem_of_mem_take hx)), some_bind, e]
    have z := site_l0 (K := K) hK (l := F.2.2.2.take b) (by simp; omega) (fun c hc => sm.each c (List.mem_of_mem_take hc)) (s0 := fsN (fs.take p) + F.2.2.1.toNat + sets (B.1.take i)) (by omega) (F.2.2.2.take b) [] K rfl (by simp; omega)
    refine z.trans ?_
    congr 2
    omega
end Go.Proofs.YtdjkdmjdcdljmaaGreat.AT
