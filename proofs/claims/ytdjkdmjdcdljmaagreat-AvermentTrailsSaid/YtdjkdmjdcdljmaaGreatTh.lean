/- Own work. No condition. -/
import Derived.Test.YtdjkdmjdcdljmaaGreatTg
import Derived.Test.YtdjkdmjdcdljmaaGreatTr

namespace Go.Proofs.YtdjkdmjdcdljmaaGreat.AT
open Go.RowKit Go.Proofs.YtdjkdmjdcdljmaaGreatX Go.Proofs.YtdjkdmjdcdljmaaGreat.Sr
set_option linter.unusedVariables false
set_option linter.unusedSimpArgs false
set_option maxRecDepth 100000
set_option maxHeartbeats 4000000
variable {K : Nat}

def LA (la : List Int) : List (List Int) := la.map fun v => [v]
theorem LA_len (la : List Int) : (LA la).length = la.length := by simp [LA]
theorem LA_set (la : List Int) (d : Nat) (v : Int) : (LA la).set d [v] = LA (la.set d v) := by simp [LA, List.map_set]
theorem LA_get {la : List Int} {i : Nat} {v : Int} (h : la[i]? = some v) : (LA la)[i]? = some [v] := by simp [LA, h]
theorem LA_snoc (la : List Int) (v : Int) : LA la ++ [[v]] = LA (la ++ [v]) := by simp [LA]
theorem cloneV_val {l : List LValue} (h : l.length ≤ 1000) : slices_Clone_fact_Value_fact_Value_own.f K l = some l := by
  unfold slices_Clone_fact_Value_fact_Value_own.f
  rw [show (0 + l.length).ble 100000 = true from Nat.ble_eq_true_of_le (by omega)]; rfl
theorem copy_l0 {la : List Int} (hl : la.length ≤ 1000) : ∀ (l2 l1 : List Int) (k : Nat), la = l1 ++ l2 → l2.length < k → state_Copy.l0.f K k (LA la) (((LA la).length : Nat) : Int) ((l1.length : Nat) : Int) (LA l1) = some (LA la) ∧ state_Copy_own.l0.f K k (LA la) (((LA la).length : Nat) : Int) ((l1.length : Nat) : Int) (LA l1) = some (LA la)
  | l2, l1, 0, h, hk => by omega
  | [], l1, k + 1, h, hk => by
    rw [state_Copy.l0.f, state_Copy_own.l0.f]
    have e : la = l1 := by simpa using h
    have e1 : decide (((l1.length : Nat) : Int) < (((LA la).length : Nat) : Int)) = false := by rw [LA_len, e]; simp
    simp only [e1, cond_false]
    rw [e]; exact ⟨rfl, rfl⟩
  | x :: l2, l1, k + 1, h, hk => by
    rw [state_Copy.l0.f, state_Copy_own.l0.f]
    have hl1 : l1.length ≤ 1000 := by rw [h] at hl; simp at hl; omega
    have e1 : decide (((l1.length : Nat) : Int) < (((LA la).length : Nat) : Int)) = true := by rw [LA_len, h]; simp; omega
    have e2 : (LA la)[l1.length]? = some [x] := LA_get (by rw [h]; simp)
    have e3 : Nat.ble ((LA l1).length + [[x]].length) 100000 = true := Nat.ble_eq_true_of_le (by rw [LA_len]; simp; omega)
    simp only [e1, ge0, Int.toNat_natCast, e2, cond_true, some_bind, cloneInt_val (K := K) (l := [x]) (by simp), e3, wrap_next (l1 := l1) (x := x) (by omega), LA_snoc]
    exact copy_l0 hl l2 (l1 ++ [x]) k (mid_next h) (by simp at hk; omega)
theorem copy_val (hK : 2000 ≤ K) {vals : List LValue} {la : List Int} (hv : vals.length ≤ 1000) (hl : la.length ≤ 1000) : state_Copy.f K vals (LA la) = some (vals, LA la) ∧ state_Copy_own.f K vals (LA la) = some (vals, LA la) := by
  obtain ⟨c1, c2⟩ := copy_l0 (K := K) hl la [] K rfl (by omega)
  have c1' : state_Copy.l0.f K K (LA la) (((LA la).length : Nat) : Int) (0 : Int) [] = some (LA la) := c1
  have c2' : state_Copy_own.l0.f K K (LA la) (((LA la).length : Nat) : Int) (0 : Int) [] = some (LA la) := c2
  unfold state_Copy.f state_Copy_own.f
  simp only [cloneV_val (K := K) hv, some_bind, c1', c2', and_self]
theorem hasR_val {vals : List LValue} {la : List Int} {rl : List Int} (hv : vals.length = rl.length) (hl : la.length = rl.length) {d : Nat} (hd : d < rl.length) : state_State_has.f K true vals (LA la) ((d : Nat) : Int) = some true := by
  unfold state_State_has.f state_State_regs.f
  have e1 : decide (((d : Nat) : Int) ≥ 0) = true := by simp
  have e2 : decide (((d : Nat) : Int) < if (((LA la).length : Nat) : Int) < ((vals.length : Nat) : Int) then (((LA la).length : Nat) : Int) else ((vals.length : Nat) : Int)) = true := by
    rw [LA_len, hv, hl]; simp; omega
  simp only [cond_true, e1, some_bind, e2, bindC_def]
theorem setS_val (hK : 2000 ≤ K) {vals : List LValue} {la rl : List Int} (hv : vals.length = rl.length) (hl : la.length = rl.length) (hr : rl.length ≤ 1000) {d : Nat} (hd : d < rl.length) (x : VV) (site : Int) :
    state_Set.f K true vals (LA la) ((d : Nat) : Int) (sg x.s) x.kb x.kn x.lo x.hi (sg x.p) site = some (vals.set d x.enc, LA (la.set d site)) := by
  unfold state_Set.f
  have e1 : d < vals.length := by omega
  have e2 : d < (LA la).length := by rw [LA_len]; omega
  simp only [(copy_val hK (vals := vals) (la := la) (by omega) (by omega)).2, some_bind, hasR_val (K := K) hv hl hd, cond_true, ge0', Int.toNat_natCast, blt_of e1, blt_of e2, List.getElem?_eq_getElem e1, List.getElem?_eq_getElem e2, LA_set]
  rfl
theorem branchS_val (hK : 2000 ≤ K) {vals : List LValue} {la rl : List Int} (hv : Vals vals rl) (hl : la.length = rl.length) (hr : rl.length ≤ 1000) {d : Nat} {n : Int} (hn : rl[d]? = some n) :
    ∃ vals', state_Branch.f K true vals (LA la) ((d : Nat) : Int) (n != 0) = some (true, vals', LA la) ∧ Vals vals' rl := by
  have hd := (List.getElem?_eq_some_iff.1 hn).1
  obtain ⟨x, h1, g⟩ := hv.2 d n hn
  obtain ⟨b1, b2⟩ := branch_good g
  have e1 : d < vals.length := by rw [hv.1]; exact hd
  refine ⟨vals.set d (branch x (n != 0)).1.enc, ?_, ?_⟩
  · unfold state_Branch.f
    have bv : fact_Branch.f K x.enc.1 x.enc.2.1.1 x.enc.2.1.2 x.enc.2.2.1.1 x.enc.2.2.1.2 x.enc.2.2.2 (n != 0) = some (out (branch x (n != 0))) := branch_Val (K := K) g.ok (n != 0)
    have o7 : (out (branch x (n != 0))).2.2.2.2.2.2 = true := b1
    simp only [(copy_val hK (vals := vals) (la := la) (by rw [hv.1]; omega) (by omega)).2, some_bind, hasR_val (K := K) hv.1 hl hd, Bool.not_true, cond_false, ge0, ge0', cond_true, Int.toNat_natCast, h1, bv, o7, blt_of e1]
    rfl
  · have := hv.set (d := d) b2
    rwa [set_same hn] at this
theorem bitsHas_one (hK : 2000 ≤ K) (v : Int) : bits_Has.f K [v] v = some true := by
  rw [has_val hK (by simp) (List.pairwise_singleton _ _)]; simp
theorem has_l0 {vals : List LValue} {rl : List Int} (hv : Vals vals rl) (hr : rl.length ≤ 1000) : ∀ (l2 l1 : List Int) (k : Nat), rl = l1 ++ l2 → l2.length < k → state_Has.l0.f K k rl ((rl.length : Nat) : Int) ((l1.length : Nat) : Int) vals = some (.inl ())
  | l2, l1, 0, h, hk => by omega
  | [], l1, k + 1, h, hk => by
    rw [state_Has.l0.f]
    simp only [lt_end h, cond_false]
  | n :: l2, l1, k + 1, h, hk => by
    rw [state_Has.l0.f]
    have hl1 : l1.length ≤ 1000 := by rw [h] at hr; simp at hr; omega
    obtain ⟨x, h1, g⟩ := hv.2 l1.length n (by rw [h]; simp)
    have hv2 : fact_Has.f K x.enc.1 x.enc.2.1.1 x.enc.2.1.2 x.enc.2.2.1.1 x.enc.2.2.1.2 x.enc.2.2.2 n = some true := (Has_val (K := K) g.ok.toWk n).trans (congrArg some (Has_of g.has))
    have a1 : rl[l1.length]? = some n := by rw [h]; simp
    simp only [lt_mid h, ge0, a1, cond_true, some_bind, Int.toNat_natCast, h1, hv2, Bool.not_true, cond_false, wrap_next (l1 := l1) (x := n) (by omega)]
    exact has_l0 hv hr l2 (l1 ++ [n]) k (mid_next h) (by simp at hk; omega)
theorem has_l1 (hK : 2000 ≤ K) {la : List Int} (hr : la.length ≤ 1000) : ∀ (l2 l1 : List Int) (k : Nat), la = l1 ++ l2 → l2.length < k → state_Has.l1.f K k la ((la.length : Nat) : Int) ((l1.length : Nat) : Int) (LA la) = some (.inl ())
  | l2, l1, 0, h, hk => by omega
  | [], l1, k + 1, h, hk => by
    rw [state_Has.l1.f]
    simp only [lt_end h, cond_false]
  | n :: l2, l1, k + 1, h, hk => by
    rw [state_Has.l1.f]
    have hl1 : l1.length ≤ 1000 := by rw [h] at hr; simp at hr; omega
    have e2 : (LA la)[l1.length]? = some [n] := LA_get (by rw [h]; simp)
    have a1 : la[l1.length]? = some n := by rw [h]; simp
    simp only [lt_mid h, ge0, a1, cond_true, some_bind, Int.toNat_natCast, e2, bitsHas_one hK, Bool.not_true, cond_false, wrap_next (l1 := l1) (x := n) (by omega)]
    exact has_l1 hK hr l2 (l1 ++ [n]) k (mid_next h) (by simp at hk; omega)
theorem hasS_val (hK : 2000 ≤ K) {vals : List LValue} {la rl : List Int} (hv : Vals vals rl) (hl : la.length = rl.length) (hr : rl.length ≤ 1000) : state_Has.f K true vals (LA la) rl la = some true := by
  have z0 : state_Has.l0.f K K rl ((rl.length : Nat) : Int) (0 : Int) vals = some (.inl ()) := has_l0 hv hr rl [] K rfl (by omega)
  have z1 : state_Has.l1.f K K la ((la.length : Nat) : Int) (0 : Int) (LA la) = some (.inl ()) := has_l1 hK (by omega) la [] K rfl (by omega)
  unfold state_Has.f
  have e1 : (((rl.length : Nat) : Int) != ((vals.length : Nat) : Int)) = false := by rw [hv.1]; simp
  have e2 : (((la.length : Nat) : Int) != (((LA la).length : Nat) : Int)) = false := by rw [LA_len]; simp
  simp only [Bool.not_true, cond_false, e1, e2, bindC_def, some_bind, z0, z1, Sum.elim_inl]
def Does (K : Nat) (rl : List Int) (I : LInsn) (n : Int) : Prop :=
  (I.1 = 1 ∧ n = I.2.2.2.2.1) ∨ (I.1 = 2 ∧ rl[I.2.2.1.toNat]? = some n) ∨ (I.1 = 3 ∧ ∃ v, rl[I.2.2.1.toNat]? = some v ∧ n = IntKind.i64.wrap (0 - v)) ∨ (I.1 = 13 ∨ I.1 = 15 ∨ I.1 = 17) ∨
    (4 ≤ I.1 ∧ I.1 ≤ 12 ∧ ∃ u v, rl[I.2.2.1.toNat]? = some u ∧ rl[I.2.2.2.1.toNat]? = some v ∧ vm_Arith.f K I.1 u v = some (n, true))
def anyS (s : LSum) : Prop := s.2.2.1 = true ∧ s.2.2.2 = anyVV.enc
theorem envV_val (hK : 2000 ≤ K) {nc : Nat} {ar : List Int} {regs : Int} {ec : List LValue} {es : List LSum} {vals : List LValue} {rl : List Int} {I : LInsn} {n : Int} (hok : okInsn nc ar regs I) (hreg : ((rl.length : Nat) : Int) = regs) (hec : ec = List.replicate nc anyVV.enc) (hes : es.length = ar.length ∧ ∀ s ∈ es, anyS s)
    (hv : Vals vals rl) (hfit : ∀ v ∈ rl, fit64 v) (hn : fit64 n) (hd : Does K rl I n) : ∃ y : VV, flow_Env_value.f K ec es I.1 I.2.2.1 I.2.2.2.1 I.2.2.2.2.1 vals = some (sg y.s, y.kb, y.kn, y.lo, y.hi, sg y.p, true) ∧ Good y n := by
  obtain ⟨op, d, a, b, m, args⟩ := I
  obtain ⟨⟨o1, o2⟩, kd, ka, kb, kn, kg⟩ := hok
  unfold Does at hd
  dsimp only at *
  have anyR : ∀ x : VV, x = anyVV → Good x n := fun x hx => hx ▸ any_good hn
  rcases hd with ⟨rfl, rfl⟩ | ⟨rfl, h⟩ | ⟨rfl, v, h, rfl⟩ | h | ⟨h4, h12, u, v, hu, hv2, har⟩
  · refine ⟨Of n, ?_, of_good hn⟩
    unfold flow_Env_value.f
    rw [show ((1 : Int) == 1) = true from rfl, cond_true, Of_val, some_bind]; rfl
  · rw [if_pos (show usesA 2 = true from rfl)] at ka
    unfold reg at ka
    obtain ⟨x, h1, g⟩ := hv.2 _ n h
    obtain ⟨b1, b2⟩ := move_good g
    refine ⟨(one 2 x).1, ?_, b2⟩
    unfold flow_Env_value.f
    have a0 : (decide ((0 : Int) ≤ a) && true) = true := by simp; omega
    have bv : fact_One.f K 2 x.enc.1 x.enc.2.1.1 x.enc.2.1.2 x.enc.2.2.1.1 x.enc.2.2.1.2 x.enc.2.2.2 = some (out (one 2 x)) := one_Val (K := K) 2 g.ok g.fit
    simp only [show ((2 : Int) == 1) = false from rfl, show ((2 : Int) == 2) = true from rfl, cond_true, cond_false, a0, h1, some_bind, bv]
    unfold out; rw [b1]; rfl
  · rw [if_pos (show usesA 3 = true from rfl)] at ka
    unfold reg at ka
    obtain ⟨x, h1, g⟩ := hv.2 _ v h
    obtain ⟨b1, b2⟩ := neg_good (hfit v (List.mem_of_getElem? h)) g
    refine ⟨(one 3 x).1, ?_, b2⟩
    unfold flow_Env_value.f
    have a0 : (decide ((0 : Int) ≤ a) && true) = true := by simp; omega
    have bv : fact_One.f K 3 x.enc.1 x.enc.2.1.1 x.enc.2.1.2 x.enc.2.2.1.1 x.enc.2.2.1.2 x.enc.2.2.2 = some (out (one 3 x)) := one_Val (K := K) 3 g.ok g.fit
    simp only [show ((3 : Int) == 1) = false from rfl, show ((3 : Int) == 2) = false from rfl, show ((3 : Int) == 3) = true from rfl, cond_true, cond_false, a0, h1, some_bind, bv]
    unfold out; rw [b1]; rfl
  · refine ⟨anyVV, ?_, any_good hn⟩
    unfold flow_Env_value.f
    rcases h with rfl | rfl | rfl
    · rw [if_neg (by decide), if_pos (.inl rfl)] at kb
      unfold reg at kb
      have b0 : (decide ((0 : Int) ≤ b) && true) = true := by simp; omega
      have hb : ec[b.toNat]? = some anyVV.enc := by rw [hec, List.getElem?_replicate, if_pos (by omega)]
      simp only [show ((13 : Int) == 1) = false from rfl, show ((13 : Int) == 2) = false from rfl, show ((13 : Int) == 3) = false from rfl, show ((13 : Int) == 15) = false from rfl, show ((13 : Int) == 13) = true from rfl, cond_true, cond_false, b0, hb, some_bind]
      rfl
    · rfl
    · rw [if_neg (by decide), if_neg (by decide), if_pos rfl] at kb
      unfold reg at kb
      have b0 : (decide ((0 : Int) ≤ b) && true) = true := by simp; omega
      have hlt : b.toNat < es.length := by omega
      obtain ⟨s1, s2⟩ := hes.2 _ (List.getElem_mem hlt)
      simp only [show ((17 : Int) == 1) = false from rfl, show ((17 : Int) == 2) = false from rfl, show ((17 : Int) == 3) = false from rfl, show ((17 : Int) == 15) = false from rfl, show ((17 : Int) == 13) = false from rfl, show ((17 : Int) == 17) = true from rfl, cond_true, cond_false, b0, List.getElem?_eq_getElem hlt, some_bind, s1, s2]
      rfl
  · have uA : usesA op = true := by unfold usesA; simp; omega
    have uB : usesB op = true := by unfold usesB; simp; omega
    rw [if_pos uA] at ka
    rw [if_pos uB] at kb
    unfold reg at ka kb
    obtain ⟨x, h1, g⟩ := hv.2 _ u hu
    obtain ⟨y, h2, g2⟩ := hv.2 _ v hv2
    obtain ⟨b1, b2⟩ := two_good (hfit u (List.mem_of_getElem? hu)) (hfit v (List.mem_of_getElem? hv2)) g g2 har
    refine ⟨(two op x y).1, ?_, b2⟩
    unfold flow_Env_value.f
    have a0 : (decide ((0 : Int) ≤ a) && true) = true := by simp; omega
    have b0 : (decide ((0 : Int) ≤ b) && true) = true := by simp; omega
    have bv : fact_Two.f K op x.enc.1 x.enc.2.1.1 x.enc.2.1.2 x.enc.2.2.1.1 x.enc.2.2.1.2 x.enc.2.2.2 y.enc.1 y.enc.2.1.1 y.enc.2.1.2 y.enc.2.2.1.1 y.enc.2.2.1.2 y.enc.2.2.2 = some (out (two op x y)) := two_Val (K := K) hK op g.ok g2.ok g.fit g2.fit
    have n1 : (op == 1) = false := beq_eq_false_iff_ne.2 (by omega)
    have n2 : (op == 2) = false := beq_eq_false_iff_ne.2 (by omega)
    have n3 : (op == 3) = false := beq_eq_false_iff_ne.2 (by omega)
    have n15 : (op == 15) = false := beq_eq_false_iff_ne.2 (by omega)
    have n13 : (op == 13) = false := beq_eq_false_iff_ne.2 (by omega)
    have n17 : (op == 17) = false := beq_eq_false_iff_ne.2 (by omega)
    simp only [n1, n2, n3, n15, n13, n17, cond_true, cond_false, a0, b0, h1, h2, some_bind, bv]
    unfold out; rw [b1]; rfl
theorem needs_l0 {regs : Int} {vals : List LValue} {l : List Int} (hl : l.length ≤ 1000) (hr : ((vals.length : Nat) : Int) = regs) (ha : ∀ v ∈ l, reg regs v) : ∀ (l2 l1 : List Int) (k : Nat) (acc : List LValue), l = l1 ++ l2 → l2.length < k → acc.length = l1.length → ∃ r, flow_needs.l0.f K k l ((l.length : Nat) : Int) ((l1.length : Nat) : Int) vals acc = some r
  | l2, l1, 0, acc, h, hk, hacc => by omega
  | [], l1, k + 1, acc, h, hk, hacc => by
    rw [flow_needs.l0.f]
    simp only [lt_end h, cond_false]
    exact ⟨_, rfl⟩
  | x :: l2, l1, k + 1, acc, h, hk, hacc => by
    rw [flow_needs.l0.f]
    have hl1 : l1.length ≤ 1000 := by rw [h] at hl; simp at hl; omega
    have hx := ha x (by rw [h]; simp)
    unfold reg at hx
    have x0 : (decide ((0 : Int) ≤ x) && true) = true := by simp; omega
    have hlt : x.toNat < vals.length := by omega
    have e4 : Nat.ble (acc.length + [(vals[x.toNat].1, (vals[x.toNat].2.1.1, vals[x.toNat].2.1.2), (vals[x.toNat].2.2.1.1, vals[x.toNat].2.2.1.2), vals[x.toNat].2.2.2)].length) 100000 = true := Nat.ble_eq_true_of_le (by simp; omega)
    simp only [lt_mid h, ge0, at_mid h, cond_true, some_bind, x0, List.getElem?_eq_getElem hlt, e4, wrap_next (l1 := l1) (x := x) (by omega)]
    exact needs_l0 hl hr ha l2 (l1 ++ [x]) k _ (mid_next h) (by simp at hk; omega) (by simp [hacc])
theorem needs_val (hK : 2000 ≤ K) {nc : Nat} {ar : List Int} {regs : Int} {vals : List LValue} {I : LInsn} (hok : okInsn nc ar regs I) (har : ∀ v ∈ ar, v ≤ 4) (hr : ((vals.length : Nat) : Int) = regs) (i : Int) : ∃ r, flow_needs.f K I.1 I.2.2.1 I.2.2.2.1 I.2.2.2.2.2 i vals = some r := by
  have hargs := argsLen hok har
  obtain ⟨op, d, a, b, m, args⟩ := I
  obtain ⟨⟨o1, o2⟩, kd, ka, kb, kn, kg⟩ := hok
  dsimp only at *
  unfold flow_needs.f
  by_cases h14 : op = 14
  · subst h14
    rw [if_pos (show usesA 14 = true from rfl)] at ka
    unfold reg at ka
    have a0 : (decide ((0 : Int) ≤ a) && true) = true := by simp; omega
    have hlt : a.toNat < vals.length := by omega
    simp only [show ((14 : Int) == 14) = true from rfl, cond_true, a0, List.getElem?_eq_getElem hlt, some_bind]
    exact ⟨_, rfl⟩
  by_cases h17 : op = 17
  · subst h17
    rw [if_pos rfl] at kg
    obtain ⟨r, hr2⟩ := needs_l0 (K := K) (vals := vals) (l := args) (by omega) hr kg args [] K [] rfl (by omega) rfl
    have hr2' : flow_needs.l0.f K K args ((args.length : Nat) : Int) (0 : Int) vals [] = some r := hr2
    simp only [show ((17 : Int) == 14) = false from rfl, show ((17 : Int) == 17) = true from rfl, cond_true, cond_false, hr2', some_bind]
    exact ⟨_, rfl⟩
  · simp only [beq_eq_false_iff_ne.2 h14, beq_eq_false_iff_ne.2 h17, cond_false]
    exact ⟨_, rfl⟩
theorem insnS_val (hK : 2000 ≤ K) {fs : List LFunc} (hl : fs.length ≤ 1000) (hsm : ∀ f ∈ fs, small f) {nc : Nat} (har : ∀ v ∈ arities fs [], v ≤ 4) {p b i : Nat} {F : LFunc} {B : LBlock} {I : LInsn} (hF : fs[p]? = some F) (hB : F.2.2.2[b]? = some B) (hI : B.1[i]? = some I)
    (hok : okInsn nc (arities fs []) F.2.2.1 I) {ec : List LValue} {es : List LSum} (hec : ec = List.replicate nc anyVV.enc) (hes : es.length = (arities fs []).length ∧ ∀ s ∈ es, anyS s) {vals : List LValue} {la rl : List Int} (hv : Vals vals rl) (hla : la.length = rl.length) (hreg : ((rl.length : Nat) : Int) = F.2.2.1) (hfit : ∀ v ∈ rl, fit64 v) :
    (usesD I.1 = false → ∃ nd, flow_Insn.f K fs ec es ((p : Nat) : Int) ((b : Nat) : Int) ((i : Nat) : Int) true vals (LA la) = some (true, vals, LA la, nd)) ∧
    (usesD I.1 = true → ∀ n, fit64 n → Does K rl I n → ∃ nd vals', flow_Insn.f K fs ec es ((p : Nat) : Int) ((b : Nat) : Int) ((i : Nat) : Int) true vals (LA la) = some (true, vals', LA (la.set I.2.1.toNat ((fsN (fs.take p) + F.2.2.1.toNat + bsN (F.2.2.2.take b) + sets (B.1.take i) : Nat) : Int)), nd) ∧ Vals vals' (rl.set I.2.1.toNat n)) := by
  have lp := (List.getElem?_eq_some_iff.1 hF).1
  have lb := (List.getElem?_eq_some_iff.1 hB).1
  have li := (List.getElem?_eq_some_iff.1 hI).1
  have sm := hsm F (List.mem_of_getElem? hF)
  have hr := sm.regs
  have hnb := sm.blocks
  obtain ⟨q, qo⟩ := sm.each B (List.mem_of_getElem? hB)
  have hop := qo I (List.mem_of_getElem? hI)
  obtain ⟨s, s1, s2⟩ := site_val hK hl hsm hF hB hI
  obtain ⟨nd, hnd⟩ := needs_val (K := K) hK (vals := vals) hok har (by rw [hv.1]; exact hreg) ((i : Nat) : Int)
  have w1 : decide (((p : Nat) : Int) < 0) = false := by simp
  have w2 : decide (((p : Nat) : Int) ≥ ((fs.length : Nat) : Int)) = false := by simp; omega
  have w3 : decide (((b : Nat) : Int) < 0) = false := by simp
  have w4 : decide (((b : Nat) : Int) ≥ ((F.2.2.2.length : Nat) : Int)) = false := by simp; omega
  have w5 : decide (((i : Nat) : Int) < 0) = false := by simp
  have w6 : decide (((i : Nat) : Int) ≥ ((B.1.length : Nat) : Int)) = false := by simp; omega
  have cp := (copy_val hK (vals := vals) (la := la) (by rw [hv.1]; omega) (by omega)).1
  have start : flow_Insn.f K fs ec es ((p : Nat) : Int) ((b : Nat) : Int) ((i : Nat) : Int) true vals (LA la) = (flow_Env_behind.f K ec es I.1 I.2.1 I.2.2.1 I.2.2.2.1 I.2.2.2.2.1 s true vals (LA la)).bind fun t_5 => some (t_5.1, t_5.2.1, t_5.2.2, nd) := by
    unfold flow_Insn.f flow_Env_block.f
    simp only [w1, w2, w3, w4, w5, w6, bindC_def, some_bind, cond_false, cond_true, Bool.not_true, ge0, Int.toNat_natCast, hF, hB, hI, s1, cp, hnd]
  constructor
  · intro hu
    refine ⟨nd, ?_⟩
    rw [start]
    unfold flow_Env_behind.f
    simp only [sets_val (K := K) (d := I.2.1) hop, hu, cond_false, some_bind, Bool.not_false, cond_true]
  · intro hu n hn hd
    have kd := hok.d
    rw [if_pos hu] at kd
    unfold reg at kd
    obtain ⟨y, y1, y2⟩ := envV_val hK hok hreg hec hes hv hfit hn hd
    obtain ⟨dn, hdn⟩ : ∃ dn : Nat, I.2.1 = dn := ⟨I.2.1.toNat, by omega⟩
    have hdl : dn < rl.length := by omega
    refine ⟨nd, vals.set I.2.1.toNat y.enc, ?_, hv.set y2⟩
    rw [start]
    unfold flow_Env_behind.f
    simp only [sets_val (K := K) (d := I.2.1) hop, hu, cond_false, some_bind, Bool.not_true, cond_true, y1]
    rw [hdn, setS_val hK hv.1 hla (by omega) hdl y s, s2 hu, some_bind, some_bind, Int.toNat_natCast]
end Go.Proofs.YtdjkdmjdcdljmaaGreat.AT
