/- A function whose blocks are laid in another order. No condition beside those stated. -/
import Derived.Test.YtdjkdmjdcdljmaaGreatRp

namespace Go.Proofs.YtdjkdmjdcdljmaaGreat.AR
open Go.Proofs.YtdjkdmjdcdljmaaGreatX
set_option linter.unusedVariables false
set_option linter.unusedSimpArgs false
set_option maxRecDepth 100000
set_option maxHeartbeats 4000000
variable {K : Nat}

theorem nodup_len {α : Type} [DecidableEq α] : ∀ {l1 l2 : List α}, l1.Nodup → (∀ x ∈ l1, x ∈ l2) → l1.length ≤ l2.length
  | [], l2, _, _ => by simp
  | x :: l1, l2, h, hs => by
    rw [List.nodup_cons] at h
    have hx := hs x (by simp)
    have := nodup_len (l1 := l1) (l2 := l2.erase x) h.2 fun y hy => by
      have hne : y ≠ x := fun e => h.1 (e ▸ hy)
      exact (List.mem_erase_of_ne hne).2 (hs y (by simp [hy]))
    rw [List.length_erase_of_mem hx] at this
    have : 0 < l2.length := List.length_pos_of_mem hx
    simp only [List.length_cons]
    omega
theorem nodup_at {α : Type} {l : List α} (h : l.Nodup) {i j : Nat} {x : α} (hi : l[i]? = some x) (hj : l[j]? = some x) : i = j :=
  (List.getElem?_inj (List.getElem?_eq_some_iff.1 hi).1 h).1 (hi.trans hj.symm)
theorem relaid_l0 (hK : 2000 ≤ K) {s : List Int} {n : Nat} (hn : n ≤ 12) (hsl : s.length ≤ 1000) (hs : s.Pairwise (· ≤ ·)) : ∀ (m i k : Nat) (acc : List Int), n - i ≤ m → m < k → i ≤ n → acc.length + (n - i) ≤ 1000 →
    ∃ U, cfg_Relaid.l0.f K k s ((n : Nat) : Int) ((i : Nat) : Int) acc = some (acc ++ U) ∧ U.Nodup ∧ ∀ v : Int, v ∈ U ↔ (∃ b : Nat, v = ((b : Nat) : Int) ∧ i ≤ b ∧ b < n) ∧ v ∉ s
  | m, i, 0, acc, h, hk, hi, ha => by omega
  | m, i, k + 1, acc, h, hk, hi, ha => by
    rw [cfg_Relaid.l0.f]
    by_cases hlt : i < n
    · have e : decide (((i : Nat) : Int) < ((n : Nat) : Int)) = true := by simp; omega
      have w : IntKind.i64.wrap (((i : Nat) : Int) + (1 : Int)) = ((i + 1 : Nat) : Int) := by rw [wrap64_of (by omega) (by omega)]; simp
      simp only [e, cond_true, has_val hK hsl hs, some_bind, w]
      by_cases hm : ((i : Nat) : Int) ∈ s
      · simp only [decide_eq_true hm, Bool.not_true, cond_false]
        obtain ⟨U, h1, h2, h3⟩ := relaid_l0 hK hn hsl hs (m - 1) (i + 1) k acc (by omega) (by omega) (by omega) (by omega)
        refine ⟨U, h1, h2, fun v => ?_⟩
        rw [h3]
        constructor
        · rintro ⟨⟨b, rfl, q1, q2⟩, q3⟩
          exact ⟨⟨b, rfl, by omega, q2⟩, q3⟩
        · rintro ⟨⟨b, rfl, q1, q2⟩, q3⟩
          have : b ≠ i := fun e => q3 (e ▸ hm)
          exact ⟨⟨b, rfl, by omega, q2⟩, q3⟩
      · have e4 : Nat.ble (acc.length + [((i : Nat) : Int)].length) 100000 = true := Nat.ble_eq_true_of_le (by simp; omega)
        simp only [decide_eq_false hm, Bool.not_false, cond_true, e4]
        obtain ⟨U, h1, h2, h3⟩ := relaid_l0 hK hn hsl hs (m - 1) (i + 1) k (acc ++ [((i : Nat) : Int)]) (by omega) (by omega) (by omega) (by simp; omega)
        rw [h1]
        refine ⟨((i : Nat) : Int) :: U, by simp, List.nodup_cons.2 ⟨fun hU => ?_, h2⟩, fun v => ?_⟩
        · obtain ⟨⟨b, q0, q1, q2⟩, q3⟩ := (h3 _).1 hU
          omega
        · rw [List.mem_cons, h3]
          constructor
          · rintro (rfl | ⟨⟨b, rfl, q1, q2⟩, q3⟩)
            · exact ⟨⟨i, rfl, Nat.le_refl _, hlt⟩, hm⟩
            · exact ⟨⟨b, rfl, by omega, q2⟩, q3⟩
          · rintro ⟨⟨b, rfl, q1, q2⟩, q3⟩
            by_cases hb : b = i
            · exact .inl (by rw [hb])
            · exact .inr ⟨⟨b, rfl, by omega, q2⟩, q3⟩
    · have e : decide (((i : Nat) : Int) < ((n : Nat) : Int)) = false := by simp; omega
      simp only [e, cond_false]
      refine ⟨[], by simp, List.nodup_nil, fun v => ⟨fun h => by simp at h, ?_⟩⟩
      rintro ⟨⟨b, _, q1, q2⟩, _⟩
      omega
theorem relaid_l1 {l : List Int} {n : Nat} (hn : n ≤ 12) (hln : l.length = n) (hnd : l.Nodup) (hr : ∀ v ∈ l, ∃ b : Nat, v = ((b : Nat) : Int) ∧ b < n) : ∀ (L2 L1 : List Int) (k : Nat) (p : List Int), l = L1 ++ L2 → L2.length < k → p.length = n → (∀ (i b : Nat), i < L1.length → l[i]? = some ((b : Nat) : Int) → p[b]? = some ((i : Nat) : Int)) →
    ∃ p', cfg_Relaid.l1.f K k ((n : Nat) : Int) ((L1.length : Nat) : Int) l p = some p' ∧ p'.length = n ∧ ∀ (i b : Nat), l[i]? = some ((b : Nat) : Int) → p'[b]? = some ((i : Nat) : Int)
  | L2, L1, 0, p, h, hk, hp, hi => by omega
  | [], L1, k + 1, p, h, hk, hp, hi => by
    rw [cfg_Relaid.l1.f]
    have hh : L1.length = n := by rw [← hln, h]; simp
    have e : decide (((L1.length : Nat) : Int) < ((n : Nat) : Int)) = false := by simp; omega
    simp only [e, cond_false]
    exact ⟨p, rfl, hp, fun i b hb => hi i b (by have := (List.getElem?_eq_some_iff.1 hb).1; omega) hb⟩
  | x :: L2, L1, k + 1, p, h, hk, hp, hi => by
    rw [cfg_Relaid.l1.f]
    obtain ⟨b, rfl, hb⟩ := hr x (by rw [h]; simp)
    have hh : L1.length + 1 + L2.length = n := by rw [← hln, h]; simp; omega
    have e : decide (((L1.length : Nat) : Int) < ((n : Nat) : Int)) = true := by simp; omega
    have a1 : l[L1.length]? = some ((b : Nat) : Int) := by rw [h]; simp
    have hbp : b < p.length := by omega
    simp only [e, cond_true, ge0', Int.toNat_natCast, blt_of (show L1.length < l.length by omega), a1, some_bind, blt_of hbp, List.getElem?_eq_getElem hbp, wrap_next (l1 := L1) (x := ((b : Nat) : Int)) (by omega)]
    refine relaid_l1 hn hln hnd hr L2 (L1 ++ [((b : Nat) : Int)]) k (p.set b ((L1.length : Nat) : Int)) (mid_next h) (by simp at hk; omega) (by simpa using hp) fun i c hic hc => ?_
    by_cases hcb : c = b
    · subst hcb
      have := nodup_at hnd hc a1
      subst this
      simp [hbp]
    · rw [List.getElem?_set_ne (fun e => hcb e.symm)]
      refine hi i c ?_ hc
      have : i ≠ L1.length := fun e => by
        subst e
        rw [a1] at hc
        simp at hc
        omega
      simp at hic
      omega
/-- An end in the new order. -/
def relP (p : List Int) (e : LEnd) : LEnd := if e.1 = 2 then (e.1, e.2.1, p.getD e.2.2.1.toNat 0, p.getD e.2.2.2.toNat 0) else if e.1 = 1 then (e.1, e.2.1, p.getD e.2.2.1.toNat 0, e.2.2.2) else e
theorem relaid_l2 {l p : List Int} {bs : List LBlock} {regs : Int} (hn : bs.length ≤ 12) (hln : l.length = bs.length) (hpl : p.length = bs.length) (hr : ∀ v ∈ l, ∃ b : Nat, v = ((b : Nat) : Int) ∧ b < bs.length) (hok : ∀ b ∈ bs, okEnd regs bs.length b.2) : ∀ (L2 L1 : List Int) (k : Nat) (nb : List LBlock), l = L1 ++ L2 → L2.length < k → nb.length = bs.length → (∀ (i b : Nat) B, i < L1.length → l[i]? = some ((b : Nat) : Int) → bs[b]? = some B → nb[i]? = some (B.1, relP p B.2)) →
    ∃ nb', cfg_Relaid.l2.f K k ((bs.length : Nat) : Int) ((L1.length : Nat) : Int) p bs nb l = some nb' ∧ nb'.length = bs.length ∧ ∀ (i b : Nat) B, l[i]? = some ((b : Nat) : Int) → bs[b]? = some B → nb'[i]? = some (B.1, relP p B.2)
  | L2, L1, 0, nb, h, hk, hp, hi => by omega
  | [], L1, k + 1, nb, h, hk, hp, hi => by
    rw [cfg_Relaid.l2.f]
    have hh : L1.length = bs.length := by rw [← hln, h]; simp
    have e : decide (((L1.length : Nat) : Int) < ((bs.length : Nat) : Int)) = false := by simp; omega
    simp only [e, cond_false]
    exact ⟨nb, rfl, hp, fun i b B hb hB => hi i b B (by have := (List.getElem?_eq_some_iff.1 hb).1; omega) hb hB⟩
  | x :: L2, L1, k + 1, nb, h, hk, hp, hi => by
    rw [cfg_Relaid.l2.f]
    obtain ⟨b, rfl, hb⟩ := hr x (by rw [h]; simp)
    have hh : L1.length + 1 + L2.length = bs.length := by rw [← hln, h]; simp; omega
    have e : decide (((L1.length : Nat) : Int) < ((bs.length : Nat) : Int)) = true := by simp; omega
    have a1 : l[L1.length]? = some ((b : Nat) : Int) := by rw [h]; simp
    have hB := List.getElem?_eq_getElem hb
    have ok := hok _ (List.getElem_mem hb)
    have hnb : L1.length < nb.length := by omega
    have ih := fun nb' (hnb' : nb'.length = bs.length) hi' => relaid_l2 hn hln hpl hr hok L2 (L1 ++ [((b : Nat) : Int)]) k nb' (mid_next h) (by simp at hk; omega) hnb' hi'
    have step : ∀ E : LEnd, E = relP p bs[b].2 → ∃ nb', cfg_Relaid.l2.f K k ((bs.length : Nat) : Int) (((L1 ++ [((b : Nat) : Int)]).length : Nat) : Int) p bs (nb.set L1.length (bs[b].1, E)) l = some nb' ∧ nb'.length = bs.length ∧ ∀ (i b : Nat) B, l[i]? = some ((b : Nat) : Int) → bs[b]? = some B → nb'[i]? = some (B.1, relP p B.2) := by
      intro E hE
      subst hE
      refine ih _ (by simpa using hp) fun i c B hic hc hcB => ?_
      by_cases hiL : i = L1.length
      · subst hiL
        rw [a1] at hc
        have : b = c := by simp only [Option.some.injEq] at hc; omega
        subst this
        rw [hB] at hcB
        cases hcB
        simp [hnb]
      · rw [List.getElem?_set_ne (fun e => hiL e.symm)]
        exact hi i c B (by simp at hic; omega) hc hcB
    obtain ⟨op, oa, ot, oe⟩ := ok
    simp only [e, cond_true, ge0', Bool.and_true, Int.toNat_natCast, blt_of (show L1.length < l.length by omega), a1, some_bind, hB, blt_of hnb, List.getElem?_eq_getElem hnb, wrap_next (l1 := L1) (x := ((b : Nat) : Int)) (by omega)]
    by_cases h2 : bs[b].2.1 = 2
    · rw [if_neg (by omega)] at ot
      rw [if_pos h2] at oe
      unfold reg at ot oe
      have t1 : bs[b].2.2.2.1.toNat < p.length := by omega
      have t2 : bs[b].2.2.2.2.toNat < p.length := by omega
      have b2 : (bs[b].2.1 == 2) = true := by simp [h2]
      simp only [b2, cond_true, decide_eq_true ot.1, decide_eq_true oe.1, blt_of t1, blt_of t2, List.getElem?_eq_getElem t1, List.getElem?_eq_getElem t2, some_bind]
      refine step _ ?_
      unfold relP
      rw [if_pos h2]
      simp [List.getD, List.getElem?_eq_getElem t1, List.getElem?_eq_getElem t2]
    · have b2 : (bs[b].2.1 == 2) = false := beq_eq_false_iff_ne.2 h2
      by_cases h1 : bs[b].2.1 = 1
      · rw [if_neg (by omega)] at ot
        unfold reg at ot
        have t1 : bs[b].2.2.2.1.toNat < p.length := by omega
        have b1 : (bs[b].2.1 == 1) = true := by simp [h1]
        simp only [b1, b2, cond_true, cond_false, decide_eq_true ot.1, blt_of t1, List.getElem?_eq_getElem t1, some_bind]
        refine step _ ?_
        unfold relP
        rw [if_neg h2, if_pos h1]
        simp [List.getD, List.getElem?_eq_getElem t1]
      · have b1 : (bs[b].2.1 == 1) = false := beq_eq_false_iff_ne.2 h1
        simp only [b1, b2, cond_false]
        refine step _ ?_
        unfold relP
        rw [if_neg h2, if_neg h1]
/-- The function in the other order: where each block stands. -/
structure Laid (f f' : LFunc) (p : List Int) : Prop where
  name : f'.1 = f.1
  arity : f'.2.1 = f.2.1
  regs : f'.2.2.1 = f.2.2.1
  len : f'.2.2.2.length = f.2.2.2.length
  plen : p.length = f.2.2.2.length
  zero : p[0]? = some 0
  place : ∀ b : Nat, b < f.2.2.2.length → ∃ i : Nat, p[b]? = some ((i : Nat) : Int) ∧ i < f.2.2.2.length ∧ ∀ B, f.2.2.2[b]? = some B → f'.2.2.2[i]? = some (B.1, relP p B.2)
  onto : ∀ i : Nat, i < f.2.2.2.length → ∃ b : Nat, b < f.2.2.2.length ∧ p[b]? = some ((i : Nat) : Int)
theorem relaid_val (hK : 2000 ≤ K) {f : LFunc} {nc : Nat} {ar : List Int} (ok : okFunc nc ar f) (har : ∀ v ∈ ar, v ≤ 4) : ∃ f' p, cfg_Relaid.f K f.1 f.2.1 f.2.2.1 f.2.2.2 = some f' ∧ Laid f f' p := by
  have hb := ok.blocks
  have hfit : fits [f] := ⟨by simp, fun g hg => by
    simp at hg
    subst hg
    refine ⟨by omega, fun b hb' => ?_⟩
    have okb := ok.each b hb'
    have hl := okb.len
    exact ⟨by omega, fun x hx => by have := argsLen (okb.insns x hx) har; omega⟩⟩
  have hoe : ∀ b ∈ f.2.2.2, okEnd f.2.2.1 f.2.2.2.length b.2 := fun b hb' => (ok.each b hb').fin
  obtain ⟨D, nx, st, bk, g1, g2, g3⟩ := gone_val (K := K) hK hb.1 hb.2 hoe
  have hD0 : (D ++ [0]).length ≤ f.2.2.2.length := by
    have := nodup_len (l1 := D ++ [0]) (l2 := (List.range f.2.2.2.length).map fun i => ((i : Nat) : Int)) g2 (fun x hx => by
      obtain ⟨i, rfl, hi⟩ := g3 x hx
      exact List.mem_map.2 ⟨i, List.mem_range.2 hi, rfl⟩)
    simpa using this
  obtain ⟨s, s1, s2, s3, s4⟩ := sort_val (K := K) hK (l := D ++ [0]) (by omega)
  obtain ⟨U, u1, u2, u3⟩ := relaid_l0 (K := K) hK (s := s) (n := f.2.2.2.length) hb.2 (by omega) s2 f.2.2.2.length 0 K (D ++ [0]).reverse (by omega) (by omega) (by omega) (by simp at *; omega)
  have hl : ∃ l, l = (D ++ [0]).reverse ++ U := ⟨_, rfl⟩
  obtain ⟨l, hl⟩ := hl
  have hmem : ∀ v : Int, v ∈ l ↔ ∃ b : Nat, v = ((b : Nat) : Int) ∧ b < f.2.2.2.length := fun v => by
    rw [hl, List.mem_append, List.mem_reverse, u3]
    constructor
    · rintro (h | ⟨⟨b, rfl, _, h⟩, _⟩)
      · exact g3 v h
      · exact ⟨b, rfl, h⟩
    · rintro ⟨b, rfl, h⟩
      by_cases hm : ((b : Nat) : Int) ∈ D ++ [0]
      · exact .inl hm
      · exact .inr ⟨⟨b, rfl, Nat.zero_le _, h⟩, fun hh => hm ((s4 _).1 hh)⟩
  have hnd : l.Nodup := by
    rw [hl, List.nodup_append]
    refine ⟨List.pairwise_reverse.2 (g2.imp fun h => Ne.symm h), u2, fun a ha b hb' e => ?_⟩
    subst e
    have := ((u3 a).1 hb').2
    exact this ((s4 a).2 (List.mem_reverse.1 ha))
  have hlen : l.length = f.2.2.2.length := by
    have a1 := nodup_len (l1 := l) (l2 := (List.range f.2.2.2.length).map fun i => ((i : Nat) : Int)) hnd (fun x hx => by
      obtain ⟨i, rfl, hi⟩ := (hmem x).1 hx
      exact List.mem_map.2 ⟨i, List.mem_range.2 hi, rfl⟩)
    have a2 := nodup_len (l1 := (List.range f.2.2.2.length).map fun i => ((i : Nat) : Int)) (l2 := l) (List.Pairwise.map _ (fun a b h e => h (by omega)) List.nodup_range) (fun x hx => by
      obtain ⟨i, hi, rfl⟩ := List.mem_map.1 hx
      exact (hmem _).2 ⟨i, rfl, List.mem_range.1 hi⟩)
    simp at a1 a2
    omega
  obtain ⟨p, p1, p2, p3⟩ := relaid_l1 (K := K) (l := l) (n := f.2.2.2.length) hb.2 hlen hnd (fun v hv => (hmem v).1 hv) l [] K (List.replicate f.2.2.2.length 0) rfl (by omega) (by simp) (fun i b hi => by simp at hi)
  obtain ⟨nb, b1, b2, b3⟩ := relaid_l2 (K := K) (l := l) (p := p) (bs := f.2.2.2) (regs := f.2.2.1) hb.2 hlen p2 (fun v hv => (hmem v).1 hv) hoe l [] K (List.replicate f.2.2.2.length ([], 0, 0, 0, 0)) rfl (by omega) (by simp) (fun i b B hi => by simp at hi)
  have l0 : l[0]? = some 0 := by rw [hl]; simp
  have at_ : ∀ b : Nat, b < f.2.2.2.length → ∃ i : Nat, l[i]? = some ((b : Nat) : Int) := fun b hb' => List.mem_iff_getElem?.1 ((hmem _).2 ⟨b, rfl, hb'⟩)
  refine ⟨(f.1, f.2.1, f.2.2.1, nb), p, ?_, ⟨rfl, rfl, rfl, b2, p2, ?_, fun b hb' => ?_, fun i hi => ?_⟩⟩
  · unfold cfg_Relaid.f cfg_Reached.f cfg_Order.f
    have e3 : (decide (((l.length : Nat) : Int) ≤ (100000 : Int)) && ((l.length : Nat) : Int) == ((l.length : Nat) : Int) && true && true && true) = true := by simp; omega
    have u1' : cfg_Relaid.l0.f K K s ((f.2.2.2.length : Nat) : Int) (0 : Int) (D ++ [0]).reverse = some l := by rw [hl]; exact u1
    have cp := copy_one (K := K) hK (f := f) hfit
    have cp' : ir_Copy.f K [] [(f.1, f.2.1, f.2.2.1, f.2.2.2)] [] = some ([], [f], []) := cp
    simp only [g1, some_bind, s1, reverse_val hK (l := D ++ [0]) (by omega), u1', e3, cond_true, hlen, Int.toNat_natCast]
    rw [show cfg_Relaid.l1.f K K ((f.2.2.2.length : Nat) : Int) (0 : Int) l _ = some p from p1]
    simp only [some_bind, cp', List.getElem?_cons_zero]
    have e3' : (decide (((f.2.2.2.length : Nat) : Int) ≤ (100000 : Int)) && ((f.2.2.2.length : Nat) : Int) == ((f.2.2.2.length : Nat) : Int) && true && true && true) = true := by simp; omega
    rw [e3', cond_true, show cfg_Relaid.l2.f K K ((f.2.2.2.length : Nat) : Int) (0 : Int) p f.2.2.2 _ l = some nb from b1]
    rfl
  · have := p3 0 0 l0
    exact this
  · obtain ⟨i, hi⟩ := at_ b hb'
    exact ⟨i, p3 i b hi, by have := (List.getElem?_eq_some_iff.1 hi).1; omega, fun B hB => b3 i b B hi hB⟩
  · obtain ⟨b, e1, e2⟩ := (hmem l[i]).1 (List.getElem_mem (by omega))
    exact ⟨b, e2, p3 i b (by rw [List.getElem?_eq_getElem (by omega), e1])⟩
end Go.Proofs.YtdjkdmjdcdljmaaGreat.AR
