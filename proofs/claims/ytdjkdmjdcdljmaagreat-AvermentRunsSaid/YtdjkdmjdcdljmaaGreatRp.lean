/- Gone through, depth first: which blocks are closed, each once. No condition beside those stated. -/
import Derived.Test.YtdjkdmjdcdljmaaGreatRo

namespace Go.Proofs.YtdjkdmjdcdljmaaGreat.AR
open Go.Proofs.YtdjkdmjdcdljmaaGreatX
set_option linter.unusedVariables false
set_option linter.unusedSimpArgs false
set_option maxRecDepth 100000
set_option maxHeartbeats 4000000
variable {K : Nat}

def tgt (e : LEnd) : List Int := if e.1 = 1 then [e.2.2.1] else if e.1 = 2 ∧ e.2.2.1 = e.2.2.2 then [e.2.2.1] else if e.1 = 2 then [e.2.2.1, e.2.2.2] else []
theorem targets_val (e : LEnd) : ir_Targets.f K e.1 e.2.2.1 e.2.2.2 = some (tgt e) := by
  unfold ir_Targets.f tgt
  by_cases h1 : e.1 = 1
  · simp [h1]
  · have b1 : (e.1 == 1) = false := beq_eq_false_iff_ne.2 h1
    by_cases h2 : e.1 = 2
    · have b2 : (e.1 == 2) = true := by simp [h2]
      by_cases h3 : e.2.2.1 = e.2.2.2
      · have b3 : (e.2.2.1 == e.2.2.2) = true := by simp [h3]
        rw [if_neg h1, if_pos ⟨h2, h3⟩]
        simp only [b1, b2, b3, cond_true, cond_false, bindC_def, some_bind]
      · have b3 : (e.2.2.1 == e.2.2.2) = false := beq_eq_false_iff_ne.2 h3
        rw [if_neg h1, if_neg (fun h => h3 h.2), if_pos h2]
        simp only [b1, b2, b3, cond_true, cond_false, bindC_def, some_bind]
    · have b2 : (e.1 == 2) = false := beq_eq_false_iff_ne.2 h2
      rw [if_neg h1, if_neg (fun h => h2 h.1), if_neg h2]
      simp only [b1, b2, cond_false, bindC_def, some_bind]
theorem tgt_ok {regs : Int} {nb : Nat} {e : LEnd} (h : okEnd regs nb e) : (tgt e).length ≤ 2 ∧ ∀ t ∈ tgt e, 0 ≤ t ∧ t < nb := by
  obtain ⟨op, a, t, el⟩ := h
  unfold tgt
  by_cases h1 : e.1 = 1
  · rw [if_pos h1]
    rw [if_neg (by omega)] at t
    unfold reg at t
    simp; exact t
  · rw [if_neg h1]
    by_cases h2 : e.1 = 2
    · rw [if_neg (by omega)] at t
      rw [if_pos h2] at el
      unfold reg at t el
      split
      · simp; exact t
      · simp; exact ⟨t, el⟩
    · rw [if_neg (by simp [h2]), if_neg h2]
      simp
theorem next_l0 {l : List LBlock} (hl : l.length ≤ 1000) : ∀ (l2 l1 : List LBlock) (k : Nat), l = l1 ++ l2 → l2.length < k → cfg_Next.l0.f K k l ((l.length : Nat) : Int) ((l1.length : Nat) : Int) (l1.map fun b => tgt b.2) = some (l.map fun b => tgt b.2)
  | l2, l1, 0, h, hk => by omega
  | [], l1, k + 1, h, hk => by
    rw [cfg_Next.l0.f]
    simp only [lt_end h, cond_false]
    rw [h]; simp
  | x :: l2, l1, k + 1, h, hk => by
    rw [cfg_Next.l0.f]
    have hl1 : l1.length ≤ 1000 := by rw [h] at hl; simp at hl; omega
    have e4 : Nat.ble ((l1.map fun b => tgt b.2).length + [tgt x.2].length) 100000 = true := Nat.ble_eq_true_of_le (by simp <;> omega)
    have tv : ir_Targets.f K x.2.1 x.2.2.2.1 x.2.2.2.2 = some (tgt x.2) := targets_val x.2
    simp only [lt_mid h, ge0, at_mid h, cond_true, some_bind, tv, e4, wrap_next (l1 := l1) (x := x) (by omega)]
    have := next_l0 hl l2 (l1 ++ [x]) k (mid_next h) (by simp at hk; omega)
    rw [← this, List.map_append]
    rfl
theorem next_val (hK : 2000 ≤ K) {l : List LBlock} (hl : l.length ≤ 1000) : cfg_Next.f K l = some (l.map fun b => tgt b.2) := by
  unfold cfg_Next.f
  exact next_l0 hl l [] K rfl (by omega)
/-- How many are fresh. -/
def fr (st : List Int) : Nat := st.countP (· == 0)
theorem fr_set : ∀ {st : List Int} {b : Nat} {u v : Int}, st[b]? = some u → fr (st.set b v) + (if u = 0 then 1 else 0) = fr st + (if v = 0 then 1 else 0)
  | [], b, u, v, h => by simp at h
  | x :: st, 0, u, v, h => by
    simp at h; subst h
    simp only [List.set_cons_zero, fr, List.countP_cons, beq_iff_eq]
    omega
  | x :: st, b + 1, u, v, h => by
    have := fr_set (st := st) (b := b) (u := u) (v := v) (by simpa using h)
    simp only [List.set_cons_succ, fr, List.countP_cons] at this ⊢
    omega
/-- From one state to another: those are closed. -/
structure Shut (st st' : List Int) (D : List Int) : Prop where
  len : st'.length = st.length
  val : ∀ (i : Nat) v, st[i]? = some v → st'[i]? = some (if ((i : Nat) : Int) ∈ D then 2 else v)
  was : ∀ d ∈ D, ∃ i : Nat, d = i ∧ st[i]? = some 0
  nodup : D.Nodup
theorem Shut.nil (st : List Int) : Shut st st [] := ⟨rfl, fun i v h => by simpa using h, fun d h => by simp at h, List.nodup_nil⟩
theorem Shut.trans {st st1 st2 : List Int} {D E : List Int} (h1 : Shut st st1 D) (h2 : Shut st1 st2 E) : Shut st st2 (D ++ E) := by
  have key : ∀ d ∈ E, d ∉ D ∧ ∃ i : Nat, d = i ∧ st[i]? = some 0 := fun d hd => by
    obtain ⟨i, rfl, hi⟩ := h2.was d hd
    have hlt : i < st.length := by have := (List.getElem?_eq_some_iff.1 hi).1; rw [h1.len] at this; exact this
    have hv := h1.val i _ (List.getElem?_eq_getElem hlt)
    rw [hv] at hi
    simp only [Option.some.injEq] at hi
    split at hi
    · omega
    · rename_i hn
      exact ⟨hn, i, rfl, by rw [List.getElem?_eq_getElem hlt, hi]⟩
  refine ⟨h2.len.trans h1.len, fun i v h => ?_, fun d hd => ?_, ?_⟩
  · have a := h1.val i v h
    have b := h2.val i _ a
    rw [b]
    by_cases hE : ((i : Nat) : Int) ∈ E <;> by_cases hD : ((i : Nat) : Int) ∈ D <;> simp [hE, hD]
  · rcases List.mem_append.1 hd with hd | hd
    · exact h1.was d hd
    · exact (key d hd).2
  · rw [List.nodup_append]
    exact ⟨h1.nodup, h2.nodup, fun a ha b hb e => (key b hb).1 (e ▸ ha)⟩
/-- What going on from a block comes to. -/
structure Went (next : List (List Int)) (st done : List Int) (backs : List LSpan) (r : Option (List (List Int) × List Int × List Int × List LSpan)) (D : List Int) (more : Nat) : Prop where
  out : ∃ st' backs', r = some (next, st', done ++ D, backs') ∧ Shut st st' D ∧ D.length + fr st' ≤ fr st ∧ backs'.length + 2 * fr st' ≤ backs.length + 2 * fr st + more
theorem open_l0 (hK : 2000 ≤ K) {self : Int → List (List Int) → List Int → List Int → List LSpan → Option (List (List Int) × List Int × List Int × List LSpan)} {next : List (List Int)} {m : Nat} {b : Int} {l : List Int} (hl : l.length ≤ 2)
    (hs : ∀ (t : Nat) st done backs, st[t]? = some 0 → fr st ≤ m ∧ st.length = next.length → done.length + fr st ≤ 100 → backs.length + 2 * fr st ≤ 1000 → ∃ D, Went next st done backs (self ((t : Nat) : Int) next st done backs) D 0) :
    ∀ (l2 l1 : List Int) (k : Nat) (st done : List Int) (backs : List LSpan), l = l1 ++ l2 → l2.length < k → (∀ t ∈ l2, 0 ≤ t ∧ t < st.length) → fr st ≤ m ∧ st.length = next.length → done.length + fr st ≤ 100 → backs.length + 2 * fr st + l2.length ≤ 1000 →
    ∃ D, Went next st done backs (cfg_walk_open.l0.f K self k b l ((l.length : Nat) : Int) ((l1.length : Nat) : Int) next st done backs) D l2.length
  | l2, l1, 0, st, done, backs, h, hk, ht, hm, hd, hb => by omega
  | [], l1, k + 1, st, done, backs, h, hk, ht, hm, hd, hb => by
    rw [cfg_walk_open.l0.f]
    simp only [lt_end h, cond_false]
    exact ⟨[], ⟨st, backs, by simp, Shut.nil st, by simp, by simp⟩⟩
  | t :: l2, l1, k + 1, st, done, backs, h, hk, ht, hm, hd, hb => by
    rw [cfg_walk_open.l0.f]
    have hl1 : l1.length ≤ 2 := by rw [h] at hl; simp at hl; omega
    obtain ⟨t0, t1⟩ := ht t (by simp)
    obtain ⟨n, rfl⟩ : ∃ n : Nat, t = n := ⟨t.toNat, by omega⟩
    have hn : n < st.length := by omega
    have hk' : l2.length < k := by simp at hk; omega
    have hb' : backs.length + 2 * fr st + l2.length + 1 ≤ 1000 := by simp at hb; omega
    have a1 : l[l1.length]? = some ((n : Nat) : Int) := by rw [h]; simp
    simp only [lt_mid h, a1, ge0', Bool.and_true, cond_true, some_bind, Int.toNat_natCast, blt_of hn, List.getElem?_eq_getElem hn, wrap_next (l1 := l1) (x := ((n : Nat) : Int)) (by omega)]
    have hg := List.getElem?_eq_getElem hn
    by_cases h0 : st[n] = 0
    · rw [h0] at hg ⊢
      simp only [show ((0 : Int) == 0) = true from rfl, cond_true]
      obtain ⟨D, ⟨st', backs', q1, q2, q3, q4⟩⟩ := hs n st done backs hg hm hd (by omega)
      rw [q1]
      simp only [some_bind]
      obtain ⟨E, ⟨st2, backs2, r1, r2, r3, r4⟩⟩ := open_l0 hK (b := b) hl hs l2 (l1 ++ [((n : Nat) : Int)]) k st' (done ++ D) backs' (mid_next h) hk' (fun t ht' => by rw [q2.len]; exact ht t (by simp [ht'])) ⟨by omega, by rw [q2.len]; exact hm.2⟩ (by simp; omega) (by omega)
      rw [r1]
      refine ⟨D ++ E, ⟨st2, backs2, by simp, q2.trans r2, by simp; omega, by simp at *; omega⟩⟩
    · have e0 : (st[n] == 0) = false := by simp [h0]
      simp only [e0, cond_false]
      by_cases h1 : st[n] = 1
      · have e1 : (st[n] == 1) = true := by simp [h1]
        have e4 : Nat.ble (backs.length + [(b, ((n : Nat) : Int))].length) 100000 = true := Nat.ble_eq_true_of_le (by simp; omega)
        simp only [e1, e4, cond_true]
        obtain ⟨E, ⟨st2, backs2, r1, r2, r3, r4⟩⟩ := open_l0 hK (b := b) hl hs l2 (l1 ++ [((n : Nat) : Int)]) k st done (backs ++ [(b, ((n : Nat) : Int))]) (mid_next h) hk' (fun t ht' => ht t (by simp [ht'])) hm hd (by simp; omega)
        rw [r1]
        exact ⟨E, ⟨st2, backs2, rfl, r2, r3, by simp at *; omega⟩⟩
      · have e1 : (st[n] == 1) = false := by simp [h1]
        simp only [e1, cond_false]
        obtain ⟨E, ⟨st2, backs2, r1, r2, r3, r4⟩⟩ := open_l0 hK (b := b) hl hs l2 (l1 ++ [((n : Nat) : Int)]) k st done backs (mid_next h) hk' (fun t ht' => ht t (by simp [ht'])) hm hd (by omega)
        rw [r1]
        exact ⟨E, ⟨st2, backs2, rfl, r2, r3, by simp at *; omega⟩⟩
theorem open_val (hK : 2000 ≤ K) {next : List (List Int)} (hnx : ∀ l ∈ next, l.length ≤ 2 ∧ ∀ t ∈ l, 0 ≤ t ∧ t < next.length) : ∀ (q : Nat) (b : Nat) (st done : List Int) (backs : List LSpan), fr st ≤ q → st.length = next.length → st[b]? = some 0 → done.length + fr st ≤ 100 → backs.length + 2 * fr st ≤ 1000 →
    ∃ D, Went next st done backs (cfg_walk_open.f K q ((b : Nat) : Int) next st done backs) (D ++ [((b : Nat) : Int)]) 0
  | 0, b, st, done, backs, hq, hlen, hb, hd, hbk => by
    have := fr_set (v := 1) hb
    simp at this
    omega
  | q + 1, b, st, done, backs, hq, hlen, hb, hd, hbk => by
    rw [cfg_walk_open.f, cfg_walk_open.body]
    have hlt := (List.getElem?_eq_some_iff.1 hb).1
    have hln : b < next.length := by omega
    have hf1 := fr_set (v := 1) hb
    simp at hf1
    have hg := List.getElem?_eq_getElem hln
    obtain ⟨n1, n2⟩ := hnx _ (List.getElem_mem hln)
    have hself : ∀ (t : Nat) st done backs, st[t]? = some 0 → fr st ≤ q ∧ st.length = next.length → done.length + fr st ≤ 100 → backs.length + 2 * fr st ≤ 1000 → ∃ D, Went next st done backs (cfg_walk_open.f K q ((t : Nat) : Int) next st done backs) D 0 := fun t st done backs h0 hm hd hb => by
      obtain ⟨D, h⟩ := open_val hK hnx q t st done backs hm.1 hm.2 h0 hd hb
      exact ⟨_, h⟩
    have hl1 : (st.set b 1).length = next.length := by simpa using hlen
    obtain ⟨D, ⟨st', backs', q1, q2, q3, q4⟩⟩ := open_l0 (K := K) hK (b := ((b : Nat) : Int)) (m := q) n1 hself next[b] [] K (st.set b 1) done backs rfl (by omega) (fun t ht => by rw [hl1]; exact n2 t ht) ⟨by omega, hl1⟩ (by omega) (by omega)
    have q1' : cfg_walk_open.l0.f K (cfg_walk_open.f K q) K ((b : Nat) : Int) next[b] ((next[b].length : Nat) : Int) (0 : Int) next (st.set b 1) done backs = some (next, st', done ++ D, backs') := q1
    have hlt' : b < st'.length := by rw [q2.len]; simpa using hlt
    have hb1 : (st.set b 1)[b]? = some 1 := by simp [hlt]
    have hbD : ((b : Nat) : Int) ∉ D := fun hm => by
      obtain ⟨i, e1, e2⟩ := q2.was _ hm
      have : i = b := by omega
      subst this
      rw [hb1] at e2
      cases e2
    have hb' : st'[b]? = some 1 := by have := q2.val b 1 hb1; rwa [if_neg hbD] at this
    have hf2 := fr_set (v := 2) hb'
    simp at hf2
    have e4 : Nat.ble ((done ++ D).length + [((b : Nat) : Int)].length) 100000 = true := Nat.ble_eq_true_of_le (by simp; omega)
    simp only [ge0', Bool.and_true, cond_true, some_bind, Int.toNat_natCast, blt_of hlt, hb, hg, q1', blt_of hlt', hb', e4]
    refine ⟨D, ⟨st'.set b 2, backs', by simp, ⟨by rw [List.length_set, q2.len, List.length_set], fun i v hi => ?_, fun d hd => ?_, ?_⟩, by simp; omega, by omega⟩⟩
    · by_cases hib : i = b
      · subst hib
        rw [if_pos (by simp)]
        simp [hlt']
      · have : (st.set b 1)[i]? = some v := by rw [List.getElem?_set_ne (fun h => hib h.symm)]; exact hi
        have := q2.val i v this
        rw [List.getElem?_set_ne (fun h => hib h.symm), this]
        congr 1
        have hne : ¬ ((i : Nat) : Int) = ((b : Nat) : Int) := by omega
        simp only [List.mem_append, List.mem_singleton, hne, or_false]
    · rcases List.mem_append.1 hd with hd | hd
      · obtain ⟨i, e1, e2⟩ := q2.was d hd
        refine ⟨i, e1, ?_⟩
        by_cases hib : i = b
        · subst hib; rw [hb1] at e2; cases e2
        · rwa [List.getElem?_set_ne (fun h => hib h.symm)] at e2
      · simp at hd
        exact ⟨b, hd, hb⟩
    · rw [List.nodup_append]
      refine ⟨q2.nodup, by simp, fun a ha c hc e => ?_⟩
      simp at hc
      exact hbD (by rw [← hc, ← e]; exact ha)
theorem fr_rep (n : Nat) : fr (List.replicate n 0) = n := by
  unfold fr
  rw [List.countP_replicate]
  simp
/-- All that is gone through from the first block. -/
theorem gone_val (hK : 2000 ≤ K) {bs : List LBlock} {regs : Int} (h0 : 1 ≤ bs.length) (h12 : bs.length ≤ 12) (hok : ∀ b ∈ bs, okEnd regs bs.length b.2) : ∃ D nx st bk, cfg_gone.f K bs = some (nx, st, D ++ [0], bk) ∧ (D ++ [0]).Nodup ∧ ∀ d : Int, d ∈ D ++ [0] → ∃ i : Nat, d = ((i : Nat) : Int) ∧ i < bs.length := by
  unfold cfg_gone.f
  have e3 : (decide (((bs.length : Nat) : Int) ≤ (100000 : Int)) && ((bs.length : Nat) : Int) == ((bs.length : Nat) : Int) && true && true && true) = true := by simp; omega
  have e1 : decide (((bs.length : Nat) : Int) > (0 : Int)) = true := by simp; omega
  have hnl : (bs.map fun b => tgt b.2).length = bs.length := by simp
  obtain ⟨D, ⟨st', bk', q1, q2, q3, q4⟩⟩ := open_val (K := K) hK (next := bs.map fun b => tgt b.2) (fun l hl => by
    obtain ⟨b, hb, rfl⟩ := List.mem_map.1 hl
    have := tgt_ok (hok b hb)
    rw [hnl]; exact this) K 0 (List.replicate bs.length 0) [] [] (by rw [fr_rep]; omega) (by simp) (by rw [List.getElem?_replicate, if_pos (by omega)]) (by rw [fr_rep]; show 0 + bs.length ≤ 100; omega) (by rw [fr_rep]; show 0 + 2 * bs.length ≤ 1000; omega)
  simp only [next_val hK (l := bs) (by omega), some_bind, e3, e1, cond_true, Int.toNat_natCast]
  rw [show cfg_walk_open.f K K (0 : Int) _ _ [] [] = _ from q1]
  refine ⟨D, _, st', bk', rfl, q2.nodup, fun d hd => ?_⟩
  obtain ⟨i, e1, e2⟩ := q2.was d hd
  exact ⟨i, e1, by have := (List.getElem?_eq_some_iff.1 e2).1; simpa using this⟩
end Go.Proofs.YtdjkdmjdcdljmaaGreat.AR
