/- Our small machine: a region that draws its order. No condition beside those stated. -/
import Derived.Test.YtcgjfkaipbhpkaaGreatVxF

namespace Go.Proofs.YtcgjfkaipbhpkaaGreatX
open Go.RowKit
set_option linter.unusedVariables false
set_option linter.unusedSimpArgs false

/-- What is known once the operations D have been gone through. -/
structure At (xs : List Ob) (F0 : Fs) (D : Nat → Prop) (F : Fs) : Prop where
  e1 : ∀ (j : Nat) (x : Ob) (t : Nat), xs[j]? = some x → D j → x.o.dst = some t → F.e t = some x.out.v
  e2 : ∀ t : Nat, (∀ (j : Nat) (x : Ob), xs[j]? = some x → D j → x.o.dst ≠ some t) → F.e t = F0.e t
  h1 : ∀ (j : Nat) (x : Ob) (b : Nat) (blk : Blk), xs[j]? = some x → D j → x.out.eff.pt = some (b, blk) → F.h b = some blk
  h2 : ∀ (j : Nat) (x : Ob) (blk : Blk), xs[j]? = some x → D j → x.out.eff.nw = some blk → (∀ (i : Nat) (y : Ob) (blk' : Blk), xs[i]? = some y → D i → y.out.eff.pt ≠ some (x.nb, blk')) → F.h x.nb = some blk
  h3 : ∀ b : Nat, (∀ (j : Nat) (x : Ob) (blk : Blk), xs[j]? = some x → D j → x.out.eff.pt ≠ some (b, blk) ∧ (x.out.eff.nw = some blk → x.nb ≠ b)) → F.h b = F0.h b

theorem At.same_e {ops : Array Oper} {xs : List Ob} (ha : Apart ops xs) {F0 F F' : Fs} {D D' : Nat → Prop} (h : At xs F0 D F) (h' : At xs F0 D' F') (t : Nat)
    (hd : ∀ (j : Nat) (x : Ob), xs[j]? = some x → x.o.dst = some t → (D j ↔ D' j)) : F.e t = F'.e t := by
  by_cases hex : ∃ j x, xs[j]? = some x ∧ D j ∧ x.o.dst = some t
  · obtain ⟨j, x, hj, hD, ht⟩ := hex
    rw [h.e1 j x t hj hD ht, h'.e1 j x t hj ((hd j x hj ht).1 hD) ht]
  · rw [h.e2 t fun j x hj hD ht => hex ⟨j, x, hj, hD, ht⟩, h'.e2 t fun j x hj hD ht => hex ⟨j, x, hj, (hd j x hj ht).2 hD, ht⟩]

theorem At.same_h {ops : Array Oper} {xs : List Ob} (ha : Apart ops xs) {F0 F F' : Fs} {D D' : Nat → Prop} (h : At xs F0 D F) (h' : At xs F0 D' F') (b : Nat)
    (hp : ∀ (j : Nat) (x : Ob) (blk : Blk), xs[j]? = some x → x.out.eff.pt = some (b, blk) → (D j ↔ D' j))
    (hn : ∀ (j : Nat) (x : Ob) (blk : Blk), xs[j]? = some x → x.out.eff.nw = some blk → x.nb = b → (D j ↔ D' j)) : F.h b = F'.h b := by
  by_cases hex : ∃ j x blk, xs[j]? = some x ∧ D j ∧ x.out.eff.pt = some (b, blk)
  · obtain ⟨j, x, blk, hj, hD, ht⟩ := hex
    rw [h.h1 j x b blk hj hD ht, h'.h1 j x b blk hj ((hp j x blk hj ht).1 hD) ht]
  · have hno : ∀ (j : Nat) (x : Ob) (blk : Blk), xs[j]? = some x → D j → x.out.eff.pt ≠ some (b, blk) := fun j x blk hj hD ht => hex ⟨j, x, blk, hj, hD, ht⟩
    have hno' : ∀ (j : Nat) (x : Ob) (blk : Blk), xs[j]? = some x → D' j → x.out.eff.pt ≠ some (b, blk) := fun j x blk hj hD ht => hex ⟨j, x, blk, hj, (hp j x blk hj ht).2 hD, ht⟩
    by_cases hex2 : ∃ j x blk, xs[j]? = some x ∧ D j ∧ x.out.eff.nw = some blk ∧ x.nb = b
    · obtain ⟨j, x, blk, hj, hD, ht, rfl⟩ := hex2
      rw [h.h2 j x blk hj hD ht hno, h'.h2 j x blk hj ((hn j x blk hj ht rfl).1 hD) ht hno']
    · rw [h.h3 b fun j x blk hj hD => ⟨hno j x blk hj hD, fun e en => hex2 ⟨j, x, blk, hj, hD, e, en⟩⟩,
        h'.h3 b fun j x blk hj hD => ⟨hno' j x blk hj hD, fun e en => hex2 ⟨j, x, blk, hj, (hn j x blk hj e en).2 hD, e, en⟩⟩]

theorem At.uniq {ops : Array Oper} {xs : List Ob} (ha : Apart ops xs) {F0 F F' : Fs} {D D' : Nat → Prop} (h : At xs F0 D F) (h' : At xs F0 D' F') (hd : ∀ j, j < xs.length → (D j ↔ D' j)) : F = F' := by
  have hlt : ∀ (j : Nat) (x : Ob), xs[j]? = some x → j < xs.length := fun j x hj => (List.getElem?_eq_some_iff.1 hj).1
  obtain ⟨e, hh⟩ := F
  obtain ⟨e', hh'⟩ := F'
  have h1 : e = e' := funext fun t => At.same_e ha h h' t fun j x hj _ => hd j (hlt j x hj)
  have h2 : hh = hh' := funext fun b => At.same_h ha h h' b (fun j x _ hj _ => hd j (hlt j x hj)) fun j x _ hj _ _ => hd j (hlt j x hj)
  rw [h1, h2]

theorem At.step {ops : Array Oper} {xs : List Ob} (ha : Apart ops xs) {F0 F : Fs} {D D' : Nat → Prop} (h : At xs F0 D F) {i : Nat} {x : Ob} (hi : xs[i]? = some x) (hD : ¬ D i)
    (hself : ∀ c old, x.out.eff.pt = some (c, old) → c ≠ x.nb)
    (hc : ∀ (j : Nat) (y : Ob) (blk blk' : Blk), xs[j]? = some y → D j → x.out.eff.nw = some blk → y.out.eff.pt ≠ some (x.nb, blk')) (hD' : ∀ j, D' j ↔ D j ∨ j = i) : At xs F0 D' (F.put x.o x.nb x.out) := by
  have hall := ha.loc i x hi
  have hput : (F.put x.o x.nb x.out).h = fun b => match x.out.eff.nw with
        | some blk => if b = x.nb then some blk else match x.out.eff.pt with
          | some (c, old) => if b = c then some old else F.h b
          | none => F.h b
        | none => match x.out.eff.pt with
          | some (c, old) => if b = c then some old else F.h b
          | none => F.h b := by simp only [Fs.put, hall]; rfl
  -- a block that the operation neither makes nor writes
  have far : ∀ b, (∀ blk, x.out.eff.nw = some blk → b ≠ x.nb) → (∀ blk, x.out.eff.pt ≠ some (b, blk)) → (F.put x.o x.nb x.out).h b = F.h b := fun b g1 g2 => by
    rw [hput]
    have inner : (match x.out.eff.pt with
          | some (c, old) => if b = c then some old else F.h b
          | none => F.h b) = F.h b := by
      cases hpt : x.out.eff.pt with
      | none => rfl
      | some q => obtain ⟨c, old⟩ := q; simp only; rw [if_neg fun e => g2 old (by rw [hpt, e])]
    cases hnw : x.out.eff.nw with
    | none => exact inner
    | some blk => simp only; rw [if_neg (g1 blk hnw)]; exact inner
  refine ⟨fun j y t hj hDj ht => ?_, fun t ht => ?_, fun j y b blk hj hDj hp => ?_, fun j y blk hj hDj hn hnop => ?_, fun b hb => ?_⟩
  · simp only [Fs.put]
    rcases (hD' j).1 hDj with hDj | rfl
    · have : x.o.dst ≠ some t := fun e => hD (ha.dst i j x y t hi hj e ht ▸ hDj)
      rw [if_neg this]; exact h.e1 j y t hj hDj ht
    · rw [hi] at hj; cases hj; rw [if_pos ht]
  · simp only [Fs.put]
    rw [if_neg (ht i x hi ((hD' i).2 (.inr rfl)))]
    exact h.e2 t fun j y hj hDj => ht j y hj ((hD' j).2 (.inl hDj))
  · rcases (hD' j).1 hDj with hDj | rfl
    · rw [far b (fun blk0 hx e => hc j y blk0 blk hj hDj hx (e ▸ hp)) (fun blk0 hx => hD (ha.put i j x y b blk0 blk hi hj hx hp ▸ hDj))]
      exact h.h1 j y b blk hj hDj hp
    · rw [hi] at hj; cases hj
      rw [hput]
      have hne := hself b blk hp
      simp only [hp, if_neg hne, if_pos]
      cases x.out.eff.nw <;> rfl
  · rcases (hD' j).1 hDj with hDj | rfl
    · have old := h.h2 j y blk hj hDj hn fun k z blk' hk hDk => hnop k z blk' hk ((hD' k).2 (.inl hDk))
      rw [far y.nb (fun blk0 hx e => hD (ha.new i j x y blk0 blk hi hj hx hn e.symm ▸ hDj)) (fun blk0 hx => hnop i x blk0 hi ((hD' i).2 (.inr rfl)) hx)]
      exact old
    · rw [hi] at hj; cases hj
      rw [hput]; simp only [hn, if_pos]
  · have old := h.h3 b fun j y blk hj hDj => hb j y blk hj ((hD' j).2 (.inl hDj))
    rw [far b (fun blk0 hx e => (hb i x blk0 hi ((hD' i).2 (.inr rfl))).2 hx e.symm) (fun blk0 => (hb i x blk0 hi ((hD' i).2 (.inr rfl))).1)]
    exact old

theorem At.start (xs : List Ob) (F0 : Fs) (D : Nat → Prop) (hD : ∀ j, ¬ D j) : At xs F0 D F0 :=
  ⟨fun j x t _ h => absurd h (hD j), fun _ _ => rfl, fun j x b blk _ h => absurd h (hD j), fun j x blk _ h => absurd h (hD j), fun _ _ => rfl⟩

/-- In the order of the text. -/
theorem chain_at {ops : Array Oper} {xs : List Ob} (ha : Apart ops xs) (hself : ∀ x ∈ xs, ∀ c old, x.out.eff.pt = some (c, old) → c ≠ x.nb) {F0 : Fs} : ∀ {ys : List Ob} {F F' : Fs} {k : Nat}, Chain F ys F' → (∀ j, ys[j]? = xs[k + j]?) → At xs F0 (fun j => j < k) F →
    (∀ (i : Nat) (x : Ob), k ≤ i → xs[i]? = some x → At xs F0 (fun j => j < i) x.F) ∧ At xs F0 (fun j => j < k + ys.length) F'
  | [], F, F', k, hc, hl, h => by
    simp only [Chain] at hc
    subst hc
    refine ⟨fun i x hi hx => ?_, by simpa using h⟩
    have := hl (i - k)
    rw [show k + (i - k) = i by omega, hx] at this
    simp at this
  | y :: ys, F, F', k, ⟨e, hc⟩, hl, h => by
    subst e
    have hy : xs[k]? = some y := by simpa using (hl 0).symm
    have hs : At xs F0 (fun j => j < k + 1) (y.F.put y.o y.nb y.out) := by
      refine At.step ha h hy (Nat.lt_irrefl k) (hself y (List.mem_of_getElem? hy)) (fun j z blk blk' hj hD hx hp => ?_) fun j => by omega
      have hD : j < k := hD
      have := (ha.touch j k z y blk hj hy (by omega) hx (.inr ⟨blk', hp⟩)).1
      omega
    obtain ⟨h1, h2⟩ := chain_at ha hself hc (fun j => by have := hl (j + 1); simpa [Nat.add_assoc, Nat.add_comm 1 j] using this) hs
    refine ⟨fun i x hi hx => ?_, ?_⟩
    · by_cases e : i = k
      · subst e; rw [hy] at hx; cases hx; exact h
      · exact h1 i x (by omega) hx
    · rw [List.length_cons, Nat.add_comm ys.length 1, ← Nat.add_assoc]; exact h2

def Closed (xs : List Ob) (D : Nat → Prop) : Prop := ∀ (i : Nat) (x : Ob), xs[i]? = some x → D i → ∀ j, Dep x.o j → D j

theorem looks_of {ops : Array Oper} {o : Oper} {x : Operand} {t : Nat} (hx : x ∈ o.op.operands) (e : x = .tmp t) : t ∈ o.looksAt ops := by
  subst e
  exact List.mem_append_left _ (List.mem_filterMap.2 ⟨.tmp t, by simpa using hx, rfl⟩)

/-- An operation whose turn it is sees what it sees in the order of the text. -/
theorem agree {ops : Array Oper} {xs : List Ob} (ha : Apart ops xs) {F0 F : Fs} {D : Nat → Prop} (h : At xs F0 D F) (hc : Closed xs D) {i : Nat} {x : Ob} (hi : xs[i]? = some x) (hD : ¬ D i) (hr : ∀ j, Dep x.o j → D j)
    (hp : At xs F0 (fun j => j < i) x.F) : (∀ t, t ∈ x.o.looksAt ops → F.e t = x.F.e t) ∧ (∀ b, Touch x.out b → F.h b = x.F.h b) := by
  refine ⟨fun t ht => ?_, fun b hb => ?_⟩
  · refine At.same_e ha h hp t fun j y hj hd => ?_
    by_cases e : i = j
    · subst e; exact ⟨fun k => absurd k hD, fun k => absurd k (Nat.lt_irrefl i)⟩
    · rcases ha.data i j x y t hi hj e hd ht with ⟨h1, h2⟩ | ⟨h1, h2⟩
      · exact ⟨fun _ => h1, fun _ => hr j h2⟩
      · exact ⟨fun k => absurd (hc j y hj k i h2) hD, fun k => absurd k (by omega)⟩
  · refine At.same_h ha h hp b (fun j y blk hj hput => ?_) fun j y blk hj hnew hnb => ?_
    · by_cases e : i = j
      · subst e; exact ⟨fun k => absurd k hD, fun k => absurd k (Nat.lt_irrefl i)⟩
      · rcases hb with hrd | ⟨blk', hput'⟩
        · rcases ha.read i j x y b blk hi hj e hrd hput with ⟨h1, h2⟩ | ⟨h1, h2⟩
          · exact ⟨fun _ => h1, fun _ => hr j h2⟩
          · exact ⟨fun k => absurd (hc j y hj k i h2) hD, fun k => by have k : j < i := k; omega⟩
        · exact absurd (ha.put i j x y b blk' blk hi hj hput' hput) e
    · by_cases e : i = j
      · subst e; exact ⟨fun k => absurd k hD, fun k => absurd k (Nat.lt_irrefl i)⟩
      · obtain ⟨h1, h2⟩ := ha.touch i j x y blk hi hj e hnew (hnb ▸ hb)
        exact ⟨fun _ => h1, fun _ => h2.done hc hr⟩

theorem Good.of_agree {P : Program} {F F' : Fs} {o : Oper} {nb : Nat} {out : Out} {ops : Array Oper} (he : ∀ t, t ∈ o.looksAt ops → F'.e t = F.e t) (hh : ∀ b, Touch out b → F'.h b = F.h b) (h : Good P F o nb out) : Good P F' o nb out := by
  intro σ a w hv ht hn K Q hK
  refine h σ a w (fun x hx v hxv => hv x hx v ?_) (fun b hb blk hblk => ht b hb blk (by rw [hh b hb]; exact hblk)) hn K Q hK
  cases x with
  | tmp t => simp only [Fs.ev] at hxv ⊢; rw [he t (looks_of hx rfl)]; exact hxv
  | _ => exact hxv

theorem EffOk.of_agree {F F' : Fs} {nb : Nat} {out : Out} (hh : ∀ b, Touch out b → F'.h b = F.h b) (h : EffOk F nb out) : EffOk F' nb out :=
  ⟨h.loc, fun b hb => by rw [hh b hb]; exact h.touch b hb, fun c old e => by rw [hh c (.inr ⟨old, e⟩)]; exact h.put c old e, h.new⟩

theorem guardSays_congr {F F' : Fs} {ops : Array Oper} {o : Oper} (he : ∀ t, t ∈ o.looksAt ops → F'.e t = F.e t) : guardSays F' ops o = guardSays F ops o := by
  unfold guardSays
  cases hg : o.guard with
  | none => rfl
  | some jw =>
    obtain ⟨j, want⟩ := jw
    cases hd : (ops[j]?).bind (·.dst) with
    | none => simp only [hd]
    | some d =>
      simp only [hd]
      rw [he d (List.mem_append_right _ (by simp [hg, hd]))]

/-- How many have not come up. -/
theorem countP_lt {p q : Nat → Bool} : ∀ {l : List Nat}, (∀ x, p x = true → q x = true) → (∃ x ∈ l, q x = true ∧ p x = false) → l.countP p < l.countP q
  | [], _, ⟨_, h, _⟩ => by cases h
  | y :: l, h, ⟨x, hx, h1, h2⟩ => by
    have mono : l.countP p ≤ l.countP q := List.countP_mono_left fun x _ => h x
    rw [List.countP_cons, List.countP_cons]
    rcases List.mem_cons.1 hx with rfl | hx
    · simp [h1, h2]; omega
    · have := countP_lt (l := l) h ⟨x, hx, h1, h2⟩
      by_cases hp : p y = true
      · rw [if_pos hp, if_pos (h y hp)]; omega
      · rw [if_neg hp]; split <;> omega

theorem any_order {P : Program} {B : Nat} {w0 : World} {σ0 : Num} {n : Nat} {ops : Array Oper} {Q : Exit → Act → World → Prop} {xs : List Ob} {F0 F' : Fs} (ha : Apart ops xs) (hx : xs.map Ob.o = ops.toList)
    (hok : ∀ x ∈ xs, ObOk P ops n x) (hself : ∀ x ∈ xs, ∀ c old, x.out.eff.pt = some (c, old) → c ≠ x.nb) (hpre : ∀ (i : Nat) (x : Ob), xs[i]? = some x → At xs F0 (fun j => j < i) x.F) (hend : At xs F0 (fun j => j < xs.length) F')
    (hQ : ∀ σ' a' w', Rel B w0 σ0 F' n σ' a' w' → Q .normal a' w') : ∀ (fuel : Nat) (listed : Array Bool) (F : Fs) (σ : Num) (a : Act) (w : World),
    listed.size = ops.size → At xs F0 (fun j => listed.getD j false = true) F → Closed xs (fun j => listed.getD j false = true) → Rel B w0 σ0 F n σ a w →
    (List.range ops.size).countP (fun i => !listed.getD i false) ≤ fuel → wpAny P .any ops Q fuel listed a w := by
  have hlen : xs.length = ops.size := by have := congrArg List.length hx; simpa using this
  have hox : ∀ (i : Nat) (o : Oper), ops[i]? = some o → ∃ x, xs[i]? = some x ∧ x.o = o := fun i o ho => by
    have : (xs.map Ob.o)[i]? = some o := by rw [hx]; simpa using ho
    rw [List.getElem?_map] at this
    cases hxi : xs[i]? with
    | none => simp [hxi] at this
    | some x => exact ⟨x, rfl, by simpa [hxi] using this⟩
  have getD' : ∀ (listed : Array Bool) (i : Nat), listed.size = ops.size → i < ops.size → listed.getD i true = listed.getD i false := fun listed i hs hi => by
    simp [hs, hi]
  -- nothing left
  have hdone : ∀ (listed : Array Bool) (F : Fs) (σ : Num) (a : Act) (w : World), listed.size = ops.size → At xs F0 (fun j => listed.getD j false = true) F → Rel B w0 σ0 F n σ a w →
      Region.ready .any ops listed = [] → Q .normal a w := by
    intro listed F σ a w hs hat hrel hr
    have hall : ∀ i, i < ops.size → listed.getD i false = true := by
      intro i
      induction i using Nat.strongRecOn with
      | _ i ih =>
        intro hi
        refine Decidable.byContradiction fun hno => ?_
        have hmem : i ∈ Region.ready .any ops listed := by
          rw [mem_ready]
          refine ⟨by rw [getD' listed i hs hi]; simpa using hno, ops[i], by simp, fun e he hb => ?_⟩
          obtain ⟨x, hxi, hxo⟩ := hox i ops[i] (by simp)
          have := ha.edges i x hxi e (by rw [hxo]; exact he) hb
          exact ih e.on this (by omega)
        rw [hr] at hmem
        cases hmem
    have := At.uniq ha hat hend fun j hj => ⟨fun _ => hj, fun _ => hall j (by omega)⟩
    subst this
    exact hQ σ a w hrel
  intro fuel
  induction fuel with
  | zero =>
    intro listed F σ a w hs hat hcl hrel hcnt
    have hr : Region.ready .any ops listed = [] := by
      rw [List.eq_nil_iff_forall_not_mem]
      intro i hi
      obtain ⟨h0, o, ho, _⟩ := mem_ready.1 hi
      have hlt : i < ops.size := (Array.getElem?_eq_some_iff.1 ho).1
      have h0' : (List.range ops.size).countP (fun i => !listed.getD i false) = 0 := by omega
      rw [List.countP_eq_zero] at h0'
      have := h0' i (by simpa using hlt)
      rw [getD' listed i hs hlt] at h0
      rw [h0] at this
      simp at this
    exact ⟨hr, hdone listed F σ a w hs hat hrel hr⟩
  | succ fuel ih =>
    intro listed F σ a w hs hat hcl hrel hcnt
    refine ⟨hdone listed F σ a w hs hat hrel, fun i hi => ?_⟩
    obtain ⟨h0, o, ho, hall⟩ := mem_ready.1 hi
    have hlt : i < ops.size := (Array.getElem?_eq_some_iff.1 ho).1
    rw [getD' listed i hs hlt] at h0
    obtain ⟨x, hxi, rfl⟩ := hox i o ho
    have hD : ¬ (listed.getD i false = true) := by rw [h0]; simp
    have hrd : ∀ j, Dep x.o j → listed.getD j false = true := fun j ⟨e, he, hb, hej⟩ => hej ▸ hall e he hb
    obtain ⟨ag1, ag2⟩ := agree ha hat hcl hxi hD hrd (hpre i x hxi)
    have hxok := hok x (List.mem_of_getElem? hxi)
    have hc : ∀ (j : Nat) (y : Ob) (blk blk' : Blk), xs[j]? = some y → listed.getD j false = true → x.out.eff.nw = some blk → y.out.eff.pt ≠ some (x.nb, blk') := fun j y blk blk' hj hDj hx' hp => by
      have hne : j ≠ i := fun e => by subst e; exact hD hDj
      exact hD ((ha.touch j i y x blk hj hxi hne hx' (.inr ⟨blk', hp⟩)).2.done hcl fun k => hcl j y hj hDj k)
    have hset : ∀ j, (listed.setIfInBounds i true).getD j false = true ↔ listed.getD j false = true ∨ j = i := fun j => by
      by_cases e : i = j
      · subst e; simp [hs, hlt]
      · rw [getD_set_ne false e]; exact ⟨.inl, fun k => k.resolve_right fun k => e k.symm⟩
    -- an operation that makes a block: its number is free
    have hstep := At.step ha hat hxi hD (hself x (List.mem_of_getElem? hxi)) hc hset
    have hnb : ∀ blk, x.out.eff.nw = some blk → F.h x.nb = none := fun blk hx' => by
      have hp := hpre i x hxi
      have : F.h x.nb = x.F.h x.nb := by
        refine At.same_h ha hat hp x.nb (fun j y blk' hj hp' => ?_) fun j y blk' hj hn' hnb' => ?_
        · have hne : j ≠ i := fun e => by subst e; rw [hxi] at hj; cases hj; exact hself x (List.mem_of_getElem? hxi) _ _ hp' rfl
          obtain ⟨h1, h2⟩ := ha.touch j i y x blk hj hxi hne hx' (.inr ⟨blk', hp'⟩)
          exact ⟨fun k => absurd (h2.done hcl fun m => hcl j y hj k m) hD, fun k => by have k : j < i := k; omega⟩
        · have := ha.new j i y x blk' blk hj hxi hn' hx' hnb'
          subst this
          exact ⟨fun k => absurd k hD, fun k => absurd k (Nat.lt_irrefl j)⟩
      rw [this]; exact heap_end x.S
    refine wpOp_ob hrel ho hxok.dst (by rw [guardSays_congr ag1]; exact hxok.guard) (nb := x.nb) (out := x.out) (fun hr hK => ?_) hxok.skip fun a' w' σ' h' => ?_
    · rcases hxok.does hr with ⟨hg, he⟩ | ⟨hs', _⟩
      · exact hrel.step (Good.of_agree ag1 ag2 hg) hxok.dst hnb (EffOk.of_agree ag2 he) hK
      · rw [ha.loc i x hxi] at hs'; cases hs'
    · refine ih _ _ σ' a' w' (by simpa using hs) hstep (fun j y hj hDj k hdep => ?_) h' ?_
      · rcases (hset j).1 hDj with hDj | rfl
        · exact (hset k).2 (.inl (hcl j y hj hDj k hdep))
        · rw [hxi] at hj; cases hj; exact (hset k).2 (.inl (hrd k hdep))
      · have := countP_lt (l := List.range ops.size) (p := fun j => !(listed.setIfInBounds i true).getD j false) (q := fun j => !listed.getD j false) (fun j hj => by
          simp only [Bool.not_eq_true'] at hj ⊢
          rw [← Bool.not_eq_true] at hj ⊢
          exact fun k => hj ((hset j).2 (.inl k))) ⟨i, by simpa using hlt, by rw [h0]; rfl, by rw [(hset i).2 (.inr rfl)]; rfl⟩
        omega
end Go.Proofs.YtcgjfkaipbhpkaaGreatX
