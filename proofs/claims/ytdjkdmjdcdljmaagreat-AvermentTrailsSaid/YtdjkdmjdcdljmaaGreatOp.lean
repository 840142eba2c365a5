/- Arguments as typed data: what is read of memory is what the second machine has. No condition. -/
import Derived.OpenShut
import Derived.ChangeArms
import Derived.Carry
import Derived.ChangeOld
import Derived.Deep.Slices
import Derived.Test.YtdjkdmjdcdljmaaGreatMz

namespace Go.Proofs.YtdjkdmjdcdljmaaGreatX
open Go.RowKit
set_option linter.unusedVariables false
set_option linter.unusedSimpArgs false

def WfD : (T : Ty) → T.I → Prop
  | .int k, n => (Lit.int k n).wf = true
  | .slice t, xs => ∀ x ∈ xs, WfD t x
  | .pair a b, x => WfD a x.1 ∧ WfD b x.2
  | _, _ => True
def fieldsChk (P : Program) (chk : TypeId → Ty → Bool) (total : Nat) : Nat → List Field → Ty → Bool
  | o, f :: g :: fs, .pair A B => Nat.beq f.offset o && chk f.type A && fieldsChk P chk total (o + P.cellsOf f.type) (g :: fs) B
  | o, [f], T => Nat.beq f.offset o && chk f.type T && Nat.beq (o + P.cellsOf f.type) total
  | _, _, _ => false
def tyChk (P : Program) : Nat → TypeId → Ty → Bool
  | 0, _, _ => false
  | n + 1, t, T => match P.underlying t, T with
    | some (.int k), .int k' => IntKind.beq' k k'
    | some .bool, .bool => true
    | some .string, .str => true
    | some (.slice e), .slice T => tyChk P n e T && Nat.blt 0 (P.cellsOf e)
    | some (.struct fs), T => fieldsChk P (tyChk P n) (P.cellsOf t) 0 fs.toList T
    | _, _ => false
def oldZ (w : World) : Zone := fun r => r < w.heap.size
theorem seg_eq {L row : List Value} {o s : Nat} (hl : row.length = s) (h : ∀ r, r < s → L[o + r]? = row[r]?) : L.drop o = row ++ L.drop (o + s) := by
  apply List.ext_getElem?
  intro i
  rw [List.getElem?_drop]
  by_cases hi : i < s
  · rw [List.getElem?_append_left (by omega)]; exact h i hi
  · rw [List.getElem?_append_right (by omega), List.getElem?_drop]
    congr 1; omega
theorem rows_eq {s : Nat} : ∀ {rows : List (List Value)} {L : List Value} {o : Nat}, (∀ i row, rows[i]? = some row → row.length = s ∧ ∀ r, r < s → L[o + i * s + r]? = row[r]?) → L.drop o = rows.flatten ++ L.drop (o + rows.length * s)
  | [], L, o, _ => by simp
  | row :: rows, L, o, h => by
    obtain ⟨h1, h2⟩ := h 0 row rfl
    have e := seg_eq (L := L) (o := o) h1 (fun r hr => by simpa using h2 r hr)
    have ih := rows_eq (rows := rows) (L := L) (o := o + s) fun i r hr => by
      obtain ⟨q1, q2⟩ := h (i + 1) r (by simpa using hr)
      refine ⟨q1, fun k hk => ?_⟩
      have := q2 k hk
      rw [← this]
      congr 1
      rw [Nat.add_mul]; omega
    rw [e, ih, List.flatten_cons, List.append_assoc, List.length_cons, Nat.add_mul]
    congr 3; omega
section
variable {M : Cfg} {P : Program} {H : Type} {enc : TypeId × Value → H} {w : World} {spare : Nat → Bool} {held : Bool}
theorem pickL {α : Type} (R : Nat → α → Prop) : ∀ n, (∀ i, i < n → ∃ x, R i x) → ∃ xs : List α, xs.length = n ∧ ∀ i x, xs[i]? = some x → R i x
  | 0, _ => ⟨[], rfl, fun i x h => by simp at h⟩
  | n + 1, h => by
    obtain ⟨xs, hl, hx⟩ := pickL R n (fun i hi => h i (by omega))
    obtain ⟨y, hy⟩ := h n (by omega)
    refine ⟨xs ++ [y], by simp [hl], fun i x hi => ?_⟩
    by_cases g : i < xs.length
    · rw [List.getElem?_append_left g] at hi; exact hx i x hi
    · rw [List.getElem?_append_right (by omega)] at hi
      have hlt := (List.getElem?_eq_some_iff.1 hi).1
      have : i = n := by simp at hlt; omega
      subst this
      rw [hl, Nat.sub_self] at hi
      simp at hi
      subst hi
      exact hy
theorem All2.of_get {α β : Type} {R : α → β → Prop} : ∀ {l : List α} {m : List β}, l.length = m.length → (∀ (i : Nat) a b, l[i]? = some a → m[i]? = some b → R a b) → All2 R l m
  | [], [], _, _ => trivial
  | a :: l, b :: m, h, hr => ⟨hr 0 a b rfl rfl, All2.of_get (by simpa using h) fun i x y hx hy => hr (i + 1) x y (by simpa using hx) (by simpa using hy)⟩
  | [], _ :: _, h, _ => by simp at h
  | _ :: _, [], h, _ => by simp at h
theorem fields_dv {chk : TypeId → Ty → Bool} {total n : Nat} {cs : List Value} (hcs : cs.length = total) (ih : ∀ t T, chk t T = true → ∀ cs x, DataW.trod enc P w 0 spare held n t cs = some x → ∃ d : T.I, DV M (oldZ w) w T d cs ∧ WfD T d) :
    ∀ (fs : List Field) (o : Nat) (T : Ty), fieldsChk P chk total o fs T = true → (∀ f ∈ fs, ∃ y, DataW.trod enc P w 0 spare held n f.type ((cs.drop f.offset).take (P.cellsOf f.type)) = some y) → ∃ d : T.I, DV M (oldZ w) w T d (cs.drop o) ∧ WfD T d
  | [], o, T, h, _ => by cases T <;> simp [fieldsChk] at h
  | [f], o, T, h, hf => by
    have h' : (Nat.beq f.offset o && chk f.type T && Nat.beq (o + P.cellsOf f.type) total) = true := by
      cases T <;> exact h
    simp only [Bool.and_eq_true] at h'
    obtain ⟨⟨h1, h2⟩, h3⟩ := h'
    have h1 := Nat.eq_of_beq_eq_true h1
    have h3 := Nat.eq_of_beq_eq_true h3
    obtain ⟨y, hy⟩ := hf f (by simp)
    rw [h1, List.take_of_length_le (by simp; omega)] at hy
    exact ih _ _ h2 _ _ hy
  | f :: g :: fs, o, T, h, hf => by
    cases T with
    | pair A B =>
      simp only [fieldsChk, Bool.and_eq_true] at h
      obtain ⟨⟨h1, h2⟩, h3⟩ := h
      have h1 := Nat.eq_of_beq_eq_true h1
      obtain ⟨y, hy⟩ := hf f (by simp)
      rw [h1] at hy
      obtain ⟨d1, q1, q2⟩ := ih _ _ h2 _ _ hy
      obtain ⟨d2, q3, q4⟩ := fields_dv hcs ih (g :: fs) (o + P.cellsOf f.type) B h3 (fun f' hf' => hf f' (by simp [hf']))
      refine ⟨(d1, d2), ⟨_, _, ?_, q1, q3⟩, q2, q4⟩
      rw [← List.drop_drop, List.take_append_drop]
    | _ => simp [fieldsChk] at h
theorem trod_dv : ∀ (n : Nat) (t : TypeId) (T : Ty), tyChk P n t T = true → ∀ (fuel : Nat) cs x, DataW.trod enc P w 0 spare held fuel t cs = some x → ∃ d : T.I, DV M (oldZ w) w T d cs ∧ WfD T d
  | 0, t, T, h, _, _, _, _ => by simp [tyChk] at h
  | n + 1, t, T, h, fuel, cs, x, hx => by
    unfold tyChk at h
    split at h
    · rename_i k k' hu
      have := IntKind.beq'_eq h
      subst this
      obtain ⟨v, rfl, _, hw⟩ := DataW.trod_int hu hx
      exact ⟨v, rfl, hw⟩
    · rename_i hu
      obtain ⟨v, rfl, _⟩ := DataW.trod_bool hu hx
      exact ⟨v, rfl, trivial⟩
    · rename_i hu
      obtain ⟨v, rfl, _, _⟩ := DataW.trod_string hu hx
      exact ⟨v, rfl, trivial⟩
    · rename_i e T' hu
      rw [Bool.and_eq_true] at h
      obtain ⟨h1, h2⟩ := h
      have h2 : 0 < P.cellsOf e := Nat.le_of_ble_eq_true h2
      rcases Go.Deep.open_slice hu hx with ⟨rfl, _⟩ | ⟨a, len, cap, m, q, D, Pl, rfl, hb, hl, hm, hmm, _, hi⟩
      · exact ⟨[], ⟨none, 0, rfl, Nat.le_refl _, .inl rfl⟩, fun x hx => by simp at hx⟩
      · obtain ⟨ps, p1, p2⟩ := pickL (fun i (p : T'.I × List Value) => w.cells? 0 (a.add (i * P.cellsOf e)) (P.cellsOf e) = some p.2 ∧ DV M (oldZ w) w T' p.1 p.2 ∧ WfD T' p.1) len (fun i hil => by
          obtain ⟨cs', c1, c2⟩ := hi i (by rw [hmm]; split <;> omega)
          obtain ⟨d, d1, d2⟩ := trod_dv n e T' h1 _ _ _ c2
          exact ⟨(d, cs'), c1, d1, d2⟩)
        refine ⟨ps.map (·.1), ⟨some a, cap, by simp [p1], by simp [p1, hl], ?_⟩, fun x hx => ?_⟩
        · by_cases h0 : len = 0
          · left
            have : ps = [] := List.length_eq_zero_iff.1 (by omega)
            rw [this]; rfl
          · right
            obtain ⟨p0, hp0⟩ : ∃ p0, ps[0]? = some p0 := ⟨ps[0]'(by omega), List.getElem?_eq_getElem _⟩
            have hq := (p2 0 p0 hp0).1
            rw [Nat.zero_mul] at hq
            have ha0 : a.add 0 = a := by unfold Addr.add; rw [if_pos rfl]
            rw [ha0] at hq
            obtain ⟨_, r1, r2⟩ := World.cells?_some hq
            have r0 := r2 0 h2
            rw [ha0] at r0
            have hc0 : w.cell? a ≠ none := by
              rw [r0, List.getElem?_eq_getElem (by omega)]; exact fun h => by cases h
            obtain ⟨c, el, fr, hheap, hspot⟩ : ∃ c el fr, w.heap[a.block]? = some (.cells c el fr) ∧ a.spot = none := by
              unfold World.cell? at hc0
              split at hc0
              · rename_i c el fr hh
                refine ⟨c, el, fr, hh, ?_⟩
                cases hs : a.spot with
                | none => rfl
                | some v => rw [hs] at hc0; simp at hc0
              · exact absurd rfl hc0
            have at_ : ∀ k, w.cell? (a.add k) = c[a.off + k]? := fun k => by
              unfold World.cell? Addr.add
              by_cases hk : k = 0
              · subst hk; simp [hheap, hspot]
              · rw [if_neg hk]; simp [hheap]
            have hrows : c.toList.drop a.off = (ps.map (·.2)).flatten ++ c.toList.drop (a.off + (ps.map (·.2)).length * P.cellsOf e) := rows_eq fun i row hrow => by
              rw [List.getElem?_map] at hrow
              cases hpi : ps[i]? with
              | none => rw [hpi] at hrow; cases hrow
              | some p =>
                rw [hpi] at hrow
                cases hrow
                have hpq := (p2 i p hpi).1
                obtain ⟨_, z1, z2⟩ := World.cells?_some hpq
                refine ⟨z1, fun r hr => ?_⟩
                have := z2 r hr
                rw [Go.Deep.add_add, at_] at this
                rw [← this, Array.getElem?_toList]
                congr 1; omega
            refine ⟨a.block, a.off, c, el, fr, c.toList.take a.off, c.toList.drop (a.off + (ps.map (·.2)).length * P.cellsOf e), ps.map (·.2), ?_, ?_, hheap, ?_, ?_, ?_⟩
            · obtain ⟨b, o, s⟩ := a
              simp at hspot
              subst hspot
              rfl
            · unfold oldZ
              exact (Array.getElem?_eq_some_iff.1 hheap).1
            · rw [← hrows, List.take_append_drop]
            · rw [List.length_take, Nat.min_eq_left]
              have h3 : c[a.off]? ≠ none := by have := at_ 0; rw [ha0] at this; rw [Nat.add_zero] at this; rw [← this]; exact hc0
              have : a.off < c.size := by
                cases hh : c[a.off]? with
                | none => exact absurd hh h3
                | some v => exact (Array.getElem?_eq_some_iff.1 hh).1
              simp; omega
            · refine All2.of_get (by simp) fun i x row hx hr => ?_
              rw [List.getElem?_map] at hx hr
              cases hpi : ps[i]? with
              | none => rw [hpi] at hx; cases hx
              | some p =>
                rw [hpi] at hx hr
                cases hx; cases hr
                exact (p2 i p hpi).2.1
        · obtain ⟨p, hp, rfl⟩ := List.mem_map.1 hx
          obtain ⟨i, hi⟩ := List.mem_iff_getElem?.1 hp
          exact (p2 i p hi).2.2
    · rename_i fs hu
      obtain ⟨xs, q, _, _, hlen, hxl, hf⟩ := DataW.trod_struct hu hx
      have := fields_dv (M := M) (P := P) (w := w) (n := q) (chk := tyChk P n) hlen (fun t T hc cs x hx => trod_dv n t T hc q cs x hx) fs.toList 0 _ h (fun f hfm => by
        obtain ⟨i, hi⟩ := List.mem_iff_getElem?.1 hfm
        rw [Array.getElem?_toList] at hi
        have hlt := (Array.getElem?_eq_some_iff.1 hi).1
        refine ⟨xs[i]'(by omega), ?_⟩
        rw [hf i f hi, List.getElem?_eq_getElem (by omega)])
      simpa using this
    · cases h
end
end Go.Proofs.YtdjkdmjdcdljmaaGreatX
