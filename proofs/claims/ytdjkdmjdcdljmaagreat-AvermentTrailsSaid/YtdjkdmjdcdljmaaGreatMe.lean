/- Own work. No condition. -/
import Derived.Test.YtdjkdmjdcdljmaaGreatMd

namespace Go.Proofs.YtdjkdmjdcdljmaaGreatX
open Go.RowKit
set_option linter.unusedVariables false
set_option linter.unusedSimpArgs false

def BlkR (w : World) (st : Status) (e : TypeId) (row n : Nat) (cells : List Value) : Prop :=
  ∃ s, st = .alive s ∧ s.row = row ∧ (row ≠ 0 → cells.length = n * row) ∧
    ((s.real = none ∧ n = 0 ∧ row ≠ 0 ∧ ∃ a, s.whole = .slice a 0 0) ∨
     ∃ r rest, s.real = some r ∧ w.heap[r]? = some (.cells (cells ++ rest).toArray e (0, 0)) ∧ (row ≠ 0 → s.cap ≤ maxLen ∧ (cells ++ rest).length = s.cap * row ∧ s.whole = .slice (some ⟨r, 0, none⟩) n s.cap))
section
variable (M : Cfg)
def RowsR (σ : Num) (Z : Zone) (w : World) (t : Ty) (fs : List Nat) (xs : List t.I) (rows : List (List Value)) : Prop := All2 (fun x row => RVs M σ Z w (t.cells fs x) row) xs rows
def HER (σ : Num) (Z : Zone) (w : World) (F : Nat) : HE → Prop
  | .dead => ∀ k, σ F k = .dead
  | .cells e row cs => (∀ k, σ F (k + 1) = .dead) ∧ cs.all V.one = true ∧ ∃ vs n, RVs M σ Z w cs vs ∧ BlkR w (σ F 0) e row n vs
  | .list e t fs xs => (∀ k, σ F (k + 1) = .dead) ∧ ∃ rows, RowsR M σ Z w t fs xs rows ∧ BlkR w (σ F 0) e t.size xs.length rows.flatten
  | .many e t xs => (∀ (k : Nat) ys, xs[k]? = some ys → ∃ rows, RowsR M σ Z w t [] ys rows ∧ BlkR w (σ F k) e t.size ys.length rows.flatten) ∧ ∀ k, xs.length ≤ k → σ F k = .fresh
end
structure Inv (σ : Num) (Z : Zone) (w : World) : Prop where
  inj : ∀ F k F' k' r, σ.real F k r → σ.real F' k' r → F = F' ∧ k = k'
  lt : ∀ r, σ.own r → r < w.heap.size
  zlt : ∀ r, Z r → r < w.heap.size
  off : ∀ r, σ.own r → ¬ Z r
def ownT (σ : Num) (Fs : List Nat) (r : Nat) : Prop := ∃ F ∈ Fs, ∃ k, σ.real F k r
theorem ownT.own {σ : Num} {Fs : List Nat} {r : Nat} (h : ownT σ Fs r) : σ.own r := by obtain ⟨F, _, k, h⟩ := h; exact ⟨F, k, h⟩
def fams (chg : List (Nat × HE)) : List Nat := chg.map (·.1)

variable {M : Cfg}
structure Moves (M : Cfg) (σ : Num) (Z : Zone) (w : World) (σ' : Num) (Z' : Zone) (w' : World) (chg : List (Nat × HE)) : Prop where
  os : w'.os = w.os
  tape : w'.tape = w.tape
  output : w'.output = w.output
  size : w.heap.size ≤ w'.heap.size
  st : ∀ F k, StLe (σ F k) (σ' F k)
  other : ∀ F, F ∉ fams chg → ∀ k, σ' F k = σ F k
  zone : ∀ r, Z r → Z' r
  znew : ∀ r, Z' r → Z r ∨ ownT σ (fams chg) r ∨ w.heap.size ≤ r
  block : ∀ r, r < w.heap.size → ¬ ownT σ (fams chg) r → w'.heap[r]? = w.heap[r]?
  new : ∀ F k r, F ∈ fams chg → σ'.real F k r → ownT σ (fams chg) r ∨ w.heap.size ≤ r
  inv : Inv σ' Z' w'
  her : ∀ F he, (F, he) ∈ chg → HER M σ' Z' w' F he
theorem Moves.le {σ σ' : Num} {Z Z' : Zone} {w w' : World} {chg : List (Nat × HE)} (hi : Inv σ Z w) (h : Moves M σ Z w σ' Z' w' chg) : Le σ Z w σ' Z' w' :=
  ⟨h.st, h.zone, fun r hr => h.block r (hi.zlt r hr) fun ho => hi.off r ho.own hr⟩
theorem Moves.of_below {σ : Num} {Z : Zone} {w w' : World} (hi : Inv σ Z w) (h : Below w.heap.size w w') : Moves M σ Z w σ Z w' [] :=
  ⟨h.os, h.tape, h.output, h.size, fun _ _ => .same _, fun _ _ _ => rfl, fun _ h => h, fun _ h => .inl h, fun r hr _ => h.block r hr, fun F k r hF => by simp [fams] at hF,
    ⟨hi.inj, fun r hr => Nat.lt_of_lt_of_le (hi.lt r hr) h.size, fun r hr => Nat.lt_of_lt_of_le (hi.zlt r hr) h.size, hi.off⟩, fun F he hF => by simp at hF⟩
theorem Moves.still {σ : Num} {Z : Zone} {w : World} (hi : Inv σ Z w) : Moves M σ Z w σ Z w [] := Moves.of_below hi (Below.refl _ _)

theorem BlkR.keep {w w' : World} {st : Status} {e : TypeId} {row n : Nat} {cs : List Value} (h : BlkR w st e row n cs) (hk : ∀ s r, st = .alive s → s.real = some r → w'.heap[r]? = w.heap[r]?) : BlkR w' st e row n cs := by
  obtain ⟨s, h1, h2, h3, h4⟩ := h
  refine ⟨s, h1, h2, h3, h4.imp id ?_⟩
  rintro ⟨r, rest, h5, h6, h7⟩
  exact ⟨r, rest, h5, (hk s r h1 h5).trans h6, h7⟩
theorem RowsR.mono {σ σ' : Num} {Z Z' : Zone} {w w' : World} (h : Le σ Z w σ' Z' w') {t : Ty} {fs : List Nat} {xs : List t.I} {rows : List (List Value)} (k : RowsR M σ Z w t fs xs rows) : RowsR M σ' Z' w' t fs xs rows :=
  All2.mono (fun _ _ _ => RVs.mono h) k
theorem HER.keep {σ σ' : Num} {Z Z' : Zone} {w w' : World} (h : Le σ Z w σ' Z' w') {F : Nat} {he : HE} (hs : ∀ k, σ' F k = σ F k) (hk : ∀ k r, σ.real F k r → w'.heap[r]? = w.heap[r]?) (k : HER M σ Z w F he) : HER M σ' Z' w' F he := by
  cases he with
  | dead => intro i; rw [hs]; exact k i
  | cells e row cs =>
    obtain ⟨h1, h2, vs, n, h3, h4⟩ := k
    refine ⟨fun i => by rw [hs]; exact h1 i, h2, vs, n, h3.mono h, ?_⟩
    rw [hs]
    exact h4.keep fun s r h5 h6 => hk 0 r ⟨s, h5, h6⟩
  | list e t fs xs =>
    obtain ⟨h1, rows, h3, h4⟩ := k
    refine ⟨fun i => by rw [hs]; exact h1 i, rows, h3.mono h, ?_⟩
    rw [hs]
    exact h4.keep fun s r h5 h6 => hk 0 r ⟨s, h5, h6⟩
  | many e t xs =>
    obtain ⟨h1, h2⟩ := k
    refine ⟨fun i ys hy => ?_, fun i hi => by rw [hs]; exact h2 i hi⟩
    obtain ⟨rows, h3, h4⟩ := h1 i ys hy
    refine ⟨rows, h3.mono h, ?_⟩
    rw [hs]
    exact h4.keep fun s r h5 h6 => hk i r ⟨s, h5, h6⟩
theorem Moves.keep {σ σ' : Num} {Z Z' : Zone} {w w' : World} {chg : List (Nat × HE)} (hi : Inv σ Z w) (h : Moves M σ Z w σ' Z' w' chg) {F : Nat} {he : HE} (hF : F ∉ fams chg) (k : HER M σ Z w F he) : HER M σ' Z' w' F he := by
  refine HER.keep (h.le hi) (h.other F hF) (fun i r hr => h.block r (hi.lt r ⟨F, i, hr⟩) ?_) k
  rintro ⟨G, hG, j, hj⟩
  obtain ⟨rfl, _⟩ := hi.inj _ _ _ _ r hr hj
  exact hF hG

def Num.upd (σ : Num) (F : Nat) (f : Nat → Status) : Num := fun G k => if G = F then f k else σ G k
theorem Num.upd_same (σ : Num) (F : Nat) (f : Nat → Status) (k : Nat) : σ.upd F f F k = f k := if_pos rfl
theorem Num.upd_ne {σ : Num} {F G : Nat} {f : Nat → Status} (h : G ≠ F) (k : Nat) : σ.upd F f G k = σ G k := if_neg h
def one (s : Slot) : Nat → Status
  | 0 => .alive s
  | _ + 1 => .dead

theorem setRow_size (w : World) (g : Nat) (cs : Array Value) : (w.setRow g cs).heap.size = w.heap.size := by simp [World.setRow]

theorem moves_new {σ : Num} {Z : Zone} {w w' : World} {F : Nat} {he : HE} {o : Obj} {s : Slot} (hi : Inv σ Z w) (hf : ∀ k, σ F k = .fresh) (hh : w'.heap = w.heap.push o) (h1 : w'.os = w.os) (h2 : w'.tape = w.tape) (h3 : w'.output = w.output)
    (hs : s.real = some w.heap.size) (hr : HER M (σ.upd F (one s)) Z w' F he) : Moves M σ Z w (σ.upd F (one s)) Z w' [(F, he)] := by
  have hreal : ∀ G k r, (σ.upd F (one s)).real G k r → (G = F ∧ k = 0 ∧ r = w.heap.size) ∨ (G ≠ F ∧ σ.real G k r) := by
    intro G k r ⟨s', e1, e2⟩
    by_cases e : G = F
    · subst e
      rw [Num.upd_same] at e1
      cases k with
      | zero => simp only [one, Status.alive.injEq] at e1; subst e1; rw [hs] at e2; cases e2; exact .inl ⟨rfl, rfl, rfl⟩
      | succ k => cases e1
    · rw [Num.upd_ne e] at e1; exact .inr ⟨e, s', e1, e2⟩
  have hsz : w'.heap.size = w.heap.size + 1 := by rw [hh]; simp
  have hnot : ∀ r, ¬ ownT σ [F] r := by
    rintro r ⟨G, hG, k, s', e1, _⟩
    simp at hG; subst hG
    rw [hf k] at e1; cases e1
  refine ⟨h1, h2, h3, by omega, fun G k => ?_, fun G hG k => Num.upd_ne (by simpa [fams] using hG) k, fun _ h => h, fun _ h => .inl h, fun r hr _ => ?_, fun G k r hG hr' => ?_, ⟨fun G k G' k' r a b => ?_, fun r ⟨G, k, hr'⟩ => ?_, fun r hz => by have := hi.zlt r hz; omega, fun r ⟨G, k, hr'⟩ hz => ?_⟩, fun G he' hG => ?_⟩
  · by_cases e : G = F
    · subst e; rw [hf]; exact .born _
    · rw [Num.upd_ne e]; exact .same _
  · rw [hh, Array.getElem?_push, if_neg (by omega)]
  · rcases hreal G k r hr' with ⟨_, _, rfl⟩ | ⟨e, _⟩
    · exact .inr (Nat.le_refl _)
    · simp [fams] at hG; exact absurd hG e
  · rcases hreal G k r a with ⟨rfl, rfl, rfl⟩ | ⟨e, a'⟩ <;> rcases hreal G' k' _ b with ⟨rfl, rfl, e2⟩ | ⟨e', b'⟩
    · exact ⟨rfl, rfl⟩
    · exact absurd (hi.lt _ ⟨_, _, b'⟩) (Nat.lt_irrefl _)
    · subst e2; exact absurd (hi.lt _ ⟨_, _, a'⟩) (Nat.lt_irrefl _)
    · exact hi.inj _ _ _ _ r a' b'
  · rcases hreal G k r hr' with ⟨_, _, rfl⟩ | ⟨_, a⟩
    · omega
    · have := hi.lt r ⟨_, _, a⟩; omega
  · rcases hreal G k r hr' with ⟨_, _, rfl⟩ | ⟨_, a⟩
    · exact absurd (hi.zlt _ hz) (Nat.lt_irrefl _)
    · exact hi.off r ⟨_, _, a⟩ hz
  · simp at hG; obtain ⟨rfl, rfl⟩ := hG; exact hr
theorem moves_put {σ : Num} {Z : Zone} {w w' : World} {F k r : Nat} {he : HE} (hi : Inv σ Z w) (hF : σ.real F k r) (hh : ∀ b, b ≠ r → w'.heap[b]? = w.heap[b]?) (hsz : w'.heap.size = w.heap.size) (h1 : w'.os = w.os) (h2 : w'.tape = w.tape) (h3 : w'.output = w.output)
    (hr : HER M σ Z w' F he) : Moves M σ Z w σ Z w' [(F, he)] := by
  have hown : ownT σ [F] r := ⟨F, by simp, k, hF⟩
  refine ⟨h1, h2, h3, by omega, fun _ _ => .same _, fun _ _ _ => rfl, fun _ h => h, fun _ h => .inl h, fun b hb hn => hh b fun e => hn (by subst e; exact hown), fun G j b hG hb => .inl ⟨G, hG, j, hb⟩,
    ⟨hi.inj, fun b hb => by rw [hsz]; exact hi.lt b hb, fun b hb => by rw [hsz]; exact hi.zlt b hb, hi.off⟩, fun G he' hG => ?_⟩
  simp at hG; obtain ⟨rfl, rfl⟩ := hG; exact hr
theorem le_put {σ : Num} {Z : Zone} {w w' : World} {F k r : Nat} (hi : Inv σ Z w) (hF : σ.real F k r) (hh : ∀ b, b ≠ r → w'.heap[b]? = w.heap[b]?) : Le σ Z w σ Z w' :=
  ⟨fun _ _ => .same _, fun _ h => h, fun b hb => hh b fun e => hi.off r ⟨F, k, hF⟩ (e ▸ hb)⟩
theorem le_new {σ : Num} {Z : Zone} {w w' : World} {F : Nat} {o : Obj} {f : Nat → Status} (hi : Inv σ Z w) (hf : ∀ k, σ F k = .fresh) (hh : w'.heap = w.heap.push o) : Le σ Z w (σ.upd F f) Z w' := by
  refine ⟨fun G k => ?_, fun _ h => h, fun b hb => ?_⟩
  · by_cases e : G = F
    · subst e; rw [hf]; exact .born _
    · rw [Num.upd_ne e]; exact .same _
  · have := hi.zlt b hb
    rw [hh, Array.getElem?_push, if_neg (by omega)]

structure Fs where
  e : Nat → Option V
  h : Nat → Option HE
def St.fs (S : St) : Fs := ⟨look S.env, fun b => S.heap[b]?⟩
def Fs.ev (F : Fs) : Operand → Option V
  | .tmp t => F.e t
  | .const v => vlit v
  | .func f => some (.fn (.func f) [] [])
  | _ => none
theorem fs_ev (S : St) (x : Operand) : S.fs.ev x = S.ev x := by cases x <;> rfl
def Good (M : Cfg) (F : Fs) (o : Oper) (out : Out) : Prop :=
  ∀ (σ : Num) (Z : Zone) (a : Act) (w : World), Inv σ Z w →
    (∀ x ∈ o.op.operands, ∀ v, F.ev x = some v → RV M σ Z w v (a.eval x)) →
    (∀ G, G ∈ out.rds ∨ G ∈ fams out.chg → ∀ he, F.h G = some he → HER M σ Z w G he) → (∀ G ∈ fams out.chg, F.h G = none → ∀ k, σ G k = .fresh) →
    ∀ (K : Act → World → Prop) (Q : Exit → Act → World → Prop),
      (∀ v' w' σ' Z', RV M σ' Z' w' out.v v' → Moves M σ Z w σ' Z' w' out.chg → K (a.put o.dst v') w') → o.wp M.P a w K Q

theorem wp_value {P : Program} {o : Oper} {a : Act} {w w' : World} {v : Value} {K : Act → World → Prop} {Q : Exit → Act → World → Prop}
    (h : (execOp a.eval o).run P w = .ok (.value v) w') (hk : K (a.put o.dst v) w') : o.wp P a w K Q := by
  unfold Oper.wp; rw [h]; exact hk
theorem wp_skipV {P : Program} {o : Oper} {a : Act} {w w' : World} {K : Act → World → Prop} {Q : Exit → Act → World → Prop}
    (h : (execOp a.eval o).run P w = .ok .skip w') (hk : K (a.put o.dst undef) w') : o.wp P a w K Q := by
  unfold Oper.wp; rw [h]; exact hk
theorem good_still {F : Fs} {o : Oper} {v : V} {rds : List Nat}
    (h : ∀ (σ : Num) (Z : Zone) (a : Act) (w : World), Inv σ Z w → (∀ x ∈ o.op.operands, ∀ v, F.ev x = some v → RV M σ Z w v (a.eval x)) → (∀ G ∈ rds, ∀ he, F.h G = some he → HER M σ Z w G he) →
      ∃ v', RV M σ Z w v v' ∧ (execOp a.eval o).run M.P w = .ok (.value v') w) : Good M F o { v := v, rds := rds } := by
  intro σ Z a w hi hv ht _ K Q hK
  obtain ⟨v', h1, h2⟩ := h σ Z a w hi hv fun G hG => ht G (.inl hG)
  exact wp_value h2 (hK v' w σ Z h1 (Moves.still hi))

theorem calm_run {β : Type} {P : Program} : ∀ (s : Sem β) {a : β} (w : World), calm P s = some a → s.run P w = .ok a w
  | .pure _, _, _, h => by simp [calm] at h; subst h; rfl
  | .program k, _, w, h => by simp only [Sem.run]; exact calm_run (k P) w h
  | .mark _ k, _, w, h => by simp only [Sem.run]; exact calm_run k w h
  | .load .., _, _, h | .store .., _, _, h | .new .., _, _, h | .shape .., _, _, h | .freeze .., _, _, h | .frozen .., _, _, h
  | .getObj .., _, _, h | .setObj .., _, _, h | .choose .., _, _, h | .sys .., _, _, h | .halt .., _, _, h => by simp [calm] at h
theorem flats_spec {S : St} {σ : Num} {Z : Zone} {w : World} : ∀ {l : List Operand}, S.flats l = some () →
    ∀ (a : Act), (∀ x ∈ l, ∀ v, S.fs.ev x = some v → RV M σ Z w v (a.eval x)) → ∀ x ∈ l, S.fl x = a.eval x
  | [], _, _, _ => by simp
  | x :: l, h, a, hv => by
    simp only [St.flats] at h
    cases hx : S.ev x with
    | none => simp [hx] at h
    | some v =>
      simp only [hx] at h
      cases hf : v.flat? with
      | none => simp [hf] at h
      | some u =>
        simp only [hf] at h
        intro y hy
        rcases List.mem_cons.1 hy with rfl | hy
        · rw [(hv y (by simp) v (by rw [fs_ev, hx])).flat hf]
          simp only [St.fl, hx, hf]
        · exact flats_spec h a (fun z hz => hv z (by simp [hz])) y hy
variable {α : Type}
theorem opGen_good {S : St} {o : Oper} {k : Out → Option α} {r : α} (hs : ∀ cs b, o.op ≠ .select cs b) (h : opGen M S o k = some r) : ∃ out, k out = some r ∧ Good M S.fs o out := by
  unfold opGen at h
  split at h
  · cases h
  · rename_i ha
    split at h
    · rename_i v hc
      split at h
      · rename_i u hu
        refine ⟨_, h, good_still (rds := []) fun σ Z a w hi hv _ => ⟨v, RV.ofFlat hu, ?_⟩⟩
        have h2 := flats_spec ha a fun x hx => hv x (by simpa using hx)
        have e : execOp S.fl o = execOp a.eval o := execOp_congr o hs fun x hx => h2 x (by simpa using hx)
        rw [e] at hc
        exact calm_run _ w hc
      · cases h
    · cases h

theorem run_isAgg {P : Program} {t : TypeId} {b : Bool} (h : aggOk P t = some b) (w : World) : (isAgg t).run P w = .ok b w := by
  unfold aggOk at h
  cases hu : P.underlying t with
  | none => simp [hu] at h
  | some d =>
    simp only [hu] at h
    unfold isAgg
    rw [Sem.run_bind, run_underlying hu]
    cases d <;> simp at h <;> subst h <;> rfl
theorem run_zeroV {P : Program} {t : TypeId} {i : TypeInfo} {v : Value} (h : P.info? t = some i) (hz : i.zero = some v) (w : World) : (zeroValue t).run P w = .ok v w := by
  simp [zeroValue, typeInfo, h, hz]
theorem run_sizeV {P : Program} {t : TypeId} {i : TypeInfo} (h : P.info? t = some i) (w : World) : (sizeOf t).run P w = .ok i.size w := by
  simp [sizeOf, typeInfo, h]
theorem add_off (b o j : Nat) : (⟨b, o, none⟩ : Addr).add j = ⟨b, o + j, none⟩ := by unfold Addr.add; split <;> simp_all
theorem zeroOf_spec {t : TypeId} {cs : List V} (h : zeroOf M t = some cs) : ∃ i z, M.P.info? t = some i ∧ i.zero = some z ∧ cs.all V.one = true ∧ ∀ (σ : Num) (Z : Zone) (w : World), RVs M σ Z w cs z.cells.toList := by
  unfold zeroOf at h
  split at h
  · rename_i i hi
    split at h
    · rename_i z hz
      split at h
      · rename_i v hv
        cases h
        refine ⟨i, z, hi, hz, ?_, fun σ Z w => RV.cells ?_ (RV.ofFlat hv)⟩
        · have := RV.ofFlat (M := M) (σ := fun _ _ => .dead) (Z := fun _ => False) (w := default) hv
          unfold V.ofFlat at hv
          split at hv
          · cases hl : (_ : Array Value).toList.all leafB with
            | false => rw [hl] at hv; cases hv
            | true => rw [hl] at hv; simp at hv; subst hv; exact all_one_lf _
          · cases hl : leafB z with
            | false => rw [hl] at hv; cases hv
            | true => rw [hl] at hv; simp at hv; subst hv; rfl
        · unfold V.ofFlat at hv
          split at hv
          · cases hl : (_ : Array Value).toList.all leafB with
            | false => rw [hl] at hv; cases hv
            | true => rw [hl] at hv; simp at hv; subst hv; rfl
          · cases hl : leafB z with
            | false => rw [hl] at hv; cases hv
            | true => rw [hl] at hv; simp at hv; subst hv; rfl
      · cases h
    · cases h
  · cases h
end Go.Proofs.YtdjkdmjdcdljmaaGreatX
