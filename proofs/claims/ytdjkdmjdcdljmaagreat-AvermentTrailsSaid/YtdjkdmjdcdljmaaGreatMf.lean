/- Own work. No condition. -/
import Derived.Test.YtdjkdmjdcdljmaaGreatMe

import Derived.Laws.CopyRow
import Derived.Laws.AppendOwn
namespace Go.Proofs.YtdjkdmjdcdljmaaGreatX
open Go.RowKit
set_option linter.unusedVariables false
set_option linter.unusedSimpArgs false
variable {M : Cfg} {α : Type}

theorem aliveB_spec {H : List HE} {b : Bid} (h : aliveB H b = true) : ∃ he, H[b.1]? = some he ∧ ∀ (σ : Num) (Z : Zone) (w : World), HER M σ Z w b.1 he → ∃ s, σ b.1 b.2 = .alive s ∧ s.row = rowSz H b.1 := by
  obtain ⟨F, k⟩ := b
  unfold aliveB at h
  split at h
  · rename_i e row cs hh
    obtain rfl := Nat.eq_of_beq_eq_true h
    exact ⟨_, hh, fun σ Z w ⟨_, _, _, _, _, s, hs, hr, _⟩ => ⟨s, hs, by simp only [rowSz, hh, hr]⟩⟩
  · rename_i e t fs xs hh
    obtain rfl := Nat.eq_of_beq_eq_true h
    exact ⟨_, hh, fun σ Z w ⟨_, _, _, s, hs, hr, _⟩ => ⟨s, hs, by simp only [rowSz, hh, hr]⟩⟩
  · rename_i e t xs hh
    have hk : k < xs.length := Nat.le_of_ble_eq_true h
    refine ⟨_, hh, fun σ Z w ⟨h1, _⟩ => ?_⟩
    obtain ⟨_, _, s, hs, hr, _⟩ := h1 k xs[k] (by simp [hk])
    exact ⟨s, hs, by simp only [rowSz, hh, hr]⟩
  · cases h

def AtRow (M : Cfg) (σ : Num) (Z : Zone) (w : World) (b : Bid) (i : Nat) (cs : List V) : Prop :=
  ∃ s r pre vs post e, σ b.1 b.2 = .alive s ∧ s.real = some r ∧ w.heap[r]? = some (.cells (pre ++ (vs ++ post)).toArray e (0, 0)) ∧ pre.length = i * s.row ∧ RVs M σ Z w cs vs

theorem flatten_take_length {n : Nat} {rows : List (List Value)} (h : ∀ r ∈ rows, r.length = n) : ∀ {i : Nat}, i ≤ rows.length → (rows.take i).flatten.length = i * n := by
  induction rows with
  | nil => intro i hi; simp at hi; subst hi; simp
  | cons r rows ih =>
    intro i hi
    cases i with
    | zero => simp
    | succ i =>
      simp only [List.take_succ_cons, List.flatten_cons, List.length_append]
      rw [ih (fun x hx => h x (by simp [hx])) (by simpa using hi), h r (by simp), Nat.add_mul, Nat.one_mul, Nat.add_comm]
theorem flatten_at {rows : List (List Value)} {i : Nat} {row : List Value} (h : rows[i]? = some row) : rows.flatten = (rows.take i).flatten ++ (row ++ (rows.drop (i + 1)).flatten) := by
  have hi : i < rows.length := (List.getElem?_eq_some_iff.1 h).1
  have e : rows = rows.take i ++ (row :: rows.drop (i + 1)) := by
    have h2 : rows[i] = row := (List.getElem?_eq_some_iff.1 h).2
    rw [← h2, List.getElem_cons_drop, List.take_append_drop]
  conv => lhs; rw [e]
  simp
theorem RowsR.len {σ : Num} {Z : Zone} {w : World} {t : Ty} {fs : List Nat} {xs : List t.I} {rows : List (List Value)} (h : RowsR M σ Z w t fs xs rows) : ∀ r ∈ rows, r.length = t.size := by
  unfold RowsR at h
  induction rows generalizing xs with
  | nil => simp
  | cons r rows ih =>
    cases xs with
    | nil => exact h.elim
    | cons x xs =>
      intro q hq
      rcases List.mem_cons.1 hq with rfl | hq
      · rw [← h.1.length, Ty.cells_length]
      · exact ih h.2 q hq
theorem atRow_list {σ : Num} {Z : Zone} {w : World} {t : Ty} {fs : List Nat} {xs : List t.I} {rows : List (List Value)} {F k e i : Nat} {x : t.I} (h : RowsR M σ Z w t fs xs rows) (hb : BlkR w (σ F k) e t.size xs.length rows.flatten) (hx : xs[i]? = some x) :
    AtRow M σ Z w (F, k) i (t.cells fs x) := by
  obtain ⟨row, h1, h2⟩ := h.get hx
  obtain ⟨s, hs, hrow, _, hreal⟩ := hb
  have hpos := t.size_pos
  have hi : i < xs.length := (List.getElem?_eq_some_iff.1 hx).1
  rcases hreal with ⟨_, h0, _⟩ | ⟨r, rest, h3, h4, _⟩
  · omega
  · refine ⟨s, r, (rows.take i).flatten, row, (rows.drop (i + 1)).flatten ++ rest, e, hs, h3, ?_, ?_, h2⟩
    · rw [h4, flatten_at h1]; simp
    · rw [flatten_take_length h.len (by have := h.length; omega), hrow]
theorem rowAt_spec {H : List HE} {b : Bid} {i : Nat} {k : List V → Option α} {r : α} (h : rowAt H b i k = some r) : ∃ cs he, H[b.1]? = some he ∧ k cs = some r ∧ ∀ (σ : Num) (Z : Zone) (w : World), HER M σ Z w b.1 he → AtRow M σ Z w b i cs := by
  obtain ⟨F, kk⟩ := b
  unfold rowAt at h
  split at h
  · rename_i e row cs hh
    split at h
    · rename_i h0
      simp only at h0; subst h0
      cases hlt : Nat.blt (i * row) cs.length with
      | false => simp [hlt] at h
      | true =>
        simp only [hlt, cond_true] at h
        have hlt' : i * row < cs.length := Nat.le_of_ble_eq_true hlt
        refine ⟨_, _, hh, h, fun σ Z w ⟨_, _, vs, n, h1, s, hs, hrow, hn, hreal⟩ => ?_⟩
        have hl := h1.length
        rcases hreal with ⟨_, h0, hne, _⟩ | ⟨r, rest, h3, h4, _⟩
        · rw [h0] at hn; have := hn hne; omega
        · refine ⟨s, r, vs.take (i * row), vs.drop (i * row), rest, e, hs, h3, ?_, ?_, h1.drop _⟩
          · rw [h4, ← List.append_assoc, List.take_append_drop]
          · rw [List.length_take, hrow]; omega
    · cases h
  · rename_i e t fs xs hh
    split at h
    · rename_i h0
      simp only at h0; subst h0
      split at h
      · rename_i x hx
        exact ⟨_, _, hh, h, fun σ Z w ⟨_, rows, h1, h2⟩ => atRow_list h1 h2 hx⟩
      · cases h
    · cases h
  · rename_i e t xs hh
    split at h
    · rename_i ys hys
      split at h
      · rename_i x hx
        refine ⟨_, _, hh, h, fun σ Z w ⟨h1, _⟩ => ?_⟩
        obtain ⟨rows, h2, h3⟩ := h1 kk ys hys
        exact atRow_list h2 h3 hx
      · cases h
    · cases h
  · cases h

theorem run_load_agg {P : Program} {w : World} {t : TypeId} {i : TypeInfo} {b off : Nat} {cs : Array Value} {e : TypeId} {fr : Nat × Nat} (ha : aggOk P t = some true) (hi : P.info? t = some i)
    (hg : w.heap[b]? = some (.cells cs e fr)) (hl : off + i.size ≤ cs.size) :
    (loadVar t ⟨b, off, none⟩).run P w = .ok (.agg ((cs.toList.drop off).take i.size).toArray) w := by
  have hn : ((cs.toList.drop off).take i.size).length = i.size := by simp; omega
  have := run_loadCells_list (P := P) w ⟨b, off, none⟩ ((cs.toList.drop off).take i.size) fun j v hj => by
    rw [add_off]
    have hj' : j < i.size := by
      have := (List.getElem?_eq_some_iff.1 hj).1
      omega
    simp only [World.cell?, hg]
    rw [List.getElem?_take_of_lt hj', List.getElem?_drop, Array.getElem?_toList] at hj
    simpa using hj
  rw [hn] at this
  simp [loadVar, run_isAgg ha, run_sizeV hi, this]
theorem run_load_one {P : Program} {w : World} {t : TypeId} {b off : Nat} {cs : Array Value} {e : TypeId} {fr : Nat × Nat} {v : Value} (ha : aggOk P t = some false)
    (hg : w.heap[b]? = some (.cells cs e fr)) (hl : cs.toList[off]? = some v) :
    (loadVar t ⟨b, off, none⟩).run P w = .ok v w := by
  have : w.cell? ⟨b, off, none⟩ = some v := by simp only [World.cell?, hg]; simpa using hl
  simp [loadVar, run_isAgg ha, this]
theorem takeC_spec {cs vs : List V} {off n : Nat} (h : takeC cs off n = some vs) : off + n ≤ cs.length ∧ vs = (cs.drop off).take n := by
  unfold takeC at h
  cases hb : Nat.ble (off + n) cs.length with
  | false => simp [hb] at h
  | true => simp only [hb, cond_true, Option.some.injEq] at h; exact ⟨Nat.le_of_ble_eq_true hb, h.symm⟩
theorem vpart_load {σ : Num} {Z : Zone} {w : World} {t : TypeId} {cs : List V} {off : Nat} {v : V} {r : Nat} {pre vs post : List Value} {e : TypeId} {fr : Nat × Nat} (h : vpart M t cs off = some v) (hone : cs.all V.one = true)
    (hg : w.heap[r]? = some (.cells (pre ++ (vs ++ post)).toArray e fr)) (hv : RVs M σ Z w cs vs) : ∃ v', RV M σ Z w v v' ∧ (loadVar t ⟨r, pre.length + off, none⟩).run M.P w = .ok v' w := by
  have hl := hv.length
  unfold vpart at h
  split at h
  · rename_i i ha hi
    split at h
    · rename_i us hus
      cases h
      obtain ⟨h1, rfl⟩ := takeC_spec hus
      refine ⟨_, ?_, run_load_agg ha hi hg (by simp; omega)⟩
      simp only [RV]
      refine ⟨_, rfl, ?_, ?_⟩
      · rw [List.all_eq_true] at hone ⊢
        intro x hx
        exact hone x (List.mem_of_mem_drop (List.mem_of_mem_take hx))
      · have e1 : (((pre ++ (vs ++ post)).toArray.toList.drop (pre.length + off)).take i.size) = (vs.drop off).take i.size := by
          simp only []
          rw [List.drop_append, List.drop_append]
          rw [List.drop_eq_nil_of_le (show pre.length ≤ pre.length + off by omega)]
          simp only [Nat.add_sub_cancel_left, List.nil_append]
          rw [List.take_append_of_le_length (by rw [List.length_drop]; omega)]
        rw [e1]
        exact (hv.drop off).take i.size
    · cases h
  · rename_i ha
    obtain ⟨v', h1, h2⟩ := hv.get h
    have hlt := (List.getElem?_eq_some_iff.1 h1).1
    refine ⟨v', h2, run_load_one ha hg ?_⟩
    simp only []
    rw [List.getElem?_append_right (by omega), Nat.add_sub_cancel_left, List.getElem?_append_left hlt]
    exact h1
  · cases h

theorem ptr_of {σ : Num} {Z : Zone} {w : World} {b : Bid} {i off : Nat} {v' : Value} {s : Slot} (h : RV M σ Z w (.ptr b i off) v') (hs : σ b.1 b.2 = .alive s) : ∃ r, s.real = some r ∧ v' = .pointer (some ⟨r, i * s.row + off, none⟩) := by
  simp only [RV, hs] at h
  exact h
theorem rowAt_one {H : List HE} {b : Bid} {i : Nat} {k : List V → Option α} {r : α} (h : rowAt H b i k = some r) : ∃ cs he, H[b.1]? = some he ∧ k cs = some r ∧ ∀ (σ : Num) (Z : Zone) (w : World), HER M σ Z w b.1 he → AtRow M σ Z w b i cs ∧ cs.all V.one = true := by
  obtain ⟨F, kk⟩ := b
  unfold rowAt at h
  split at h
  · rename_i e row cs hh
    have hh0 := hh
    have := rowAt_spec (M := M) (H := H) (b := (F, kk)) (i := i) (k := k) (r := r) (by unfold rowAt; rw [hh]; exact h)
    obtain ⟨cs', he, h1, h2, h3⟩ := this
    simp only [hh] at h1
    cases h1
    split at h
    · cases hlt : Nat.blt (i * row) cs.length with
      | false => simp [hlt] at h
      | true =>
        simp only [hlt, cond_true] at h
        refine ⟨cs.drop (i * row), _, hh, h, fun σ Z w hr => ⟨?_, ?_⟩⟩
        · rename_i h0
          simp only at h0; subst h0
          have hlt' : i * row < cs.length := Nat.le_of_ble_eq_true hlt
          obtain ⟨_, _, vs, n, h1, s, hs, hrow, hn, hreal⟩ := hr
          have hl := h1.length
          rcases hreal with ⟨_, h0, hne, _⟩ | ⟨r, rest, h3, h4, _⟩
          · rw [h0] at hn; have := hn hne; omega
          · refine ⟨s, r, vs.take (i * row), vs.drop (i * row), rest, e, hs, h3, ?_, ?_, h1.drop _⟩
            · rw [h4, ← List.append_assoc, List.take_append_drop]
            · rw [List.length_take, hrow]; omega
        · have ho := hr.2.1
          rw [List.all_eq_true] at ho ⊢
          exact fun x hx => ho x (List.mem_of_mem_drop hx)
    · cases h
  · rename_i e t fs xs hh
    split at h
    · rename_i h0
      simp only at h0; subst h0
      split at h
      · rename_i x hx
        exact ⟨_, _, hh, h, fun σ Z w ⟨_, rows, h1, h2⟩ => ⟨atRow_list h1 h2 hx, Ty.cells_one _ _ _⟩⟩
      · cases h
    · cases h
  · rename_i e t xs hh
    split at h
    · rename_i ys hys
      split at h
      · rename_i x hx
        refine ⟨_, _, hh, h, fun σ Z w ⟨h1, _⟩ => ⟨?_, Ty.cells_one _ _ _⟩⟩
        obtain ⟨rows, h2, h3⟩ := h1 kk ys hys
        exact atRow_list h2 h3 hx
      · cases h
    · cases h
  · cases h

theorem opLoad_good {S : St} {o : Oper} {t : TypeId} {x : Operand} {u : V} {k : Out → Option α} {r : α} (ho : o.op = .load t x) (hx : S.ev x = some u) (h : opLoad M S t u k = some r) :
    ∃ out, k out = some r ∧ Good M S.fs o out := by
  unfold opLoad at h
  split at h
  · rename_i b i off
    obtain ⟨cs, he, h1, h2, h3⟩ := rowAt_one (M := M) h
    split at h2
    · rename_i v hv
      refine ⟨_, h2, good_still fun σ Z a w hi hop ht => ?_⟩
      obtain ⟨⟨s, rr, pre, vs, post, e, g1, g2, g3, g4, g5⟩, g6⟩ := h3 σ Z w (ht b.1 (by simp) he h1)
      obtain ⟨r', k1, k2⟩ := ptr_of (hop x (by simp [ho, Op.operands]) _ (by rw [fs_ev, hx])) g1
      rw [g2] at k1
      cases k1
      obtain ⟨v', q1, q2⟩ := vpart_load hv g6 g3 g5
      refine ⟨v', q1, ?_⟩
      rw [g4] at q2
      simp [execOp, ho, Instr.loadAt, k2, Instr.sureAddr, q2]
    · cases h2
  · rename_i ty y
    split at h
    · rename_i y
      split at h
      · rename_i v hv
        refine ⟨_, h, good_still (rds := []) fun σ Z a w hi hop _ => ?_⟩
        have hp := hop x (by simp [ho, Op.operands]) _ (by rw [fs_ev, hx])
        simp only [RV, DV] at hp
        obtain ⟨b, off, cs, el, fr, pre, row, post, k1, k2, k3, k4, k5, k6⟩ := hp
        simp at k1
        have hcs : cs = (pre ++ (row ++ post)).toArray := by rw [← k4]
        rw [hcs] at k3
        obtain ⟨v', q1, q2⟩ := vpart_load (σ := σ) hv (Ty.cells_one _ _ _) k3 (DV.rvs [] k6)
        refine ⟨v', q1, ?_⟩
        rw [Nat.add_zero, k5] at q2
        simp [execOp, ho, Instr.loadAt, k1, Instr.sureAddr, q2]
      · cases h
    · cases h
  · cases h

theorem putC_spec {cs us vs : List V} {off : Nat} (h : putC cs off vs = some us) : off + vs.length ≤ cs.length ∧ us = cs.take off ++ (vs ++ cs.drop (off + vs.length)) := by
  unfold putC at h
  cases hb : Nat.ble (off + vs.length) cs.length with
  | false => simp [hb] at h
  | true => simp only [hb, cond_true, Option.some.injEq] at h; exact ⟨Nat.le_of_ble_eq_true hb, h.symm⟩

def PutRow (M : Cfg) (σ : Num) (Z : Zone) (w : World) (b : Bid) (i off n : Nat) (vs : List V) (he : HE) : Prop :=
  ∃ s r pre mid post e, σ b.1 b.2 = .alive s ∧ s.real = some r ∧ w.heap[r]? = some (.cells (pre ++ (mid ++ post)).toArray e (0, 0)) ∧ pre.length = i * s.row + off ∧ mid.length = n ∧
    ∀ us w', RVs M σ Z w vs us → w'.heap[r]? = some (.cells (pre ++ (us ++ post)).toArray e (0, 0)) → (∀ c, c ≠ r → w'.heap[c]? = w.heap[c]?) → HER M σ Z w' b.1 he

theorem set_flatten {rows : List (List Value)} {i : Nat} {row : List Value} (hi : i < rows.length) : (rows.set i row).flatten = (rows.take i).flatten ++ (row ++ (rows.drop (i + 1)).flatten) := by
  have h : (rows.set i row)[i]? = some row := by simp [hi]
  rw [flatten_at h]
  simp [List.take_set_of_le, List.drop_set_of_lt]
theorem All2.set {β γ : Type} {R : β → γ → Prop} : ∀ {l : List β} {m : List γ} {i : Nat} {a : β} {b : γ}, All2 R l m → R a b → All2 R (l.set i a) (m.set i b)
  | [], [], _, _, _, _, _ => trivial
  | _ :: _, _ :: _, 0, _, _, ⟨_, h2⟩, h => ⟨h, h2⟩
  | _ :: _, _ :: _, _ + 1, _, _, ⟨h1, h2⟩, h => ⟨h1, All2.set h2 h⟩
  | [], _ :: _, _, _, _, k, _ => k.elim
  | _ :: _, [], _, _, _, k, _ => k.elim

theorem listPut {σ : Num} {Z : Zone} {w : World} {t : Ty} {fs : List Nat} {xs : List t.I} {rows : List (List Value)} {F k e i off : Nat} {x y : t.I} {vs cs' : List V} (hinv : Inv σ Z w) (h : RowsR M σ Z w t fs xs rows) (hb : BlkR w (σ F k) e t.size xs.length rows.flatten) (hx : xs[i]? = some x)
    (hp : putC (t.cells fs x) off vs = some cs') (hy : t.un1 fs cs' = some y) :
    ∃ s r pre mid post, σ F k = .alive s ∧ s.real = some r ∧ w.heap[r]? = some (.cells (pre ++ (mid ++ post)).toArray e (0, 0)) ∧ pre.length = i * s.row + off ∧ mid.length = vs.length ∧
      ∀ us w', RVs M σ Z w vs us → w'.heap[r]? = some (.cells (pre ++ (us ++ post)).toArray e (0, 0)) → (∀ c, c ≠ r → w'.heap[c]? = w.heap[c]?) →
        ∃ rows', RowsR M σ Z w' t fs (xs.set i y) rows' ∧ BlkR w' (σ F k) e t.size (xs.set i y).length rows'.flatten := by
  obtain ⟨row, h1, h2⟩ := h.get hx
  obtain ⟨s, hs, hrow, hlen, hreal⟩ := hb
  have hpos := t.size_pos
  have hi : i < xs.length := (List.getElem?_eq_some_iff.1 hx).1
  have hrl := h.length
  obtain ⟨p1, rfl⟩ := putC_spec hp
  have hcl : row.length = (t.cells fs x).length := h2.length.symm
  rcases hreal with ⟨_, h0, _⟩ | ⟨r, rest, h3, h4, h5⟩
  · omega
  · have hro : σ.real F k r := ⟨s, hs, h3⟩
    have hpre : (rows.take i).flatten.length = i * t.size := flatten_take_length h.len (by omega)
    refine ⟨s, r, (rows.take i).flatten ++ row.take off, (row.drop off).take vs.length, row.drop (off + vs.length) ++ ((rows.drop (i + 1)).flatten ++ rest), hs, h3, ?_, ?_, ?_, fun us w' hus hw' hkeep => ?_⟩
    · rw [h4, flatten_at h1]
      have : row = row.take off ++ ((row.drop off).take vs.length ++ row.drop (off + vs.length)) := by
        rw [← List.drop_drop, List.take_append_drop, List.take_append_drop]
      conv => lhs; rw [this]
      simp
    · rw [List.length_append, hpre, List.length_take, hrow]; omega
    · rw [List.length_take, List.length_drop]; omega
    · have hle : Le σ Z w σ Z w' := le_put hinv hro hkeep
      have hnew : RVs M σ Z w' (t.cells fs y) (row.take off ++ (us ++ row.drop (off + vs.length))) :=
        Ty.un1_spec hy (((h2.mono hle).take off).append ((hus.mono hle).append ((h2.mono hle).drop _)))
      refine ⟨rows.set i (row.take off ++ (us ++ row.drop (off + vs.length))), All2.set (h.mono hle) hnew, s, hs, hrow, fun _ => ?_, .inr ⟨r, rest, h3, ?_, fun hne => ?_⟩⟩
      · rw [set_flatten (by omega), List.length_append, List.length_append, hpre, hnew.length.symm, Ty.cells_length]
        have e1 : (rows.drop (i + 1)).flatten.length = (xs.length - (i + 1)) * t.size := by
          have := flatten_take_length (rows := rows.drop (i + 1)) (fun q hq => h.len q (List.mem_of_mem_drop hq)) (i := (rows.drop (i + 1)).length) (Nat.le_refl _)
          rw [List.take_length, List.length_drop, ← hrl] at this
          exact this
        rw [e1, List.length_set, ← Nat.add_assoc, ← Nat.succ_mul, ← Nat.add_mul]
        congr 1; omega
      · rw [hw', set_flatten (by omega)]; simp
      · obtain ⟨q1, q2, q3⟩ := h5 hne
        refine ⟨q1, ?_, by rw [List.length_set]; exact q3⟩
        rw [← q2, set_flatten (by omega), flatten_at h1]
        have := hus.length
        simp; omega

theorem rowPut_spec {H : List HE} {b : Bid} {i off : Nat} {vs : List V} {k : HE → Option α} {r : α} (h : rowPut H b i off vs k = some r) (hone : vs.all V.one = true) : ∃ he he', H[b.1]? = some he ∧ k he' = some r ∧
    ∀ (σ : Num) (Z : Zone) (w : World), Inv σ Z w → HER M σ Z w b.1 he → PutRow M σ Z w b i off vs.length vs he' := by
  obtain ⟨F, kk⟩ := b
  unfold rowPut at h
  split at h
  · rename_i e row cs hh
    split at h
    · rename_i h0
      simp only at h0; subst h0
      split at h
      · rename_i cs' hcs
        cases hlt : Nat.blt 0 cs.length with
        | false => simp [hlt] at h
        | true =>
        simp only [hlt, cond_true] at h
        have hlt' : 0 < cs.length := Nat.le_of_ble_eq_true hlt
        obtain ⟨p1, rfl⟩ := putC_spec hcs
        refine ⟨_, _, hh, h, fun σ Z w hinv ⟨hd, hall, us0, n, h1, s, hs, hrow, hn, hreal⟩ => ?_⟩
        have hl := h1.length
        rcases hreal with ⟨_, h0, hne, _⟩ | ⟨r, rest, h3, h4, h5⟩
        · rw [h0] at hn; have := hn hne; omega
        · have hro : σ.real F 0 r := ⟨s, hs, h3⟩
          refine ⟨s, r, us0.take (i * row + off), (us0.drop (i * row + off)).take vs.length, us0.drop (i * row + off + vs.length) ++ rest, e, hs, h3, ?_, ?_, ?_, fun us w' hus hw' hkeep => ?_⟩
          · rw [h4]
            have e1 : us0.drop (i * row + off + vs.length) = (us0.drop (i * row + off)).drop vs.length := by rw [List.drop_drop]
            have : us0 = us0.take (i * row + off) ++ ((us0.drop (i * row + off)).take vs.length ++ us0.drop (i * row + off + vs.length)) := by
              rw [e1, List.take_append_drop, List.take_append_drop]
            conv => lhs; rw [this]
            simp
          · rw [List.length_take, hrow]; omega
          · rw [List.length_take, List.length_drop]; omega
          · have hle : Le σ Z w σ Z w' := le_put hinv hro hkeep
            have hul := hus.length
            refine ⟨hd, ?_, us0.take (i * row + off) ++ (us ++ us0.drop (i * row + off + vs.length)), n, ((h1.mono hle).take _).append ((hus.mono hle).append ((h1.mono hle).drop _)), s, hs, hrow, fun hne => ?_, .inr ⟨r, rest, h3, ?_, fun hne => ?_⟩⟩
            · rw [List.all_eq_true] at hall hone ⊢
              intro x hx
              rcases List.mem_append.1 hx with hx | hx
              · exact hall x (List.mem_of_mem_take hx)
              · rcases List.mem_append.1 hx with hx | hx
                · exact hone x hx
                · exact hall x (List.mem_of_mem_drop hx)
            · rw [← hn hne]; simp; omega
            · rw [hw']; simp
            · obtain ⟨q1, q2, q3⟩ := h5 hne
              refine ⟨q1, ?_, q3⟩
              rw [← q2]; simp; omega
      · cases h
    · cases h
  · rename_i e t fs xs hh
    split at h
    · rename_i h0
      simp only at h0; subst h0
      split at h
      · rename_i x hx
        split at h
        · rename_i cs' hcs
          split at h
          · rename_i y hy
            refine ⟨_, _, hh, h, fun σ Z w hinv ⟨hd, rows, h1, h2⟩ => ?_⟩
            obtain ⟨s, r, pre, mid, post, g1, g2, g3, g4, g5, g6⟩ := listPut hinv h1 h2 hx hcs hy
            exact ⟨s, r, pre, mid, post, e, g1, g2, g3, g4, g5, fun us w' a b c => ⟨hd, g6 us w' a b c⟩⟩
          · cases h
        · cases h
      · cases h
    · cases h
  · rename_i e t xs hh
    split at h
    · rename_i ys hys
      split at h
      · rename_i x hx
        split at h
        · rename_i cs' hcs
          split at h
          · rename_i y hy
            refine ⟨_, _, hh, h, fun σ Z w hinv ⟨h1, h2⟩ => ?_⟩
            obtain ⟨rows, h3, h4⟩ := h1 kk ys hys
            obtain ⟨s, r, pre, mid, post, g1, g2, g3, g4, g5, g6⟩ := listPut hinv h3 h4 hx hcs hy
            have hro : σ.real F kk r := ⟨s, g1, g2⟩
            have hk : kk < xs.length := (List.getElem?_eq_some_iff.1 hys).1
            refine ⟨s, r, pre, mid, post, e, g1, g2, g3, g4, g5, fun us w' a b c => ⟨fun j zs hzs => ?_, fun j hj => h2 j (by simpa using hj)⟩⟩
            by_cases e1 : j = kk
            · subst e1
              rw [List.getElem?_set_self hk] at hzs
              cases hzs
              exact g6 us w' a b c
            · rw [List.getElem?_set_ne (Ne.symm e1)] at hzs
              obtain ⟨rows2, q1, q2⟩ := h1 j zs hzs
              have hle : Le σ Z w σ Z w' := le_put hinv hro c
              refine ⟨rows2, q1.mono hle, q2.keep fun s2 r2 e2 e3 => c r2 fun e4 => ?_⟩
              subst e4
              exact e1 (hinv.inj _ _ _ _ _ ⟨s2, e2, e3⟩ hro).2
          · cases h
        · cases h
      · cases h
    · cases h
  · cases h

theorem und_rv {σ : Num} {Z : Zone} {w : World} : RV M σ Z w V.und undef := by
  simp only [V.und, RV]
  exact ⟨#[], rfl, rfl, by simp [RVs]⟩
theorem opStore_good {S : St} {o : Oper} {t : TypeId} {x y : Operand} {u v : V} {k : Out → Option α} {r : α} (ho : o.op = .store t x y) (hx : S.ev x = some u) (hy : S.ev y = some v) (h : opStore M S t u v k = some r) :
    ∃ out, k out = some r ∧ Good M S.fs o out := by
  unfold opStore at h
  split at h
  · rename_i b i off ti hti
    cases hc : (v.isA && Nat.beq v.cells.length ti.size && v.cells.all V.one) with
    | false => simp [hc] at h
    | true =>
    simp only [hc, cond_true] at h
    simp only [Bool.and_eq_true] at hc
    obtain ⟨⟨c1, c2⟩, c3⟩ := hc
    have c2' := Nat.eq_of_beq_eq_true c2
    obtain ⟨he, he', h1, h2, h3⟩ := rowPut_spec (M := M) h c3
    refine ⟨_, h2, fun σ Z a w hi hop ht _ K Q hK => ?_⟩
    obtain ⟨s, rr, pre, mid, post, e, g1, g2, g3, g4, g5, g6⟩ := h3 σ Z w hi (ht b.1 (.inr (by simp [fams])) he h1)
    obtain ⟨r', k1, k2⟩ := ptr_of (hop x (by simp [ho, Op.operands]) _ (by rw [fs_ev, hx])) g1
    rw [g2] at k1
    cases k1
    have hval := hop y (by simp [ho, Op.operands]) v (by rw [fs_ev, hy])
    have hcells := hval.cells c1
    have hlen := hcells.length
    have hones := hcells.ones c3
    have hst := run_storeCells_at M.P rr (i * s.row + off) e (a.eval y).cells.toList 0 (pre ++ (mid ++ post)).toArray w g3 (by rw [← hlen]; simp; omega) hones
    have hsize : (a.eval y).cells.size = ti.size := by rw [← c2', hlen]; simp
    have hnew : (pre ++ (mid ++ post)).take (i * s.row + off) ++ ((a.eval y).cells.toList ++ (pre ++ (mid ++ post)).drop (i * s.row + off + ti.size)) = pre ++ ((a.eval y).cells.toList ++ post) := by
      rw [← g4, List.take_left', List.drop_append, List.drop_eq_nil_of_le (show pre.length ≤ pre.length + ti.size by omega)]
      · simp only [Nat.add_sub_cancel_left, List.nil_append]
        rw [← c2', ← g5, List.drop_left']
        rfl
      · rfl
    have hrun : (execOp a.eval o).run M.P w = .ok .skip (w.setRow rr (pre ++ ((a.eval y).cells.toList ++ post)).toArray) := by
      rw [← hnew]
      simp only [execOp, ho, Instr.storeAt, k2, Instr.sureAddr, Sem.run_bind, Sem.run_pure, Result.andThen_ok, storeVar, run_sizeV hti, hsize, ne_eq, not_true_eq_false, if_false]
      rw [hst]
      have hl2 : ((a.eval y).cells.toList).length = ti.size := by simpa using hsize
      simp [hsize]
    have hro : σ.real b.1 b.2 rr := ⟨s, g1, g2⟩
    have hkeep : ∀ c, c ≠ rr → (w.setRow rr (pre ++ ((a.eval y).cells.toList ++ post)).toArray).heap[c]? = w.heap[c]? := fun c hc => setRow_other w rr c _ hc
    refine wp_skipV hrun (hK undef _ σ Z und_rv (moves_put hi hro hkeep (setRow_size _ _ _) rfl rfl rfl ?_))
    exact g6 _ _ hcells (setRow_heap w rr _ _ _ _ g3) hkeep
  · cases h
end Go.Proofs.YtdjkdmjdcdljmaaGreatX
