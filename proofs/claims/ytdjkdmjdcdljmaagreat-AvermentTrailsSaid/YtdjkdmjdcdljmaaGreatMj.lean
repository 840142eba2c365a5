/- Own work. No condition. -/
import Derived.Test.YtdjkdmjdcdljmaaGreatMi

import Derived.Great.BuildSlice
namespace Go.Proofs.YtdjkdmjdcdljmaaGreatX
open Go.RowKit
set_option linter.unusedVariables false
set_option linter.unusedSimpArgs false
variable {M : Cfg} {α : Type}

theorem places_run {w : World} : ∀ {l : List Field} {ps : List (Nat × Nat)}, placesOf M l = some ps → ((l.mapM fun f => do pure (f.offset, ← sizeOf f.type) : Sem (List (Nat × Nat)))).run M.P w = .ok ps w
  | [], ps, h => by simp [placesOf] at h; subst h; simp
  | f :: l, ps, h => by
    simp only [placesOf] at h
    split at h
    · rename_i i l' hi hl
      cases h
      simp only [List.mapM_cons, Sem.run_bind, run_sizeV hi, Result.andThen_ok, Sem.run_pure, places_run hl]
    · cases h
theorem opBuild_good {S : St} {o : Oper} {t : TypeId} {parts : Array (Nat × Operand)} {k : Out → Option α} {r : α} (ho : o.op = .build t parts) (h : opBuild M S t parts.toList k = some r) : ∃ out, k out = some r ∧ Good M S.fs o out := by
  have hmem : ∀ p ∈ parts.toList, p.2 ∈ o.op.operands := fun p hp => by
    simp only [ho, Op.operands]; simp; exact ⟨p.1, by simpa using hp⟩
  unfold opBuild at h
  split at h
  · rename_i fs z hu hz
    obtain ⟨i, zv, h1, h2, h3, h4⟩ := zeroOf_spec hz
    split at h
    · rename_i ps hps
      split at h
      · rename_i cs hcs
        refine ⟨_, h, good_still (rds := []) fun σ Z a w hinv hops _ => ?_⟩
        obtain ⟨g1, vs', g2, g3⟩ := fillV_spec hcs h3 (h4 σ Z w) fun p hp v hv => hops p.2 (hmem p hp) v hv
        refine ⟨.agg vs', by simp only [RV]; exact ⟨_, rfl, g1, g3⟩, ?_⟩
        have hpl : (fs.mapM fun f => do pure (f.offset, ← sizeOf f.type) : Sem (Array (Nat × Nat))).run M.P w = .ok ps.toArray w := by
          rw [← Array.toArray_toList (xs := fs), List.mapM_toArray, map_eq_pure_bind, Sem.run_bind, places_run hps]
          rfl
        have e1 : (parts.map fun (i, x) => (i, a.eval x)).toList = parts.toList.map fun p => (p.1, a.eval p.2) := by simp
        have e2 : (fun (i : Nat) => (ps.toArray[i]? : Option (Nat × Nat))) = fun (i : Nat) => ps[i]? := by funext i; simp
        simp only [execOp, ho, Instr.build, Sem.run_bind, run_zeroV h1 h2, run_underlying hu, Result.andThen_ok, hpl, e1, e2, g2, Sem.run_pure]
      · cases h
    · cases h
  · rename_i n e z hu hz
    obtain ⟨i, zv, h1, h2, h3, h4⟩ := zeroOf_spec hz
    split at h
    · rename_i ti hti
      split at h
      · rename_i cs hcs
        refine ⟨_, h, good_still (rds := []) fun σ Z a w hinv hops _ => ?_⟩
        obtain ⟨g1, vs', g2, g3⟩ := fillV_spec hcs h3 (h4 σ Z w) fun p hp v hv => hops p.2 (hmem p hp) v hv
        refine ⟨.agg vs', by simp only [RV]; exact ⟨_, rfl, g1, g3⟩, ?_⟩
        have e1 : (parts.map fun (i, x) => (i, a.eval x)).toList = parts.toList.map fun p => (p.1, a.eval p.2) := by simp
        simp only [execOp, ho, Instr.build, Sem.run_bind, run_zeroV h1 h2, run_underlying hu, Result.andThen_ok, run_sizeV hti, e1, g2, Sem.run_pure]
      · cases h
    · cases h
  · cases h

theorem partsOk_spec {S : St} {size : Nat} {σ : Num} {Z : Zone} {w : World} {a : Act} : ∀ {parts : List (Nat × Operand)} {i : Nat} {cs : List V}, partsOk size i (parts.map fun p => (p.1, S.ev p.2)) = some cs →
    (∀ p ∈ parts, ∀ v, S.fs.ev p.2 = some v → RV M σ Z w v (a.eval p.2)) →
    (parts.map fun p => (p.1, a.eval p.2)) = ((parts.map fun p => a.eval p.2).zipIdx i).map (fun x => (x.2, x.1)) ∧ (∀ v ∈ parts.map (fun p => a.eval p.2), v.cells.size = size) ∧ cs.all V.one = true ∧ cs.length = parts.length * size ∧
      RVs M σ Z w cs ((parts.map fun p => a.eval p.2).flatMap fun v => v.cells.toList)
  | [], i, cs, h, _ => by simp [partsOk] at h; subst h; simp [RVs]
  | (j, x) :: parts, i, cs, h, hv => by
    simp only [List.map_cons] at h
    cases hx : S.ev x with
    | none => simp [hx, partsOk] at h
    | some v =>
      simp only [hx, partsOk] at h
      obtain ⟨hc, h⟩ := bif_some h
      simp only [Bool.and_eq_true] at hc
      obtain ⟨⟨⟨c1, c2⟩, c3⟩, c4⟩ := hc
      split at h
      · rename_i vs hvs
        cases h
        obtain ⟨h1, h2, h3, h4, h5⟩ := partsOk_spec (a := a) (σ := σ) (Z := Z) (w := w) hvs fun p hp => hv p (by simp [hp])
        have hr := (hv (j, x) (by simp) v (by rw [fs_ev, hx])).cells c2
        have hlen : v.cells.length = (a.eval x).cells.toList.length := hr.length
        have e := Nat.eq_of_beq_eq_true c1
        have el := Nat.eq_of_beq_eq_true c3
        subst e
        refine ⟨by simp [List.zipIdx_cons, h1], fun u hu => ?_, ?_, ?_, ?_⟩
        · rw [List.map_cons] at hu
          rcases List.mem_cons.1 hu with rfl | hu
          · show (a.eval x).cells.size = size
            simp at hlen; omega
          · exact h2 u hu
        · rw [List.all_append, c4, h3]; rfl
        · rw [List.length_append, h4, el, List.length_cons, Nat.add_mul, Nat.one_mul, Nat.add_comm]
        · simp only [List.map_cons, List.flatMap_cons]
          exact hr.append h5
      · cases h

theorem own_new {σ : Num} {Z : Zone} {w w' : World} {F n cap : Nat} {he : HE} {cs : Array Value} {e : TypeId} {row : Nat} (hinv : Inv σ Z w) (hf : ∀ k, σ F k = .fresh) (hh : w'.heap = w.heap.push (.cells cs e)) (h1 : w'.os = w.os) (h2 : w'.tape = w.tape) (h3 : w'.output = w.output)
    (hr : ∀ σ' : Num, Le σ Z w σ' Z w' → (∀ k, σ' F (k + 1) = .dead) → σ' F 0 = .alive { whole := .slice (some ⟨w.heap.size, 0, none⟩) n cap, real := some w.heap.size, cap := cap, row := row } → HER M σ' Z w' F he) :
    RV M (σ.upd F (one { whole := .slice (some ⟨w.heap.size, 0, none⟩) n cap, real := some w.heap.size, cap := cap, row := row })) Z w' (.own (F, 0)) (.slice (some ⟨w.heap.size, 0, none⟩) n cap) ∧
      Moves M σ Z w (σ.upd F (one { whole := .slice (some ⟨w.heap.size, 0, none⟩) n cap, real := some w.heap.size, cap := cap, row := row })) Z w' [(F, he)] := by
  refine ⟨?_, moves_new hinv hf hh h1 h2 h3 rfl (hr _ (le_new hinv hf hh) (fun k => Num.upd_same _ _ _ _) (Num.upd_same _ _ _ _))⟩
  simp only [RV, Num.upd_same, one]
  exact ⟨by trivial, rfl⟩

theorem opBuildSlice_good {S : St} {o : Oper} {t : TypeId} {len : Nat} {parts : Array (Nat × Operand)} {k : Out → Option α} {r : α} (ho : o.op = .buildSlice t len parts) (h : opBuildSlice M S t len parts.toList k = some r) :
    ∃ out, k out = some r ∧ Good M S.fs o out := by
  have hmem : ∀ p ∈ parts.toList, p.2 ∈ o.op.operands := fun p hp => by
    simp only [ho, Op.operands]; simp; exact ⟨p.1, by simpa using hp⟩
  unfold opBuildSlice at h
  split at h
  · rename_i e hu
    split at h
    · rename_i ti z hti hz
      obtain ⟨i, zv, z1, z2, z3, z4⟩ := zeroOf_spec hz
      rw [hti] at z1
      cases z1
      split at h
      · rename_i cs hcs
        obtain ⟨hc, h⟩ := bif_some h
        simp only [Bool.and_eq_true] at hc
        obtain ⟨⟨⟨c1, c2⟩, c3⟩, c4⟩ := hc
        have c1 := Nat.eq_of_beq_eq_true c1
        have c2 : 0 < ti.size := Nat.le_of_ble_eq_true c2
        have c3 := Nat.le_of_ble_eq_true c3
        have c4 := Nat.eq_of_beq_eq_true c4
        refine ⟨_, h, fun σ Z a w hinv hops _ hn K Q hK => ?_⟩
        have hf := hn S.heap.length (by simp [fams]) (by simp [St.fs])
        obtain ⟨p1, p2, p3, p4, p5⟩ := partsOk_spec (M := M) (a := a) (σ := σ) (Z := Z) (w := w) hcs fun p hp v hv => hops p.2 (hmem p hp) v hv
        have hzs : zv.cells.size = ti.size := by rw [← c4, (z4 σ Z w).length]; simp
        have hcl : ((parts.toList.map fun p => a.eval p.2).flatMap fun v => v.cells.toList).length = len * ti.size := by rw [← p5.length, p4, c1]
        have hlm : len ≤ maxLen := by
          have : len ≤ len * ti.size := Nat.le_mul_of_pos_right _ c2
          simp only [maxLen]; omega
        have key : ∀ (cells : Array Value), cells.toList = ((parts.toList.map fun p => a.eval p.2).flatMap fun v => v.cells.toList) →
            K (a.put o.dst (.slice (some ⟨w.heap.size, 0, none⟩) len len)) (w.alloc (.cells cells e)) := fun cells hcells => by
          have hH : ∀ σ' : Num, Le σ Z w σ' Z (w.alloc (.cells cells e)) → (∀ k, σ' S.heap.length (k + 1) = .dead) → σ' S.heap.length 0 = .alive { whole := .slice (some ⟨w.heap.size, 0, none⟩) len len, real := some w.heap.size, cap := len, row := ti.size } →
              HER M σ' Z (w.alloc (.cells cells e)) S.heap.length (.cells e ti.size cs) := by
            intro σ' hle hd h0
            refine ⟨hd, p3, cells.toList, len, (by rw [hcells]; exact p5.mono hle), _, h0, rfl, (fun _ => by rw [hcells]; exact hcl), .inr ⟨w.heap.size, [], rfl, ?_, fun _ => ⟨hlm, by simpa [hcells] using hcl, rfl⟩⟩⟩
            show (w.heap.push _)[w.heap.size]? = _
            simp
          obtain ⟨q1, q2⟩ := own_new (M := M) (F := S.heap.length) (n := len) (cap := len) (cs := cells) (e := e) (row := ti.size) (w' := w.alloc (.cells cells e)) hinv hf rfl rfl rfl rfl hH
          exact hK _ _ _ Z q1 q2
        by_cases hl0 : len = 0
        · subst hl0
          have hp0 : parts = #[] := by rw [← Array.toList_inj]; exact List.length_eq_zero_iff.1 c1
          refine wp_value (w' := w.alloc (.cells #[] e)) ?_ (key #[] (by simp [hp0]))
          simp [execOp, ho, hp0, Instr.buildSlice, run_underlying hu, run_sizeV hti, Instr.fill, newRow, Array.range_zero']
        · have hfill := Great.fill_whole c2 (parts.toList.map fun p => a.eval p.2) ((Array.range (len * ti.size)).map (zv.cells[· % zv.cells.size]!)) p2 (by simp [c1])
          rw [← p1] at hfill
          have hpos : 0 < len * ti.size := Nat.mul_pos (by omega) c2
          exact wp_buildSlice t e len parts ho _ ti zv hu hti z2 (by omega) (by omega) (by simpa using hfill) (key _ (by simp))
      · cases h
    · cases h
  · cases h

theorem madeCells_rows (z : Array Value) (n size : Nat) (hz : z.size = size) (hs : 0 < size) : (madeCells z (n * size)).toList = (List.replicate n z.toList).flatten := by
  apply List.ext_getElem?
  intro i
  simp only [madeCells, Array.toList_map, Array.toList_range, List.getElem?_map]
  by_cases hi : i < n * size
  · rw [List.getElem?_range hi]
    have h1 : i / size < n := (Nat.div_lt_iff_lt_mul hs).2 hi
    have e : (List.replicate n z.toList)[i / size]? = some z.toList := by simp [h1]
    rw [flatten_at e]
    have hl : ((List.replicate n z.toList).take (i / size)).flatten.length = i / size * size := flatten_take_length (fun r hr => by rw [List.eq_of_mem_replicate hr]; simpa using hz) (by simp; omega)
    have hm := Nat.div_add_mod i size
    have hlt : i % size < size := Nat.mod_lt _ hs
    rw [List.getElem?_append_right (by rw [hl, Nat.mul_comm]; omega), hl]
    have e2 : i - i / size * size = i % size := by rw [Nat.mul_comm]; omega
    rw [e2, List.getElem?_append_left (by simpa [hz] using hlt)]
    simp [hz, hlt]
  · rw [List.getElem?_eq_none (by simpa using hi), List.getElem?_eq_none]
    · rfl
    · have : ((List.replicate n z.toList)).flatten.length = n * size := by simp [hz]
      omega
theorem rows_rep {σ : Num} {Z : Zone} {w : World} {t : Ty} {fs : List Nat} {x : t.I} {row : List Value} (h : RVs M σ Z w (t.cells fs x) row) : ∀ n, RowsR M σ Z w t fs (List.replicate n x) (List.replicate n row)
  | 0 => trivial
  | n + 1 => ⟨h, rows_rep h n⟩
theorem opMakeSlice_good {S : St} {o : Oper} {t : TypeId} {xl xc : Operand} {l c : Value} {k : Out → Option α} {r : α} (ho : o.op = .makeSlice t xl xc) (hl : S.ev xl = some (.lf l)) (hc : S.ev xc = some (.lf c)) (h : opMakeSlice M S t l c k = some r) :
    ∃ out, k out = some r ∧ Good M S.fs o out := by
  unfold opMakeSlice at h
  split at h
  · rename_i e hu
    split at h
    · rename_i ti z ty kd n kd' m hti hz hty
      obtain ⟨i, zv, z1, z2, z3, z4⟩ := zeroOf_spec hz
      rw [hti] at z1
      cases z1
      split at h
      · rename_i x hx
        obtain ⟨hb, h'⟩ := bif_some h
        clear h
        simp only [Bool.and_eq_true, decide_eq_true_eq] at hb
        obtain ⟨⟨⟨⟨⟨c1, c2⟩, c3⟩, c4⟩, c5⟩, c6⟩ := hb
        replace c3 := eq_of_beq c3
        subst c3
        have c4 : 0 < ti.size := Nat.le_of_ble_eq_true c4
        have c5 := Nat.eq_of_beq_eq_true c5
        have c6 := Nat.le_of_ble_eq_true c6
        refine ⟨_, h', fun σ Z a w hinv hops _ hn K Q hK => ?_⟩
        have hf := hn S.heap.length (by simp [fams]) (by simp [St.fs])
        have e1 : a.eval xl = .int kd n := lf_eval (hops xl (by simp [ho, Op.operands]) _ (by rw [fs_ev, hl]))
        have e2 : a.eval xc = .int kd' n := lf_eval (hops xc (by simp [ho, Op.operands]) _ (by rw [fs_ev, hc]))
        have hbytes : (ti.bytes : Int) * n ≤ 281474976710656 := by
          have q1 : (ti.bytes : Int) ≤ 1000000000 := by omega
          have : (ti.bytes : Int) * n ≤ 1000000000 * 100000 := Int.mul_le_mul q1 c2 c1 (by omega)
          omega
        have hrun := run_make (P := M.P) w t e ti zv hu hti z2 kd kd' n n c1 (Int.le_refl _) hbytes (by omega)
        have hzs : zv.cells.size = ti.size := by rw [← c5, (z4 σ Z w).length]; simp
        have hts : ty.size = ti.size := by
          have := (Ty.un1_spec hx (z4 σ Z w)).length
          rw [Ty.cells_length] at this
          rw [this]; simpa using hzs
        have hcells := madeCells_rows zv.cells n.toNat ti.size hzs c4
        have hH : ∀ σ' : Num, Le σ Z w σ' Z (w.alloc (.cells (madeCells zv.cells (n.toNat * ti.size)) e)) → (∀ k, σ' S.heap.length (k + 1) = .dead) → σ' S.heap.length 0 = .alive { whole := .slice (some ⟨w.heap.size, 0, none⟩) n.toNat n.toNat, real := some w.heap.size, cap := n.toNat, row := ty.size } →
            HER M σ' Z (w.alloc (.cells (madeCells zv.cells (n.toNat * ti.size)) e)) S.heap.length (.list e ty [] (List.replicate n.toNat x)) := by
          intro σ' hle hd h0
          refine ⟨hd, List.replicate n.toNat zv.cells.toList, ?_, _, h0, rfl, (fun _ => ?_), .inr ⟨w.heap.size, [], rfl, ?_, fun _ => ⟨?_, ?_, ?_⟩⟩⟩
          · exact rows_rep (Ty.un1_spec hx ((z4 σ Z w).mono hle)) _
          · simp [hzs, hts]
          · rw [← hcells]; show (w.heap.push _)[w.heap.size]? = _; simp
          · simp only [maxLen]; omega
          · simp [hzs, hts]
          · simp
        obtain ⟨q1, q2⟩ := own_new (M := M) (F := S.heap.length) (n := n.toNat) (cap := n.toNat) (cs := madeCells zv.cells (n.toNat * ti.size)) (e := e) (row := ty.size) (w' := w.alloc (.cells (madeCells zv.cells (n.toNat * ti.size)) e)) hinv hf rfl rfl rfl rfl hH
        refine wp_value ?_ (hK _ _ _ Z q1 q2)
        simp [execOp, ho, e1, e2, hrun]
      · cases h
    · cases h
  · cases h
end Go.Proofs.YtdjkdmjdcdljmaaGreatX
