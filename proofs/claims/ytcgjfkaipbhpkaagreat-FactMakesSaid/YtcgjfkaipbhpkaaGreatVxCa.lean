/- Our small machine: slices made and grown. No condition beside those stated. -/
import Derived.Test.YtcgjfkaipbhpkaaGreatVxC

import Derived.Great.BuildSlice
namespace Go.Proofs.YtcgjfkaipbhpkaaGreatX
open Go.RowKit
set_option linter.unusedVariables false
set_option linter.unusedSimpArgs false

theorem partsOk_spec {S : St} {size : Nat} : ∀ {parts : List (Nat × Operand)} {i : Nat} {cs : List Value}, partsOk size i (parts.map fun p => (p.1, S.ev p.2)) = some cs →
    ∀ (σ : Num) (a : Act), (∀ p ∈ parts, ∀ v, S.fs.ev p.2 = some v → RV σ v (a.eval p.2)) →
    (parts.map fun p => (p.1, a.eval p.2)) = ((parts.map fun p => a.eval p.2).zipIdx i).map (fun x => (x.2, x.1)) ∧ (∀ v ∈ parts.map (fun p => a.eval p.2), v.cells.size = size) ∧
      All2 (RL σ) cs ((parts.map fun p => a.eval p.2).flatMap fun v => v.cells.toList)
  | [], i, cs, h, σ, a, _ => by simp [partsOk] at h; subst h; simp [All2]
  | (j, x) :: parts, i, cs, h, σ, a, hv => by
    simp only [List.map_cons] at h
    cases hx : S.ev x with
    | none => simp [hx, partsOk] at h
    | some v =>
      simp only [hx, partsOk] at h
      cases hj : Nat.beq i j with
      | false => simp [hj] at h
      | true =>
      cases hA : isA v with
      | false => simp [hj, hA] at h
      | true =>
      cases hl : Nat.beq (cellsOfL v).length size with
      | false => simp [hj, hA, hl] at h
      | true =>
      simp only [hj, hA, hl, Bool.and_self, cond_true] at h
      split at h
      · rename_i vs hvs
        cases h
        obtain ⟨h1, h2, h3⟩ := partsOk_spec hvs σ a fun p hp => hv p (by simp [hp])
        have hr := (RV.toRA hA (hv (j, x) (by simp) v (by rw [fs_ev, hx]))).cells
        have hlen := hr.length
        have e := Nat.eq_of_beq_eq_true hj
        have el := Nat.eq_of_beq_eq_true hl
        subst e
        refine ⟨by simp [List.zipIdx_cons, h1], fun u hu => ?_, ?_⟩
        · rw [List.map_cons] at hu
          rcases List.mem_cons.1 hu with rfl | hu
          · have : (a.eval x).cells.size = (cellsOfL (a.eval x)).length := by simp [cellsOfL]
            rw [this, ← hlen]; exact el
          · exact h2 u hu
        · simp only [List.map_cons, List.flatMap_cons]
          exact All2.append hr h3
      · cases h

theorem opBuildSlice_good {P : Program} {S : St} {o : Oper} {t : TypeId} {len : Nat} {parts : Array (Nat × Operand)} {k : Out → Option Value} {r : Value} (ho : o.op = .buildSlice t len parts)
    (h : opBuildSlice P S t len parts k = some r) : ∃ out, k out = some r ∧ Good P S.fs o S.heap.length out ∧ EffOk S.fs S.heap.length out := by
  unfold opBuildSlice at h
  split at h
  · rename_i e hu
    split at h
    · rename_i ti hti
      split at h
      · rename_i z hz
        split at h
        · rename_i cs hcs
          cases h1 : Nat.beq parts.size len with
          | false => simp [h1] at h
          | true =>
          cases h2 : Nat.blt 0 len with
          | false => simp [h1, h2] at h
          | true =>
          cases h3 : Nat.blt 0 ti.size with
          | false => simp [h1, h2, h3] at h
          | true =>
          cases h4 : Nat.ble (len * ti.size) 16777216 with
          | false => simp [h1, h2, h3, h4] at h
          | true =>
          cases h5 : Nat.beq (cellsOfL z).length ti.size with
          | false => simp [h1, h2, h3, h4, h5] at h
          | true =>
          simp only [h1, h2, h3, h4, h5, Bool.and_self, cond_true] at h
          have e1 := Nat.eq_of_beq_eq_true h1
          have e2 : 0 < len := Nat.le_of_ble_eq_true h2
          have e3 : 0 < ti.size := Nat.le_of_ble_eq_true h3
          have e4 := Nat.le_of_ble_eq_true h4
          have e5 := Nat.eq_of_beq_eq_true h5
          refine ⟨_, h, fun σ a w hv _ hn K Q hK => ?_, EffOk.fresh rfl⟩
          obtain ⟨p1, p2, p3⟩ := partsOk_spec hcs σ a fun p hp v hpv => hv p.2 (by simp only [ho, Op.operands]; simp; exact ⟨p.1, by simpa using hp⟩) v hpv
          have hzs : z.cells.size = ti.size := by rw [← e5]; simp [cellsOfL]
          have hfill := Great.fill_whole e3 (parts.toList.map fun p => a.eval p.2) ((Array.range (len * ti.size)).map (z.cells[· % z.cells.size]!)) p2 (by simp [e1])
          rw [← p1] at hfill
          have hpos : 0 < len * ti.size := Nat.mul_pos e2 e3
          refine wp_buildSlice t e len parts ho _ ti z hu hti hz (by omega) (by omega) (by simpa using hfill) ?_
          have hsz : ((parts.toList.map fun p => a.eval p.2).flatMap fun v => v.cells.toList).toArray.size = len * ti.size := by
            rw [← e1]
            have : ∀ l : List Value, (∀ v ∈ l, v.cells.size = ti.size) → (l.flatMap fun v => v.cells.toList).length = l.length * ti.size := fun l => by
              induction l with
              | nil => simp
              | cons v l ih =>
                intro hl
                have ev : v.cells.toList.length = ti.size := by rw [Array.length_toList]; exact hl v (by simp)
                rw [List.flatMap_cons, List.length_append, ih fun u hu => hl u (by simp [hu]), ev, List.length_cons, Nat.add_mul, Nat.one_mul, Nat.add_comm]
            simpa using this _ p2
          have hlen : len ≤ maxLen := by
            have : len ≤ len * ti.size := Nat.le_mul_of_pos_right _ e3
            unfold maxLen; omega
          exact hK _ _ _ (.inl (.inl (.inr (.inr ⟨_, _, len, len, len, by simp, rfl, rfl⟩)))) (moves_new (cap := len) (blk := { cells := cs, elem := e, row := ti.size }) (hn _ rfl) p3 (fun _ => ⟨hlen, hsz⟩))
        · cases h
      · cases h
    · cases h
  · cases h

/-- A new block, of which the first cells are known. -/
theorem moves_grown {σ : Num} {nb : Nat} {w w' : World} {eff : Eff} {pre rest : List Value} {blk : Blk} {cap : Nat} (hnw : eff.nw = some blk) (hn : σ nb = none) (hpt : ∀ c old, eff.pt = some (c, old) → old.dead = true ∧ ∃ q, σ c = some q)
    (hh : w'.heap = w.heap.push (.cells (pre ++ rest).toArray blk.elem)) (h1 : w'.os = w.os) (h2 : w'.tape = w.tape) (h3 : w'.output = w.output) (h : All2 (RL σ) blk.cells pre)
    (hc : blk.row ≠ 0 → cap ≤ maxLen ∧ (pre ++ rest).length = cap * blk.row) : Moves σ nb w w' (fun b => if b = nb then some (w.heap.size, cap) else σ b) eff := by
  have hle : Le σ (fun b => if b = nb then some (w.heap.size, cap) else σ b) := fun b b' e => by
    by_cases en : b = nb
    · subst en; rw [hn] at e; cases e
    · simp only [if_neg en]; exact e
  refine ⟨h1, h2, h3, by rw [hh]; simp, fun b hb => if_neg hb, (fun e => by rw [hnw] at e; cases e), fun k hk _ => ?_, fun c old e => ?_, fun b e => ?_⟩
  · rw [hh, Array.getElem?_push, if_neg (by omega)]
  · obtain ⟨hd, ⟨b', cap0⟩, hq⟩ := hpt c old e
    exact ⟨b', cap0, hle _ _ hq, fun k => by rw [hd] at k; cases k⟩
  · rw [hnw] at e; cases e
    refine ⟨⟨w.heap.size, cap, by simp, fun _ => ⟨pre, rest, by rw [hh]; simp, h.mono fun _ _ => RL.mono hle, hc⟩⟩, fun b' cap' e => ?_⟩
    simp only [if_pos, Option.some.injEq, Prod.mk.injEq] at e
    obtain ⟨rfl, _⟩ := e
    exact ⟨by rw [hh]; simp, .inl (Nat.le_refl _)⟩
/-- A slice that grows where it lies. -/
theorem moves_room {σ : Num} {nb : Nat} {w : World} {eff : Eff} {pre rest : List Value} {blk old : Blk} {cap c b' : Nat} {cur : Array Value} (hnw : eff.nw = some blk) (hn : σ nb = none) (hpt : eff.pt = some (c, old)) (hd : old.dead = true) (hb : σ c = some (b', cap))
    (hg : w.heap[b']? = some (.cells cur blk.elem (0, 0))) (h : All2 (RL σ) blk.cells pre) (hc : blk.row ≠ 0 → cap ≤ maxLen ∧ (pre ++ rest).length = cap * blk.row) :
    Moves σ nb w (w.setRow b' (pre ++ rest).toArray) (fun b => if b = nb then some (b', cap) else σ b) eff := by
  have hle : Le σ (fun b => if b = nb then some (b', cap) else σ b) := fun b q e => by
    by_cases en : b = nb
    · subst en; rw [hn] at e; cases e
    · simp only [if_neg en]; exact e
  have hlt : b' < w.heap.size := (Array.getElem?_eq_some_iff.1 hg).1
  refine ⟨rfl, rfl, rfl, by simp [World.setRow], fun b hb => if_neg hb, (fun e => by rw [hnw] at e; cases e), fun k hk hne => setRow_other w b' k _ (fun e => hne c old hpt cap (by rw [e]; exact hb)), fun c1 old1 e => ?_, fun b e => ?_⟩
  · rw [hpt] at e; cases e
    exact ⟨b', cap, hle _ _ hb, fun k => by rw [hd] at k; cases k⟩
  · rw [hnw] at e; cases e
    refine ⟨⟨b', cap, by simp, fun _ => ⟨pre, rest, setRow_heap w b' cur _ _ _ hg, h.mono fun _ _ => RL.mono hle, hc⟩⟩, fun b2 cap' e => ?_⟩
    simp only [if_pos, Option.some.injEq, Prod.mk.injEq] at e
    obtain ⟨rfl, _⟩ := e
    exact ⟨by simpa [World.setRow] using hlt, .inr ⟨c, old, cap, hpt, hd, hb⟩⟩

theorem arr_app (l : List Value) (B : Array Value) : l.toArray ++ B = (l ++ B.toList).toArray := by apply Array.toList_inj.1; simp
theorem arr_app2 (l m : List Value) (B : Array Value) : l.toArray ++ m.toArray ++ B = ((l ++ m) ++ B.toList).toArray := by apply Array.toList_inj.1; simp

theorem dup_spec {S : St} {u : Value} {n : Nat} {cs : List Value} {old : Option (Nat × Blk)} (h : dup S.heap u = some (n, cs, old)) :
    (u = .slice none 0 0 ∧ n = 0 ∧ cs = [] ∧ old = none) ∨ (∃ b c blk, u = .slice (some ⟨b, 0, none⟩) n c ∧ S.heap[b]? = some blk ∧ blk.dead = false ∧ cs = blk.cells ∧ old = some (b, blk)) := by
  unfold dup at h
  split at h
  · cases h; exact .inl ⟨rfl, rfl, rfl, rfl⟩
  · split at h
    · rename_i b n' c blk hb
      cases hd : blk.dead with
      | true => simp [hd] at h
      | false => simp [hd] at h; obtain ⟨rfl, rfl, rfl⟩ := h; exact .inr ⟨_, _, _, rfl, hb, hd, rfl, rfl⟩
    · cases h
  · cases h

theorem opAppend_good {P : Program} {S : St} {o : Oper} {c : Call} {x y : Operand} {u v : Value} {k : Out → Option Value} {r : Value} (ho : o.op = .call c) (hc : c.callee = .builtin .append) (hargs : c.args.toList = [x, y]) (hx : S.ev x = some u) (hy : S.ev y = some v)
    (hts : c.argTypes.size = 2) (h : opAppend P S c.argTypes u v k = some r) : ∃ out, k out = some r ∧ Good P S.fs o S.heap.length out ∧ EffOk S.fs S.heap.length out := by
  have hargs' : c.args = #[x, y] := by rw [← Array.toList_inj]; exact hargs
  have hmx : x ∈ o.op.operands := by simp [ho, Op.operands, Call.operands, hc, hargs']
  have hmy : y ∈ o.op.operands := by simp [ho, Op.operands, Call.operands, hc, hargs']
  unfold opAppend at h
  split at h
  · rename_i t t' ht ht'
    cases htt : Nat.beq t t' with
    | false => simp [htt] at h
    | true =>
    have := Nat.eq_of_beq_eq_true htt
    subst this
    simp only [htt, cond_true] at h
    have hty : c.argTypes = #[t, t] := by
      apply Array.ext_getElem?
      intro i
      match i with
      | 0 => rw [ht]; rfl
      | 1 => rw [ht']; rfl
      | i + 2 => rw [Array.getElem?_eq_none (by omega), Array.getElem?_eq_none (by simp)]
    split at h
    · rename_i e hu
      split at h
      · rename_i ti hti
        split at h
        · rename_i z n cs old sb m c2 hz hdup
          split at h
          · rename_i src hsrc
            cases g0 : src.dead with
            | true => simp [g0] at h
            | false =>
            cases g1 : Nat.beq src.cells.length (m * ti.size) with
            | false => simp [g0, g1] at h
            | true =>
            cases g2 : Nat.blt 0 ti.size with
            | false => simp [g0, g1, g2] at h
            | true =>
            cases g3 : Nat.beq (cellsOfL z).length ti.size with
            | false => simp [g0, g1, g2, g3] at h
            | true =>
            cases g4 : Nat.blt 0 m with
            | false => simp [g0, g1, g2, g3, g4] at h
            | true =>
            cases g5 : Nat.ble (n + m) 100000 with
            | false => simp [g0, g1, g2, g3, g4, g5] at h
            | true =>
            cases g6 : Nat.ble ti.bytes 1000000000 with
            | false => simp [g0, g1, g2, g3, g4, g5, g6] at h
            | true =>
            cases g7 : Nat.beq cs.length (n * ti.size) with
            | false => simp [g0, g1, g2, g3, g4, g5, g6, g7] at h
            | true =>
            simp only [g0, g1, g2, g3, g4, g5, g6, g7, Bool.not_false, Bool.true_and] at h
            have e1 := Nat.eq_of_beq_eq_true g1
            have e2 : 0 < ti.size := Nat.le_of_ble_eq_true g2
            have e3 := Nat.eq_of_beq_eq_true g3
            have e4 : 0 < m := Nat.le_of_ble_eq_true g4
            have e5 := Nat.le_of_ble_eq_true g5
            have e6 := Nat.le_of_ble_eq_true g6
            have e7 := Nat.eq_of_beq_eq_true g7
            have hzs : z.cells.size = ti.size := by rw [← e3]; simp [cellsOfL]
            have hbytes : (n + m) * ti.bytes ≤ 140737488355328 := Nat.le_trans (Nat.mul_le_mul e5 e6) (by decide)
            have hexec : ∀ (a : Act) (p q : Value), a.eval x = p → a.eval y = q → execOp a.eval o = (do let s ← Builtin.append_ #[t, t] o.type #[p, q]; pure (.value s)) := fun a p q hp hq => by
              simp [execOp, ho, resolve, hc, hargs', hp, hq, invoke, builtin, hty]
            have hzc : ∀ q : Nat, (Builtin.zeroCells z.cells q).size = q * ti.size := fun q => by rw [size_zeroCells, hzs]
            -- what is appended
            have hsrc' : ∀ (σ : Num) (a : Act) (w : World), (∀ x ∈ o.op.operands, ∀ v, S.fs.ev x = some v → RV σ v (a.eval x)) → Fits σ w sb src →
                ∃ sb' sc news, a.eval y = .slice (some ⟨sb', 0, none⟩) m sc ∧ All2 (RL σ) src.cells news ∧ (∀ j u, news[j]? = some u → w.cell? ((⟨sb', 0, none⟩ : Addr).add j) = some u) := fun σ a w hv hfit => by
              obtain ⟨sb', sc, k1, k2⟩ := slice_of (hv y hmy _ (by rw [fs_ev, hy]))
              obtain ⟨b2, cap2, k3, k4⟩ := hfit
              rw [k1] at k3
              cases k3
              obtain ⟨cs', rest, k5, k6, _⟩ := k4 g0
              refine ⟨sb', sc, cs', k2, k6, fun j u hj => ?_⟩
              rw [add_off, Nat.zero_add]
              have hlt := (List.getElem?_eq_some_iff.1 hj).1
              simp only [World.cell?, k5]
              simp [List.getElem?_append_left hlt, hj]
            rcases dup_spec hdup with ⟨rfl, rfl, rfl, rfl⟩ | ⟨b, c1, blk, rfl, hb, hd, rfl, rfl⟩
            · simp only [cond_true] at h
              refine ⟨_, h, fun σ a w hv ht hn K Q hK => ?_, ⟨rfl, fun b hb => ?_, (fun _ _ e => by cases e), (fun b e => by cases e; rfl)⟩⟩
              · obtain ⟨sb', sc, news, k2, k6, k7⟩ := hsrc' σ a w hv (ht sb (.inl rfl) src hsrc)
                have kx : a.eval x = .slice none 0 0 := RV.eq rfl (hv x hmx _ (by rw [fs_ev, hx]))
                have hl : news.length = m * ti.size := by rw [← k6.length, e1]
                have hr := run_append_nil (P := P) w t o.type e ti z hu hti hz ⟨sb', 0, none⟩ m sc news hl k7 e4 (by omega) (by simp only [Nat.zero_add] at hbytes; omega)
                refine wp_value (w' := w.drew.alloc (.cells (news.toArray ++ Builtin.zeroCells z.cells (grownCap w m 0 e - m)) e)) (v := .slice (some ⟨w.heap.size, 0, none⟩) m (grownCap w m 0 e)) ?_ ?_
                · rw [hexec a _ _ kx k2]
                  simp [hr]
                · have hge := grownCap_ge w m 0 e
                  have hcm := grownCap_le_maxLen w m 0 e (by unfold maxLen; omega)
                  refine hK _ _ (fun b => if b = S.heap.length then some (w.heap.size, grownCap w m 0 e) else σ b) (.inl (.inl (.inr (.inr ⟨S.heap.length, w.heap.size, grownCap w m 0 e, 0 + m, 0 + m, if_pos rfl, rfl, by rw [Nat.zero_add]⟩)))) ?_
                  refine moves_grown (pre := news) (rest := (Builtin.zeroCells z.cells (grownCap w m 0 e - m)).toList) rfl (hn _ rfl) (fun _ _ e => by cases e) (by rw [← arr_app]; rfl) rfl rfl rfl (by simpa using k6) fun _ => ⟨hcm, ?_⟩
                  have hz' := hzc (grownCap w m 0 e - m)
                  simp only [List.length_append, Array.length_toList, hz', hl, ← Nat.add_mul]
                  congr 1
                  omega
              · rcases hb with hb | ⟨_, hb⟩
                · cases hb; exact ⟨src, hsrc⟩
                · cases hb
            · cases g8 : Nat.beq blk.row ti.size with
              | false => simp [g8] at h
              | true =>
              cases g9 : Nat.beq blk.elem e with
              | false => simp [g8, g9] at h
              | true =>
              cases g10 : Nat.beq b sb with
              | true => simp [g8, g9, g10] at h
              | false =>
              simp only [g8, g9, g10, Bool.not_false, Bool.and_self, cond_true] at h
              have e8 := Nat.eq_of_beq_eq_true g8
              have e9 := Nat.eq_of_beq_eq_true g9
              refine ⟨_, h, fun σ a w hv ht hn K Q hK => ?_, ⟨rfl, fun b hb => ?_, fun c1 x1 ec => ?_, (fun b e => by cases e; rfl)⟩⟩
              · obtain ⟨sb', sc, news, k2, k6, k7⟩ := hsrc' σ a w hv (ht sb (.inl rfl) src hsrc)
                obtain ⟨b', cap, kb, kx⟩ := slice_of (hv x hmx _ (by rw [fs_ev, hx]))
                obtain ⟨b3, cap3, q1, q2⟩ := ht b (.inr ⟨_, rfl⟩) blk hb
                rw [kb] at q1
                cases q1
                obtain ⟨pre, rest, q3, q4, q5⟩ := q2 hd
                obtain ⟨q6, q7⟩ := q5 (by omega)
                rw [e9] at q3
                rw [e8] at q7
                have hl : news.length = m * ti.size := by rw [← k6.length, e1]
                have hlp : pre.length = n * ti.size := by rw [← q4.length, e7]
                have hncap : n ≤ cap := by
                  have : n * ti.size ≤ cap * ti.size := by rw [← q7, ← hlp]; simp
                  exact Nat.le_of_mul_le_mul_right this e2
                have hold : ∀ j u, pre[j]? = some u → w.cell? ((⟨b', 0, none⟩ : Addr).add j) = some u := fun j u hj => by
                  rw [add_off, Nat.zero_add]
                  have hlt := (List.getElem?_eq_some_iff.1 hj).1
                  simp only [World.cell?, q3]
                  simp [List.getElem?_append_left hlt, hj]
                have hall : All2 (RL σ) (blk.cells ++ src.cells) (pre ++ news) := All2.append q4 k6
                by_cases hroom : n + m ≤ cap
                · have hfit : n * ti.size + news.length ≤ (pre ++ rest).toArray.size := by
                    rw [hl, ← Nat.add_mul]
                    simp only [List.size_toArray, q7]
                    exact Nat.mul_le_mul_right _ hroom
                  have hr := run_append_room (P := P) w t o.type e ti hu hti b' n cap (pre ++ rest).toArray q3 ⟨sb', 0, none⟩ m sc news hl k7 (All2.one k6) hroom hfit
                  have hcells : ((pre ++ rest).toArray.toList.take (n * ti.size) ++ news ++ (pre ++ rest).toArray.toList.drop (n * ti.size + news.length)) = (pre ++ news) ++ rest.drop news.length := by
                    rw [← hlp]
                    simp [List.drop_append]
                  rw [hcells] at hr
                  refine wp_value (by rw [hexec a _ _ kx k2]; simp only [Sem.run_bind, hr, Result.andThen_ok, Sem.run_pure]; rfl) ?_
                  refine hK _ _ (fun b => if b = S.heap.length then some (b', cap) else σ b) (.inl (.inl (.inr (.inr ⟨S.heap.length, b', cap, n + m, n + m, if_pos rfl, rfl, rfl⟩)))) ?_
                  refine moves_room (pre := pre ++ news) (rest := rest.drop news.length) (cur := (pre ++ rest).toArray) (blk := { cells := blk.cells ++ src.cells, elem := e, row := ti.size }) (old := { blk with dead := true }) (c := b) rfl (hn _ rfl) rfl rfl kb q3 hall fun _ => ⟨q6, ?_⟩
                  simp only [List.length_append, List.length_drop] at q7 ⊢
                  have h1 : (n + m) * ti.size ≤ cap * ti.size := Nat.mul_le_mul_right _ hroom
                  rw [Nat.add_mul] at h1
                  show _ = cap * ti.size
                  omega
                · have hr := run_append_grow (P := P) w t o.type e ti z hu hti hz ⟨b', 0, none⟩ n cap pre hlp hold ⟨sb', 0, none⟩ m sc news hl k7 (by omega) (by omega) (growslice_fits (by omega) hbytes)
                  refine wp_value (by rw [hexec a _ _ kx k2]; simp only [Sem.run_bind, hr, Result.andThen_ok, Sem.run_pure]; rfl) ?_
                  have hge := grownCap_ge w (n + m) cap e
                  have hcm := grownCap_le_maxLen w (n + m) cap e (by unfold maxLen; omega)
                  refine hK _ _ (fun b => if b = S.heap.length then some (w.heap.size, grownCap w (n + m) cap e) else σ b) (.inl (.inl (.inr (.inr ⟨S.heap.length, w.heap.size, grownCap w (n + m) cap e, n + m, n + m, if_pos rfl, rfl, rfl⟩)))) ?_
                  refine moves_grown (pre := pre ++ news) (rest := (Builtin.zeroCells z.cells (grownCap w (n + m) cap e - (n + m))).toList) (blk := { cells := blk.cells ++ src.cells, elem := e, row := ti.size }) rfl (hn _ rfl) (fun _ _ e => by cases e; exact ⟨rfl, _, kb⟩) (by rw [← arr_app2]; rfl) rfl rfl rfl hall fun _ => ⟨hcm, ?_⟩
                  have hz' := hzc (grownCap w (n + m) cap e - (n + m))
                  simp only [List.length_append, Array.length_toList, hz', hl, hlp, ← Nat.add_mul]
                  congr 1
                  omega
              · rcases hb with hb | ⟨_, hb⟩
                · cases hb; exact ⟨src, hsrc⟩
                · cases hb; exact ⟨blk, by assumption⟩
              · cases ec
                exact ⟨blk, hb, hd⟩
          · cases h
        · cases h
      · cases h
    · cases h
  · cases h
end Go.Proofs.YtcgjfkaipbhpkaaGreatX
