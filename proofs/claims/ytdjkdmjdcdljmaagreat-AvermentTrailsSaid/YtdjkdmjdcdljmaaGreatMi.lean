/- Own work. No condition. -/
import Derived.Test.YtdjkdmjdcdljmaaGreatMh

import Derived.Laws.MakeOwn
import Derived.Laws.BytesString
namespace Go.Proofs.YtdjkdmjdcdljmaaGreatX
open Go.RowKit
set_option linter.unusedVariables false
set_option linter.unusedSimpArgs false
variable {M : Cfg} {α : Type}

theorem opNew_good {S : St} {o : Oper} {t : TypeId} {cells : List V} (hone : cells.all V.one = true)
    (ho : ∀ (σ : Num) (Z : Zone) (a : Act) (w : World), (∀ x ∈ o.op.operands, ∀ v, S.fs.ev x = some v → RV M σ Z w v (a.eval x)) → ∃ cs' : Array Value, RVs M σ Z w cells cs'.toList ∧
      (execOp a.eval o).run M.P w = .ok (.value (.pointer (some ⟨w.heap.size, 0, none⟩))) { w with heap := w.heap.push (.cells cs' t) }) :
    Good M S.fs o { v := .ptr (S.heap.length, 0) 0 0, chg := [(S.heap.length, .cells t 0 cells)] } := by
  intro σ Z a w hinv hops _ hn K Q hK
  obtain ⟨cs', h1, h2⟩ := ho σ Z a w hops
  have hf := hn S.heap.length (by simp [fams]) (by simp [St.fs])
  have hle := le_new (f := one { whole := undef, real := some w.heap.size, cap := 0, row := 0 }) (w' := { w with heap := w.heap.push (.cells cs' t) }) hinv hf rfl
  refine wp_value h2 (hK _ _ _ Z ?_ (moves_new (s := { whole := undef, real := some w.heap.size, cap := 0, row := 0 }) hinv hf (o := .cells cs' t) rfl rfl rfl rfl rfl ?_))
  · simp only [RV, Num.upd_same, one]
    exact ⟨_, rfl, by simp⟩
  · refine ⟨fun k => Num.upd_same _ _ _ _, hone, cs'.toList, 0, h1.mono hle, _, Num.upd_same _ _ _ _, rfl, (fun h => absurd rfl h), .inr ⟨w.heap.size, [], rfl, by simp, fun h => absurd rfl h⟩⟩
theorem opAlloc_good {S : St} {o : Oper} {t : TypeId} {cs : List V} (ho : o.op = .alloc t) (hz : zeroOf M t = some cs) : Good M S.fs o { v := .ptr (S.heap.length, 0) 0 0, chg := [(S.heap.length, .cells t 0 cs)] } := by
  obtain ⟨i, z, h1, h2, h3, h4⟩ := zeroOf_spec hz
  refine opNew_good h3 fun σ Z a w _ => ⟨z.cells, h4 σ Z w, ?_⟩
  simp [execOp, ho, Instr.alloc, run_zeroV h1 h2, newVar, newRow]
theorem opBox_good {S : St} {o : Oper} {t : TypeId} {x : Operand} {v : V} (ho : o.op = .box t x) (hx : S.ev x = some v) (h1 : v.isA = true) (h2 : v.cells.all V.one = true) : Good M S.fs o { v := .ptr (S.heap.length, 0) 0 0, chg := [(S.heap.length, .cells t 0 v.cells)] } := by
  refine opNew_good h2 fun σ Z a w hops => ⟨(a.eval x).cells, (hops x (by simp [ho, Op.operands]) v (by rw [fs_ev, hx])).cells h1, ?_⟩
  simp [execOp, ho, Instr.box, newVar, newRow]

theorem bound_run {P : Program} {w : World} {v : Value} {j : Int} {y : Nat} {code : BoundsCode} (h : ∃ kd, v = .int kd j) (h0 : 0 ≤ j) (h1 : j ≤ y) : (Instr.sliceBound v y code).run P w = .ok j.toNat w := by
  obtain ⟨kd, rfl⟩ := h
  simp [Instr.sliceBound, asIntOf, h0, h1]
theorem optInt_spec {S : St} {x : Option V} {d : Nat} {j : Int} (h : optInt x d = some j) : (x = none ∧ j = d) ∨ ∃ kd, x = some (.lf (.int kd j)) := by
  unfold optInt at h
  split at h
  · cases h; exact .inl ⟨rfl, rfl⟩
  · cases h; exact .inr ⟨_, rfl⟩
  · cases h
theorem slice_run {P : Program} {w : World} {t e : TypeId} {ti : TypeInfo} {ad : Option Addr} {n cap : Nat} {lo hi : Option Value} {l h : Int} (hu : P.underlying t = some (.slice e)) (hti : P.info? e = some ti)
    (hl : (lo = none ∧ l = 0) ∨ ∃ kd, lo = some (.int kd l)) (hh : (hi = none ∧ h = n) ∨ ∃ kd, hi = some (.int kd h)) (h0 : 0 ≤ l) (h1 : l ≤ h) (h2 : h ≤ n) (hcap : n ≤ cap) :
    (Instr.sliceAt t (.slice ad n cap) lo hi none).run P w = .ok (.slice (if cap = l.toNat then ad else ad.map (·.add (l.toNat * ti.size))) (h.toNat - l.toNat) (cap - l.toNat)) w := by
  have hb : (Instr.sliceBounds true n cap lo hi none).run P w = .ok (l.toNat, h.toNat, cap) w := by
    rcases hl with ⟨rfl, rfl⟩ | ⟨kd, rfl⟩ <;> rcases hh with ⟨rfl, rfl⟩ | ⟨kd', rfl⟩
    · simp [Instr.sliceBounds]
    · simp [Instr.sliceBounds, bound_run ⟨_, rfl⟩ (show 0 ≤ h by omega) (show h ≤ cap by omega)]
    · have := bound_run (P := P) (w := w) (code := .sliceB) ⟨kd, rfl⟩ h0 (show l ≤ (n : Int) by omega)
      simp [Instr.sliceBounds, this]
    · have := bound_run (P := P) (w := w) (code := .sliceB) ⟨kd, rfl⟩ h0 (show l ≤ (h.toNat : Int) by omega)
      simp [Instr.sliceBounds, this, bound_run ⟨_, rfl⟩ (show 0 ≤ h by omega) (show h ≤ cap by omega)]
  simp [Instr.sliceAt, Instr.slice, run_underlying hu, hb, run_sizeV hti]
theorem opt_ops {S : St} {σ : Num} {Z : Zone} {w : World} {a : Act} {x : Option Operand} {u : Option V} {d : Nat} {j : Int} (hx : (x = none ∧ u = none) ∨ ∃ y v, x = some y ∧ S.ev y = some v ∧ u = some v) (hj : optInt u d = some j)
    (hops : ∀ y, x = some y → ∀ v, S.fs.ev y = some v → RV M σ Z w v (a.eval y)) : (x.map a.eval = none ∧ j = d) ∨ ∃ kd, x.map a.eval = some (.int kd j) := by
  rcases hx with ⟨rfl, rfl⟩ | ⟨y, v, rfl, hy, rfl⟩
  · simp only [optInt, Option.some.injEq] at hj; exact .inl ⟨rfl, hj.symm⟩
  · rcases optInt_spec (S := S) hj with ⟨h, _⟩ | ⟨kd, h⟩
    · cases h
    · simp only [Option.some.injEq] at h; subst h
      exact .inr ⟨kd, by simp [lf_eval (hops y rfl _ (by rw [fs_ev, hy]))]⟩

theorem opSlice_good {S : St} {o : Oper} {t : TypeId} {x : Operand} {xl xh : Option Operand} {u : V} {lo hi : Option V} {k : Out → Option α} {r : α} (ho : o.op = .slice t x xl xh none) (hx : S.ev x = some u)
    (hl : (xl = none ∧ lo = none) ∨ ∃ y v, xl = some y ∧ S.ev y = some v ∧ lo = some v) (hh : (xh = none ∧ hi = none) ∨ ∃ y v, xh = some y ∧ S.ev y = some v ∧ hi = some v) (h : opSlice M S t u lo hi k = some r) :
    ∃ out, k out = some r ∧ Good M S.fs o out := by
  have hmx : x ∈ o.op.operands := by simp [ho, Op.operands]
  have hml : ∀ y, xl = some y → y ∈ o.op.operands := fun y e => by simp [ho, Op.operands, e]
  have hmh : ∀ y, xh = some y → y ∈ o.op.operands := fun y e => by simp [ho, Op.operands, e]
  unfold opSlice at h
  split at h
  · rename_i e hu
    split at h
    · rename_i ti hti
      have run : ∀ (σ : Num) (Z : Zone) (a : Act) (w : World) (l hq : Int) (ad : Option Addr) (n cap : Nat), (∀ x ∈ o.op.operands, ∀ v, S.fs.ev x = some v → RV M σ Z w v (a.eval x)) → a.eval x = .slice ad n cap → optInt lo 0 = some l → optInt hi n = some hq →
          0 ≤ l → l ≤ hq → hq ≤ n → n ≤ cap → (execOp a.eval o).run M.P w = .ok (.value (.slice (if cap = l.toNat then ad else ad.map (·.add (l.toNat * ti.size))) (hq.toNat - l.toNat) (cap - l.toNat))) w := by
        intro σ Z a w l hq ad n cap hops e1 hlo hhi h0 h1 h2 h3
        have g1 := opt_ops (M := M) (σ := σ) (Z := Z) (w := w) (a := a) hl hlo fun y e v hv => hops y (hml y e) v hv
        have g2 := opt_ops (M := M) (σ := σ) (Z := Z) (w := w) (a := a) hh hhi fun y e v hv => hops y (hmh y e) v hv
        have := slice_run (P := M.P) (w := w) (ad := ad) hu hti (g1.imp (fun h => ⟨h.1, by simpa using h.2⟩) id) g2 h0 h1 h2 h3
        simp [execOp, ho, e1, this]
      split at h
      · rename_i ty xs
        split at h
        · rename_i l hq hlo hhi
          obtain ⟨hc, h⟩ := bif_some h
          simp only [Bool.and_eq_true, decide_eq_true_eq] at hc
          obtain ⟨⟨⟨h0, h1⟩, h2⟩, hsz⟩ := hc
          have hsz := Nat.eq_of_beq_eq_true hsz
          refine ⟨_, h, good_still (rds := []) fun σ Z a w hinv hops _ => ?_⟩
          obtain ⟨ad, cap, hv, hcap, hd⟩ := deep_of (hops x hmx _ (by rw [fs_ev, hx]))
          refine ⟨_, ?_, run σ Z a w l hq ad xs.length cap hops hv hlo hhi h0 h1 h2 hcap⟩
          have hlen : ((xs.take hq.toNat).drop l.toNat).length = hq.toNat - l.toNat := by simp; omega
          simp only [RV, DV]
          refine ⟨_, cap - l.toNat, by rw [hlen], by rw [hlen]; omega, ?_⟩
          by_cases hemp : (xs.take hq.toNat).drop l.toNat = []
          · exact .inl hemp
          · right
            have hpos : 0 < hq.toNat - l.toNat := by rw [← hlen]; exact List.length_pos_iff.2 hemp
            rcases hd with rfl | ⟨b, off, cs, el, fr, pre, post, rows, rfl, k2, k3, k4, k5, k6⟩
            · simp at hemp
            · have hrl := k6.length
              rw [if_neg (by omega)]
              refine ⟨b, off + l.toNat * ti.size, cs, el, fr, pre ++ (rows.take l.toNat).flatten, (rows.drop hq.toNat).flatten ++ post, (rows.take hq.toNat).drop l.toNat, by simp [add_off], k2, k3, ?_, ?_, (k6.take _).drop _⟩
              · rw [k4]
                have e1 : rows = rows.take l.toNat ++ ((rows.take hq.toNat).drop l.toNat ++ rows.drop hq.toNat) := by
                  have e2 : rows.take l.toNat = (rows.take hq.toNat).take l.toNat := by rw [List.take_take, Nat.min_eq_left (by omega)]
                  rw [← List.append_assoc, e2, List.take_append_drop, List.take_append_drop]
                conv => lhs; rw [e1]
                simp
              · rw [List.length_append, k5, flatten_take_length (DVs.len k6) (by omega), hsz]
        · cases h
      · rename_i b
        split at h
        · rename_i n hn
          split at h
          · rename_i l hq hlo hhi
            obtain ⟨hc, h⟩ := bif_some h
            simp only [Bool.and_eq_true, decide_eq_true_eq] at hc
            obtain ⟨⟨⟨hsz, h0⟩, h1⟩, h2⟩ := hc
            have hsz := Nat.eq_of_beq_eq_true hsz
            obtain ⟨he, g1, g2⟩ := lenAt_spec (M := M) hn
            refine ⟨_, h, good_still fun σ Z a w hinv hops ht => ?_⟩
            obtain ⟨s, hs, hr, hw⟩ := g2 σ Z w (ht b.1 (by simp) he g1)
            have hv := own_of (hops x hmx _ (by rw [fs_ev, hx])) hs
            rcases hw with ⟨q0, rfl, ad, q⟩ | ⟨rr, q1, q2, q3⟩
            · refine ⟨_, ?_, run σ Z a w l hq ad 0 0 hops (hv.trans q) hlo hhi h0 h1 h2 (Nat.le_refl _)⟩
              simp only [RV, hs]
              have hl0 : l.toNat = 0 := by omega
              have hh0 : hq.toNat = 0 := by omega
              exact .inl ⟨q0, by omega, by rw [hl0, hh0, q]; simp, ad, by rw [hl0, hh0]; simp⟩
            · refine ⟨_, ?_, run σ Z a w l hq _ n s.cap hops (hv.trans q2) hlo hhi h0 h1 h2 q3⟩
              simp only [RV, hs]
              right
              by_cases hcl : s.cap = l.toNat
              · rw [if_pos hcl]
                refine ⟨rr, _, 0, q1, rfl, by omega, .inl (by omega), fun hl0 => ⟨by omega, rfl⟩⟩
              · rw [if_neg hcl]
                refine ⟨rr, s.cap - l.toNat, l.toNat * ti.size, q1, by simp [add_off], by omega, .inr (by rw [hr, hsz]), fun hl0 => ⟨by omega, by rw [hl0]; simp⟩⟩
          · cases h
        · cases h
      · rename_i b l0 n
        split at h
        · rename_i l hq hlo hhi
          obtain ⟨hc, h⟩ := bif_some h
          simp only [Bool.and_eq_true, decide_eq_true_eq] at hc
          obtain ⟨⟨⟨⟨hal, hsz⟩, h0⟩, h1⟩, h2⟩ := hc
          have hsz := Nat.eq_of_beq_eq_true hsz
          obtain ⟨he, g1, g2⟩ := aliveB_spec (M := M) hal
          refine ⟨_, h, good_still fun σ Z a w hinv hops ht => ?_⟩
          obtain ⟨s, hs, hr⟩ := g2 σ Z w (ht b.1 (by simp) he g1)
          rcases sub_of (hops x hmx _ (by rw [fs_ev, hx])) hs with ⟨q0, rfl, ad, q⟩ | ⟨rr, cap, off, q1, q, q3, q4, q5⟩
          · refine ⟨_, ?_, run σ Z a w l hq ad 0 0 hops q hlo hhi h0 h1 h2 (Nat.le_refl _)⟩
            simp only [RV, hs]
            have hl0 : l.toNat = 0 := by omega
            have hh0 : hq.toNat = 0 := by omega
            have qw := sub_whole (hops x hmx _ (by rw [fs_ev, hx])) hs q0
            exact .inl ⟨q0, by omega, by rw [← qw, q, hl0, hh0]; simp, ad, by rw [hl0, hh0]; simp⟩
          · refine ⟨_, ?_, run σ Z a w l hq _ n cap hops q hlo hhi h0 h1 h2 q3⟩
            simp only [RV, hs]
            right
            by_cases hcl : cap = l.toNat
            · rw [if_pos hcl]
              refine ⟨rr, _, off, q1, rfl, by omega, .inl (by omega), fun hl0 => ?_⟩
              obtain ⟨p1, p2⟩ := q5 (by omega)
              exact ⟨by omega, p2⟩
            · rw [if_neg hcl]
              refine ⟨rr, cap - l.toNat, off + l.toNat * ti.size, q1, by simp [add_off], by omega, ?_, fun hl0 => ?_⟩
              · rcases q4 with q4 | q4
                · exact .inl (by omega)
                · exact .inr (by rw [q4, hr, hsz, Nat.add_mul])
              · obtain ⟨p1, p2⟩ := q5 (by omega)
                have : l.toNat = 0 := by omega
                exact ⟨by omega, by rw [this, p2]; simp⟩
        · cases h
      · rename_i n c
        split at h
        · rename_i l hq hlo hhi
          obtain ⟨hc, h⟩ := bif_some h
          simp only [Bool.and_eq_true, decide_eq_true_eq] at hc
          obtain ⟨rfl, rfl⟩ := hc
          refine ⟨_, h, good_still (rds := []) fun σ Z a w hinv hops _ => ?_⟩
          have hv := hops x hmx _ (by rw [fs_ev, hx])
          exact ⟨_, lf_rv rfl, by simpa using run σ Z a w 0 0 none 0 0 hops (lf_eval hv) hlo hhi (by omega) (by omega) (by omega) (by omega)⟩
        · cases h
      · cases h
    · cases h
  · cases h

theorem fold_put : ∀ (l : List Value) (i off : Nat) (vs : Array Value), off + i + l.length ≤ vs.size →
    ((l.zipIdx i).foldl (fun cs (c, j) => cs.setIfInBounds (off + j) c) vs).toList = vs.toList.take (off + i) ++ (l ++ vs.toList.drop (off + i + l.length))
  | [], i, off, vs, h => by simp
  | v :: l, i, off, vs, h => by
    simp only [List.zipIdx_cons, List.foldl_cons, List.length_cons] at h ⊢
    rw [fold_put l (i + 1) off _ (by simp; omega)]
    have hlt : off + i < vs.toList.length := by simp; omega
    simp only [Array.toList_setIfInBounds]
    rw [show off + (i + 1) = off + i + 1 by omega, List.take_succ_eq_append_getElem (by simpa using hlt)]
    simp only [List.getElem_set_self, List.append_assoc, List.cons_append, List.nil_append]
    rw [List.take_set_of_le (Nat.le_refl _), List.drop_set_of_lt (by omega)]
    have : off + i + 1 + l.length = off + i + (l.length + 1) := by omega
    rw [this]
theorem fillV_spec {σ : Num} {Z : Zone} {w : World} {place : Nat → Option (Nat × Nat)} {S : St} {a : Act} : ∀ {parts : List (Nat × Operand)} {cs us : List V} {vs : Array Value}, fillV place (parts.map fun p => (p.1, S.ev p.2)) cs = some us → cs.all V.one = true → RVs M σ Z w cs vs.toList →
    (∀ p ∈ parts, ∀ v, S.fs.ev p.2 = some v → RV M σ Z w v (a.eval p.2)) → us.all V.one = true ∧ ∃ vs' : Array Value, Instr.fill place vs (parts.map fun p => (p.1, a.eval p.2)) = some vs' ∧ RVs M σ Z w us vs'.toList
  | [], cs, us, vs, h, h1, h2, _ => by simp [fillV] at h; subst h; exact ⟨h1, vs, rfl, h2⟩
  | (i, x) :: parts, cs, us, vs, h, h1, h2, hv => by
    simp only [List.map_cons] at h ⊢
    cases hx : S.ev x with
    | none => simp [hx, fillV] at h
    | some v =>
      simp only [hx, fillV] at h
      split at h
      · rename_i off n hp
        obtain ⟨hc, h⟩ := bif_some h
        simp only [Bool.and_eq_true] at hc
        obtain ⟨⟨c1, c2⟩, c3⟩ := hc
        have c2 := Nat.eq_of_beq_eq_true c2
        split at h
        · rename_i cs' hcs
          obtain ⟨p1, rfl⟩ := putC_spec hcs
          have hcells := (hv (i, x) (by simp) v (by rw [fs_ev, hx])).cells c1
          have hl := hcells.length
          have hl2 := h2.length
          have hone : (cs.take off ++ (v.cells ++ cs.drop (off + v.cells.length))).all V.one = true := by
            rw [List.all_eq_true] at h1 c3 ⊢
            intro y hy
            rcases List.mem_append.1 hy with hy | hy
            · exact h1 y (List.mem_of_mem_take hy)
            · rcases List.mem_append.1 hy with hy | hy
              · exact c3 y hy
              · exact h1 y (List.mem_of_mem_drop hy)
          have hfold : (((a.eval x).cells.zipIdx.foldl (fun cs (c, j) => cs.setIfInBounds (off + j) c) vs)).toList = vs.toList.take off ++ ((a.eval x).cells.toList ++ vs.toList.drop (off + v.cells.length)) := by
            have := fold_put (a.eval x).cells.toList 0 off vs (by simp at hl hl2 ⊢; omega)
            simp only [Nat.add_zero] at this
            rw [hl, ← this]
            congr 1
            rw [← Array.foldl_toList, Array.toList_zipIdx]
          obtain ⟨g1, vs', g2, g3⟩ := fillV_spec (vs := (a.eval x).cells.zipIdx.foldl (fun cs (c, j) => cs.setIfInBounds (off + j) c) vs) h hone (by rw [hfold]; exact (h2.take off).append (hcells.append (h2.drop _))) fun p hp => hv p (by simp [hp])
          refine ⟨g1, vs', ?_, g3⟩
          simp only [Instr.fill, hp]
          have e1 : (a.eval x).cells.size = n := by simp at hl; omega
          have e2 : ¬ (off + (a.eval x).cells.size > vs.size) := by simp at hl hl2; omega
          have e3 : (decide ((a.eval x).cells.size ≠ n) || decide (off + (a.eval x).cells.size > vs.size)) = false := by
            simp only [Bool.or_eq_false_iff, decide_eq_false_iff_not]
            exact ⟨fun h => h e1, e2⟩
          simp only [e3]
          exact g2
        · cases h
      · cases h
end Go.Proofs.YtdjkdmjdcdljmaaGreatX
