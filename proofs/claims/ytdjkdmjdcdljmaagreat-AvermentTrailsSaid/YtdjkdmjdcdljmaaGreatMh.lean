/- Own work. No condition. -/
import Derived.Test.YtdjkdmjdcdljmaaGreatMg

import Derived.Great.BuildSlice
namespace Go.Proofs.YtdjkdmjdcdljmaaGreatX
open Go.RowKit
set_option linter.unusedVariables false
set_option linter.unusedSimpArgs false
variable {M : Cfg} {α : Type}

theorem bif_some {c : Bool} {x : Option α} {r : α} (h : (bif c then x else none) = some r) : c = true ∧ x = some r := by
  cases c with
  | false => cases h
  | true => exact ⟨rfl, h⟩
theorem deep_of {σ : Num} {Z : Zone} {w : World} {t : Ty} {xs : List t.I} {v' : Value} (h : RV M σ Z w (.deep t xs) v') : ∃ a cap, v' = .slice a xs.length cap ∧ xs.length ≤ cap ∧ (xs = [] ∨
      ∃ b off cs el fr pre post, ∃ rows : List (List Value), a = some ⟨b, off, none⟩ ∧ Z b ∧ w.heap[b]? = some (.cells cs el fr) ∧ cs.toList = pre ++ (rows.flatten ++ post) ∧ pre.length = off ∧ All2 (DV M Z w t) xs rows) := by
  simp only [RV, DV] at h
  obtain ⟨a, cap, h1, h2⟩ := h
  simp at h1
  exact ⟨a, cap, h1, h2⟩
theorem DVs.len {Z : Zone} {w : World} {t : Ty} {xs : List t.I} {rows : List (List Value)} (h : All2 (DV M Z w t) xs rows) : ∀ r ∈ rows, r.length = t.size := by
  induction rows generalizing xs with
  | nil => simp
  | cons r rows ih =>
    cases xs with
    | nil => exact h.elim
    | cons x xs =>
      intro q hq
      rcases List.mem_cons.1 hq with rfl | hq
      · exact h.1.length
      · exact ih h.2 q hq

theorem opIndexAddr_good {S : St} {o : Oper} {t : TypeId} {x i : Operand} {u : V} {v : Value} {k : Out → Option α} {r : α} (ho : o.op = .indexAddr t x i) (hx : S.ev x = some u) (hi : S.ev i = some (.lf v)) (h : opIndexAddr M S t u v k = some r) :
    ∃ out, k out = some r ∧ Good M S.fs o out := by
  unfold opIndexAddr at h
  split at h
  · rename_i e hu
    split at h
    · rename_i ti hti
      split at h
      · rename_i b
        split at h
        · rename_i n hn
          obtain ⟨hsz, h⟩ := bif_some h
          have hsz := Nat.eq_of_beq_eq_true hsz
          obtain ⟨kd, j, rfl, j0, j1, h⟩ := inB_spec h
          obtain ⟨he, h1, h2⟩ := lenAt_spec (M := M) hn
          refine ⟨_, h, good_still fun σ Z a w hinv hops ht => ?_⟩
          obtain ⟨s, hs, hr, hw⟩ := h2 σ Z w (ht b.1 (by simp) he h1)
          have hv := own_of (hops x (by simp [ho, Op.operands]) _ (by rw [fs_ev, hx])) hs
          have hi' : a.eval i = .int kd j := lf_eval (hops i (by simp [ho, Op.operands]) _ (by rw [fs_ev, hi]))
          rcases hw with ⟨_, h0, _⟩ | ⟨rr, q1, q2, q3⟩
          · omega
          · rw [q2] at hv
            refine ⟨.pointer (some ⟨rr, j.toNat * ti.size, none⟩), by simp only [RV, hs]; exact ⟨rr, q1, by rw [hr, hsz, Nat.add_zero]⟩, ?_⟩
            have := add_off rr 0 (j.toNat * ti.size)
            simp only [Nat.zero_add] at this
            simp [execOp, ho, hv, hi', Instr.indexAt, asIntOf, run_underlying hu, j0, j1, run_sizeV hti, this]
        · cases h
      · rename_i b lo n
        obtain ⟨hc, h⟩ := bif_some h
        simp only [Bool.and_eq_true] at hc
        have hsz := Nat.eq_of_beq_eq_true hc.2
        obtain ⟨kd, j, rfl, j0, j1, h⟩ := inB_spec h
        obtain ⟨he, h1, h2⟩ := aliveB_spec (M := M) hc.1
        refine ⟨_, h, good_still fun σ Z a w hinv hops ht => ?_⟩
        obtain ⟨s, hs, hr⟩ := h2 σ Z w (ht b.1 (by simp) he h1)
        have hi' : a.eval i = .int kd j := lf_eval (hops i (by simp [ho, Op.operands]) _ (by rw [fs_ev, hi]))
        rcases sub_of (hops x (by simp [ho, Op.operands]) _ (by rw [fs_ev, hx])) hs with ⟨_, h0, _⟩ | ⟨rr, cap, off, q1, hv, q3, q4, _⟩
        · omega
        · have q4 : off = lo * s.row := q4.resolve_left (by omega)
          refine ⟨.pointer (some ⟨rr, off + j.toNat * ti.size, none⟩), by simp only [RV, hs]; exact ⟨rr, q1, by rw [q4, hr, hsz, Nat.add_zero, Nat.add_mul]⟩, ?_⟩
          simp [execOp, ho, hv, hi', Instr.indexAt, asIntOf, run_underlying hu, j0, j1, run_sizeV hti, add_off]
      · rename_i ty xs
        split at h
        · rename_i kd j
          obtain ⟨hc, h⟩ := bif_some h
          simp only [Bool.and_eq_true, decide_eq_true_eq] at hc
          obtain ⟨j0, hsz⟩ := hc
          have hsz := Nat.eq_of_beq_eq_true hsz
          split at h
          · rename_i y hy
            refine ⟨_, h, good_still (rds := []) fun σ Z a w hinv hops _ => ?_⟩
            have hi' : a.eval i = .int kd j := lf_eval (hops i (by simp [ho, Op.operands]) _ (by rw [fs_ev, hi]))
            obtain ⟨ad, cap, hv, hcap, hd⟩ := deep_of (hops x (by simp [ho, Op.operands]) _ (by rw [fs_ev, hx]))
            have hlt := (List.getElem?_eq_some_iff.1 hy).1
            rcases hd with rfl | ⟨b, off, cs, el, fr, pre, post, rows, rfl, k2, k3, k4, k5, k6⟩
            · simp at hlt
            · obtain ⟨row, g1, g2⟩ := k6.get hy
              have j1 : j < (xs.length : Int) := by omega
              have hrl := k6.length
              refine ⟨.pointer (some ⟨b, off + j.toNat * ti.size, none⟩), ?_, ?_⟩
              · simp only [RV, DV]
                refine ⟨b, off + j.toNat * ti.size, cs, el, fr, pre ++ (rows.take j.toNat).flatten, row, (rows.drop (j.toNat + 1)).flatten ++ post, rfl, k2, k3, ?_, ?_, g2⟩
                · rw [k4, flatten_at g1]; simp
                · rw [List.length_append, k5, flatten_take_length (DVs.len k6) (by omega), hsz]
              · simp [execOp, ho, hv, hi', Instr.indexAt, asIntOf, run_underlying hu, j0, j1, run_sizeV hti, add_off]
          · cases h
        · cases h
      · cases h
    · cases h
  · rename_i len e hu
    split at h
    · rename_i ti b rr off hti
      obtain ⟨hal, h⟩ := bif_some h
      obtain ⟨kd, j, rfl, j0, j1, h⟩ := inB_spec h
      obtain ⟨he, h1, h2⟩ := aliveB_spec (M := M) hal
      refine ⟨_, h, good_still fun σ Z a w hinv hops ht => ?_⟩
      obtain ⟨s, hs, hr⟩ := h2 σ Z w (ht b.1 (by simp) he h1)
      obtain ⟨q, q1, hv⟩ := ptr_of (hops x (by simp [ho, Op.operands]) _ (by rw [fs_ev, hx])) hs
      have hi' : a.eval i = .int kd j := lf_eval (hops i (by simp [ho, Op.operands]) _ (by rw [fs_ev, hi]))
      refine ⟨.pointer (some ⟨q, rr * s.row + (off + j.toNat * ti.size), none⟩), by simp only [RV, hs]; exact ⟨q, q1, rfl⟩, ?_⟩
      simp [execOp, ho, hv, hi', Instr.indexAt, asIntOf, run_underlying hu, j0, j1, run_sizeV hti, Instr.sureAddr, add_off, Nat.add_assoc]
    · cases h
  · cases h

theorem vpart_run {σ : Num} {Z : Zone} {w : World} {t : TypeId} {cs : List V} {off : Nat} {v : V} {vs : Array Value} (h : vpart M t cs off = some v) (hone : cs.all V.one = true) (hv : RVs M σ Z w cs vs.toList) :
    ∃ v', RV M σ Z w v v' ∧ (part t vs off).run M.P w = .ok v' w := by
  have hl := hv.length
  unfold vpart at h
  unfold part
  split at h
  · rename_i i ha hi
    split at h
    · rename_i us hus
      cases h
      obtain ⟨h1, rfl⟩ := takeC_spec hus
      refine ⟨.agg (vs.extract off (off + i.size)), ?_, by simp [run_isAgg ha, run_sizeV hi]⟩
      simp only [RV]
      refine ⟨_, rfl, ?_, ?_⟩
      · rw [List.all_eq_true] at hone ⊢
        exact fun x hx => hone x (List.mem_of_mem_drop (List.mem_of_mem_take hx))
      · have : (vs.extract off (off + i.size)).toList = (vs.toList.drop off).take i.size := by
          rw [Array.toList_extract, List.extract_eq_take_drop]; simp
        rw [this]
        exact (hv.drop off).take i.size
    · cases h
  · rename_i ha
    obtain ⟨v', h1, h2⟩ := hv.get h
    refine ⟨v', h2, ?_⟩
    have : vs[off]? = some v' := by simpa using h1
    simp [run_isAgg ha, this]
  · cases h
theorem opIndex_good {S : St} {o : Oper} {t : TypeId} {x i : Operand} {u : V} {v : Value} {k : Out → Option α} {r : α} (ho : o.op = .index t x i) (hx : S.ev x = some u) (hi : S.ev i = some (.lf v)) (h : opIndex M t u v k = some r) :
    ∃ out, k out = some r ∧ Good M S.fs o out := by
  unfold opIndex at h
  split at h
  · rename_i s hu
    obtain ⟨kd, j, rfl, j0, j1, h⟩ := inB_spec h
    refine ⟨_, h, good_still (rds := []) fun σ Z a w hinv hops _ => ⟨_, lf_rv rfl, ?_⟩⟩
    have e1 : a.eval x = .string s := lf_eval (hops x (by simp [ho, Op.operands]) _ (by rw [fs_ev, hx]))
    have e2 : a.eval i = .int kd j := lf_eval (hops i (by simp [ho, Op.operands]) _ (by rw [fs_ev, hi]))
    have hlt : j.toNat < s.size := by omega
    simp [execOp, ho, e1, e2, Instr.index, asIntOf, run_underlying hu, j0, hlt]
  · rename_i len e cs hu
    split at h
    · rename_i ti hti
      obtain ⟨kd, j, rfl, j0, j1, h⟩ := inB_spec h
      split at h
      · rename_i v hv
        refine ⟨_, h, good_still (rds := []) fun σ Z a w hinv hops _ => ?_⟩
        have hx' := hops x (by simp [ho, Op.operands]) _ (by rw [fs_ev, hx])
        have e2 : a.eval i = .int kd j := lf_eval (hops i (by simp [ho, Op.operands]) _ (by rw [fs_ev, hi]))
        simp only [RV] at hx'
        obtain ⟨cs', e1, h1, h2⟩ := hx'
        obtain ⟨v', g1, g2⟩ := vpart_run hv h1 h2
        exact ⟨v', g1, by simp [execOp, ho, e1, e2, Instr.index, asIntOf, run_underlying hu, j0, j1, run_sizeV hti, g2]⟩
      · cases h
    · cases h
  · cases h
theorem opFieldV_good {S : St} {o : Oper} {t : TypeId} {x : Operand} {f : Nat} {cs : List V} {fs : Array Field} {fd : Field} {v : V} (ho : o.op = .field t x f) (hx : S.ev x = some (.agg cs)) (hu : M.P.underlying t = some (.struct fs)) (hf : fs[f]? = some fd)
    (hv : vpart M fd.type cs fd.offset = some v) : Good M S.fs o { v := v } := by
  refine good_still (rds := []) fun σ Z a w hinv hops _ => ?_
  have hx' := hops x (by simp [ho, Op.operands]) _ (by rw [fs_ev, hx])
  simp only [RV] at hx'
  obtain ⟨cs', e1, h1, h2⟩ := hx'
  obtain ⟨v', g1, g2⟩ := vpart_run hv h1 h2
  exact ⟨v', g1, by simp [execOp, ho, e1, Instr.field, run_underlying hu, hf, asAgg, g2]⟩
theorem opExtract_good {S : St} {o : Oper} {x : Operand} {i : Nat} {vs : List V} {v : V} (ho : o.op = .extract x i) (hx : S.ev x = some (.tup vs)) (hv : vs[i]? = some v) : Good M S.fs o { v := v } := by
  refine good_still (rds := []) fun σ Z a w hinv hops _ => ?_
  have hx' := hops x (by simp [ho, Op.operands]) _ (by rw [fs_ev, hx])
  simp only [RV] at hx'
  obtain ⟨vs', e1, _, h2⟩ := hx'
  obtain ⟨v', g1, g2⟩ := h2.get hv
  have : vs'[i]? = some v' := by simpa using g1
  exact ⟨v', g2, by simp [execOp, ho, e1, Instr.extract, this]⟩
theorem evs_spec {S : St} : ∀ {l : List Operand} {vs : List V}, S.evs l = some vs → ∀ (σ : Num) (Z : Zone) (a : Act) (w : World), (∀ x ∈ l, ∀ v, S.fs.ev x = some v → RV M σ Z w v (a.eval x)) → RVs M σ Z w vs (l.map a.eval)
  | [], vs, h, σ, Z, a, w, _ => by simp [St.evs] at h; subst h; simp [RVs]
  | x :: l, vs, h, σ, Z, a, w, hv => by
    simp only [St.evs] at h
    cases hx : S.ev x with
    | none => simp [hx] at h
    | some v =>
      simp only [hx] at h
      cases hr : S.evs l with
      | none => simp [hr] at h
      | some ws =>
        simp only [hr, Option.some.injEq] at h
        subst h
        simp only [List.map_cons, RVs]
        exact ⟨_, _, rfl, hv x (by simp) v (by rw [fs_ev, hx]), evs_spec hr σ Z a w fun y hy => hv y (by simp [hy])⟩
theorem evs_one {S : St} {l : List Operand} {v : V} (h : S.evs l = some [v]) : ∃ x, l = [x] ∧ S.ev x = some v := by
  cases l with
  | nil => simp [St.evs] at h
  | cons x l =>
    simp only [St.evs] at h
    cases hx : S.ev x with
    | none => simp [hx] at h
    | some u =>
      simp only [hx] at h
      cases hr : S.evs l with
      | none => simp [hr] at h
      | some ws =>
        simp only [hr, Option.some.injEq, List.cons.injEq] at h
        obtain ⟨rfl, rfl⟩ := h
        cases l with
        | nil => exact ⟨x, rfl, hx⟩
        | cons y l =>
          simp only [St.evs] at hr
          cases hy : S.ev y with
          | none => simp [hy] at hr
          | some u' => simp only [hy] at hr; cases hq : S.evs l <;> simp [hq] at hr
theorem evs_two {S : St} {l : List Operand} {v u : V} (h : S.evs l = some [v, u]) : ∃ x y, l = [x, y] ∧ S.ev x = some v ∧ S.ev y = some u := by
  cases l with
  | nil => simp [St.evs] at h
  | cons x l =>
    simp only [St.evs] at h
    cases hx : S.ev x with
    | none => simp [hx] at h
    | some u' =>
      simp only [hx] at h
      cases hr : S.evs l with
      | none => simp [hr] at h
      | some ws =>
        simp only [hr, Option.some.injEq, List.cons.injEq] at h
        obtain ⟨rfl, rfl⟩ := h
        obtain ⟨y, rfl, hy⟩ := evs_one hr
        exact ⟨x, y, rfl, hx, hy⟩
theorem opFunc_good {S : St} {o : Oper} {fn : Fn} {first captured : Array Operand} {fs cs : List V} (ho : o.op = .makeFunc fn first captured) (h1 : S.evs first.toList = some fs) (h2 : S.evs captured.toList = some cs) : Good M S.fs o { v := .fn fn fs cs } := by
  refine good_still (rds := []) fun σ Z a w hinv hops _ => ⟨.func fn (first.map a.eval) (captured.map a.eval), ?_, by simp [execOp, ho, Instr.makeFunc]⟩
  simp only [RV]
  refine ⟨_, _, rfl, ?_, ?_⟩
  · have := evs_spec h1 σ Z a w fun x hx => hops x (by simp only [ho, Op.operands]; simp; exact .inl (by simpa using hx))
    simpa using this
  · have := evs_spec h2 σ Z a w fun x hx => hops x (by simp only [ho, Op.operands]; simp; exact .inr (by simpa using hx))
    simpa using this
theorem opNilPtr_good {S : St} {o : Oper} {x : Operand} {b : Bid} {i off : Nat} (ho : o.op = .nilCheck x) (hx : S.ev x = some (.ptr b i off)) (hal : aliveB S.heap b = true) : Good M S.fs o { v := .ptr b i off, rds := [b.1] } := by
  obtain ⟨he, h1, h2⟩ := aliveB_spec (M := M) hal
  refine good_still fun σ Z a w hinv hops ht => ?_
  obtain ⟨s, hs, _⟩ := h2 σ Z w (ht b.1 (by simp) he h1)
  have hv := hops x (by simp [ho, Op.operands]) _ (by rw [fs_ev, hx])
  obtain ⟨r, _, e⟩ := ptr_of hv hs
  exact ⟨_, hv, by simp [execOp, ho, e]⟩
theorem opNilPin_good {S : St} {o : Oper} {x : Operand} {t : Ty} {z : t.I} (ho : o.op = .nilCheck x) (hx : S.ev x = some (.pin t (some z))) : Good M S.fs o { v := .pin t (some z) } := by
  refine good_still (rds := []) fun σ Z a w hinv hops ht => ?_
  have hv := hops x (by simp [ho, Op.operands]) _ (by rw [fs_ev, hx])
  have hv' := hv
  simp only [RV, DV] at hv'
  obtain ⟨b, off, cs, el, fr, pre, row, post, k1, _⟩ := hv'
  simp at k1
  exact ⟨_, hv, by simp [execOp, ho, k1]⟩
theorem opNilFn_good {S : St} {o : Oper} {x : Operand} {g : FuncId} {fs cs : List V} (ho : o.op = .nilCheck x) (hx : S.ev x = some (.fn (.func g) fs cs)) : Good M S.fs o { v := .fn (.func g) fs cs } := by
  refine good_still (rds := []) fun σ Z a w hinv hops ht => ?_
  have hv := hops x (by simp [ho, Op.operands]) _ (by rw [fs_ev, hx])
  have hv' := hv
  simp only [RV] at hv'
  obtain ⟨fs', cs', k1, _⟩ := hv'
  exact ⟨_, hv, by simp [execOp, ho, k1]⟩

theorem opLen_good {S : St} {o : Oper} {c : Call} {x : Operand} {u : V} {k : Out → Option α} {r : α} (ho : o.op = .call c) (hc : c.callee = .builtin .len) (hargs : c.args.toList = [x]) (hx : S.ev x = some u)
    (h : opLen M S c.argTypes.toList u k = some r) : ∃ out, k out = some r ∧ Good M S.fs o out := by
  have hargs' : c.args = #[x] := by rw [← Array.toList_inj]; exact hargs
  have hmem : x ∈ o.op.operands := by simp [ho, Op.operands, Call.operands, hc, hargs']
  unfold opLen at h
  split at h
  · rename_i t ts hts
    have ht0 : c.argTypes[0]? = some t := by rw [← Array.getElem?_toList, hts]; rfl
    have run : ∀ (a : Act) (w : World) (e : TypeId) (ad : Option Addr) (n cap : Nat), M.P.underlying t = some (.slice e) → a.eval x = .slice ad n cap → (execOp a.eval o).run M.P w = .ok (.value (.int .i64 n)) w := fun a w e ad n cap hu e1 => by
      simp [execOp, ho, resolve, hc, hargs', e1, invoke, builtin, Builtin.len_, ht0, run_underlying hu, goInt]
    split at h
    · rename_i e hu
      split at h
      · rename_i b
        split at h
        · rename_i n hn
          obtain ⟨he, h1, h2⟩ := lenAt_spec (M := M) hn
          refine ⟨_, h, good_still fun σ Z a w hinv hops ht => ⟨_, lf_rv rfl, ?_⟩⟩
          obtain ⟨s, hs, hr, hw⟩ := h2 σ Z w (ht b.1 (by simp) he h1)
          have hv := own_of (hops x hmem _ (by rw [fs_ev, hx])) hs
          rcases hw with ⟨_, rfl, ad, q⟩ | ⟨rr, q1, q2, q3⟩
          · exact run a w e _ _ _ hu (hv.trans q)
          · exact run a w e _ _ _ hu (hv.trans q2)
        · cases h
      · rename_i b lo n
        obtain ⟨hal, h⟩ := bif_some h
        obtain ⟨he, h1, h2⟩ := aliveB_spec (M := M) hal
        refine ⟨_, h, good_still fun σ Z a w hinv hops ht => ⟨_, lf_rv rfl, ?_⟩⟩
        obtain ⟨s, hs, _⟩ := h2 σ Z w (ht b.1 (by simp) he h1)
        rcases sub_of (hops x hmem _ (by rw [fs_ev, hx])) hs with ⟨_, rfl, ad, q⟩ | ⟨rr, cap, off, q1, q, _⟩
        · exact run a w e _ _ _ hu q
        · exact run a w e _ _ _ hu q
      · rename_i ty xs
        refine ⟨_, h, good_still (rds := []) fun σ Z a w hinv hops _ => ⟨_, lf_rv rfl, ?_⟩⟩
        obtain ⟨ad, cap, hv, _⟩ := deep_of (hops x hmem _ (by rw [fs_ev, hx]))
        exact run a w e _ _ _ hu hv
      · rename_i n cap
        refine ⟨_, h, good_still (rds := []) fun σ Z a w hinv hops _ => ⟨_, lf_rv rfl, ?_⟩⟩
        exact run a w e _ _ _ hu (lf_eval (hops x hmem _ (by rw [fs_ev, hx])))
      · cases h
    · rename_i hu
      split at h
      · rename_i s
        refine ⟨_, h, good_still (rds := []) fun σ Z a w hinv hops _ => ⟨_, lf_rv rfl, ?_⟩⟩
        have e1 : a.eval x = .string s := lf_eval (hops x hmem _ (by rw [fs_ev, hx]))
        simp [execOp, ho, resolve, hc, hargs', e1, invoke, builtin, Builtin.len_, ht0, run_underlying hu, goInt]
      · cases h
    · cases h
  · cases h
end Go.Proofs.YtdjkdmjdcdljmaaGreatX
