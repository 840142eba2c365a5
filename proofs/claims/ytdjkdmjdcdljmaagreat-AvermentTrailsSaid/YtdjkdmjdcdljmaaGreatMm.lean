/- Own work. No condition. -/
import Derived.Test.YtdjkdmjdcdljmaaGreatMl

namespace Go.Proofs.YtdjkdmjdcdljmaaGreatX
open Go.RowKit
set_option linter.unusedVariables false
set_option linter.unusedSimpArgs false
variable {M : Cfg} {α : Type}

def CallGood (M : Cfg) (f : FuncId) (vs : List V) (H : Nat → Option HE) (out : Out) : Prop :=
  ∀ (σ : Num) (Z : Zone) (w : World) (args : List Value), Inv σ Z w → RVs M σ Z w vs args → (∀ G, G ∈ out.rds ∨ G ∈ fams out.chg → ∀ he, H G = some he → HER M σ Z w G he) → (∀ G ∈ fams out.chg, H G = none → ∀ k, σ G k = .fresh) →
    Calls M.P f args.toArray w fun e w' => ∃ v' σ' Z', e = .returned v' ∧ RV M σ' Z' w' out.v v' ∧ Moves M σ Z w σ' Z' w' out.chg
def CallsOk (M : Cfg) (C : CallsBy α) : Prop := ∀ f vs H (k : Out → Option α) r, C f vs H k = some r →
  ∃ out, k out = some r ∧ (∃ fn, M.P.funcs[f]? = some fn ∧ (fn.name == "runtime.NumGoroutine") = false ∧ fn.body.isSome = true) ∧ CallGood M f vs (fun G => H[G]?) out

theorem opCallV_good {C : CallsBy α} {S : St} {o : Oper} {c : Call} {f : Operand} {g : FuncId} {first captured vs : List V} {k : Out → Option α} {r : α} (hC : CallsOk M C) (ho : o.op = .call c) (hc : c.callee = .value f) (hf : S.ev f = some (.fn (.func g) first captured))
    (ha : S.evs c.args.toList = some vs) (h : C g (first ++ vs ++ captured) S.heap k = some r) : ∃ out, k out = some r ∧ Good M S.fs o out := by
  obtain ⟨out, hk, ⟨fn, hfn, hname, hbody⟩, hcall⟩ := hC _ _ _ _ _ h
  refine ⟨out, hk, fun σ Z a w hinv hops ht hn K Q hK => ?_⟩
  have hfv := hops f (by simp [ho, Op.operands, Call.operands, hc]) _ (by rw [fs_ev, hf])
  simp only [RV] at hfv
  obtain ⟨fs', cs', e1, h1, h2⟩ := hfv
  have hargs := evs_spec (M := M) ha σ Z a w fun x hx => hops x (by simp only [ho, Op.operands, Call.operands, hc]; simp; right; simpa using hx)
  have hall : RVs M σ Z w (first ++ vs ++ captured) (fs'.toList ++ c.args.toList.map a.eval ++ cs'.toList) := (h1.append hargs).append h2
  have hname' : fn.name ≠ "runtime.NumGoroutine" := by simpa using hname
  obtain ⟨cc, hcc⟩ := Option.isSome_iff_exists.1 hbody
  have hrun : (execOp a.eval o).run M.P w = .ok (.enter g (fs'.toList ++ c.args.toList.map a.eval ++ cs'.toList).toArray) w := by
    have e : fs' ++ c.args.map a.eval ++ cs' = (fs'.toList ++ c.args.toList.map a.eval ++ cs'.toList).toArray := by rw [← Array.toList_inj]; simp
    rw [← e]
    simp [execOp, ho, resolve, hc, Deferred.ofValue, invoke, e1, callFunc, hfn, hname', hcc]
  unfold Oper.wp
  rw [hrun, Oper.upon_enter]
  refine (hcall σ Z w _ hinv hall ht hn).mono fun e w' ⟨v', σ', Z', he, hv, hm⟩ => ?_
  subst he
  exact hK v' w' σ' Z' hv hm

theorem vop_good {C : CallsBy α} {E : EqBy} {S : St} {o : Oper} {k : Out → Option α} {r : α} (hC : CallsOk M C) (hE : EqOk M.P E) (h : vop M C E S o k = some r) : ∃ out, k out = some r ∧ Good M S.fs o out := by
  unfold vop at h
  split at h
  case h_1 x ho =>
    split at h
    · rename_i v hx; exact ⟨_, h, opMove_good (x := x) (fun ρ => by simp [execOp, ho]) (by rw [fs_ev, hx]) (by simp [ho, Op.operands])⟩
    · cases h
  case h_2 x ho =>
    split at h
    · rename_i v hx; exact ⟨_, h, opMove_good (x := x) (fun ρ => by simp [execOp, ho]) (by rw [fs_ev, hx]) (by simp [ho, Op.operands])⟩
    · cases h
  case h_3 c x y ho =>
    split at h
    · rename_i t hc
      cases t with
      | true =>
        simp only [cond_true] at h
        split at h
        · rename_i v hx; exact ⟨_, h, opPick_good (z := x) ho (by rw [fs_ev, hc]) rfl (by rw [fs_ev, hx])⟩
        · cases h
      | false =>
        simp only [cond_false] at h
        split at h
        · rename_i v hx; exact ⟨_, h, opPick_good (z := y) ho (by rw [fs_ev, hc]) rfl (by rw [fs_ev, hx])⟩
        · cases h
    · cases h
  case h_4 t ho =>
    split at h
    · rename_i cs hz; exact ⟨_, h, opAlloc_good ho hz⟩
    · cases h
  case h_5 t x ho =>
    split at h
    · rename_i v hx
      obtain ⟨hc, h⟩ := bif_some h
      simp only [Bool.and_eq_true] at hc
      exact ⟨_, h, opBox_good ho hx hc.1 hc.2⟩
    · cases h
  case h_6 t parts ho => exact opBuild_good ho h
  case h_7 t len parts ho => exact opBuildSlice2_good ho h
  case h_8 t x ho =>
    split at h
    · rename_i v hx; exact opLoad_good ho hx h
    · cases h
  case h_9 t x y ho =>
    split at h
    · rename_i u v hx hy; exact opStore2_good ho hx hy h
    · cases h
  case h_10 x ho =>
    split at h
    · rename_i b i off hx
      obtain ⟨hc, h⟩ := bif_some h
      exact ⟨_, h, opNilPtr_good ho hx hc⟩
    · rename_i t y hx
      split at h
      · exact ⟨_, h, opNilPin_good ho hx⟩
      · cases h
    · rename_i f first captured hx
      split at h
      · exact ⟨_, h, opNilFn_good ho hx⟩
      · cases h
    · cases h
  case h_11 op t x y ty ho =>
    have hs : ∀ cs b, o.op ≠ .select cs b := by intro cs b e; rw [ho] at e; cases e
    split at h
    · split at h
      · rename_i u v hx hy; exact opDiv_good (.inl rfl) ho (by rw [fs_ev, hx]) (by rw [fs_ev, hy]) h
      · cases h
    · split at h
      · rename_i u v hx hy; exact opDiv_good (.inr rfl) ho (by rw [fs_ev, hx]) (by rw [fs_ev, hy]) h
      · cases h
    · split at h
      · rename_i u v hx hy; exact opSh_good (.inl rfl) ho (by rw [fs_ev, hx]) (by rw [fs_ev, hy]) h
      · cases h
    · split at h
      · rename_i u v hx hy; exact opSh_good (.inr rfl) ho (by rw [fs_ev, hx]) (by rw [fs_ev, hy]) h
      · cases h
    · exact opEq_good hE (.inl ⟨rfl, rfl⟩) ho h
    · exact opEq_good hE (.inr ⟨rfl, rfl⟩) ho h
    · exact opGen_good hs h
  case h_12 => rename_i ho; exact opGen_good (by intro cs b e; rw [ho] at e; cases e) h
  case h_13 src dst x ho =>
    split at h
    · rename_i v hx; exact opConvert_good ho hx h
    · cases h
  case h_14 t x ho =>
    split at h
    · rename_i v hx; exact opIface_good ho hx h
    · cases h
  case h_15 fn first captured ho =>
    split at h
    · rename_i fs cs h1 h2; exact ⟨_, h, opFunc_good ho h1 h2⟩
    · cases h
  case h_16 t len cap ho =>
    split at h
    · rename_i n m h1 h2; exact opMakeSlice_good ho h1 h2 h
    · cases h
  case h_17 t x lo hi mx ho =>
    split at h
    · split at h
      · rename_i v hx hl hh
        have e1 : lo = none := by cases lo <;> first | rfl | cases hl
        have e2 : hi = none := by cases hi <;> first | rfl | cases hh
        subst e1
        subst e2
        exact opSlice_good ho hx (.inl ⟨rfl, rfl⟩) (.inl ⟨rfl, rfl⟩) h
      · rename_i v l hx hl hh
        have e2 : hi = none := by cases hi <;> first | rfl | cases hh
        obtain ⟨y, e1, hy⟩ := Option.map_eq_some_iff.1 hl
        exact opSlice_good ho hx (.inr ⟨y, l, e1, hy, rfl⟩) (.inl ⟨e2, rfl⟩) h
      · rename_i v q hx hl hh
        have e1 : lo = none := by cases lo <;> first | rfl | cases hl
        obtain ⟨y, e2, hy⟩ := Option.map_eq_some_iff.1 hh
        exact opSlice_good ho hx (.inl ⟨e1, rfl⟩) (.inr ⟨y, q, e2, hy, rfl⟩) h
      · rename_i v l q hx hl hh
        obtain ⟨y, e1, hy⟩ := Option.map_eq_some_iff.1 hl
        obtain ⟨z, e2, hz⟩ := Option.map_eq_some_iff.1 hh
        exact opSlice_good ho hx (.inr ⟨y, l, e1, hy, rfl⟩) (.inr ⟨z, q, e2, hz, rfl⟩) h
      · cases h
    · cases h
  case h_18 s x f ho =>
    split at h
    · rename_i v hx; exact opField_good ho hx h
    · cases h
  case h_19 t x f ho =>
    split at h
    · rename_i cs fs hx hu
      split at h
      · rename_i fd hf
        split at h
        · rename_i v hv; exact ⟨_, h, opFieldV_good ho hx hu hf hv⟩
        · cases h
      · cases h
    · cases h
  case h_20 t x i ho =>
    split at h
    · rename_i u v hx hi; exact opIndexAddr_good ho hx hi h
    · cases h
  case h_21 t x i ho =>
    split at h
    · rename_i u v hx hi; exact opIndex_good ho hx hi h
    · cases h
  case h_22 x i ho =>
    split at h
    · rename_i vs hx
      split at h
      · rename_i v hv; exact ⟨_, h, opExtract_good ho hx hv⟩
      · cases h
    · cases h
  case h_23 c ho =>
    unfold opCall at h
    split at h
    · rename_i f hc
      split at h
      · rename_i g first captured vs hf ha; exact opCallV_good hC ho hc hf ha h
      · cases h
    · rename_i hc
      split at h
      · rename_i x hx
        obtain ⟨y, hl, hy⟩ := evs_one hx
        exact opLen_good ho hc hl hy h
      · cases h
    · rename_i hc
      split at h
      · rename_i x y hx
        obtain ⟨p, q, hl, hp, hq⟩ := evs_two hx
        exact opAppend_good ho hc hl hp hq h
      · cases h
    · rename_i hc
      split at h
      · rename_i x y hx
        obtain ⟨p, q, hl, hp, hq⟩ := evs_two hx
        exact opCopy_good ho hc hl hp hq h
      · cases h
    · exact opGen_good (by intro cs b e; rw [ho] at e; cases e) h
    · exact opGen_good (by intro cs b e; rw [ho] at e; cases e) h
    · cases h
  case h_24 => cases h
end Go.Proofs.YtdjkdmjdcdljmaaGreatX
