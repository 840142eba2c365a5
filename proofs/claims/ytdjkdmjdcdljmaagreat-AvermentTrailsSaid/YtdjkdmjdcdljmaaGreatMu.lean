/- Own work. No condition. -/
import Derived.Test.YtdjkdmjdcdljmaaGreatMt

namespace Go.Proofs.YtdjkdmjdcdljmaaGreatX
open Go.RowKit
set_option linter.unusedVariables false
set_option linter.unusedSimpArgs false
variable {M : Cfg} {α : Type}

def resOne (M : Cfg) (S : St) : ResultVar → Option V
  | .tmp t => match look S.env t with
    | some v => bif v.isA then some v else none
    | none => none
  | .cell x t => match look S.env x with
    | some (.ptr b i off) => rowAt S.heap b i fun cs => vpart M t cs off
    | _ => none
def resAll (M : Cfg) (S : St) : List ResultVar → Option (List V)
  | [] => some []
  | x :: xs => match resOne M S x with
    | some v => match resAll M S xs with | some vs => some (v :: vs) | none => none
    | none => none
def resV : List V → V
  | [v] => v
  | vs => .tup vs
def resVal : List Value → Value
  | [v] => v
  | vs => .tuple vs.toArray
def resSem (tmps : Array Value) : ResultVar → Sem Value
  | .tmp t => pure (tmps.getD t undef)
  | .cell a t => do loadVar t (← asAddr (tmps.getD a undef))
theorem results_eq (fn : Func) (tmps : Array Value) : results fn tmps = (do
    let vs ← fn.results.mapM (resSem tmps)
    pure (if h : vs.size = 1 then vs[0] else .tuple vs)) := by
  unfold results
  congr 2
theorem resOne_sound {E : Ent} {S : St} {n : Nat} {σ : Num} {Z : Zone} {a : Act} {w : World} (h : Rel M E S.fs n σ Z a w) {x : ResultVar} {v : V} (hx : resOne M S x = some v) : ∃ v', RV M σ Z w v v' ∧ (resSem a.tmps x).run M.P w = .ok v' w := by
  cases x with
  | tmp t =>
    simp only [resOne] at hx
    split at hx
    · rename_i u hu
      obtain ⟨hf, hx⟩ := bif_some hx
      cases hx
      exact ⟨a.eval (.tmp t), h.env t _ hu, rfl⟩
    · cases hx
  | cell x t =>
    simp only [resOne] at hx
    split at hx
    · rename_i b i off hp
      obtain ⟨cs, he, h1, h2, h3⟩ := rowAt_one (M := M) hx
      obtain ⟨⟨s, rr, pre, vs, post, e, g1, g2, g3, g4, g5⟩, g6⟩ := h3 σ Z w (h.heap b.1 he h1)
      obtain ⟨r', k1, k2⟩ := ptr_of (h.env x _ hp) g1
      rw [g2] at k1
      cases k1
      obtain ⟨v', q1, q2⟩ := vpart_load h2 g6 g3 g5
      refine ⟨v', q1, ?_⟩
      rw [g4] at q2
      simp only [resSem]
      rw [show a.tmps.getD x undef = _ from k2]
      exact q2
    · cases hx
theorem resAll_sound {E : Ent} {S : St} {n : Nat} {σ : Num} {Z : Zone} {a : Act} {w : World} (h : Rel M E S.fs n σ Z a w) : ∀ {xs : List ResultVar} {vs : List V}, resAll M S xs = some vs → ∃ vs', RVs M σ Z w vs vs' ∧ (xs.mapM (resSem a.tmps)).run M.P w = .ok vs' w
  | [], vs, hx => by simp [resAll] at hx; subst hx; exact ⟨[], by simp [RVs], by simp⟩
  | x :: xs, vs, hx => by
    simp only [resAll] at hx
    split at hx
    · rename_i v hv
      split at hx
      · rename_i us hus
        cases hx
        obtain ⟨v', h1, h2⟩ := resOne_sound h hv
        obtain ⟨us', h3, h4⟩ := resAll_sound h hus
        exact ⟨v' :: us', by simp only [RVs]; exact ⟨_, _, rfl, h1, h3⟩, by simp only [List.mapM_cons, Sem.run_bind, h2, Result.andThen_ok, h4, Sem.run_pure]⟩
      · cases hx
    · cases hx
theorem resVal_run {fn : Func} {a : Act} {w : World} {vs' : List Value} (h : (fn.results.toList.mapM (resSem a.tmps)).run M.P w = .ok vs' w) : (results fn a.tmps).run M.P w = .ok (resVal vs') w := by
  rw [results_eq, Array.mapM_eq_mapM_toList]
  simp only [Sem.run_bind, Sem.run_map, h, Result.andThen_ok, Sem.run_pure]
  cases vs' with
  | nil => rfl
  | cons v vs' => cases vs' with
    | nil => rfl
    | cons u us => simp [resVal]
theorem resV_rv {σ : Num} {Z : Zone} {w : World} {vs : List V} {us : List Value} (h1 : vs.all V.isA = true) (h : RVs M σ Z w vs us) : RV M σ Z w (resV vs) (resVal us) := by
  have hl := h.length
  match vs, us, h, hl with
  | [], [], h, _ => simp only [resV, resVal, RV]; exact ⟨_, rfl, rfl, h⟩
  | [v], [u], h, _ => exact RVs.one.1 h
  | v :: v' :: vs, u :: u' :: us, h, _ => simp only [resV, resVal, RV]; exact ⟨_, rfl, h1, h⟩
  | [], _ :: _, _, hl => simp at hl
  | _ :: _, [], _, hl => simp at hl
  | [_], _ :: _ :: _, _, hl => simp at hl
  | _ :: _ :: _, [_], _, hl => simp at hl

structure Sig where
  ish : Sh
  ihs : List HSh
  osh : Sh
  ohs : List HSh
@[reducible] def Sig.In (g : Sig) : Type := g.ish.I × HsI g.ihs
@[reducible] def Sig.Ou (g : Sig) : Type := g.osh.I × HsI g.ohs
def envOf : Nat → List V → List (Nat × V)
  | _, [] => []
  | i, v :: vs => (i, v) :: envOf (i + 1) vs
theorem look_env : ∀ {vs : List V} {i t : Nat} {v : V}, look (envOf i vs) t = some v → ∃ j, t = i + j ∧ vs[j]? = some v
  | [], i, t, v, h => by simp [envOf, look] at h
  | u :: vs, i, t, v, h => by
    simp only [envOf, look] at h
    cases e : Nat.beq i t with
    | true =>
      simp only [e, cond_true, Option.some.injEq] at h
      have := Nat.eq_of_beq_eq_true e
      exact ⟨0, by omega, by simp [h]⟩
    | false =>
      simp only [e, cond_false] at h
      obtain ⟨j, h1, h2⟩ := look_env h
      exact ⟨j + 1, by omega, by simpa using h2⟩
def fitY (osh : Sh) (ohs : List HSh) (m : Nat) (us : List V) (H : List HE) : Option (osh.I × HsI ohs) :=
  match fit0 osh ohs m us H with
  | some p => bif cutsOk H p.2.map then some p.1 else none
  | none => none
theorem fitY_eq {osh : Sh} {ohs : List HSh} {m : Nat} {us : List V} {H : List HE} : fitY osh ohs m us H = match fit osh ohs m us H with
  | some (y, _) => some y
  | none => none := by
  unfold fitY fit
  cases fit0 osh ohs m us H with
  | none => rfl
  | some p => simp only; cases cutsOk H p.2.map <;> rfl
def endK (M : Cfg) (fn : Func) (m : Nat) (osh : Sh) (ohs : List HSh) : Kn (osh.I × HsI ohs) := fun ex S => match ex with
  | .exit _ => none
  | _ => match resAll M S fn.results.toList with
    | some us => fitY osh ohs m us S.heap
    | none => none
def runF (M : Cfg) (g : Sig) (C : CallsBy g.Ou) (E : EqBy) (LP : LoopsBy g.Ou) (RF : RefitBy) (CP : CutBy g.Ou) (L : Nat) (fn : Func) (c : Code) (x : g.In) : Option g.Ou :=
  exec M C E LP RF CP L c (endK M fn g.ihs.length g.osh g.ohs) ⟨envOf 0 (g.ish.enc x.1), encH g.ihs x.2, (g.ish.enc x.1).length + (fn.ntmps - (g.ish.enc x.1).length)⟩
def RetK (M : Cfg) (g : Sig) (σ : Num) (Z : Zone) (w : World) (y : g.Ou) (e : Ending) (w' : World) : Prop :=
  ∃ us σ' Z', e = .returned (resVal us) ∧ RVs M σ' Z' w' (g.osh.enc y.1) us ∧ HeapR M σ' Z' w' (encH g.ohs y.2) ∧ (∀ F, g.ohs.length ≤ F → ∀ k, σ' F k = .fresh) ∧ Inv σ' Z' w' ∧ Frm ⟨σ, Z, w, g.ihs.length⟩ σ' Z' w'
def Rets (M : Cfg) (f : FuncId) (g : Sig) (x : g.In) (y : g.Ou) : Prop :=
  ∀ (σ : Num) (Z : Zone) (w : World) (args : List Value), Inv σ Z w → RVs M σ Z w (g.ish.enc x.1) args → HeapR M σ Z w (encH g.ihs x.2) → (∀ F, g.ihs.length ≤ F → ∀ k, σ F k = .fresh) →
    Calls M.P f args.toArray w (RetK M g σ Z w y)
theorem runF_rets {g : Sig} {C : CallsBy g.Ou} {E : EqBy} {LP : LoopsBy g.Ou} {RF : RefitBy} {CP : CutBy g.Ou} {L : Nat} {f : FuncId} {fn : Func} {c : Code} {x : g.In} {y : g.Ou} (hC : CallsOk M C) (hE : EqOk M.P E) (hmx : M.P.follows .mixedOrders = true) (hR : RefitOk M g.ihs.length RF) (hCP : CutsOk M g.ihs.length CP) (hL : LoopsOk M g.ihs.length LP (loopsOf c)) (hm : g.ihs.length ≤ g.ohs.length)
    (hf : M.P.funcs[f]? = some fn) (hb : fn.body = some c) (h : runF M g C E LP RF CP L fn c x = some y) : Rets M f g x y := by
  intro σ Z w args hinv hargs hheap hfresh
  unfold runF at h
  obtain ⟨ex, S', h1, hn, hl⟩ := exec_leads hC hE hmx hR hCP (m := g.ihs.length) c hL h
  have fin : ∀ us, resAll M S' fn.results.toList = some us → fitY g.osh g.ohs g.ihs.length us S'.heap = some y → (ex = .normal ∨ ex = .ret) → Calls M.P f args.toArray w (RetK M g σ Z w y) := by
    intro us hus hk hex
    rw [fitY_eq] at hk
    split at hk
    · rename_i y' W hfit
      cases hk
      obtain ⟨_, g1⟩ := fit_spec (M := M) hfit hm
      refine calls_of_wp hf hb ?_
      have hlen := hargs.length
      have hinit : Rel M ⟨σ, Z, w, g.ihs.length⟩ (St.fs ⟨envOf 0 (g.ish.enc x.1), encH g.ihs x.2, (g.ish.enc x.1).length + (fn.ntmps - (g.ish.enc x.1).length)⟩) ((g.ish.enc x.1).length + (fn.ntmps - (g.ish.enc x.1).length)) σ Z { tmps := args.toArray ++ Array.replicate (fn.ntmps - args.toArray.size) undef, defers := [] } w := by
        refine ⟨fun t v hv => ?_, by simp [hlen], rfl, hheap, fun F hF k => hfresh F ?_ k, hinv, Frm.start σ Z w _⟩
        · obtain ⟨j, hj, hv'⟩ := look_env hv
          rw [Nat.zero_add] at hj
          subst hj
          obtain ⟨v', hv2, hrv⟩ := hargs.get hv'
          have hlt := (List.getElem?_eq_some_iff.1 hv2).1
          have : Act.eval { tmps := args.toArray ++ Array.replicate (fn.ntmps - args.toArray.size) undef, defers := [] } (.tmp t) = v' := by
            simp only [Act.eval, Array.getD_eq_getD_getElem?]
            rw [Array.getElem?_append_left (by simpa using hlt)]
            simp [hv2]
          rw [this]
          exact hrv
        · have : (encH g.ihs x.2)[F]? = none := hF
          rw [List.getElem?_eq_none_iff, encH_len] at this
          exact this
      refine hl ⟨σ, Z, w, g.ihs.length⟩ σ Z _ w _ rfl hinit fun σ' Z' a' w' hr => ?_
      obtain ⟨vs', h3, h4⟩ := resAll_sound hr hus
      obtain ⟨k1, k2, k3, k4⟩ := g1 σ' Z' w' vs' hr.inv (fun G he _ hG => hr.heap G he hG) h3
      have res := resVal_run h4
      rcases hex with rfl | rfl
      · exact ⟨hr.defers, resVal vs', res, vs', _, _, rfl, k1, k2, k3, k4.inv, hr.frm.fit k4⟩
      · exact ⟨hr.defers, resVal vs', res, vs', _, _, rfl, k1, k2, k3, k4.inv, hr.frm.fit k4⟩
    · cases hk
  unfold endK at h1
  cases ex with
  | exit id => cases h1
  | normal =>
    simp only at h1
    split at h1
    · rename_i us hus; exact fin us hus h1 (.inl rfl)
    · cases h1
  | ret =>
    simp only at h1
    split at h1
    · rename_i us hus; exact fin us hus h1 (.inr rfl)
    · cases h1

def Sh.encR (f : Nat → Nat) : (s : Sh) → s.I → List V
  | .ty t, x => t.cells [] x
  | .own F, _ => [.own (f F, 0)]
  | .ownI F, k => [.own (f F, k)]
  | .ptr F off, _ => [.ptr (f F, 0) 0 off]
  | .ptrI F off, i => [.ptr (f F, 0) i off]
  | .unit, _ => []
  | .cons a b, x => a.encR f x.1 ++ b.encR f x.2
  | .agg a, x => [.agg (a.encR f x)]
  | .tup a, x => [.tup (a.encR f x)]
  | .fn g a b, x => [.fn (.func g) (a.encR f x.1) (b.encR f x.2)]
def HSh.encR (f : Nat → Nat) : (h : HSh) → h.I → HE
  | .dead, _ => .dead
  | .cells e row s, x => .cells e row (s.encR f x)
  | .list e t fs, x => .list e t (fs.map f) x
  | .many e t, x => .many e t x
  | .void e t, _ => .many e t []
def Sh.free : Sh → Bool
  | .ty t => t.free
  | .cons a b => a.free && b.free
  | .agg a => a.free
  | .tup a => a.free
  | .fn _ a b => a.free && b.free
  | _ => true
theorem encR_one : ∀ {f : Nat → Nat} {s : Sh} (x : s.I), (s.encR f x).all V.one = (s.enc x).all V.one
  | _, .ty _, _ | _, .own _, _ | _, .ownI _, _ | _, .ptr _ _, _ | _, .ptrI _ _, _ | _, .unit, _ | _, .fn _ _ _, _ | _, .agg _, _ | _, .tup _, _ => rfl
  | f, .cons a b, x => by simp only [Sh.encR, Sh.enc, List.all_append, encR_one x.1, encR_one x.2]
theorem encR_isA : ∀ {f : Nat → Nat} {s : Sh} (x : s.I), (s.encR f x).all V.isA = (s.enc x).all V.isA
  | _, .ty _, _ | _, .own _, _ | _, .ownI _, _ | _, .ptr _ _, _ | _, .ptrI _ _, _ | _, .unit, _ | _, .fn _ _ _, _ | _, .agg _, _ | _, .tup _, _ => rfl
  | f, .cons a b, x => by simp only [Sh.encR, Sh.enc, List.all_append, encR_isA x.1, encR_isA x.2]
structure Ren (σ σ' : Num) (f : Nat → Nat) (n : Nat) : Prop where
  eq : ∀ F, F < n → ∀ k, σ' (f F) k = σ F k
  out : ∀ F, n ≤ F → ∀ k, σ F k = .fresh
theorem encR_rv {σ σ' : Num} {Z : Zone} {w : World} {f : Nat → Nat} {n : Nat} (hr : Ren σ σ' f n) : ∀ {s : Sh} {x : s.I} {us : List Value}, s.free = true → RVs M σ Z w (s.enc x) us → RVs M σ' Z w (s.encR f x) us
  | .ty t, x, us, hf, h => DV.rvs [] (RVs.dv [] hf h)
  | .own F, x, us, _, h => by
    obtain ⟨u, m, rfl, h1, h2⟩ := RVs.cons h
    simp only [RVs] at h2
    subst h2
    by_cases hF : F < n
    · exact RVs.one.2 (own_pull (hr.eq F hF 0) h1)
    · simp only [RV, hr.out F (by omega)] at h1
  | .ownI F, x, us, _, h => by
    obtain ⟨u, m, rfl, h1, h2⟩ := RVs.cons h
    simp only [RVs] at h2
    subst h2
    by_cases hF : F < n
    · exact RVs.one.2 (own_pull (hr.eq F hF x) h1)
    · simp only [RV, hr.out F (by omega)] at h1
  | .ptr F off, x, us, _, h => by
    obtain ⟨u, m, rfl, h1, h2⟩ := RVs.cons h
    simp only [RVs] at h2
    subst h2
    by_cases hF : F < n
    · exact RVs.one.2 (ptr_pull (hr.eq F hF 0) h1)
    · simp only [RV, hr.out F (by omega)] at h1
  | .ptrI F off, x, us, _, h => by
    obtain ⟨u, m, rfl, h1, h2⟩ := RVs.cons h
    simp only [RVs] at h2
    subst h2
    by_cases hF : F < n
    · exact RVs.one.2 (ptr_pull (hr.eq F hF 0) h1)
    · simp only [RV, hr.out F (by omega)] at h1
  | .unit, x, us, _, h => h
  | .cons a b, x, us, hf, h => by
    simp only [Sh.free, Bool.and_eq_true] at hf
    obtain ⟨l, m, rfl, h1, h2⟩ := RVs.appendInv (show RVs M σ Z w (a.enc x.1 ++ b.enc x.2) us from h)
    exact (encR_rv hr hf.1 h1).append (encR_rv hr hf.2 h2)
  | .agg a, x, us, hf, h => by
    obtain ⟨u, m, rfl, h1, h2⟩ := RVs.cons h
    simp only [RVs] at h2
    subst h2
    simp only [RV] at h1
    obtain ⟨cs', rfl, q1, q2⟩ := h1
    have q3 := encR_rv (s := a) hr hf q2
    refine RVs.one.2 ?_
    simp only [RV]
    exact ⟨cs', rfl, by rw [encR_one]; exact q1, q3⟩
  | .tup a, x, us, hf, h => by
    obtain ⟨u, m, rfl, h1, h2⟩ := RVs.cons h
    simp only [RVs] at h2
    subst h2
    simp only [RV] at h1
    obtain ⟨cs', rfl, q1, q2⟩ := h1
    have q3 := encR_rv (s := a) hr hf q2
    refine RVs.one.2 ?_
    simp only [RV]
    exact ⟨cs', rfl, by rw [encR_isA]; exact q1, q3⟩
  | .fn g a b, x, us, hf, h => by
    simp only [Sh.free, Bool.and_eq_true] at hf
    obtain ⟨u, m, rfl, h1, h2⟩ := RVs.cons h
    simp only [RVs] at h2
    subst h2
    simp only [RV] at h1
    obtain ⟨fs', cs', rfl, q1, q2⟩ := h1
    refine RVs.one.2 ?_
    simp only [RV]
    exact ⟨fs', cs', rfl, encR_rv hr hf.1 q1, encR_rv hr hf.2 q2⟩
def HSh.ok : HSh → Bool
  | .list _ t fs => t.ownOk fs.length
  | .many _ t => t.ownOk 0
  | .cells _ _ s => s.free
  | _ => true
theorem cells_ren {σ σ' : Num} {Z : Zone} {w : World} {f : Nat → Nat} {n : Nat} (hr : Ren σ σ' f n) {fs : List Nat} : ∀ {t : Ty} {x : t.I} {us : List Value}, t.ownOk fs.length = true → RVs M σ Z w (t.cells fs x) us → RVs M σ' Z w (t.cells (fs.map f) x) us
  | .pair a b, x, us, h, hv => by
    simp only [Ty.ownOk, Bool.and_eq_true] at h
    simp only [Ty.cells] at hv ⊢
    obtain ⟨l, m, rfl, h1, h2⟩ := hv.appendInv
    exact (cells_ren hr h.1 h1).append (cells_ren hr h.2 h2)
  | .own j, k, us, h, hv => by
    have hj : j < fs.length := Nat.le_of_ble_eq_true h
    obtain ⟨u, m, rfl, h1, h2⟩ := RVs.cons hv
    simp only [RVs] at h2
    subst h2
    have e : (fs.map f).getD j 0 = f (fs.getD j 0) := by simp [hj]
    simp only [Ty.cells]
    rw [e]
    by_cases hF : fs.getD j 0 < n
    · exact RVs.one.2 (own_pull (hr.eq _ hF k) h1)
    · simp only [RV, hr.out _ (Nat.le_of_not_lt hF)] at h1
  | .int kd, x, us, h, hv => DV.rvs _ (RVs.dv fs rfl hv)
  | .bool, x, us, h, hv => DV.rvs _ (RVs.dv fs rfl hv)
  | .str, x, us, h, hv => DV.rvs _ (RVs.dv fs rfl hv)
  | .err, x, us, h, hv => DV.rvs _ (RVs.dv fs rfl hv)
  | .slice t, x, us, h, hv => by
    obtain ⟨u, m, rfl, h1, h2⟩ := RVs.cons hv
    simp only [RVs] at h2
    subst h2
    simp only [RV] at h1
    refine RVs.one.2 ?_
    simp only [RV]
    exact h1
  | .ptr t, x, us, h, hv => by
    obtain ⟨u, m, rfl, h1, h2⟩ := RVs.cons hv
    simp only [RVs] at h2
    subst h2
    simp only [RV] at h1
    refine RVs.one.2 ?_
    simp only [RV]
    exact h1
theorem hencR {σ σ' : Num} {Z : Zone} {w : World} {f : Nat → Nat} {n : Nat} (hr : Ren σ σ' f n) {h : HSh} {x : h.I} {F : Nat} (hF : F < n) (hok : h.ok = true) (hh : HER M σ Z w F (h.enc x)) : HER M σ' Z w (f F) (h.encR f x) := by
  cases h with
  | dead => exact fun k => by rw [hr.eq F hF]; exact hh k
  | void e t =>
    obtain ⟨h1, h2⟩ := hh
    exact ⟨fun k ys hy => by simp at hy, fun k hk => by rw [hr.eq F hF]; exact h2 k (by simp)⟩
  | cells e row s =>
    obtain ⟨hd, hone, vs, k, h1, h2⟩ := hh
    exact ⟨fun k => by rw [hr.eq F hF]; exact hd k, by rw [encR_one]; exact hone, vs, k, encR_rv hr hok h1, by rw [hr.eq F hF]; exact h2⟩
  | many e t =>
    obtain ⟨h1, h2⟩ := hh
    refine ⟨fun k ys hy => ?_, fun k hk => by rw [hr.eq F hF]; exact h2 k hk⟩
    obtain ⟨rows, q1, q2⟩ := h1 k ys hy
    exact ⟨rows, rows_pull (n := 0) (fun _ h => h) (fun j hj => absurd hj (Nat.not_lt_zero j)) hok q1, by rw [hr.eq F hF]; exact q2⟩
  | list e t fs =>
    obtain ⟨hd, rows, h1, h2⟩ := hh
    refine ⟨fun k => by rw [hr.eq F hF]; exact hd k, rows, ?_, by rw [hr.eq F hF]; exact h2⟩
    refine All2.mono (fun x row _ hx => ?_) h1
    exact cells_ren hr hok hx
end Go.Proofs.YtdjkdmjdcdljmaaGreatX
