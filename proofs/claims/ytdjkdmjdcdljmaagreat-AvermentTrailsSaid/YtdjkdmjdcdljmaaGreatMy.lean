/- Own work. No condition. -/
import Derived.Test.YtdjkdmjdcdljmaaGreatMx

import Derived.Lib.SliceRun
namespace Go.Proofs.YtdjkdmjdcdljmaaGreatX
open Go.RowKit
set_option linter.unusedVariables false
set_option linter.unusedSimpArgs false
variable {M : Cfg} {α : Type}

theorem ret_post {g : Sig} {fn : Func} {ex : Ex} {S' : St} {y : g.Ou} {σ σ' : Num} {Z Z' : Zone} {w w' : World} {a' : Act} (hm : g.ihs.length ≤ g.ohs.length) (hk : endK M fn g.ihs.length g.osh g.ohs ex S' = some y)
    (hr : Rel M ⟨σ, Z, w, g.ihs.length⟩ S'.fs S'.n σ' Z' a' w') : (ex = .normal ∨ ex = .ret) ∧ a'.defers = [] ∧ ∃ v, (results fn a'.tmps).run M.P w' = .ok v w' ∧ RetK M g σ Z w y (.returned v) w' := by
  unfold endK at hk
  have fin : ∀ us, resAll M S' fn.results.toList = some us → fitY g.osh g.ohs g.ihs.length us S'.heap = some y → a'.defers = [] ∧ ∃ v, (results fn a'.tmps).run M.P w' = .ok v w' ∧ RetK M g σ Z w y (.returned v) w' := by
    intro us hus hk
    rw [fitY_eq] at hk
    split at hk
    · rename_i y' W hfit
      cases hk
      obtain ⟨_, g1⟩ := fit_spec (M := M) hfit hm
      obtain ⟨vs', h3, h4⟩ := resAll_sound hr hus
      obtain ⟨k1, k2, k3, k4⟩ := g1 σ' Z' w' vs' hr.inv (fun G he _ hG => hr.heap G he hG) h3
      exact ⟨hr.defers, resVal vs', resVal_run h4, vs', _, _, rfl, k1, k2, k3, k4.inv, hr.frm.fit k4⟩
    · cases hk
  cases ex with
  | exit id => cases hk
  | normal =>
    simp only at hk
    split at hk
    · rename_i us hus; exact ⟨.inl rfl, fin us hus hk⟩
    · cases hk
  | ret =>
    simp only at hk
    split at hk
    · rename_i us hus; exact ⟨.inr rfl, fin us hus hk⟩
    · cases hk

def keepK : Kn St := fun ex S => match ex with
  | .normal => some S
  | _ => none
def nilS : V := .lf (.slice none 0 0)
def askSt (n : Nat) (T : Ty) (xs : List T.I) (b : Bool) : St := { env := [(4, .lf (.bool b)), (3, .deep T xs), (2, nilS), (0, .deep T xs)], heap := [], n := n }
theorem clone_rets {g : Sig} {T : Ty} {t e t' ty1 ty2 : TypeId} {p1 p2 : String} {id n L : Nat} {a1 a2 : Array Edge} {f : FuncId} {fn : Func} {c0 X D : Code} {G : List T.I → Option g.Ou} {x : List T.I} {y : g.Ou} {args0 : g.ish.I}
    (hmx : M.P.follows .mixedOrders = true) (hf : M.P.funcs[f]? = some fn) (hb : fn.body = some (.seq c0 (.seq (.seq (.region id #[⟨some 3, .move (.tmp 0), ty1, p1, a1, none⟩, ⟨some 4, .binOp .eql t (.tmp 3) (.const (.slice none 0 0)) t', ty2, p2, a2, none⟩] false) X) D)))
    (hu : M.P.underlying t = some (.slice e)) (hish : g.ish.enc args0 = [.deep T x]) (hihs : g.ihs = []) (hn : 1 + (fn.ntmps - 1) = n) (hn5 : 5 ≤ n) (hlX : loopsOf X = []) (hlD : loopsOf D = []) (hl0 : loopsOf c0 = [])
    (h0 : exec M noCalls (eqBy M.P) noLoops noRefit noCuts L c0 keepK ⟨[(0, .deep T x)], [], n⟩ = some ⟨[(2, nilS), (0, .deep T x)], [], n⟩)
    (h1 : exec (α := g.Ou) M noCalls (eqBy M.P) noLoops noRefit noCuts L (.seq X D) (endK M fn 0 g.osh g.ohs) (askSt n T x false) = G x)
    (h2 : exec (α := g.Ou) M noCalls (eqBy M.P) noLoops noRefit noCuts L (.seq X D) (endK M fn 0 g.osh g.ohs) (askSt n T [] true) = G [])
    (h : G x = some y) (z : HsI g.ihs) : Rets M f g (args0, z) y := by
  intro σ Z w args hinv hargs hheap hfresh
  refine calls_of_wp hf hb ?_
  simp only [hish] at hargs
  have hlen := hargs.length
  obtain ⟨v, hvs⟩ : ∃ v, args = [v] := by
    match args, hlen with
    | [v], _ => exact ⟨v, rfl⟩
  subst hvs
  have hv : RV M σ Z w (.deep T x) v := RVs.one.1 hargs
  have hinit : Rel M ⟨σ, Z, w, 0⟩ (St.fs ⟨[(0, .deep T x)], [], n⟩) n σ Z { tmps := #[v] ++ Array.replicate (fn.ntmps - 1) undef, defers := [] } w := by
    refine ⟨fun t u hu => ?_, by simp [hn], rfl, fun G he hG => by simp [St.fs] at hG, fun F hF k => hfresh F (by rw [hihs]; simp) k, hinv, Frm.start σ Z w _⟩
    simp only [St.fs, look] at hu
    cases ht : Nat.beq 0 t with
    | true =>
      have := Nat.eq_of_beq_eq_true ht
      subst this
      rw [ht] at hu
      cases hu
      have : Act.eval { tmps := #[v] ++ Array.replicate (fn.ntmps - 1) undef, defers := [] } (.tmp 0) = v := by
        simp only [Act.eval, Array.getD_eq_getD_getElem?]
        rw [Array.getElem?_append_left (by simp)]
        rfl
      rw [this]
      exact hv
    | false => rw [ht] at hu; cases hu
  obtain ⟨ex, S1, k1, k2, k3⟩ := exec_leads (α := St) (C := noCalls) (E := eqBy M.P) (LP := noLoops) (RF := noRefit) (CP := noCuts) (L := L) (m := 0) noCalls_ok (eqBy_ok _) hmx noRefit_ok noCuts_ok c0 noLoops_ok h0
  have hex : ex = .normal ∧ S1 = ⟨[(2, nilS), (0, .deep T x)], [], n⟩ := by
    unfold keepK at k1
    cases ex <;> first | (cases k1; exact ⟨rfl, rfl⟩) | cases k1
  obtain ⟨rfl, rfl⟩ := hex
  have post : ∀ (ex : Ex) (S' : St) (σ' : Num) (Z' : Zone) (a' : Act) (w' : World), endK M fn 0 g.osh g.ohs ex S' = some y → Rel M ⟨σ, Z, w, 0⟩ S'.fs S'.n σ' Z' a' w' → bodyPost M.P fn (RetK M g σ Z w y) ex.out a' w' := by
    intro ex S' σ' Z' a' w' hk hr
    have hl0 : g.ihs.length = 0 := by rw [hihs]; rfl
    obtain ⟨q1, q2⟩ := ret_post (M := M) (g := g) (fn := fn) (by rw [hl0]; exact Nat.zero_le _) (by rw [hl0]; exact hk) (by rw [hl0]; exact hr)
    rcases q1 with rfl | rfl
    · exact q2
    · exact q2
  have body : ∀ (S2 : St) (σ1 : Num) (Z1 : Zone) (a1 : Act) (w1 : World), Rel M ⟨σ, Z, w, 0⟩ S2.fs S2.n σ1 Z1 a1 w1 → exec (α := g.Ou) M noCalls (eqBy M.P) noLoops noRefit noCuts L (.seq X D) (endK M fn 0 g.osh g.ohs) S2 = some y →
      X.wp M.P (Exit.then (D.wp M.P (bodyPost M.P fn (RetK M g σ Z w y))) (bodyPost M.P fn (RetK M g σ Z w y))) a1 w1 := by
    intro S2 σ1 Z1 a1 w1 hr hx
    simp only [exec] at hx
    obtain ⟨ex, S3, q1, q2, q3⟩ := exec_leads (C := noCalls) (E := eqBy M.P) (LP := noLoops) (RF := noRefit) (CP := noCuts) (L := L) (m := 0) noCalls_ok (eqBy_ok _) hmx noRefit_ok noCuts_ok X noLoops_ok hx
    refine q3 ⟨σ, Z, w, 0⟩ σ1 Z1 a1 w1 _ rfl hr fun σ' Z' a' w' hr' => ?_
    cases ex with
    | normal =>
      obtain ⟨ex2, S4, r1, r2, r3⟩ := exec_leads (C := noCalls) (E := eqBy M.P) (LP := noLoops) (RF := noRefit) (CP := noCuts) (L := L) (m := 0) noCalls_ok (eqBy_ok _) hmx noRefit_ok noCuts_ok D noLoops_ok q1
      exact r3 ⟨σ, Z, w, 0⟩ σ' Z' a' w' _ rfl hr' fun σ'' Z'' a'' w'' hr'' => post ex2 S4 σ'' Z'' a'' w'' r1 hr''
    | exit id => exact post (.exit id) S3 σ' Z' a' w' q1 hr'
    | ret => exact post .ret S3 σ' Z' a' w' q1 hr'
  refine wp_seq (k3 ⟨σ, Z, w, 0⟩ σ Z _ w _ rfl hinit fun σ' Z' a' w' hr' => ?_)
  refine wp_seq (wp_seq (wp_region ?_))
  have ht0 := hr'.env 0 (.deep T x) rfl
  obtain ⟨ad, cap, e0, -, e2⟩ := deep_of ht0
  have hz : n = a'.tmps.size := hr'.size.symm
  show wpOps M.P _ _ [0, 1] a' w'
  simp only [wpOps_cons]
  refine .inl ?_
  have s1 := hr'.step (o := ⟨some 3, .move (.tmp 0), ty1, p1, a1, none⟩) (out := { v := .deep T x }) (fun d e => by cases e; exact Nat.lt_of_lt_of_le (by decide) hn5) ht0 (Moves.still hr'.inv)
  refine wp_value (v := a'.eval (.tmp 0)) (w' := w') (by simp [execOp]) ?_
  refine .inl ?_
  have e3 : (a'.put (some 3) (a'.eval (.tmp 0))).eval (.tmp 3) = a'.eval (.tmp 0) := by rw [ev_put, if_pos ⟨rfl, by omega⟩]
  have s2 := s1.step (o := ⟨some 4, .binOp .eql t (.tmp 3) (.const (.slice none 0 0)) t', ty2, p2, a2, none⟩) (out := { v := .lf (.bool ad.isNone) }) (fun d e => by cases e; exact Nat.lt_of_lt_of_le (by decide) hn5) (v' := .bool ad.isNone) (lf_rv rfl) (Moves.still s1.inv)
  refine wp_value (v := .bool ad.isNone) (w' := w') ?_ ?_
  · have e3' : (a'.put (some 3) (a'.eval (.tmp 0))).eval (.tmp 3) = .slice ad x.length cap := by rw [e3, e0]
    have := Go.Lib.run_eql_slice_nil (P := M.P) w' t e ad x.length cap 0 0 hu
    have key : ∀ ev : Operand → Value, ev (.tmp 3) = .slice ad x.length cap → ev (.const (.slice none 0 0)) = .slice none 0 0 →
        (execOp ev ⟨some 4, .binOp .eql t (.tmp 3) (.const (.slice none 0 0)) t', ty2, p2, a2, none⟩).run M.P w' = .ok (.value (.bool ad.isNone)) w' := by
      intro ev h1 h2
      simp only [execOp, h1, h2]
      simp [this, eqGuard]
    exact key _ e3' rfl
  · have fin : Rel M ⟨σ, Z, w, 0⟩ (askSt n T x ad.isNone).fs n σ' Z' ((a'.put (some 3) (a'.eval (.tmp 0))).put (some 4) (.bool ad.isNone)) w' := by
      refine ⟨fun u v' hu => s2.env u v' ?_, s2.size, s2.defers, fun G he hG => by simp [St.fs, askSt] at hG, fun F hF k => hr'.fresh F (by simp [St.fs]) k, s2.inv, s2.frm⟩
      simp only [askSt, St.fs, look] at hu
      simp only [Fs.put, St.fs, look, Option.some.injEq]
      by_cases e4 : 4 = u
      · subst e4
        simpa using hu
      · have e4' : Nat.beq 4 u = false := by cases hb : Nat.beq 4 u with
          | false => rfl
          | true => exact absurd (Nat.eq_of_beq_eq_true hb) e4
        rw [e4'] at hu
        rw [if_neg e4]
        by_cases e3 : 3 = u
        · subst e3
          simpa using hu
        · have e3' : Nat.beq 3 u = false := by cases hb : Nat.beq 3 u with
            | false => rfl
            | true => exact absurd (Nat.eq_of_beq_eq_true hb) e3
          rw [e3'] at hu
          rw [if_neg e3]
          exact hu
    cases ad with
    | some _ =>
      simp only [wpOps, Exit.then]
      exact body (askSt n T x false) σ' Z' _ w' fin (by rw [h1]; exact h)
    | none =>
      have hx0 : x = [] := by
        rcases e2 with e2 | ⟨b, off, cs, el, fr, pre, post, rows, q, _⟩
        · exact e2
        · cases q
      subst hx0
      simp only [wpOps, Exit.then]
      exact body (askSt n T [] true) σ' Z' _ w' fin (by rw [h2]; exact h)
def askStO (n : Nat) (e : TypeId) (T : Ty) (xs : List T.I) (b : Bool) : St := { env := [(4, .lf (.bool b)), (3, .own (0, 0)), (2, nilS), (0, .own (0, 0))], heap := [.list e T [] xs], n := n }
theorem cloneO_rets {g : Sig} {T : Ty} {t e t' ty1 ty2 : TypeId} {p1 p2 : String} {id n L : Nat} {a1 a2 : Array Edge} {f : FuncId} {fn : Func} {c0 X D : Code} {G : List T.I → Option g.Ou} {x : List T.I} {y : g.Ou} {args0 : g.ish.I} {z : HsI g.ihs}
    (hmx : M.P.follows .mixedOrders = true) (hf : M.P.funcs[f]? = some fn) (hb : fn.body = some (.seq c0 (.seq (.seq (.region id #[⟨some 3, .move (.tmp 0), ty1, p1, a1, none⟩, ⟨some 4, .binOp .eql t (.tmp 3) (.const (.slice none 0 0)) t', ty2, p2, a2, none⟩] false) X) D)))
    (hu : M.P.underlying t = some (.slice e)) (hish : g.ish.enc args0 = [.own (0, 0)]) (hihs : g.ihs = [.list e T []]) (hz : encH g.ihs z = [.list e T [] x]) (hT : T.size ≠ 0) (ho : 1 ≤ g.ohs.length) (hn : 1 + (fn.ntmps - 1) = n) (hn5 : 5 ≤ n) (hlX : loopsOf X = []) (hlD : loopsOf D = []) (hl0 : loopsOf c0 = [])
    (h0 : exec M noCalls (eqBy M.P) noLoops noRefit noCuts L c0 keepK ⟨[(0, .own (0, 0))], [.list e T [] x], n⟩ = some ⟨[(2, nilS), (0, .own (0, 0))], [.list e T [] x], n⟩)
    (h1 : exec (α := g.Ou) M noCalls (eqBy M.P) noLoops noRefit noCuts L (.seq X D) (endK M fn 1 g.osh g.ohs) (askStO n e T x false) = G x)
    (h2 : exec (α := g.Ou) M noCalls (eqBy M.P) noLoops noRefit noCuts L (.seq X D) (endK M fn 1 g.osh g.ohs) (askStO n e T [] true) = G [])
    (h : G x = some y) : Rets M f g (args0, z) y := by
  intro σ Z w args hinv hargs hheap hfresh
  refine calls_of_wp hf hb ?_
  simp only [hish] at hargs
  have hlen := hargs.length
  obtain ⟨v, hvs⟩ : ∃ v, args = [v] := by
    match args, hlen with
    | [v], _ => exact ⟨v, rfl⟩
  subst hvs
  have hv : RV M σ Z w (.own (0, 0)) v := RVs.one.1 hargs
  have hinit : Rel M ⟨σ, Z, w, 1⟩ (St.fs ⟨[(0, .own (0, 0))], [.list e T [] x], n⟩) n σ Z { tmps := #[v] ++ Array.replicate (fn.ntmps - 1) undef, defers := [] } w := by
    refine ⟨fun t u hu => ?_, by simp [hn], rfl, fun G he hG => hheap G he (by rw [hz]; exact hG), fun F hF k => hfresh F (by rw [hihs]; have h2 : ([HE.list e T [] x] : List HE)[F]? = none := hF; rw [List.getElem?_eq_none_iff] at h2; exact h2) k, hinv, Frm.start σ Z w _⟩
    simp only [St.fs, look] at hu
    cases ht : Nat.beq 0 t with
    | true =>
      have := Nat.eq_of_beq_eq_true ht
      subst this
      rw [ht] at hu
      cases hu
      have : Act.eval { tmps := #[v] ++ Array.replicate (fn.ntmps - 1) undef, defers := [] } (.tmp 0) = v := by
        simp only [Act.eval, Array.getD_eq_getD_getElem?]
        rw [Array.getElem?_append_left (by simp)]
        rfl
      rw [this]
      exact hv
    | false => rw [ht] at hu; cases hu
  obtain ⟨ex, S1, k1, k2, k3⟩ := exec_leads (α := St) (C := noCalls) (E := eqBy M.P) (LP := noLoops) (RF := noRefit) (CP := noCuts) (L := L) (m := 1) noCalls_ok (eqBy_ok _) hmx noRefit_ok noCuts_ok c0 noLoops_ok h0
  have hex : ex = .normal ∧ S1 = ⟨[(2, nilS), (0, .own (0, 0))], [.list e T [] x], n⟩ := by
    unfold keepK at k1
    cases ex <;> first | (cases k1; exact ⟨rfl, rfl⟩) | cases k1
  obtain ⟨rfl, rfl⟩ := hex
  have post : ∀ (ex : Ex) (S' : St) (σ' : Num) (Z' : Zone) (a' : Act) (w' : World), endK M fn 1 g.osh g.ohs ex S' = some y → Rel M ⟨σ, Z, w, 1⟩ S'.fs S'.n σ' Z' a' w' → bodyPost M.P fn (RetK M g σ Z w y) ex.out a' w' := by
    intro ex S' σ' Z' a' w' hk hr
    have hl0 : g.ihs.length = 1 := by rw [hihs]; rfl
    obtain ⟨q1, q2⟩ := ret_post (M := M) (g := g) (fn := fn) (by rw [hl0]; exact ho) (by rw [hl0]; exact hk) (by rw [hl0]; exact hr)
    rcases q1 with rfl | rfl
    · exact q2
    · exact q2
  have body : ∀ (S2 : St) (σ1 : Num) (Z1 : Zone) (a1 : Act) (w1 : World), Rel M ⟨σ, Z, w, 1⟩ S2.fs S2.n σ1 Z1 a1 w1 → exec (α := g.Ou) M noCalls (eqBy M.P) noLoops noRefit noCuts L (.seq X D) (endK M fn 1 g.osh g.ohs) S2 = some y →
      X.wp M.P (Exit.then (D.wp M.P (bodyPost M.P fn (RetK M g σ Z w y))) (bodyPost M.P fn (RetK M g σ Z w y))) a1 w1 := by
    intro S2 σ1 Z1 a1 w1 hr hx
    simp only [exec] at hx
    obtain ⟨ex, S3, q1, q2, q3⟩ := exec_leads (C := noCalls) (E := eqBy M.P) (LP := noLoops) (RF := noRefit) (CP := noCuts) (L := L) (m := 1) noCalls_ok (eqBy_ok _) hmx noRefit_ok noCuts_ok X noLoops_ok hx
    refine q3 ⟨σ, Z, w, 1⟩ σ1 Z1 a1 w1 _ rfl hr fun σ' Z' a' w' hr' => ?_
    cases ex with
    | normal =>
      obtain ⟨ex2, S4, r1, r2, r3⟩ := exec_leads (C := noCalls) (E := eqBy M.P) (LP := noLoops) (RF := noRefit) (CP := noCuts) (L := L) (m := 1) noCalls_ok (eqBy_ok _) hmx noRefit_ok noCuts_ok D noLoops_ok q1
      exact r3 ⟨σ, Z, w, 1⟩ σ' Z' a' w' _ rfl hr' fun σ'' Z'' a'' w'' hr'' => post ex2 S4 σ'' Z'' a'' w'' r1 hr''
    | exit id => exact post (.exit id) S3 σ' Z' a' w' q1 hr'
    | ret => exact post .ret S3 σ' Z' a' w' q1 hr'
  refine wp_seq (k3 ⟨σ, Z, w, 1⟩ σ Z _ w _ rfl hinit fun σ' Z' a' w' hr' => ?_)
  refine wp_seq (wp_seq (wp_region ?_))
  have ht0 := hr'.env 0 (.own (0, 0)) rfl
  have hH := hr'.heap 0 (.list e T [] x) rfl
  obtain ⟨ad, cap, e0, e2⟩ : ∃ ad cap, a'.eval (.tmp 0) = .slice ad x.length cap ∧ (ad = none → x = []) := by
    obtain ⟨_, rows, q1, s, q2, q3, q4, q5⟩ := hH
    simp only [RV, q2] at ht0
    rw [ht0.1]
    rcases q5 with ⟨_, h0, _, a, ha⟩ | ⟨r, rest, _, _, h3⟩
    · rw [ha]; exact ⟨a, 0, by rw [h0], fun _ => List.length_eq_zero_iff.1 h0⟩
    · obtain ⟨_, _, h4⟩ := h3 hT
      exact ⟨_, _, h4, fun h => by cases h⟩
  have hz : n = a'.tmps.size := hr'.size.symm
  show wpOps M.P _ _ [0, 1] a' w'
  simp only [wpOps_cons]
  refine .inl ?_
  have s1 := hr'.step (o := ⟨some 3, .move (.tmp 0), ty1, p1, a1, none⟩) (out := { v := .own (0, 0) }) (fun d e => by cases e; exact Nat.lt_of_lt_of_le (by decide) hn5) ht0 (Moves.still hr'.inv)
  refine wp_value (v := a'.eval (.tmp 0)) (w' := w') (by simp [execOp]) ?_
  refine .inl ?_
  have e3 : (a'.put (some 3) (a'.eval (.tmp 0))).eval (.tmp 3) = a'.eval (.tmp 0) := by rw [ev_put, if_pos ⟨rfl, by omega⟩]
  have s2 := s1.step (o := ⟨some 4, .binOp .eql t (.tmp 3) (.const (.slice none 0 0)) t', ty2, p2, a2, none⟩) (out := { v := .lf (.bool ad.isNone) }) (fun d e => by cases e; exact Nat.lt_of_lt_of_le (by decide) hn5) (v' := .bool ad.isNone) (lf_rv rfl) (Moves.still s1.inv)
  refine wp_value (v := .bool ad.isNone) (w' := w') ?_ ?_
  · have e3' : (a'.put (some 3) (a'.eval (.tmp 0))).eval (.tmp 3) = .slice ad x.length cap := by rw [e3, e0]
    have := Go.Lib.run_eql_slice_nil (P := M.P) w' t e ad x.length cap 0 0 hu
    have key : ∀ ev : Operand → Value, ev (.tmp 3) = .slice ad x.length cap → ev (.const (.slice none 0 0)) = .slice none 0 0 →
        (execOp ev ⟨some 4, .binOp .eql t (.tmp 3) (.const (.slice none 0 0)) t', ty2, p2, a2, none⟩).run M.P w' = .ok (.value (.bool ad.isNone)) w' := by
      intro ev h1 h2
      simp only [execOp, h1, h2]
      simp [this, eqGuard]
    exact key _ e3' rfl
  · have fin : Rel M ⟨σ, Z, w, 1⟩ (askStO n e T x ad.isNone).fs n σ' Z' ((a'.put (some 3) (a'.eval (.tmp 0))).put (some 4) (.bool ad.isNone)) w' := by
      refine ⟨fun u v' hu => s2.env u v' ?_, s2.size, s2.defers, fun G he hG => s2.heap G he (by simpa [Fs.put, look2, St.fs, askStO] using hG), fun F hF k => s2.fresh F (by simpa [Fs.put, look2, St.fs, askStO] using hF) k, s2.inv, s2.frm⟩
      simp only [askStO, St.fs, look] at hu
      simp only [Fs.put, St.fs, look, Option.some.injEq]
      by_cases e4 : 4 = u
      · subst e4
        simpa using hu
      · have e4' : Nat.beq 4 u = false := by cases hb : Nat.beq 4 u with
          | false => rfl
          | true => exact absurd (Nat.eq_of_beq_eq_true hb) e4
        rw [e4'] at hu
        rw [if_neg e4]
        by_cases e3 : 3 = u
        · subst e3
          simpa using hu
        · have e3' : Nat.beq 3 u = false := by cases hb : Nat.beq 3 u with
            | false => rfl
            | true => exact absurd (Nat.eq_of_beq_eq_true hb) e3
          rw [e3'] at hu
          rw [if_neg e3]
          exact hu
    cases ad with
    | some _ =>
      simp only [wpOps, Exit.then]
      exact body (askStO n e T x false) σ' Z' _ w' fin (by rw [h1]; exact h)
    | none =>
      have hx0 : x = [] := e2 rfl
      subst hx0
      simp only [wpOps, Exit.then]
      exact body (askStO n e T [] true) σ' Z' _ w' fin (by rw [h2]; exact h)
def askStI (n : Nat) (e : TypeId) (T : Ty) (kk : Nat) (xss : List (List T.I)) (b : Bool) : St := { env := [(4, .lf (.bool b)), (3, .own (0, kk)), (2, nilS), (0, .own (0, kk))], heap := [.many e T xss], n := n }
theorem cloneI_rets {g : Sig} {T : Ty} {t e t' ty1 ty2 : TypeId} {p1 p2 : String} {id n L : Nat} {a1 a2 : Array Edge} {f : FuncId} {fn : Func} {c0 X D : Code} {kk : Nat} {xss : List (List T.I)} {x : List T.I} {y : g.Ou} {args0 : g.ish.I} {z : HsI g.ihs}
    (hx : xss[kk]? = some x) (hmx : M.P.follows .mixedOrders = true) (hf : M.P.funcs[f]? = some fn) (hb : fn.body = some (.seq c0 (.seq (.seq (.region id #[⟨some 3, .move (.tmp 0), ty1, p1, a1, none⟩, ⟨some 4, .binOp .eql t (.tmp 3) (.const (.slice none 0 0)) t', ty2, p2, a2, none⟩] false) X) D)))
    (hu : M.P.underlying t = some (.slice e)) (hish : g.ish.enc args0 = [.own (0, kk)]) (hihs : g.ihs = [.many e T]) (hz : encH g.ihs z = [.many e T xss]) (hT : T.size ≠ 0) (ho : 1 ≤ g.ohs.length) (hn : 1 + (fn.ntmps - 1) = n) (hn5 : 5 ≤ n) (hlX : loopsOf X = []) (hlD : loopsOf D = []) (hl0 : loopsOf c0 = [])
    (h0 : exec M noCalls (eqBy M.P) noLoops noRefit noCuts L c0 keepK ⟨[(0, .own (0, kk))], [.many e T xss], n⟩ = some ⟨[(2, nilS), (0, .own (0, kk))], [.many e T xss], n⟩)
    (h : exec (α := g.Ou) M noCalls (eqBy M.P) noLoops noRefit noCuts L (.seq X D) (endK M fn 1 g.osh g.ohs) (askStI n e T kk xss false) = some y)
    (h2 : x = [] → exec (α := g.Ou) M noCalls (eqBy M.P) noLoops noRefit noCuts L (.seq X D) (endK M fn 1 g.osh g.ohs) (askStI n e T kk xss true) = some y) : Rets M f g (args0, z) y := by
  intro σ Z w args hinv hargs hheap hfresh
  refine calls_of_wp hf hb ?_
  simp only [hish] at hargs
  have hlen := hargs.length
  obtain ⟨v, hvs⟩ : ∃ v, args = [v] := by
    match args, hlen with
    | [v], _ => exact ⟨v, rfl⟩
  subst hvs
  have hv : RV M σ Z w (.own (0, kk)) v := RVs.one.1 hargs
  have hinit : Rel M ⟨σ, Z, w, 1⟩ (St.fs ⟨[(0, .own (0, kk))], [.many e T xss], n⟩) n σ Z { tmps := #[v] ++ Array.replicate (fn.ntmps - 1) undef, defers := [] } w := by
    refine ⟨fun t u hu => ?_, by simp [hn], rfl, fun G he hG => hheap G he (by rw [hz]; exact hG), fun F hF k => hfresh F (by rw [hihs]; have h2 : ([HE.many e T xss] : List HE)[F]? = none := hF; rw [List.getElem?_eq_none_iff] at h2; exact h2) k, hinv, Frm.start σ Z w _⟩
    simp only [St.fs, look] at hu
    cases ht : Nat.beq 0 t with
    | true =>
      have := Nat.eq_of_beq_eq_true ht
      subst this
      rw [ht] at hu
      cases hu
      have : Act.eval { tmps := #[v] ++ Array.replicate (fn.ntmps - 1) undef, defers := [] } (.tmp 0) = v := by
        simp only [Act.eval, Array.getD_eq_getD_getElem?]
        rw [Array.getElem?_append_left (by simp)]
        rfl
      rw [this]
      exact hv
    | false => rw [ht] at hu; cases hu
  obtain ⟨ex, S1, k1, k2, k3⟩ := exec_leads (α := St) (C := noCalls) (E := eqBy M.P) (LP := noLoops) (RF := noRefit) (CP := noCuts) (L := L) (m := 1) noCalls_ok (eqBy_ok _) hmx noRefit_ok noCuts_ok c0 noLoops_ok h0
  have hex : ex = .normal ∧ S1 = ⟨[(2, nilS), (0, .own (0, kk))], [.many e T xss], n⟩ := by
    unfold keepK at k1
    cases ex <;> first | (cases k1; exact ⟨rfl, rfl⟩) | cases k1
  obtain ⟨rfl, rfl⟩ := hex
  have post : ∀ (ex : Ex) (S' : St) (σ' : Num) (Z' : Zone) (a' : Act) (w' : World), endK M fn 1 g.osh g.ohs ex S' = some y → Rel M ⟨σ, Z, w, 1⟩ S'.fs S'.n σ' Z' a' w' → bodyPost M.P fn (RetK M g σ Z w y) ex.out a' w' := by
    intro ex S' σ' Z' a' w' hk hr
    have hl0 : g.ihs.length = 1 := by rw [hihs]; rfl
    obtain ⟨q1, q2⟩ := ret_post (M := M) (g := g) (fn := fn) (by rw [hl0]; exact ho) (by rw [hl0]; exact hk) (by rw [hl0]; exact hr)
    rcases q1 with rfl | rfl
    · exact q2
    · exact q2
  have body : ∀ (S2 : St) (σ1 : Num) (Z1 : Zone) (a1 : Act) (w1 : World), Rel M ⟨σ, Z, w, 1⟩ S2.fs S2.n σ1 Z1 a1 w1 → exec (α := g.Ou) M noCalls (eqBy M.P) noLoops noRefit noCuts L (.seq X D) (endK M fn 1 g.osh g.ohs) S2 = some y →
      X.wp M.P (Exit.then (D.wp M.P (bodyPost M.P fn (RetK M g σ Z w y))) (bodyPost M.P fn (RetK M g σ Z w y))) a1 w1 := by
    intro S2 σ1 Z1 a1 w1 hr hx
    simp only [exec] at hx
    obtain ⟨ex, S3, q1, q2, q3⟩ := exec_leads (C := noCalls) (E := eqBy M.P) (LP := noLoops) (RF := noRefit) (CP := noCuts) (L := L) (m := 1) noCalls_ok (eqBy_ok _) hmx noRefit_ok noCuts_ok X noLoops_ok hx
    refine q3 ⟨σ, Z, w, 1⟩ σ1 Z1 a1 w1 _ rfl hr fun σ' Z' a' w' hr' => ?_
    cases ex with
    | normal =>
      obtain ⟨ex2, S4, r1, r2, r3⟩ := exec_leads (C := noCalls) (E := eqBy M.P) (LP := noLoops) (RF := noRefit) (CP := noCuts) (L := L) (m := 1) noCalls_ok (eqBy_ok _) hmx noRefit_ok noCuts_ok D noLoops_ok q1
      exact r3 ⟨σ, Z, w, 1⟩ σ' Z' a' w' _ rfl hr' fun σ'' Z'' a'' w'' hr'' => post ex2 S4 σ'' Z'' a'' w'' r1 hr''
    | exit id => exact post (.exit id) S3 σ' Z' a' w' q1 hr'
    | ret => exact post .ret S3 σ' Z' a' w' q1 hr'
  refine wp_seq (k3 ⟨σ, Z, w, 1⟩ σ Z _ w _ rfl hinit fun σ' Z' a' w' hr' => ?_)
  refine wp_seq (wp_seq (wp_region ?_))
  have ht0 := hr'.env 0 (.own (0, kk)) rfl
  have hH := hr'.heap 0 (.many e T xss) rfl
  obtain ⟨ad, cap, e0, e2⟩ : ∃ ad cap, a'.eval (.tmp 0) = .slice ad x.length cap ∧ (ad = none → x = []) := by
    obtain ⟨rows, q1, s, q2, q3, q4, q5⟩ := hH.1 kk x hx
    simp only [RV, q2] at ht0
    rw [ht0.1]
    rcases q5 with ⟨_, h0, _, a, ha⟩ | ⟨r, rest, _, _, h3⟩
    · rw [ha]; exact ⟨a, 0, by rw [h0], fun _ => List.length_eq_zero_iff.1 h0⟩
    · obtain ⟨_, _, h4⟩ := h3 hT
      exact ⟨_, _, h4, fun h => by cases h⟩
  have hz : n = a'.tmps.size := hr'.size.symm
  show wpOps M.P _ _ [0, 1] a' w'
  simp only [wpOps_cons]
  refine .inl ?_
  have s1 := hr'.step (o := ⟨some 3, .move (.tmp 0), ty1, p1, a1, none⟩) (out := { v := .own (0, kk) }) (fun d e => by cases e; exact Nat.lt_of_lt_of_le (by decide) hn5) ht0 (Moves.still hr'.inv)
  refine wp_value (v := a'.eval (.tmp 0)) (w' := w') (by simp [execOp]) ?_
  refine .inl ?_
  have e3 : (a'.put (some 3) (a'.eval (.tmp 0))).eval (.tmp 3) = a'.eval (.tmp 0) := by rw [ev_put, if_pos ⟨rfl, by omega⟩]
  have s2 := s1.step (o := ⟨some 4, .binOp .eql t (.tmp 3) (.const (.slice none 0 0)) t', ty2, p2, a2, none⟩) (out := { v := .lf (.bool ad.isNone) }) (fun d e => by cases e; exact Nat.lt_of_lt_of_le (by decide) hn5) (v' := .bool ad.isNone) (lf_rv rfl) (Moves.still s1.inv)
  refine wp_value (v := .bool ad.isNone) (w' := w') ?_ ?_
  · have e3' : (a'.put (some 3) (a'.eval (.tmp 0))).eval (.tmp 3) = .slice ad x.length cap := by rw [e3, e0]
    have := Go.Lib.run_eql_slice_nil (P := M.P) w' t e ad x.length cap 0 0 hu
    have key : ∀ ev : Operand → Value, ev (.tmp 3) = .slice ad x.length cap → ev (.const (.slice none 0 0)) = .slice none 0 0 →
        (execOp ev ⟨some 4, .binOp .eql t (.tmp 3) (.const (.slice none 0 0)) t', ty2, p2, a2, none⟩).run M.P w' = .ok (.value (.bool ad.isNone)) w' := by
      intro ev h1 h2
      simp only [execOp, h1, h2]
      simp [this, eqGuard]
    exact key _ e3' rfl
  · have fin : Rel M ⟨σ, Z, w, 1⟩ (askStI n e T kk xss ad.isNone).fs n σ' Z' ((a'.put (some 3) (a'.eval (.tmp 0))).put (some 4) (.bool ad.isNone)) w' := by
      refine ⟨fun u v' hu => s2.env u v' ?_, s2.size, s2.defers, fun G he hG => s2.heap G he (by simpa [Fs.put, look2, St.fs, askStI] using hG), fun F hF k => s2.fresh F (by simpa [Fs.put, look2, St.fs, askStI] using hF) k, s2.inv, s2.frm⟩
      simp only [askStI, St.fs, look] at hu
      simp only [Fs.put, St.fs, look, Option.some.injEq]
      by_cases e4 : 4 = u
      · subst e4
        simpa using hu
      · have e4' : Nat.beq 4 u = false := by cases hb : Nat.beq 4 u with
          | false => rfl
          | true => exact absurd (Nat.eq_of_beq_eq_true hb) e4
        rw [e4'] at hu
        rw [if_neg e4]
        by_cases e3 : 3 = u
        · subst e3
          simpa using hu
        · have e3' : Nat.beq 3 u = false := by cases hb : Nat.beq 3 u with
            | false => rfl
            | true => exact absurd (Nat.eq_of_beq_eq_true hb) e3
          rw [e3'] at hu
          rw [if_neg e3]
          exact hu
    cases ad with
    | some _ =>
      simp only [wpOps, Exit.then]
      exact body (askStI n e T kk xss false) σ' Z' _ w' fin h
    | none =>
      have hx0 : x = [] := e2 rfl
      simp only [wpOps, Exit.then]
      exact body (askStI n e T kk xss true) σ' Z' _ w' fin (h2 hx0)
theorem cloneI_end {A B : Type} {o : Option (List A)} {cv : List A → B} {y : B} (h : ((o.bind fun a => bif (0 + a.length).ble 100000 then some a else none).bind fun r => some (cv r)) = some y) : ∃ a, o = some a ∧ (o.bind fun a => bif (0 + a.length).ble 100000 then some (cv a) else none) = some y ∧ (a = [] → y = cv []) := by
  cases o with
  | none => cases h
  | some a =>
    simp only [Option.bind_some] at h ⊢
    cases hb : (0 + a.length).ble 100000 with
    | false => rw [hb] at h; cases h
    | true =>
      rw [hb] at h
      simp only [cond_true, Option.bind_some, Option.some.injEq] at h
      exact ⟨a, rfl, by rw [cond_true, h], fun e => by rw [← h, e]⟩
end Go.Proofs.YtdjkdmjdcdljmaaGreatX
