/- Own work. No condition. -/
import Derived.Test.YtdjkdmjdcdljmaaGreatMy

namespace Go.Proofs.YtdjkdmjdcdljmaaGreatX
open Go.RowKit
set_option linter.unusedVariables false
set_option linter.unusedSimpArgs false
variable {M : Cfg} {α : Type}

def takeA (A : Nat) : List (Nat × HE) → Option (HE × List (Nat × HE))
  | [] => none
  | (F, he) :: r => bif Nat.beq F A then (bif hasB (fams r) A then none else some (he, (A, HE.dead) :: r)) else match takeA A r with
    | some (h, r') => some (h, (F, he) :: r')
    | none => none
theorem takeA_spec {A : Nat} : ∀ {l l' : List (Nat × HE)} {he : HE}, takeA A l = some (he, l') → (A, he) ∈ l ∧ fams l' = fams l ∧ ∀ F h, (F, h) ∈ l' → (F = A ∧ h = .dead) ∨ (F ≠ A ∧ (F, h) ∈ l)
  | [], l', he, h => by cases h
  | (F, h0) :: r, l', he, h => by
    simp only [takeA] at h
    cases hF : Nat.beq F A with
    | true =>
      rw [hF] at h
      have e := Nat.eq_of_beq_eq_true hF
      subst e
      cases hb : hasB (fams r) F with
      | true => rw [hb] at h; cases h
      | false =>
        rw [hb] at h
        simp only [cond_true, cond_false, Option.some.injEq, Prod.mk.injEq] at h
        obtain ⟨rfl, rfl⟩ := h
        refine ⟨by simp, by simp [fams], fun F' h' hm => ?_⟩
        rcases List.mem_cons.1 hm with hm2 | hm2
        · cases hm2; exact .inl ⟨rfl, rfl⟩
        · refine .inr ⟨fun e => ?_, List.mem_cons_of_mem _ hm2⟩
          subst e
          have : hasB (fams r) F' = true := List.any_eq_true.2 ⟨F', List.mem_map.2 ⟨(F', h'), hm2, rfl⟩, Nat.beq_refl _⟩
          rw [hb] at this; cases this
    | false =>
      rw [hF] at h
      simp only [cond_false] at h
      split at h
      · rename_i h1 r' hr
        simp only [Option.some.injEq, Prod.mk.injEq] at h
        obtain ⟨rfl, rfl⟩ := h
        obtain ⟨q1, q2, q3⟩ := takeA_spec hr
        refine ⟨List.mem_cons_of_mem _ q1, ?_, fun F' h' hm => ?_⟩
        · unfold fams at q2 ⊢; simp [q2]
        · rcases List.mem_cons.1 hm with hm | hm
          · cases hm
            exact .inr ⟨fun e => (by rw [e, Nat.beq_refl] at hF; cases hF), List.mem_cons_self⟩
          · rcases q3 F' h' hm with q | ⟨q, q'⟩
            · exact .inl q
            · exact .inr ⟨q, List.mem_cons_of_mem _ q'⟩
      · cases h
def heFree : HE → Bool
  | .dead => true
  | .list _ t fs _ => t.free && fs.isEmpty
  | .many _ t _ => t.free
  | _ => false
def adCell (A : Nat) (b : Bid) : V → Option V
  | .own c => bif Nat.beq c.1 A then (match c.2 with | 0 => some (.own b) | _ + 1 => none) else some (.own c)
  | .lf v => some (.lf v)
  | .err e => some (.err e)
  | .deep t xs => some (.deep t xs)
  | .pin t x => some (.pin t x)
  | _ => none
def adCells (A : Nat) (b : Bid) : List V → Option (List V)
  | [] => some []
  | v :: r => match adCell A b v with
    | some u => match adCells A b r with
      | some us => some (u :: us)
      | none => none
    | none => none
def adV (A : Nat) (b : Bid) : V → Option V
  | .agg cs => match adCells A b cs with
    | some us => some (.agg us)
    | none => none
  | _ => none
def adopt1 (H : List HE) (A G : Nat) (out : Out) : Option Out :=
  match takeA A out.chg with
  | some (.list e t fs xs, c) => match H[G]? with
    | some (.many e' t' ys) => match Ty.cast (F := List) t t' xs with
      | some zs => bif Nat.beq e e' && Nat.ble H.length A && t'.free && fs.isEmpty && !hasB (fams c) G && c.all (fun p => heFree p.2)
        then (match adV A (G, ys.length) out.v with
          | some v => some { v := v, chg := (G, .many e' t' (ys ++ [zs])) :: c, rds := out.rds }
          | none => none) else none
      | none => none
    | _ => none
  | _ => none
theorem adCell_rv {σ σ' : Num} {Z : Zone} {w : World} {A : Nat} {b : Bid} (hb : σ' b.1 b.2 = σ A 0) (ho : ∀ F k, F ≠ A → (F, k) ≠ b → σ' F k = σ F k) (hf : σ b.1 b.2 = .fresh) {v u : V} {v' : Value} (h : adCell A b v = some u) (hv : RV M σ Z w v v') : RV M σ' Z w u v' ∧ u.one = v.one := by
  cases v with
  | own c =>
    simp only [adCell] at h
    cases hc : Nat.beq c.1 A with
    | true =>
      rw [hc] at h
      simp only [cond_true] at h
      have e1 := Nat.eq_of_beq_eq_true hc
      split at h
      · rename_i h0
        cases h
        refine ⟨?_, rfl⟩
        simp only [RV, e1, h0] at hv
        simp only [RV, hb]
        exact hv
      · cases h
    | false =>
      rw [hc] at h
      cases h
      refine ⟨?_, rfl⟩
      have hne : c.1 ≠ A := fun e => by rw [e, Nat.beq_refl] at hc; cases hc
      by_cases hcb : c = b
      · subst hcb
        simp only [RV, hf] at hv
      · have := ho c.1 c.2 hne hcb
        simp only [RV] at hv ⊢
        rw [this]
        exact hv
  | lf v => cases h; exact ⟨hv, rfl⟩
  | err e => cases h; exact ⟨hv, rfl⟩
  | deep t xs => cases h; exact ⟨hv, rfl⟩
  | pin t x => cases h; exact ⟨hv, rfl⟩
  | _ => cases h
theorem adCells_rv {σ σ' : Num} {Z : Zone} {w : World} {A : Nat} {b : Bid} (hb : σ' b.1 b.2 = σ A 0) (ho : ∀ F k, F ≠ A → (F, k) ≠ b → σ' F k = σ F k) (hf : σ b.1 b.2 = .fresh) : ∀ {vs us : List V} {vs' : List Value}, adCells A b vs = some us → RVs M σ Z w vs vs' → RVs M σ' Z w us vs' ∧ us.all V.one = vs.all V.one
  | [], us, vs', h, hv => by cases h; exact ⟨hv, rfl⟩
  | v :: r, us, vs', h, hv => by
    simp only [adCells] at h
    split at h
    · rename_i u hu
      split at h
      · rename_i us' hus
        cases h
        obtain ⟨v', m, rfl, h1, h2⟩ := hv.cons
        obtain ⟨q1, q2⟩ := adCell_rv hb ho hf hu h1
        obtain ⟨q3, q4⟩ := adCells_rv hb ho hf hus h2
        exact ⟨by simp only [RVs]; exact ⟨_, _, rfl, q1, q3⟩, by simp only [List.all_cons, q2, q4]⟩
      · cases h
    · cases h
def adN (σ : Num) (A G n : Nat) : Num := fun F k => if F = A then .dead else if F = G ∧ k = n then σ A 0 else σ F k
theorem rows_num {σ σ' : Num} {Z : Zone} {w : World} {t : Ty} (hf : t.free = true) {xs : List t.I} {rows : List (List Value)} (h : RowsR M σ Z w t [] xs rows) : RowsR M σ' Z w t [] xs rows :=
  All2.mono (fun x row _ hr => DV.rvs [] (RVs.dv [] hf hr)) h
theorem adopt1_good {f : FuncId} {vs : List V} {H : List HE} {A G : Nat} {out out' : Out} (hg : CallGood M f vs (fun G => H[G]?) out) (h : adopt1 H A G out = some out') : CallGood M f vs (fun G => H[G]?) out' := by
  unfold adopt1 at h
  split at h
  · rename_i e t fs xs c hc
    obtain ⟨hA, hfam, hmem⟩ := takeA_spec hc
    split at h
    · rename_i e' t' ys hG
      split at h
      · rename_i zs hzs
        obtain ⟨et, ex⟩ := Ty.cast_spec hzs
        subst et
        subst ex
        obtain ⟨hk, h2⟩ := bif_some h
        clear h
        simp only [Bool.and_eq_true, Bool.not_eq_true'] at hk
        obtain ⟨⟨⟨⟨⟨k1, k2⟩, k3⟩, k4⟩, k5⟩, k6⟩ := hk
        have k1 := Nat.eq_of_beq_eq_true k1
        subst k1
        have k2 := Nat.le_of_ble_eq_true k2
        have k4 : fs = [] := by simpa using k4
        subst k4
        split at h2
        · rename_i v hv
          simp only [Option.some.injEq] at h2
          subst h2
          have hGc : G ∉ fams out.chg := fun hm => by
            have : hasB (fams c) G = true := List.any_eq_true.2 ⟨G, by rw [hfam]; exact hm, Nat.beq_refl _⟩
            rw [k5] at this; cases this
          have hGA : G ≠ A := fun e => by
            have := (List.getElem?_eq_some_iff.1 hG).1
            omega
          intro σ Z w args hinv hargs ht hn
          simp only [fams, List.map_cons, List.mem_cons] at ht hn
          have hfc : c.map (·.1) = fams out.chg := hfam
          rw [hfc] at ht hn
          have hGm := ht G (.inr (.inl rfl)) _ hG
          have hAf : A ∈ fams out.chg := List.mem_map.2 ⟨_, hA, rfl⟩
          have hfresh : ∀ k, σ A k = .fresh := hn A (.inr hAf) (List.getElem?_eq_none k2)
          refine (hg σ Z w args hinv hargs (fun G' h1 he h2 => ht G' (h1.imp id .inr) he h2) (fun G' h1 h2 => hn G' (.inr h1) h2)).mono fun e1 w1 hpost => ?_
          obtain ⟨v1, σ1, Z1, he, hrv, hm⟩ := hpost
          have hG1 : HER M σ1 Z1 w1 G (.many e t ys) := hm.keep hinv hGc hGm
          have hA1 : HER M σ1 Z1 w1 A (.list e t [] zs) := hm.her A _ hA
          have hf : σ1 G ys.length = .fresh := hG1.2 ys.length (Nat.le_refl _)
          have hf0 : σ G ys.length = .fresh := hGm.2 ys.length (Nat.le_refl _)
          have hb : adN σ1 A G ys.length G ys.length = σ1 A 0 := by unfold adN; rw [if_neg hGA, if_pos ⟨rfl, rfl⟩]
          have ho : ∀ F k, F ≠ A → (F, k) ≠ (G, ys.length) → adN σ1 A G ys.length F k = σ1 F k := fun F k h1 h2 => by
            unfold adN
            rw [if_neg h1, if_neg (fun e => h2 (by rw [e.1, e.2]))]
          have hreal : ∀ F k r, (adN σ1 A G ys.length).real F k r → (F = G ∧ k = ys.length ∧ σ1.real A 0 r) ∨ (F ≠ A ∧ ¬ (F = G ∧ k = ys.length) ∧ σ1.real F k r) := fun F k r ⟨s, h1, h2⟩ => by
            unfold adN at h1
            split at h1
            · cases h1
            · rename_i hFA
              split at h1
              · rename_i hFG; exact .inl ⟨hFG.1, hFG.2, s, h1, h2⟩
              · rename_i hFG; exact .inr ⟨hFA, hFG, s, h1, h2⟩
          refine ⟨v1, adN σ1 A G ys.length, Z1, he, ?_, ?_⟩
          · unfold adV at hv
            split at hv
            · rename_i cs hov
              split at hv
              · rename_i us hus
                cases hv
                rw [hov] at hrv
                simp only [RV] at hrv ⊢
                obtain ⟨cs', q1, q2, q3⟩ := hrv
                obtain ⟨q4, q5⟩ := adCells_rv hb ho hf hus q3
                exact ⟨cs', q1, by rw [q5]; exact q2, q4⟩
              · cases hv
            · cases hv
          · have hsub : ∀ r, ownT σ (fams out.chg) r → ownT σ (fams ((G, HE.many e t (ys ++ [zs])) :: c)) r := fun r ⟨F, hF, k, hr⟩ => ⟨F, by simp only [fams, List.map_cons, List.mem_cons]; rw [hfc]; exact .inr hF, k, hr⟩
            have hfam' : ∀ F, F ∈ fams ((G, HE.many e t (ys ++ [zs])) :: c) ↔ F = G ∨ F ∈ fams out.chg := fun F => by simp only [fams, List.map_cons, List.mem_cons]; rw [hfc]; rfl
            refine ⟨hm.os, hm.tape, hm.output, hm.size, fun F k => ?_, fun F hF k => ?_, hm.zone, fun r hr => (hm.znew r hr).imp id (.imp (hsub r) id), fun r hr hno => hm.block r hr fun h => hno (hsub r h), fun F k r hF hr => ?_, ⟨fun F k F' k' r a b => ?_, fun r ⟨F, k, h⟩ => ?_, hm.inv.zlt, fun r ⟨F, k, h⟩ hz => ?_⟩, fun F he' hF => ?_⟩
            · by_cases h1 : F = A
              · subst h1
                rw [hfresh]; exact .born _
              · by_cases h2 : (F, k) = (G, ys.length)
                · cases h2; rw [hf0]; exact .born _
                · rw [ho F k h1 h2]; exact hm.st F k
            · have hF' := fun h => hF ((hfam' F).2 h)
              have h1 : F ≠ A := fun e => hF' (.inr (e ▸ hAf))
              have h2 : F ≠ G := fun e => hF' (.inl e)
              rw [ho F k h1 fun e => h2 (by cases e; rfl)]
              exact hm.other F (fun h => hF' (.inr h)) k
            · rcases hreal F k r hr with ⟨_, _, h1⟩ | ⟨h1, h2, h3⟩
              · exact (hm.new A 0 r hAf h1).imp (hsub r) id
              · rcases (hfam' F).1 hF with rfl | h4
                · have : σ1 F k = σ F k := hm.other F hGc k
                  obtain ⟨s, q1, q2⟩ := h3
                  rw [this] at q1
                  exact .inl ⟨F, (hfam' F).2 (.inl rfl), k, s, q1, q2⟩
                · exact (hm.new F k r h4 h3).imp (hsub r) id
            · rcases hreal F k r a with ⟨a1, a2, a3⟩ | ⟨a1, a2, a3⟩ <;> rcases hreal F' k' r b with ⟨b1, b2, b3⟩ | ⟨b1, b2, b3⟩
              · exact ⟨a1.trans b1.symm, a2.trans b2.symm⟩
              · exact absurd (hm.inv.inj _ _ _ _ r a3 b3).1.symm b1
              · exact absurd (hm.inv.inj _ _ _ _ r a3 b3).1 a1
              · exact hm.inv.inj _ _ _ _ r a3 b3
            · rcases hreal F k r h with ⟨_, _, h1⟩ | ⟨_, _, h1⟩
              · exact hm.inv.lt r ⟨_, _, h1⟩
              · exact hm.inv.lt r ⟨_, _, h1⟩
            · rcases hreal F k r h with ⟨_, _, h1⟩ | ⟨_, _, h1⟩
              · exact hm.inv.off r ⟨_, _, h1⟩ hz
              · exact hm.inv.off r ⟨_, _, h1⟩ hz
            · rcases List.mem_cons.1 hF with hF | hF
              · cases hF
                obtain ⟨hA2, rows, q1, q2⟩ := hA1
                refine ⟨fun k zs' hk => ?_, fun k hk => ?_⟩
                · by_cases hkn : k < ys.length
                  · rw [List.getElem?_append_left hkn] at hk
                    obtain ⟨rows', r1, r2⟩ := hG1.1 k zs' hk
                    exact ⟨rows', rows_num k3 r1, by rw [ho G k hGA (fun e => by cases e; omega)]; exact r2⟩
                  · rw [List.getElem?_append_right (by omega)] at hk
                    have hk0 : k = ys.length := by
                      have := (List.getElem?_eq_some_iff.1 hk).1
                      simp at this
                      omega
                    subst hk0
                    simp at hk
                    subst hk
                    exact ⟨rows, rows_num k3 q1, by rw [hb]; exact q2⟩
                · rw [List.length_append] at hk
                  rw [ho G k hGA (fun e => by cases e; simp at hk; omega)]
                  exact hG1.2 k (by simp at hk; omega)
              · rcases hmem F he' hF with ⟨rfl, rfl⟩ | ⟨h1, h2⟩
                · exact fun k => by unfold adN; rw [if_pos rfl]
                · have hFG : F ≠ G := fun e => hGc (by subst e; exact List.mem_map.2 ⟨_, h2, rfl⟩)
                  have hh := hm.her F he' h2
                  have hsame : ∀ k, adN σ1 A G ys.length F k = σ1 F k := fun k => ho F k h1 fun e => hFG (by cases e; rfl)
                  have hfr := List.all_eq_true.1 k6 _ hF
                  cases he' with
                  | dead => exact fun k => by rw [hsame]; exact hh k
                  | cells _ _ _ => cases hfr
                  | list e2 t2 fs2 xs2 =>
                    simp only [heFree, Bool.and_eq_true, List.isEmpty_iff] at hfr
                    obtain ⟨f1, f2⟩ := hfr
                    subst f2
                    obtain ⟨g1, rows, g2, g3⟩ := hh
                    exact ⟨fun k => by rw [hsame]; exact g1 k, rows, rows_num f1 g2, by rw [hsame]; exact g3⟩
                  | many e2 t2 xs2 =>
                    exact ⟨fun k zs hk => by
                      obtain ⟨rows, g2, g3⟩ := hh.1 k zs hk
                      exact ⟨rows, rows_num hfr g2, by rw [hsame]; exact g3⟩, fun k hk => by rw [hsame]; exact hh.2 k hk⟩
        · cases h2
      · cases h
    · cases h
  · cases h
def adoptAll (H : List HE) : List (Nat × Nat) → Out → Option Out
  | [], out => some out
  | (i, G) :: r, out => match adopt1 H (H.length + i) G out with
    | some o => adoptAll H r o
    | none => none
theorem adoptAll_good {f : FuncId} {vs : List V} {H : List HE} : ∀ {tg : List (Nat × Nat)} {out out' : Out}, CallGood M f vs (fun G => H[G]?) out → adoptAll H tg out = some out' → CallGood M f vs (fun G => H[G]?) out'
  | [], out, out', hg, h => by cases h; exact hg
  | (i, G) :: r, out, out', hg, h => by
    simp only [adoptAll] at h
    split at h
    · rename_i o ho
      exact adoptAll_good (adopt1_good hg ho) h
    · cases h
def adoptC (n : FuncId) (tg : List (Nat × Nat)) (C : CallsBy α) : CallsBy α := fun f vs H k => bif Nat.beq f n
  then C f vs H (fun out => match adoptAll H tg out with | some o => k o | none => none) else C f vs H k
theorem adoptC_ok {n : FuncId} {tg : List (Nat × Nat)} {C : CallsBy α} (hC : CallsOk M C) : CallsOk M (adoptC n tg C) := by
  intro f vs H k r h
  unfold adoptC at h
  cases hn : Nat.beq f n with
  | false => rw [hn] at h; exact hC f vs H k r h
  | true =>
    rw [hn] at h
    obtain ⟨out, h1, h2, h3⟩ := hC f vs H _ r h
    split at h1
    · rename_i o ho
      exact ⟨o, h1, h2, adoptAll_good h3 ho⟩
    · cases h1
end Go.Proofs.YtdjkdmjdcdljmaaGreatX
