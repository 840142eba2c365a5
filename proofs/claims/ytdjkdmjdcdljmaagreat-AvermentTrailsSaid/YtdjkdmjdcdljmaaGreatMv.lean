/- Own work. No condition. -/
import Derived.Test.YtdjkdmjdcdljmaaGreatMu

namespace Go.Proofs.YtdjkdmjdcdljmaaGreatX
open Go.RowKit
set_option linter.unusedVariables false
set_option linter.unusedSimpArgs false
variable {M : Cfg} {α : Type}

def renL : Bind → Nat → Nat → List Nat
  | _, 0, _ => []
  | some (.at G) :: r, n + 1, nx => G :: renL r n nx
  | _ :: r, n + 1, nx => nx :: renL r n (nx + 1)
  | [], n + 1, nx => nx :: renL [] n (nx + 1)
def cutsL : Bind → List Nat
  | [] => []
  | some (.cut G _) :: r => G :: cutsL r
  | _ :: r => cutsL r
def dedupN : List Nat → List Nat
  | [] => []
  | F :: r => bif hasB r F then dedupN r else F :: dedupN r
def encHR (f : Nat → Nat) : (hs : List HSh) → HsI hs → List HE
  | [], _ => []
  | h :: r, x => h.encR f x.1 :: encHR f r x.2
def zipC : List Nat → List HE → List (Nat × HE)
  | F :: fs, he :: hs => (F, he) :: zipC fs hs
  | _, _ => []
def killL (W : Wit) : List Nat := dedupN (W.fz ++ cutsL W.map)
def renF (l : List Nat) (F : Nat) : Nat := l.getD F 0
def Sig.ok (g : Sig) : Bool := Nat.ble g.ihs.length g.ohs.length && g.osh.isAs && g.osh.free && g.ohs.all HSh.ok
def callOk (g : Sig) (W : Wit) (n : Nat) : Bool := nodupN (killL W ++ renL W.map g.ohs.length n)
def callW (g : Sig) (G : g.In → Option g.Ou) (vs : List V) (H : List HE) (k : Out → Option α) (other : Option α) : Option α :=
  match fit g.ish g.ihs 0 vs H with
  | some (x, W) => bif callOk g W H.length then (G x).bind fun y =>
      k { v := resV (g.osh.encR (renF (renL W.map g.ohs.length H.length)) y.1), chg := (killL W).map (fun G => (G, HE.dead)) ++ zipC (renL W.map g.ohs.length H.length) (encHR (renF (renL W.map g.ohs.length H.length)) g.ohs y.2) } else none
  | none => other
def entryC (n : FuncId) (g : Sig) (G : g.In → Option g.Ou) (rest : CallsBy α) : CallsBy α := fun f vs H k => bif Nat.beq f n then callW g G vs H k (rest f vs H k) else rest f vs H k
def noCalls : CallsBy α := fun _ _ _ _ => none
theorem noCalls_ok : CallsOk M (noCalls (α := α)) := fun _ _ _ _ _ h => by cases h

theorem renL_len : ∀ {m : Bind} {n nx : Nat}, (renL m n nx).length = n
  | m, 0, nx => by cases m <;> rfl
  | [], n + 1, nx => by simp [renL, renL_len (m := [])]
  | none :: r, n + 1, nx => by simp [renL, renL_len (m := r)]
  | some p :: r, n + 1, nx => by cases p <;> simp [renL, renL_len (m := r)]
theorem renL_get : ∀ {m : Bind} {n nx F G : Nat}, (renL m n nx)[F]? = some G → getB m F = some (.at G) ∨ (nx ≤ G ∧ ∀ G', getB m F ≠ some (.at G'))
  | m, 0, nx, F, G, h => by cases m <;> simp [renL] at h
  | [], n + 1, nx, 0, G, h => by simp [renL] at h; exact .inr ⟨by omega, fun G' e => by simp [getB] at e⟩
  | [], n + 1, nx, F + 1, G, h => by
    simp [renL] at h
    rcases renL_get (m := []) h with h | ⟨h, h'⟩
    · simp [getB] at h
    · exact .inr ⟨by omega, fun G' e => by simp [getB] at e⟩
  | o :: r, n + 1, nx, 0, G, h => by
    have e0 : getB (o :: r) 0 = o := by simp [getB]
    rw [e0]
    cases o with
    | none => simp [renL] at h; exact .inr ⟨by omega, fun G' e => by cases e⟩
    | some p =>
      cases p <;> simp [renL] at h
      case «at» G' => exact .inl (by rw [h])
      all_goals exact .inr ⟨by omega, fun G' e => by cases e⟩
  | o :: r, n + 1, nx, F + 1, G, h => by
    have e0 : getB (o :: r) (F + 1) = getB r F := by simp [getB]
    rw [e0]
    cases o with
    | none =>
      simp [renL] at h
      rcases renL_get h with h | ⟨h, h'⟩
      · exact .inl h
      · exact .inr ⟨by omega, h'⟩
    | some p =>
      cases p <;> simp [renL] at h
      case «at» G' => exact renL_get h
      all_goals
        rcases renL_get h with h | ⟨h, h'⟩
        · exact .inl h
        · exact .inr ⟨by omega, h'⟩
theorem cutsL_mem : ∀ {m : Bind} {F G n : Nat}, getB m F = some (.cut G n) → G ∈ cutsL m
  | [], F, G, n, h => by simp [getB] at h
  | o :: r, 0, G, n, h => by
    have e0 : getB (o :: r) 0 = o := by simp [getB]
    rw [e0] at h
    subst h
    simp [cutsL]
  | o :: r, F + 1, G, n, h => by
    have e0 : getB (o :: r) (F + 1) = getB r F := by simp [getB]
    rw [e0] at h
    have := cutsL_mem h
    cases o with
    | none => exact this
    | some p => cases p <;> simp [cutsL, this]
theorem dedup_mem : ∀ {l : List Nat} {F : Nat}, F ∈ dedupN l ↔ F ∈ l
  | [], F => by simp [dedupN]
  | G :: r, F => by
    simp only [dedupN]
    cases hb : hasB r G with
    | true =>
      obtain ⟨u, hu, he⟩ := List.any_eq_true.1 hb
      have := Nat.eq_of_beq_eq_true he
      subst this
      simp only [cond_true, dedup_mem]
      simp only [List.mem_cons]
      exact ⟨.inr, fun h => h.elim (fun e => e ▸ hu) id⟩
    | false => simp only [cond_false, List.mem_cons, dedup_mem]
theorem nodupN_iff : ∀ {l : List Nat}, nodupN l = true → l.Nodup
  | [], _ => List.nodup_nil
  | F :: r, h => by
    simp only [nodupN, Bool.and_eq_true, Bool.not_eq_true'] at h
    refine List.nodup_cons.2 ⟨fun hF => ?_, nodupN_iff h.2⟩
    rw [hasB_mem hF] at h
    cases h.1
theorem encHR_len {f : Nat → Nat} : ∀ {hs : List HSh} (x : HsI hs), (encHR f hs x).length = hs.length
  | [], _ => rfl
  | h :: r, x => by simp [encHR, encHR_len x.2]
theorem zipC_fams : ∀ {fs : List Nat} {hs : List HE}, fs.length = hs.length → fams (zipC fs hs) = fs
  | [], [], _ => rfl
  | F :: fs, h :: hs, e => by
    have := zipC_fams (fs := fs) (hs := hs) (by simpa using e)
    unfold fams at this ⊢
    simp only [zipC, List.map_cons, this]
  | [], _ :: _, e => by simp at e
  | _ :: _, [], e => by simp at e
theorem zipC_mem : ∀ {fs : List Nat} {hs : List HE} {G : Nat} {he : HE}, (G, he) ∈ zipC fs hs → ∃ F : Nat, fs[F]? = some G ∧ hs[F]? = some he
  | [], hs, G, he, h => by cases hs <;> simp [zipC] at h
  | F :: fs, [], G, he, h => by simp [zipC] at h
  | F :: fs, x :: hs, G, he, h => by
    simp only [zipC, List.mem_cons] at h
    rcases h with h | h
    · cases h; exact ⟨0, rfl, rfl⟩
    · obtain ⟨j, h1, h2⟩ := zipC_mem h
      exact ⟨j + 1, by simpa using h1, by simpa using h2⟩
theorem encHR_get {f : Nat → Nat} : ∀ {hs : List HSh} {x : HsI hs} {F : Nat} {he : HE}, (encHR f hs x)[F]? = some he → ∃ (h : HSh) (z : h.I), hs[F]? = some h ∧ he = h.encR f z ∧ (encH hs x)[F]? = some (h.enc z)
  | [], x, F, he, h => by simp [encHR] at h
  | h0 :: r, x, 0, he, h => by simp [encHR] at h; exact ⟨h0, x.1, rfl, h.symm, rfl⟩
  | h0 :: r, x, F + 1, he, h => by
    obtain ⟨h1, z, a, b, c⟩ := encHR_get (x := x.2) (F := F) (by simpa [encHR] using h)
    exact ⟨h1, z, by simpa using a, b, by simpa [encH] using c⟩

noncomputable def backN (σ σl : Num) (ks rs : List Nat) : Num := fun G k => open Classical in
  if h : ∃ F : Nat, rs[F]? = some G then σl (Classical.choose h) k else if G ∈ ks then .dead else σ G k
theorem nodup_get {l : List Nat} (h : l.Nodup) {i j G : Nat} (hi : l[i]? = some G) (hj : l[j]? = some G) : i = j := by
  obtain ⟨h1, h2⟩ := List.getElem?_eq_some_iff.1 hi
  obtain ⟨h3, h4⟩ := List.getElem?_eq_some_iff.1 hj
  exact (List.getElem_inj h).1 (h2.trans h4.symm)
theorem backN_ren {σ σl : Num} {ks rs : List Nat} (hn : rs.Nodup) {F G : Nat} (hF : rs[F]? = some G) (k : Nat) : backN σ σl ks rs G k = σl F k := by
  have h : ∃ F : Nat, rs[F]? = some G := ⟨F, hF⟩
  unfold backN
  rw [dif_pos h, nodup_get hn (Classical.choose_spec h) hF]
theorem backN_kill {σ σl : Num} {ks rs : List Nat} {G : Nat} (h1 : G ∉ rs) (h2 : G ∈ ks) (k : Nat) : backN σ σl ks rs G k = .dead := by
  unfold backN
  rw [dif_neg (fun ⟨F, hF⟩ => h1 (List.mem_of_getElem? hF)), if_pos h2]
theorem backN_other {σ σl : Num} {ks rs : List Nat} {G : Nat} (h1 : G ∉ rs) (h2 : G ∉ ks) (k : Nat) : backN σ σl ks rs G k = σ G k := by
  unfold backN
  rw [dif_neg (fun ⟨F, hF⟩ => h1 (List.mem_of_getElem? hF)), if_neg h2]

theorem stDead (s : Status) : StLe s .dead := by
  cases s with
  | fresh => exact .born _
  | dead => exact .same _
  | alive s => exact .died s

theorem callW_spec {g : Sig} {G : g.In → Option g.Ou} {f : FuncId} {vs : List V} {H : List HE} {k : Out → Option α} {other : Option α} {r : α} (hg : g.ok = true) (hG : ∀ x y, G x = some y → Rets M f g x y) (h : callW g G vs H k other = some r) :
    other = some r ∨ ∃ out, k out = some r ∧ CallGood M f vs (fun G => H[G]?) out := by
  unfold Sig.ok at hg
  simp only [Bool.and_eq_true] at hg
  obtain ⟨⟨⟨hle, hisA⟩, hfree⟩, hok⟩ := hg
  have hle := Nat.le_of_ble_eq_true hle
  unfold callW at h
  split at h
  · rename_i x W hfit
    right
    replace h := bif_some h
    obtain ⟨hcall, h⟩ := h
    cases hy : G x with
    | none => rw [hy] at h; cases h
    | some y =>
      rw [hy] at h
      simp only [Option.bind_some] at h
      refine ⟨_, h, ?_⟩
      clear h
      obtain ⟨x1, x2⟩ := x
      obtain ⟨hwit, g1⟩ := fit_spec (M := M) hfit (Nat.zero_le _)
      unfold callOk at hcall
      have hnod := nodupN_iff hcall
      generalize hrs : renL W.map g.ohs.length H.length = rs at hnod
      generalize hks : killL W = ks at hnod
      have hrsl : rs.length = g.ohs.length := by rw [← hrs, renL_len]
      obtain ⟨hnk, hnr, hdis⟩ := List.nodup_append.1 hnod
      intro σ Z w args hinv hargs hheap hfresh
      have hfam : fams (ks.map (fun G => (G, HE.dead)) ++ zipC rs (encHR (renF rs) g.ohs y.2)) = ks ++ rs := by
        have := zipC_fams (fs := rs) (hs := encHR (renF rs) g.ohs y.2) (by rw [encHR_len, hrsl])
        unfold fams at this ⊢
        rw [List.map_append, this, List.map_map]
        congr 1
        simp [Function.comp_def]
      simp only [hfam] at hheap hfresh
      -- what is looked into is touched
      have hcut : ∀ F G n, getB W.map F = some (.cut G n) → G ∈ ks := fun F G n e => by rw [← hks]; exact dedup_mem.2 (List.mem_append_right _ (cutsL_mem e))
      have hfz : ∀ G ∈ W.fz, G ∈ ks := fun G hG' => by rw [← hks]; exact dedup_mem.2 (List.mem_append_left _ hG')
      have hwl : W.map.length = g.ihs.length := by
        unfold witOk at hwit
        simp only [Bool.and_eq_true] at hwit
        exact Nat.eq_of_beq_eq_true hwit.1.1
      have hat : ∀ F G, getB W.map F = some (.at G) → F < g.ihs.length ∧ rs[F]? = some G := fun F G e => by
        have hF : F < g.ihs.length := by
          rw [← hwl]
          refine Decidable.byContradiction fun hn => ?_
          unfold getB at e
          rw [List.getElem?_eq_none (by omega)] at e
          cases e
        refine ⟨hF, ?_⟩
        have hlt : F < rs.length := by omega
        have e2 : (renL W.map g.ohs.length H.length)[F]? = some rs[F] := by rw [hrs]; simp [hlt]
        rcases renL_get e2 with h1 | ⟨_, h1⟩
        · rw [e] at h1
          simp only [Option.some.injEq, MP.at.injEq] at h1
          rw [h1]; simp [hlt]
        · exact absurd e (h1 G)
      have htouch : ∀ G, TouchW W G → G ∈ ks ++ rs := fun G hT => by
        rcases hT with hT | ⟨F, hT | ⟨n, hT⟩⟩
        · exact List.mem_append_left _ (hfz G hT)
        · exact List.mem_append_right _ (List.mem_of_getElem? (hat F G hT).2)
        · exact List.mem_append_left _ (hcut F G n hT)
      obtain ⟨k1, k2, k3, k4⟩ := g1 σ Z w args hinv (fun G he hT hG' => hheap G (.inr (htouch G hT)) he hG') hargs
      refine (hG (x1, x2) y hy _ _ w args k4.inv k1 k2 k3).mono fun e w' hret => ?_
      obtain ⟨us, σl, Zl, he, q1, q2, q3, q4, q5⟩ := hret
      generalize hσ0 : pull σ W.map g.ihs = σ0 at k1 k2 k3 k4 q5
      have hren : Ren σl (backN σ σl ks rs) (renF rs) g.ohs.length := ⟨fun F hF k => backN_ren hnr (by simp [renF, hrsl, hF]) k, q3⟩
      have hreal : ∀ G k r, (backN σ σl ks rs).real G k r → (∃ F : Nat, rs[F]? = some G ∧ σl.real F k r) ∨ (G ∉ rs ∧ G ∉ ks ∧ σ.real G k r) := fun G k r ⟨s, e1, e2⟩ => by
        by_cases h1 : G ∈ rs
        · obtain ⟨F, hF⟩ := List.getElem?_of_mem h1
          rw [backN_ren hnr hF] at e1
          exact .inl ⟨F, hF, s, e1, e2⟩
        · by_cases h2 : G ∈ ks
          · rw [backN_kill h1 h2] at e1; cases e1
          · rw [backN_other h1 h2] at e1; exact .inr ⟨h1, h2, s, e1, e2⟩
      have hown0 : ∀ r, σ0.own r → ownT σ (ks ++ rs) r := fun r ⟨F, k, hr⟩ => by
        rw [← hσ0] at hr
        obtain ⟨G, h1, h2⟩ := pull_real hr
        rcases h1 with h1 | ⟨n, h1, _⟩
        · exact ⟨G, List.mem_append_right _ (List.mem_of_getElem? (hat F G h1).2), k, h2⟩
        · exact ⟨G, List.mem_append_left _ (hcut F G n h1), k, h2⟩
      have hownl : ∀ r, σl.own r → ownT σ (ks ++ rs) r ∨ w.heap.size ≤ r := fun r hr => (q5.own r hr).imp (hown0 r) id
      have hz : ∀ r, Zl r → Z r ∨ ownT σ (ks ++ rs) r ∨ w.heap.size ≤ r := fun r hr => by
        rcases q5.znew r hr with h1 | h1 | h1
        · rcases h1 with h1 | ⟨G, hG', h1⟩
          · exact .inl h1
          · exact .inr (.inl ⟨G, List.mem_append_left _ (hfz G hG'), 0, h1⟩)
        · exact .inr (.inl (hown0 r h1))
        · exact .inr (.inr h1)
      have hsz : w.heap.size ≤ w'.heap.size := q5.size
      have hcross : ∀ G k r, G ∉ rs → G ∉ ks → σ.real G k r → ¬ ownT σ (ks ++ rs) r := fun G k r h1 h2 h3 ⟨G', hG', k', h4⟩ => by
        obtain ⟨rfl, _⟩ := hinv.inj _ _ _ _ r h3 h4
        rcases List.mem_append.1 hG' with h | h
        · exact h2 h
        · exact h1 h
      refine ⟨resVal us, backN σ σl ks rs, Zl, he, resV_rv (by rw [encR_isA]; exact isAs_enc _ hisA) (encR_rv hren hfree q1), ?_⟩
      refine ⟨q5.os, q5.tape, q5.output, hsz, fun G k => ?_, fun G hG' k => ?_, fun r hr => q5.zone r (k4.zone r hr), fun r hr => by rw [hfam]; exact hz r hr, fun r hr hno => q5.block r hr fun ho => ?_, fun G k r hG' hr => ?_, ⟨fun G k G' k' r a b => ?_, fun r ⟨G, k, hr⟩ => ?_, q4.zlt, fun r ⟨G, k, hr⟩ hzr => ?_⟩, fun G he' hG' => ?_⟩
      · by_cases h1 : G ∈ rs
        · obtain ⟨F, hF⟩ := List.getElem?_of_mem h1
          rw [backN_ren hnr hF]
          have e2 : (renL W.map g.ohs.length H.length)[F]? = some G := by rw [hrs]; exact hF
          rcases renL_get e2 with h2 | ⟨h2, _⟩
          · have := q5.mono F (hat F G h2).1 k
            rw [← hσ0] at this
            replace this : StLe (pull σ W.map g.ihs F k) (σl F k) := this
            rwa [show pull σ W.map g.ihs F k = σ G k from pull_at h2 k] at this
          · rw [hfresh G (List.mem_append_right _ h1) (List.getElem?_eq_none h2) k]
            exact .born _
        · by_cases h2 : G ∈ ks
          · rw [backN_kill h1 h2]; exact stDead _
          · rw [backN_other h1 h2]; exact .same _
      · rw [hfam] at hG'
        simp only [List.mem_append, not_or] at hG'
        exact backN_other hG'.2 hG'.1 k
      · rw [hfam] at hno
        exact hno (hown0 r ho)
      · rw [hfam]
        rcases hreal G k r hr with ⟨F, _, h1⟩ | ⟨h1, h2, _⟩
        · exact hownl r ⟨F, k, h1⟩
        · rw [hfam] at hG'
          rcases List.mem_append.1 hG' with h | h
          · exact absurd h h2
          · exact absurd h h1
      · rcases hreal G k r a with ⟨F, hF, a1⟩ | ⟨a1, a2, a3⟩ <;> rcases hreal G' k' r b with ⟨F', hF', b1⟩ | ⟨b1, b2, b3⟩
        · obtain ⟨rfl, rfl⟩ := q4.inj _ _ _ _ r a1 b1
          rw [hF] at hF'
          cases hF'
          exact ⟨rfl, rfl⟩
        · rcases hownl r ⟨F, k, a1⟩ with h | h
          · exact absurd h (hcross _ _ r b1 b2 b3)
          · have := hinv.lt r ⟨_, _, b3⟩; omega
        · rcases hownl r ⟨F', k', b1⟩ with h | h
          · exact absurd h (hcross _ _ r a1 a2 a3)
          · have := hinv.lt r ⟨_, _, a3⟩; omega
        · exact hinv.inj _ _ _ _ r a3 b3
      · rcases hreal G k r hr with ⟨F, _, h1⟩ | ⟨_, _, h1⟩
        · exact q4.lt r ⟨F, k, h1⟩
        · have := hinv.lt r ⟨_, _, h1⟩; omega
      · rcases hreal G k r hr with ⟨F, _, h1⟩ | ⟨h1, h2, h3⟩
        · exact q4.off r ⟨F, k, h1⟩ hzr
        · rcases hz r hzr with h | h | h
          · exact hinv.off r ⟨_, _, h3⟩ h
          · exact hcross _ _ r h1 h2 h3 h
          · have := hinv.lt r ⟨_, _, h3⟩; omega
      · rcases List.mem_append.1 hG' with hG' | hG'
        · obtain ⟨G', h1, e⟩ := List.mem_map.1 hG'
          cases e
          exact fun k => backN_kill (fun h2 => hdis _ h1 _ h2 rfl) h1 k
        · obtain ⟨F, h1, h2⟩ := zipC_mem hG'
          obtain ⟨hh, z, e1, e2, e3⟩ := encHR_get h2
          subst e2
          have hF : F < g.ohs.length := (List.getElem?_eq_some_iff.1 e1).1
          have := hencR hren hF (List.all_eq_true.1 hok hh (List.mem_of_getElem? e1)) (q2 F _ e3)
          have e4 : renF rs F = G := by simp [renF, h1]
          rwa [e4] at this
  · exact .inl h
theorem entryC_ok {n : FuncId} {g : Sig} {G : g.In → Option g.Ou} {rest : CallsBy α} {fn : Func} (hrest : CallsOk M rest) (hg : g.ok = true) (hf : M.P.funcs[n]? = some fn) (hname : (fn.name == "runtime.NumGoroutine") = false) (hb : fn.body.isSome = true)
    (hG : ∀ x y, G x = some y → Rets M n g x y) : CallsOk M (entryC n g G rest) := by
  intro f vs H k r h
  unfold entryC at h
  cases hn : Nat.beq f n with
  | false => rw [hn] at h; exact hrest f vs H k r h
  | true =>
    rw [hn] at h
    have := Nat.eq_of_beq_eq_true hn
    subst this
    rcases callW_spec hg hG h with h | ⟨out, h1, h2⟩
    · exact hrest f vs H k r h
    · exact ⟨out, h1, ⟨fn, hf, hname, hb⟩, h2⟩
end Go.Proofs.YtdjkdmjdcdljmaaGreatX
