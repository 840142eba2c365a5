/- Own work. No condition. -/
import Derived.Test.YtdjkdmjdcdljmaaGreatTi

namespace Go.Proofs.YtdjkdmjdcdljmaaGreat.AT
open Go.RowKit Go.Proofs.YtdjkdmjdcdljmaaGreatX Go.Proofs.YtdjkdmjdcdljmaaGreat.Sr
set_option linter.unusedVariables false
set_option linter.unusedSimpArgs false
set_option maxRecDepth 100000
set_option maxHeartbeats 4000000
variable {K : Nat}

theorem eF_inj {x y : Fr} (h : eF x = eF y) : x = y := by
  obtain ⟨a, b, c, d, e⟩ := x
  obtain ⟨a', b', c', d', e'⟩ := y
  simp only [eF, encF, idB', Prod.mk.injEq, Int.natCast_inj] at h
  obtain ⟨rfl, rfl, rfl, rfl, rfl⟩ := h
  rfl
theorem map_inj : ∀ {l m : List Fr}, l.map eF = m.map eF → l = m
  | [], [], _ => rfl
  | x :: l, y :: m, h => by
    simp only [List.map_cons, List.cons.injEq] at h
    rw [eF_inj h.1, map_inj h.2]
  | [], _ :: _, h => by simp at h
  | _ :: _, [], h => by simp at h
def FV (regs last : List (List Int)) (x : Fr) : Prop := ∃ r l, regs[x.2.2.2.1]? = some r ∧ last[x.2.2.2.2]? = some l ∧ r.length ≤ 1000 ∧ l.length ≤ 1000
theorem frames_l0 {F : List Fr} {regs last : List (List Int)} (hF : F.length ≤ 1000) (hv : ∀ x ∈ F, FV regs last x) : ∀ (l2 l1 : List Fr) (k : Nat) (acc : List LFrame), F = l1 ++ l2 → l2.length < k → acc.length = l1.length →
    ∃ L2, vm_Machine_Frames.l0.f K k (((F.map eF).length : Nat) : Int) ((l1.length : Nat) : Int) (F.map eF) regs last acc = some (acc ++ L2) ∧ L2.length = l2.length ∧ ∀ x, l2[0]? = some x → ∃ r l, regs[x.2.2.2.1]? = some r ∧ last[x.2.2.2.2]? = some l ∧ L2[0]? = some (((x.1 : Nat) : Int), ((x.2.1 : Nat) : Int), ((x.2.2.1 : Nat) : Int), r, l)
  | l2, l1, 0, acc, h, hk, hacc => by omega
  | [], l1, k + 1, acc, h, hk, hacc => by
    rw [vm_Machine_Frames.l0.f]
    have e : decide (((l1.length : Nat) : Int) < (((F.map eF).length : Nat) : Int)) = false := by rw [h]; simp
    simp only [e, cond_false]
    exact ⟨[], by simp, rfl, fun x hx => by simp at hx⟩
  | x :: l2, l1, k + 1, acc, h, hk, hacc => by
    rw [vm_Machine_Frames.l0.f]
    have hl1 : l1.length ≤ 1000 := by rw [h] at hF; simp at hF; omega
    have e : decide (((l1.length : Nat) : Int) < (((F.map eF).length : Nat) : Int)) = true := by rw [h]; simp; omega
    have hlt : l1.length < (F.map eF).length := by rw [h]; simp
    have hx : (F.map eF)[l1.length]? = some (eF x) := by rw [List.getElem?_map, h]; simp
    obtain ⟨r, l, r1, r2, r3, r4⟩ := hv x (by rw [h]; simp)
    have c1 : vm_Frame_copied.f K (eF x).2.2.2.1 (eF x).2.2.2.2 regs last = some (r, l) := by
      unfold vm_Frame_copied.f slices_Clone_int64_int64_ini.f slices_Clone_int_int_ini.f
      have b1 : (0 + r.length).ble 100000 = true := Nat.ble_eq_true_of_le (by omega)
      have b2 : (0 + l.length).ble 100000 = true := Nat.ble_eq_true_of_le (by omega)
      simp only [show (eF x).2.2.2.1 = x.2.2.2.1 from rfl, show (eF x).2.2.2.2 = x.2.2.2.2 from rfl, r1, r2, some_bind, b1, b2, cond_true]
    have e4 : Nat.ble (acc.length + [((eF x).1, (eF x).2.1, (eF x).2.2.1, r, l)].length) 100000 = true := Nat.ble_eq_true_of_le (by simp; omega)
    obtain ⟨L2, z1, z2, z3⟩ := frames_l0 hF hv l2 (l1 ++ [x]) k (acc ++ [((eF x).1, (eF x).2.1, (eF x).2.2.1, r, l)]) (mid_next h) (by simp at hk; omega) (by simp [hacc])
    simp only [e, ge0', cond_true, Int.toNat_natCast, blt_of hlt, hx, some_bind, c1, e4, wrap_next (l1 := l1) (x := x) (by omega), z1]
    refine ⟨((eF x).1, (eF x).2.1, (eF x).2.2.1, r, l) :: L2, by simp, by simp [z2], fun y hy => ?_⟩
    simp at hy
    subst hy
    exact ⟨r, l, r1, r2, rfl⟩
theorem frames_val (hK : 2000 ≤ K) {F : List Fr} {regs last : List (List Int)} (hF : F.length ≤ 1000) (hv : ∀ x ∈ F, FV regs last x) : ∃ L, vm_Machine_Frames.f K (F.map eF) regs last = some L ∧ L.length = F.length ∧ ∀ x, F[0]? = some x → ∃ r l, regs[x.2.2.2.1]? = some r ∧ last[x.2.2.2.2]? = some l ∧ L[0]? = some (((x.1 : Nat) : Int), ((x.2.1 : Nat) : Int), ((x.2.2.1 : Nat) : Int), r, l) := by
  obtain ⟨L, h1, h2, h3⟩ := frames_l0 (K := K) hF hv F [] K [] rfl (by omega) rfl
  exact ⟨L, h1, h2, h3⟩

def HeadOk (p : Nat) : List Fr → Prop
  | [] => True
  | y0 :: r => y0.1 = p ∧ y0.2.2.2.1 = 0 ∧ y0.2.2.2.2 = 0 ∧ ∀ y ∈ r, 1 ≤ y.2.2.2.1 ∧ 1 ≤ y.2.2.2.2
structure TI (fs : List LFunc) (p : Nat) (regs last : List (List Int)) (F0 : List Fr) (x : Fr) (rl0 la0 : List Int) : Prop where
  inv : Inv fs regs (last.map (·.length)) F0 x
  head : HeadOk p (F0 ++ [x])
  r0 : regs[0]? = some rl0
  l0 : last[0]? = some la0
  fit : AllFit regs
theorem TI.all {fs : List LFunc} {p : Nat} {regs last : List (List Int)} {F0 : List Fr} {x : Fr} {rl0 la0 : List Int} (h : TI fs p regs last F0 x rl0 la0) : ∀ y ∈ F0 ++ [x], ∃ F B rl, FrOk fs regs (last.map (·.length)) y F B rl := by
  intro y hy
  rcases List.mem_append.1 hy with hy | hy
  · obtain ⟨F, B, rl, I, h1, _⟩ := h.inv.outer y hy
    exact ⟨F, B, rl, h1⟩
  · simp at hy
    subst hy
    exact h.inv.top
theorem TI.fv {fs : List LFunc} (hfs : ∀ f ∈ fs, small f) {p : Nat} {regs last : List (List Int)} {F0 : List Fr} {x : Fr} {rl0 la0 : List Int} (h : TI fs p regs last F0 x rl0 la0) : ∀ y ∈ F0 ++ [x], FV regs last y := by
  intro y hy
  obtain ⟨F, B, rl, ok⟩ := h.all y hy
  obtain ⟨la, l1, l2⟩ := lens_get rfl ok.ls
  have := (hfs F (List.mem_of_getElem? ok.fn)).regs
  have := ok.rlen
  exact ⟨rl, la, ok.rg, l1, by omega, by omega⟩
theorem TI.first {fs : List LFunc} {p : Nat} {regs last : List (List Int)} {F0 : List Fr} {x : Fr} {rl0 la0 : List Int} (h : TI fs p regs last F0 x rl0 la0) {Fp : LFunc} (hFp : fs[p]? = some Fp) : ∃ y0 r B, F0 ++ [x] = y0 :: r ∧ y0.1 = p ∧ y0.2.2.2.1 = 0 ∧ y0.2.2.2.2 = 0 ∧ FrOk fs regs (last.map (·.length)) y0 Fp B rl0 ∧ la0.length = rl0.length := by
  cases hL : F0 ++ [x] with
  | nil => simp at hL
  | cons y0 r =>
    have hh := h.head
    rw [hL] at hh
    obtain ⟨a1, a2, a3, _⟩ := hh
    obtain ⟨F, B, rl, ok⟩ := h.all y0 (by rw [hL]; simp)
    have e1 := ok.fn
    rw [a1, hFp] at e1
    cases e1
    have e2 := ok.rg
    rw [a2, h.r0] at e2
    cases e2
    obtain ⟨la, l1, l2⟩ := lens_get rfl ok.ls
    rw [a3, h.l0] at l1
    cases l1
    exact ⟨y0, r, B, rfl, a1, a2, a3, ok, l2⟩
theorem allFit_set {regs : List (List Int)} (h : AllFit regs) {i : Nat} {rl : List Int} (hr : ∀ v ∈ rl, fit64 v) {d : Nat} {n : Int} (hn : fit64 n) : AllFit (regs.set i (rl.set d n)) := by
  intro r hr' v hv
  rcases List.mem_or_eq_of_mem_set hr' with h1 | rfl
  · exact h r h1 v hv
  · rcases List.mem_or_eq_of_mem_set hv with h2 | rfl
    · exact hr v h2
    · exact hn
theorem set0 {α : Type} {l : List α} {i : Nat} {x y : α} (hi : 1 ≤ i) (h : l[0]? = some x) : (l.set i y)[0]? = some x := by
  rw [List.getElem?_set_ne (by omega)]; exact h
theorem set00 {α : Type} {l : List α} {x y : α} (h : l[0]? = some x) : (l.set 0 y)[0]? = some y := by
  have := (List.getElem?_eq_some_iff.1 h).1
  simp [this]
theorem app0 {α : Type} {l m : List α} {x : α} (h : l[0]? = some x) : (l ++ m)[0]? = some x := by
  have := (List.getElem?_eq_some_iff.1 h).1
  rw [List.getElem?_append_left this]; exact h
def Made (K : Nat) (fs : List LFunc) (p : Nat) (Fp : LFunc) (y0 : Fr) (rl0 la0 rl0' la0' : List Int) (to : Nat) : Prop :=
  ∃ B, Fp.2.2.2[y0.2.1]? = some B ∧ ((∃ I, B.1[y0.2.2.1]? = some I ∧ ((usesD I.1 = false ∧ rl0' = rl0 ∧ la0' = la0) ∨ (usesD I.1 = true ∧ ∃ n, fit64 n ∧ Does K rl0 I n ∧ rl0' = rl0.set I.2.1.toNat n ∧ la0' = la0.set I.2.1.toNat (siteN fs p Fp y0.2.1 B y0.2.2.1)))) ∨
    (y0.2.2.1 = B.1.length ∧ B.2.1 ≠ 3 ∧ rl0' = rl0 ∧ la0' = la0 ∧ to = goesTo B.2 rl0))
theorem head_snoc {p : Nat} {F0 : List Fr} {x z : Fr} (h : HeadOk p (F0 ++ [x])) (h1 : F0 = [] → z.1 = p ∧ z.2.2.2 = x.2.2.2) (h2 : F0 ≠ [] → z.2.2.2 = x.2.2.2) : HeadOk p (F0 ++ [z]) := by
  cases F0 with
  | nil =>
    obtain ⟨a, b⟩ := h1 rfl
    obtain ⟨c, d, e, f⟩ := h
    exact ⟨a, by rw [b]; exact d, by rw [b]; exact e, fun y hy => by simp at hy⟩
  | cons a t =>
    obtain ⟨c, d, e, f⟩ := h
    refine ⟨c, d, e, fun y hy => ?_⟩
    rcases List.mem_append.1 hy with hy | hy
    · exact f y (by simp [hy])
    · simp at hy
      subst hy
      rw [h2 (by simp)]
      exact f x (by simp)
theorem ways {fs : List LFunc} {p : Nat} {Fp : LFunc} (hFp : fs[p]? = some Fp) {regs last regs' last' : List (List Int)} {F0 Fs' : List Fr} {x : Fr} {rl0 la0 : List Int} {F : LFunc} {B : LBlock} {rl : List Int} (h : TI fs p regs last F0 x rl0 la0) (ok : FrOk fs regs (last.map (·.length)) x F B rl) (w : Way K fs x F B rl F0 regs last regs' last' Fs') (hne : Fs' ≠ [])
    (inv' : ∀ F0' x', Fs' = F0' ++ [x'] → Inv fs regs' (last'.map (·.length)) F0' x') : ∃ F0' x' rl0' la0', Fs' = F0' ++ [x'] ∧ TI fs p regs' last' F0' x' rl0' la0' ∧ (F0' ≠ [] → rl0' = rl0 ∧ la0' = la0) ∧ (F0' = [] → ∃ y0, (F0 ++ [x])[0]? = some y0 ∧ Made K fs p Fp y0 rl0 la0 rl0' la0' x'.2.1) := by
  have hh := h.head
  -- the innermost frame, when it is alone and when it is not
  have alone : F0 = [] → x.1 = p ∧ F = Fp ∧ rl = rl0 ∧ x.2.2.2.1 = 0 ∧ x.2.2.2.2 = 0 := fun e => by
    subst e
    obtain ⟨a, b, c, _⟩ := hh
    have e1 := ok.fn
    rw [a, hFp] at e1
    have e2 := ok.rg
    rw [b, h.r0] at e2
    cases e1; cases e2
    exact ⟨a, rfl, rfl, b, c⟩
  have inner : F0 ≠ [] → 1 ≤ x.2.2.2.1 ∧ 1 ≤ x.2.2.2.2 := fun e => by
    cases F0 with
    | nil => exact absurd rfl e
    | cons a t => exact hh.2.2.2 x (by simp)
  have hrl := h.fit rl (List.mem_of_getElem? ok.rg)
  cases w with
  | done e => exact absurd e hne
  | sets I n la hI hu hd hn hla e1 e2 e3 =>
    subst e1; subst e2; subst e3
    have hd' : HeadOk p (F0 ++ [nextF x]) := head_snoc hh (fun e => ⟨(alone e).1, rfl⟩) fun _ => rfl
    by_cases hF : F0 = []
    · obtain ⟨a1, a2, a3, a4, a5⟩ := alone hF
      subst a2; subst a3
      rw [a5, h.l0] at hla
      cases hla
      refine ⟨F0, nextF x, rl.set I.2.1.toNat n, la0.set I.2.1.toNat (siteN fs x.1 F x.2.1 B x.2.2.1), rfl, ⟨inv' _ _ rfl, hd', by rw [a4]; exact set00 h.r0, by rw [a5]; exact set00 h.l0, allFit_set h.fit hrl hn⟩, fun e => absurd hF e, fun _ => ⟨x, by rw [hF]; rfl, B, ok.bl, .inl ⟨I, hI, .inr ⟨hu, n, hn, hd, rfl, by rw [a1]⟩⟩⟩⟩
    · obtain ⟨b1, b2⟩ := inner hF
      exact ⟨F0, nextF x, rl0, la0, rfl, ⟨inv' _ _ rfl, hd', set0 b1 h.r0, set0 b2 h.l0, allFit_set h.fit hrl hn⟩, fun _ => ⟨rfl, rfl⟩, fun e => absurd e hF⟩
  | rest I hI hu e1 e2 e3 =>
    subst e1; subst e2; subst e3
    have hd' : HeadOk p (F0 ++ [nextF x]) := head_snoc hh (fun e => ⟨(alone e).1, rfl⟩) fun _ => rfl
    refine ⟨F0, nextF x, rl0, la0, rfl, ⟨inv' _ _ rfl, hd', h.r0, h.l0, h.fit⟩, fun _ => ⟨rfl, rfl⟩, fun e => ?_⟩
    obtain ⟨a1, a2, a3, a4, a5⟩ := alone e
    subst a2; subst a3
    exact ⟨x, by rw [e]; rfl, B, ok.bl, .inl ⟨I, hI, .inl ⟨hu, rfl, rfl⟩⟩⟩
  | call m r l hr e1 e2 e3 =>
    subst e1; subst e2; subst e3
    have l1 := (List.getElem?_eq_some_iff.1 h.r0).1
    have l2 := (List.getElem?_eq_some_iff.1 h.l0).1
    refine ⟨F0 ++ [x], (m, 0, 0, regs.length, last.length), rl0, la0, rfl, ⟨inv' _ _ rfl, ?_, app0 h.r0, app0 h.l0, fun r' hr' v hv => ?_⟩, fun _ => ⟨rfl, rfl⟩, fun e => by simp at e⟩
    · cases hL : F0 ++ [x] with
      | nil => simp at hL
      | cons y0 t =>
        rw [hL] at hh
        obtain ⟨c, d, e, f⟩ := hh
        refine ⟨c, d, e, fun y hy => ?_⟩
        rcases List.mem_append.1 hy with hy | hy
        · exact f y hy
        · simp at hy
          subst hy
          exact ⟨l1, l2⟩
    · rcases List.mem_append.1 hr' with hr' | hr'
      · exact h.fit r' hr' v hv
      · simp at hr'
        subst hr'
        exact hr v hv
  | back F1 y F2 B2 rl2 la2 I2 n e0 ok2 hI2 h17 hla2 hn e1 e2 e3 =>
    subst e0; subst e1; subst e2; subst e3
    have hrl2 := h.fit rl2 (List.mem_of_getElem? ok2.rg)
    have hd' : HeadOk p (F1 ++ [nextF y]) := by
      cases F1 with
      | nil =>
        obtain ⟨c, d, e, f⟩ := hh
        exact ⟨c, d, e, fun z hz => by simp at hz⟩
      | cons a t =>
        obtain ⟨c, d, e, f⟩ := hh
        refine ⟨c, d, e, fun z hz => ?_⟩
        rcases List.mem_append.1 hz with hz | hz
        · exact f z (by simp [hz])
        · simp at hz
          subst hz
          exact f y (by simp)
    have u17 : usesD I2.1 = true := by rw [h17]; rfl
    by_cases hF : F1 = []
    · subst hF
      obtain ⟨a1, a4, a5, _⟩ := hh
      have e1 := ok2.fn
      rw [a1, hFp] at e1
      have e2 := ok2.rg
      rw [a4, h.r0] at e2
      cases e1; cases e2
      rw [a5, h.l0] at hla2
      cases hla2
      refine ⟨[], nextF y, rl0.set I2.2.1.toNat n, la0.set I2.2.1.toNat (siteN fs y.1 Fp y.2.1 B2 y.2.2.1), rfl, ⟨inv' _ _ rfl, hd', by rw [a4]; exact set00 h.r0, by rw [a5]; exact set00 h.l0, allFit_set h.fit hrl2 hn⟩, fun e => absurd rfl e, fun _ => ⟨y, rfl, B2, ok2.bl, .inl ⟨I2, hI2, .inr ⟨u17, n, hn, .inr (.inr (.inr (.inl (.inr (.inr h17))))), rfl, by rw [a1]⟩⟩⟩⟩
    · have hy : 1 ≤ y.2.2.2.1 ∧ 1 ≤ y.2.2.2.2 := by
        cases F1 with
        | nil => exact absurd rfl hF
        | cons a t => exact hh.2.2.2 y (by simp)
      exact ⟨F1, nextF y, rl0, la0, rfl, ⟨inv' _ _ rfl, hd', set0 hy.1 h.r0, set0 hy.2 h.l0, allFit_set h.fit hrl2 hn⟩, fun _ => ⟨rfl, rfl⟩, fun e => absurd e hF⟩
  | goes he h3 e1 e2 e3 =>
    subst e1; subst e2; subst e3
    have hd' : HeadOk p (F0 ++ [(x.1, goesTo B.2 rl, 0, x.2.2.2)]) := head_snoc hh (fun e => ⟨(alone e).1, rfl⟩) fun _ => rfl
    refine ⟨F0, _, rl0, la0, rfl, ⟨inv' _ _ rfl, hd', h.r0, h.l0, h.fit⟩, fun _ => ⟨rfl, rfl⟩, fun e => ?_⟩
    obtain ⟨a1, a2, a3, a4, a5⟩ := alone e
    subst a2; subst a3
    exact ⟨x, by rw [e]; rfl, B, ok.bl, .inr ⟨he, h3, rfl, rfl, rfl⟩⟩
end Go.Proofs.YtdjkdmjdcdljmaaGreat.AT

/- The loop of a run's trail: each frame has what is told. No condition beside those stated. -/
namespace Go.Proofs.YtdjkdmjdcdljmaaGreat.AT
open Go.RowKit Go.Proofs.YtdjkdmjdcdljmaaGreatX Go.Proofs.YtdjkdmjdcdljmaaGreat.Sr
set_option linter.unusedVariables false
set_option linter.unusedSimpArgs false
set_option maxRecDepth 100000
set_option maxHeartbeats 8000000
variable {K : Nat}

theorem getD_some {l : List Int} {i : Nat} {v : Int} (h : l[i]? = some v) : l.getD i 0 = v := by rw [List.getD_eq_getElem?_getD, h]; rfl
theorem trail (hK : 2000 ≤ K) {fs : List LFunc} {nc : Nat} (hnc : nc ≤ 1000) (hl : fs.length ≤ 1000) (hsm : ∀ f ∈ fs, small f) {bls : List (List Lsited)} {fst : List Int} (pp : progP fs bls fst) (hfs : ∀ (f : Nat) F, fs[f]? = some F → okFunc nc (arities fs []) F) (har : ∀ v ∈ arities fs [], v ≤ 4)
    (hN : ∀ (f : Nat) F, fs[f]? = some F → ∀ B ∈ F.2.2.2, ∀ I ∈ B.1, fit64 I.2.2.2.2.1) {p : Nat} {Fp : LFunc} (hFp : fs[p]? = some Fp) {ec : List LValue} {es : List LSum} (hec : ec = List.replicate nc anyVV.enc) (hes : es.length = (arities fs []).length ∧ ∀ s ∈ es, anyS s) :
    ∀ (k n : Nat) (inp cells out : List Int) (res : Int) (vals : List LValue) (rl0 la0 : List Int) (regs last : List (List Int)) (F0 : List Fr) (x : Fr), 150 < n + k → n ≤ 150 → cells.length = nc → inp.length ≤ 1000 → out.length ≤ n → (∀ v ∈ cells, fit64 v) → (∀ v ∈ inp, fit64 v) → TI fs p regs last F0 x rl0 la0 → Vals vals rl0 →
    ∃ r, avermenttop_AvermentTrails.l1.f K k ((n : Nat) : Int) ((p : Nat) : Int) fs fs ec es (some (fs, bls, fst)) inp 0 res true vals (LA la0) cells out ((F0 ++ [x]).map eF) regs last = some r ∧ (r = .inl () ∨ r = .inr true)
  | 0, n, inp, cells, out, res, vals, rl0, la0, regs, last, F0, x, hk, hn, hc, hi, ho, hcf, hif, h, hv => by omega
  | k + 1, n, inp, cells, out, res, vals, rl0, la0, regs, last, F0, x, hk, hn, hc, hi, ho, hcf, hif, h, hv => by
    rw [avermenttop_AvermentTrails.l1.f]
    by_cases hlt : n < 150
    · have e0 : decide (((n : Nat) : Int) < (150 : Int)) = true := by simp; omega
      have w : IntKind.i64.wrap (((n : Nat) : Int) + (1 : Int)) = ((n + 1 : Nat) : Int) := by rw [wrap64_of (by omega) (by omega)]; simp
      obtain ⟨F, B, rl, ok⟩ := h.inv.top
      have hdep := h.inv.depth
      obtain ⟨L, f1, f2, f3⟩ := frames_val (K := K) hK (F := F0 ++ [x]) (regs := regs) (last := last) (by simp; omega) (h.fv hsm)
      obtain ⟨okb, how', res', inp', cells', out', regs', last', Fs', g, c1, c2, c3, c4⟩ := step_p (K := K) hK pp (cells := cells) (inp := inp) (out := out) (res := res) ok h.inv.outer (by rw [hc]; exact hfs) har hdep (by omega) (by omega) (fun I hI => hN _ _ ok.fn B (List.mem_of_getElem? ok.bl) I hI) h.fit hcf hif
      have Lne : (((L.length : Nat) : Int) == 0) = false := beq_eq_false_iff_ne.2 (by rw [f2]; simp; omega)
      simp only [e0, cond_true, f1, g, some_bind]
      cases okb with
      | false => exact ⟨_, rfl, .inr rfl⟩
      | true =>
        simp only [Bool.not_true, cond_false]
        obtain ⟨ok2, how2, res2, inp2, cells2, out2, regs2, ll2, Fs2, st, d1, d2, d3, d4⟩ := step_sim (K := K) (nc := 0) hK (cells := cells) (inp := inp) (out := out) (res := res) (by rw [hc]; exact hfs) har h.inv (by omega) (by omega)
        obtain ⟨last2, s1, s2⟩ := st (fs, bls, fst) idB' (view_p hfs pp) last rfl
        have e := Eq.trans (Eq.symm s1) (show vm_Machine_Step.f K (some (fs, bls, fst)) inp 0 res cells out ((F0 ++ [x]).map (encF idB')) regs last = _ from g)
        simp only [Option.some.injEq, Prod.mk.injEq] at e
        obtain ⟨e1, e2, e3, e4, e5, e6, e7, e8, e9⟩ := e
        have e10 : Fs2 = Fs' := map_inj e9
        subst e1; subst e2; subst e3; subst e5; subst e6; subst e7; subst e8; subst e10; subst s2
        have way := c3 rfl
        by_cases hne : Fs2 = []
        · subst hne
          obtain ⟨L2, z1, z2, _⟩ := frames_val (K := K) hK (F := []) (regs := regs2) (last := last2) (by simp) (fun y hy => by simp at hy)
          have q : (((L2.length : Nat) : Int) == 0) = true := by rw [z2]; rfl
          simp only [z1, some_bind, q, cond_true, bindC_def]
          exact ⟨_, rfl, .inr rfl⟩
        · have h0 : how2 = 0 := (c4 rfl).resolve_right hne
          subst h0
          obtain ⟨F0', x', rl0', la0', rfl, ti, i1, i2⟩ := ways hFp h ok way hne (fun a b hab => by
            obtain ⟨_, a', b', hab', inv⟩ := d4 rfl
            have := List.append_inj' (hab.symm.trans hab') rfl
            obtain ⟨t1, t2⟩ := this
            simp at t2
            subst t1; subst t2
            exact inv)
          have hd' := ti.inv.depth
          obtain ⟨L2, z1, z2, z3⟩ := frames_val (K := K) hK (F := F0' ++ [x']) (regs := regs2) (last := last2) (by simp; omega) (ti.fv hsm)
          have L2ne : (((L2.length : Nat) : Int) == 0) = false := beq_eq_false_iff_ne.2 (by rw [z2]; simp; omega)
          by_cases hF : F0' = []
          · subst hF
            have q1 : decide (((L2.length : Nat) : Int) > 1) = false := by rw [z2]; simp
            obtain ⟨y0, hy0, Bm, hB, made⟩ := i2 rfl
            obtain ⟨y1, rr, B1, hL, y2, y3, y4, ok0, hlen0⟩ := h.first hFp
            have : y1 = y0 := by rw [hL] at hy0; simpa using hy0
            subst this
            obtain ⟨r, l, r1, r2, r3⟩ := f3 y1 hy0
            obtain ⟨r', l', r1', r2', r3'⟩ := z3 x' rfl
            obtain ⟨y1', rr', B1', hL', y2', y3', y4', ok0', hlen0'⟩ := ti.first hFp
            have : y1' = x' := by simp at hL'; exact hL'.1.symm
            subst this
            rw [y3', ti.r0] at r1'
            rw [y4', ti.l0] at r2'
            cases r1'; cases r2'
            have hBt := (List.getElem?_eq_some_iff.1 hB).1
            have hpt := (List.getElem?_eq_some_iff.1 hFp).1
            have w1 : decide (((y1.2.1 : Nat) : Int) < 0) = false := by simp
            have w2 : decide (((y1.2.1 : Nat) : Int) ≥ ((Fp.2.2.2.length : Nat) : Int)) = false := by simp; omega
            have w3 : (((y1.1 : Nat) : Int) != ((p : Nat) : Int)) = false := by rw [y2]; simp
            have okB := (hfs _ _ hFp).each Bm (List.mem_of_getElem? hB)
            have hreg := ok0.rlen
            have hsmp := (hsm Fp (List.mem_of_getElem? hFp)).regs
            simp only [z1, some_bind, L2ne, cond_false, q1, Lne, bindC_def, r3, r3', w1, w2, w3, ge0, cond_true, Int.toNat_natCast, hFp, hB]
            have again : ∀ (vals' : List LValue) , Vals vals' rl0' → ∃ r, avermenttop_AvermentTrails.l1.f K k ((n + 1 : Nat) : Int) ((p : Nat) : Int) fs fs ec es (some (fs, bls, fst)) inp2 0 res' true vals' (LA la0') cells2 out2 (([] ++ [y1']).map eF) regs2 last2 = some r ∧ (r = .inl () ∨ r = .inr true) := fun vals' hv' =>
              trail hK hnc hl hsm pp hfs har hN hFp hec hes k (n + 1) inp2 cells2 out2 res' vals' rl0' la0' regs2 last2 [] y1' (by omega) (by omega) (by omega) (by omega) (by omega) c1 c2 ti hv'
            have hhas : ∀ (vals' : List LValue), Vals vals' rl0' → state_Has.f K true vals' (LA la0') rl0' la0' = some true := fun vals' hv' => hasS_val hK hv' hlen0' (by have := ok0'.rlen; omega)
            rcases made with ⟨I, hI, made⟩ | ⟨he, h3, m1, m2, m3⟩
            · have hIt := (List.getElem?_eq_some_iff.1 hI).1
              have w4 : decide (((y1.2.2.1 : Nat) : Int) < ((Bm.1.length : Nat) : Int)) = true := by simp; omega
              obtain ⟨j1, j2⟩ := insnS_val (K := K) hK hl hsm (nc := nc) har hFp hB hI (okB.insns I (List.mem_of_getElem? hI)) hec hes hv hlen0 hreg (h.fit rl0 (List.mem_of_getElem? h.r0))
              rcases made with ⟨hu, m1, m2⟩ | ⟨hu, nn, hfn, hd, m1, m2⟩
              · subst m1; subst m2
                obtain ⟨nd, jd⟩ := j1 hu
                simp only [w4, cond_true, jd, some_bind, hhas vals hv, Bool.not_true, cond_false, w]
                exact again vals hv
              · obtain ⟨nd, vals', jd, jv⟩ := j2 hu nn hfn hd
                subst m1; subst m2
                simp only [w4, cond_true, jd, some_bind]
                rw [show ((fsN (fs.take p) + Fp.2.2.1.toNat + bsN (Fp.2.2.2.take y1.2.1) + sets (Bm.1.take y1.2.2.1) : Nat) : Int) = siteN fs p Fp y1.2.1 Bm y1.2.2.1 from rfl]
                simp only [hhas vals' jv, some_bind, Bool.not_true, cond_false, w]
                exact again vals' jv
            · subst m1; subst m2
              have w4 : decide (((y1.2.2.1 : Nat) : Int) < ((Bm.1.length : Nat) : Int)) = false := by simp; omega
              have fin := okB.fin
              by_cases hbr : Bm.2.1 = 2 ∧ Bm.2.2.2.1 ≠ Bm.2.2.2.2
              · have b1 : (Bm.2.1 == 2) = true := by simp [hbr.1]
                have b2 : (Bm.2.2.2.1 != Bm.2.2.2.2) = true := by simp [hbr.2]
                have fa := fin.a
                rw [if_neg (by omega)] at fa
                have ft := fin.to
                rw [if_neg h3] at ft
                have fe := fin.els
                rw [if_pos hbr.1] at fe
                unfold reg at fa ft fe
                obtain ⟨an, han⟩ : ∃ an : Nat, Bm.2.2.1 = an := ⟨Bm.2.2.1.toNat, by omega⟩
                have hal : an < rl0'.length := by omega
                have hget := List.getElem?_eq_getElem hal
                have yes' : (((y1'.2.1 : Nat) : Int) == Bm.2.2.2.1) = (rl0'[an] != 0) := by
                  rw [m3]
                  unfold goesTo
                  rw [han, Int.toNat_natCast, getD_some hget]
                  by_cases hz : rl0'[an] = 0
                  · rw [if_pos ⟨hbr.1, hz⟩, hz]
                    have : (((Bm.2.2.2.2.toNat : Nat) : Int) == Bm.2.2.2.1) = false := beq_eq_false_iff_ne.2 (fun e => hbr.2 (by omega))
                    rw [this]; rfl
                  · rw [if_neg (fun e => hz e.2), bne_iff_ne.2 hz]
                    exact beq_iff_eq.2 (by omega)
                obtain ⟨vals', jb, jv⟩ := branchS_val (K := K) hK hv hlen0 (by omega) hget
                simp only [w4, cond_false, b1, cond_true, b2, some_bind, yes', han, jb, hhas vals' jv, Bool.not_true, w]
                exact again vals' jv
              · have b : (bif Bm.2.1 == 2 then some (Bm.2.2.2.1 != Bm.2.2.2.2) else some false) = some false := by
                  by_cases h2 : Bm.2.1 = 2
                  · have : Bm.2.2.2.1 = Bm.2.2.2.2 := Decidable.byContradiction fun hc => hbr ⟨h2, hc⟩
                    rw [h2, this]; simp
                  · rw [beq_eq_false_iff_ne.2 h2]; rfl
                simp only [w4, cond_false, b, some_bind, hhas vals hv, Bool.not_true, w]
                exact again vals hv
          · have q1 : decide (((L2.length : Nat) : Int) > 1) = true := by
              rw [z2]
              cases F0' with
              | nil => exact absurd rfl hF
              | cons a t => simp; omega
            obtain ⟨rfl, rfl⟩ := i1 hF
            simp only [z1, some_bind, L2ne, cond_false, q1, cond_true, bindC_def, w]
            exact trail hK hnc hl hsm pp hfs har hN hFp hec hes k (n + 1) inp2 cells2 out2 res' vals rl0' la0' regs2 last2 F0' x' (by omega) (by omega) (by omega) (by omega) (by omega) c1 c2 ti hv
    · have e0 : decide (((n : Nat) : Int) < (150 : Int)) = false := by simp; omega
      simp only [e0, cond_false]
      exact ⟨_, rfl, .inl rfl⟩
end Go.Proofs.YtdjkdmjdcdljmaaGreat.AT
