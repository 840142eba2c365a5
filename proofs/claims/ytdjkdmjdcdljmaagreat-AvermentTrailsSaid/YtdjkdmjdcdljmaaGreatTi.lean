/- Own work. No condition. -/
import Derived.Test.YtdjkdmjdcdljmaaGreatRu
import Derived.Test.YtdjkdmjdcdljmaaGreatTh

namespace Go.Proofs.YtdjkdmjdcdljmaaGreat.AT
open Go.RowKit Go.Proofs.YtdjkdmjdcdljmaaGreatX Go.Proofs.YtdjkdmjdcdljmaaGreat.Sr
set_option linter.unusedVariables false
set_option linter.unusedSimpArgs false
set_option maxRecDepth 100000
set_option maxHeartbeats 4000000
variable {K : Nat}

def idB' : Nat → Nat → Nat := fun _ b => b
def eF (x : Fr) : CFr := encF idB' x
theorem endV_id {regs : Int} {nb : Nat} {e : LEnd} (h : okEnd regs nb e) : endV (fun b => b) e = e := by
  obtain ⟨op, a, t, el⟩ := h
  unfold endV reg at *
  split
  · rename_i h2
    rw [if_neg (by omega)] at t
    rw [if_pos h2] at el
    obtain ⟨o, a', to, es⟩ := e
    dsimp only at *
    rw [show ((to.toNat : Nat) : Int) = to by omega, show ((es.toNat : Nat) : Int) = es by omega]
  · split
    · rw [if_neg (by omega)] at t
      obtain ⟨o, a', to, es⟩ := e
      dsimp only at *
      rw [show ((to.toNat : Nat) : Int) = to by omega]
    · rfl
def siteN (fs : List LFunc) (f : Nat) (F : LFunc) (b : Nat) (B : LBlock) (i : Nat) : Int := ((fsN (fs.take f) + F.2.2.1.toNat + bsN (F.2.2.2.take b) + sets (B.1.take i) : Nat) : Int)
theorem blk_p {fs : List LFunc} {bls : List (List Lsited)} {fst : List Int} (h : progP fs bls fst) {f b : Nat} {F : LFunc} {B : LBlock} (hF : fs[f]? = some F) (hB : F.2.2.2[b]? = some B) : ∃ bl st, bls[f]? = some bl ∧ bl[b]? = some (B.1, st, B.2) ∧ st.length = B.1.length ∧ ∀ (i : Nat) I, B.1[i]? = some I → usesD I.1 = true → st[i]? = some (siteN fs f F b B i) := by
  obtain ⟨_, bl, h1, h2⟩ := h.2.2 f F hF
  obtain ⟨s, h3, h4, h5, h6, h7⟩ := h2.2 b B hB
  refine ⟨bl, s.2.1, h1, ?_, h5, h7⟩
  rw [h3]
  obtain ⟨s1, s2, s3⟩ := s
  dsimp only at h4 h6 ⊢
  rw [h4, h6]
theorem view_p {fs : List LFunc} {nc : Nat} {ar : List Int} (hfs : ∀ (f : Nat) F, fs[f]? = some F → okFunc nc ar F) {bls : List (List Lsited)} {fst : List Int} (h : progP fs bls fst) : View fs (fs, bls, fst) idB' := by
  refine ⟨fun f F hF => ⟨F, hF, rfl⟩, fun f F hF => ⟨_, (h.2.2 f F hF).1⟩, fun f F b B hF hB => ?_, fun f F hF => rfl⟩
  obtain ⟨bl, st, h1, h2, h3, _⟩ := blk_p h hF hB
  have okb := (hfs f F hF).each B (List.mem_of_getElem? hB)
  exact ⟨bl, st, h1, by rw [show idB' f b = b from rfl, h2, show idB' f = fun b => b from rfl, endV_id okb.fin], h3⟩
theorem set_p {fs : List LFunc} {bls : List (List Lsited)} {fst : List Int} (h : progP fs bls fst) {frames : List CFr} {regs last : List (List Int)} {x : Fr} {F : LFunc} {B : LBlock} {rl la : List Int} {I : LInsn} {idx : Nat} {D n : Int}
    (hf : frames[idx]? = some (eF x)) (fn : fs[x.1]? = some F) (bl : F.2.2.2[x.2.1]? = some B) (hI : B.1[x.2.2.1]? = some I) (hu : usesD I.1 = true) (hsm : B.1.length ≤ 12) (hr : regs[x.2.2.2.1]? = some rl) (hla : last[x.2.2.2.2]? = some la) (rlen : ((rl.length : Nat) : Int) = F.2.2.1) (hll : la.length = rl.length) (hD : reg F.2.2.1 D) :
    vm_Machine_set.f K idx D n (some (fs, bls, fst)) frames regs last = some (frames.set idx (eF (x.1, x.2.1, x.2.2.1 + 1, x.2.2.2)), regs.set x.2.2.2.1 (rl.set D.toNat n), last.set x.2.2.2.2 (la.set D.toNat (siteN fs x.1 F x.2.1 B x.2.2.1))) := by
  obtain ⟨bk, st, h1, h2, h3, h4⟩ := blk_p h fn bl
  have hi := (List.getElem?_eq_some_iff.1 hI).1
  unfold reg at hD
  have d0 : decide ((0 : Int) ≤ D) = true := by simp; omega
  have dr : D.toNat < rl.length := by omega
  have dl : D.toNat < la.length := by omega
  have w : IntKind.i64.wrap (((x.2.2.1 : Nat) : Int) + (1 : Int)) = ((x.2.2.1 + 1 : Nat) : Int) := by rw [wrap64_of (by omega) (by omega)]; simp
  have q1 : (eF x).1 = ((x.1 : Nat) : Int) := rfl
  have q2 : (eF x).2.1 = ((x.2.1 : Nat) : Int) := rfl
  have q3 : (eF x).2.2.1 = ((x.2.2.1 : Nat) : Int) := rfl
  have q4 : (eF x).2.2.2.1 = x.2.2.2.1 := rfl
  have q5 : (eF x).2.2.2.2 = x.2.2.2.2 := rfl
  unfold vm_Machine_set.f
  simp only [hf, some_bind, q1, q2, q3, q4, q5, ge0, Int.toNat_natCast, h1, h2, h4 _ I hI hu, cond_true, hr, hla, bindC_def, d0, blt_of dr, blt_of dl, List.getElem?_eq_getElem dr, List.getElem?_eq_getElem dl, w]
  rfl
theorem arith_fit {op u v n : Int} (hu : fit64 u) (h : vm_Arith.f K op u v = some (n, true)) : fit64 n := by
  rcases ar_cases h with ⟨_, e⟩ | ⟨_, e⟩ | ⟨_, e⟩ | ⟨_, _, e⟩ | ⟨_, y0, e⟩ | ⟨_, e⟩ | ⟨_, e⟩ | ⟨_, e⟩ | ⟨_, e⟩ <;> rw [e]
  · exact wr_fits _
  · exact wr_fits _
  · exact wr_fits _
  · exact wr_fits _
  · have := tmod_bounds (x := u) y0
    unfold fit64 at *
    omega
  · exact and_fits _ _
  · exact xor_fits _ _
  · split
    · exact fit_c 1
    · exact fit_c 0
  · split
    · exact fit_c 1
    · exact fit_c 0
theorem value_p {fs : List LFunc} {regs : List (List Int)} {ll : List Nat} {x : Fr} {F : LFunc} {B : LBlock} {rl cells inp : List Int} (ok : FrOk fs regs ll x F B rl) {op d a b n : Int} {args : List Int} {ar : List Int} (hi : okInsn cells.length ar F.2.2.1 (op, d, a, b, n, args)) (h17 : op ≠ 17) (h14 : op ≠ 14) (h16 : op ≠ 16) (hin : inp.length ≤ 100000)
    (hn : fit64 n) (hfit : ∀ v ∈ rl, fit64 v) (hcf : ∀ v ∈ cells, fit64 v) (hif : ∀ v ∈ inp, fit64 v) :
    ∃ r : Int × Bool × List Int, r.2.2.length ≤ inp.length ∧ (∀ v ∈ r.2.2, fit64 v) ∧ (r.2.1 = true → fit64 r.1 ∧ Does K rl (op, d, a, b, n, args) r.1) ∧ ∀ (pb : Nat → Nat → Nat) (F0 : List CFr), vm_Machine_value.f K F0.length op a b n inp cells (F0 ++ [encF pb x]) regs = some r := by
  obtain ⟨⟨o1, o2⟩, hd, ha, hb, hnn, hg⟩ := hi
  dsimp only at *
  have hrg := ok.rg
  by_cases h1 : op = 1
  · subst h1
    exact ⟨(n, true, inp), Nat.le_refl _, hif, fun _ => ⟨hn, .inl ⟨rfl, rfl⟩⟩, fun pb F0 => rfl⟩
  by_cases h2 : op = 2
  · subst h2
    rw [if_pos (show usesA 2 = true from rfl)] at ha
    obtain ⟨a1, a2⟩ := reg_lt ok.rlen ha
    refine ⟨(rl[a.toNat], true, inp), Nat.le_refl _, hif, fun _ => ⟨hfit _ (List.getElem_mem a2), .inr (.inl ⟨rfl, List.getElem?_eq_getElem a2⟩)⟩, fun pb F0 => ?_⟩
    unfold vm_Machine_value.f
    simp only [show ((2 : Int) == 1) = false from rfl, show ((2 : Int) == 2) = true from rfl, cond_true, cond_false, get_last, some_bind, encF, hrg, bindC_def, a1, blt_of a2, List.getElem?_eq_getElem a2]
  by_cases h3 : op = 3
  · subst h3
    rw [if_pos (show usesA 3 = true from rfl)] at ha
    obtain ⟨a1, a2⟩ := reg_lt ok.rlen ha
    refine ⟨(IntKind.i64.wrap (0 - rl[a.toNat]), true, inp), Nat.le_refl _, hif, fun _ => ⟨by rw [w64]; exact wr_fits _, .inr (.inr (.inl ⟨rfl, _, List.getElem?_eq_getElem a2, rfl⟩))⟩, fun pb F0 => ?_⟩
    unfold vm_Machine_value.f
    simp only [show ((3 : Int) == 1) = false from rfl, show ((3 : Int) == 2) = false from rfl, show ((3 : Int) == 3) = true from rfl, cond_true, cond_false, get_last, some_bind, encF, hrg, bindC_def, a1, blt_of a2, List.getElem?_eq_getElem a2]
  by_cases h13 : op = 13
  · subst h13
    rw [if_neg (by decide), if_pos (.inl rfl)] at hb
    unfold reg at hb
    have b1 : decide ((0 : Int) ≤ b) = true := by simp; omega
    have b2 : b.toNat < cells.length := by omega
    refine ⟨(cells[b.toNat], true, inp), Nat.le_refl _, hif, fun _ => ⟨hcf _ (List.getElem_mem b2), .inr (.inr (.inr (.inl (.inl rfl))))⟩, fun pb F0 => ?_⟩
    unfold vm_Machine_value.f
    simp only [show ((13 : Int) == 1) = false from rfl, show ((13 : Int) == 2) = false from rfl, show ((13 : Int) == 3) = false from rfl, show ((13 : Int) == 13) = true from rfl, cond_true, cond_false, b1, blt_of b2, List.getElem?_eq_getElem b2, some_bind]
  by_cases h15 : op = 15
  · subst h15
    cases inp with
    | nil =>
      refine ⟨(0, false, []), Nat.le_refl _, hif, fun h => (by cases h), fun pb F0 => ?_⟩
      rfl
    | cons v inp =>
      refine ⟨(v, true, inp), by simp, fun u hu => hif u (by simp [hu]), fun _ => ⟨hif v (by simp), .inr (.inr (.inr (.inl (.inr (.inl rfl)))))⟩, fun pb F0 => ?_⟩
      unfold vm_Machine_value.f
      have e0 : ((((v :: inp).length : Nat) : Int) == (0 : Int)) = false := beq_eq_false_iff_ne.2 (by simp; omega)
      have e1 : (decide ((1 : Int) ≤ (((v :: inp).length : Nat) : Int)) && decide ((((v :: inp).length : Nat) : Int) ≤ (((v :: inp).length : Nat) : Int)) && true) = true := by simp; omega
      simp only [show ((15 : Int) == 1) = false from rfl, show ((15 : Int) == 2) = false from rfl, show ((15 : Int) == 3) = false from rfl, show ((15 : Int) == 13) = false from rfl, show ((15 : Int) == 15) = true from rfl, cond_true, cond_false, e0, List.getElem?_cons_zero, some_bind, e1, Int.toNat_natCast, List.take_length, List.drop_succ_cons, List.drop_zero]
  have uB : usesB op = true := by unfold usesB; simp; omega
  have uA : usesA op = true := by unfold usesA; simp; omega
  rw [if_pos uA] at ha
  rw [if_pos uB] at hb
  obtain ⟨a1, a2⟩ := reg_lt ok.rlen ha
  obtain ⟨b1, b2⟩ := reg_lt ok.rlen hb
  obtain ⟨r, hr⟩ := arith_some (K := K) op rl[a.toNat] rl[b.toNat]
  refine ⟨(r.1, r.2, inp), Nat.le_refl _, hif, fun h => ?_, fun pb F0 => ?_⟩
  · have hr' : vm_Arith.f K op rl[a.toNat] rl[b.toNat] = some (r.1, true) := by rw [hr]; dsimp only at h; rw [← h]
    exact ⟨arith_fit (hfit _ (List.getElem_mem a2)) hr', .inr (.inr (.inr (.inr ⟨by dsimp only; omega, by dsimp only; omega, _, _, List.getElem?_eq_getElem a2, List.getElem?_eq_getElem b2, hr'⟩)))⟩
  · unfold vm_Machine_value.f
    simp only [beq_eq_false_iff_ne.2 h1, beq_eq_false_iff_ne.2 h2, beq_eq_false_iff_ne.2 h3, beq_eq_false_iff_ne.2 h13, beq_eq_false_iff_ne.2 h15, cond_false, cond_true, get_last, some_bind, encF, hrg, bindC_def, a1, b1, blt_of a2, blt_of b2, List.getElem?_eq_getElem a2, List.getElem?_eq_getElem b2, hr]
def goesTo (e : LEnd) (rl : List Int) : Nat := if e.1 = 2 ∧ rl.getD e.2.1.toNat 0 = 0 then e.2.2.2.toNat else e.2.2.1.toNat
theorem end_p {fs : List LFunc} {regs last : List (List Int)} {ll : List Nat} {x : Fr} {F : LFunc} {B : LBlock} {rl : List Int} {how res : Int} {P : Lprogram} {F0 : List CFr} (ok : FrOk fs regs ll x F B rl) {e : LEnd} {nb : Nat} (he : okEnd F.2.2.1 nb e) (h3 : e.1 ≠ 3) :
    vm_Machine_end.f K F0.length e.1 e.2.1 e.2.2.1 e.2.2.2 (some P) how res (F0 ++ [eF x]) regs last = some (how, res, regs, last, F0 ++ [eF (x.1, goesTo e rl, 0, x.2.2.2)]) := by
  obtain ⟨op, a, t, el⟩ := he
  have b3 : (e.1 == 3) = false := beq_eq_false_iff_ne.2 h3
  have hrg := ok.rg
  have q4 : (eF x).2.2.2.1 = x.2.2.2.1 := rfl
  rw [if_neg h3] at t
  unfold reg at t
  by_cases h2 : e.1 = 2
  · rw [if_neg (by omega)] at a
    rw [if_pos h2] at el
    unfold reg at el
    obtain ⟨a1, a2⟩ := reg_lt ok.rlen a
    have b2 : (e.1 == 2) = true := by simp [h2]
    by_cases hz : rl[e.2.1.toNat] = 0
    · have ez : (rl[e.2.1.toNat] == 0) = true := by simp [hz]
      have eg : ((goesTo e rl : Nat) : Int) = e.2.2.2 := by unfold goesTo; rw [if_pos ⟨h2, by rw [List.getD_eq_getElem?_getD, List.getElem?_eq_getElem a2]; exact hz⟩]; omega
      unfold vm_Machine_end.f
      simp only [b3, b2, cond_true, cond_false, get_last, some_bind, q4, hrg, bindC_def, a1, blt_of a2, List.getElem?_eq_getElem a2, ez, set_last]
      rw [show eF (x.1, goesTo e rl, 0, x.2.2.2) = (((x.1 : Nat) : Int), ((goesTo e rl : Nat) : Int), 0, x.2.2.2.1, x.2.2.2.2) from rfl, eg]
      rfl
    · have ez : (rl[e.2.1.toNat] == 0) = false := by simp [hz]
      have eg : ((goesTo e rl : Nat) : Int) = e.2.2.1 := by unfold goesTo; rw [if_neg (fun h => hz (by have := h.2; rw [List.getD_eq_getElem?_getD, List.getElem?_eq_getElem a2] at this; exact this))]; omega
      unfold vm_Machine_end.f
      simp only [b3, b2, cond_true, cond_false, get_last, some_bind, q4, hrg, bindC_def, a1, blt_of a2, List.getElem?_eq_getElem a2, ez, set_last]
      rw [show eF (x.1, goesTo e rl, 0, x.2.2.2) = (((x.1 : Nat) : Int), ((goesTo e rl : Nat) : Int), 0, x.2.2.2.1, x.2.2.2.2) from rfl, eg]
      rfl
  · have b2 : (e.1 == 2) = false := beq_eq_false_iff_ne.2 h2
    have eg : ((goesTo e rl : Nat) : Int) = e.2.2.1 := by unfold goesTo; rw [if_neg (fun h => h2 h.1)]; omega
    unfold vm_Machine_end.f
    simp only [b3, b2, cond_true, cond_false, get_last, some_bind, bindC_def, set_last]
    rw [show eF (x.1, goesTo e rl, 0, x.2.2.2) = (((x.1 : Nat) : Int), ((goesTo e rl : Nat) : Int), 0, x.2.2.2.1, x.2.2.2.2) from rfl, eg]
    rfl
theorem back_p {fs : List LFunc} {bls : List (List Lsited)} {fst : List Int} (h : progP fs bls fst) {n how res : Int} {F1 : List CFr} {y : Fr} {z : CFr} {regs last : List (List Int)} {ll : List Nat} {F : LFunc} {B : LBlock} {rl la : List Int} {I : LInsn} (hF : F1.length ≤ 100)
    (ok : FrOk fs regs ll y F B rl) (hI : B.1[y.2.2.1]? = some I) (hu : usesD I.1 = true) (hD : reg F.2.2.1 I.2.1) (hla : last[y.2.2.2.2]? = some la) (hll : la.length = rl.length) :
    vm_Machine_back.f K n (some (fs, bls, fst)) how res (F1 ++ [eF y] ++ [z]) regs last = some (how, res, regs.set y.2.2.2.1 (rl.set I.2.1.toNat n), last.set y.2.2.2.2 (la.set I.2.1.toNat (siteN fs y.1 F y.2.1 B y.2.2.1)), F1 ++ [eF (y.1, y.2.1, y.2.2.1 + 1, y.2.2.2)]) := by
  have hlt := (List.getElem?_eq_some_iff.1 hI).1
  have s1 := set_p (K := K) h (frames := F1 ++ [eF y]) (idx := F1.length) (n := n) get_last ok.fn ok.bl hI hu ok.small ok.rg hla ok.rlen hll hD
  obtain ⟨bl, st, h1, h2, h3, _⟩ := blk_p h ok.fn ok.bl
  unfold vm_Machine_back.f
  have w : IntKind.i64.wrap ((((F1 ++ [eF y] ++ [z]).length : Nat) : Int) - (1 : Int)) = (((F1 ++ [eF y]).length : Nat) : Int) := by rw [wrap64_of (by simp <;> omega) (by simp <;> omega)]; simp <;> omega
  have e1 : (decide (((0 : Nat) : Int) ≤ (((F1 ++ [eF y]).length : Nat) : Int)) && decide ((((F1 ++ [eF y]).length : Nat) : Int) ≤ (((F1 ++ [eF y] ++ [z]).length : Nat) : Int))) = true := by simp; omega
  have e2 : ((((F1 ++ [eF y]).length - 0 : Nat) : Int) == (0 : Int)) = false := beq_eq_false_iff_ne.2 (by simp; omega)
  have e3 : Nat.ble ((F1 ++ [eF y]).length - 0) (F1 ++ [eF y] ++ [z]).length = true := Nat.ble_eq_true_of_le (by simp)
  have e4 : List.take ((F1 ++ [eF y]).length - 0) (F1 ++ [eF y] ++ [z]) = F1 ++ [eF y] := by rw [Nat.sub_zero]; exact List.take_left
  simp only [w, e1, cond_true, Int.toNat_natCast, e2, cond_false, e3, e4, inner_val (K := K) (l := F1) (x := eF y) (by omega), some_bind, get_last]
  have q1 : (eF y).1 = ((y.1 : Nat) : Int) := rfl
  have q2 : (eF y).2.1 = ((y.2.1 : Nat) : Int) := rfl
  have q3 : (eF y).2.2.1 = ((y.2.2.1 : Nat) : Int) := rfl
  simp only [q1, q2, q3, ge0, cond_true, Int.toNat_natCast, h1, h2, some_bind, hI, s1, set_last]
end Go.Proofs.YtdjkdmjdcdljmaaGreat.AT

/- A machine's step: each way it may go. No condition beside those stated. -/
namespace Go.Proofs.YtdjkdmjdcdljmaaGreat.AT
open Go.RowKit Go.Proofs.YtdjkdmjdcdljmaaGreatX Go.Proofs.YtdjkdmjdcdljmaaGreat.Sr
set_option linter.unusedVariables false
set_option linter.unusedSimpArgs false
set_option maxRecDepth 100000
set_option maxHeartbeats 4000000
variable {K : Nat}

abbrev nextF (x : Fr) : Fr := (x.1, x.2.1, x.2.2.1 + 1, x.2.2.2)
inductive Way (K : Nat) (fs : List LFunc) (x : Fr) (F : LFunc) (B : LBlock) (rl : List Int) (F0 : List Fr) (regs last regs' last' : List (List Int)) (Fs' : List Fr) : Prop
  | done : Fs' = [] → Way K fs x F B rl F0 regs last regs' last' Fs'
  | sets (I : LInsn) (n : Int) (la : List Int) : B.1[x.2.2.1]? = some I → usesD I.1 = true → Does K rl I n → fit64 n → last[x.2.2.2.2]? = some la → regs' = regs.set x.2.2.2.1 (rl.set I.2.1.toNat n) → last' = last.set x.2.2.2.2 (la.set I.2.1.toNat (siteN fs x.1 F x.2.1 B x.2.2.1)) → Fs' = F0 ++ [nextF x] → Way K fs x F B rl F0 regs last regs' last' Fs'
  | rest (I : LInsn) : B.1[x.2.2.1]? = some I → usesD I.1 = false → regs' = regs → last' = last → Fs' = F0 ++ [nextF x] → Way K fs x F B rl F0 regs last regs' last' Fs'
  | call (m : Nat) (r l : List Int) : (∀ v ∈ r, fit64 v) → regs' = regs ++ [r] → last' = last ++ [l] → Fs' = F0 ++ [x] ++ [(m, 0, 0, regs.length, last.length)] → Way K fs x F B rl F0 regs last regs' last' Fs'
  | back (F1 : List Fr) (y : Fr) (F2 : LFunc) (B2 : LBlock) (rl2 la2 : List Int) (I2 : LInsn) (n : Int) : F0 = F1 ++ [y] → FrOk fs regs (last.map (·.length)) y F2 B2 rl2 → B2.1[y.2.2.1]? = some I2 → I2.1 = 17 → last[y.2.2.2.2]? = some la2 → fit64 n →
      regs' = regs.set y.2.2.2.1 (rl2.set I2.2.1.toNat n) → last' = last.set y.2.2.2.2 (la2.set I2.2.1.toNat (siteN fs y.1 F2 y.2.1 B2 y.2.2.1)) → Fs' = F1 ++ [nextF y] → Way K fs x F B rl F0 regs last regs' last' Fs'
  | goes : x.2.2.1 = B.1.length → B.2.1 ≠ 3 → regs' = regs → last' = last → Fs' = F0 ++ [(x.1, goesTo B.2 rl, 0, x.2.2.2)] → Way K fs x F B rl F0 regs last regs' last' Fs'
theorem map_lastE {F0 : List Fr} {x : Fr} : (F0 ++ [x]).map eF = F0.map eF ++ [eF x] := by simp
theorem set_lastE {F0 : List Fr} {z y : CFr} : (F0.map eF ++ [z]).set F0.length y = F0.map eF ++ [y] := by
  have := set_last (l := F0.map eF) (x := z) (y := y); rwa [List.length_map] at this
theorem get_lastE {F0 : List Fr} {z : CFr} : (F0.map eF ++ [z])[F0.length]? = some z := by
  have := get_last (l := F0.map eF) (x := z); rwa [List.length_map] at this
def AllFit (l : List (List Int)) : Prop := ∀ r ∈ l, ∀ v ∈ r, fit64 v
theorem fit0 : fit64 0 := fit_c 0
theorem getD_fit {l : List Int} (h : ∀ v ∈ l, fit64 v) (i : Nat) : fit64 (l.getD i 0) := by
  rw [List.getD_eq_getElem?_getD]
  cases hg : l[i]? with
  | none => exact fit0
  | some v => exact h v (List.mem_of_getElem? hg)
theorem regsOf_fit {F : LFunc} {args : List Int} (h : ∀ v ∈ args, fit64 v) : ∀ v ∈ regsOf F args, fit64 v := by
  intro v hv
  unfold regsOf at hv
  rcases List.mem_append.1 hv with hv | hv
  · exact h v (List.mem_of_mem_take hv)
  · have := List.mem_of_mem_drop hv
    rw [List.mem_replicate] at this
    rw [this.2]; exact fit0
theorem insn_p (hK : 2000 ≤ K) {fs : List LFunc} {nc : Nat} {bls : List (List Lsited)} {fst : List Int} (pp : progP fs bls fst) {cells inp out : List Int} {regs last : List (List Int)} {F0 : List Fr} {x : Fr} {F : LFunc} {B : LBlock} {rl : List Int} {I : LInsn} (ok : FrOk fs regs (last.map (·.length)) x F B rl) (hI : B.1[x.2.2.1]? = some I)
    (hok : okInsn cells.length (arities fs []) F.2.2.1 I) (hfs : ∀ (f : Nat) F, fs[f]? = some F → okFunc nc (arities fs []) F) (har : ∀ v ∈ arities fs [], v ≤ 4) (hdep : F0.length + 1 ≤ 64) (hin : inp.length ≤ 100000) (hout : out.length ≤ 1000) (hn : fit64 I.2.2.2.2.1) (hregs : AllFit regs) (hcf : ∀ v ∈ cells, fit64 v) (hif : ∀ v ∈ inp, fit64 v) :
    ∃ okb inp' cells' out' regs' last' Fs', vm_Machine_insn.f K F0.length I.1 I.2.1 I.2.2.1 I.2.2.2.1 I.2.2.2.2.1 I.2.2.2.2.2 (some (fs, bls, fst)) inp cells out (F0.map eF ++ [eF x]) regs last = some (okb, inp', cells', regs', last', out', Fs'.map eF) ∧
      (∀ v ∈ cells', fit64 v) ∧ (∀ v ∈ inp', fit64 v) ∧ (okb = true → Way K fs x F B rl F0 regs last regs' last' Fs') := by
  have hlt := (List.getElem?_eq_some_iff.1 hI).1
  have hsm := ok.small
  have hargs := argsLen hok har
  have hrl := hregs rl (List.mem_of_getElem? ok.rg)
  obtain ⟨la, hla, hlen⟩ := lens_get rfl ok.ls
  have v := view_p hfs pp
  obtain ⟨op, d, a, b, n, args⟩ := I
  have hok' := hok
  obtain ⟨⟨o1, o2⟩, hd, ha, hb, hnn, hg⟩ := hok
  dsimp only at *
  have w : IntKind.i64.wrap (((x.2.2.1 : Nat) : Int) + (1 : Int)) = ((x.2.2.1 + 1 : Nat) : Int) := by rw [wrap64_of (by omega) (by omega)]; simp
  by_cases h17 : op = 17
  · subst h17
    rw [if_neg (by decide), if_neg (by decide), if_pos rfl] at hb
    rw [if_pos rfl] at hg
    obtain ⟨⟨b1, b2⟩, b3⟩ := hb
    have hal : (arities fs []).length = fs.length := by simp
    obtain ⟨m, rfl⟩ : ∃ m : Nat, b = m := ⟨b.toNat, by omega⟩
    have hm : m < fs.length := by omega
    have hF' := List.getElem?_eq_getElem hm
    have okf := hfs m _ hF'
    have hreg := okf.regs
    by_cases h64 : F0.length + 1 = 64
    · refine ⟨false, inp, cells, out, regs, last, F0 ++ [x], ?_, hcf, hif, fun h => by cases h⟩
      unfold vm_Machine_insn.f vm_Machine_call.f
      have e : ((((F0.map eF ++ [eF x]).length : Nat) : Int) == (64 : Int)) = true := by simp; omega
      simp only [show ((17 : Int) == 17) = true from rfl, cond_true, e, some_bind, map_lastE]
    · obtain ⟨la', f1, f2⟩ := frame_val (K := K) hK v hF' (by omega) hreg.2.1 (args.map fun a => rl.getD a.toNat 0)
      refine ⟨true, inp, cells, out, regs ++ [regsOf fs[m] (args.map fun a => rl.getD a.toNat 0)], last ++ [la'], F0 ++ [x] ++ [(m, 0, 0, regs.length, last.length)], ?_, hcf, hif, fun _ => .call m _ la' (regsOf_fit fun v hv => ?_) rfl rfl rfl⟩
      · unfold vm_Machine_insn.f vm_Machine_call.f
        have e : ((((F0.map eF ++ [eF x]).length : Nat) : Int) == (64 : Int)) = false := beq_eq_false_iff_ne.2 (by simp; omega)
        have c := call_l0 (K := K) ok (l := args) (by omega) hg idB' (F0.map eF) args [] K [] rfl (by omega) rfl
        rw [List.length_map] at c
        have c' : vm_Machine_call.l0.f K K F0.length args ((args.length : Nat) : Int) (0 : Int) (F0.map eF ++ [eF x]) regs [] = some (args.map fun a => rl.getD a.toNat 0) := c
        have e4 : Nat.ble ((F0.map eF ++ [eF x]).length + [(((m : Nat) : Int), (0 : Int), (0 : Int), regs.length, last.length)].length) 100000 = true := Nat.ble_eq_true_of_le (by simp; omega)
        simp only [show ((17 : Int) == 17) = true from rfl, cond_true, e, cond_false, some_bind, c', f1, e4, List.map_append, List.map_cons, List.map_nil]
        rfl
      · obtain ⟨a', _, rfl⟩ := List.mem_map.1 hv
        exact getD_fit hrl _
  by_cases h14 : op = 14
  · subst h14
    rw [if_pos (show usesA 14 = true from rfl)] at ha
    rw [if_neg (by decide), if_pos (.inr rfl)] at hb
    unfold reg at hb
    obtain ⟨a1, a2⟩ := reg_lt ok.rlen ha
    have b1 : decide ((0 : Int) ≤ b) = true := by simp; omega
    have b2 : b.toNat < cells.length := by omega
    refine ⟨true, inp, cells.set b.toNat rl[a.toNat], out, regs, last, F0 ++ [nextF x], ?_, fun u hu => ?_, hif, fun _ => .rest _ hI rfl rfl rfl rfl⟩
    · unfold vm_Machine_insn.f
      have q1 : (eF x).2.2.2.1 = x.2.2.2.1 := rfl
      have q2 : (eF x).2.2.1 = ((x.2.2.1 : Nat) : Int) := rfl
      simp only [show ((14 : Int) == 17) = false from rfl, show ((14 : Int) == 14) = true from rfl, cond_true, cond_false, get_lastE, some_bind, q1, ok.rg, bindC_def, a1, blt_of a2, List.getElem?_eq_getElem a2, b1, blt_of b2, List.getElem?_eq_getElem b2, q2, w, set_lastE, map_lastE]
      rfl
    · rcases List.mem_or_eq_of_mem_set hu with hu | rfl
      · exact hcf u hu
      · exact hrl _ (List.getElem_mem a2)
  by_cases h16 : op = 16
  · subst h16
    rw [if_pos (show usesA 16 = true from rfl)] at ha
    obtain ⟨a1, a2⟩ := reg_lt ok.rlen ha
    refine ⟨true, inp, cells, out ++ [rl[a.toNat]], regs, last, F0 ++ [nextF x], ?_, hcf, hif, fun _ => .rest _ hI rfl rfl rfl rfl⟩
    unfold vm_Machine_insn.f
    have q1 : (eF x).2.2.2.1 = x.2.2.2.1 := rfl
    have q2 : (eF x).2.2.1 = ((x.2.2.1 : Nat) : Int) := rfl
    have e4 : Nat.ble (out.length + [rl[a.toNat]].length) 100000 = true := Nat.ble_eq_true_of_le (by simp; omega)
    simp only [show ((16 : Int) == 17) = false from rfl, show ((16 : Int) == 14) = false from rfl, show ((16 : Int) == 16) = true from rfl, cond_true, cond_false, get_lastE, some_bind, q1, ok.rg, bindC_def, a1, blt_of a2, List.getElem?_eq_getElem a2, e4, q2, w, set_lastE, map_lastE]
    rfl
  · obtain ⟨r, hr1, hr2, hr3, hr4⟩ := value_p (K := K) ok (inp := inp) hok' h17 h14 h16 hin hn hrl hcf hif
    have uD : usesD op = true := by unfold usesD; simp; omega
    rw [if_pos uD] at hd
    have b17 := beq_eq_false_iff_ne.2 h17
    have b14 := beq_eq_false_iff_ne.2 h14
    have b16 := beq_eq_false_iff_ne.2 h16
    have hr5 : vm_Machine_value.f K F0.length op a b n inp cells (F0.map eF ++ [eF x]) regs = some r := by
      have := hr4 idB' (F0.map eF); rwa [List.length_map] at this
    cases hb1 : r.2.1 with
    | true =>
      obtain ⟨g1, g2⟩ := hr3 hb1
      have s1 := set_p (K := K) pp (frames := F0.map eF ++ [eF x]) (idx := F0.length) (n := r.1) get_lastE ok.fn ok.bl hI uD hsm ok.rg hla ok.rlen hlen hd
      refine ⟨true, r.2.2, cells, out, _, _, F0 ++ [nextF x], ?_, hcf, hr2, fun _ => .sets _ r.1 la hI uD g2 g1 hla rfl rfl rfl⟩
      unfold vm_Machine_insn.f
      simp only [b17, b14, b16, cond_false, hr5, some_bind, hb1, cond_true, s1, set_lastE, map_lastE]
    | false =>
      refine ⟨false, r.2.2, cells, out, regs, last, F0 ++ [x], ?_, hcf, hr2, fun h => by cases h⟩
      unfold vm_Machine_insn.f
      simp only [b17, b14, b16, cond_false, hr5, some_bind, hb1, map_lastE]
theorem step_p (hK : 2000 ≤ K) {fs : List LFunc} {bls : List (List Lsited)} {fst : List Int} (pp : progP fs bls fst) {cells inp out : List Int} {res : Int} {regs last : List (List Int)} {F0 : List Fr} {x : Fr} {F : LFunc} {B : LBlock} {rl : List Int} (ok : FrOk fs regs (last.map (·.length)) x F B rl)
    (outer : ∀ y ∈ F0, ∃ F B rl I, FrOk fs regs (last.map (·.length)) y F B rl ∧ B.1[y.2.2.1]? = some I ∧ I.1 = 17) (hfs : ∀ (f : Nat) F, fs[f]? = some F → okFunc cells.length (arities fs []) F) (har : ∀ v ∈ arities fs [], v ≤ 4) (hdep : F0.length + 1 ≤ 64) (hin : inp.length ≤ 100000) (hout : out.length ≤ 1000)
    (hn : ∀ I ∈ B.1, fit64 I.2.2.2.2.1) (hregs : AllFit regs) (hcf : ∀ v ∈ cells, fit64 v) (hif : ∀ v ∈ inp, fit64 v) :
    ∃ okb how' res' inp' cells' out' regs' last' Fs', vm_Machine_Step.f K (some (fs, bls, fst)) inp 0 res cells out ((F0 ++ [x]).map eF) regs last = some (okb, inp', how', res', cells', regs', last', out', Fs'.map eF) ∧
      (∀ v ∈ cells', fit64 v) ∧ (∀ v ∈ inp', fit64 v) ∧ (okb = true → Way K fs x F B rl F0 regs last regs' last' Fs') ∧ (okb = true → how' = 0 ∨ Fs' = []) := by
  have okF := hfs _ _ ok.fn
  have okB := okF.each B (List.mem_of_getElem? ok.bl)
  have hrl := hregs rl (List.mem_of_getElem? ok.rg)
  obtain ⟨bl, st, h1, h2, h3, _⟩ := blk_p pp ok.fn ok.bl
  have start : vm_Machine_Step.f K (some (fs, bls, fst)) inp 0 res cells out ((F0 ++ [x]).map eF) regs last = bif ((x.2.2.1 : Nat) : Int) == ((B.1.length : Nat) : Int) then
      (vm_Machine_end.f K F0.length B.2.1 B.2.2.1 B.2.2.2.1 B.2.2.2.2 (some (fs, bls, fst)) 0 res (F0.map eF ++ [eF x]) regs last).bind fun t => some (true, inp, t.1, t.2.1, cells, t.2.2.1, t.2.2.2.1, out, t.2.2.2.2)
      else B.1[x.2.2.1]?.bind fun t_8 => (vm_Machine_insn.f K F0.length t_8.1 t_8.2.1 t_8.2.2.1 t_8.2.2.2.1 t_8.2.2.2.2.1 t_8.2.2.2.2.2 (some (fs, bls, fst)) inp cells out (F0.map eF ++ [eF x]) regs last).bind fun t => bif !t.1 then some (false, t.2.1, (2 : Int), res, t.2.2.1, t.2.2.2.1, t.2.2.2.2.1, t.2.2.2.2.2.1, t.2.2.2.2.2.2) else some (true, t.2.1, 0, res, t.2.2.1, t.2.2.2.1, t.2.2.2.2.1, t.2.2.2.2.2.1, t.2.2.2.2.2.2) := by
    unfold vm_Machine_Step.f
    have hi := inner_val (K := K) (l := F0.map eF) (x := eF x) (by simp; omega)
    rw [List.length_map] at hi
    have q1 : (eF x).1 = ((x.1 : Nat) : Int) := rfl
    have q2 : (eF x).2.1 = ((x.2.1 : Nat) : Int) := rfl
    have q3 : (eF x).2.2.1 = ((x.2.2.1 : Nat) : Int) := rfl
    simp only [map_lastE, bindC_def, some_bind, show ((0 : Int) != 0) = false from rfl, cond_false, hi, get_lastE, q1, q2, q3, ge0, cond_true, Int.toNat_natCast, h1, h2]
  by_cases hend : x.2.2.1 = B.1.length
  · have e0 : (((x.2.2.1 : Nat) : Int) == ((B.1.length : Nat) : Int)) = true := by simp [hend]
    rw [start, e0, cond_true]
    by_cases hr3 : B.2.1 = 3
    · have er : vm_Machine_end.f K F0.length B.2.1 B.2.2.1 B.2.2.2.1 B.2.2.2.2 (some (fs, bls, fst)) 0 res (F0.map eF ++ [eF x]) regs last = vm_Machine_back.f K (rl.getD B.2.2.1.toNat 0) (some (fs, bls, fst)) 0 res (F0.map eF ++ [eF x]) regs last := by
        have := end_ret (K := K) (how := 0) (res := res) ok okB.fin hr3 (fs, bls, fst) idB' (F0.map eF) last
        rw [List.length_map, show idB' x.1 = fun b => b from rfl, endV_id okB.fin] at this
        exact this
      rw [er]
      rcases List.eq_nil_or_concat F0 with rfl | ⟨F1, y, rfl⟩
      · refine ⟨true, 1, rl.getD B.2.2.1.toNat 0, inp, cells, out, regs, last, [], ?_, hcf, hif, fun _ => .done rfl, fun _ => .inr rfl⟩
        simp only [List.map_nil, List.nil_append, back_done, some_bind]
      · simp only [List.concat_eq_append] at *
        obtain ⟨F2, B2, rl2, I2, q1, q2, q3⟩ := outer y (by simp)
        have okF2 := hfs _ _ q1.fn
        have okB2 := okF2.each B2 (List.mem_of_getElem? q1.bl)
        have okI2 := okB2.insns I2 (List.mem_of_getElem? q2)
        have u17 : usesD I2.1 = true := by rw [q3]; rfl
        have hD : reg F2.2.2.1 I2.2.1 := by have := okI2.d; rw [if_pos u17] at this; exact this
        obtain ⟨la2, l1, l2⟩ := lens_get rfl q1.ls
        refine ⟨true, 0, res, inp, cells, out, _, _, F1 ++ [nextF y], ?_, hcf, hif, fun _ => .back F1 y F2 B2 rl2 la2 I2 _ rfl q1 q2 q3 l1 (getD_fit hrl B.2.2.1.toNat) rfl rfl rfl, fun _ => .inl rfl⟩
        have b1 := back_p (K := K) pp (n := rl.getD B.2.2.1.toNat 0) (how := 0) (res := res) (F1 := F1.map eF) (z := eF x) (by simp at hdep ⊢; omega) q1 q2 u17 hD l1 l2
        rw [map_lastE, b1, some_bind, map_lastE]
    · refine ⟨true, 0, res, inp, cells, out, regs, last, F0 ++ [(x.1, goesTo B.2 rl, 0, x.2.2.2)], ?_, hcf, hif, fun _ => .goes hend hr3 rfl rfl rfl, fun _ => .inl rfl⟩
      have g := end_p (K := K) (how := 0) (res := res) (last := last) (P := (fs, bls, fst)) (F0 := F0.map eF) ok okB.fin hr3
      rw [List.length_map] at g
      rw [g, some_bind, map_lastE]
  · have e0 : (((x.2.2.1 : Nat) : Int) == ((B.1.length : Nat) : Int)) = false := beq_eq_false_iff_ne.2 (by omega)
    have hlt : x.2.2.1 < B.1.length := by have := ok.at_; omega
    have hI := List.getElem?_eq_getElem hlt
    obtain ⟨okb, inp', cells', out', regs', last', Fs', g, c1, c2, c3⟩ := insn_p (K := K) hK pp (cells := cells) (inp := inp) (out := out) ok hI (okB.insns _ (List.getElem_mem hlt)) hfs har hdep hin hout (hn _ (List.getElem_mem hlt)) hregs hcf hif
    rw [start, e0, cond_false, hI, some_bind, g, some_bind]
    cases okb with
    | true => exact ⟨true, 0, res, inp', cells', out', regs', last', Fs', rfl, c1, c2, c3, fun _ => .inl rfl⟩
    | false => exact ⟨false, 2, res, inp', cells', out', regs', last', Fs', rfl, c1, c2, (fun h => by cases h), fun h => by cases h⟩
end Go.Proofs.YtdjkdmjdcdljmaaGreat.AT
