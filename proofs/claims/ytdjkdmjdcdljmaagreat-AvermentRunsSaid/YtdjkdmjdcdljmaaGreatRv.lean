/- Modules that were written and read, or laid in another order, run alike: the law's plain function is true. Conditions: all numbers are of 64 bits. -/
import Derived.Test.YtdjkdmjdcdljmaaGreatRw

namespace Go.Proofs.YtdjkdmjdcdljmaaGreat.AR
open Go.Proofs.YtdjkdmjdcdljmaaGreatX
set_option linter.unusedVariables false
set_option linter.unusedSimpArgs false
set_option maxRecDepth 100000
set_option maxHeartbeats 4000000
variable {K : Nat}

theorem endV_id {regs : Int} {nb : Nat} {e : LEnd} (h : okEnd regs nb e) : endV (fun b => b) e = e := by
  obtain ⟨op, a, t, el⟩ := h
  unfold endV reg at *
  split
  · rename_i h2
    rw [if_neg (by omega)] at t
    rw [if_pos h2] at el
    obtain ⟨o, a', to, es⟩ := e
    dsimp only at *
    rw [show ((to.toNat : Nat) : Int) = to by omega, show ((es.toNat : Nat) : Int) = es by omega]
  · split
    · rw [if_neg (by omega)] at t
      obtain ⟨o, a', to, es⟩ := e
      dsimp only at *
      rw [show ((to.toNat : Nat) : Int) = to by omega]
    · rfl
theorem view_self {cells : List Int} {fs : List LFunc} (h : WF cells fs []) {bls : List (List Lsited)} {fst : List Int} (hb : All2 (fun f a => All2 sitedOk f.2.2.2 a) fs bls) (hf : fst.length = fs.length) : View fs (fs, bls, fst) (fun _ b => b) := by
  refine ⟨fun f F hF => ⟨F, hF, rfl⟩, fun f F hF => ?_, fun f F b B hF hB => ?_, fun f F hF => rfl⟩
  · have := (List.getElem?_eq_some_iff.1 hF).1
    have hq : f < fst.length := by omega
    exact ⟨fst[f], List.getElem?_eq_getElem (l := fst) hq⟩
  · obtain ⟨bl, h1, h2⟩ := hb.get hF
    obtain ⟨s, h3, h4⟩ := h2.get hB
    obtain ⟨ok, _⟩ := h.funcs f F hF
    have okb := ok.each B (List.mem_of_getElem? hB)
    obtain ⟨q1, q2, q3⟩ := h4
    exact ⟨bl, s.2.1, h1, by rw [h3, endV_id okb.fin, ← q1, ← q3], q2⟩
theorem view_laid {cells : List Int} {fs fs' : List LFunc} (h : WF cells fs []) (hl : All2 LaidS fs fs') {bls : List (List Lsited)} {fst : List Int} (hb : All2 (fun f a => All2 sitedOk f.2.2.2 a) fs' bls) (hf : fst.length = fs'.length) : ∃ pb, View fs (fs', bls, fst) pb := by
  have hlen := hl.length
  have hp : ∀ f : Nat, ∃ p : List Int, ∀ F F', fs[f]? = some F → fs'[f]? = some F' → Laid F F' p := fun f => by
    cases hF : fs[f]? with
    | none => exact ⟨[], fun F F' h => by cases h⟩
    | some F =>
      obtain ⟨F', h1, p, h2⟩ := hl.get hF
      exact ⟨p, fun G G' hG hG' => by rw [h1] at hG'; cases hG; cases hG'; exact h2⟩
  let pp : Nat → List Int := fun f => Classical.choose (hp f)
  have hpp : ∀ (f : Nat) F F', fs[f]? = some F → fs'[f]? = some F' → Laid F F' (pp f) := fun f => Classical.choose_spec (hp f)
  refine ⟨fun f b => ((pp f).getD b 0).toNat, fun f F hF => ?_, fun f F hF => ?_, fun f F b B hF hB => ?_, fun f F hF => ?_⟩
  · obtain ⟨F', h1, _⟩ := hl.get hF
    exact ⟨F', h1, (hpp f F F' hF h1).regs⟩
  · have := (List.getElem?_eq_some_iff.1 hF).1
    have hq : f < fst.length := by omega
    exact ⟨fst[f], List.getElem?_eq_getElem (l := fst) hq⟩
  · obtain ⟨F', h1, _⟩ := hl.get hF
    have ld := hpp f F F' hF h1
    obtain ⟨bl, g1, g2⟩ := hb.get h1
    have hlt := (List.getElem?_eq_some_iff.1 hB).1
    obtain ⟨i, p1, p2, p3⟩ := ld.place b hlt
    obtain ⟨s, g3, g4⟩ := g2.get (p3 B hB)
    obtain ⟨q1, q2, q3⟩ := g4
    obtain ⟨ok, _⟩ := h.funcs f F hF
    have okb := ok.each B (List.mem_of_getElem? hB)
    have pv : ∀ v : Int, reg F.2.2.2.length v → (((((pp f).getD v.toNat 0).toNat : Nat) : Int)) = (pp f).getD v.toNat 0 := fun v hv => by
      unfold reg at hv
      obtain ⟨j, r1, r2, _⟩ := ld.place v.toNat (by omega)
      simp only [List.getD, r1, Option.getD_some]
      omega
    have e : endV (fun b => ((pp f).getD b 0).toNat) B.2 = relP (pp f) B.2 := by
      obtain ⟨op, a, t, el⟩ := okb.fin
      unfold endV relP
      split
      · rename_i h2
        rw [if_neg (by omega)] at t
        rw [if_pos h2] at el
        rw [pv _ t, pv _ el]
      · split
        · rw [if_neg (by omega)] at t
          rw [pv _ t]
        · rfl
    refine ⟨bl, s.2.1, g1, ?_, q2⟩
    show bl[((pp f).getD b 0).toNat]? = some (B.1, s.2.1, endV (fun b => ((pp f).getD b 0).toNat) B.2)
    rw [e]
    simp only [List.getD, p1, Option.getD_some, Int.toNat_natCast]
    rw [g3]
    obtain ⟨s1, s2, s3⟩ := s
    dsimp only at q1 q3 ⊢
    rw [q1, q3]
  · obtain ⟨F', h1, _⟩ := hl.get hF
    have ld := hpp f F F' hF h1
    show ((pp f).getD 0 0).toNat = 0
    simp only [List.getD, ld.zero, Option.getD_some]
    rfl
/-! ### The start -/
theorem start_val (hK : 2000 ≤ K) {cells : List Int} {fs : List LFunc} {args inp : List Int} (h : WF cells fs []) {p : Nat} {F : LFunc} (hF : fs[p]? = some F) (ha : ((args.length : Nat) : Int) = F.2.1) (hin : inp.length ≤ 1000) (pbv : ∀ bls fst, All2 (fun f a => All2 sitedOk f.2.2.2 a) fs bls → fst.length = fs.length → ∃ gs pb, View gs (fs, bls, fst) pb ∧ gs[p]? = some F) :
    ∃ bls fst la, All2 (fun f a => All2 sitedOk f.2.2.2 a) fs bls ∧ fst.length = fs.length ∧ la.length = F.2.2.1.toNat ∧
      vm_Start.f K cells fs [] ((p : Nat) : Int) args inp = some (Err.nil, some (fs, bls, fst), inp, 0, 0, cells, [], [(((p : Nat) : Int), 0, 0, 0, 0)], [regsOf F args], [la]) := by
  obtain ⟨ok, _⟩ := h.funcs p F hF
  have hc := h.ncells
  have hcnt := h.count
  have hr := ok.regs
  have hlt := (List.getElem?_eq_some_iff.1 hF).1
  obtain ⟨bls, fst, r1, r2, r3⟩ := vready_val (K := K) hK h.fits
  obtain ⟨gs, pb, v, hg⟩ := pbv bls fst r2 r3
  obtain ⟨la, f1, f2⟩ := frame_val (K := K) hK v hg (by omega) hr.2.1 args
  refine ⟨bls, fst, la, r2, r3, f2, ?_⟩
  unfold vm_Start.f
  have e1 : decide (((([] : List LImport).length : Nat) : Int) > (0 : Int)) = false := by simp
  have e2 : decide (((p : Nat) : Int) < (0 : Int)) = false := by simp
  have e3 : decide (((p : Nat) : Int) ≥ ((fs.length : Nat) : Int)) = false := by simp; omega
  have e4 : (((args.length : Nat) : Int) != F.2.1) = false := by simp [ha]
  simp only [icheck_val hK h, some_bind, Err.isNil, Bool.not_true, cond_true, cond_false, e1, e2, e3, bindC_def, ge0, Int.toNat_natCast, hF, e4, copyo_val hK (cells := cells) (fs := fs) (is := []) (by omega) (by simp) h.fits, r1, cloneI64_val (K := K) (l := inp) (by omega), f1]
  rfl
/-! ### The run -/
theorem nums_l0 {l : List Int} (hl : l.length ≤ 100000) : ∀ (l2 l1 : List Int) (k : Nat), l = l1 ++ l2 → l2.length < k → avermentlaw07_Nums.l0.f K k l l ((l1.length : Nat) : Int) = some (.inl ())
  | l2, l1, 0, h, hk => by omega
  | [], l1, k + 1, h, hk => by
    rw [avermentlaw07_Nums.l0.f]
    simp only [lt_end h, cond_false]
  | x :: l2, l1, k + 1, h, hk => by
    rw [avermentlaw07_Nums.l0.f]
    have hl1 : l1.length ≤ 100000 := by rw [h] at hl; simp at hl; omega
    simp only [lt_mid h, ge0, at_mid h, cond_true, some_bind, bne_self_eq_false, cond_false, wrap_next (l1 := l1) (x := x) (by omega)]
    exact nums_l0 hl l2 (l1 ++ [x]) k (mid_next h) (by simp at hk; omega)
theorem nums_val (hK : 2000 ≤ K) {l : List Int} (hl : l.length ≤ 1000) : avermentlaw07_Nums.f K l l = some true := by
  unfold avermentlaw07_Nums.f
  have : avermentlaw07_Nums.l0.f K K l l (0 : Int) = some (.inl ()) := nums_l0 (by omega) l [] K rfl (by omega)
  simp only [bne_self_eq_false, cond_false, this, some_bind, Sum.elim_inl]
/-- How a machine stands between two steps. -/
def Stand (fs : List LFunc) (regs : List (List Int)) (ll : List Nat) (how : Int) (F : List Fr) : Prop := how = 0 → ∃ F0 x, F = F0 ++ [x] ∧ Inv fs regs ll F0 x
theorem run_l1 (hK : 2000 ≤ K) {fs : List LFunc} {nc : Nat} (hnc : nc ≤ 1000) (hfs : ∀ (f : Nat) F, fs[f]? = some F → okFunc nc (arities fs []) F) (har : ∀ v ∈ arities fs [], v ≤ 4) {P1 P2 P3 : Lprogram} {pb1 pb2 pb3 : Nat → Nat → Nat} (v1 : View fs P1 pb1) (v2 : View fs P2 pb2) (v3 : View fs P3 pb3) :
    ∀ (k n : Nat) (inp cells out : List Int) (how res : Int) (regs : List (List Int)) (ll : List Nat) (F : List Fr) (last1 last2 last3 : List (List Int)), 150 < n + k → n ≤ 150 → cells.length = nc → inp.length ≤ 1000 → out.length ≤ n → last1.map (·.length) = ll → last2.map (·.length) = ll → last3.map (·.length) = ll → Stand fs regs ll how F →
    ∃ (inp' cells' out' : List Int) (how' res' : Int) (regs' : List (List Int)) (g1 g2 g3 : List CFr) (m1 m2 m3 : List (List Int)), avermenttop_AvermentRuns.l1.f K k ((n : Nat) : Int) (some P1) inp how res (some P2) inp how res (some P3) inp how res cells out (F.map (encF pb1)) cells out (F.map (encF pb2)) cells out (F.map (encF pb3)) regs last1 regs last2 regs last3 =
      some (.inl (inp', how', res', inp', how', res', inp', how', res', cells', out', g1, cells', out', g2, cells', out', g3, regs', m1, regs', m2, regs', m3)) ∧ inp'.length ≤ 1000 ∧ cells'.length ≤ 1000 ∧ out'.length ≤ 1000
  | 0, n, inp, cells, out, how, res, regs, ll, F, last1, last2, last3, hk, hn, hc, hi, ho, h1, h2, h3, hs => by omega
  | k + 1, n, inp, cells, out, how, res, regs, ll, F, last1, last2, last3, hk, hn, hc, hi, ho, h1, h2, h3, hs => by
    rw [avermenttop_AvermentRuns.l1.f]
    by_cases hlt : n < 150
    · have e : decide (((n : Nat) : Int) < (150 : Int)) = true := by simp; omega
      have w : IntKind.i64.wrap (((n : Nat) : Int) + (1 : Int)) = ((n + 1 : Nat) : Int) := by rw [wrap64_of (by omega) (by omega)]; simp
      by_cases h0 : how = 0
      · subst h0
        obtain ⟨F0, x, rfl, inv⟩ := hs rfl
        obtain ⟨ok, how', res', inp', cells', out', regs', ll', Fs', st, c1, c2, c3, c4⟩ := step_sim (K := K) (nc := 0) hK (cells := cells) (inp := inp) (out := out) (res := res) (by rw [hc]; exact hfs) har inv (by omega) (by omega)
        obtain ⟨m1, s1, t1⟩ := st P1 pb1 v1 last1 h1
        obtain ⟨m2, s2, t2⟩ := st P2 pb2 v2 last2 h2
        obtain ⟨m3, s3, t3⟩ := st P3 pb3 v3 last3 h3
        simp only [e, cond_true, s1, s2, s3, some_bind, beq_self_eq_true, bne_self_eq_false, Bool.not_true, cond_false, vm_Machine_How.f, w]
        cases ok with
        | false => exact ⟨inp', cells', out', how', res', regs', _, _, _, m1, m2, m3, rfl, by omega, by omega, by omega⟩
        | true =>
          simp only [Bool.not_true, cond_false]
          exact run_l1 hK hnc hfs har v1 v2 v3 k (n + 1) inp' cells' out' how' res' regs' ll' Fs' m1 m2 m3 (by omega) (by omega) (by omega) (by omega) (by omega) t1 t2 t3 (fun hh => (c4 hh).2)
      · have b0 : (how != 0) = true := by simp [h0]
        have st : ∀ P frames last, vm_Machine_Step.f K (some P) inp how res cells out frames regs last = some (false, inp, how, res, cells, regs, last, out, frames) := fun P frames last => by
          unfold vm_Machine_Step.f
          simp only [bindC_def, some_bind, b0, cond_true]
        simp only [e, cond_true, st, some_bind, beq_self_eq_true, bne_self_eq_false, Bool.not_true, cond_false, vm_Machine_How.f, w, Bool.not_false]
        exact ⟨inp, cells, out, how, res, regs, _, _, _, last1, last2, last3, rfl, by omega, by omega, by omega⟩
    · have e : decide (((n : Nat) : Int) < (150 : Int)) = false := by simp; omega
      simp only [e, cond_false]
      exact ⟨inp, cells, out, how, res, regs, _, _, _, last1, last2, last3, rfl, by omega, by omega, by omega⟩
theorem fewF_fits {fs : List LFunc} : fits ((fs.take 30).map fewF) := by
  refine ⟨by simp; omega, fun f hf => ?_⟩
  obtain ⟨g, hg, rfl⟩ := List.mem_map.1 hf
  refine ⟨by simp [fewF]; omega, fun b hb => ?_⟩
  obtain ⟨c, hc, rfl⟩ := List.mem_map.1 (show b ∈ (g.2.2.2.take 14).map fewB from hb)
  refine ⟨by simp [fewB]; omega, fun x hx => ?_⟩
  obtain ⟨y, hy, rfl⟩ := List.mem_map.1 (show x ∈ (c.1.take 14).map fewI from hx)
  simp [fewI]; omega
theorem fewF_wide {cells : List Int} {fs : List LFunc} (h : wide cells fs) : wide (cells.take 20) ((fs.take 30).map fewF) := by
  refine ⟨fun c hc => h.1 c (List.mem_of_mem_take hc), fun f hf b hb x hx => ?_⟩
  obtain ⟨g, hg, rfl⟩ := List.mem_map.1 hf
  obtain ⟨c, hc, rfl⟩ := List.mem_map.1 (show b ∈ (g.2.2.2.take 14).map fewB from hb)
  obtain ⟨y, hy, rfl⟩ := List.mem_map.1 (show x ∈ (c.1.take 14).map fewI from hx)
  exact h.2 g (List.mem_of_mem_take hg) c (List.mem_of_mem_take hc) y (List.mem_of_mem_take hy)
theorem runs_law (hK : 2000 ≤ K) (a0 : List Int) (a1 : List LFunc) (a2 : List LImport) (a3 : Int) (a4 a5 : List Int) (hw : wide a0 a1) : avermenttop_AvermentRuns.f K a0 a1 a2 a3 a4 a5 = some true := by
  unfold avermenttop_AvermentRuns.f
  have hfit := fewF_fits (fs := a1)
  have hwide := fewF_wide hw
  have hl : ((a1.take 30).map fewF).length + (a2.take 30).length ≤ 1000 := by simp; omega
  obtain ⟨b, r1, r2⟩ := ready_ok (K := K) hK (cells := a0.take 20) hl hfit a3 (a4.take 8)
  simp only [few7_val (K := K) (by omega), some_bind, runs_val hK, Bool.not_true, cond_false, r1, bindC_def]
  cases b with
  | false => simp only [Bool.not_false, cond_true]
  | true =>
    simp only [Bool.not_true, cond_false]
    obtain ⟨wf, hi, hp0, F, hF, harg⟩ := r2 rfl
    generalize hcells : a0.take 20 = cells at *
    generalize hfs : (a1.take 30).map fewF = fs at *
    generalize his : a2.take 30 = is at *
    generalize hargs : a4.take 8 = args at *
    have hin : (a5.take 40).length ≤ 40 := by simp; omega
    generalize hinp : a5.take 40 = inp at *
    subst hi
    obtain ⟨p, rfl⟩ : ∃ p : Nat, a3 = p := ⟨a3.toNat, by omega⟩
    rw [Int.toNat_natCast] at hF
    have hc := wf.ncells
    have hcnt := wf.count
    obtain ⟨bs, w1, w2⟩ := round_trip (K := K) hK wf hwide
    obtain ⟨fs', l1, l2⟩ := relaidAll (K := K) hK (nc := cells.length) (ar := arities fs []) wf.ar_le fs [] K (by simp at hcnt ⊢; omega) (by simp at hcnt ⊢; omega) (fun f hf => by
      obtain ⟨i, hi⟩ := List.mem_iff_getElem?.1 hf
      exact (wf.funcs i f hi).1)
    have wf' := wf.laid l2
    obtain ⟨F', hF', pF, lF⟩ := l2.get hF
    obtain ⟨bls1, fst1, la1, x1, x2, x3, x4⟩ := start_val (K := K) hK (args := args) (inp := inp) wf hF harg (by omega) (fun bls fst h1 h2 => ⟨fs, _, view_self wf h1 h2, hF⟩)
    obtain ⟨bls3, fst3, la3, y1, y2, y3, y4⟩ := start_val (K := K) hK (args := args) (inp := inp) wf' hF' (by rw [lF.arity]; exact harg) (by omega) (fun bls fst h1 h2 => ⟨fs', _, view_self wf' h1 h2, hF'⟩)
    have v1 := view_self wf x1 x2
    obtain ⟨pb3, v3⟩ := view_laid wf l2 y1 y2
    have l1' : avermenttop_AvermentRuns.l0.f K K (0 : Int) fs = some fs' := l1
    have hreg : regsOf F' args = regsOf F args := by unfold regsOf; rw [lF.regs]
    rw [hreg] at y4
    obtain ⟨okF, _⟩ := wf.funcs p F hF
    have hrF := okF.regs
    have hbF := okF.blocks
    have hb0 : 0 < F.2.2.2.length := by omega
    have top : FrOk fs [regsOf F args] [F.2.2.1.toNat] (p, 0, 0, 0, 0) F F.2.2.2[0] (regsOf F args) :=
      ⟨hF, List.getElem?_eq_getElem hb0, Nat.zero_le _, rfl, by rw [regsOf_len]; omega, by rw [regsOf_len]; rfl, (okF.each _ (List.getElem_mem hb0)).len⟩
    have stand : Stand fs [regsOf F args] [F.2.2.1.toNat] 0 [(p, 0, 0, 0, 0)] := fun _ => ⟨[], (p, 0, 0, 0, 0), rfl, ⟨⟨_, _, _, top⟩, fun y hy => by simp at hy, by simp⟩⟩
    obtain ⟨inp', cells', out', how', res', regs', g1, g2, g3, m1, m2, m3, z1, z2, z3, z4⟩ := run_l1 (K := K) hK (fs := fs) (nc := cells.length) (by omega) (fun f F hF => (wf.funcs f F hF).1) wf.ar_le v1 v1 v3 K 0 inp cells [] 0 0 [regsOf F args] [F.2.2.1.toNat] [(p, 0, 0, 0, 0)] [la1] [la1] [la3] (by omega) (by omega) rfl (by omega) (by simp) (by simp [x3]) (by simp [x3]) (by simp [y3, lF.regs]) stand
    have ez : pb3 p 0 = 0 := v3.zero p F hF
    have z1' : avermenttop_AvermentRuns.l1.f K K (0 : Int) (some (fs, bls1, fst1)) inp 0 0 (some (fs, bls1, fst1)) inp 0 0 (some (fs', bls3, fst3)) inp 0 0 cells [] [(((p : Nat) : Int), 0, 0, 0, 0)] cells [] [(((p : Nat) : Int), 0, 0, 0, 0)] cells [] [(((p : Nat) : Int), 0, 0, 0, 0)] [regsOf F args] [la1] [regsOf F args] [la1] [regsOf F args] [la3] =
        some (.inl (inp', how', res', inp', how', res', inp', how', res', cells', out', g1, cells', out', g2, cells', out', g3, regs', m1, regs', m2, regs', m3)) := by
      have q3 : [((p, 0, 0, 0, 0) : Fr)].map (encF pb3) = [(((p : Nat) : Int), 0, 0, 0, 0)] := by simp [encF, ez]
      rw [q3] at z1
      exact z1
    simp only [to_val hK (a0 := cells) (a1 := fs) (a2 := []) (by omega) hfit (by simp), some_bind, w1, w2, copyo_val hK (cells := cells) (fs := fs) (is := []) (by omega) (by simp) hfit, l1', x4, y4, Err.isNil, Bool.not_true, cond_true, cond_false, z1', Sum.elim_inl]
    unfold vm_Machine_Result.f vm_Machine_Out.f vm_Machine_Cells.f vm_Machine_Left.f
    simp only [bindC_def, some_bind, cond_some, beq_self_eq_true, cond_true, cloneI64i_val (K := K) (l := out') (by omega), cloneI64i_val (K := K) (l := cells') (by omega), cloneI64_val (K := K) (l := inp') (by omega), nums_val hK z2, nums_val hK z3, nums_val hK z4]
end Go.Proofs.YtdjkdmjdcdljmaaGreat.AR
