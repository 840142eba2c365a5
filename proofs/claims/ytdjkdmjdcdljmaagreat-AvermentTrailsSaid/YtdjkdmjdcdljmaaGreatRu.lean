/- Own work. No condition. -/
import Derived.Test.YtdjkdmjdcdljmaaGreatRt

namespace Go.Proofs.YtdjkdmjdcdljmaaGreat.AT
open Go.Proofs.YtdjkdmjdcdljmaaGreatX
set_option linter.unusedVariables false
set_option linter.unusedSimpArgs false
set_option maxRecDepth 100000
set_option maxHeartbeats 4000000
variable {K : Nat}

structure Goes (fs : List LFunc) (ll : List Nat) (run : Lprogram → (Nat → Nat → Nat) → List (List Int) → Option (Bool × List Int × List Int × List (List Int) × List (List Int) × List Int × List CFr))
    (ok : Bool) (inp' cells' out' : List Int) (regs' : List (List Int)) (ll' : List Nat) (Fs' : List Fr) : Prop where
  run : ∀ P pb, View fs P pb → ∀ last, last.map (·.length) = ll → ∃ last', run P pb last = some (ok, inp', cells', regs', last', out', Fs'.map (encF pb)) ∧ last'.map (·.length) = ll'
theorem map_last {pb : Nat → Nat → Nat} {F0 : List Fr} {x : Fr} : (F0 ++ [x]).map (encF pb) = F0.map (encF pb) ++ [encF pb x] := by simp
theorem set_lastF {pb : Nat → Nat → Nat} {F0 : List Fr} {z y : CFr} : (F0.map (encF pb) ++ [z]).set F0.length y = F0.map (encF pb) ++ [y] := by
  have := set_last (l := F0.map (encF pb)) (x := z) (y := y); rwa [List.length_map] at this
theorem get_lastF {pb : Nat → Nat → Nat} {F0 : List Fr} {z : CFr} : (F0.map (encF pb) ++ [z])[F0.length]? = some z := by
  have := get_last (l := F0.map (encF pb)) (x := z); rwa [List.length_map] at this
theorem insn_sim (hK : 2000 ≤ K) {fs : List LFunc} {nc : Nat} {ar : List Int} {cells inp out : List Int} {regs : List (List Int)} {ll : List Nat} {F0 : List Fr} {x : Fr} {F : LFunc} {B : LBlock} {rl : List Int} {I : LInsn} (ok : FrOk fs regs ll x F B rl) (hI : B.1[x.2.2.1]? = some I)
    (hok : okInsn cells.length (arities fs []) F.2.2.1 I) (hfs : ∀ (f : Nat) F, fs[f]? = some F → okFunc nc ar F) (har : ∀ v ∈ arities fs [], v ≤ 4) (inv : Inv fs regs ll F0 x) (hin : inp.length ≤ 100000) (hout : out.length ≤ 1000) :
    ∃ okb inp' cells' out' regs' ll' Fs', Goes fs ll (fun P pb last => vm_Machine_insn.f K F0.length I.1 I.2.1 I.2.2.1 I.2.2.2.1 I.2.2.2.2.1 I.2.2.2.2.2 (some P) inp cells out (F0.map (encF pb) ++ [encF pb x]) regs last) okb inp' cells' out' regs' ll' Fs' ∧
      cells'.length = cells.length ∧ inp'.length ≤ inp.length ∧ out'.length ≤ out.length + 1 ∧ (okb = true → ∃ F0' x', Fs' = F0' ++ [x'] ∧ Inv fs regs' ll' F0' x') := by
  have hlt := (List.getElem?_eq_some_iff.1 hI).1
  have hsm := ok.small
  have hargs := argsLen hok har
  obtain ⟨op, d, a, b, n, args⟩ := I
  have hok' := hok
  obtain ⟨⟨o1, o2⟩, hd, ha, hb, hn, hg⟩ := hok
  dsimp only at *
  have w : IntKind.i64.wrap (((x.2.2.1 : Nat) : Int) + (1 : Int)) = ((x.2.2.1 + 1 : Nat) : Int) := by rw [wrap64_of (by omega) (by omega)]; simp
  have next : FrOk fs regs ll (x.1, x.2.1, x.2.2.1 + 1, x.2.2.2) F B rl := ⟨ok.fn, ok.bl, hlt, ok.rg, ok.rlen, ok.ls, ok.small⟩
  have invn : Inv fs regs ll F0 (x.1, x.2.1, x.2.2.1 + 1, x.2.2.2) := ⟨⟨F, B, rl, next⟩, inv.outer, inv.depth⟩
  by_cases h17 : op = 17
  · subst h17
    rw [if_neg (by decide), if_neg (by decide), if_pos rfl] at hb
    rw [if_pos rfl] at hg
    obtain ⟨⟨b1, b2⟩, b3⟩ := hb
    have hal : (arities fs []).length = fs.length := by simp
    obtain ⟨m, rfl⟩ : ∃ m : Nat, b = m := ⟨b.toNat, by omega⟩
    have hm : m < fs.length := by omega
    have hF' := List.getElem?_eq_getElem hm
    have okf := hfs m _ hF'
    have hreg := okf.regs
    have hblk := okf.blocks
    by_cases h64 : F0.length + 1 = 64
    · refine ⟨false, inp, cells, out, regs, ll, F0 ++ [x], ⟨fun P pb v last hll => ⟨last, ?_, hll⟩⟩, rfl, Nat.le_refl _, by omega, fun h => by cases h⟩
      unfold vm_Machine_insn.f vm_Machine_call.f
      have e : ((((F0.map (encF pb) ++ [encF pb x]).length : Nat) : Int) == (64 : Int)) = true := by simp; omega
      simp only [show ((17 : Int) == 17) = true from rfl, cond_true, e, some_bind, map_last]
    · have hd64 := inv.depth
      have hb0 : 0 < fs[m].2.2.2.length := by omega
      have newOk : FrOk fs (regs ++ [regsOf fs[m] (args.map fun a => rl.getD a.toNat 0)]) (ll ++ [fs[m].2.2.1.toNat]) (m, 0, 0, regs.length, ll.length) fs[m] fs[m].2.2.2[0] (regsOf fs[m] (args.map fun a => rl.getD a.toNat 0)) :=
        ⟨hF', List.getElem?_eq_getElem hb0, Nat.zero_le _, by simp, by rw [regsOf_len]; omega, by rw [regsOf_len]; simp, (okf.each _ (List.getElem_mem hb0)).len⟩
      refine ⟨true, inp, cells, out, regs ++ [regsOf fs[m] (args.map fun a => rl.getD a.toNat 0)], ll ++ [fs[m].2.2.1.toNat], (F0 ++ [x]) ++ [(m, 0, 0, regs.length, ll.length)], ⟨fun P pb v last hll => ?_⟩, rfl, Nat.le_refl _, by omega, fun _ => ⟨F0 ++ [x], _, rfl, ⟨⟨_, _, _, newOk⟩, fun y hy => ?_, by simp; omega⟩⟩⟩
      · obtain ⟨la, f1, f2⟩ := frame_val (K := K) hK v hF' (by omega) hreg.2.1 (args.map fun a => rl.getD a.toNat 0)
        have hll' : last.length = ll.length := by rw [← hll, List.length_map]
        refine ⟨last ++ [la], ?_, by rw [List.map_append, hll]; simp [f2]⟩
        unfold vm_Machine_insn.f vm_Machine_call.f
        have e : ((((F0.map (encF pb) ++ [encF pb x]).length : Nat) : Int) == (64 : Int)) = false := beq_eq_false_iff_ne.2 (by simp; omega)
        have c := call_l0 (K := K) ok (l := args) (by omega) hg pb (F0.map (encF pb)) args [] K [] rfl (by omega) rfl
        rw [List.length_map] at c
        have c' : vm_Machine_call.l0.f K K F0.length args ((args.length : Nat) : Int) (0 : Int) (F0.map (encF pb) ++ [encF pb x]) regs [] = some (args.map fun a => rl.getD a.toNat 0) := c
        have e4 : Nat.ble ((F0.map (encF pb) ++ [encF pb x]).length + [(((m : Nat) : Int), (0 : Int), (0 : Int), regs.length, last.length)].length) 100000 = true := Nat.ble_eq_true_of_le (by simp; omega)
        simp only [show ((17 : Int) == 17) = true from rfl, cond_true, e, cond_false, some_bind, c', f1, e4]
        have z := v.zero m _ hF'
        simp only [List.map_append, List.map_cons, List.map_nil, encF, z, hll']
        rfl
      · rcases List.mem_append.1 hy with hy | hy
        · obtain ⟨F2, B2, rl2, I2, q1, q2, q3⟩ := inv.outer y hy
          exact ⟨F2, B2, rl2, I2, q1.more _ _, q2, q3⟩
        · simp at hy
          subst hy
          exact ⟨F, B, rl, _, ok.more _ _, hI, rfl⟩
  by_cases h14 : op = 14
  · subst h14
    rw [if_pos (show usesA 14 = true from rfl)] at ha
    rw [if_neg (by decide), if_pos (.inr rfl)] at hb
    unfold reg at hb
    obtain ⟨a1, a2⟩ := reg_lt ok.rlen ha
    have b1 : decide ((0 : Int) ≤ b) = true := by simp; omega
    have b2 : b.toNat < cells.length := by omega
    refine ⟨true, inp, cells.set b.toNat rl[a.toNat], out, regs, ll, F0 ++ [(x.1, x.2.1, x.2.2.1 + 1, x.2.2.2)], ⟨fun P pb v last hll => ⟨last, ?_, hll⟩⟩, by simp, Nat.le_refl _, by omega, fun _ => ⟨F0, _, rfl, invn⟩⟩
    unfold vm_Machine_insn.f
    have q1 : (encF pb x).2.2.2.1 = x.2.2.2.1 := rfl
    have q2 : (encF pb x).2.2.1 = ((x.2.2.1 : Nat) : Int) := rfl
    simp only [show ((14 : Int) == 17) = false from rfl, show ((14 : Int) == 14) = true from rfl, cond_true, cond_false, get_lastF, some_bind, q1, ok.rg, bindC_def, a1, blt_of a2, List.getElem?_eq_getElem a2, b1, blt_of b2, List.getElem?_eq_getElem b2, q2, w, set_lastF, map_last]
    rfl
  by_cases h16 : op = 16
  · subst h16
    rw [if_pos (show usesA 16 = true from rfl)] at ha
    obtain ⟨a1, a2⟩ := reg_lt ok.rlen ha
    refine ⟨true, inp, cells, out ++ [rl[a.toNat]], regs, ll, F0 ++ [(x.1, x.2.1, x.2.2.1 + 1, x.2.2.2)], ⟨fun P pb v last hll => ⟨last, ?_, hll⟩⟩, rfl, Nat.le_refl _, by simp, fun _ => ⟨F0, _, rfl, invn⟩⟩
    unfold vm_Machine_insn.f
    have q1 : (encF pb x).2.2.2.1 = x.2.2.2.1 := rfl
    have q2 : (encF pb x).2.2.1 = ((x.2.2.1 : Nat) : Int) := rfl
    have e4 : Nat.ble (out.length + [rl[a.toNat]].length) 100000 = true := Nat.ble_eq_true_of_le (by simp; omega)
    simp only [show ((16 : Int) == 17) = false from rfl, show ((16 : Int) == 14) = false from rfl, show ((16 : Int) == 16) = true from rfl, cond_true, cond_false, get_lastF, some_bind, q1, ok.rg, bindC_def, a1, blt_of a2, List.getElem?_eq_getElem a2, e4, q2, w, set_lastF, map_last]
    rfl
  · obtain ⟨r, hr1, hr2⟩ := value_val (K := K) ok (inp := inp) hok' h17 h14 h16 hin
    have uD : usesD op = true := by unfold usesD; simp; omega
    rw [if_pos uD] at hd
    have b17 := beq_eq_false_iff_ne.2 h17
    have b14 := beq_eq_false_iff_ne.2 h14
    have b16 := beq_eq_false_iff_ne.2 h16
    cases hb1 : r.2.1 with
    | true =>
      have hset : ((rl.set d.toNat r.1).length) = rl.length := by simp
      refine ⟨true, r.2.2, cells, out, regs.set x.2.2.2.1 (rl.set d.toNat r.1), ll, F0 ++ [(x.1, x.2.1, x.2.2.1 + 1, x.2.2.2)], ⟨fun P pb v last hll => ?_⟩, rfl, hr1, by omega, fun _ => ⟨F0, _, rfl, ⟨?_, fun y hy => ?_, inv.depth⟩⟩⟩
      · obtain ⟨last', s1, s2⟩ := set_val (K := K) v (frames := F0.map (encF pb) ++ [encF pb x]) (idx := F0.length) (n := r.1) get_lastF ok hlt hd hll
        refine ⟨last', ?_, s2⟩
        have hr3 := hr2 pb (F0.map (encF pb))
        rw [List.length_map] at hr3
        unfold vm_Machine_insn.f
        simp only [b17, b14, b16, cond_false, hr3, some_bind, hb1, cond_true, s1, set_lastF, map_last]
      · obtain ⟨rl', q⟩ := next.set ok.rg hset
        exact ⟨F, B, rl', q⟩
      · obtain ⟨F2, B2, rl2, I2, q1, q2, q3⟩ := inv.outer y hy
        obtain ⟨rl', q⟩ := q1.set ok.rg hset
        exact ⟨F2, B2, rl', I2, q, q2, q3⟩
    | false =>
      refine ⟨false, r.2.2, cells, out, regs, ll, F0 ++ [x], ⟨fun P pb v last hll => ⟨last, ?_, hll⟩⟩, rfl, hr1, by omega, fun h => by cases h⟩
      have hr3 := hr2 pb (F0.map (encF pb))
      rw [List.length_map] at hr3
      unfold vm_Machine_insn.f
      simp only [b17, b14, b16, cond_false, hr3, some_bind, hb1, map_last]
theorem step_sim (hK : 2000 ≤ K) {fs : List LFunc} {nc : Nat} {cells inp out : List Int} {res : Int} {regs : List (List Int)} {ll : List Nat} {F0 : List Fr} {x : Fr} (hfs : ∀ (f : Nat) F, fs[f]? = some F → okFunc cells.length (arities fs []) F) (har : ∀ v ∈ arities fs [], v ≤ 4) (inv : Inv fs regs ll F0 x) (hin : inp.length ≤ 100000) (hout : out.length ≤ 1000) :
    ∃ (ok : Bool) (how' res' : Int) (inp' cells' out' : List Int) (regs' : List (List Int)) (ll' : List Nat) (Fs' : List Fr), (∀ P pb, View fs P pb → ∀ last, last.map (·.length) = ll → ∃ last', vm_Machine_Step.f K (some P) inp 0 res cells out ((F0 ++ [x]).map (encF pb)) regs last = some (ok, inp', how', res', cells', regs', last', out', Fs'.map (encF pb)) ∧ last'.map (·.length) = ll') ∧
      cells'.length = cells.length ∧ inp'.length ≤ inp.length ∧ out'.length ≤ out.length + 1 ∧ (how' = 0 → ok = true ∧ ∃ F0' x', Fs' = F0' ++ [x'] ∧ Inv fs regs' ll' F0' x') := by
  obtain ⟨F, B, rl, ok⟩ := inv.top
  have okF := hfs _ _ ok.fn
  have okB := okF.each B (List.mem_of_getElem? ok.bl)
  have hdep := inv.depth
  -- how a step begins
  have start : ∀ (P : Lprogram) (pb : Nat → Nat → Nat) (v : View fs P pb) (last : List (List Int)), ∃ st : List Int, st.length = B.1.length ∧ vm_Machine_Step.f K (some P) inp 0 res cells out ((F0 ++ [x]).map (encF pb)) regs last = bif ((x.2.2.1 : Nat) : Int) == ((B.1.length : Nat) : Int) then
      (vm_Machine_end.f K F0.length (endV (pb x.1) B.2).1 (endV (pb x.1) B.2).2.1 (endV (pb x.1) B.2).2.2.1 (endV (pb x.1) B.2).2.2.2 (some P) 0 res (F0.map (encF pb) ++ [encF pb x]) regs last).bind fun t => some (true, inp, t.1, t.2.1, cells, t.2.2.1, t.2.2.2.1, out, t.2.2.2.2)
      else B.1[x.2.2.1]?.bind fun t_8 => (vm_Machine_insn.f K F0.length t_8.1 t_8.2.1 t_8.2.2.1 t_8.2.2.2.1 t_8.2.2.2.2.1 t_8.2.2.2.2.2 (some P) inp cells out (F0.map (encF pb) ++ [encF pb x]) regs last).bind fun t => bif !t.1 then some (false, t.2.1, (2 : Int), res, t.2.2.1, t.2.2.2.1, t.2.2.2.2.1, t.2.2.2.2.2.1, t.2.2.2.2.2.2) else some (true, t.2.1, 0, res, t.2.2.1, t.2.2.2.1, t.2.2.2.2.1, t.2.2.2.2.2.1, t.2.2.2.2.2.2) := by
    intro P pb v last
    obtain ⟨bl, st, h1, h2, h3⟩ := v.blk _ _ _ _ ok.fn ok.bl
    refine ⟨st, h3, ?_⟩
    unfold vm_Machine_Step.f
    have hi := inner_val (K := K) (l := F0.map (encF pb)) (x := encF pb x) (by simp; omega)
    rw [List.length_map] at hi
    have q1 : (encF pb x).1 = ((x.1 : Nat) : Int) := rfl
    have q2 : (encF pb x).2.1 = ((pb x.1 x.2.1 : Nat) : Int) := rfl
    have q3 : (encF pb x).2.2.1 = ((x.2.2.1 : Nat) : Int) := rfl
    simp only [map_last, bindC_def, some_bind, show ((0 : Int) != 0) = false from rfl, cond_false, hi, get_lastF, q1, q2, q3, ge0, cond_true, Int.toNat_natCast, h1, h2]
  by_cases hend : x.2.2.1 = B.1.length
  · have e0 : (((x.2.2.1 : Nat) : Int) == ((B.1.length : Nat) : Int)) = true := by simp [hend]
    by_cases h3 : B.2.1 = 3
    · rcases List.eq_nil_or_concat F0 with rfl | ⟨F1, y, rfl⟩
      · refine ⟨true, 1, rl.getD B.2.2.1.toNat 0, inp, cells, out, regs, ll, [], fun P pb v last hll => ⟨last, ?_, hll⟩, rfl, Nat.le_refl _, by omega, fun h => by cases h⟩
        obtain ⟨st, _, hs⟩ := start P pb v last
        rw [hs, e0, cond_true]
        have er := end_ret (K := K) (how := 0) (res := res) ok okB.fin h3 P pb [] last
        have er' : vm_Machine_end.f K ([] : List Fr).length (endV (pb x.1) B.2).1 (endV (pb x.1) B.2).2.1 (endV (pb x.1) B.2).2.2.1 (endV (pb x.1) B.2).2.2.2 (some P) 0 res (([] : List Fr).map (encF pb) ++ [encF pb x]) regs last = _ := er
        rw [er']
        simp only [List.nil_append, back_done, some_bind, List.map_nil]
      · simp only [List.concat_eq_append] at *
        obtain ⟨F2, B2, rl2, I2, q1, q2, q3⟩ := inv.outer y (by simp)
        have okF2 := hfs _ _ q1.fn
        have okB2 := okF2.each B2 (List.mem_of_getElem? q1.bl)
        have okI2 := okB2.insns I2 (List.mem_of_getElem? q2)
        have hD : reg F2.2.2.1 I2.2.1 := by have := okI2.d; rw [if_pos (by rw [q3]; rfl)] at this; exact this
        have hlt2 := (List.getElem?_eq_some_iff.1 q2).1
        have hset : ((rl2.set I2.2.1.toNat (rl.getD B.2.2.1.toNat 0)).length) = rl2.length := by simp
        have next2 : FrOk fs regs ll (y.1, y.2.1, y.2.2.1 + 1, y.2.2.2) F2 B2 rl2 := ⟨q1.fn, q1.bl, hlt2, q1.rg, q1.rlen, q1.ls, q1.small⟩
        refine ⟨true, 0, res, inp, cells, out, regs.set y.2.2.2.1 (rl2.set I2.2.1.toNat (rl.getD B.2.2.1.toNat 0)), ll, F1 ++ [(y.1, y.2.1, y.2.2.1 + 1, y.2.2.2)], fun P pb v last hll => ?_, rfl, Nat.le_refl _, by omega, fun _ => ⟨rfl, F1, _, rfl, ⟨?_, fun z hz => ?_, by simp at hdep ⊢; omega⟩⟩⟩
        · obtain ⟨st, _, hs⟩ := start P pb v last
          rw [hs, e0, cond_true]
          have er := end_ret (K := K) (how := 0) (res := res) ok okB.fin h3 P pb ((F1 ++ [y]).map (encF pb)) last
          rw [List.length_map] at er
          rw [er]
          obtain ⟨last', b1, b2⟩ := back_on (K := K) v (n := rl.getD B.2.2.1.toNat 0) (how := 0) (res := res) (F1 := F1.map (encF pb)) (z := encF pb x) (by simp at hdep ⊢; omega) q1 q2 hD hll
          rw [map_last, b1]
          exact ⟨last', by simp only [some_bind, map_last], b2⟩
        · obtain ⟨rl', q⟩ := next2.set q1.rg hset
          exact ⟨F2, B2, rl', q⟩
        · obtain ⟨F3, B3, rl3, I3, z1, z2, z3⟩ := inv.outer z (by simp [hz])
          obtain ⟨rl', q⟩ := z1.set q1.rg hset
          exact ⟨F3, B3, rl', I3, q, z2, z3⟩
    · obtain ⟨to, ht, hgo⟩ := end_go (K := K) (how := 0) (res := res) (last := regs) (F0 := []) (P := ([], [], [])) (pb := fun _ b => b) ok okB.fin h3
      refine ⟨true, 0, res, inp, cells, out, regs, ll, F0 ++ [(x.1, to, 0, x.2.2.2)], fun P pb v last hll => ⟨last, ?_, hll⟩, rfl, Nat.le_refl _, by omega, fun _ => ⟨rfl, F0, _, rfl, ⟨⟨F, F.2.2.2[to], rl, ⟨ok.fn, List.getElem?_eq_getElem ht, Nat.zero_le _, ok.rg, ok.rlen, ok.ls, (okF.each _ (List.getElem_mem ht)).len⟩⟩, inv.outer, inv.depth⟩⟩⟩
      obtain ⟨st, _, hs⟩ := start P pb v last
      rw [hs, e0, cond_true]
      have g := hgo P pb (F0.map (encF pb)) last
      rw [List.length_map] at g
      rw [g]
      simp only [some_bind, map_last]
  · have e0 : (((x.2.2.1 : Nat) : Int) == ((B.1.length : Nat) : Int)) = false := beq_eq_false_iff_ne.2 (by omega)
    have hlt : x.2.2.1 < B.1.length := by have := ok.at_; omega
    have hI := List.getElem?_eq_getElem hlt
    obtain ⟨okb, inp', cells', out', regs', ll', Fs', g, c1, c2, c3, c4⟩ := insn_sim (K := K) hK (cells := cells) (inp := inp) (out := out) ok hI (okB.insns _ (List.getElem_mem hlt)) hfs har inv hin hout
    cases okb with
    | true =>
      refine ⟨true, 0, res, inp', cells', out', regs', ll', Fs', fun P pb v last hll => ?_, c1, c2, c3, fun _ => ⟨rfl, c4 rfl⟩⟩
      obtain ⟨st, _, hs⟩ := start P pb v last
      obtain ⟨last', g1, g2⟩ := g.run P pb v last hll
      refine ⟨last', ?_, g2⟩
      rw [hs, e0, cond_false, hI, some_bind]
      rw [g1]
      rfl
    | false =>
      refine ⟨false, 2, res, inp', cells', out', regs', ll', Fs', fun P pb v last hll => ?_, c1, c2, c3, fun h => by cases h⟩
      obtain ⟨st, _, hs⟩ := start P pb v last
      obtain ⟨last', g1, g2⟩ := g.run P pb v last hll
      refine ⟨last', ?_, g2⟩
      rw [hs, e0, cond_false, hI, some_bind]
      rw [g1]
      rfl
end Go.Proofs.YtdjkdmjdcdljmaaGreat.AT
