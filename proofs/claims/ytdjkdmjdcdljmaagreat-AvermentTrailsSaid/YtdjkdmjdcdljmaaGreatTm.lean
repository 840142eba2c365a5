/- Own work. No condition. -/
import Derived.Test.YtdjkdmjdcdljmaaGreatTk
import Derived.Test.YtdjkdmjdcdljmaaGreatRw

namespace Go.Proofs.YtdjkdmjdcdljmaaGreat.AT
open Go.RowKit Go.Proofs.YtdjkdmjdcdljmaaGreatX Go.Proofs.YtdjkdmjdcdljmaaGreat.Sr
set_option linter.unusedVariables false
set_option linter.unusedSimpArgs false
set_option maxRecDepth 100000
set_option maxHeartbeats 1000000
variable {K : Nat}

theorem factAny_val : fact_Any.f K = some (7, false, 0, -9223372036854775808, 9223372036854775807, 3) := rfl
theorem anyE_l0 {cells : List Int} (hl : cells.length ≤ 1000) : ∀ (l2 l1 : List Int) (k : Nat), cells = l1 ++ l2 → l2.length < k → avermenttop_anyEnv.l0.f K k ((l1.length : Nat) : Int) cells (List.replicate l1.length anyVV.enc) = some (List.replicate cells.length anyVV.enc)
  | l2, l1, 0, h, hk => by omega
  | [], l1, k + 1, h, hk => by
    rw [avermenttop_anyEnv.l0.f]
    simp only [lt_end h, cond_false]
    have e : cells = l1 := by simpa using h
    rw [e]
  | x :: l2, l1, k + 1, h, hk => by
    rw [avermenttop_anyEnv.l0.f]
    have hl1 : l1.length ≤ 1000 := by rw [h] at hl; simp at hl; omega
    have e4 : Nat.ble ((List.replicate l1.length anyVV.enc).length + [((7 : Int), (false, (0 : Int)), ((-9223372036854775808 : Int), (9223372036854775807 : Int)), (3 : Int))].length) 100000 = true := Nat.ble_eq_true_of_le (by simp; omega)
    simp only [lt_mid h, cond_true, factAny_val, some_bind, e4, wrap_next (l1 := l1) (x := x) (by omega)]
    have := anyE_l0 hl l2 (l1 ++ [x]) k (mid_next h) (by simp at hk; omega)
    rw [show List.replicate (l1 ++ [x]).length anyVV.enc = List.replicate l1.length anyVV.enc ++ [anyVV.enc] by rw [List.length_append, List.length_singleton, List.replicate_succ']] at this
    exact this
theorem anyE_l2 {fs : List LFunc} (hfl : fs.length ≤ 1000) {i : Nat} (hi : i ≤ 1000) (har : ∀ v ∈ arities fs [], v ≤ 4) : ∀ (m k : Nat) (acc : List LValue), 4 - acc.length ≤ m → m < k → acc.length ≤ 4 → ∃ r, avermenttop_anyEnv.l2.f K k ((i : Nat) : Int) ((acc.length : Nat) : Int) fs [] acc = some r
  | m, 0, acc, h, hk, ha => by omega
  | m, k + 1, acc, h, hk, ha => by
    rw [avermenttop_anyEnv.l2.f]
    simp only [arity_val (K := K) (fs := fs) (is := []) (i := ((i : Nat) : Int)) (by simp; omega) (by omega), some_bind]
    by_cases hlt : ((acc.length : Nat) : Int) < arI (arities fs []) ((i : Nat) : Int)
    · have ha4 : arI (arities fs []) ((i : Nat) : Int) ≤ 4 := by
        unfold arI
        split
        · split
          · rename_i v hv; exact har v (List.mem_of_getElem? hv)
          · omega
        · omega
      have e4 : Nat.ble (acc.length + [((7 : Int), (false, (0 : Int)), ((-9223372036854775808 : Int), (9223372036854775807 : Int)), (3 : Int))].length) 100000 = true := Nat.ble_eq_true_of_le (by simp; omega)
      have w : IntKind.i64.wrap (((acc.length : Nat) : Int) + (1 : Int)) = (((acc ++ [((7 : Int), (false, (0 : Int)), ((-9223372036854775808 : Int), (9223372036854775807 : Int)), (3 : Int))]).length : Nat) : Int) := by rw [wrap64_of (by omega) (by omega)]; simp
      simp only [decide_eq_true hlt, cond_true, factAny_val, some_bind, e4, w]
      exact anyE_l2 hfl hi har (m - 1) k _ (by simp; omega) (by omega) (by simp; omega)
    · simp only [decide_eq_false hlt, cond_false]
      exact ⟨_, rfl⟩
theorem anyE_l1 (hK : 2000 ≤ K) {fs : List LFunc} (hl : fs.length ≤ 1000) (har : ∀ v ∈ arities fs [], v ≤ 4) : ∀ (l2 l1 : List LFunc) (k : Nat) (acc : List LSum), fs = l1 ++ l2 → l2.length < k → acc.length = l1.length → (∀ s ∈ acc, anyS s) → ∃ es, avermenttop_anyEnv.l1.f K k ((l1.length : Nat) : Int) fs [] acc = some es ∧ es.length = fs.length ∧ ∀ s ∈ es, anyS s
  | l2, l1, 0, acc, h, hk, hacc, ha => by omega
  | [], l1, k + 1, acc, h, hk, hacc, ha => by
    rw [avermenttop_anyEnv.l1.f]
    have hw : IntKind.i64.wrap (((fs.length : Nat) : Int) + ((([] : List LImport).length : Nat) : Int)) = ((fs.length : Nat) : Int) := by rw [wrap64_of (by simp <;> omega) (by simp <;> omega)]; simp
    simp only [hw, lt_end h, cond_false]
    have e : fs = l1 := by simpa using h
    exact ⟨acc, rfl, by rw [e, hacc], ha⟩
  | x :: l2, l1, k + 1, acc, h, hk, hacc, ha => by
    rw [avermenttop_anyEnv.l1.f]
    have hl1 : l1.length ≤ 1000 := by rw [h] at hl; simp at hl; omega
    have hw : IntKind.i64.wrap (((fs.length : Nat) : Int) + ((([] : List LImport).length : Nat) : Int)) = ((fs.length : Nat) : Int) := by rw [wrap64_of (by simp <;> omega) (by simp <;> omega)]; simp
    obtain ⟨r, hr⟩ := anyE_l2 (K := K) (fs := fs) hl hl1 har 4 K [] (by simp) (by omega) (by simp)
    have hr' : avermenttop_anyEnv.l2.f K K ((l1.length : Nat) : Int) (0 : Int) fs [] [] = some r := hr
    have e4 : Nat.ble (acc.length + [(true, r, true, (7 : Int), (false, (0 : Int)), ((-9223372036854775808 : Int), (9223372036854775807 : Int)), (3 : Int))].length) 100000 = true := Nat.ble_eq_true_of_le (by simp; omega)
    simp only [hw, lt_mid h, cond_true, factAny_val, some_bind, hr', e4, wrap_next (l1 := l1) (x := x) (by omega)]
    refine anyE_l1 hK hl har l2 (l1 ++ [x]) k _ (mid_next h) (by simp at hk; omega) (by simp [hacc]) fun s hs => ?_
    rcases List.mem_append.1 hs with hs | hs
    · exact ha s hs
    · simp at hs
      subst hs
      exact ⟨rfl, rfl⟩
theorem anyE_val (hK : 2000 ≤ K) {cells : List Int} {fs : List LFunc} (hc : cells.length ≤ 1000) (hl : fs.length ≤ 1000) (har : ∀ v ∈ arities fs [], v ≤ 4) : ∃ es, avermenttop_anyEnv.f K cells fs [] = some (List.replicate cells.length anyVV.enc, es) ∧ es.length = (arities fs []).length ∧ ∀ s ∈ es, anyS s := by
  have z0 : avermenttop_anyEnv.l0.f K K (0 : Int) cells [] = some (List.replicate cells.length anyVV.enc) := anyE_l0 hc cells [] K rfl (by omega)
  obtain ⟨es, z1, z2, z3⟩ := anyE_l1 (K := K) hK hl har fs [] K [] rfl (by omega) rfl (fun s hs => by simp at hs)
  have z1' : avermenttop_anyEnv.l1.f K K (0 : Int) fs [] [] = some es := z1
  refine ⟨es, ?_, by rw [z2]; simp, z3⟩
  unfold avermenttop_anyEnv.f
  simp only [z0, z1', some_bind]
theorem args_l0 {more : List LValue} (hm : ∀ v ∈ more, fit64 v.2.2.1.1 ∧ fit64 v.2.2.1.2) {args : List Int} (hl : args.length ≤ 1000) (hf : ∀ v ∈ args, fit64 v) : ∀ (l2 l1 : List Int) (k : Nat) (acc : List LValue), args = l1 ++ l2 → l2.length < k → Vals acc l1 → ∃ av, avermenttop_AvermentTrails.l0.f K k more ((l1.length : Nat) : Int) args acc = some av ∧ Vals av args
  | l2, l1, 0, acc, h, hk, hv => by omega
  | [], l1, k + 1, acc, h, hk, hv => by
    rw [avermenttop_AvermentTrails.l0.f]
    simp only [lt_end h, cond_false]
    have e : args = l1 := by simpa using h
    exact ⟨acc, rfl, by rw [e]; exact hv⟩
  | n :: l2, l1, k + 1, acc, h, hk, hv => by
    rw [avermenttop_AvermentTrails.l0.f]
    have hl1 : l1.length ≤ 1000 := by rw [h] at hl; simp at hl; omega
    have hn := hf n (by rw [h]; simp)
    have hacc := hv.1
    have step : ∀ x : VV, Good x n → ∃ av, avermenttop_AvermentTrails.l0.f K k more (((l1 ++ [n]).length : Nat) : Int) args (acc ++ [x.enc]) = some av ∧ Vals av args := fun x g => args_l0 hm hl hf l2 (l1 ++ [n]) k _ (mid_next h) (by simp at hk; omega) (hv.snoc g)
    simp only [lt_mid h, ge0, at_mid h, cond_true, some_bind, Of_val, wrap_next (l1 := l1) (x := n) (by omega)]
    by_cases hlt : l1.length < more.length
    · have e1 : decide (((l1.length : Nat) : Int) < ((more.length : Nat) : Int)) = true := by simp; omega
      obtain ⟨m1, m2⟩ := hm _ (List.getElem_mem hlt)
      obtain ⟨x, x1, x2, x3, _⟩ := Fix_val (K := K) more[l1.length].1 more[l1.length].2.1.1 more[l1.length].2.1.2 more[l1.length].2.2.1.1 more[l1.length].2.2.1.2 more[l1.length].2.2.2
      have fx : Fit x := by rcases x3 with ⟨a, b⟩ | ⟨a, b⟩ <;> exact ⟨by rw [a]; assumption, by rw [b]; assumption⟩
      have gj := join_good (of_good hn) x2 fx
      have jv : fact_Join.f K (sg (so n)) true n n n (sg (po n)) x.t.1 x.t.2.1 x.t.2.2.1 x.t.2.2.2.1 x.t.2.2.2.2.1 x.t.2.2.2.2.2 = some (J (Of n) x).t := J_val (K := K) (x := Of n) (y := x) (of_good hn).ok.toWk x2.toWk
      obtain ⟨av, a1, a2⟩ := step _ gj
      refine ⟨av, ?_, a2⟩
      have e4 : Nat.ble (acc.length + [((J (Of n) x).t.1, ((J (Of n) x).t.2.1, (J (Of n) x).t.2.2.1), ((J (Of n) x).t.2.2.2.1, (J (Of n) x).t.2.2.2.2.1), (J (Of n) x).t.2.2.2.2.2)].length) 100000 = true := Nat.ble_eq_true_of_le (by simp; omega)
      simp only [e1, cond_true, Int.toNat_natCast, List.getElem?_eq_getElem hlt, some_bind, x1, To_val, jv, e4]
      exact a1
    · have e1 : decide (((l1.length : Nat) : Int) < ((more.length : Nat) : Int)) = false := by simp; omega
      have e4 : Nat.ble (acc.length + [(sg (so n), (true, n), (n, n), sg (po n))].length) 100000 = true := Nat.ble_eq_true_of_le (by simp; omega)
      simp only [e1, cond_false, e4, cond_true]
      exact step (Of n) (of_good hn)
def lastOf (f0 n : Nat) : List Int := (List.range n).map fun r => ((f0 + r : Nat) : Int)
theorem lastOf_succ (f0 n : Nat) : lastOf f0 (n + 1) = lastOf f0 n ++ [((f0 + n : Nat) : Int)] := by simp [lastOf, List.range_succ]
theorem lastOf_len (f0 n : Nat) : (lastOf f0 n).length = n := by simp [lastOf]
theorem regsOf_get {F : LFunc} {args : List Int} (ha : args.length ≤ F.2.2.1.toNat) {i : Nat} {v : Int} (h : (regsOf F args)[i]? = some v) : (∀ hi : i < args.length, v = args[i]) ∧ (args.length ≤ i → v = 0) := by
  unfold regsOf at h
  rw [List.length_replicate, List.take_of_length_le ha] at h
  constructor
  · intro hi
    rw [List.getElem?_append_left hi, List.getElem?_eq_getElem hi] at h
    cases h; rfl
  · intro hi
    rw [List.getElem?_append_right hi] at h
    have := List.mem_of_mem_drop (List.mem_of_getElem? h)
    rw [List.mem_replicate] at this
    exact this.2
theorem begin_l0 {F : LFunc} {args : List Int} {av : List LValue} (hav : Vals av args) (ha : args.length ≤ F.2.2.1.toNat) (hr : F.2.2.1.toNat ≤ 8) {f0 : Nat} (hf0 : f0 ≤ 1000000) : ∀ (l2 l1 : List Int) (k : Nat) (vals : List LValue), regsOf F args = l1 ++ l2 → l2.length < k → Vals vals l1 →
    ∃ vals', state_Begin.l0.f K k av ((f0 : Nat) : Int) ((F.2.2.1.toNat : Nat) : Int) ((l1.length : Nat) : Int) vals (LA (lastOf f0 l1.length)) = some (vals', LA (lastOf f0 F.2.2.1.toNat)) ∧ Vals vals' (regsOf F args)
  | l2, l1, 0, vals, h, hk, hv => by omega
  | [], l1, k + 1, vals, h, hk, hv => by
    rw [state_Begin.l0.f]
    have e : regsOf F args = l1 := by simpa using h
    have el : l1.length = F.2.2.1.toNat := by rw [← e, regsOf_len]
    have e1 : decide (((l1.length : Nat) : Int) < ((F.2.2.1.toNat : Nat) : Int)) = false := by simp; omega
    simp only [e1, cond_false]
    exact ⟨vals, by rw [el], by rw [e]; exact hv⟩
  | n :: l2, l1, k + 1, vals, h, hk, hv => by
    rw [state_Begin.l0.f]
    have hlen : l1.length + 1 + l2.length = F.2.2.1.toNat := by rw [← regsOf_len (F := F) (args := args), h]; simp; omega
    have e1 : decide (((l1.length : Nat) : Int) < ((F.2.2.1.toNat : Nat) : Int)) = true := by simp; omega
    have hvl := hv.1
    obtain ⟨g1, g2⟩ := regsOf_get ha (i := l1.length) (v := n) (by rw [h]; simp)
    have w : IntKind.i64.wrap (((f0 : Nat) : Int) + ((l1.length : Nat) : Int)) = ((f0 + l1.length : Nat) : Int) := by rw [wrap64_of (by omega) (by omega)]; omega
    have esn : LA (lastOf f0 l1.length) ++ [[((f0 + l1.length : Nat) : Int)]] = LA (lastOf f0 (l1 ++ [n]).length) := by rw [LA_snoc, ← lastOf_succ]; simp
    have e5 : Nat.ble ((LA (lastOf f0 l1.length)).length + [[((f0 + l1.length : Nat) : Int)]].length) 100000 = true := Nat.ble_eq_true_of_le (by rw [LA_len, lastOf_len]; simp; omega)
    have step : ∀ x : VV, Good x n → _ := fun x g => begin_l0 hav ha hr hf0 l2 (l1 ++ [n]) k (vals ++ [x.enc]) (mid_next h) (by simp at hk; omega) (hv.snoc g)
    simp only [e1, cond_true, Of_val, some_bind, w, wrap_next (l1 := l1) (x := n) (by omega), esn, e5]
    by_cases hlt : l1.length < args.length
    · obtain ⟨x, x1, x2⟩ := hav.2 l1.length n (by rw [g1 hlt, List.getElem?_eq_getElem hlt])
      have e2 : decide (((l1.length : Nat) : Int) < ((av.length : Nat) : Int)) = true := by rw [hav.1]; simp; omega
      have e4 : Nat.ble (vals.length + [(x.enc.1, (x.enc.2.1.1, x.enc.2.1.2), (x.enc.2.2.1.1, x.enc.2.2.1.2), x.enc.2.2.2)].length) 100000 = true := Nat.ble_eq_true_of_le (by simp; omega)
      simp only [e2, cond_true, ge0, Int.toNat_natCast, x1, some_bind, e4]
      exact step x x2
    · have n0 := g2 (by omega)
      subst n0
      have e2 : decide (((l1.length : Nat) : Int) < ((av.length : Nat) : Int)) = false := by rw [hav.1]; simp; omega
      have e4 : Nat.ble (vals.length + [(sg (so 0), (true, (0 : Int)), ((0 : Int), (0 : Int)), sg (po 0))].length) 100000 = true := Nat.ble_eq_true_of_le (by simp; omega)
      simp only [e2, cond_false, e4, cond_true]
      exact step (Of 0) (of_good fit0)
theorem begin_val (hK : 2000 ≤ K) {F : LFunc} {args : List Int} {av : List LValue} (hav : Vals av args) (ha : args.length ≤ F.2.2.1.toNat) (h0 : 0 ≤ F.2.2.1) (hr : F.2.2.1 ≤ 8) {f0 : Nat} (hf0 : f0 ≤ 1000000) : ∃ vals, state_Begin.f K F.2.2.1 av ((f0 : Nat) : Int) = some (true, vals, LA (lastOf f0 F.2.2.1.toNat)) ∧ Vals vals (regsOf F args) := by
  obtain ⟨vals, h1, h2⟩ := begin_l0 (K := K) hav ha (by omega) hf0 (regsOf F args) [] K [] rfl (by rw [regsOf_len]; omega) ⟨rfl, fun i n h => by simp at h⟩
  have h1' : state_Begin.l0.f K K av ((f0 : Nat) : Int) ((F.2.2.1.toNat : Nat) : Int) (0 : Int) [] [] = some (vals, LA (lastOf f0 F.2.2.1.toNat)) := h1
  refine ⟨vals, ?_, h2⟩
  unfold state_Begin.f
  rw [max0 h0, h1']
  rfl
theorem frame_pl0 {P : Lprogram} {f f0 : Nat} (hv : P.2.2[f]? = some ((f0 : Nat) : Int)) (hf0 : f0 ≤ 1000000) {n : Nat} (hn : n ≤ 1000) : ∀ (m i k : Nat), n - i ≤ m → m < k → i ≤ n → vm_program_frame.l0.f K k (some P) ((f : Nat) : Int) ((n : Nat) : Int) ((i : Nat) : Int) (lastOf f0 i) = some (lastOf f0 n)
  | m, i, 0, h, hk, ha => by omega
  | m, i, k + 1, h, hk, ha => by
    rw [vm_program_frame.l0.f]
    by_cases hlt : i < n
    · have e : decide (((i : Nat) : Int) < ((n : Nat) : Int)) = true := by simp; omega
      have w : IntKind.i64.wrap (((f0 : Nat) : Int) + ((i : Nat) : Int)) = ((f0 + i : Nat) : Int) := by rw [wrap64_of (by omega) (by omega)]; omega
      have w2 : IntKind.i64.wrap (((i : Nat) : Int) + (1 : Int)) = ((i + 1 : Nat) : Int) := by rw [wrap64_of (by omega) (by omega)]; omega
      have e4 : Nat.ble ((lastOf f0 i).length + [((f0 + i : Nat) : Int)].length) 100000 = true := Nat.ble_eq_true_of_le (by rw [lastOf_len]; simp; omega)
      simp only [e, cond_true, some_bind, ge0, Int.toNat_natCast, hv, w, e4, w2, ← lastOf_succ]
      exact frame_pl0 hv hf0 hn (m - 1) (i + 1) k (by omega) (by omega) (by omega)
    · have e : decide (((i : Nat) : Int) < ((n : Nat) : Int)) = false := by simp; omega
      simp only [e, cond_false]
      rw [show i = n by omega]
theorem WF.fits {cells : List Int} {fs : List LFunc} {is : List LImport} (h : WF cells fs is) : fits fs := by
  refine ⟨by have := h.count; omega, fun f hf => ?_⟩
  obtain ⟨i, hi⟩ := List.mem_iff_getElem?.1 hf
  obtain ⟨ok, _⟩ := h.funcs i f hi
  refine ⟨by have := ok.blocks; omega, fun b hb => ?_⟩
  have okb := ok.each b hb
  exact ⟨by have := okb.len; omega, fun x hx => by have := argsLen (okb.insns x hx) h.ar_le; omega⟩
theorem small_of {nc : Nat} {ar : List Int} {F : LFunc} (h : okFunc nc ar F) : small F :=
  ⟨⟨by have := h.regs; omega, h.regs.2.1⟩, h.blocks.2, fun b hb => ⟨(h.each b hb).len, fun x hx => ((h.each b hb).insns x hx).op⟩⟩
theorem start_p (hK : 2000 ≤ K) {cells : List Int} {fs : List LFunc} {args inp : List Int} (h : WF cells fs []) {p : Nat} {F : LFunc} (hF : fs[p]? = some F) (ha : ((args.length : Nat) : Int) = F.2.1) (hin : inp.length ≤ 1000) :
    ∃ bls fst, progP fs bls fst ∧ vm_Start.f K cells fs [] ((p : Nat) : Int) args inp = some (Err.nil, some (fs, bls, fst), inp, 0, 0, cells, [], [(((p : Nat) : Int), 0, 0, 0, 0)], [regsOf F args], [lastOf (fsN (fs.take p)) F.2.2.1.toNat]) := by
  obtain ⟨ok, _⟩ := h.funcs p F hF
  have hc := h.ncells
  have hcnt := h.count
  have hr := ok.regs
  have hlt := (List.getElem?_eq_some_iff.1 hF).1
  have hcnt' : fs.length ≤ 24 := by simpa using hcnt
  have hsm : ∀ f ∈ fs, small f := fun f hf => by
    obtain ⟨i, hi⟩ := List.mem_iff_getElem?.1 hf
    exact small_of (h.funcs i f hi).1
  obtain ⟨bls, fst, r1, r2⟩ := ready_p (K := K) hK (fs := fs) (by omega) hsm
  obtain ⟨g1, _⟩ := r2.2.2 p F hF
  have hfs := fsN_le (l := fs.take p) fun f hf => hsm f (List.mem_of_mem_take hf)
  have htk : (fs.take p).length ≤ 24 := by simp; omega
  refine ⟨bls, fst, r2, ?_⟩
  have fv : vm_program_frame.f K (some (fs, bls, fst)) ((p : Nat) : Int) args = some (0, 0, regsOf F args, lastOf (fsN (fs.take p)) F.2.2.1.toNat) := by
    unfold vm_program_frame.f
    have e1 : (decide ((0 : Int) ≤ F.2.2.1) && decide (F.2.2.1 ≤ (100000 : Int)) && F.2.2.1 == F.2.2.1 && true && true && true) = true := by simp; omega
    have hlen : (List.take (List.replicate F.2.2.1.toNat (0 : Int)).length args ++ List.drop args.length (List.replicate F.2.2.1.toNat 0)).length = F.2.2.1.toNat := regsOf_len
    have z := frame_pl0 (K := K) (P := (fs, bls, fst)) g1 (by omega) (n := F.2.2.1.toNat) (by omega) F.2.2.1.toNat 0 K (by omega) (by omega) (by omega)
    simp only [some_bind, ge0, cond_true, Int.toNat_natCast, hF, e1, hlen]
    rw [show vm_program_frame.l0.f K K (some (fs, bls, fst)) ((p : Nat) : Int) ((F.2.2.1.toNat : Nat) : Int) (0 : Int) [] = some (lastOf (fsN (fs.take p)) F.2.2.1.toNat) from z]
    rfl
  unfold vm_Start.f
  have e1 : decide (((([] : List LImport).length : Nat) : Int) > (0 : Int)) = false := by simp
  have e2 : decide (((p : Nat) : Int) < (0 : Int)) = false := by simp
  have e3 : decide (((p : Nat) : Int) ≥ ((fs.length : Nat) : Int)) = false := by simp; omega
  have e4 : (((args.length : Nat) : Int) != F.2.1) = false := by simp [ha]
  simp only [icheck_val hK h, some_bind, Err.isNil, Bool.not_true, cond_true, cond_false, e1, e2, e3, bindC_def, ge0, Int.toNat_natCast, hF, e4, copyo_val hK (cells := cells) (fs := fs) (is := []) (by omega) (by simp) h.fits, r1, cloneI64_val (K := K) (l := inp) (by omega), fv]
  rfl
def wideT (cells : List Int) (fs : List LFunc) : Prop := (∀ c ∈ cells, fit64 c) ∧ ∀ f ∈ fs, ∀ b ∈ f.2.2.2, ∀ x ∈ b.1, fit64 x.2.2.2.2.1
theorem fewF_fits {fs : List LFunc} : fits ((fs.take 30).map fewF) := by
  refine ⟨by simp; omega, fun f hf => ?_⟩
  obtain ⟨g, hg, rfl⟩ := List.mem_map.1 hf
  refine ⟨by simp [fewF]; omega, fun b hb => ?_⟩
  obtain ⟨c, hc, rfl⟩ := List.mem_map.1 (show b ∈ (g.2.2.2.take 14).map fewB from hb)
  refine ⟨by simp [fewB]; omega, fun x hx => ?_⟩
  obtain ⟨y, hy, rfl⟩ := List.mem_map.1 (show x ∈ (c.1.take 14).map fewI from hx)
  simp [fewI]; omega
theorem fewF_wide {cells : List Int} {fs : List LFunc} (h : wideT cells fs) : wideT (cells.take 20) ((fs.take 30).map fewF) := by
  refine ⟨fun c hc => h.1 c (List.mem_of_mem_take hc), fun f hf b hb x hx => ?_⟩
  obtain ⟨g, hg, rfl⟩ := List.mem_map.1 hf
  obtain ⟨c, hc, rfl⟩ := List.mem_map.1 (show b ∈ (g.2.2.2.take 14).map fewB from hb)
  obtain ⟨y, hy, rfl⟩ := List.mem_map.1 (show x ∈ (c.1.take 14).map fewI from hx)
  exact h.2 g (List.mem_of_mem_take hg) c (List.mem_of_mem_take hc) y (List.mem_of_mem_take hy)
theorem trails_law (hK : 2000 ≤ K) (a0 : List Int) (a1 : List LFunc) (a2 : List LImport) (a3 : Int) (a4 a5 : List Int) (a6 : List LValue) (hw : wideT a0 a1) (h4 : ∀ v ∈ a4, fit64 v) (h5 : ∀ v ∈ a5, fit64 v) (h6 : ∀ v ∈ a6, fit64 v.2.2.1.1 ∧ fit64 v.2.2.1.2) : avermenttop_AvermentTrails.f K a0 a1 a2 a3 a4 a5 a6 = some true := by
  unfold avermenttop_AvermentTrails.f
  have hfit := fewF_fits (fs := a1)
  have hwide := fewF_wide hw
  have hl : ((a1.take 30).map fewF).length + (a2.take 30).length ≤ 1000 := by simp; omega
  obtain ⟨b, r1, r2⟩ := ready_ok (K := K) hK (cells := a0.take 20) hl hfit a3 (a4.take 8)
  simp only [few7_val (K := K) (by omega), some_bind, runs_val hK, Bool.not_true, cond_false, r1, bindC_def]
  cases b with
  | false => simp only [Bool.not_false, cond_true]
  | true =>
    simp only [Bool.not_true, cond_false]
    obtain ⟨wf, hi, hp0, F, hF, harg⟩ := r2 rfl
    have h4' : ∀ v ∈ a4.take 8, fit64 v := fun v hv => h4 v (List.mem_of_mem_take hv)
    have h5' : ∀ v ∈ a5.take 40, fit64 v := fun v hv => h5 v (List.mem_of_mem_take hv)
    have hargl : (a4.take 8).length ≤ 8 := by simp; omega
    have hin : (a5.take 40).length ≤ 40 := by simp; omega
    generalize hcells : a0.take 20 = cells at *
    generalize hfs : (a1.take 30).map fewF = fs at *
    generalize his : a2.take 30 = is at *
    generalize hargs : a4.take 8 = args at *
    generalize hinp : a5.take 40 = inp at *
    subst hi
    obtain ⟨p, rfl⟩ : ∃ p : Nat, a3 = p := ⟨a3.toNat, by omega⟩
    rw [Int.toNat_natCast] at hF
    have hc := wf.ncells
    have hcnt : fs.length ≤ 24 := by simpa using wf.count
    have hpt := (List.getElem?_eq_some_iff.1 hF).1
    obtain ⟨okF, _⟩ := wf.funcs p F hF
    have hrF := okF.regs
    have hbF := okF.blocks
    have hsm : ∀ f ∈ fs, small f := fun f hf => by
      obtain ⟨i, hi⟩ := List.mem_iff_getElem?.1 hf
      exact small_of (wf.funcs i f hi).1
    have hfsN := fsN_le (l := fs.take p) fun f hf => hsm f (List.mem_of_mem_take hf)
    have htk : (fs.take p).length ≤ 24 := by simp; omega
    obtain ⟨es, ee1, ee2⟩ := anyE_val (K := K) hK (cells := cells) (fs := fs) (by omega) (by omega) wf.ar_le
    obtain ⟨av, v1, v2⟩ := args_l0 (K := K) h6 (args := args) (by omega) h4' args [] K [] rfl (by omega) ⟨rfl, fun i n h => by simp at h⟩
    have v1' : avermenttop_AvermentTrails.l0.f K K a6 (0 : Int) args [] = some av := v1
    obtain ⟨bls, fst, pp, st⟩ := start_p (K := K) hK (args := args) (inp := inp) wf hF harg (by omega)
    obtain ⟨vals, bg1, bg2⟩ := begin_val (K := K) hK (F := F) v2 (by omega) (by omega) hrF.2.1 (f0 := fsN (fs.take p)) (by omega)
    have fv := first_val (K := K) hK (fs := fs) (by omega) hsm hpt
    have hb0 : 0 < F.2.2.2.length := by omega
    have top : FrOk fs [regsOf F args] ([lastOf (fsN (fs.take p)) F.2.2.1.toNat].map (·.length)) (p, 0, 0, 0, 0) F F.2.2.2[0] (regsOf F args) :=
      ⟨hF, List.getElem?_eq_getElem hb0, Nat.zero_le _, rfl, by rw [regsOf_len]; omega, by rw [regsOf_len]; simp [lastOf_len], (okF.each _ (List.getElem_mem hb0)).len⟩
    have ti : TI fs p [regsOf F args] [lastOf (fsN (fs.take p)) F.2.2.1.toNat] [] (p, 0, 0, 0, 0) (regsOf F args) (lastOf (fsN (fs.take p)) F.2.2.1.toNat) :=
      ⟨⟨⟨_, _, _, top⟩, fun y hy => by simp at hy, by simp⟩, ⟨rfl, rfl, rfl, fun y hy => by simp at hy⟩, rfl, rfl, fun r hr v hv => by
        simp at hr
        subst hr
        exact regsOf_fit h4' v hv⟩
    obtain ⟨r, t1, t2⟩ := trail (K := K) hK (nc := cells.length) (by omega) (by omega) hsm pp (fun f F hF => (wf.funcs f F hF).1) wf.ar_le (fun f F hF B hB I hI => hwide.2 F (List.mem_of_getElem? hF) B hB I hI) hF rfl ee2 K 0 inp cells [] 0 vals _ _ _ _ [] (p, 0, 0, 0, 0) (by omega) (by omega) rfl (by omega) (by simp) hwide.1 h5' ti bg2
    have t1' : avermenttop_AvermentTrails.l1.f K K (0 : Int) ((p : Nat) : Int) fs fs (List.replicate cells.length anyVV.enc) es (some (fs, bls, fst)) inp 0 0 true vals (LA (lastOf (fsN (fs.take p)) F.2.2.1.toNat)) cells [] [(((p : Nat) : Int), 0, 0, 0, 0)] [regsOf F args] [lastOf (fsN (fs.take p)) F.2.2.1.toNat] = some r := t1
    simp only [to_val hK (a0 := cells) (a1 := fs) (a2 := []) (by omega) hfit (by simp), some_bind, ee1, v1', st, Err.isNil, Bool.not_true, cond_true, cond_false, ge0, Int.toNat_natCast, hF, fv, bg1, t1']
    rcases t2 with rfl | rfl <;> rfl
end Go.Proofs.YtdjkdmjdcdljmaaGreat.AT
