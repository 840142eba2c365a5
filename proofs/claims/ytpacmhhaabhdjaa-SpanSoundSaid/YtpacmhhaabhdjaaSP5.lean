-- Written by a program of this session: plain functions and their walks. Lean checks it.
import Derived.Test.YtpacmhhaabhdjaaSP0
import Derived.Test.YtpacmhhaabhdjaaSP2
import Derived.Test.YtpacmhhaabhdjaaSP3
namespace Go.Proofs.Ytpacmhhaabhdjaa.SP
open Go.RowKit Go.Proofs.YtpacmhhaabhdjaaW.PrintWords Go.Proofs.YtpacmhhaabhdjaaW.PrintLast Go.Proofs.YtpacmhhaabhdjaaW.PrintMore
attribute [local go_sem] max2_int min2_int max_two min_two max_three min_three max_four min_four   -- for this text's walks alone
set_option linter.unusedVariables false
set_option linter.unusedSimpArgs false

attribute [local go_sem high] eqA59
/-! ### span_rests: function 69 -/
def span_rests.f (a0_0 : Int) (a0_1 : Int) (a1_0 : Int) (a1_1 : Int) : Option (Int × Int × Bool) := (span_Of.f 0).bind fun bt171 => (if (a1_0 == bt171.1 && (a1_1 == bt171.2)) = true then (some (0, 0, false)) else (if a1_1 = (-9223372036854775808) then (if a1_0 < 0 then (some (mn 0 (mx a0_0 (wrap64 (-(mx 0 (Go.bits .xor .i64 (-1) a1_0))))), mx 0 (mn a0_1 (mx 0 (Go.bits .xor .i64 (-1) a1_0))), true)) else (none)) else (if a1_0 < 0 then (some (mn 0 (mx a0_0 (wrap64 (-(mx (mx 0 (wrap64 (a1_1 - 1))) (Go.bits .xor .i64 (-1) a1_0))))), mx 0 (mn a0_1 (mx (mx 0 (wrap64 (a1_1 - 1))) (Go.bits .xor .i64 (-1) a1_0))), true)) else (some (mn 0 (mx a0_0 (wrap64 (-(mx 0 (wrap64 (a1_1 - 1)))))), mx 0 (mn a0_1 (mx 0 (wrap64 (a1_1 - 1)))), true)))))
set_option maxHeartbeats 8000000 in
set_option maxRecDepth 100000 in
theorem span_rests.calls (a0_0 : Int) (a0_1 : Int) (a1_0 : Int) (a1_1 : Int) (r1 : Int) (r2 : Int) (r3 : Bool) (w : World) (h : span_rests.f a0_0 a0_1 a1_0 a1_1 = some (r1, r2, r3)) :
  Calls Try.prog 69 #[.agg #[.int .i64 a0_0, .int .i64 a0_1], .agg #[.int .i64 a1_0, .int .i64 a1_1]] w fun e w' => e = .returned (.tuple #[.agg #[.int .i64 r1, .int .i64 r2], .bool r3]) ∧ Below w.heap.size w w' := by
 have hu59 := Try.underlying59
 have hsg_ : IntKind.i64.signed = true := rfl
 have HB := Aside0.mk (Below.refl w.heap.size w)
 have H : ((span_Of.f 0).bind fun bt171 => (if (a1_0 == bt171.1 && (a1_1 == bt171.2)) = true then (some (0, 0, false)) else (if a1_1 = (-9223372036854775808) then (if a1_0 < 0 then (some (mn 0 (mx a0_0 (wrap64 (-(mx 0 (Go.bits .xor .i64 (-1) a1_0))))), mx 0 (mn a0_1 (mx 0 (Go.bits .xor .i64 (-1) a1_0))), true)) else (none)) else (if a1_0 < 0 then (some (mn 0 (mx a0_0 (wrap64 (-(mx (mx 0 (wrap64 (a1_1 - 1))) (Go.bits .xor .i64 (-1) a1_0))))), mx 0 (mn a0_1 (mx (mx 0 (wrap64 (a1_1 - 1))) (Go.bits .xor .i64 (-1) a1_0))), true)) else (some (mn 0 (mx a0_0 (wrap64 (-(mx 0 (wrap64 (a1_1 - 1)))))), mx 0 (mn a0_1 (mx 0 (wrap64 (a1_1 - 1)))), true)))))) = some (r1, r2, r3) := h
 clear h
 replace H := Option.bind_eq_some_iff.mp H
 obtain ⟨⟨t171, t172⟩, A30, H⟩ := H
 (try dsimp only at H)
 have A3 := Aside0.mk A30
 clear A30
 by_cases c4 : (a1_0 == t171 && (a1_1 == t172)) = true
 ·
  rw [if_pos c4] at H
  have c4b0 : (a1_0 == t171 && (a1_1 == t172)) = true := c4
  (try (have c4b1 : decide (a1_0 = t171 && (a1_1 == t172)) = true := by simpa using c4))
  (try (have c4b2 : (a1_0 == t171 && (a1_1 == t172)) = true := by simpa using c4))
  clear c4
  simp only [Option.some.injEq, Prod.mk.injEq] at H
  obtain ⟨rfl, rfl, rfl⟩ := H
  go_enter Try.func69, Try.ntmps69
  try go_wp2_with (first | ((with_reducible refine gate_dst (N := 2) rfl ?_); refine box_event ?hg (N := 2) ?hd (cs := #[.int .i64 a0_0, .int .i64 a0_1]) (t := 59) ?hr ?_; (case hd => rfl); (case hg => rfl); (case hr => first | (go_simp; done) | (go_simp; rfl)); intro gb168 hg w5 hbox hb; have BK168 := Aside0.mk (hbox); have GW168 := geb hg HB rfl; have GE168 := geb hg HB rfl; replace HB := hst HB hb rfl; clear hb hbox hg) | ((with_reducible refine gate_dst (N := 3) rfl ?_); refine box_event ?hg (N := 3) ?hd (cs := #[.int .i64 a1_0, .int .i64 a1_1]) (t := 59) ?hr ?_; (case hd => rfl); (case hg => rfl); (case hr => first | (go_simp; done) | (go_simp; rfl)); intro gb169 hg w6 hbox hb; have BK169 := Aside0.mk (hbox); have GW169 := geb hg HB rfl; have GE169 := geb hg HB rfl; have NB168_169 := nbl hg BK168 rfl; have NB169_168 := nbr hg BK168 rfl; replace BK168 := bb BK168 hb rfl; replace HB := hst HB hb rfl; clear hb hbox hg) | ((with_reducible refine gate_dst (N := 4) rfl ?_); refine box_event ?hg (N := 4) ?hd (cs := #[.int .i64 0, .int .i64 0]) (t := 59) ?hr ?_; (case hd => rfl); (case hg => rfl); (case hr => first | (go_simp; done) | (go_simp; rfl)); intro gb170 hg w7 hbox hb; have BK170 := Aside0.mk (hbox); have GW170 := geb hg HB rfl; have GE170 := geb hg HB rfl; have NB168_170 := nbl hg BK168 rfl; have NB170_168 := nbr hg BK168 rfl; have NB169_170 := nbl hg BK169 rfl; have NB170_169 := nbr hg BK169 rfl; replace BK168 := bb BK168 hb rfl; replace BK169 := bb BK169 hb rfl; replace HB := hst HB hb rfl; clear hb hbox hg))
  replace BK168 := Aside0.mk (blk_drew BK168.out); replace BK169 := Aside0.mk (blk_drew BK169.out); replace BK170 := Aside0.mk (blk_drew BK170.out); replace HB := Aside0.mk (below_drew1 HB.out)
  refine start_ (n := 3) (S := fun w' => w'.cell? ⟨gb169, 0, none⟩ = some (.int .i64 a1_0) ∧ w'.cell? ⟨gb169, 1, none⟩ = some (.int .i64 a1_1)) (ds := []) #[false, false, false] (by kernel_rfl) rfl rfl ⟨bc BK169 0 rfl, bc BK169 1 rfl⟩ (fun hHeld => ?_)
  generalize w7.drew = w8 at BK168 BK169 BK170 HB hHeld ⊢
  refine take_ (i := 0) (N := some 7) (v := ?_) (a' := ?_) #[true, false, false] rfl rfl (by kernel_rfl) (fun _ _ _ h => h) (Or.inl ⟨by rfl, ?_⟩) hHeld ?_ ?_
  rotate_left
  ·
   rintro w' ⟨s0, s1⟩
   go_simp
   with_reducible rfl
  rotate_left
  ·
   simp only [Act.put, List.setIfInBounds_toArray, List.set_cons_zero, List.set_cons_succ, i64_w, i32_w]
   rfl
  refine one_ (i := 1) (N := some 8) #[true, true, false] rfl rfl (by kernel_rfl) (by decide) (fun K hK => ?_)
  refine goes_ Try.func45 (by kernel_rfl) rfl #[.int .i64 0] (by rfl) rfl rfl (mapq rfl) ?_
  with_reducible refine (span_Of.calls 0 t171 t172 _ A3.out).mono ?_
  rintro e w9 ⟨rfl, hb⟩
  refine ⟨_, rfl, ?_⟩
  replace BK168 := bb BK168 hb rfl; replace BK169 := bb BK169 hb rfl; replace BK170 := bb BK170 hb rfl; replace HB := hst HB hb rfl
  (try clear hb)
  refine hK.out _ _ ⟨bc BK169 0 rfl, bc BK169 1 rfl⟩ (fun hHeld => ?_)
  clear hK K
  refine norm_ (a' := ?_) ?_ ?_
  rotate_left; · (show Act.put _ (some 8) _ = _; simp only [Act.put, List.setIfInBounds_toArray, List.set_cons_zero, List.set_cons_succ, i64_w, i32_w]; rfl)
  refine pure_ (i := 2) (N := some 9) (v := ?_) (a' := ?_) #[true, true, true] rfl rfl (by kernel_rfl) (fun _ _ _ h => h) (Or.inl ⟨by rfl, ?_⟩) ?_ ?_
  rotate_left; · (intro w'; go_simp; with_reducible rfl)
  rotate_left; · (simp only [Act.put, List.setIfInBounds_toArray, List.set_cons_zero, List.set_cons_succ, i64_w, i32_w]; rfl)
  refine done_ (by kernel_rfl) ?_
  have hnb10 := NB170_168.out
  have hnc10 := NB168_170.out
  have hnb11 := NB170_169.out
  have hnc11 := NB169_170.out
  have hcz12_0 : w9.cell? ⟨gb170, 0, none⟩ = some (.int .i64 0) := bc BK170 0 rfl
  have hcz12_1 : w9.cell? ⟨gb170, 1, none⟩ = some (.int .i64 0) := bc BK170 1 rfl
  have hfz12_0 := blk_frozen BK170.out 0
  have hfz12_1 := blk_frozen BK170.out 1
  try go_wp2
  refine bodyPost_ret (results_ct rfl _ _ gb170 59 #[.int .i64 0, .int .i64 0] (0, 0) _ rfl (by (with_reducible repeat (first | refine blk_drewN ?_ _ | refine blk_drew ?_ | refine blk_alloc ?_ _)); refine blk_put (cs := #[.int .i64 0, .int .i64 0]) ?_ 1 _ rfl; (with_reducible repeat (first | refine blk_drewN ?_ _ | refine blk_drew ?_ | refine blk_alloc ?_ _)); refine blk_put (cs := #[.int .i64 0, .int .i64 0]) ?_ 0 _ rfl; (with_reducible repeat (first | refine blk_drewN ?_ _ | refine blk_drew ?_ | refine blk_alloc ?_ _)); exact BK170.out) Try.underlying59 rfl (by kernel_rfl)) rfl ?_
  exact ⟨by first | rfl | (simp [errW_none, errW_some] <;> rfl) | (simp [*, errW_none, errW_some] <;> rfl), by repeat (first | (with_reducible first | exact HB.out | apply below_alloc | apply pw_below_drewN | apply below_drew1 | refine below_set ?_ GE168.out | refine below_set ?_ GE169.out | refine below_set ?_ GE170.out) | exact HB.out)⟩
 ·
  rw [if_neg c4] at H
  have c4b0 : (a1_0 == t171 && (a1_1 == t172)) = false := by simpa using c4
  (try (have c4b1 : decide (a1_0 = t171 && (a1_1 == t172)) = false := by simpa using c4))
  (try (have c4b2 : (a1_0 == t171 && (a1_1 == t172)) = false := by simpa using c4))
  (try (have c4b3 : ¬ (a1_0 = t171 && (a1_1 == t172)) := by simpa using c4))
  clear c4
  obtain ⟨ji13, hji13⟩ : ∃ j_ : Int, (mx 0 (wrap64 (a1_1 - 1))) = j_ := ⟨_, rfl⟩
  replace H : (if a1_1 = (-9223372036854775808) then (if a1_0 < 0 then (some (mn 0 (mx a0_0 (wrap64 (-(mx 0 (Go.bits .xor .i64 (-1) a1_0))))), mx 0 (mn a0_1 (mx 0 (Go.bits .xor .i64 (-1) a1_0))), true)) else (none)) else (if a1_0 < 0 then (some (mn 0 (mx a0_0 (wrap64 (-(mx (ji13) (Go.bits .xor .i64 (-1) a1_0))))), mx 0 (mn a0_1 (mx (ji13) (Go.bits .xor .i64 (-1) a1_0))), true)) else (some (mn 0 (mx a0_0 (wrap64 (-(ji13)))), mx 0 (mn a0_1 (ji13)), true)))) = some (r1, r2, r3) := by first | (rw [hji13] at H; exact H) | (simp only [hji13] at H ⊢; exact H)
  (try rw [hji13] at A3)
  (try (have hji13l : 0 ≤ ji13 := by (rw [← hji13]; unfold mx; (repeat' split) <;> omega)))
  (try (have hji13m : 0 ≤ ji13 := by omega))
  have hji13_ : (if 0 < (wrap64 (a1_1 - 1)) then (wrap64 (a1_1 - 1)) else 0) = ji13 := hji13
  by_cases c14 : a1_1 = (-9223372036854775808)
  ·
   rw [if_pos c14] at H
   have c14b0 : (a1_1 == (-9223372036854775808)) = true := beq_iff_eq.mpr c14
   have c14b1 : (a1_1 != (-9223372036854775808)) = false := bne_eq_false_iff_eq.mpr c14
   clear c14
   by_cases c15 : a1_0 < 0
   ·
    rw [if_pos c15] at H
    have c15b0 : decide (a1_0 < 0) = true := decide_eq_true c15
    clear c15
    obtain ⟨ji16, hji16⟩ : ∃ j_ : Int, (mx 0 (Go.bits .xor .i64 (-1) a1_0)) = j_ := ⟨_, rfl⟩
    replace H : (some (mn 0 (mx a0_0 (wrap64 (-(ji16)))), mx 0 (mn a0_1 (ji16)), true)) = some (r1, r2, r3) := by first | (rw [hji16] at H; exact H) | (simp only [hji16] at H ⊢; exact H)
    (try rw [hji16] at A3)
    (try (have hji16l : 0 ≤ ji16 := by (rw [← hji16]; unfold mx; (repeat' split) <;> omega)))
    (try (have hji16m : 0 ≤ ji16 := by omega))
    have hji16_ : (if 0 < (Go.bits .xor .i64 (-1) a1_0) then (Go.bits .xor .i64 (-1) a1_0) else 0) = ji16 := hji16
    obtain ⟨ji17, hji17⟩ : ∃ j_ : Int, (mx a0_0 (wrap64 (-(ji16)))) = j_ := ⟨_, rfl⟩
    replace H : (some (mn 0 (ji17), mx 0 (mn a0_1 (ji16)), true)) = some (r1, r2, r3) := by first | (rw [hji17] at H; exact H) | (simp only [hji17] at H ⊢; exact H)
    (try rw [hji17] at A3)
    have hji17_ : (if a0_0 < (wrap64 (-(ji16))) then (wrap64 (-(ji16))) else a0_0) = ji17 := hji17
    obtain ⟨ji18, hji18⟩ : ∃ j_ : Int, (mn 0 (ji17)) = j_ := ⟨_, rfl⟩
    replace H : (some (ji18, mx 0 (mn a0_1 (ji16)), true)) = some (r1, r2, r3) := by first | (rw [hji18] at H; exact H) | (simp only [hji18] at H ⊢; exact H)
    (try rw [hji18] at A3)
    have hji18_ : (if (ji17) < 0 then (ji17) else 0) = ji18 := hji18
    obtain ⟨ji19, hji19⟩ : ∃ j_ : Int, (mn a0_1 (ji16)) = j_ := ⟨_, rfl⟩
    replace H : (some (ji18, mx 0 (ji19), true)) = some (r1, r2, r3) := by first | (rw [hji19] at H; exact H) | (simp only [hji19] at H ⊢; exact H)
    (try rw [hji19] at A3)
    have hji19_ : (if (ji16) < a0_1 then (ji16) else a0_1) = ji19 := hji19
    obtain ⟨ji20, hji20⟩ : ∃ j_ : Int, (mx 0 (ji19)) = j_ := ⟨_, rfl⟩
    replace H : (some (ji18, ji20, true)) = some (r1, r2, r3) := by first | (rw [hji20] at H; exact H) | (simp only [hji20] at H ⊢; exact H)
    (try rw [hji20] at A3)
    have hji20_ : (if 0 < (ji19) then (ji19) else 0) = ji20 := hji20
    simp only [Option.some.injEq, Prod.mk.injEq] at H
    obtain ⟨rfl, rfl, rfl⟩ := H
    go_enter Try.func69, Try.ntmps69
    try go_wp2_with (first | ((with_reducible refine gate_dst (N := 2) rfl ?_); refine box_event ?hg (N := 2) ?hd (cs := #[.int .i64 a0_0, .int .i64 a0_1]) (t := 59) ?hr ?_; (case hd => rfl); (case hg => rfl); (case hr => first | (go_simp; done) | (go_simp; rfl)); intro gb168 hg w21 hbox hb; have BK168 := Aside0.mk (hbox); have GW168 := geb hg HB rfl; have GE168 := geb hg HB rfl; replace HB := hst HB hb rfl; clear hb hbox hg) | ((with_reducible refine gate_dst (N := 3) rfl ?_); refine box_event ?hg (N := 3) ?hd (cs := #[.int .i64 a1_0, .int .i64 a1_1]) (t := 59) ?hr ?_; (case hd => rfl); (case hg => rfl); (case hr => first | (go_simp; done) | (go_simp; rfl)); intro gb169 hg w22 hbox hb; have BK169 := Aside0.mk (hbox); have GW169 := geb hg HB rfl; have GE169 := geb hg HB rfl; have NB168_169 := nbl hg BK168 rfl; have NB169_168 := nbr hg BK168 rfl; replace BK168 := bb BK168 hb rfl; replace HB := hst HB hb rfl; clear hb hbox hg) | ((with_reducible refine gate_dst (N := 4) rfl ?_); refine box_event ?hg (N := 4) ?hd (cs := #[.int .i64 0, .int .i64 0]) (t := 59) ?hr ?_; (case hd => rfl); (case hg => rfl); (case hr => first | (go_simp; done) | (go_simp; rfl)); intro gb170 hg w23 hbox hb; have BK170 := Aside0.mk (hbox); have GW170 := geb hg HB rfl; have GE170 := geb hg HB rfl; have NB168_170 := nbl hg BK168 rfl; have NB170_168 := nbr hg BK168 rfl; have NB169_170 := nbl hg BK169 rfl; have NB170_169 := nbr hg BK169 rfl; replace BK168 := bb BK168 hb rfl; replace BK169 := bb BK169 hb rfl; replace HB := hst HB hb rfl; clear hb hbox hg))
    replace BK168 := Aside0.mk (blk_drew BK168.out); replace BK169 := Aside0.mk (blk_drew BK169.out); replace BK170 := Aside0.mk (blk_drew BK170.out); replace HB := Aside0.mk (below_drew1 HB.out)
    refine start_ (n := 3) (S := fun w' => w'.cell? ⟨gb169, 0, none⟩ = some (.int .i64 a1_0) ∧ w'.cell? ⟨gb169, 1, none⟩ = some (.int .i64 a1_1)) (ds := []) #[false, false, false] (by kernel_rfl) rfl rfl ⟨bc BK169 0 rfl, bc BK169 1 rfl⟩ (fun hHeld => ?_)
    generalize w23.drew = w24 at BK168 BK169 BK170 HB hHeld ⊢
    refine take_ (i := 0) (N := some 7) (v := ?_) (a' := ?_) #[true, false, false] rfl rfl (by kernel_rfl) (fun _ _ _ h => h) (Or.inl ⟨by rfl, ?_⟩) hHeld ?_ ?_
    rotate_left
    ·
     rintro w' ⟨s0, s1⟩
     go_simp
     with_reducible rfl
    rotate_left
    ·
     simp only [Act.put, List.setIfInBounds_toArray, List.set_cons_zero, List.set_cons_succ, i64_w, i32_w]
     rfl
    refine one_ (i := 1) (N := some 8) #[true, true, false] rfl rfl (by kernel_rfl) (by decide) (fun K hK => ?_)
    refine goes_ Try.func45 (by kernel_rfl) rfl #[.int .i64 0] (by rfl) rfl rfl (mapq rfl) ?_
    with_reducible refine (span_Of.calls 0 t171 t172 _ A3.out).mono ?_
    rintro e w25 ⟨rfl, hb⟩
    refine ⟨_, rfl, ?_⟩
    replace BK168 := bb BK168 hb rfl; replace BK169 := bb BK169 hb rfl; replace BK170 := bb BK170 hb rfl; replace HB := hst HB hb rfl
    (try clear hb)
    refine hK.out _ _ ⟨bc BK169 0 rfl, bc BK169 1 rfl⟩ (fun hHeld => ?_)
    clear hK K
    refine norm_ (a' := ?_) ?_ ?_
    rotate_left; · (show Act.put _ (some 8) _ = _; simp only [Act.put, List.setIfInBounds_toArray, List.set_cons_zero, List.set_cons_succ, i64_w, i32_w]; rfl)
    refine pure_ (i := 2) (N := some 9) (v := ?_) (a' := ?_) #[true, true, true] rfl rfl (by kernel_rfl) (fun _ _ _ h => h) (Or.inl ⟨by rfl, ?_⟩) ?_ ?_
    rotate_left; · (intro w'; go_simp; with_reducible rfl)
    rotate_left; · (simp only [Act.put, List.setIfInBounds_toArray, List.set_cons_zero, List.set_cons_succ, i64_w, i32_w]; rfl)
    refine done_ (by kernel_rfl) ?_
    have hnb26 := NB169_168.out
    have hnc26 := NB168_169.out
    have hnb27 := NB169_170.out
    have hnc27 := NB170_169.out
    have hcz28_0 : w25.cell? ⟨gb169, 0, none⟩ = some (.int .i64 a1_0) := bc BK169 0 rfl
    have hcz28_1 : w25.cell? ⟨gb169, 1, none⟩ = some (.int .i64 a1_1) := bc BK169 1 rfl
    have hfz28_0 := blk_frozen BK169.out 0
    have hfz28_1 := blk_frozen BK169.out 1
    have hnb29 := NB168_170.out
    have hnc29 := NB170_168.out
    have hcz30_0 : w25.cell? ⟨gb168, 0, none⟩ = some (.int .i64 a0_0) := bc BK168 0 rfl
    have hcz30_1 : w25.cell? ⟨gb168, 1, none⟩ = some (.int .i64 a0_1) := bc BK168 1 rfl
    have hfz30_0 := blk_frozen BK168.out 0
    have hfz30_1 := blk_frozen BK168.out 1
    have hcz31_0 : w25.cell? ⟨gb170, 0, none⟩ = some (.int .i64 0) := bc BK170 0 rfl
    have hcz31_1 : w25.cell? ⟨gb170, 1, none⟩ = some (.int .i64 0) := bc BK170 1 rfl
    have hfz31_0 := blk_frozen BK170.out 0
    have hfz31_1 := blk_frozen BK170.out 1
    try go_wp2
    refine bodyPost_ret (results_ct rfl _ _ gb170 59 #[.int .i64 ji18, .int .i64 ji20] (0, 0) _ rfl (by (with_reducible repeat (first | refine blk_drewN ?_ _ | refine blk_drew ?_ | refine blk_alloc ?_ _)); refine blk_put (cs := #[.int .i64 ji18, .int .i64 0]) ?_ 1 _ rfl; (with_reducible repeat (first | refine blk_drewN ?_ _ | refine blk_drew ?_ | refine blk_alloc ?_ _)); refine blk_put (cs := #[.int .i64 0, .int .i64 0]) ?_ 0 _ rfl; (with_reducible repeat (first | refine blk_drewN ?_ _ | refine blk_drew ?_ | refine blk_alloc ?_ _)); exact BK170.out) Try.underlying59 rfl (by kernel_rfl)) rfl ?_
    exact ⟨by first | rfl | (simp [errW_none, errW_some] <;> rfl) | (simp only [← hji13, ← hji16, ← hji17, ← hji18, ← hji19, ← hji20]; first | rfl | (simp [errW_none, errW_some] <;> rfl)) | (simp [*, errW_none, errW_some] <;> rfl), by repeat (first | (with_reducible first | exact HB.out | apply below_alloc | apply pw_below_drewN | apply below_drew1 | refine below_set ?_ GE168.out | refine below_set ?_ GE169.out | refine below_set ?_ GE170.out) | exact HB.out)⟩
   ·
    rw [if_neg c15] at H
    have c15b0 : decide (a1_0 < 0) = false := decide_eq_false c15
    clear c15
    exact absurd H (by simp)
  ·
   rw [if_neg c14] at H
   have c14b0 : (a1_1 == (-9223372036854775808)) = false := beq_eq_false_iff_ne.mpr c14
   have c14b1 : (a1_1 != (-9223372036854775808)) = true := bne_iff_ne.mpr c14
   by_cases c32 : a1_0 < 0
   ·
    rw [if_pos c32] at H
    have c32b0 : decide (a1_0 < 0) = true := decide_eq_true c32
    clear c32
    obtain ⟨ji33, hji33⟩ : ∃ j_ : Int, (mx (ji13) (Go.bits .xor .i64 (-1) a1_0)) = j_ := ⟨_, rfl⟩
    replace H : (some (mn 0 (mx a0_0 (wrap64 (-(ji33)))), mx 0 (mn a0_1 (ji33)), true)) = some (r1, r2, r3) := by first | (rw [hji33] at H; exact H) | (simp only [hji33] at H ⊢; exact H)
    (try rw [hji33] at A3)
    have hji33_ : (if (ji13) < (Go.bits .xor .i64 (-1) a1_0) then (Go.bits .xor .i64 (-1) a1_0) else (ji13)) = ji33 := hji33
    obtain ⟨ji34, hji34⟩ : ∃ j_ : Int, (mx a0_0 (wrap64 (-(ji33)))) = j_ := ⟨_, rfl⟩
    replace H : (some (mn 0 (ji34), mx 0 (mn a0_1 (ji33)), true)) = some (r1, r2, r3) := by first | (rw [hji34] at H; exact H) | (simp only [hji34] at H ⊢; exact H)
    (try rw [hji34] at A3)
    have hji34_ : (if a0_0 < (wrap64 (-(ji33))) then (wrap64 (-(ji33))) else a0_0) = ji34 := hji34
    obtain ⟨ji35, hji35⟩ : ∃ j_ : Int, (mn 0 (ji34)) = j_ := ⟨_, rfl⟩
    replace H : (some (ji35, mx 0 (mn a0_1 (ji33)), true)) = some (r1, r2, r3) := by first | (rw [hji35] at H; exact H) | (simp only [hji35] at H ⊢; exact H)
    (try rw [hji35] at A3)
    have hji35_ : (if (ji34) < 0 then (ji34) else 0) = ji35 := hji35
    obtain ⟨ji36, hji36⟩ : ∃ j_ : Int, (mn a0_1 (ji33)) = j_ := ⟨_, rfl⟩
    replace H : (some (ji35, mx 0 (ji36), true)) = some (r1, r2, r3) := by first | (rw [hji36] at H; exact H) | (simp only [hji36] at H ⊢; exact H)
    (try rw [hji36] at A3)
    have hji36_ : (if (ji33) < a0_1 then (ji33) else a0_1) = ji36 := hji36
    obtain ⟨ji37, hji37⟩ : ∃ j_ : Int, (mx 0 (ji36)) = j_ := ⟨_, rfl⟩
    replace H : (some (ji35, ji37, true)) = some (r1, r2, r3) := by first | (rw [hji37] at H; exact H) | (simp only [hji37] at H ⊢; exact H)
    (try rw [hji37] at A3)
    have hji37_ : (if 0 < (ji36) then (ji36) else 0) = ji37 := hji37
    simp only [Option.some.injEq, Prod.mk.injEq] at H
    obtain ⟨rfl, rfl, rfl⟩ := H
    go_enter Try.func69, Try.ntmps69
    try go_wp2_with (first | ((with_reducible refine gate_dst (N := 2) rfl ?_); refine box_event ?hg (N := 2) ?hd (cs := #[.int .i64 a0_0, .int .i64 a0_1]) (t := 59) ?hr ?_; (case hd => rfl); (case hg => rfl); (case hr => first | (go_simp; done) | (go_simp; rfl)); intro gb168 hg w38 hbox hb; have BK168 := Aside0.mk (hbox); have GW168 := geb hg HB rfl; have GE168 := geb hg HB rfl; replace HB := hst HB hb rfl; clear hb hbox hg) | ((with_reducible refine gate_dst (N := 3) rfl ?_); refine box_event ?hg (N := 3) ?hd (cs := #[.int .i64 a1_0, .int .i64 a1_1]) (t := 59) ?hr ?_; (case hd => rfl); (case hg => rfl); (case hr => first | (go_simp; done) | (go_simp; rfl)); intro gb169 hg w39 hbox hb; have BK169 := Aside0.mk (hbox); have GW169 := geb hg HB rfl; have GE169 := geb hg HB rfl; have NB168_169 := nbl hg BK168 rfl; have NB169_168 := nbr hg BK168 rfl; replace BK168 := bb BK168 hb rfl; replace HB := hst HB hb rfl; clear hb hbox hg) | ((with_reducible refine gate_dst (N := 4) rfl ?_); refine box_event ?hg (N := 4) ?hd (cs := #[.int .i64 0, .int .i64 0]) (t := 59) ?hr ?_; (case hd => rfl); (case hg => rfl); (case hr => first | (go_simp; done) | (go_simp; rfl)); intro gb170 hg w40 hbox hb; have BK170 := Aside0.mk (hbox); have GW170 := geb hg HB rfl; have GE170 := geb hg HB rfl; have NB168_170 := nbl hg BK168 rfl; have NB170_168 := nbr hg BK168 rfl; have NB169_170 := nbl hg BK169 rfl; have NB170_169 := nbr hg BK169 rfl; replace BK168 := bb BK168 hb rfl; replace BK169 := bb BK169 hb rfl; replace HB := hst HB hb rfl; clear hb hbox hg))
    replace BK168 := Aside0.mk (blk_drew BK168.out); replace BK169 := Aside0.mk (blk_drew BK169.out); replace BK170 := Aside0.mk (blk_drew BK170.out); replace HB := Aside0.mk (below_drew1 HB.out)
    refine start_ (n := 3) (S := fun w' => w'.cell? ⟨gb169, 0, none⟩ = some (.int .i64 a1_0) ∧ w'.cell? ⟨gb169, 1, none⟩ = some (.int .i64 a1_1)) (ds := []) #[false, false, false] (by kernel_rfl) rfl rfl ⟨bc BK169 0 rfl, bc BK169 1 rfl⟩ (fun hHeld => ?_)
    generalize w40.drew = w41 at BK168 BK169 BK170 HB hHeld ⊢
    refine take_ (i := 0) (N := some 7) (v := ?_) (a' := ?_) #[true, false, false] rfl rfl (by kernel_rfl) (fun _ _ _ h => h) (Or.inl ⟨by rfl, ?_⟩) hHeld ?_ ?_
    rotate_left
    ·
     rintro w' ⟨s0, s1⟩
     go_simp
     with_reducible rfl
    rotate_left
    ·
     simp only [Act.put, List.setIfInBounds_toArray, List.set_cons_zero, List.set_cons_succ, i64_w, i32_w]
     rfl
    refine one_ (i := 1) (N := some 8) #[true, true, false] rfl rfl (by kernel_rfl) (by decide) (fun K hK => ?_)
    refine goes_ Try.func45 (by kernel_rfl) rfl #[.int .i64 0] (by rfl) rfl rfl (mapq rfl) ?_
    with_reducible refine (span_Of.calls 0 t171 t172 _ A3.out).mono ?_
    rintro e w42 ⟨rfl, hb⟩
    refine ⟨_, rfl, ?_⟩
    replace BK168 := bb BK168 hb rfl; replace BK169 := bb BK169 hb rfl; replace BK170 := bb BK170 hb rfl; replace HB := hst HB hb rfl
    (try clear hb)
    refine hK.out _ _ ⟨bc BK169 0 rfl, bc BK169 1 rfl⟩ (fun hHeld => ?_)
    clear hK K
    refine norm_ (a' := ?_) ?_ ?_
    rotate_left; · (show Act.put _ (some 8) _ = _; simp only [Act.put, List.setIfInBounds_toArray, List.set_cons_zero, List.set_cons_succ, i64_w, i32_w]; rfl)
    refine pure_ (i := 2) (N := some 9) (v := ?_) (a' := ?_) #[true, true, true] rfl rfl (by kernel_rfl) (fun _ _ _ h => h) (Or.inl ⟨by rfl, ?_⟩) ?_ ?_
    rotate_left; · (intro w'; go_simp; with_reducible rfl)
    rotate_left; · (simp only [Act.put, List.setIfInBounds_toArray, List.set_cons_zero, List.set_cons_succ, i64_w, i32_w]; rfl)
    refine done_ (by kernel_rfl) ?_
    have hnb43 := NB169_168.out
    have hnc43 := NB168_169.out
    have hnb44 := NB169_170.out
    have hnc44 := NB170_169.out
    have hcz45_0 : w42.cell? ⟨gb169, 0, none⟩ = some (.int .i64 a1_0) := bc BK169 0 rfl
    have hcz45_1 : w42.cell? ⟨gb169, 1, none⟩ = some (.int .i64 a1_1) := bc BK169 1 rfl
    have hfz45_0 := blk_frozen BK169.out 0
    have hfz45_1 := blk_frozen BK169.out 1
    have hnb46 := NB168_170.out
    have hnc46 := NB170_168.out
    have hcz47_0 : w42.cell? ⟨gb168, 0, none⟩ = some (.int .i64 a0_0) := bc BK168 0 rfl
    have hcz47_1 : w42.cell? ⟨gb168, 1, none⟩ = some (.int .i64 a0_1) := bc BK168 1 rfl
    have hfz47_0 := blk_frozen BK168.out 0
    have hfz47_1 := blk_frozen BK168.out 1
    have hcz48_0 : w42.cell? ⟨gb170, 0, none⟩ = some (.int .i64 0) := bc BK170 0 rfl
    have hcz48_1 : w42.cell? ⟨gb170, 1, none⟩ = some (.int .i64 0) := bc BK170 1 rfl
    have hfz48_0 := blk_frozen BK170.out 0
    have hfz48_1 := blk_frozen BK170.out 1
    try go_wp2
    refine bodyPost_ret (results_ct rfl _ _ gb170 59 #[.int .i64 ji35, .int .i64 ji37] (0, 0) _ rfl (by (with_reducible repeat (first | refine blk_drewN ?_ _ | refine blk_drew ?_ | refine blk_alloc ?_ _)); refine blk_put (cs := #[.int .i64 ji35, .int .i64 0]) ?_ 1 _ rfl; (with_reducible repeat (first | refine blk_drewN ?_ _ | refine blk_drew ?_ | refine blk_alloc ?_ _)); refine blk_put (cs := #[.int .i64 0, .int .i64 0]) ?_ 0 _ rfl; (with_reducible repeat (first | refine blk_drewN ?_ _ | refine blk_drew ?_ | refine blk_alloc ?_ _)); exact BK170.out) Try.underlying59 rfl (by kernel_rfl)) rfl ?_
    exact ⟨by first | rfl | (simp [errW_none, errW_some] <;> rfl) | (simp only [← hji13, ← hji33, ← hji34, ← hji35, ← hji36, ← hji37]; first | rfl | (simp [errW_none, errW_some] <;> rfl)) | (simp [*, errW_none, errW_some] <;> rfl), by repeat (first | (with_reducible first | exact HB.out | apply below_alloc | apply pw_below_drewN | apply below_drew1 | refine below_set ?_ GE168.out | refine below_set ?_ GE169.out | refine below_set ?_ GE170.out) | exact HB.out)⟩
   ·
    rw [if_neg c32] at H
    have c32b0 : decide (a1_0 < 0) = false := decide_eq_false c32
    clear c32
    obtain ⟨ji49, hji49⟩ : ∃ j_ : Int, (mx a0_0 (wrap64 (-(ji13)))) = j_ := ⟨_, rfl⟩
    replace H : (some (mn 0 (ji49), mx 0 (mn a0_1 (ji13)), true)) = some (r1, r2, r3) := by first | (rw [hji49] at H; exact H) | (simp only [hji49] at H ⊢; exact H)
    (try rw [hji49] at A3)
    have hji49_ : (if a0_0 < (wrap64 (-(ji13))) then (wrap64 (-(ji13))) else a0_0) = ji49 := hji49
    obtain ⟨ji50, hji50⟩ : ∃ j_ : Int, (mn 0 (ji49)) = j_ := ⟨_, rfl⟩
    replace H : (some (ji50, mx 0 (mn a0_1 (ji13)), true)) = some (r1, r2, r3) := by first | (rw [hji50] at H; exact H) | (simp only [hji50] at H ⊢; exact H)
    (try rw [hji50] at A3)
    have hji50_ : (if (ji49) < 0 then (ji49) else 0) = ji50 := hji50
    obtain ⟨ji51, hji51⟩ : ∃ j_ : Int, (mn a0_1 (ji13)) = j_ := ⟨_, rfl⟩
    replace H : (some (ji50, mx 0 (ji51), true)) = some (r1, r2, r3) := by first | (rw [hji51] at H; exact H) | (simp only [hji51] at H ⊢; exact H)
    (try rw [hji51] at A3)
    have hji51_ : (if (ji13) < a0_1 then (ji13) else a0_1) = ji51 := hji51
    obtain ⟨ji52, hji52⟩ : ∃ j_ : Int, (mx 0 (ji51)) = j_ := ⟨_, rfl⟩
    replace H : (some (ji50, ji52, true)) = some (r1, r2, r3) := by first | (rw [hji52] at H; exact H) | (simp only [hji52] at H ⊢; exact H)
    (try rw [hji52] at A3)
    have hji52_ : (if 0 < (ji51) then (ji51) else 0) = ji52 := hji52
    simp only [Option.some.injEq, Prod.mk.injEq] at H
    obtain ⟨rfl, rfl, rfl⟩ := H
    go_enter Try.func69, Try.ntmps69
    try go_wp2_with (first | ((with_reducible refine gate_dst (N := 2) rfl ?_); refine box_event ?hg (N := 2) ?hd (cs := #[.int .i64 a0_0, .int .i64 a0_1]) (t := 59) ?hr ?_; (case hd => rfl); (case hg => rfl); (case hr => first | (go_simp; done) | (go_simp; rfl)); intro gb168 hg w53 hbox hb; have BK168 := Aside0.mk (hbox); have GW168 := geb hg HB rfl; have GE168 := geb hg HB rfl; replace HB := hst HB hb rfl; clear hb hbox hg) | ((with_reducible refine gate_dst (N := 3) rfl ?_); refine box_event ?hg (N := 3) ?hd (cs := #[.int .i64 a1_0, .int .i64 a1_1]) (t := 59) ?hr ?_; (case hd => rfl); (case hg => rfl); (case hr => first | (go_simp; done) | (go_simp; rfl)); intro gb169 hg w54 hbox hb; have BK169 := Aside0.mk (hbox); have GW169 := geb hg HB rfl; have GE169 := geb hg HB rfl; have NB168_169 := nbl hg BK168 rfl; have NB169_168 := nbr hg BK168 rfl; replace BK168 := bb BK168 hb rfl; replace HB := hst HB hb rfl; clear hb hbox hg) | ((with_reducible refine gate_dst (N := 4) rfl ?_); refine box_event ?hg (N := 4) ?hd (cs := #[.int .i64 0, .int .i64 0]) (t := 59) ?hr ?_; (case hd => rfl); (case hg => rfl); (case hr => first | (go_simp; done) | (go_simp; rfl)); intro gb170 hg w55 hbox hb; have BK170 := Aside0.mk (hbox); have GW170 := geb hg HB rfl; have GE170 := geb hg HB rfl; have NB168_170 := nbl hg BK168 rfl; have NB170_168 := nbr hg BK168 rfl; have NB169_170 := nbl hg BK169 rfl; have NB170_169 := nbr hg BK169 rfl; replace BK168 := bb BK168 hb rfl; replace BK169 := bb BK169 hb rfl; replace HB := hst HB hb rfl; clear hb hbox hg))
    replace BK168 := Aside0.mk (blk_drew BK168.out); replace BK169 := Aside0.mk (blk_drew BK169.out); replace BK170 := Aside0.mk (blk_drew BK170.out); replace HB := Aside0.mk (below_drew1 HB.out)
    refine start_ (n := 3) (S := fun w' => w'.cell? ⟨gb169, 0, none⟩ = some (.int .i64 a1_0) ∧ w'.cell? ⟨gb169, 1, none⟩ = some (.int .i64 a1_1)) (ds := []) #[false, false, false] (by kernel_rfl) rfl rfl ⟨bc BK169 0 rfl, bc BK169 1 rfl⟩ (fun hHeld => ?_)
    generalize w55.drew = w56 at BK168 BK169 BK170 HB hHeld ⊢
    refine take_ (i := 0) (N := some 7) (v := ?_) (a' := ?_) #[true, false, false] rfl rfl (by kernel_rfl) (fun _ _ _ h => h) (Or.inl ⟨by rfl, ?_⟩) hHeld ?_ ?_
    rotate_left
    ·
     rintro w' ⟨s0, s1⟩
     go_simp
     with_reducible rfl
    rotate_left
    ·
     simp only [Act.put, List.setIfInBounds_toArray, List.set_cons_zero, List.set_cons_succ, i64_w, i32_w]
     rfl
    refine one_ (i := 1) (N := some 8) #[true, true, false] rfl rfl (by kernel_rfl) (by decide) (fun K hK => ?_)
    refine goes_ Try.func45 (by kernel_rfl) rfl #[.int .i64 0] (by rfl) rfl rfl (mapq rfl) ?_
    with_reducible refine (span_Of.calls 0 t171 t172 _ A3.out).mono ?_
    rintro e w57 ⟨rfl, hb⟩
    refine ⟨_, rfl, ?_⟩
    replace BK168 := bb BK168 hb rfl; replace BK169 := bb BK169 hb rfl; replace BK170 := bb BK170 hb rfl; replace HB := hst HB hb rfl
    (try clear hb)
    refine hK.out _ _ ⟨bc BK169 0 rfl, bc BK169 1 rfl⟩ (fun hHeld => ?_)
    clear hK K
    refine norm_ (a' := ?_) ?_ ?_
    rotate_left; · (show Act.put _ (some 8) _ = _; simp only [Act.put, List.setIfInBounds_toArray, List.set_cons_zero, List.set_cons_succ, i64_w, i32_w]; rfl)
    refine pure_ (i := 2) (N := some 9) (v := ?_) (a' := ?_) #[true, true, true] rfl rfl (by kernel_rfl) (fun _ _ _ h => h) (Or.inl ⟨by rfl, ?_⟩) ?_ ?_
    rotate_left; · (intro w'; go_simp; with_reducible rfl)
    rotate_left; · (simp only [Act.put, List.setIfInBounds_toArray, List.set_cons_zero, List.set_cons_succ, i64_w, i32_w]; rfl)
    refine done_ (by kernel_rfl) ?_
    have hnb58 := NB169_168.out
    have hnc58 := NB168_169.out
    have hnb59 := NB169_170.out
    have hnc59 := NB170_169.out
    have hcz60_0 : w57.cell? ⟨gb169, 0, none⟩ = some (.int .i64 a1_0) := bc BK169 0 rfl
    have hcz60_1 : w57.cell? ⟨gb169, 1, none⟩ = some (.int .i64 a1_1) := bc BK169 1 rfl
    have hfz60_0 := blk_frozen BK169.out 0
    have hfz60_1 := blk_frozen BK169.out 1
    have hnb61 := NB168_170.out
    have hnc61 := NB170_168.out
    have hcz62_0 : w57.cell? ⟨gb168, 0, none⟩ = some (.int .i64 a0_0) := bc BK168 0 rfl
    have hcz62_1 : w57.cell? ⟨gb168, 1, none⟩ = some (.int .i64 a0_1) := bc BK168 1 rfl
    have hfz62_0 := blk_frozen BK168.out 0
    have hfz62_1 := blk_frozen BK168.out 1
    have hcz63_0 : w57.cell? ⟨gb170, 0, none⟩ = some (.int .i64 0) := bc BK170 0 rfl
    have hcz63_1 : w57.cell? ⟨gb170, 1, none⟩ = some (.int .i64 0) := bc BK170 1 rfl
    have hfz63_0 := blk_frozen BK170.out 0
    have hfz63_1 := blk_frozen BK170.out 1
    try go_wp2
    refine bodyPost_ret (results_ct rfl _ _ gb170 59 #[.int .i64 ji50, .int .i64 ji52] (0, 0) _ rfl (by (with_reducible repeat (first | refine blk_drewN ?_ _ | refine blk_drew ?_ | refine blk_alloc ?_ _)); refine blk_put (cs := #[.int .i64 ji50, .int .i64 0]) ?_ 1 _ rfl; (with_reducible repeat (first | refine blk_drewN ?_ _ | refine blk_drew ?_ | refine blk_alloc ?_ _)); refine blk_put (cs := #[.int .i64 0, .int .i64 0]) ?_ 0 _ rfl; (with_reducible repeat (first | refine blk_drewN ?_ _ | refine blk_drew ?_ | refine blk_alloc ?_ _)); exact BK170.out) Try.underlying59 rfl (by kernel_rfl)) rfl ?_
    exact ⟨by first | rfl | (simp [errW_none, errW_some] <;> rfl) | (simp only [← hji13, ← hji49, ← hji50, ← hji51, ← hji52]; first | rfl | (simp [errW_none, errW_some] <;> rfl)) | (simp [*, errW_none, errW_some] <;> rfl), by repeat (first | (with_reducible first | exact HB.out | apply below_alloc | apply pw_below_drewN | apply below_drew1 | refine below_set ?_ GE168.out | refine below_set ?_ GE169.out | refine below_set ?_ GE170.out) | exact HB.out)⟩

/-! ### span_Span_above: function 85 -/
def span_Span_above.f (a0_0 : Int) (a0_1 : Int) : Option (Bool) := some (decide (a0_0 ≥ 0))
set_option maxHeartbeats 8000000 in
set_option maxRecDepth 100000 in
theorem span_Span_above.calls (a0_0 : Int) (a0_1 : Int) (r : Bool) (w : World) (h : span_Span_above.f a0_0 a0_1 = some r) :
  Calls Try.prog 85 #[.agg #[.int .i64 a0_0, .int .i64 a0_1]] w fun e w' => e = .returned (.bool r) ∧ Below w.heap.size w w' := by
 have hu59 := Try.underlying59
 have HB := Aside0.mk (Below.refl w.heap.size w)
 have H : (some (decide (a0_0 ≥ 0))) = some r := h
 clear h
 obtain rfl := Option.some.inj H
 go_enter Try.func85, Try.ntmps85
 go_wp2_with (first | ((with_reducible refine gate_dst (N := 1) rfl ?_); refine box_event ?hg (N := 1) ?hd (cs := #[.int .i64 a0_0, .int .i64 a0_1]) (t := 59) ?hr ?_; (case hd => rfl); (case hg => rfl); (case hr => first | (go_simp; done) | (go_simp; rfl)); intro gb173 hg w2 hbox hb; have BK173 := Aside0.mk (hbox); have GW173 := geb hg HB rfl; have GE173 := geb hg HB rfl; replace HB := hst HB hb rfl; clear hb hbox hg; have hcz3_0 : w2.cell? ⟨gb173, 0, none⟩ = some (.int .i64 a0_0) := (blk_cell BK173.out 0).trans rfl; have hcz3_1 : w2.cell? ⟨gb173, 1, none⟩ = some (.int .i64 a0_1) := (blk_cell BK173.out 1).trans rfl; have hfz3_0 := blk_frozen BK173.out 0; have hfz3_1 := blk_frozen BK173.out 1))
 go_ret
 exact ⟨by first | rfl | (simp [errW_none, errW_some] <;> rfl) | (simp [*, errW_none, errW_some] <;> rfl), by repeat (first | (with_reducible first | exact HB.out | apply below_alloc | apply pw_below_drewN | apply below_drew1 | refine below_set ?_ GE173.out) | exact HB.out)⟩

/-! ### span_Span_below: function 86 -/
def span_Span_below.f (a0_0 : Int) (a0_1 : Int) : Option (Bool) := some (decide (a0_1 < 0))
set_option maxHeartbeats 8000000 in
set_option maxRecDepth 100000 in
theorem span_Span_below.calls (a0_0 : Int) (a0_1 : Int) (r : Bool) (w : World) (h : span_Span_below.f a0_0 a0_1 = some r) :
  Calls Try.prog 86 #[.agg #[.int .i64 a0_0, .int .i64 a0_1]] w fun e w' => e = .returned (.bool r) ∧ Below w.heap.size w w' := by
 have hu59 := Try.underlying59
 have HB := Aside0.mk (Below.refl w.heap.size w)
 have H : (some (decide (a0_1 < 0))) = some r := h
 clear h
 obtain rfl := Option.some.inj H
 go_enter Try.func86, Try.ntmps86
 go_wp2_with (first | ((with_reducible refine gate_dst (N := 1) rfl ?_); refine box_event ?hg (N := 1) ?hd (cs := #[.int .i64 a0_0, .int .i64 a0_1]) (t := 59) ?hr ?_; (case hd => rfl); (case hg => rfl); (case hr => first | (go_simp; done) | (go_simp; rfl)); intro gb174 hg w2 hbox hb; have BK174 := Aside0.mk (hbox); have GW174 := geb hg HB rfl; have GE174 := geb hg HB rfl; replace HB := hst HB hb rfl; clear hb hbox hg; have hcz3_0 : w2.cell? ⟨gb174, 0, none⟩ = some (.int .i64 a0_0) := (blk_cell BK174.out 0).trans rfl; have hcz3_1 : w2.cell? ⟨gb174, 1, none⟩ = some (.int .i64 a0_1) := (blk_cell BK174.out 1).trans rfl; have hfz3_0 := blk_frozen BK174.out 0; have hfz3_1 := blk_frozen BK174.out 1))
 go_ret
 exact ⟨by first | rfl | (simp [errW_none, errW_some] <;> rfl) | (simp [*, errW_none, errW_some] <;> rfl), by repeat (first | (with_reducible first | exact HB.out | apply below_alloc | apply pw_below_drewN | apply below_drew1 | refine below_set ?_ GE174.out) | exact HB.out)⟩

/-! ### span_both: function 70 -/
def span_both.j0 : Nat → Bool → Int → Int → Int → Int → Option (Int × Int)
 | 0, _, _, _, _, _ => none
 | k + 1, x5, x176000, x176001, x177000, x177001 => if x5 = true then (some (0, mn x176001 x177001)) else ((span_Span_above.f x176000 x176001).bind fun t180 => (if t180 = true then (some (0, x176001)) else ((span_Span_above.f x177000 x177001).bind fun t181 => (if t181 = true then (some (0, x177001)) else ((span_Span_below.f x176000 x176001).bind fun t182 => (if t182 = true then ((span_Span_below.f x177000 x177001).bind fun t183 => (if t183 = true then (some ((-9223372036854775808), mn x176001 x177001)) else (some ((-9223372036854775808), mx x176001 x177001)))) else (some ((-9223372036854775808), mx x176001 x177001))))))))
def span_both.f (k : Nat) (a0_0 : Int) (a0_1 : Int) (a1_0 : Int) (a1_1 : Int) : Option (Int × Int) := (span_Span_above.f a0_0 a0_1).bind fun t178 => (if t178 = true then ((span_Span_above.f a1_0 a1_1).bind fun t179 => (span_both.j0 k t179 a0_0 a0_1 a1_0 a1_1)) else (span_both.j0 k false a0_0 a0_1 a1_0 a1_1))
theorem span_both.mono_l : ∀ k, (∀ y0 y1 y2 y3 y4, LeO (span_both.j0 k y0 y1 y2 y3 y4) (span_both.j0 (k + 1) y0 y1 y2 y3 y4))
 | 0 => fun _ _ _ _ _ r h => by simp [span_both.j0] at h
 | k + 1 => by
  have ih0 := span_both.mono_l k
  ·
   intro y0 y1 y2 y3 y4
   unfold span_both.j0
   repeat' first
   | (with_reducible exact ih0 _ _ _ _ _)
   | (with_reducible exact LeO.refl _)
   | (with_reducible exact LeO.none _)
   | (with_reducible refine LeO.ite ?_ ?_)
   | (with_reducible refine LeO.bind ?_ (fun _ => ?_))
   | exact ih0 _ _ _ _ _
   | exact LeO.none _
   | refine LeO.ite ?_ ?_
   | refine LeO.bind ?_ (fun _ => ?_)
theorem span_both.mono : ∀ a0 a1 a2 a3 k, LeO (span_both.f k a0 a1 a2 a3) (span_both.f (k + 1) a0 a1 a2 a3) := by
 intro a0 a1 a2 a3 k
 have ih0 := span_both.mono_l k
 unfold span_both.f
 repeat' first
   | (with_reducible exact ih0 _ _ _ _ _)
   | (with_reducible exact LeO.refl _)
   | (with_reducible exact LeO.none _)
   | (with_reducible refine LeO.ite ?_ ?_)
   | (with_reducible refine LeO.bind ?_ (fun _ => ?_))
   | exact ih0 _ _ _ _ _
   | exact LeO.none _
   | refine LeO.ite ?_ ?_
   | refine LeO.bind ?_ (fun _ => ?_)
set_option maxHeartbeats 8000000 in
set_option maxRecDepth 100000 in
theorem span_both.calls (k : Nat) (a0_0 : Int) (a0_1 : Int) (a1_0 : Int) (a1_1 : Int) (r1 : Int) (r2 : Int) (w : World) (h : span_both.f k a0_0 a0_1 a1_0 a1_1 = some (r1, r2)) :
  Calls Try.prog 70 #[.agg #[.int .i64 a0_0, .int .i64 a0_1], .agg #[.int .i64 a1_0, .int .i64 a1_1]] w fun e w' => e = .returned (.agg #[.int .i64 r1, .int .i64 r2]) ∧ Below w.heap.size w w' := by
 have hu59 := Try.underlying59
 have HB := Aside0.mk (Below.refl w.heap.size w)
 have H : ((span_Span_above.f a0_0 a0_1).bind fun t178 => (if t178 = true then ((span_Span_above.f a1_0 a1_1).bind fun t179 => (span_both.j0 k t179 a0_0 a0_1 a1_0 a1_1)) else (span_both.j0 k false a0_0 a0_1 a1_0 a1_1))) = some (r1, r2) := h
 clear h
 have HC3 := Aside0.mk H
 clear H
 go_enter Try.func70, Try.ntmps70
 go_upto_region 1 with (first | ((with_reducible refine gate_dst (N := 2) rfl ?_); refine box_event ?hg (N := 2) ?hd (cs := #[.int .i64 a0_0, .int .i64 a0_1]) (t := 59) ?hr ?_; (case hd => rfl); (case hg => rfl); (case hr => first | (go_simp; done) | (go_simp; rfl)); intro gb175 hg w4 hbox hb; have BK175 := Aside0.mk (hbox); have GW175 := geb hg HB rfl; have GE175 := geb hg HB rfl; replace HB := hst HB hb rfl; clear hb hbox hg) | ((with_reducible refine gate_dst (N := 3) rfl ?_); refine box_event ?hg (N := 3) ?hd (cs := #[.int .i64 a1_0, .int .i64 a1_1]) (t := 59) ?hr ?_; (case hd => rfl); (case hg => rfl); (case hr => first | (go_simp; done) | (go_simp; rfl)); intro gb176 hg w5 hbox hb; have BK176 := Aside0.mk (hbox); have GW176 := geb hg HB rfl; have GE176 := geb hg HB rfl; have NB175_176 := nbl hg BK175 rfl; have NB176_175 := nbr hg BK175 rfl; replace BK175 := bb BK175 hb rfl; replace HB := hst HB hb rfl; clear hb hbox hg) | ((with_reducible refine gate_dst (N := 4) rfl ?_); refine box_event ?hg (N := 4) ?hd (cs := #[.int .i64 0, .int .i64 0]) (t := 59) ?hr ?_; (case hd => rfl); (case hg => rfl); (case hr => first | (go_simp; done) | (go_simp; rfl)); intro gb177 hg w6 hbox hb; have BK177 := Aside0.mk (hbox); have GW177 := geb hg HB rfl; have GE177 := geb hg HB rfl; have NB175_177 := nbl hg BK175 rfl; have NB177_175 := nbr hg BK175 rfl; have NB176_177 := nbl hg BK176 rfl; have NB177_176 := nbr hg BK176 rfl; replace BK175 := bb BK175 hb rfl; replace BK176 := bb BK176 hb rfl; replace HB := hst HB hb rfl; clear hb hbox hg))
 (try simp only [Act.put, List.setIfInBounds_toArray, List.set_cons_zero, List.set_cons_succ])
 go_cut [5] (fun v5 wc => ∃ (kq : Nat) (x5_2 : Bool), v5 = .bool x5_2 ∧ Aside0 (span_both.j0 kq x5_2 a0_0 a0_1 a1_0 a1_1 = some (r1, r2)) ∧ Aside0 (kq ≤ k) ∧ Aside0 (wc.heap[gb175]? = some (.cells #[.int .i64 a0_0, .int .i64 a0_1] 59 (0, 0))) ∧ Aside0 (wc.heap[gb176]? = some (.cells #[.int .i64 a1_0, .int .i64 a1_1] 59 (0, 0))) ∧ Aside0 (wc.heap[gb177]? = some (.cells #[.int .i64 0, .int .i64 0] 59 (0, 0))) ∧ Aside0 (Below w.heap.size w wc))
 case first =>
  have H := HC3.out
  clear HC3
  replace H := Option.bind_eq_some_iff.mp H
  obtain ⟨t178, A70, H⟩ := H
  (try dsimp only at H)
  have A7 := Aside0.mk A70
  clear A70
  by_cases c8 : t178 = true
  ·
   subst c8
   rw [if_pos rfl] at H
   replace H := Option.bind_eq_some_iff.mp H
   obtain ⟨t179, A90, H⟩ := H
   (try dsimp only at H)
   have A9 := Aside0.mk A90
   clear A90
   have H' := Aside0.mk H
   clear H
   have hnb10 := NB175_176.out
   have hnc10 := NB176_175.out
   have hnb11 := NB175_177.out
   have hnc11 := NB177_175.out
   have hcz12_0 : w6.cell? ⟨gb175, 0, none⟩ = some (.int .i64 a0_0) := bc BK175 0 rfl
   have hcz12_1 : w6.cell? ⟨gb175, 1, none⟩ = some (.int .i64 a0_1) := bc BK175 1 rfl
   have hfz12_0 := blk_frozen BK175.out 0
   have hfz12_1 := blk_frozen BK175.out 1
   go_wp2_with (first | ((with_reducible refine gate_callee (f := 85) rfl ?_); refine goesL_ (some 7) rfl rfl Try.func85 (by kernel_rfl) rfl #[.agg #[.int .i64 a0_0, .int .i64 a0_1]] rfl (mapq rfl) ?_; (with_reducible refine (span_Span_above.calls a0_0 a0_1 true _ A7.out).mono ?_); rintro e w13 ⟨rfl, hb⟩; refine ⟨_, rfl, ?_⟩; replace BK175 := bb BK175 hb rfl; replace BK176 := bb BK176 hb rfl; replace BK177 := bb BK177 hb rfl; replace HB := hst HB hb rfl; (try clear hb); have hnb14 := NB176_177.out; have hnc14 := NB177_176.out; have hcz15_0 : w13.cell? ⟨gb176, 0, none⟩ = some (.int .i64 a1_0) := (blk_cell BK176.out 0).trans rfl; have hcz15_1 : w13.cell? ⟨gb176, 1, none⟩ = some (.int .i64 a1_1) := (blk_cell BK176.out 1).trans rfl; have hfz15_0 := blk_frozen BK176.out 0; have hfz15_1 := blk_frozen BK176.out 1) | (go_at_call 85; (with_reducible refine (span_Span_above.calls a1_0 a1_1 t179 _ A9.out).mono ?_); rintro e w16 ⟨rfl, hb⟩; replace BK175 := bb BK175 hb rfl; replace BK176 := bb BK176 hb rfl; replace BK177 := bb BK177 hb rfl; replace HB := hst HB hb rfl; (try clear hb)))
   go_meet
   case rel => exact ⟨_, (t179), (by first | rfl | (simp; done) | (simp [*]; done)), H', ⟨by first | omega | exact Nat.le_refl _⟩, ⟨by (with_reducible repeat (first | refine blk_drewN ?_ _ | refine blk_drew ?_ | refine blk_alloc ?_ _)); exact BK175.out⟩, ⟨by (with_reducible repeat (first | refine blk_drewN ?_ _ | refine blk_drew ?_ | refine blk_alloc ?_ _)); exact BK176.out⟩, ⟨by (with_reducible repeat (first | refine blk_drewN ?_ _ | refine blk_drew ?_ | refine blk_alloc ?_ _)); exact BK177.out⟩, ⟨by repeat (first | (with_reducible first | exact HB.out | apply below_alloc | apply pw_below_drewN | apply below_drew1 | refine below_set ?_ GE175.out | refine below_set ?_ GE176.out | refine below_set ?_ GE177.out) | exact HB.out)⟩⟩
  ·
   replace c8 := Bool.eq_false_iff.mpr c8
   subst c8
   rw [if_neg (show ¬ (false = true) by decide)] at H
   have H' := Aside0.mk H
   clear H
   have hnb17 := NB175_176.out
   have hnc17 := NB176_175.out
   have hnb18 := NB175_177.out
   have hnc18 := NB177_175.out
   have hcz19_0 : w6.cell? ⟨gb175, 0, none⟩ = some (.int .i64 a0_0) := bc BK175 0 rfl
   have hcz19_1 : w6.cell? ⟨gb175, 1, none⟩ = some (.int .i64 a0_1) := bc BK175 1 rfl
   have hfz19_0 := blk_frozen BK175.out 0
   have hfz19_1 := blk_frozen BK175.out 1
   go_wp2_with (first | ((with_reducible refine gate_callee (f := 85) rfl ?_); refine goesL_ (some 7) rfl rfl Try.func85 (by kernel_rfl) rfl #[.agg #[.int .i64 a0_0, .int .i64 a0_1]] rfl (mapq rfl) ?_; (with_reducible refine (span_Span_above.calls a0_0 a0_1 false _ A7.out).mono ?_); rintro e w20 ⟨rfl, hb⟩; refine ⟨_, rfl, ?_⟩; replace BK175 := bb BK175 hb rfl; replace BK176 := bb BK176 hb rfl; replace BK177 := bb BK177 hb rfl; replace HB := hst HB hb rfl; (try clear hb)))
   go_meet
   case rel => exact ⟨_, (false), (by first | rfl | (simp; done) | (simp [*]; done)), H', ⟨by first | omega | exact Nat.le_refl _⟩, ⟨by (with_reducible repeat (first | refine blk_drewN ?_ _ | refine blk_drew ?_ | refine blk_alloc ?_ _)); exact BK175.out⟩, ⟨by (with_reducible repeat (first | refine blk_drewN ?_ _ | refine blk_drew ?_ | refine blk_alloc ?_ _)); exact BK176.out⟩, ⟨by (with_reducible repeat (first | refine blk_drewN ?_ _ | refine blk_drew ?_ | refine blk_alloc ?_ _)); exact BK177.out⟩, ⟨by repeat (first | (with_reducible first | exact HB.out | apply below_alloc | apply pw_below_drewN | apply below_drew1 | refine below_set ?_ GE175.out | refine below_set ?_ GE176.out | refine below_set ?_ GE177.out) | exact HB.out)⟩⟩
 case rest =>
  clear HC3
  try clear c1
  try clear p2
  try clear c7
  try clear c8
  try clear c10
  try clear c11
  try clear c14
  try clear c17
  try clear c18
  try clear hcz12_0
  try clear hcz12_1
  try clear hcz15_0
  try clear hcz15_1
  try clear hcz19_0
  try clear hcz19_1
  try clear hfz12_0
  try clear hfz12_1
  try clear hfz15_0
  try clear hfz15_1
  try clear hfz19_0
  try clear hfz19_1
  obtain ⟨kq, x5_2, rfl, HA, HJ2, BK175, BK176, BK177, HB⟩ := hcut
  cases kq with
  | zero => exact absurd HA.out (by simp [span_both.j0])
  | succ kj2 =>
   have H := HA.out
   clear HA
   simp only [span_both.j0] at H
   by_cases c21 : x5_2 = true
   ·
    subst c21
    rw [if_pos rfl] at H
    obtain ⟨ji22, hji22⟩ : ∃ j_ : Int, (mn a0_1 a1_1) = j_ := ⟨_, rfl⟩
    replace H : (some (0, ji22)) = some (r1, r2) := by first | (rw [hji22] at H; exact H) | (simp only [hji22] at H ⊢; exact H)
    have hji22_ : (if a1_1 < a0_1 then a1_1 else a0_1) = ji22 := hji22
    simp only [Option.some.injEq, Prod.mk.injEq] at H
    obtain ⟨rfl, rfl⟩ := H
    have hnb23 := NB175_176.out
    have hnc23 := NB176_175.out
    have hnb24 := NB175_177.out
    have hnc24 := NB177_175.out
    have hcz25_0 : wc.cell? ⟨gb175, 0, none⟩ = some (.int .i64 a0_0) := bc BK175 0 rfl
    have hcz25_1 : wc.cell? ⟨gb175, 1, none⟩ = some (.int .i64 a0_1) := bc BK175 1 rfl
    have hfz25_0 := blk_frozen BK175.out 0
    have hfz25_1 := blk_frozen BK175.out 1
    have hnb26 := NB176_177.out
    have hnc26 := NB177_176.out
    have hcz27_0 : wc.cell? ⟨gb176, 0, none⟩ = some (.int .i64 a1_0) := bc BK176 0 rfl
    have hcz27_1 : wc.cell? ⟨gb176, 1, none⟩ = some (.int .i64 a1_1) := bc BK176 1 rfl
    have hfz27_0 := blk_frozen BK176.out 0
    have hfz27_1 := blk_frozen BK176.out 1
    have hcz28_0 : wc.cell? ⟨gb177, 0, none⟩ = some (.int .i64 0) := bc BK177 0 rfl
    have hcz28_1 : wc.cell? ⟨gb177, 1, none⟩ = some (.int .i64 0) := bc BK177 1 rfl
    have hfz28_0 := blk_frozen BK177.out 0
    have hfz28_1 := blk_frozen BK177.out 1
    go_wp2
    refine bodyPost_ret (results_cell_row rfl _ _ gb177 59 #[.int .i64 0, .int .i64 ji22] (0, 0) _ rfl (by (with_reducible repeat (first | refine blk_drewN ?_ _ | refine blk_drew ?_ | refine blk_alloc ?_ _)); refine blk_put (cs := #[.int .i64 0, .int .i64 0]) ?_ 1 _ rfl; (with_reducible repeat (first | refine blk_drewN ?_ _ | refine blk_drew ?_ | refine blk_alloc ?_ _)); refine blk_put (cs := #[.int .i64 0, .int .i64 0]) ?_ 0 _ rfl; (with_reducible repeat (first | refine blk_drewN ?_ _ | refine blk_drew ?_ | refine blk_alloc ?_ _)); exact BK177.out) Try.underlying59 rfl (by kernel_rfl)) rfl ?_
    exact ⟨by first | rfl | (simp [errW_none, errW_some] <;> rfl) | (simp only [← hji22]; first | rfl | (simp [errW_none, errW_some] <;> rfl)) | (simp [*, errW_none, errW_some] <;> rfl), by repeat (first | (with_reducible first | exact HB.out | apply below_alloc | apply pw_below_drewN | apply below_drew1 | refine below_set ?_ GE175.out | refine below_set ?_ GE176.out | refine below_set ?_ GE177.out) | exact HB.out)⟩
   ·
    replace c21 := Bool.eq_false_iff.mpr c21
    subst c21
    rw [if_neg (show ¬ (false = true) by decide)] at H
    replace H := Option.bind_eq_some_iff.mp H
    obtain ⟨t180, A290, H⟩ := H
    (try dsimp only at H)
    have A29 := Aside0.mk A290
    clear A290
    by_cases c30 : t180 = true
    ·
     subst c30
     rw [if_pos rfl] at H
     simp only [Option.some.injEq, Prod.mk.injEq] at H
     obtain ⟨rfl, rfl⟩ := H
     have hnb31 := NB175_176.out
     have hnc31 := NB176_175.out
     have hnb32 := NB175_177.out
     have hnc32 := NB177_175.out
     have hcz33_0 : wc.cell? ⟨gb175, 0, none⟩ = some (.int .i64 a0_0) := bc BK175 0 rfl
     have hcz33_1 : wc.cell? ⟨gb175, 1, none⟩ = some (.int .i64 a0_1) := bc BK175 1 rfl
     have hfz33_0 := blk_frozen BK175.out 0
     have hfz33_1 := blk_frozen BK175.out 1
     go_wp2_with (first | ((with_reducible refine gate_callee (f := 85) rfl ?_); refine goesL_ (some 20) rfl rfl Try.func85 (by kernel_rfl) rfl #[.agg #[.int .i64 a0_0, .int .i64 a0_1]] rfl (mapq rfl) ?_; (with_reducible refine (span_Span_above.calls a0_0 a0_1 true _ A29.out).mono ?_); rintro e w34 ⟨rfl, hb⟩; refine ⟨_, rfl, ?_⟩; replace BK175 := bb BK175 hb rfl; replace BK176 := bb BK176 hb rfl; replace BK177 := bb BK177 hb rfl; replace HB := hst HB hb rfl; (try clear hb); have hcz35_0 : w34.cell? ⟨gb175, 0, none⟩ = some (.int .i64 a0_0) := (blk_cell BK175.out 0).trans rfl; have hcz35_1 : w34.cell? ⟨gb175, 1, none⟩ = some (.int .i64 a0_1) := (blk_cell BK175.out 1).trans rfl; have hfz35_0 := blk_frozen BK175.out 0; have hfz35_1 := blk_frozen BK175.out 1; have hnb36 := NB177_176.out; have hnc36 := NB176_177.out; have hcz37_0 : w34.cell? ⟨gb177, 0, none⟩ = some (.int .i64 0) := (blk_cell BK177.out 0).trans rfl; have hcz37_1 : w34.cell? ⟨gb177, 1, none⟩ = some (.int .i64 0) := (blk_cell BK177.out 1).trans rfl; have hfz37_0 := blk_frozen BK177.out 0; have hfz37_1 := blk_frozen BK177.out 1))
     refine bodyPost_ret (results_cell_row rfl _ _ gb177 59 #[.int .i64 0, .int .i64 a0_1] (0, 0) _ rfl (by (with_reducible repeat (first | refine blk_drewN ?_ _ | refine blk_drew ?_ | refine blk_alloc ?_ _)); refine blk_put (cs := #[.int .i64 0, .int .i64 0]) ?_ 1 _ rfl; (with_reducible repeat (first | refine blk_drewN ?_ _ | refine blk_drew ?_ | refine blk_alloc ?_ _)); refine blk_put (cs := #[.int .i64 0, .int .i64 0]) ?_ 0 _ rfl; (with_reducible repeat (first | refine blk_drewN ?_ _ | refine blk_drew ?_ | refine blk_alloc ?_ _)); exact BK177.out) Try.underlying59 rfl (by kernel_rfl)) rfl ?_
     exact ⟨by first | rfl | (simp [errW_none, errW_some] <;> rfl) | (simp [*, errW_none, errW_some] <;> rfl), by repeat (first | (with_reducible first | exact HB.out | apply below_alloc | apply pw_below_drewN | apply below_drew1 | refine below_set ?_ GE175.out | refine below_set ?_ GE176.out | refine below_set ?_ GE177.out) | exact HB.out)⟩
    ·
     replace c30 := Bool.eq_false_iff.mpr c30
     subst c30
     rw [if_neg (show ¬ (false = true) by decide)] at H
     replace H := Option.bind_eq_some_iff.mp H
     obtain ⟨t181, A380, H⟩ := H
     (try dsimp only at H)
     have A38 := Aside0.mk A380
     clear A380
     by_cases c39 : t181 = true
     ·
      subst c39
      rw [if_pos rfl] at H
      simp only [Option.some.injEq, Prod.mk.injEq] at H
      obtain ⟨rfl, rfl⟩ := H
      have hnb40 := NB175_176.out
      have hnc40 := NB176_175.out
      have hnb41 := NB175_177.out
      have hnc41 := NB177_175.out
      have hcz42_0 : wc.cell? ⟨gb175, 0, none⟩ = some (.int .i64 a0_0) := bc BK175 0 rfl
      have hcz42_1 : wc.cell? ⟨gb175, 1, none⟩ = some (.int .i64 a0_1) := bc BK175 1 rfl
      have hfz42_0 := blk_frozen BK175.out 0
      have hfz42_1 := blk_frozen BK175.out 1
      go_wp2_with (first | ((with_reducible refine gate_callee (f := 85) rfl ?_); refine goesL_ (some 20) rfl rfl Try.func85 (by kernel_rfl) rfl #[.agg #[.int .i64 a0_0, .int .i64 a0_1]] rfl (mapq rfl) ?_; (with_reducible refine (span_Span_above.calls a0_0 a0_1 false _ A29.out).mono ?_); rintro e w43 ⟨rfl, hb⟩; refine ⟨_, rfl, ?_⟩; replace BK175 := bb BK175 hb rfl; replace BK176 := bb BK176 hb rfl; replace BK177 := bb BK177 hb rfl; replace HB := hst HB hb rfl; (try clear hb); have hnb44 := NB176_177.out; have hnc44 := NB177_176.out; have hcz45_0 : w43.cell? ⟨gb176, 0, none⟩ = some (.int .i64 a1_0) := (blk_cell BK176.out 0).trans rfl; have hcz45_1 : w43.cell? ⟨gb176, 1, none⟩ = some (.int .i64 a1_1) := (blk_cell BK176.out 1).trans rfl; have hfz45_0 := blk_frozen BK176.out 0; have hfz45_1 := blk_frozen BK176.out 1) | ((with_reducible refine gate_callee (f := 85) rfl ?_); refine goesL_ (some 26) rfl rfl Try.func85 (by kernel_rfl) rfl #[.agg #[.int .i64 a1_0, .int .i64 a1_1]] rfl (mapq rfl) ?_; (with_reducible refine (span_Span_above.calls a1_0 a1_1 true _ A38.out).mono ?_); rintro e w46 ⟨rfl, hb⟩; refine ⟨_, rfl, ?_⟩; replace BK175 := bb BK175 hb rfl; replace BK176 := bb BK176 hb rfl; replace BK177 := bb BK177 hb rfl; replace HB := hst HB hb rfl; (try clear hb); have hcz47_0 : w46.cell? ⟨gb176, 0, none⟩ = some (.int .i64 a1_0) := (blk_cell BK176.out 0).trans rfl; have hcz47_1 : w46.cell? ⟨gb176, 1, none⟩ = some (.int .i64 a1_1) := (blk_cell BK176.out 1).trans rfl; have hfz47_0 := blk_frozen BK176.out 0; have hfz47_1 := blk_frozen BK176.out 1; have hcz48_0 : w46.cell? ⟨gb177, 0, none⟩ = some (.int .i64 0) := (blk_cell BK177.out 0).trans rfl; have hcz48_1 : w46.cell? ⟨gb177, 1, none⟩ = some (.int .i64 0) := (blk_cell BK177.out 1).trans rfl; have hfz48_0 := blk_frozen BK177.out 0; have hfz48_1 := blk_frozen BK177.out 1))
      refine bodyPost_ret (results_cell_row rfl _ _ gb177 59 #[.int .i64 0, .int .i64 a1_1] (0, 0) _ rfl (by (with_reducible repeat (first | refine blk_drewN ?_ _ | refine blk_drew ?_ | refine blk_alloc ?_ _)); refine blk_put (cs := #[.int .i64 0, .int .i64 0]) ?_ 1 _ rfl; (with_reducible repeat (first | refine blk_drewN ?_ _ | refine blk_drew ?_ | refine blk_alloc ?_ _)); refine blk_put (cs := #[.int .i64 0, .int .i64 0]) ?_ 0 _ rfl; (with_reducible repeat (first | refine blk_drewN ?_ _ | refine blk_drew ?_ | refine blk_alloc ?_ _)); exact BK177.out) Try.underlying59 rfl (by kernel_rfl)) rfl ?_
      exact ⟨by first | rfl | (simp [errW_none, errW_some] <;> rfl) | (simp [*, errW_none, errW_some] <;> rfl), by repeat (first | (with_reducible first | exact HB.out | apply below_alloc | apply pw_below_drewN | apply below_drew1 | refine below_set ?_ GE175.out | refine below_set ?_ GE176.out | refine below_set ?_ GE177.out) | exact HB.out)⟩
     ·
      replace c39 := Bool.eq_false_iff.mpr c39
      subst c39
      rw [if_neg (show ¬ (false = true) by decide)] at H
      replace H := Option.bind_eq_some_iff.mp H
      obtain ⟨t182, A490, H⟩ := H
      (try dsimp only at H)
      have A49 := Aside0.mk A490
      clear A490
      by_cases c50 : t182 = true
      ·
       subst c50
       rw [if_pos rfl] at H
       replace H := Option.bind_eq_some_iff.mp H
       obtain ⟨t183, A510, H⟩ := H
       (try dsimp only at H)
       have A51 := Aside0.mk A510
       clear A510
       by_cases c52 : t183 = true
       ·
        subst c52
        rw [if_pos rfl] at H
        obtain ⟨ji53, hji53⟩ : ∃ j_ : Int, (mn a0_1 a1_1) = j_ := ⟨_, rfl⟩
        replace H : (some ((-9223372036854775808), ji53)) = some (r1, r2) := by first | (rw [hji53] at H; exact H) | (simp only [hji53] at H ⊢; exact H)
        (try rw [hji53] at A29)
        (try rw [hji53] at A38)
        (try rw [hji53] at A49)
        (try rw [hji53] at A51)
        have hji53_ : (if a1_1 < a0_1 then a1_1 else a0_1) = ji53 := hji53
        simp only [Option.some.injEq, Prod.mk.injEq] at H
        obtain ⟨rfl, rfl⟩ := H
        have hnb54 := NB175_176.out
        have hnc54 := NB176_175.out
        have hnb55 := NB175_177.out
        have hnc55 := NB177_175.out
        have hcz56_0 : wc.cell? ⟨gb175, 0, none⟩ = some (.int .i64 a0_0) := bc BK175 0 rfl
        have hcz56_1 : wc.cell? ⟨gb175, 1, none⟩ = some (.int .i64 a0_1) := bc BK175 1 rfl
        have hfz56_0 := blk_frozen BK175.out 0
        have hfz56_1 := blk_frozen BK175.out 1
        go_wp2_with (first | ((with_reducible refine gate_callee (f := 85) rfl ?_); refine goesL_ (some 20) rfl rfl Try.func85 (by kernel_rfl) rfl #[.agg #[.int .i64 a0_0, .int .i64 a0_1]] rfl (mapq rfl) ?_; (with_reducible refine (span_Span_above.calls a0_0 a0_1 false _ A29.out).mono ?_); rintro e w57 ⟨rfl, hb⟩; refine ⟨_, rfl, ?_⟩; replace BK175 := bb BK175 hb rfl; replace BK176 := bb BK176 hb rfl; replace BK177 := bb BK177 hb rfl; replace HB := hst HB hb rfl; (try clear hb); have hnb58 := NB176_177.out; have hnc58 := NB177_176.out; have hcz59_0 : w57.cell? ⟨gb176, 0, none⟩ = some (.int .i64 a1_0) := (blk_cell BK176.out 0).trans rfl; have hcz59_1 : w57.cell? ⟨gb176, 1, none⟩ = some (.int .i64 a1_1) := (blk_cell BK176.out 1).trans rfl; have hfz59_0 := blk_frozen BK176.out 0; have hfz59_1 := blk_frozen BK176.out 1) | ((with_reducible refine gate_callee (f := 85) rfl ?_); refine goesL_ (some 26) rfl rfl Try.func85 (by kernel_rfl) rfl #[.agg #[.int .i64 a1_0, .int .i64 a1_1]] rfl (mapq rfl) ?_; (with_reducible refine (span_Span_above.calls a1_0 a1_1 false _ A38.out).mono ?_); rintro e w60 ⟨rfl, hb⟩; refine ⟨_, rfl, ?_⟩; replace BK175 := bb BK175 hb rfl; replace BK176 := bb BK176 hb rfl; replace BK177 := bb BK177 hb rfl; replace HB := hst HB hb rfl; (try clear hb); have hcz61_0 : w60.cell? ⟨gb175, 0, none⟩ = some (.int .i64 a0_0) := (blk_cell BK175.out 0).trans rfl; have hcz61_1 : w60.cell? ⟨gb175, 1, none⟩ = some (.int .i64 a0_1) := (blk_cell BK175.out 1).trans rfl; have hfz61_0 := blk_frozen BK175.out 0; have hfz61_1 := blk_frozen BK175.out 1) | ((with_reducible refine gate_callee (f := 86) rfl ?_); refine goesL_ (some 32) rfl rfl Try.func86 (by kernel_rfl) rfl #[.agg #[.int .i64 a0_0, .int .i64 a0_1]] rfl (mapq rfl) ?_; (with_reducible refine (span_Span_below.calls a0_0 a0_1 true _ A49.out).mono ?_); rintro e w62 ⟨rfl, hb⟩; refine ⟨_, rfl, ?_⟩; replace BK175 := bb BK175 hb rfl; replace BK176 := bb BK176 hb rfl; replace BK177 := bb BK177 hb rfl; replace HB := hst HB hb rfl; (try clear hb); have hcz63_0 : w62.cell? ⟨gb176, 0, none⟩ = some (.int .i64 a1_0) := (blk_cell BK176.out 0).trans rfl; have hcz63_1 : w62.cell? ⟨gb176, 1, none⟩ = some (.int .i64 a1_1) := (blk_cell BK176.out 1).trans rfl; have hfz63_0 := blk_frozen BK176.out 0; have hfz63_1 := blk_frozen BK176.out 1) | (go_at_call 86; (with_reducible refine (span_Span_below.calls a1_0 a1_1 true _ A51.out).mono ?_); rintro e w64 ⟨rfl, hb⟩; replace BK175 := bb BK175 hb rfl; replace BK176 := bb BK176 hb rfl; replace BK177 := bb BK177 hb rfl; replace HB := hst HB hb rfl; (try clear hb); have hcz65_0 : w64.cell? ⟨gb175, 0, none⟩ = some (.int .i64 a0_0) := (blk_cell BK175.out 0).trans rfl; have hcz65_1 : w64.cell? ⟨gb175, 1, none⟩ = some (.int .i64 a0_1) := (blk_cell BK175.out 1).trans rfl; have hfz65_0 := blk_frozen BK175.out 0; have hfz65_1 := blk_frozen BK175.out 1; have hcz66_0 : w64.cell? ⟨gb176, 0, none⟩ = some (.int .i64 a1_0) := (blk_cell BK176.out 0).trans rfl; have hcz66_1 : w64.cell? ⟨gb176, 1, none⟩ = some (.int .i64 a1_1) := (blk_cell BK176.out 1).trans rfl; have hfz66_0 := blk_frozen BK176.out 0; have hfz66_1 := blk_frozen BK176.out 1; have hcz67_0 : w64.cell? ⟨gb177, 0, none⟩ = some (.int .i64 0) := (blk_cell BK177.out 0).trans rfl; have hcz67_1 : w64.cell? ⟨gb177, 1, none⟩ = some (.int .i64 0) := (blk_cell BK177.out 1).trans rfl; have hfz67_0 := blk_frozen BK177.out 0; have hfz67_1 := blk_frozen BK177.out 1))
        refine bodyPost_ret (results_cell_row rfl _ _ gb177 59 #[.int .i64 (-9223372036854775808), .int .i64 ji53] (0, 0) _ rfl (by (with_reducible repeat (first | refine blk_drewN ?_ _ | refine blk_drew ?_ | refine blk_alloc ?_ _)); refine blk_put (cs := #[.int .i64 (-9223372036854775808), .int .i64 0]) ?_ 1 _ rfl; (with_reducible repeat (first | refine blk_drewN ?_ _ | refine blk_drew ?_ | refine blk_alloc ?_ _)); refine blk_put (cs := #[.int .i64 0, .int .i64 0]) ?_ 0 _ rfl; (with_reducible repeat (first | refine blk_drewN ?_ _ | refine blk_drew ?_ | refine blk_alloc ?_ _)); exact BK177.out) Try.underlying59 rfl (by kernel_rfl)) rfl ?_
        exact ⟨by first | rfl | (simp [errW_none, errW_some] <;> rfl) | (simp only [← hji53]; first | rfl | (simp [errW_none, errW_some] <;> rfl)) | (simp [*, errW_none, errW_some] <;> rfl), by repeat (first | (with_reducible first | exact HB.out | apply below_alloc | apply pw_below_drewN | apply below_drew1 | refine below_set ?_ GE175.out | refine below_set ?_ GE176.out | refine below_set ?_ GE177.out) | exact HB.out)⟩
       ·
        replace c52 := Bool.eq_false_iff.mpr c52
        subst c52
        rw [if_neg (show ¬ (false = true) by decide)] at H
        obtain ⟨ji68, hji68⟩ : ∃ j_ : Int, (mx a0_1 a1_1) = j_ := ⟨_, rfl⟩
        replace H : (some ((-9223372036854775808), ji68)) = some (r1, r2) := by first | (rw [hji68] at H; exact H) | (simp only [hji68] at H ⊢; exact H)
        (try rw [hji68] at A29)
        (try rw [hji68] at A38)
        (try rw [hji68] at A49)
        (try rw [hji68] at A51)
        have hji68_ : (if a0_1 < a1_1 then a1_1 else a0_1) = ji68 := hji68
        simp only [Option.some.injEq, Prod.mk.injEq] at H
        obtain ⟨rfl, rfl⟩ := H
        have hnb69 := NB175_176.out
        have hnc69 := NB176_175.out
        have hnb70 := NB175_177.out
        have hnc70 := NB177_175.out
        have hcz71_0 : wc.cell? ⟨gb175, 0, none⟩ = some (.int .i64 a0_0) := bc BK175 0 rfl
        have hcz71_1 : wc.cell? ⟨gb175, 1, none⟩ = some (.int .i64 a0_1) := bc BK175 1 rfl
        have hfz71_0 := blk_frozen BK175.out 0
        have hfz71_1 := blk_frozen BK175.out 1
        go_wp2_with (first | ((with_reducible refine gate_callee (f := 85) rfl ?_); refine goesL_ (some 20) rfl rfl Try.func85 (by kernel_rfl) rfl #[.agg #[.int .i64 a0_0, .int .i64 a0_1]] rfl (mapq rfl) ?_; (with_reducible refine (span_Span_above.calls a0_0 a0_1 false _ A29.out).mono ?_); rintro e w72 ⟨rfl, hb⟩; refine ⟨_, rfl, ?_⟩; replace BK175 := bb BK175 hb rfl; replace BK176 := bb BK176 hb rfl; replace BK177 := bb BK177 hb rfl; replace HB := hst HB hb rfl; (try clear hb); have hnb73 := NB176_177.out; have hnc73 := NB177_176.out; have hcz74_0 : w72.cell? ⟨gb176, 0, none⟩ = some (.int .i64 a1_0) := (blk_cell BK176.out 0).trans rfl; have hcz74_1 : w72.cell? ⟨gb176, 1, none⟩ = some (.int .i64 a1_1) := (blk_cell BK176.out 1).trans rfl; have hfz74_0 := blk_frozen BK176.out 0; have hfz74_1 := blk_frozen BK176.out 1) | ((with_reducible refine gate_callee (f := 85) rfl ?_); refine goesL_ (some 26) rfl rfl Try.func85 (by kernel_rfl) rfl #[.agg #[.int .i64 a1_0, .int .i64 a1_1]] rfl (mapq rfl) ?_; (with_reducible refine (span_Span_above.calls a1_0 a1_1 false _ A38.out).mono ?_); rintro e w75 ⟨rfl, hb⟩; refine ⟨_, rfl, ?_⟩; replace BK175 := bb BK175 hb rfl; replace BK176 := bb BK176 hb rfl; replace BK177 := bb BK177 hb rfl; replace HB := hst HB hb rfl; (try clear hb); have hcz76_0 : w75.cell? ⟨gb175, 0, none⟩ = some (.int .i64 a0_0) := (blk_cell BK175.out 0).trans rfl; have hcz76_1 : w75.cell? ⟨gb175, 1, none⟩ = some (.int .i64 a0_1) := (blk_cell BK175.out 1).trans rfl; have hfz76_0 := blk_frozen BK175.out 0; have hfz76_1 := blk_frozen BK175.out 1) | ((with_reducible refine gate_callee (f := 86) rfl ?_); refine goesL_ (some 32) rfl rfl Try.func86 (by kernel_rfl) rfl #[.agg #[.int .i64 a0_0, .int .i64 a0_1]] rfl (mapq rfl) ?_; (with_reducible refine (span_Span_below.calls a0_0 a0_1 true _ A49.out).mono ?_); rintro e w77 ⟨rfl, hb⟩; refine ⟨_, rfl, ?_⟩; replace BK175 := bb BK175 hb rfl; replace BK176 := bb BK176 hb rfl; replace BK177 := bb BK177 hb rfl; replace HB := hst HB hb rfl; (try clear hb); have hcz78_0 : w77.cell? ⟨gb176, 0, none⟩ = some (.int .i64 a1_0) := (blk_cell BK176.out 0).trans rfl; have hcz78_1 : w77.cell? ⟨gb176, 1, none⟩ = some (.int .i64 a1_1) := (blk_cell BK176.out 1).trans rfl; have hfz78_0 := blk_frozen BK176.out 0; have hfz78_1 := blk_frozen BK176.out 1) | (go_at_call 86; (with_reducible refine (span_Span_below.calls a1_0 a1_1 false _ A51.out).mono ?_); rintro e w79 ⟨rfl, hb⟩; replace BK175 := bb BK175 hb rfl; replace BK176 := bb BK176 hb rfl; replace BK177 := bb BK177 hb rfl; replace HB := hst HB hb rfl; (try clear hb); have hcz80_0 : w79.cell? ⟨gb175, 0, none⟩ = some (.int .i64 a0_0) := (blk_cell BK175.out 0).trans rfl; have hcz80_1 : w79.cell? ⟨gb175, 1, none⟩ = some (.int .i64 a0_1) := (blk_cell BK175.out 1).trans rfl; have hfz80_0 := blk_frozen BK175.out 0; have hfz80_1 := blk_frozen BK175.out 1; have hcz81_0 : w79.cell? ⟨gb176, 0, none⟩ = some (.int .i64 a1_0) := (blk_cell BK176.out 0).trans rfl; have hcz81_1 : w79.cell? ⟨gb176, 1, none⟩ = some (.int .i64 a1_1) := (blk_cell BK176.out 1).trans rfl; have hfz81_0 := blk_frozen BK176.out 0; have hfz81_1 := blk_frozen BK176.out 1; have hcz82_0 : w79.cell? ⟨gb177, 0, none⟩ = some (.int .i64 0) := (blk_cell BK177.out 0).trans rfl; have hcz82_1 : w79.cell? ⟨gb177, 1, none⟩ = some (.int .i64 0) := (blk_cell BK177.out 1).trans rfl; have hfz82_0 := blk_frozen BK177.out 0; have hfz82_1 := blk_frozen BK177.out 1))
        refine bodyPost_ret (results_cell_row rfl _ _ gb177 59 #[.int .i64 (-9223372036854775808), .int .i64 ji68] (0, 0) _ rfl (by (with_reducible repeat (first | refine blk_drewN ?_ _ | refine blk_drew ?_ | refine blk_alloc ?_ _)); refine blk_put (cs := #[.int .i64 (-9223372036854775808), .int .i64 0]) ?_ 1 _ rfl; (with_reducible repeat (first | refine blk_drewN ?_ _ | refine blk_drew ?_ | refine blk_alloc ?_ _)); refine blk_put (cs := #[.int .i64 0, .int .i64 0]) ?_ 0 _ rfl; (with_reducible repeat (first | refine blk_drewN ?_ _ | refine blk_drew ?_ | refine blk_alloc ?_ _)); exact BK177.out) Try.underlying59 rfl (by kernel_rfl)) rfl ?_
        exact ⟨by first | rfl | (simp [errW_none, errW_some] <;> rfl) | (simp only [← hji68]; first | rfl | (simp [errW_none, errW_some] <;> rfl)) | (simp [*, errW_none, errW_some] <;> rfl), by repeat (first | (with_reducible first | exact HB.out | apply below_alloc | apply pw_below_drewN | apply below_drew1 | refine below_set ?_ GE175.out | refine below_set ?_ GE176.out | refine below_set ?_ GE177.out) | exact HB.out)⟩
      ·
       replace c50 := Bool.eq_false_iff.mpr c50
       subst c50
       rw [if_neg (show ¬ (false = true) by decide)] at H
       obtain ⟨ji83, hji83⟩ : ∃ j_ : Int, (mx a0_1 a1_1) = j_ := ⟨_, rfl⟩
       replace H : (some ((-9223372036854775808), ji83)) = some (r1, r2) := by first | (rw [hji83] at H; exact H) | (simp only [hji83] at H ⊢; exact H)
       (try rw [hji83] at A29)
       (try rw [hji83] at A38)
       (try rw [hji83] at A49)
       have hji83_ : (if a0_1 < a1_1 then a1_1 else a0_1) = ji83 := hji83
       simp only [Option.some.injEq, Prod.mk.injEq] at H
       obtain ⟨rfl, rfl⟩ := H
       have hnb84 := NB175_176.out
       have hnc84 := NB176_175.out
       have hnb85 := NB175_177.out
       have hnc85 := NB177_175.out
       have hcz86_0 : wc.cell? ⟨gb175, 0, none⟩ = some (.int .i64 a0_0) := bc BK175 0 rfl
       have hcz86_1 : wc.cell? ⟨gb175, 1, none⟩ = some (.int .i64 a0_1) := bc BK175 1 rfl
       have hfz86_0 := blk_frozen BK175.out 0
       have hfz86_1 := blk_frozen BK175.out 1
       go_wp2_with (first | ((with_reducible refine gate_callee (f := 85) rfl ?_); refine goesL_ (some 20) rfl rfl Try.func85 (by kernel_rfl) rfl #[.agg #[.int .i64 a0_0, .int .i64 a0_1]] rfl (mapq rfl) ?_; (with_reducible refine (span_Span_above.calls a0_0 a0_1 false _ A29.out).mono ?_); rintro e w87 ⟨rfl, hb⟩; refine ⟨_, rfl, ?_⟩; replace BK175 := bb BK175 hb rfl; replace BK176 := bb BK176 hb rfl; replace BK177 := bb BK177 hb rfl; replace HB := hst HB hb rfl; (try clear hb); have hnb88 := NB176_177.out; have hnc88 := NB177_176.out; have hcz89_0 : w87.cell? ⟨gb176, 0, none⟩ = some (.int .i64 a1_0) := (blk_cell BK176.out 0).trans rfl; have hcz89_1 : w87.cell? ⟨gb176, 1, none⟩ = some (.int .i64 a1_1) := (blk_cell BK176.out 1).trans rfl; have hfz89_0 := blk_frozen BK176.out 0; have hfz89_1 := blk_frozen BK176.out 1) | ((with_reducible refine gate_callee (f := 85) rfl ?_); refine goesL_ (some 26) rfl rfl Try.func85 (by kernel_rfl) rfl #[.agg #[.int .i64 a1_0, .int .i64 a1_1]] rfl (mapq rfl) ?_; (with_reducible refine (span_Span_above.calls a1_0 a1_1 false _ A38.out).mono ?_); rintro e w90 ⟨rfl, hb⟩; refine ⟨_, rfl, ?_⟩; replace BK175 := bb BK175 hb rfl; replace BK176 := bb BK176 hb rfl; replace BK177 := bb BK177 hb rfl; replace HB := hst HB hb rfl; (try clear hb); have hcz91_0 : w90.cell? ⟨gb175, 0, none⟩ = some (.int .i64 a0_0) := (blk_cell BK175.out 0).trans rfl; have hcz91_1 : w90.cell? ⟨gb175, 1, none⟩ = some (.int .i64 a0_1) := (blk_cell BK175.out 1).trans rfl; have hfz91_0 := blk_frozen BK175.out 0; have hfz91_1 := blk_frozen BK175.out 1) | ((with_reducible refine gate_callee (f := 86) rfl ?_); refine goesL_ (some 32) rfl rfl Try.func86 (by kernel_rfl) rfl #[.agg #[.int .i64 a0_0, .int .i64 a0_1]] rfl (mapq rfl) ?_; (with_reducible refine (span_Span_below.calls a0_0 a0_1 false _ A49.out).mono ?_); rintro e w92 ⟨rfl, hb⟩; refine ⟨_, rfl, ?_⟩; replace BK175 := bb BK175 hb rfl; replace BK176 := bb BK176 hb rfl; replace BK177 := bb BK177 hb rfl; replace HB := hst HB hb rfl; (try clear hb); have hcz93_0 : w92.cell? ⟨gb175, 0, none⟩ = some (.int .i64 a0_0) := (blk_cell BK175.out 0).trans rfl; have hcz93_1 : w92.cell? ⟨gb175, 1, none⟩ = some (.int .i64 a0_1) := (blk_cell BK175.out 1).trans rfl; have hfz93_0 := blk_frozen BK175.out 0; have hfz93_1 := blk_frozen BK175.out 1; have hcz94_0 : w92.cell? ⟨gb176, 0, none⟩ = some (.int .i64 a1_0) := (blk_cell BK176.out 0).trans rfl; have hcz94_1 : w92.cell? ⟨gb176, 1, none⟩ = some (.int .i64 a1_1) := (blk_cell BK176.out 1).trans rfl; have hfz94_0 := blk_frozen BK176.out 0; have hfz94_1 := blk_frozen BK176.out 1; have hcz95_0 : w92.cell? ⟨gb177, 0, none⟩ = some (.int .i64 0) := (blk_cell BK177.out 0).trans rfl; have hcz95_1 : w92.cell? ⟨gb177, 1, none⟩ = some (.int .i64 0) := (blk_cell BK177.out 1).trans rfl; have hfz95_0 := blk_frozen BK177.out 0; have hfz95_1 := blk_frozen BK177.out 1))
       refine bodyPost_ret (results_cell_row rfl _ _ gb177 59 #[.int .i64 (-9223372036854775808), .int .i64 ji83] (0, 0) _ rfl (by (with_reducible repeat (first | refine blk_drewN ?_ _ | refine blk_drew ?_ | refine blk_alloc ?_ _)); refine blk_put (cs := #[.int .i64 (-9223372036854775808), .int .i64 0]) ?_ 1 _ rfl; (with_reducible repeat (first | refine blk_drewN ?_ _ | refine blk_drew ?_ | refine blk_alloc ?_ _)); refine blk_put (cs := #[.int .i64 0, .int .i64 0]) ?_ 0 _ rfl; (with_reducible repeat (first | refine blk_drewN ?_ _ | refine blk_drew ?_ | refine blk_alloc ?_ _)); exact BK177.out) Try.underlying59 rfl (by kernel_rfl)) rfl ?_
       exact ⟨by first | rfl | (simp [errW_none, errW_some] <;> rfl) | (simp only [← hji83]; first | rfl | (simp [errW_none, errW_some] <;> rfl)) | (simp [*, errW_none, errW_some] <;> rfl), by repeat (first | (with_reducible first | exact HB.out | apply below_alloc | apply pw_below_drewN | apply below_drew1 | refine below_set ?_ GE175.out | refine below_set ?_ GE176.out | refine below_set ?_ GE177.out) | exact HB.out)⟩

/-! ### bits_Len64: function 91 -/
def bits_Len64.j0 : Nat → Int → Int → Option (Int)
 | 0, _, _ => none
 | k + 1, x0, x2 => if x0 ≥ 65536 then (if (x0 / 65536) ≥ 256 then (if 0 ≤ (((x0 / 65536) / 256) % 256) then (if (((x0 / 65536) / 256) % 256) < 256 then (some (wrap64 ((wrap64 ((wrap64 (x2 + 16)) + 8)) + (wrap64 (bt (⟨#[0, 1, 2, 2, 3, 3, 3, 3, 4, 4, 4, 4, 4, 4, 4, 4, 5, 5, 5, 5, 5, 5, 5, 5, 5, 5, 5, 5, 5, 5, 5, 5, 6, 6, 6, 6, 6, 6, 6, 6, 6, 6, 6, 6, 6, 6, 6, 6, 6, 6, 6, 6, 6, 6, 6, 6, 6, 6, 6, 6, 6, 6, 6, 6, 7, 7, 7, 7, 7, 7, 7, 7, 7, 7, 7, 7, 7, 7, 7, 7, 7, 7, 7, 7, 7, 7, 7, 7, 7, 7, 7, 7, 7, 7, 7, 7, 7, 7, 7, 7, 7, 7, 7, 7, 7, 7, 7, 7, 7, 7, 7, 7, 7, 7, 7, 7, 7, 7, 7, 7, 7, 7, 7, 7, 7, 7, 7, 7, 8, 8, 8, 8, 8, 8, 8, 8, 8, 8, 8, 8, 8, 8, 8, 8, 8, 8, 8, 8, 8, 8, 8, 8, 8, 8, 8, 8, 8, 8, 8, 8, 8, 8, 8, 8, 8, 8, 8, 8, 8, 8, 8, 8, 8, 8, 8, 8, 8, 8, 8, 8, 8, 8, 8, 8, 8, 8, 8, 8, 8, 8, 8, 8, 8, 8, 8, 8, 8, 8, 8, 8, 8, 8, 8, 8, 8, 8, 8, 8, 8, 8, 8, 8, 8, 8, 8, 8, 8, 8, 8, 8, 8, 8, 8, 8, 8, 8, 8, 8, 8, 8, 8, 8, 8, 8, 8, 8, 8, 8, 8, 8, 8, 8, 8, 8, 8, 8, 8, 8, 8, 8, 8, 8, 8, 8, 8, 8]⟩ : ByteArray) (((x0 / 65536) / 256) % 256)))))) else (none)) else (none)) else (if 0 ≤ ((x0 / 65536) % 256) then (if ((x0 / 65536) % 256) < 256 then (some (wrap64 ((wrap64 (x2 + 16)) + (wrap64 (bt (⟨#[0, 1, 2, 2, 3, 3, 3, 3, 4, 4, 4, 4, 4, 4, 4, 4, 5, 5, 5, 5, 5, 5, 5, 5, 5, 5, 5, 5, 5, 5, 5, 5, 6, 6, 6, 6, 6, 6, 6, 6, 6, 6, 6, 6, 6, 6, 6, 6, 6, 6, 6, 6, 6, 6, 6, 6, 6, 6, 6, 6, 6, 6, 6, 6, 7, 7, 7, 7, 7, 7, 7, 7, 7, 7, 7, 7, 7, 7, 7, 7, 7, 7, 7, 7, 7, 7, 7, 7, 7, 7, 7, 7, 7, 7, 7, 7, 7, 7, 7, 7, 7, 7, 7, 7, 7, 7, 7, 7, 7, 7, 7, 7, 7, 7, 7, 7, 7, 7, 7, 7, 7, 7, 7, 7, 7, 7, 7, 7, 8, 8, 8, 8, 8, 8, 8, 8, 8, 8, 8, 8, 8, 8, 8, 8, 8, 8, 8, 8, 8, 8, 8, 8, 8, 8, 8, 8, 8, 8, 8, 8, 8, 8, 8, 8, 8, 8, 8, 8, 8, 8, 8, 8, 8, 8, 8, 8, 8, 8, 8, 8, 8, 8, 8, 8, 8, 8, 8, 8, 8, 8, 8, 8, 8, 8, 8, 8, 8, 8, 8, 8, 8, 8, 8, 8, 8, 8, 8, 8, 8, 8, 8, 8, 8, 8, 8, 8, 8, 8, 8, 8, 8, 8, 8, 8, 8, 8, 8, 8, 8, 8, 8, 8, 8, 8, 8, 8, 8, 8, 8, 8, 8, 8, 8, 8, 8, 8, 8, 8, 8, 8, 8, 8, 8, 8, 8, 8]⟩ : ByteArray) ((x0 / 65536) % 256)))))) else (none)) else (none))) else (if x0 ≥ 256 then (if 0 ≤ ((x0 / 256) % 256) then (if ((x0 / 256) % 256) < 256 then (some (wrap64 ((wrap64 (x2 + 8)) + (wrap64 (bt (⟨#[0, 1, 2, 2, 3, 3, 3, 3, 4, 4, 4, 4, 4, 4, 4, 4, 5, 5, 5, 5, 5, 5, 5, 5, 5, 5, 5, 5, 5, 5, 5, 5, 6, 6, 6, 6, 6, 6, 6, 6, 6, 6, 6, 6, 6, 6, 6, 6, 6, 6, 6, 6, 6, 6, 6, 6, 6, 6, 6, 6, 6, 6, 6, 6, 7, 7, 7, 7, 7, 7, 7, 7, 7, 7, 7, 7, 7, 7, 7, 7, 7, 7, 7, 7, 7, 7, 7, 7, 7, 7, 7, 7, 7, 7, 7, 7, 7, 7, 7, 7, 7, 7, 7, 7, 7, 7, 7, 7, 7, 7, 7, 7, 7, 7, 7, 7, 7, 7, 7, 7, 7, 7, 7, 7, 7, 7, 7, 7, 8, 8, 8, 8, 8, 8, 8, 8, 8, 8, 8, 8, 8, 8, 8, 8, 8, 8, 8, 8, 8, 8, 8, 8, 8, 8, 8, 8, 8, 8, 8, 8, 8, 8, 8, 8, 8, 8, 8, 8, 8, 8, 8, 8, 8, 8, 8, 8, 8, 8, 8, 8, 8, 8, 8, 8, 8, 8, 8, 8, 8, 8, 8, 8, 8, 8, 8, 8, 8, 8, 8, 8, 8, 8, 8, 8, 8, 8, 8, 8, 8, 8, 8, 8, 8, 8, 8, 8, 8, 8, 8, 8, 8, 8, 8, 8, 8, 8, 8, 8, 8, 8, 8, 8, 8, 8, 8, 8, 8, 8, 8, 8, 8, 8, 8, 8, 8, 8, 8, 8, 8, 8, 8, 8, 8, 8, 8, 8]⟩ : ByteArray) ((x0 / 256) % 256)))))) else (none)) else (none)) else (if 0 ≤ ((x0) % 256) then (if ((x0) % 256) < 256 then (some (wrap64 (x2 + (wrap64 (bt (⟨#[0, 1, 2, 2, 3, 3, 3, 3, 4, 4, 4, 4, 4, 4, 4, 4, 5, 5, 5, 5, 5, 5, 5, 5, 5, 5, 5, 5, 5, 5, 5, 5, 6, 6, 6, 6, 6, 6, 6, 6, 6, 6, 6, 6, 6, 6, 6, 6, 6, 6, 6, 6, 6, 6, 6, 6, 6, 6, 6, 6, 6, 6, 6, 6, 7, 7, 7, 7, 7, 7, 7, 7, 7, 7, 7, 7, 7, 7, 7, 7, 7, 7, 7, 7, 7, 7, 7, 7, 7, 7, 7, 7, 7, 7, 7, 7, 7, 7, 7, 7, 7, 7, 7, 7, 7, 7, 7, 7, 7, 7, 7, 7, 7, 7, 7, 7, 7, 7, 7, 7, 7, 7, 7, 7, 7, 7, 7, 7, 8, 8, 8, 8, 8, 8, 8, 8, 8, 8, 8, 8, 8, 8, 8, 8, 8, 8, 8, 8, 8, 8, 8, 8, 8, 8, 8, 8, 8, 8, 8, 8, 8, 8, 8, 8, 8, 8, 8, 8, 8, 8, 8, 8, 8, 8, 8, 8, 8, 8, 8, 8, 8, 8, 8, 8, 8, 8, 8, 8, 8, 8, 8, 8, 8, 8, 8, 8, 8, 8, 8, 8, 8, 8, 8, 8, 8, 8, 8, 8, 8, 8, 8, 8, 8, 8, 8, 8, 8, 8, 8, 8, 8, 8, 8, 8, 8, 8, 8, 8, 8, 8, 8, 8, 8, 8, 8, 8, 8, 8, 8, 8, 8, 8, 8, 8, 8, 8, 8, 8, 8, 8, 8, 8, 8, 8, 8, 8]⟩ : ByteArray) ((x0) % 256)))))) else (none)) else (none)))
def bits_Len64.f (k : Nat) (a0 : Int) : Option (Int) := if a0 ≥ 4294967296 then (bits_Len64.j0 k (a0 / 4294967296) 32) else (bits_Len64.j0 k a0 0)
theorem bits_Len64.mono_l : ∀ k, (∀ y0 y1, LeO (bits_Len64.j0 k y0 y1) (bits_Len64.j0 (k + 1) y0 y1))
 | 0 => fun _ _ r h => by simp [bits_Len64.j0] at h
 | k + 1 => by
  have ih0 := bits_Len64.mono_l k
  ·
   intro y0 y1
   unfold bits_Len64.j0
   repeat' first
   | (with_reducible exact ih0 _ _)
   | (with_reducible exact LeO.refl _)
   | (with_reducible exact LeO.none _)
   | (with_reducible refine LeO.ite ?_ ?_)
   | (with_reducible refine LeO.bind ?_ (fun _ => ?_))
   | exact ih0 _ _
   | exact LeO.none _
   | refine LeO.ite ?_ ?_
   | refine LeO.bind ?_ (fun _ => ?_)
theorem bits_Len64.mono : ∀ a0 k, LeO (bits_Len64.f k a0) (bits_Len64.f (k + 1) a0) := by
 intro a0 k
 have ih0 := bits_Len64.mono_l k
 unfold bits_Len64.f
 repeat' first
   | (with_reducible exact ih0 _ _)
   | (with_reducible exact LeO.refl _)
   | (with_reducible exact LeO.none _)
   | (with_reducible refine LeO.ite ?_ ?_)
   | (with_reducible refine LeO.bind ?_ (fun _ => ?_))
   | exact ih0 _ _
   | exact LeO.none _
   | refine LeO.ite ?_ ?_
   | refine LeO.bind ?_ (fun _ => ?_)
set_option maxHeartbeats 8000000 in
set_option maxRecDepth 100000 in
theorem bits_Len64.calls (k : Nat) (a0 : Int) (r : Int) (w : World) (h : bits_Len64.f k a0 = some r) :
  Calls Try.prog 91 #[.int .u64 a0] w fun e w' => e = .returned (.int .i64 r) ∧ Drawn0 w w' := by
 have H : (if a0 ≥ 4294967296 then (bits_Len64.j0 k (a0 / 4294967296) 32) else (bits_Len64.j0 k a0 0)) = some r := h
 clear h
 have HC2 := Aside0.mk H
 clear H
 go_enter Try.func91, Try.ntmps91
 go_upto_if 4 with (fail)
 go_cut [0, 2] (fun v0 v2 wc => ∃ (kq : Nat) (x0_1 : Int) (x2_1 : Int), v0 = .int .u64 x0_1 ∧ v2 = .int .i64 x2_1 ∧ Aside0 (bits_Len64.j0 kq x0_1 x2_1 = some r) ∧ Aside0 (kq ≤ k) ∧ Drawn0 w wc)
 case first =>
  have H := HC2.out
  clear HC2
  by_cases c3 : a0 ≥ 4294967296
  ·
   rw [if_pos c3] at H
   have c3b0 : decide (4294967296 ≤ a0) = true := decide_eq_true c3
   clear c3
   (first | rw [c3b0] | (simp only [i64_w, i32_w]; rw [c3b0]) | skip)
   have H' := Aside0.mk H
   clear H
   go_wp2
   go_meet
   case rel => exact ⟨_, (a0 / 4294967296), (32), (by first | rfl | (simp; done) | (simp [*]; done)), (by first | rfl | (simp; done) | (simp [*]; done)), H', ⟨by first | omega | exact Nat.le_refl _⟩, by repeat (first | exact Drawn0.refl _ | apply Drawn0.step)⟩
  ·
   rw [if_neg c3] at H
   have c3b0 : decide (4294967296 ≤ a0) = false := decide_eq_false c3
   clear c3
   (first | rw [c3b0] | (simp only [i64_w, i32_w]; rw [c3b0]) | skip)
   have H' := Aside0.mk H
   clear H
   go_wp2
   go_meet
   case rel => exact ⟨_, (a0), (0), (by first | rfl | (simp; done) | (simp [*]; done)), (by first | rfl | (simp; done) | (simp [*]; done)), H', ⟨by first | omega | exact Nat.le_refl _⟩, by repeat (first | exact Drawn0.refl _ | apply Drawn0.step)⟩
 case rest =>
  clear HC2
  try clear p2
  try clear c3
  try clear c3b0
  obtain ⟨kq, x0_1, x2_1, rfl, rfl, HA, HJ1, ⟨mc1, rfl⟩⟩ := hcut
  cases kq with
  | zero => exact absurd HA.out (by simp [bits_Len64.j0])
  | succ kj1 =>
   have H := HA.out
   clear HA
   simp only [bits_Len64.j0] at H
   by_cases c4 : x0_1 ≥ 65536
   ·
    rw [if_pos c4] at H
    have c4b0 : decide (65536 ≤ x0_1) = true := decide_eq_true c4
    clear c4
    by_cases c5 : (x0_1 / 65536) ≥ 256
    ·
     rw [if_pos c5] at H
     have c5b0 : decide (256 ≤ (x0_1 / 65536)) = true := decide_eq_true c5
     clear c5
     obtain ⟨ji6, hji6⟩ : ∃ j_ : Int, (((x0_1 / 65536) / 256) % 256) = j_ := ⟨_, rfl⟩
     replace H : (if 0 ≤ (ji6) then (if (ji6) < 256 then (some (wrap64 ((wrap64 ((wrap64 (x2_1 + 16)) + 8)) + (wrap64 (bt (⟨#[0, 1, 2, 2, 3, 3, 3, 3, 4, 4, 4, 4, 4, 4, 4, 4, 5, 5, 5, 5, 5, 5, 5, 5, 5, 5, 5, 5, 5, 5, 5, 5, 6, 6, 6, 6, 6, 6, 6, 6, 6, 6, 6, 6, 6, 6, 6, 6, 6, 6, 6, 6, 6, 6, 6, 6, 6, 6, 6, 6, 6, 6, 6, 6, 7, 7, 7, 7, 7, 7, 7, 7, 7, 7, 7, 7, 7, 7, 7, 7, 7, 7, 7, 7, 7, 7, 7, 7, 7, 7, 7, 7, 7, 7, 7, 7, 7, 7, 7, 7, 7, 7, 7, 7, 7, 7, 7, 7, 7, 7, 7, 7, 7, 7, 7, 7, 7, 7, 7, 7, 7, 7, 7, 7, 7, 7, 7, 7, 8, 8, 8, 8, 8, 8, 8, 8, 8, 8, 8, 8, 8, 8, 8, 8, 8, 8, 8, 8, 8, 8, 8, 8, 8, 8, 8, 8, 8, 8, 8, 8, 8, 8, 8, 8, 8, 8, 8, 8, 8, 8, 8, 8, 8, 8, 8, 8, 8, 8, 8, 8, 8, 8, 8, 8, 8, 8, 8, 8, 8, 8, 8, 8, 8, 8, 8, 8, 8, 8, 8, 8, 8, 8, 8, 8, 8, 8, 8, 8, 8, 8, 8, 8, 8, 8, 8, 8, 8, 8, 8, 8, 8, 8, 8, 8, 8, 8, 8, 8, 8, 8, 8, 8, 8, 8, 8, 8, 8, 8, 8, 8, 8, 8, 8, 8, 8, 8, 8, 8, 8, 8, 8, 8, 8, 8, 8, 8]⟩ : ByteArray) (ji6)))))) else (none)) else (none)) = some r := by first | (rw [hji6] at H; exact H) | (simp only [hji6] at H ⊢; exact H)
     by_cases c7 : 0 ≤ (ji6)
     ·
      rw [if_pos c7] at H
      have c7b0 : decide (0 ≤ (ji6)) = true := decide_eq_true c7
      clear c7
      by_cases c8 : (ji6) < 256
      ·
       rw [if_pos c8] at H
       have c8b0 : decide ((ji6) < 256) = true := decide_eq_true c8
       clear c8
       obtain rfl := Option.some.inj H
       have p9 : 0 ≤ ((ji6) : Int) := of_decide_eq_true (by first | (with_reducible assumption) | assumption)
       have q9 : (ji6) < (256 : Int) := of_decide_eq_true (by first | (with_reducible assumption) | assumption)
       have hx9 := bt_at (⟨#[0, 1, 2, 2, 3, 3, 3, 3, 4, 4, 4, 4, 4, 4, 4, 4, 5, 5, 5, 5, 5, 5, 5, 5, 5, 5, 5, 5, 5, 5, 5, 5, 6, 6, 6, 6, 6, 6, 6, 6, 6, 6, 6, 6, 6, 6, 6, 6, 6, 6, 6, 6, 6, 6, 6, 6, 6, 6, 6, 6, 6, 6, 6, 6, 7, 7, 7, 7, 7, 7, 7, 7, 7, 7, 7, 7, 7, 7, 7, 7, 7, 7, 7, 7, 7, 7, 7, 7, 7, 7, 7, 7, 7, 7, 7, 7, 7, 7, 7, 7, 7, 7, 7, 7, 7, 7, 7, 7, 7, 7, 7, 7, 7, 7, 7, 7, 7, 7, 7, 7, 7, 7, 7, 7, 7, 7, 7, 7, 8, 8, 8, 8, 8, 8, 8, 8, 8, 8, 8, 8, 8, 8, 8, 8, 8, 8, 8, 8, 8, 8, 8, 8, 8, 8, 8, 8, 8, 8, 8, 8, 8, 8, 8, 8, 8, 8, 8, 8, 8, 8, 8, 8, 8, 8, 8, 8, 8, 8, 8, 8, 8, 8, 8, 8, 8, 8, 8, 8, 8, 8, 8, 8, 8, 8, 8, 8, 8, 8, 8, 8, 8, 8, 8, 8, 8, 8, 8, 8, 8, 8, 8, 8, 8, 8, 8, 8, 8, 8, 8, 8, 8, 8, 8, 8, 8, 8, 8, 8, 8, 8, 8, 8, 8, 8, 8, 8, 8, 8, 8, 8, 8, 8, 8, 8, 8, 8, 8, 8, 8, 8, 8, 8, 8, 8, 8, 8]⟩ : ByteArray) (ji6)
       replace p9 := eq_true p9
       replace q9 := eq_true q9
       go_wp2
       go_ret
       exact ⟨by first | rfl | (simp; done) | (simp only [← hji6] <;> (first | rfl | simp)) | (simp [*]; done), by repeat (first | exact Drawn0.refl _ | apply Drawn0.step)⟩
      ·
       rw [if_neg c8] at H
       exact absurd H (by simp)
     ·
      rw [if_neg c7] at H
      exact absurd H (by simp)
    ·
     rw [if_neg c5] at H
     have c5b0 : decide (256 ≤ (x0_1 / 65536)) = false := decide_eq_false c5
     clear c5
     obtain ⟨ji10, hji10⟩ : ∃ j_ : Int, ((x0_1 / 65536) % 256) = j_ := ⟨_, rfl⟩
     replace H : (if 0 ≤ (ji10) then (if (ji10) < 256 then (some (wrap64 ((wrap64 (x2_1 + 16)) + (wrap64 (bt (⟨#[0, 1, 2, 2, 3, 3, 3, 3, 4, 4, 4, 4, 4, 4, 4, 4, 5, 5, 5, 5, 5, 5, 5, 5, 5, 5, 5, 5, 5, 5, 5, 5, 6, 6, 6, 6, 6, 6, 6, 6, 6, 6, 6, 6, 6, 6, 6, 6, 6, 6, 6, 6, 6, 6, 6, 6, 6, 6, 6, 6, 6, 6, 6, 6, 7, 7, 7, 7, 7, 7, 7, 7, 7, 7, 7, 7, 7, 7, 7, 7, 7, 7, 7, 7, 7, 7, 7, 7, 7, 7, 7, 7, 7, 7, 7, 7, 7, 7, 7, 7, 7, 7, 7, 7, 7, 7, 7, 7, 7, 7, 7, 7, 7, 7, 7, 7, 7, 7, 7, 7, 7, 7, 7, 7, 7, 7, 7, 7, 8, 8, 8, 8, 8, 8, 8, 8, 8, 8, 8, 8, 8, 8, 8, 8, 8, 8, 8, 8, 8, 8, 8, 8, 8, 8, 8, 8, 8, 8, 8, 8, 8, 8, 8, 8, 8, 8, 8, 8, 8, 8, 8, 8, 8, 8, 8, 8, 8, 8, 8, 8, 8, 8, 8, 8, 8, 8, 8, 8, 8, 8, 8, 8, 8, 8, 8, 8, 8, 8, 8, 8, 8, 8, 8, 8, 8, 8, 8, 8, 8, 8, 8, 8, 8, 8, 8, 8, 8, 8, 8, 8, 8, 8, 8, 8, 8, 8, 8, 8, 8, 8, 8, 8, 8, 8, 8, 8, 8, 8, 8, 8, 8, 8, 8, 8, 8, 8, 8, 8, 8, 8, 8, 8, 8, 8, 8, 8]⟩ : ByteArray) (ji10)))))) else (none)) else (none)) = some r := by first | (rw [hji10] at H; exact H) | (simp only [hji10] at H ⊢; exact H)
     by_cases c11 : 0 ≤ (ji10)
     ·
      rw [if_pos c11] at H
      have c11b0 : decide (0 ≤ (ji10)) = true := decide_eq_true c11
      clear c11
      by_cases c12 : (ji10) < 256
      ·
       rw [if_pos c12] at H
       have c12b0 : decide ((ji10) < 256) = true := decide_eq_true c12
       clear c12
       obtain rfl := Option.some.inj H
       have p13 : 0 ≤ ((ji10) : Int) := of_decide_eq_true (by first | (with_reducible assumption) | assumption)
       have q13 : (ji10) < (256 : Int) := of_decide_eq_true (by first | (with_reducible assumption) | assumption)
       have hx13 := bt_at (⟨#[0, 1, 2, 2, 3, 3, 3, 3, 4, 4, 4, 4, 4, 4, 4, 4, 5, 5, 5, 5, 5, 5, 5, 5, 5, 5, 5, 5, 5, 5, 5, 5, 6, 6, 6, 6, 6, 6, 6, 6, 6, 6, 6, 6, 6, 6, 6, 6, 6, 6, 6, 6, 6, 6, 6, 6, 6, 6, 6, 6, 6, 6, 6, 6, 7, 7, 7, 7, 7, 7, 7, 7, 7, 7, 7, 7, 7, 7, 7, 7, 7, 7, 7, 7, 7, 7, 7, 7, 7, 7, 7, 7, 7, 7, 7, 7, 7, 7, 7, 7, 7, 7, 7, 7, 7, 7, 7, 7, 7, 7, 7, 7, 7, 7, 7, 7, 7, 7, 7, 7, 7, 7, 7, 7, 7, 7, 7, 7, 8, 8, 8, 8, 8, 8, 8, 8, 8, 8, 8, 8, 8, 8, 8, 8, 8, 8, 8, 8, 8, 8, 8, 8, 8, 8, 8, 8, 8, 8, 8, 8, 8, 8, 8, 8, 8, 8, 8, 8, 8, 8, 8, 8, 8, 8, 8, 8, 8, 8, 8, 8, 8, 8, 8, 8, 8, 8, 8, 8, 8, 8, 8, 8, 8, 8, 8, 8, 8, 8, 8, 8, 8, 8, 8, 8, 8, 8, 8, 8, 8, 8, 8, 8, 8, 8, 8, 8, 8, 8, 8, 8, 8, 8, 8, 8, 8, 8, 8, 8, 8, 8, 8, 8, 8, 8, 8, 8, 8, 8, 8, 8, 8, 8, 8, 8, 8, 8, 8, 8, 8, 8, 8, 8, 8, 8, 8, 8]⟩ : ByteArray) (ji10)
       replace p13 := eq_true p13
       replace q13 := eq_true q13
       go_wp2
       go_ret
       exact ⟨by first | rfl | (simp; done) | (simp only [← hji10] <;> (first | rfl | simp)) | (simp [*]; done), by repeat (first | exact Drawn0.refl _ | apply Drawn0.step)⟩
      ·
       rw [if_neg c12] at H
       exact absurd H (by simp)
     ·
      rw [if_neg c11] at H
      exact absurd H (by simp)
   ·
    rw [if_neg c4] at H
    have c4b0 : decide (65536 ≤ x0_1) = false := decide_eq_false c4
    clear c4
    by_cases c14 : x0_1 ≥ 256
    ·
     rw [if_pos c14] at H
     have c14b0 : decide (256 ≤ x0_1) = true := decide_eq_true c14
     clear c14
     obtain ⟨ji15, hji15⟩ : ∃ j_ : Int, ((x0_1 / 256) % 256) = j_ := ⟨_, rfl⟩
     replace H : (if 0 ≤ (ji15) then (if (ji15) < 256 then (some (wrap64 ((wrap64 (x2_1 + 8)) + (wrap64 (bt (⟨#[0, 1, 2, 2, 3, 3, 3, 3, 4, 4, 4, 4, 4, 4, 4, 4, 5, 5, 5, 5, 5, 5, 5, 5, 5, 5, 5, 5, 5, 5, 5, 5, 6, 6, 6, 6, 6, 6, 6, 6, 6, 6, 6, 6, 6, 6, 6, 6, 6, 6, 6, 6, 6, 6, 6, 6, 6, 6, 6, 6, 6, 6, 6, 6, 7, 7, 7, 7, 7, 7, 7, 7, 7, 7, 7, 7, 7, 7, 7, 7, 7, 7, 7, 7, 7, 7, 7, 7, 7, 7, 7, 7, 7, 7, 7, 7, 7, 7, 7, 7, 7, 7, 7, 7, 7, 7, 7, 7, 7, 7, 7, 7, 7, 7, 7, 7, 7, 7, 7, 7, 7, 7, 7, 7, 7, 7, 7, 7, 8, 8, 8, 8, 8, 8, 8, 8, 8, 8, 8, 8, 8, 8, 8, 8, 8, 8, 8, 8, 8, 8, 8, 8, 8, 8, 8, 8, 8, 8, 8, 8, 8, 8, 8, 8, 8, 8, 8, 8, 8, 8, 8, 8, 8, 8, 8, 8, 8, 8, 8, 8, 8, 8, 8, 8, 8, 8, 8, 8, 8, 8, 8, 8, 8, 8, 8, 8, 8, 8, 8, 8, 8, 8, 8, 8, 8, 8, 8, 8, 8, 8, 8, 8, 8, 8, 8, 8, 8, 8, 8, 8, 8, 8, 8, 8, 8, 8, 8, 8, 8, 8, 8, 8, 8, 8, 8, 8, 8, 8, 8, 8, 8, 8, 8, 8, 8, 8, 8, 8, 8, 8, 8, 8, 8, 8, 8, 8]⟩ : ByteArray) (ji15)))))) else (none)) else (none)) = some r := by first | (rw [hji15] at H; exact H) | (simp only [hji15] at H ⊢; exact H)
     by_cases c16 : 0 ≤ (ji15)
     ·
      rw [if_pos c16] at H
      have c16b0 : decide (0 ≤ (ji15)) = true := decide_eq_true c16
      clear c16
      by_cases c17 : (ji15) < 256
      ·
       rw [if_pos c17] at H
       have c17b0 : decide ((ji15) < 256) = true := decide_eq_true c17
       clear c17
       obtain rfl := Option.some.inj H
       have p18 : 0 ≤ ((ji15) : Int) := of_decide_eq_true (by first | (with_reducible assumption) | assumption)
       have q18 : (ji15) < (256 : Int) := of_decide_eq_true (by first | (with_reducible assumption) | assumption)
       have hx18 := bt_at (⟨#[0, 1, 2, 2, 3, 3, 3, 3, 4, 4, 4, 4, 4, 4, 4, 4, 5, 5, 5, 5, 5, 5, 5, 5, 5, 5, 5, 5, 5, 5, 5, 5, 6, 6, 6, 6, 6, 6, 6, 6, 6, 6, 6, 6, 6, 6, 6, 6, 6, 6, 6, 6, 6, 6, 6, 6, 6, 6, 6, 6, 6, 6, 6, 6, 7, 7, 7, 7, 7, 7, 7, 7, 7, 7, 7, 7, 7, 7, 7, 7, 7, 7, 7, 7, 7, 7, 7, 7, 7, 7, 7, 7, 7, 7, 7, 7, 7, 7, 7, 7, 7, 7, 7, 7, 7, 7, 7, 7, 7, 7, 7, 7, 7, 7, 7, 7, 7, 7, 7, 7, 7, 7, 7, 7, 7, 7, 7, 7, 8, 8, 8, 8, 8, 8, 8, 8, 8, 8, 8, 8, 8, 8, 8, 8, 8, 8, 8, 8, 8, 8, 8, 8, 8, 8, 8, 8, 8, 8, 8, 8, 8, 8, 8, 8, 8, 8, 8, 8, 8, 8, 8, 8, 8, 8, 8, 8, 8, 8, 8, 8, 8, 8, 8, 8, 8, 8, 8, 8, 8, 8, 8, 8, 8, 8, 8, 8, 8, 8, 8, 8, 8, 8, 8, 8, 8, 8, 8, 8, 8, 8, 8, 8, 8, 8, 8, 8, 8, 8, 8, 8, 8, 8, 8, 8, 8, 8, 8, 8, 8, 8, 8, 8, 8, 8, 8, 8, 8, 8, 8, 8, 8, 8, 8, 8, 8, 8, 8, 8, 8, 8, 8, 8, 8, 8, 8, 8]⟩ : ByteArray) (ji15)
       replace p18 := eq_true p18
       replace q18 := eq_true q18
       go_wp2
       go_ret
       exact ⟨by first | rfl | (simp; done) | (simp only [← hji15] <;> (first | rfl | simp)) | (simp [*]; done), by repeat (first | exact Drawn0.refl _ | apply Drawn0.step)⟩
      ·
       rw [if_neg c17] at H
       exact absurd H (by simp)
     ·
      rw [if_neg c16] at H
      exact absurd H (by simp)
    ·
     rw [if_neg c14] at H
     have c14b0 : decide (256 ≤ x0_1) = false := decide_eq_false c14
     clear c14
     obtain ⟨ji19, hji19⟩ : ∃ j_ : Int, ((x0_1) % 256) = j_ := ⟨_, rfl⟩
     replace H : (if 0 ≤ (ji19) then (if (ji19) < 256 then (some (wrap64 (x2_1 + (wrap64 (bt (⟨#[0, 1, 2, 2, 3, 3, 3, 3, 4, 4, 4, 4, 4, 4, 4, 4, 5, 5, 5, 5, 5, 5, 5, 5, 5, 5, 5, 5, 5, 5, 5, 5, 6, 6, 6, 6, 6, 6, 6, 6, 6, 6, 6, 6, 6, 6, 6, 6, 6, 6, 6, 6, 6, 6, 6, 6, 6, 6, 6, 6, 6, 6, 6, 6, 7, 7, 7, 7, 7, 7, 7, 7, 7, 7, 7, 7, 7, 7, 7, 7, 7, 7, 7, 7, 7, 7, 7, 7, 7, 7, 7, 7, 7, 7, 7, 7, 7, 7, 7, 7, 7, 7, 7, 7, 7, 7, 7, 7, 7, 7, 7, 7, 7, 7, 7, 7, 7, 7, 7, 7, 7, 7, 7, 7, 7, 7, 7, 7, 8, 8, 8, 8, 8, 8, 8, 8, 8, 8, 8, 8, 8, 8, 8, 8, 8, 8, 8, 8, 8, 8, 8, 8, 8, 8, 8, 8, 8, 8, 8, 8, 8, 8, 8, 8, 8, 8, 8, 8, 8, 8, 8, 8, 8, 8, 8, 8, 8, 8, 8, 8, 8, 8, 8, 8, 8, 8, 8, 8, 8, 8, 8, 8, 8, 8, 8, 8, 8, 8, 8, 8, 8, 8, 8, 8, 8, 8, 8, 8, 8, 8, 8, 8, 8, 8, 8, 8, 8, 8, 8, 8, 8, 8, 8, 8, 8, 8, 8, 8, 8, 8, 8, 8, 8, 8, 8, 8, 8, 8, 8, 8, 8, 8, 8, 8, 8, 8, 8, 8, 8, 8, 8, 8, 8, 8, 8, 8]⟩ : ByteArray) (ji19)))))) else (none)) else (none)) = some r := by first | (rw [hji19] at H; exact H) | (simp only [hji19] at H ⊢; exact H)
     by_cases c20 : 0 ≤ (ji19)
     ·
      rw [if_pos c20] at H
      have c20b0 : decide (0 ≤ (ji19)) = true := decide_eq_true c20
      clear c20
      by_cases c21 : (ji19) < 256
      ·
       rw [if_pos c21] at H
       have c21b0 : decide ((ji19) < 256) = true := decide_eq_true c21
       clear c21
       obtain rfl := Option.some.inj H
       have p22 : 0 ≤ ((ji19) : Int) := of_decide_eq_true (by first | (with_reducible assumption) | assumption)
       have q22 : (ji19) < (256 : Int) := of_decide_eq_true (by first | (with_reducible assumption) | assumption)
       have hx22 := bt_at (⟨#[0, 1, 2, 2, 3, 3, 3, 3, 4, 4, 4, 4, 4, 4, 4, 4, 5, 5, 5, 5, 5, 5, 5, 5, 5, 5, 5, 5, 5, 5, 5, 5, 6, 6, 6, 6, 6, 6, 6, 6, 6, 6, 6, 6, 6, 6, 6, 6, 6, 6, 6, 6, 6, 6, 6, 6, 6, 6, 6, 6, 6, 6, 6, 6, 7, 7, 7, 7, 7, 7, 7, 7, 7, 7, 7, 7, 7, 7, 7, 7, 7, 7, 7, 7, 7, 7, 7, 7, 7, 7, 7, 7, 7, 7, 7, 7, 7, 7, 7, 7, 7, 7, 7, 7, 7, 7, 7, 7, 7, 7, 7, 7, 7, 7, 7, 7, 7, 7, 7, 7, 7, 7, 7, 7, 7, 7, 7, 7, 8, 8, 8, 8, 8, 8, 8, 8, 8, 8, 8, 8, 8, 8, 8, 8, 8, 8, 8, 8, 8, 8, 8, 8, 8, 8, 8, 8, 8, 8, 8, 8, 8, 8, 8, 8, 8, 8, 8, 8, 8, 8, 8, 8, 8, 8, 8, 8, 8, 8, 8, 8, 8, 8, 8, 8, 8, 8, 8, 8, 8, 8, 8, 8, 8, 8, 8, 8, 8, 8, 8, 8, 8, 8, 8, 8, 8, 8, 8, 8, 8, 8, 8, 8, 8, 8, 8, 8, 8, 8, 8, 8, 8, 8, 8, 8, 8, 8, 8, 8, 8, 8, 8, 8, 8, 8, 8, 8, 8, 8, 8, 8, 8, 8, 8, 8, 8, 8, 8, 8, 8, 8, 8, 8, 8, 8, 8, 8]⟩ : ByteArray) (ji19)
       replace p22 := eq_true p22
       replace q22 := eq_true q22
       go_wp2
       go_ret
       exact ⟨by first | rfl | (simp; done) | (simp only [← hji19] <;> (first | rfl | simp)) | (simp [*]; done), by repeat (first | exact Drawn0.refl _ | apply Drawn0.step)⟩
      ·
       rw [if_neg c21] at H
       exact absurd H (by simp)
     ·
      rw [if_neg c20] at H
      exact absurd H (by simp)

end Go.Proofs.Ytpacmhhaabhdjaa.SP
