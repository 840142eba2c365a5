-- Written by a program of this session: plain functions and their walks. Lean checks it.
import Derived.Test.YtpacmhhaabhdjaaSM0
import Derived.Test.YtpacmhhaabhdjaaSM10
namespace Go.Proofs.Ytpacmhhaabhdjaa.SM
open Go.RowKit Go.Proofs.YtpacmhhaabhdjaaW.PrintWords Go.Proofs.YtpacmhhaabhdjaaW.PrintLast Go.Proofs.YtpacmhhaabhdjaaW.PrintMore
attribute [local go_sem] max2_int min2_int max_two min_two max_three min_three max_four min_four   -- for this text's walks alone
set_option linter.unusedVariables false
set_option linter.unusedSimpArgs false

/-! ### avermentref10_rem: function 80 -/
def avermentref10_rem.j0 : Nat → Bool → Int → Int → Int → Int → Option (Int × Int × Bool)
 | 0, _, _, _, _, _ => none
 | k + 1, x15, x390000, x390001, x391000, x391001 => if x15 = true then (some (0, 0, false)) else ((avermentref10_far.f x391000 x391001).bind fun t392 => (if x390000 < 0 then (if x390001 > 0 then (some (mx x390000 (wrap64 (-t392)), mn x390001 t392, true)) else (some (mx x390000 (wrap64 (-t392)), 0, true))) else (if x390001 > 0 then (some (0, mn x390001 t392, true)) else (some (0, 0, true)))))
def avermentref10_rem.f (k : Nat) (a0_0 : Int) (a0_1 : Int) (a1_0 : Int) (a1_1 : Int) : Option (Int × Int × Bool) := if a1_0 = 0 then (avermentref10_rem.j0 k (a1_1 == 0) a0_0 a0_1 a1_0 a1_1) else (avermentref10_rem.j0 k false a0_0 a0_1 a1_0 a1_1)
theorem avermentref10_rem.mono_l : ∀ k, (∀ y0 y1 y2 y3 y4, LeO (avermentref10_rem.j0 k y0 y1 y2 y3 y4) (avermentref10_rem.j0 (k + 1) y0 y1 y2 y3 y4))
 | 0 => fun _ _ _ _ _ r h => by simp [avermentref10_rem.j0] at h
 | k + 1 => by
  have ih0 := avermentref10_rem.mono_l k
  ·
   intro y0 y1 y2 y3 y4
   unfold avermentref10_rem.j0
   repeat' first
   | (with_reducible exact ih0 _ _ _ _ _)
   | (with_reducible exact LeO.refl _)
   | (with_reducible exact LeO.none _)
   | (with_reducible refine LeO.ite ?_ ?_)
   | (with_reducible refine LeO.bind ?_ (fun _ => ?_))
   | exact ih0 _ _ _ _ _
   | exact LeO.none _
   | refine LeO.ite ?_ ?_
   | refine LeO.bind ?_ (fun _ => ?_)
theorem avermentref10_rem.mono : ∀ a0 a1 a2 a3 k, LeO (avermentref10_rem.f k a0 a1 a2 a3) (avermentref10_rem.f (k + 1) a0 a1 a2 a3) := by
 intro a0 a1 a2 a3 k
 have ih0 := avermentref10_rem.mono_l k
 unfold avermentref10_rem.f
 repeat' first
   | (with_reducible exact ih0 _ _ _ _ _)
   | (with_reducible exact LeO.refl _)
   | (with_reducible exact LeO.none _)
   | (with_reducible refine LeO.ite ?_ ?_)
   | (with_reducible refine LeO.bind ?_ (fun _ => ?_))
   | exact ih0 _ _ _ _ _
   | exact LeO.none _
   | refine LeO.ite ?_ ?_
   | refine LeO.bind ?_ (fun _ => ?_)
set_option maxHeartbeats 8000000 in
set_option maxRecDepth 100000 in
theorem avermentref10_rem.calls (k : Nat) (a0_0 : Int) (a0_1 : Int) (a1_0 : Int) (a1_1 : Int) (r1 : Int) (r2 : Int) (r3 : Bool) (w : World) (h : avermentref10_rem.f k a0_0 a0_1 a1_0 a1_1 = some (r1, r2, r3)) :
  Calls Try.prog 80 #[.agg #[.int .i64 a0_0, .int .i64 a0_1], .agg #[.int .i64 a1_0, .int .i64 a1_1]] w fun e w' => e = .returned (.tuple #[.agg #[.int .i64 r1, .int .i64 r2], .bool r3]) ∧ Below w.heap.size w w' := by
 have hu56 := Try.underlying56
 have HB := Aside0.mk (Below.refl w.heap.size w)
 have H : (if a1_0 = 0 then (avermentref10_rem.j0 k (a1_1 == 0) a0_0 a0_1 a1_0 a1_1) else (avermentref10_rem.j0 k false a0_0 a0_1 a1_0 a1_1)) = some (r1, r2, r3) := h
 clear h
 have HC3 := Aside0.mk H
 clear H
 go_enter Try.func80, Try.ntmps80
 go_upto_region 1 with (first | ((with_reducible refine gate_dst (N := 2) rfl ?_); refine box_event ?hg (N := 2) ?hd (cs := #[.int .i64 a0_0, .int .i64 a0_1]) (t := 56) ?hr ?_; (case hd => rfl); (case hg => rfl); (case hr => first | (go_simp; done) | (go_simp; rfl)); intro gb389 hg w4 hbox hb; have BK389 := Aside0.mk (hbox); have GW389 := geb hg HB rfl; have GE389 := geb hg HB rfl; replace HB := hst HB hb rfl; clear hb hbox hg) | ((with_reducible refine gate_dst (N := 3) rfl ?_); refine box_event ?hg (N := 3) ?hd (cs := #[.int .i64 a1_0, .int .i64 a1_1]) (t := 56) ?hr ?_; (case hd => rfl); (case hg => rfl); (case hr => first | (go_simp; done) | (go_simp; rfl)); intro gb390 hg w5 hbox hb; have BK390 := Aside0.mk (hbox); have GW390 := geb hg HB rfl; have GE390 := geb hg HB rfl; have NB389_390 := nbl hg BK389 rfl; have NB390_389 := nbr hg BK389 rfl; replace BK389 := bb BK389 hb rfl; replace HB := hst HB hb rfl; clear hb hbox hg) | ((with_reducible refine gate_dst (N := 4) rfl ?_); refine box_event ?hg (N := 4) ?hd (cs := #[.int .i64 0, .int .i64 0]) (t := 56) ?hr ?_; (case hd => rfl); (case hg => rfl); (case hr => first | (go_simp; done) | (go_simp; rfl)); intro gb391 hg w6 hbox hb; have BK391 := Aside0.mk (hbox); have GW391 := geb hg HB rfl; have GE391 := geb hg HB rfl; have NB389_391 := nbl hg BK389 rfl; have NB391_389 := nbr hg BK389 rfl; have NB390_391 := nbl hg BK390 rfl; have NB391_390 := nbr hg BK390 rfl; replace BK389 := bb BK389 hb rfl; replace BK390 := bb BK390 hb rfl; replace HB := hst HB hb rfl; clear hb hbox hg))
 (try simp only [Act.put, List.setIfInBounds_toArray, List.set_cons_zero, List.set_cons_succ])
 go_cut [15] (fun v15 wc => ∃ (kq : Nat) (x15_2 : Bool), v15 = .bool x15_2 ∧ Aside0 (avermentref10_rem.j0 kq x15_2 a0_0 a0_1 a1_0 a1_1 = some (r1, r2, r3)) ∧ Aside0 (kq ≤ k) ∧ Aside0 (wc.heap[gb389]? = some (.cells #[.int .i64 a0_0, .int .i64 a0_1] 56 (0, 0))) ∧ Aside0 (wc.heap[gb390]? = some (.cells #[.int .i64 a1_0, .int .i64 a1_1] 56 (0, 0))) ∧ Aside0 (wc.heap[gb391]? = some (.cells #[.int .i64 0, .int .i64 0] 56 (0, 0))) ∧ Aside0 (Below w.heap.size w wc))
 case first =>
  have H := HC3.out
  clear HC3
  by_cases c7 : a1_0 = 0
  ·
   rw [if_pos c7] at H
   have c7b0 : (a1_0 == 0) = true := beq_iff_eq.mpr c7
   have c7b1 : (a1_0 != 0) = false := bne_eq_false_iff_eq.mpr c7
   clear c7
   (first | rw [c7b0] | (simp only [i64_w, i32_w]; rw [c7b0]) | skip)
   have H' := Aside0.mk H
   clear H
   have hnb8 := NB390_389.out
   have hnc8 := NB389_390.out
   have hnb9 := NB390_391.out
   have hnc9 := NB391_390.out
   obtain ⟨hcz10_0, hcz10_1, hfz10_0, hfz10_1⟩ := c2 BK390
   go_wp2
   go_meet
   case rel => exact ⟨_, ((a1_1 == 0)), (by first | rfl | (simp; done) | (simp [*]; done)), H', ⟨by first | omega | exact Nat.le_refl _⟩, ⟨by (with_reducible repeat (first | refine blk_drewN ?_ _ | refine blk_drew ?_ | refine blk_alloc ?_ _)); exact BK389.out⟩, ⟨by (with_reducible repeat (first | refine blk_drewN ?_ _ | refine blk_drew ?_ | refine blk_alloc ?_ _)); exact BK390.out⟩, ⟨by (with_reducible repeat (first | refine blk_drewN ?_ _ | refine blk_drew ?_ | refine blk_alloc ?_ _)); exact BK391.out⟩, ⟨by repeat (first | (with_reducible first | exact HB.out | apply below_alloc | apply pw_below_drewN | apply below_drew1 | refine below_set ?_ GE389.out | refine below_set ?_ GE390.out | refine below_set ?_ GE391.out) | exact HB.out)⟩⟩
  ·
   rw [if_neg c7] at H
   have c7b0 : (a1_0 == 0) = false := beq_eq_false_iff_ne.mpr c7
   have c7b1 : (a1_0 != 0) = true := bne_iff_ne.mpr c7
   (first | rw [c7b0] | (simp only [i64_w, i32_w]; rw [c7b0]) | skip)
   have H' := Aside0.mk H
   clear H
   have hnb11 := NB390_389.out
   have hnc11 := NB389_390.out
   have hnb12 := NB390_391.out
   have hnc12 := NB391_390.out
   obtain ⟨hcz13_0, hcz13_1, hfz13_0, hfz13_1⟩ := c2 BK390
   go_wp2
   go_meet
   case rel => exact ⟨_, (false), (by first | rfl | (simp; done) | (simp [*]; done)), H', ⟨by first | omega | exact Nat.le_refl _⟩, ⟨by (with_reducible repeat (first | refine blk_drewN ?_ _ | refine blk_drew ?_ | refine blk_alloc ?_ _)); exact BK389.out⟩, ⟨by (with_reducible repeat (first | refine blk_drewN ?_ _ | refine blk_drew ?_ | refine blk_alloc ?_ _)); exact BK390.out⟩, ⟨by (with_reducible repeat (first | refine blk_drewN ?_ _ | refine blk_drew ?_ | refine blk_alloc ?_ _)); exact BK391.out⟩, ⟨by repeat (first | (with_reducible first | exact HB.out | apply below_alloc | apply pw_below_drewN | apply below_drew1 | refine below_set ?_ GE389.out | refine below_set ?_ GE390.out | refine below_set ?_ GE391.out) | exact HB.out)⟩⟩
 case rest =>
  clear HC3
  try clear c1
  try clear p2
  try clear c7
  try clear c7b0
  try clear c7b1
  try clear c8
  try clear c9
  try clear c11
  try clear c12
  try clear hcz10_0
  try clear hcz10_1
  try clear hcz13_0
  try clear hcz13_1
  try clear hfz10_0
  try clear hfz10_1
  try clear hfz13_0
  try clear hfz13_1
  obtain ⟨kq, x15_2, rfl, HA, HJ2, BK389, BK390, BK391, HB⟩ := hcut
  cases kq with
  | zero => exact absurd HA.out (by simp [avermentref10_rem.j0])
  | succ kj2 =>
   have H := HA.out
   clear HA
   simp only [avermentref10_rem.j0] at H
   by_cases c14 : x15_2 = true
   ·
    subst c14
    rw [if_pos rfl] at H
    simp only [Option.some.injEq, Prod.mk.injEq] at H
    obtain ⟨rfl, rfl, rfl⟩ := H
    have hnb15 := NB391_389.out
    have hnc15 := NB389_391.out
    have hnb16 := NB391_390.out
    have hnc16 := NB390_391.out
    obtain ⟨hcz17_0, hcz17_1, hfz17_0, hfz17_1⟩ := c2 BK391
    go_wp2
    refine bodyPost_ret (results_ct rfl _ _ gb391 56 #[.int .i64 0, .int .i64 0] (0, 0) _ rfl (by (with_reducible repeat (first | refine blk_drewN ?_ _ | refine blk_drew ?_ | refine blk_alloc ?_ _)); refine blk_put (cs := #[.int .i64 0, .int .i64 0]) ?_ 1 _ rfl; (with_reducible repeat (first | refine blk_drewN ?_ _ | refine blk_drew ?_ | refine blk_alloc ?_ _)); refine blk_put (cs := #[.int .i64 0, .int .i64 0]) ?_ 0 _ rfl; (with_reducible repeat (first | refine blk_drewN ?_ _ | refine blk_drew ?_ | refine blk_alloc ?_ _)); exact BK391.out) Try.underlying56 rfl (by kernel_rfl)) rfl ?_
    exact ⟨by first | rfl | (simp [*, errW_none, errW_some] <;> rfl), by repeat (first | (with_reducible first | exact HB.out | apply below_alloc | apply pw_below_drewN | apply below_drew1 | refine below_set ?_ GE389.out | refine below_set ?_ GE390.out | refine below_set ?_ GE391.out) | exact HB.out)⟩
   ·
    replace c14 := Bool.eq_false_iff.mpr c14
    subst c14
    rw [if_neg (show ¬ (false = true) by decide)] at H
    replace H := Option.bind_eq_some_iff.mp H
    obtain ⟨t392, A180, H⟩ := H
    (try dsimp only at H)
    have A18 := Aside0.mk A180
    clear A180
    by_cases c19 : a0_0 < 0
    ·
     rw [if_pos c19] at H
     have c19b0 : decide (a0_0 < 0) = true := decide_eq_true c19
     clear c19
     obtain ⟨ji20, hji20⟩ : ∃ j_ : Int, (mx a0_0 (wrap64 (-t392))) = j_ := ⟨_, rfl⟩
     replace H : (if a0_1 > 0 then (some (ji20, mn a0_1 t392, true)) else (some (ji20, 0, true))) = some (r1, r2, r3) := by first | (rw [hji20] at H; exact H) | (simp only [hji20] at H ⊢; exact H)
     (try rw [hji20] at A18)
     have hji20_ : (if a0_0 < (wrap64 (-t392)) then (wrap64 (-t392)) else a0_0) = ji20 := hji20
     by_cases c21 : a0_1 > 0
     ·
      rw [if_pos c21] at H
      have c21b0 : decide (0 < a0_1) = true := decide_eq_true c21
      clear c21
      obtain ⟨ji22, hji22⟩ : ∃ j_ : Int, (mn a0_1 t392) = j_ := ⟨_, rfl⟩
      replace H : (some (ji20, ji22, true)) = some (r1, r2, r3) := by first | (rw [hji22] at H; exact H) | (simp only [hji22] at H ⊢; exact H)
      (try rw [hji22] at A18)
      have hji22_ : (if t392 < a0_1 then t392 else a0_1) = ji22 := hji22
      simp only [Option.some.injEq, Prod.mk.injEq] at H
      obtain ⟨rfl, rfl, rfl⟩ := H
      have hnb23 := NB390_389.out
      have hnc23 := NB389_390.out
      have hnb24 := NB390_391.out
      have hnc24 := NB391_390.out
      obtain ⟨hcz25_0, hcz25_1, hfz25_0, hfz25_1⟩ := c2 BK390
      go_wp2_with (first | ((with_reducible refine gate_callee (f := 89) rfl ?_); refine goesL_ (some 18) rfl rfl Try.func89 (by kernel_rfl) rfl #[.agg #[.int .i64 a1_0, .int .i64 a1_1]] rfl (mapq rfl) ?_; (with_reducible refine (avermentref10_far.calls a1_0 a1_1 t392 _ A18.out).mono ?_); rintro e w26 ⟨rfl, hb⟩; refine ⟨_, rfl, ?_⟩; replace BK389 := bb BK389 hb rfl; replace BK390 := bb BK390 hb rfl; replace BK391 := bb BK391 hb rfl; replace HB := hst HB hb rfl; (try clear hb)) | ((with_reducible refine gate_dst (N := 7) rfl ?_); refine box_event ?hg (N := 7) ?hd (cs := #[.int .i64 0, .int .i64 0]) (t := 56) ?hr ?_; (case hd => rfl); (case hg => rfl); (case hr => first | (go_simp; done) | (go_simp; rfl)); intro gb393 hg w27 hbox hb; have BK393 := Aside0.mk (hbox); have GW393 := geb hg HB rfl; have GE393 := geb hg HB rfl; have NB389_393 := nbl hg BK389 rfl; have NB393_389 := nbr hg BK389 rfl; have NB390_393 := nbl hg BK390 rfl; have NB393_390 := nbr hg BK390 rfl; have NB391_393 := nbl hg BK391 rfl; have NB393_391 := nbr hg BK391 rfl; replace BK389 := bb BK389 hb rfl; replace BK390 := bb BK390 hb rfl; replace BK391 := bb BK391 hb rfl; replace HB := hst HB hb rfl; clear hb hbox hg; have hnb28 := NB389_391.out; have hnc28 := NB391_389.out; have hnb29 := NB389_393.out; have hnc29 := NB393_389.out; obtain ⟨hcz30_0, hcz30_1, hfz30_0, hfz30_1⟩ := c2 BK389; have hnb31 := NB393_390.out; have hnc31 := NB390_393.out; have hnb32 := NB393_391.out; have hnc32 := NB391_393.out; obtain ⟨hcz33_0, hcz33_1, hfz33_0, hfz33_1⟩ := c2 BK393; obtain ⟨hcz34_0, hcz34_1, hfz34_0, hfz34_1⟩ := c2 BK391))
      refine bodyPost_ret (results_ct rfl _ _ gb391 56 #[.int .i64 ji20, .int .i64 ji22] (0, 0) _ rfl (by (with_reducible repeat (first | refine blk_drewN ?_ _ | refine blk_drew ?_ | refine blk_alloc ?_ _)); refine blk_put (cs := #[.int .i64 ji20, .int .i64 0]) ?_ 1 _ rfl; (with_reducible repeat (first | refine blk_drewN ?_ _ | refine blk_drew ?_ | refine blk_alloc ?_ _)); refine blk_put (cs := #[.int .i64 0, .int .i64 0]) ?_ 0 _ rfl; (with_reducible repeat (first | refine blk_drewN ?_ _ | refine blk_drew ?_ | refine blk_alloc ?_ _)); refine blk_far ?_ NB391_393.out _; (with_reducible repeat (first | refine blk_drewN ?_ _ | refine blk_drew ?_ | refine blk_alloc ?_ _)); refine blk_far ?_ NB391_393.out _; (with_reducible repeat (first | refine blk_drewN ?_ _ | refine blk_drew ?_ | refine blk_alloc ?_ _)); exact BK391.out) Try.underlying56 rfl (by kernel_rfl)) rfl ?_
      exact ⟨by first | rfl | (simp [errW_none, errW_some] <;> rfl) | (simp only [← hji20, ← hji22]; first | rfl | (simp [errW_none, errW_some] <;> rfl)) | (simp [*, errW_none, errW_some] <;> rfl), by repeat (first | (with_reducible first | exact HB.out | apply below_alloc | apply pw_below_drewN | apply below_drew1 | refine below_set ?_ GE389.out | refine below_set ?_ GE390.out | refine below_set ?_ GE391.out | refine below_set ?_ GE393.out) | exact HB.out)⟩
     ·
      rw [if_neg c21] at H
      have c21b0 : decide (0 < a0_1) = false := decide_eq_false c21
      clear c21
      simp only [Option.some.injEq, Prod.mk.injEq] at H
      obtain ⟨rfl, rfl, rfl⟩ := H
      have hnb35 := NB390_389.out
      have hnc35 := NB389_390.out
      have hnb36 := NB390_391.out
      have hnc36 := NB391_390.out
      obtain ⟨hcz37_0, hcz37_1, hfz37_0, hfz37_1⟩ := c2 BK390
      go_wp2_with (first | ((with_reducible refine gate_callee (f := 89) rfl ?_); refine goesL_ (some 18) rfl rfl Try.func89 (by kernel_rfl) rfl #[.agg #[.int .i64 a1_0, .int .i64 a1_1]] rfl (mapq rfl) ?_; (with_reducible refine (avermentref10_far.calls a1_0 a1_1 t392 _ A18.out).mono ?_); rintro e w38 ⟨rfl, hb⟩; refine ⟨_, rfl, ?_⟩; replace BK389 := bb BK389 hb rfl; replace BK390 := bb BK390 hb rfl; replace BK391 := bb BK391 hb rfl; replace HB := hst HB hb rfl; (try clear hb)) | ((with_reducible refine gate_dst (N := 7) rfl ?_); refine box_event ?hg (N := 7) ?hd (cs := #[.int .i64 0, .int .i64 0]) (t := 56) ?hr ?_; (case hd => rfl); (case hg => rfl); (case hr => first | (go_simp; done) | (go_simp; rfl)); intro gb393 hg w39 hbox hb; have BK393 := Aside0.mk (hbox); have GW393 := geb hg HB rfl; have GE393 := geb hg HB rfl; have NB389_393 := nbl hg BK389 rfl; have NB393_389 := nbr hg BK389 rfl; have NB390_393 := nbl hg BK390 rfl; have NB393_390 := nbr hg BK390 rfl; have NB391_393 := nbl hg BK391 rfl; have NB393_391 := nbr hg BK391 rfl; replace BK389 := bb BK389 hb rfl; replace BK390 := bb BK390 hb rfl; replace BK391 := bb BK391 hb rfl; replace HB := hst HB hb rfl; clear hb hbox hg; have hnb40 := NB389_391.out; have hnc40 := NB391_389.out; have hnb41 := NB389_393.out; have hnc41 := NB393_389.out; obtain ⟨hcz42_0, hcz42_1, hfz42_0, hfz42_1⟩ := c2 BK389; have hnb43 := NB393_390.out; have hnc43 := NB390_393.out; have hnb44 := NB393_391.out; have hnc44 := NB391_393.out; obtain ⟨hcz45_0, hcz45_1, hfz45_0, hfz45_1⟩ := c2 BK393; obtain ⟨hcz46_0, hcz46_1, hfz46_0, hfz46_1⟩ := c2 BK391))
      refine bodyPost_ret (results_ct rfl _ _ gb391 56 #[.int .i64 ji20, .int .i64 0] (0, 0) _ rfl (by (with_reducible repeat (first | refine blk_drewN ?_ _ | refine blk_drew ?_ | refine blk_alloc ?_ _)); refine blk_put (cs := #[.int .i64 ji20, .int .i64 0]) ?_ 1 _ rfl; (with_reducible repeat (first | refine blk_drewN ?_ _ | refine blk_drew ?_ | refine blk_alloc ?_ _)); refine blk_put (cs := #[.int .i64 0, .int .i64 0]) ?_ 0 _ rfl; (with_reducible repeat (first | refine blk_drewN ?_ _ | refine blk_drew ?_ | refine blk_alloc ?_ _)); refine blk_far ?_ NB391_393.out _; (with_reducible repeat (first | refine blk_drewN ?_ _ | refine blk_drew ?_ | refine blk_alloc ?_ _)); exact BK391.out) Try.underlying56 rfl (by kernel_rfl)) rfl ?_
      exact ⟨by first | rfl | (simp [errW_none, errW_some] <;> rfl) | (simp only [← hji20]; first | rfl | (simp [errW_none, errW_some] <;> rfl)) | (simp [*, errW_none, errW_some] <;> rfl), by repeat (first | (with_reducible first | exact HB.out | apply below_alloc | apply pw_below_drewN | apply below_drew1 | refine below_set ?_ GE389.out | refine below_set ?_ GE390.out | refine below_set ?_ GE391.out | refine below_set ?_ GE393.out) | exact HB.out)⟩
    ·
     rw [if_neg c19] at H
     have c19b0 : decide (a0_0 < 0) = false := decide_eq_false c19
     clear c19
     by_cases c47 : a0_1 > 0
     ·
      rw [if_pos c47] at H
      have c47b0 : decide (0 < a0_1) = true := decide_eq_true c47
      clear c47
      obtain ⟨ji48, hji48⟩ : ∃ j_ : Int, (mn a0_1 t392) = j_ := ⟨_, rfl⟩
      replace H : (some (0, ji48, true)) = some (r1, r2, r3) := by first | (rw [hji48] at H; exact H) | (simp only [hji48] at H ⊢; exact H)
      (try rw [hji48] at A18)
      have hji48_ : (if t392 < a0_1 then t392 else a0_1) = ji48 := hji48
      simp only [Option.some.injEq, Prod.mk.injEq] at H
      obtain ⟨rfl, rfl, rfl⟩ := H
      have hnb49 := NB390_389.out
      have hnc49 := NB389_390.out
      have hnb50 := NB390_391.out
      have hnc50 := NB391_390.out
      obtain ⟨hcz51_0, hcz51_1, hfz51_0, hfz51_1⟩ := c2 BK390
      go_wp2_with (first | ((with_reducible refine gate_callee (f := 89) rfl ?_); refine goesL_ (some 18) rfl rfl Try.func89 (by kernel_rfl) rfl #[.agg #[.int .i64 a1_0, .int .i64 a1_1]] rfl (mapq rfl) ?_; (with_reducible refine (avermentref10_far.calls a1_0 a1_1 t392 _ A18.out).mono ?_); rintro e w52 ⟨rfl, hb⟩; refine ⟨_, rfl, ?_⟩; replace BK389 := bb BK389 hb rfl; replace BK390 := bb BK390 hb rfl; replace BK391 := bb BK391 hb rfl; replace HB := hst HB hb rfl; (try clear hb)) | ((with_reducible refine gate_dst (N := 7) rfl ?_); refine box_event ?hg (N := 7) ?hd (cs := #[.int .i64 0, .int .i64 0]) (t := 56) ?hr ?_; (case hd => rfl); (case hg => rfl); (case hr => first | (go_simp; done) | (go_simp; rfl)); intro gb393 hg w53 hbox hb; have BK393 := Aside0.mk (hbox); have GW393 := geb hg HB rfl; have GE393 := geb hg HB rfl; have NB389_393 := nbl hg BK389 rfl; have NB393_389 := nbr hg BK389 rfl; have NB390_393 := nbl hg BK390 rfl; have NB393_390 := nbr hg BK390 rfl; have NB391_393 := nbl hg BK391 rfl; have NB393_391 := nbr hg BK391 rfl; replace BK389 := bb BK389 hb rfl; replace BK390 := bb BK390 hb rfl; replace BK391 := bb BK391 hb rfl; replace HB := hst HB hb rfl; clear hb hbox hg; have hnb54 := NB389_391.out; have hnc54 := NB391_389.out; have hnb55 := NB389_393.out; have hnc55 := NB393_389.out; obtain ⟨hcz56_0, hcz56_1, hfz56_0, hfz56_1⟩ := c2 BK389; have hnb57 := NB393_390.out; have hnc57 := NB390_393.out; have hnb58 := NB393_391.out; have hnc58 := NB391_393.out; obtain ⟨hcz59_0, hcz59_1, hfz59_0, hfz59_1⟩ := c2 BK393; obtain ⟨hcz60_0, hcz60_1, hfz60_0, hfz60_1⟩ := c2 BK391))
      refine bodyPost_ret (results_ct rfl _ _ gb391 56 #[.int .i64 0, .int .i64 ji48] (0, 0) _ rfl (by (with_reducible repeat (first | refine blk_drewN ?_ _ | refine blk_drew ?_ | refine blk_alloc ?_ _)); refine blk_put (cs := #[.int .i64 0, .int .i64 0]) ?_ 1 _ rfl; (with_reducible repeat (first | refine blk_drewN ?_ _ | refine blk_drew ?_ | refine blk_alloc ?_ _)); refine blk_put (cs := #[.int .i64 0, .int .i64 0]) ?_ 0 _ rfl; (with_reducible repeat (first | refine blk_drewN ?_ _ | refine blk_drew ?_ | refine blk_alloc ?_ _)); refine blk_far ?_ NB391_393.out _; (with_reducible repeat (first | refine blk_drewN ?_ _ | refine blk_drew ?_ | refine blk_alloc ?_ _)); exact BK391.out) Try.underlying56 rfl (by kernel_rfl)) rfl ?_
      exact ⟨by first | rfl | (simp [errW_none, errW_some] <;> rfl) | (simp only [← hji48]; first | rfl | (simp [errW_none, errW_some] <;> rfl)) | (simp [*, errW_none, errW_some] <;> rfl), by repeat (first | (with_reducible first | exact HB.out | apply below_alloc | apply pw_below_drewN | apply below_drew1 | refine below_set ?_ GE389.out | refine below_set ?_ GE390.out | refine below_set ?_ GE391.out | refine below_set ?_ GE393.out) | exact HB.out)⟩
     ·
      rw [if_neg c47] at H
      have c47b0 : decide (0 < a0_1) = false := decide_eq_false c47
      clear c47
      simp only [Option.some.injEq, Prod.mk.injEq] at H
      obtain ⟨rfl, rfl, rfl⟩ := H
      have hnb61 := NB390_389.out
      have hnc61 := NB389_390.out
      have hnb62 := NB390_391.out
      have hnc62 := NB391_390.out
      obtain ⟨hcz63_0, hcz63_1, hfz63_0, hfz63_1⟩ := c2 BK390
      go_wp2_with (first | ((with_reducible refine gate_callee (f := 89) rfl ?_); refine goesL_ (some 18) rfl rfl Try.func89 (by kernel_rfl) rfl #[.agg #[.int .i64 a1_0, .int .i64 a1_1]] rfl (mapq rfl) ?_; (with_reducible refine (avermentref10_far.calls a1_0 a1_1 t392 _ A18.out).mono ?_); rintro e w64 ⟨rfl, hb⟩; refine ⟨_, rfl, ?_⟩; replace BK389 := bb BK389 hb rfl; replace BK390 := bb BK390 hb rfl; replace BK391 := bb BK391 hb rfl; replace HB := hst HB hb rfl; (try clear hb)) | ((with_reducible refine gate_dst (N := 7) rfl ?_); refine box_event ?hg (N := 7) ?hd (cs := #[.int .i64 0, .int .i64 0]) (t := 56) ?hr ?_; (case hd => rfl); (case hg => rfl); (case hr => first | (go_simp; done) | (go_simp; rfl)); intro gb393 hg w65 hbox hb; have BK393 := Aside0.mk (hbox); have GW393 := geb hg HB rfl; have GE393 := geb hg HB rfl; have NB389_393 := nbl hg BK389 rfl; have NB393_389 := nbr hg BK389 rfl; have NB390_393 := nbl hg BK390 rfl; have NB393_390 := nbr hg BK390 rfl; have NB391_393 := nbl hg BK391 rfl; have NB393_391 := nbr hg BK391 rfl; replace BK389 := bb BK389 hb rfl; replace BK390 := bb BK390 hb rfl; replace BK391 := bb BK391 hb rfl; replace HB := hst HB hb rfl; clear hb hbox hg; have hnb66 := NB389_391.out; have hnc66 := NB391_389.out; have hnb67 := NB389_393.out; have hnc67 := NB393_389.out; obtain ⟨hcz68_0, hcz68_1, hfz68_0, hfz68_1⟩ := c2 BK389; have hnb69 := NB393_390.out; have hnc69 := NB390_393.out; have hnb70 := NB393_391.out; have hnc70 := NB391_393.out; obtain ⟨hcz71_0, hcz71_1, hfz71_0, hfz71_1⟩ := c2 BK393; obtain ⟨hcz72_0, hcz72_1, hfz72_0, hfz72_1⟩ := c2 BK391))
      refine bodyPost_ret (results_ct rfl _ _ gb391 56 #[.int .i64 0, .int .i64 0] (0, 0) _ rfl (by (with_reducible repeat (first | refine blk_drewN ?_ _ | refine blk_drew ?_ | refine blk_alloc ?_ _)); refine blk_put (cs := #[.int .i64 0, .int .i64 0]) ?_ 1 _ rfl; (with_reducible repeat (first | refine blk_drewN ?_ _ | refine blk_drew ?_ | refine blk_alloc ?_ _)); refine blk_put (cs := #[.int .i64 0, .int .i64 0]) ?_ 0 _ rfl; (with_reducible repeat (first | refine blk_drewN ?_ _ | refine blk_drew ?_ | refine blk_alloc ?_ _)); exact BK391.out) Try.underlying56 rfl (by kernel_rfl)) rfl ?_
      exact ⟨by first | rfl | (simp [*, errW_none, errW_some] <;> rfl), by repeat (first | (with_reducible first | exact HB.out | apply below_alloc | apply pw_below_drewN | apply below_drew1 | refine below_set ?_ GE389.out | refine below_set ?_ GE390.out | refine below_set ?_ GE391.out | refine below_set ?_ GE393.out) | exact HB.out)⟩

/-! ### avermentref10_and: function 81 -/
def avermentref10_and.j0 : Nat → Bool → Int → Int → Int → Int → Option (Int × Int)
 | 0, _, _, _, _, _ => none
 | k + 1, x12, x395000, x395001, x396000, x396001 => if x12 = true then (some (0, mn x395001 x396001)) else (if x395000 ≥ 0 then (some (0, x395001)) else (if x396000 ≥ 0 then (some (0, x396001)) else (if x395001 < 0 then (if x396001 < 0 then (some ((-9223372036854775808), mn x395001 x396001)) else (some ((-9223372036854775808), mx x395001 x396001))) else (some ((-9223372036854775808), mx x395001 x396001)))))
def avermentref10_and.f (k : Nat) (a0_0 : Int) (a0_1 : Int) (a1_0 : Int) (a1_1 : Int) : Option (Int × Int) := if a0_0 ≥ 0 then (avermentref10_and.j0 k (decide (a1_0 ≥ 0)) a0_0 a0_1 a1_0 a1_1) else (avermentref10_and.j0 k false a0_0 a0_1 a1_0 a1_1)
theorem avermentref10_and.mono_l : ∀ k, (∀ y0 y1 y2 y3 y4, LeO (avermentref10_and.j0 k y0 y1 y2 y3 y4) (avermentref10_and.j0 (k + 1) y0 y1 y2 y3 y4))
 | 0 => fun _ _ _ _ _ r h => by simp [avermentref10_and.j0] at h
 | k + 1 => by
  have ih0 := avermentref10_and.mono_l k
  ·
   intro y0 y1 y2 y3 y4
   unfold avermentref10_and.j0
   repeat' first
   | (with_reducible exact ih0 _ _ _ _ _)
   | (with_reducible exact LeO.refl _)
   | (with_reducible exact LeO.none _)
   | (with_reducible refine LeO.ite ?_ ?_)
   | (with_reducible refine LeO.bind ?_ (fun _ => ?_))
   | exact ih0 _ _ _ _ _
   | exact LeO.none _
   | refine LeO.ite ?_ ?_
   | refine LeO.bind ?_ (fun _ => ?_)
theorem avermentref10_and.mono : ∀ a0 a1 a2 a3 k, LeO (avermentref10_and.f k a0 a1 a2 a3) (avermentref10_and.f (k + 1) a0 a1 a2 a3) := by
 intro a0 a1 a2 a3 k
 have ih0 := avermentref10_and.mono_l k
 unfold avermentref10_and.f
 repeat' first
   | (with_reducible exact ih0 _ _ _ _ _)
   | (with_reducible exact LeO.refl _)
   | (with_reducible exact LeO.none _)
   | (with_reducible refine LeO.ite ?_ ?_)
   | (with_reducible refine LeO.bind ?_ (fun _ => ?_))
   | exact ih0 _ _ _ _ _
   | exact LeO.none _
   | refine LeO.ite ?_ ?_
   | refine LeO.bind ?_ (fun _ => ?_)
set_option maxHeartbeats 8000000 in
set_option maxRecDepth 100000 in
theorem avermentref10_and.calls (k : Nat) (a0_0 : Int) (a0_1 : Int) (a1_0 : Int) (a1_1 : Int) (r1 : Int) (r2 : Int) (w : World) (h : avermentref10_and.f k a0_0 a0_1 a1_0 a1_1 = some (r1, r2)) :
  Calls Try.prog 81 #[.agg #[.int .i64 a0_0, .int .i64 a0_1], .agg #[.int .i64 a1_0, .int .i64 a1_1]] w fun e w' => e = .returned (.agg #[.int .i64 r1, .int .i64 r2]) ∧ Below w.heap.size w w' := by
 have hu56 := Try.underlying56
 have HB := Aside0.mk (Below.refl w.heap.size w)
 have H : (if a0_0 ≥ 0 then (avermentref10_and.j0 k (decide (a1_0 ≥ 0)) a0_0 a0_1 a1_0 a1_1) else (avermentref10_and.j0 k false a0_0 a0_1 a1_0 a1_1)) = some (r1, r2) := h
 clear h
 have HC3 := Aside0.mk H
 clear H
 go_enter Try.func81, Try.ntmps81
 go_upto_region 1 with (first | ((with_reducible refine gate_dst (N := 2) rfl ?_); refine box_event ?hg (N := 2) ?hd (cs := #[.int .i64 a0_0, .int .i64 a0_1]) (t := 56) ?hr ?_; (case hd => rfl); (case hg => rfl); (case hr => first | (go_simp; done) | (go_simp; rfl)); intro gb394 hg w4 hbox hb; have BK394 := Aside0.mk (hbox); have GW394 := geb hg HB rfl; have GE394 := geb hg HB rfl; replace HB := hst HB hb rfl; clear hb hbox hg) | ((with_reducible refine gate_dst (N := 3) rfl ?_); refine box_event ?hg (N := 3) ?hd (cs := #[.int .i64 a1_0, .int .i64 a1_1]) (t := 56) ?hr ?_; (case hd => rfl); (case hg => rfl); (case hr => first | (go_simp; done) | (go_simp; rfl)); intro gb395 hg w5 hbox hb; have BK395 := Aside0.mk (hbox); have GW395 := geb hg HB rfl; have GE395 := geb hg HB rfl; have NB394_395 := nbl hg BK394 rfl; have NB395_394 := nbr hg BK394 rfl; replace BK394 := bb BK394 hb rfl; replace HB := hst HB hb rfl; clear hb hbox hg) | ((with_reducible refine gate_dst (N := 4) rfl ?_); refine box_event ?hg (N := 4) ?hd (cs := #[.int .i64 0, .int .i64 0]) (t := 56) ?hr ?_; (case hd => rfl); (case hg => rfl); (case hr => first | (go_simp; done) | (go_simp; rfl)); intro gb396 hg w6 hbox hb; have BK396 := Aside0.mk (hbox); have GW396 := geb hg HB rfl; have GE396 := geb hg HB rfl; have NB394_396 := nbl hg BK394 rfl; have NB396_394 := nbr hg BK394 rfl; have NB395_396 := nbl hg BK395 rfl; have NB396_395 := nbr hg BK395 rfl; replace BK394 := bb BK394 hb rfl; replace BK395 := bb BK395 hb rfl; replace HB := hst HB hb rfl; clear hb hbox hg))
 (try simp only [Act.put, List.setIfInBounds_toArray, List.set_cons_zero, List.set_cons_succ])
 go_cut [12] (fun v12 wc => ∃ (kq : Nat) (x12_2 : Bool), v12 = .bool x12_2 ∧ Aside0 (avermentref10_and.j0 kq x12_2 a0_0 a0_1 a1_0 a1_1 = some (r1, r2)) ∧ Aside0 (kq ≤ k) ∧ Aside0 (wc.heap[gb394]? = some (.cells #[.int .i64 a0_0, .int .i64 a0_1] 56 (0, 0))) ∧ Aside0 (wc.heap[gb395]? = some (.cells #[.int .i64 a1_0, .int .i64 a1_1] 56 (0, 0))) ∧ Aside0 (wc.heap[gb396]? = some (.cells #[.int .i64 0, .int .i64 0] 56 (0, 0))) ∧ Aside0 (Below w.heap.size w wc))
 case first =>
  have H := HC3.out
  clear HC3
  by_cases c7 : a0_0 ≥ 0
  ·
   rw [if_pos c7] at H
   have c7b0 : decide (0 ≤ a0_0) = true := decide_eq_true c7
   clear c7
   (first | rw [c7b0] | (simp only [i64_w, i32_w]; rw [c7b0]) | skip)
   have H' := Aside0.mk H
   clear H
   have hnb8 := NB394_395.out
   have hnc8 := NB395_394.out
   have hnb9 := NB394_396.out
   have hnc9 := NB396_394.out
   obtain ⟨hcz10_0, hcz10_1, hfz10_0, hfz10_1⟩ := c2 BK394
   have hnb11 := NB395_396.out
   have hnc11 := NB396_395.out
   obtain ⟨hcz12_0, hcz12_1, hfz12_0, hfz12_1⟩ := c2 BK395
   go_wp2
   go_meet
   case rel => exact ⟨_, (decide (a1_0 ≥ 0)), (by first | rfl | (simp; done) | (simp [*]; done)), H', ⟨by first | omega | exact Nat.le_refl _⟩, ⟨by (with_reducible repeat (first | refine blk_drewN ?_ _ | refine blk_drew ?_ | refine blk_alloc ?_ _)); exact BK394.out⟩, ⟨by (with_reducible repeat (first | refine blk_drewN ?_ _ | refine blk_drew ?_ | refine blk_alloc ?_ _)); exact BK395.out⟩, ⟨by (with_reducible repeat (first | refine blk_drewN ?_ _ | refine blk_drew ?_ | refine blk_alloc ?_ _)); exact BK396.out⟩, ⟨by repeat (first | (with_reducible first | exact HB.out | apply below_alloc | apply pw_below_drewN | apply below_drew1 | refine below_set ?_ GE394.out | refine below_set ?_ GE395.out | refine below_set ?_ GE396.out) | exact HB.out)⟩⟩
  ·
   rw [if_neg c7] at H
   have c7b0 : decide (0 ≤ a0_0) = false := decide_eq_false c7
   clear c7
   (first | rw [c7b0] | (simp only [i64_w, i32_w]; rw [c7b0]) | skip)
   have H' := Aside0.mk H
   clear H
   have hnb13 := NB394_395.out
   have hnc13 := NB395_394.out
   have hnb14 := NB394_396.out
   have hnc14 := NB396_394.out
   obtain ⟨hcz15_0, hcz15_1, hfz15_0, hfz15_1⟩ := c2 BK394
   go_wp2
   go_meet
   case rel => exact ⟨_, (false), (by first | rfl | (simp; done) | (simp [*]; done)), H', ⟨by first | omega | exact Nat.le_refl _⟩, ⟨by (with_reducible repeat (first | refine blk_drewN ?_ _ | refine blk_drew ?_ | refine blk_alloc ?_ _)); exact BK394.out⟩, ⟨by (with_reducible repeat (first | refine blk_drewN ?_ _ | refine blk_drew ?_ | refine blk_alloc ?_ _)); exact BK395.out⟩, ⟨by (with_reducible repeat (first | refine blk_drewN ?_ _ | refine blk_drew ?_ | refine blk_alloc ?_ _)); exact BK396.out⟩, ⟨by repeat (first | (with_reducible first | exact HB.out | apply below_alloc | apply pw_below_drewN | apply below_drew1 | refine below_set ?_ GE394.out | refine below_set ?_ GE395.out | refine below_set ?_ GE396.out) | exact HB.out)⟩⟩
 case rest =>
  clear HC3
  try clear c1
  try clear p2
  try clear c7
  try clear c7b0
  try clear c8
  try clear c9
  try clear c11
  try clear c13
  try clear c14
  try clear hcz10_0
  try clear hcz10_1
  try clear hcz12_0
  try clear hcz12_1
  try clear hcz15_0
  try clear hcz15_1
  try clear hfz10_0
  try clear hfz10_1
  try clear hfz12_0
  try clear hfz12_1
  try clear hfz15_0
  try clear hfz15_1
  obtain ⟨kq, x12_2, rfl, HA, HJ2, BK394, BK395, BK396, HB⟩ := hcut
  cases kq with
  | zero => exact absurd HA.out (by simp [avermentref10_and.j0])
  | succ kj2 =>
   have H := HA.out
   clear HA
   simp only [avermentref10_and.j0] at H
   by_cases c16 : x12_2 = true
   ·
    subst c16
    rw [if_pos rfl] at H
    obtain ⟨ji17, hji17⟩ : ∃ j_ : Int, (mn a0_1 a1_1) = j_ := ⟨_, rfl⟩
    replace H : (some (0, ji17)) = some (r1, r2) := by first | (rw [hji17] at H; exact H) | (simp only [hji17] at H ⊢; exact H)
    have hji17_ : (if a1_1 < a0_1 then a1_1 else a0_1) = ji17 := hji17
    simp only [Option.some.injEq, Prod.mk.injEq] at H
    obtain ⟨rfl, rfl⟩ := H
    have hnb18 := NB394_395.out
    have hnc18 := NB395_394.out
    have hnb19 := NB394_396.out
    have hnc19 := NB396_394.out
    obtain ⟨hcz20_0, hcz20_1, hfz20_0, hfz20_1⟩ := c2 BK394
    have hnb21 := NB395_396.out
    have hnc21 := NB396_395.out
    obtain ⟨hcz22_0, hcz22_1, hfz22_0, hfz22_1⟩ := c2 BK395
    obtain ⟨hcz23_0, hcz23_1, hfz23_0, hfz23_1⟩ := c2 BK396
    go_wp2
    refine bodyPost_ret (results_cell_row rfl _ _ gb396 56 #[.int .i64 0, .int .i64 ji17] (0, 0) _ rfl (by (with_reducible repeat (first | refine blk_drewN ?_ _ | refine blk_drew ?_ | refine blk_alloc ?_ _)); refine blk_put (cs := #[.int .i64 0, .int .i64 0]) ?_ 1 _ rfl; (with_reducible repeat (first | refine blk_drewN ?_ _ | refine blk_drew ?_ | refine blk_alloc ?_ _)); refine blk_put (cs := #[.int .i64 0, .int .i64 0]) ?_ 0 _ rfl; (with_reducible repeat (first | refine blk_drewN ?_ _ | refine blk_drew ?_ | refine blk_alloc ?_ _)); exact BK396.out) Try.underlying56 rfl (by kernel_rfl)) rfl ?_
    exact ⟨by first | rfl | (simp [errW_none, errW_some] <;> rfl) | (simp only [← hji17]; first | rfl | (simp [errW_none, errW_some] <;> rfl)) | (simp [*, errW_none, errW_some] <;> rfl), by repeat (first | (with_reducible first | exact HB.out | apply below_alloc | apply pw_below_drewN | apply below_drew1 | refine below_set ?_ GE394.out | refine below_set ?_ GE395.out | refine below_set ?_ GE396.out) | exact HB.out)⟩
   ·
    replace c16 := Bool.eq_false_iff.mpr c16
    subst c16
    rw [if_neg (show ¬ (false = true) by decide)] at H
    by_cases c24 : a0_0 ≥ 0
    ·
     rw [if_pos c24] at H
     have c24b0 : decide (0 ≤ a0_0) = true := decide_eq_true c24
     clear c24
     simp only [Option.some.injEq, Prod.mk.injEq] at H
     obtain ⟨rfl, rfl⟩ := H
     have hnb25 := NB394_395.out
     have hnc25 := NB395_394.out
     have hnb26 := NB394_396.out
     have hnc26 := NB396_394.out
     obtain ⟨hcz27_0, hcz27_1, hfz27_0, hfz27_1⟩ := c2 BK394
     have hnb28 := NB396_395.out
     have hnc28 := NB395_396.out
     obtain ⟨hcz29_0, hcz29_1, hfz29_0, hfz29_1⟩ := c2 BK396
     go_wp2
     refine bodyPost_ret (results_cell_row rfl _ _ gb396 56 #[.int .i64 0, .int .i64 a0_1] (0, 0) _ rfl (by (with_reducible repeat (first | refine blk_drewN ?_ _ | refine blk_drew ?_ | refine blk_alloc ?_ _)); refine blk_put (cs := #[.int .i64 0, .int .i64 0]) ?_ 1 _ rfl; (with_reducible repeat (first | refine blk_drewN ?_ _ | refine blk_drew ?_ | refine blk_alloc ?_ _)); refine blk_put (cs := #[.int .i64 0, .int .i64 0]) ?_ 0 _ rfl; (with_reducible repeat (first | refine blk_drewN ?_ _ | refine blk_drew ?_ | refine blk_alloc ?_ _)); exact BK396.out) Try.underlying56 rfl (by kernel_rfl)) rfl ?_
     exact ⟨by first | rfl | (simp [*, errW_none, errW_some] <;> rfl), by repeat (first | (with_reducible first | exact HB.out | apply below_alloc | apply pw_below_drewN | apply below_drew1 | refine below_set ?_ GE394.out | refine below_set ?_ GE395.out | refine below_set ?_ GE396.out) | exact HB.out)⟩
    ·
     rw [if_neg c24] at H
     have c24b0 : decide (0 ≤ a0_0) = false := decide_eq_false c24
     clear c24
     by_cases c30 : a1_0 ≥ 0
     ·
      rw [if_pos c30] at H
      have c30b0 : decide (0 ≤ a1_0) = true := decide_eq_true c30
      clear c30
      simp only [Option.some.injEq, Prod.mk.injEq] at H
      obtain ⟨rfl, rfl⟩ := H
      have hnb31 := NB394_395.out
      have hnc31 := NB395_394.out
      have hnb32 := NB394_396.out
      have hnc32 := NB396_394.out
      obtain ⟨hcz33_0, hcz33_1, hfz33_0, hfz33_1⟩ := c2 BK394
      have hnb34 := NB395_396.out
      have hnc34 := NB396_395.out
      obtain ⟨hcz35_0, hcz35_1, hfz35_0, hfz35_1⟩ := c2 BK395
      obtain ⟨hcz36_0, hcz36_1, hfz36_0, hfz36_1⟩ := c2 BK396
      go_wp2
      refine bodyPost_ret (results_cell_row rfl _ _ gb396 56 #[.int .i64 0, .int .i64 a1_1] (0, 0) _ rfl (by (with_reducible repeat (first | refine blk_drewN ?_ _ | refine blk_drew ?_ | refine blk_alloc ?_ _)); refine blk_put (cs := #[.int .i64 0, .int .i64 0]) ?_ 1 _ rfl; (with_reducible repeat (first | refine blk_drewN ?_ _ | refine blk_drew ?_ | refine blk_alloc ?_ _)); refine blk_put (cs := #[.int .i64 0, .int .i64 0]) ?_ 0 _ rfl; (with_reducible repeat (first | refine blk_drewN ?_ _ | refine blk_drew ?_ | refine blk_alloc ?_ _)); exact BK396.out) Try.underlying56 rfl (by kernel_rfl)) rfl ?_
      exact ⟨by first | rfl | (simp [*, errW_none, errW_some] <;> rfl), by repeat (first | (with_reducible first | exact HB.out | apply below_alloc | apply pw_below_drewN | apply below_drew1 | refine below_set ?_ GE394.out | refine below_set ?_ GE395.out | refine below_set ?_ GE396.out) | exact HB.out)⟩
     ·
      rw [if_neg c30] at H
      have c30b0 : decide (0 ≤ a1_0) = false := decide_eq_false c30
      clear c30
      by_cases c37 : a0_1 < 0
      ·
       rw [if_pos c37] at H
       have c37b0 : decide (a0_1 < 0) = true := decide_eq_true c37
       clear c37
       by_cases c38 : a1_1 < 0
       ·
        rw [if_pos c38] at H
        have c38b0 : decide (a1_1 < 0) = true := decide_eq_true c38
        clear c38
        obtain ⟨ji39, hji39⟩ : ∃ j_ : Int, (mn a0_1 a1_1) = j_ := ⟨_, rfl⟩
        replace H : (some ((-9223372036854775808), ji39)) = some (r1, r2) := by first | (rw [hji39] at H; exact H) | (simp only [hji39] at H ⊢; exact H)
        have hji39_ : (if a1_1 < a0_1 then a1_1 else a0_1) = ji39 := hji39
        simp only [Option.some.injEq, Prod.mk.injEq] at H
        obtain ⟨rfl, rfl⟩ := H
        have hnb40 := NB394_395.out
        have hnc40 := NB395_394.out
        have hnb41 := NB394_396.out
        have hnc41 := NB396_394.out
        obtain ⟨hcz42_0, hcz42_1, hfz42_0, hfz42_1⟩ := c2 BK394
        have hnb43 := NB395_396.out
        have hnc43 := NB396_395.out
        obtain ⟨hcz44_0, hcz44_1, hfz44_0, hfz44_1⟩ := c2 BK395
        obtain ⟨hcz45_0, hcz45_1, hfz45_0, hfz45_1⟩ := c2 BK396
        go_wp2
        refine bodyPost_ret (results_cell_row rfl _ _ gb396 56 #[.int .i64 (-9223372036854775808), .int .i64 ji39] (0, 0) _ rfl (by (with_reducible repeat (first | refine blk_drewN ?_ _ | refine blk_drew ?_ | refine blk_alloc ?_ _)); refine blk_put (cs := #[.int .i64 (-9223372036854775808), .int .i64 0]) ?_ 1 _ rfl; (with_reducible repeat (first | refine blk_drewN ?_ _ | refine blk_drew ?_ | refine blk_alloc ?_ _)); refine blk_put (cs := #[.int .i64 0, .int .i64 0]) ?_ 0 _ rfl; (with_reducible repeat (first | refine blk_drewN ?_ _ | refine blk_drew ?_ | refine blk_alloc ?_ _)); exact BK396.out) Try.underlying56 rfl (by kernel_rfl)) rfl ?_
        exact ⟨by first | rfl | (simp [errW_none, errW_some] <;> rfl) | (simp only [← hji39]; first | rfl | (simp [errW_none, errW_some] <;> rfl)) | (simp [*, errW_none, errW_some] <;> rfl), by repeat (first | (with_reducible first | exact HB.out | apply below_alloc | apply pw_below_drewN | apply below_drew1 | refine below_set ?_ GE394.out | refine below_set ?_ GE395.out | refine below_set ?_ GE396.out) | exact HB.out)⟩
       ·
        rw [if_neg c38] at H
        have c38b0 : decide (a1_1 < 0) = false := decide_eq_false c38
        clear c38
        obtain ⟨ji46, hji46⟩ : ∃ j_ : Int, (mx a0_1 a1_1) = j_ := ⟨_, rfl⟩
        replace H : (some ((-9223372036854775808), ji46)) = some (r1, r2) := by first | (rw [hji46] at H; exact H) | (simp only [hji46] at H ⊢; exact H)
        have hji46_ : (if a0_1 < a1_1 then a1_1 else a0_1) = ji46 := hji46
        simp only [Option.some.injEq, Prod.mk.injEq] at H
        obtain ⟨rfl, rfl⟩ := H
        have hnb47 := NB394_395.out
        have hnc47 := NB395_394.out
        have hnb48 := NB394_396.out
        have hnc48 := NB396_394.out
        obtain ⟨hcz49_0, hcz49_1, hfz49_0, hfz49_1⟩ := c2 BK394
        have hnb50 := NB395_396.out
        have hnc50 := NB396_395.out
        obtain ⟨hcz51_0, hcz51_1, hfz51_0, hfz51_1⟩ := c2 BK395
        obtain ⟨hcz52_0, hcz52_1, hfz52_0, hfz52_1⟩ := c2 BK396
        go_wp2
        refine bodyPost_ret (results_cell_row rfl _ _ gb396 56 #[.int .i64 (-9223372036854775808), .int .i64 ji46] (0, 0) _ rfl (by (with_reducible repeat (first | refine blk_drewN ?_ _ | refine blk_drew ?_ | refine blk_alloc ?_ _)); refine blk_put (cs := #[.int .i64 (-9223372036854775808), .int .i64 0]) ?_ 1 _ rfl; (with_reducible repeat (first | refine blk_drewN ?_ _ | refine blk_drew ?_ | refine blk_alloc ?_ _)); refine blk_put (cs := #[.int .i64 0, .int .i64 0]) ?_ 0 _ rfl; (with_reducible repeat (first | refine blk_drewN ?_ _ | refine blk_drew ?_ | refine blk_alloc ?_ _)); exact BK396.out) Try.underlying56 rfl (by kernel_rfl)) rfl ?_
        exact ⟨by first | rfl | (simp [errW_none, errW_some] <;> rfl) | (simp only [← hji46]; first | rfl | (simp [errW_none, errW_some] <;> rfl)) | (simp [*, errW_none, errW_some] <;> rfl), by repeat (first | (with_reducible first | exact HB.out | apply below_alloc | apply pw_below_drewN | apply below_drew1 | refine below_set ?_ GE394.out | refine below_set ?_ GE395.out | refine below_set ?_ GE396.out) | exact HB.out)⟩
      ·
       rw [if_neg c37] at H
       have c37b0 : decide (a0_1 < 0) = false := decide_eq_false c37
       clear c37
       obtain ⟨ji53, hji53⟩ : ∃ j_ : Int, (mx a0_1 a1_1) = j_ := ⟨_, rfl⟩
       replace H : (some ((-9223372036854775808), ji53)) = some (r1, r2) := by first | (rw [hji53] at H; exact H) | (simp only [hji53] at H ⊢; exact H)
       have hji53_ : (if a0_1 < a1_1 then a1_1 else a0_1) = ji53 := hji53
       simp only [Option.some.injEq, Prod.mk.injEq] at H
       obtain ⟨rfl, rfl⟩ := H
       have hnb54 := NB394_395.out
       have hnc54 := NB395_394.out
       have hnb55 := NB394_396.out
       have hnc55 := NB396_394.out
       obtain ⟨hcz56_0, hcz56_1, hfz56_0, hfz56_1⟩ := c2 BK394
       have hnb57 := NB395_396.out
       have hnc57 := NB396_395.out
       obtain ⟨hcz58_0, hcz58_1, hfz58_0, hfz58_1⟩ := c2 BK395
       obtain ⟨hcz59_0, hcz59_1, hfz59_0, hfz59_1⟩ := c2 BK396
       go_wp2
       refine bodyPost_ret (results_cell_row rfl _ _ gb396 56 #[.int .i64 (-9223372036854775808), .int .i64 ji53] (0, 0) _ rfl (by (with_reducible repeat (first | refine blk_drewN ?_ _ | refine blk_drew ?_ | refine blk_alloc ?_ _)); refine blk_put (cs := #[.int .i64 (-9223372036854775808), .int .i64 0]) ?_ 1 _ rfl; (with_reducible repeat (first | refine blk_drewN ?_ _ | refine blk_drew ?_ | refine blk_alloc ?_ _)); refine blk_put (cs := #[.int .i64 0, .int .i64 0]) ?_ 0 _ rfl; (with_reducible repeat (first | refine blk_drewN ?_ _ | refine blk_drew ?_ | refine blk_alloc ?_ _)); exact BK396.out) Try.underlying56 rfl (by kernel_rfl)) rfl ?_
       exact ⟨by first | rfl | (simp [errW_none, errW_some] <;> rfl) | (simp only [← hji53]; first | rfl | (simp [errW_none, errW_some] <;> rfl)) | (simp [*, errW_none, errW_some] <;> rfl), by repeat (first | (with_reducible first | exact HB.out | apply below_alloc | apply pw_below_drewN | apply below_drew1 | refine below_set ?_ GE394.out | refine below_set ?_ GE395.out | refine below_set ?_ GE396.out) | exact HB.out)⟩

/-! ### avermentref10_Ones: function 90 -/
def avermentref10_Ones.l0 : Nat → Int → Int → Option (Int)
 | 0, _, _ => none
 | k + 1, x0, x3 => if x3 < x0 then (avermentref10_Ones.l0 k x0 (wrap64 ((wrap64 (2 * x3)) + 1))) else (some x3)
def avermentref10_Ones.f (k : Nat) (a0 : Int) : Option (Int) := avermentref10_Ones.l0 k a0 0
theorem avermentref10_Ones.mono_l : ∀ k, (∀ y0 y1, LeO (avermentref10_Ones.l0 k y0 y1) (avermentref10_Ones.l0 (k + 1) y0 y1))
 | 0 => fun _ _ r h => by simp [avermentref10_Ones.l0] at h
 | k + 1 => by
  have ih0 := avermentref10_Ones.mono_l k
  ·
   intro y0 y1
   unfold avermentref10_Ones.l0
   repeat' first
   | (with_reducible exact ih0 _ _)
   | (with_reducible exact LeO.refl _)
   | (with_reducible exact LeO.none _)
   | (with_reducible refine LeO.ite ?_ ?_)
   | (with_reducible refine LeO.bind ?_ (fun _ => ?_))
   | exact ih0 _ _
   | exact LeO.none _
   | refine LeO.ite ?_ ?_
   | refine LeO.bind ?_ (fun _ => ?_)
theorem avermentref10_Ones.mono : ∀ a0 k, LeO (avermentref10_Ones.f k a0) (avermentref10_Ones.f (k + 1) a0) := by
 intro a0 k
 have ih0 := avermentref10_Ones.mono_l k
 unfold avermentref10_Ones.f
 repeat' first
   | (with_reducible exact ih0 _ _)
   | (with_reducible exact LeO.refl _)
   | (with_reducible exact LeO.none _)
   | (with_reducible refine LeO.ite ?_ ?_)
   | (with_reducible refine LeO.bind ?_ (fun _ => ?_))
   | exact ih0 _ _
   | exact LeO.none _
   | refine LeO.ite ?_ ?_
   | refine LeO.bind ?_ (fun _ => ?_)
set_option maxHeartbeats 8000000 in
set_option maxRecDepth 100000 in
theorem avermentref10_Ones.calls (k : Nat) (a0 : Int) (r : Int) (w : World) (h : avermentref10_Ones.f k a0 = some r) :
  Calls Try.prog 90 #[.int .i64 a0] w fun e w' => e = .returned (.int .i64 r) ∧ Drawn0 w w' := by
 have H : (avermentref10_Ones.l0 k a0 0) = some r := h
 clear h
 have H' := Aside0.mk H
 clear H
 go_enter Try.func90, Try.ntmps90
 go_wp2
 go_loopg [3] k (fun kq v3 w' => ∃ (x3_1 : Int), v3 = .int .i64 x3_1 ∧ Aside0 (avermentref10_Ones.l0 kq a0 x3_1 = some r) ∧ Aside0 (kq ≤ k) ∧ Drawn0 w w')
 case atStart => exact ⟨(0), (by first | rfl | (simp; done) | (simp [*]; done)), H', ⟨Nat.le_refl _⟩, by repeat (first | exact Drawn0.refl _ | apply Drawn0.step)⟩
 case round =>
  clear H'
  obtain ⟨x3_1, rfl, HA, HK1, ⟨m1, rfl⟩⟩ := hrel
  cases gk with
  | zero => exact absurd HA.out (by simp [avermentref10_Ones.l0])
  | succ k1 =>
   have H := HA.out
   clear HA
   simp only [avermentref10_Ones.l0] at H
   by_cases c2 : x3_1 < a0
   ·
    rw [if_pos c2] at H
    have c2b0 : decide (x3_1 < a0) = true := decide_eq_true c2
    clear c2
    have H' := Aside0.mk H
    clear H
    go_wp2
    go_roundg k1
    case measure => have := HK1.out; omega
    case rel => exact ⟨(wrap64 ((wrap64 (2 * x3_1)) + 1)), (by first | rfl | (simp; done) | (simp [*]; done)), H', ⟨by have := HK1.out; omega⟩, by repeat (first | exact Drawn0.refl _ | apply Drawn0.step)⟩
   ·
    rw [if_neg c2] at H
    have c2b0 : decide (x3_1 < a0) = false := decide_eq_false c2
    clear c2
    obtain rfl := Option.some.inj H
    go_wp2
    go_ret
    exact ⟨by first | rfl | (simp; done) | (simp [*]; done), by repeat (first | exact Drawn0.refl _ | apply Drawn0.step)⟩

end Go.Proofs.Ytpacmhhaabhdjaa.SM
