-- Written by a program of this session: plain functions and their walks. Lean checks it.
import Derived.Test.YtpacmhhaabhdjaaSM0
namespace Go.Proofs.Ytpacmhhaabhdjaa.SM
open Go.RowKit Go.Proofs.YtpacmhhaabhdjaaW.PrintWords Go.Proofs.YtpacmhhaabhdjaaW.PrintLast Go.Proofs.YtpacmhhaabhdjaaW.PrintMore
attribute [local go_sem] max2_int min2_int max_two min_two max_three min_three max_four min_four   -- for this text's walks alone
set_option linter.unusedVariables false
set_option linter.unusedSimpArgs false

/-! ### avermentref10_Fix: function 35 -/
def avermentref10_Fix.f (a0_0 : Int) (a0_1 : Int) : Option (Int × Int) := if a0_0 > a0_1 then (some (a0_1, a0_0)) else (some (a0_0, a0_1))
set_option maxHeartbeats 8000000 in
set_option maxRecDepth 100000 in
theorem avermentref10_Fix.calls (a0_0 : Int) (a0_1 : Int) (r1 : Int) (r2 : Int) (w : World) (h : avermentref10_Fix.f a0_0 a0_1 = some (r1, r2)) :
  Calls Try.prog 35 #[.agg #[.int .i64 a0_0, .int .i64 a0_1]] w fun e w' => e = .returned (.agg #[.int .i64 r1, .int .i64 r2]) ∧ Below w.heap.size w w' := by
 have hu56 := Try.underlying56
 have HB := Aside0.mk (Below.refl w.heap.size w)
 have H : (if a0_0 > a0_1 then (some (a0_1, a0_0)) else (some (a0_0, a0_1))) = some (r1, r2) := h
 clear h
 by_cases c2 : a0_0 > a0_1
 ·
  rw [if_pos c2] at H
  have c2b0 : decide (a0_1 < a0_0) = true := decide_eq_true c2
  clear c2
  simp only [Option.some.injEq, Prod.mk.injEq] at H
  obtain ⟨rfl, rfl⟩ := H
  go_enter Try.func35, Try.ntmps35
  go_wp2_with (first | ((with_reducible refine gate_dst (N := 1) rfl ?_); refine box_event ?hg (N := 1) ?hd (cs := #[.int .i64 a0_0, .int .i64 a0_1]) (t := 56) ?hr ?_; (case hd => rfl); (case hg => rfl); (case hr => first | (go_simp; done) | (go_simp; rfl)); intro gb101 hg w3 hbox hb; have BK101 := Aside0.mk (hbox); have GW101 := geb hg HB rfl; have GE101 := geb hg HB rfl; replace HB := hst HB hb rfl; clear hb hbox hg) | ((with_reducible refine gate_dst (N := 2) rfl ?_); refine box_event ?hg (N := 2) ?hd (cs := #[.int .i64 0, .int .i64 0]) (t := 56) ?hr ?_; (case hd => rfl); (case hg => rfl); (case hr => first | (go_simp; done) | (go_simp; rfl)); intro gb102 hg w4 hbox hb; have BK102 := Aside0.mk (hbox); have GW102 := geb hg HB rfl; have GE102 := geb hg HB rfl; have NB101_102 := nbl hg BK101 rfl; have NB102_101 := nbr hg BK101 rfl; replace BK101 := bb BK101 hb rfl; replace HB := hst HB hb rfl; clear hb hbox hg; have hnb5 := NB101_102.out; have hnc5 := NB102_101.out; obtain ⟨hcz6_0, hcz6_1, hfz6_0, hfz6_1⟩ := c2 BK101; obtain ⟨hcz7_0, hcz7_1, hfz7_0, hfz7_1⟩ := c2 BK102))
  refine bodyPost_ret (results_cell_row rfl _ _ gb102 56 #[.int .i64 a0_1, .int .i64 a0_0] (0, 0) _ rfl (by (with_reducible repeat (first | refine blk_drewN ?_ _ | refine blk_drew ?_ | refine blk_alloc ?_ _)); refine blk_put (cs := #[.int .i64 a0_1, .int .i64 0]) ?_ 1 _ rfl; (with_reducible repeat (first | refine blk_drewN ?_ _ | refine blk_drew ?_ | refine blk_alloc ?_ _)); refine blk_put (cs := #[.int .i64 0, .int .i64 0]) ?_ 0 _ rfl; (with_reducible repeat (first | refine blk_drewN ?_ _ | refine blk_drew ?_ | refine blk_alloc ?_ _)); exact BK102.out) Try.underlying56 rfl (by kernel_rfl)) rfl ?_
  exact ⟨by first | rfl | (simp [*, errW_none, errW_some] <;> rfl), by repeat (first | (with_reducible first | exact HB.out | apply below_alloc | apply pw_below_drewN | apply below_drew1 | refine below_set ?_ GE101.out | refine below_set ?_ GE102.out) | exact HB.out)⟩
 ·
  rw [if_neg c2] at H
  have c2b0 : decide (a0_1 < a0_0) = false := decide_eq_false c2
  clear c2
  simp only [Option.some.injEq, Prod.mk.injEq] at H
  obtain ⟨rfl, rfl⟩ := H
  go_enter Try.func35, Try.ntmps35
  go_wp2_with (first | ((with_reducible refine gate_dst (N := 1) rfl ?_); refine box_event ?hg (N := 1) ?hd (cs := #[.int .i64 a0_0, .int .i64 a0_1]) (t := 56) ?hr ?_; (case hd => rfl); (case hg => rfl); (case hr => first | (go_simp; done) | (go_simp; rfl)); intro gb101 hg w8 hbox hb; have BK101 := Aside0.mk (hbox); have GW101 := geb hg HB rfl; have GE101 := geb hg HB rfl; replace HB := hst HB hb rfl; clear hb hbox hg) | ((with_reducible refine gate_dst (N := 2) rfl ?_); refine box_event ?hg (N := 2) ?hd (cs := #[.int .i64 0, .int .i64 0]) (t := 56) ?hr ?_; (case hd => rfl); (case hg => rfl); (case hr => first | (go_simp; done) | (go_simp; rfl)); intro gb102 hg w9 hbox hb; have BK102 := Aside0.mk (hbox); have GW102 := geb hg HB rfl; have GE102 := geb hg HB rfl; have NB101_102 := nbl hg BK101 rfl; have NB102_101 := nbr hg BK101 rfl; replace BK101 := bb BK101 hb rfl; replace HB := hst HB hb rfl; clear hb hbox hg; have hnb10 := NB101_102.out; have hnc10 := NB102_101.out; obtain ⟨hcz11_0, hcz11_1, hfz11_0, hfz11_1⟩ := c2 BK101; obtain ⟨hcz12_0, hcz12_1, hfz12_0, hfz12_1⟩ := c2 BK102))
  refine bodyPost_ret (results_cell_row rfl _ _ gb102 56 #[.int .i64 a0_0, .int .i64 a0_1] (0, 0) _ rfl (by (with_reducible repeat (first | refine blk_drewN ?_ _ | refine blk_drew ?_ | refine blk_alloc ?_ _)); refine blk_put (cs := #[.int .i64 a0_0, .int .i64 0]) ?_ 1 _ rfl; (with_reducible repeat (first | refine blk_drewN ?_ _ | refine blk_drew ?_ | refine blk_alloc ?_ _)); refine blk_put (cs := #[.int .i64 0, .int .i64 0]) ?_ 0 _ rfl; (with_reducible repeat (first | refine blk_drewN ?_ _ | refine blk_drew ?_ | refine blk_alloc ?_ _)); exact BK102.out) Try.underlying56 rfl (by kernel_rfl)) rfl ?_
  exact ⟨by first | rfl | (simp [*, errW_none, errW_some] <;> rfl), by repeat (first | (with_reducible first | exact HB.out | apply below_alloc | apply pw_below_drewN | apply below_drew1 | refine below_set ?_ GE101.out | refine below_set ?_ GE102.out) | exact HB.out)⟩

/-! ### span_Right: function 42 -/
def span_Right.f (a0_0 : Int) (a0_1 : Int) : Option (Bool) := some (decide (a0_0 ≤ a0_1))
set_option maxHeartbeats 8000000 in
set_option maxRecDepth 100000 in
theorem span_Right.calls (a0_0 : Int) (a0_1 : Int) (r : Bool) (w : World) (h : span_Right.f a0_0 a0_1 = some r) :
  Calls Try.prog 42 #[.agg #[.int .i64 a0_0, .int .i64 a0_1]] w fun e w' => e = .returned (.bool r) ∧ Below w.heap.size w w' := by
 have hu59 := Try.underlying59
 have HB := Aside0.mk (Below.refl w.heap.size w)
 have H : (some (decide (a0_0 ≤ a0_1))) = some r := h
 clear h
 obtain rfl := Option.some.inj H
 go_enter Try.func42, Try.ntmps42
 go_wp2_with (first | ((with_reducible refine gate_dst (N := 1) rfl ?_); refine box_event ?hg (N := 1) ?hd (cs := #[.int .i64 a0_0, .int .i64 a0_1]) (t := 59) ?hr ?_; (case hd => rfl); (case hg => rfl); (case hr => first | (go_simp; done) | (go_simp; rfl)); intro gb103 hg w2 hbox hb; have BK103 := Aside0.mk (hbox); have GW103 := geb hg HB rfl; have GE103 := geb hg HB rfl; replace HB := hst HB hb rfl; clear hb hbox hg; obtain ⟨hcz3_0, hcz3_1, hfz3_0, hfz3_1⟩ := c2 BK103))
 go_ret
 exact ⟨by first | rfl | (simp [*, errW_none, errW_some] <;> rfl), by repeat (first | (with_reducible first | exact HB.out | apply below_alloc | apply pw_below_drewN | apply below_drew1 | refine below_set ?_ GE103.out) | exact HB.out)⟩

/-! ### span_Meet: function 43 -/
def span_Meet.f (a0_0 : Int) (a0_1 : Int) (a1_0 : Int) (a1_1 : Int) : Option (Int × Int × Bool) := (span_Right.f (mx a0_0 a1_0) (mn a0_1 a1_1)).bind fun t108 => (if t108 = true then (some (mx a0_0 a1_0, mn a0_1 a1_1, true)) else (some (0, 0, false)))
set_option maxHeartbeats 8000000 in
set_option maxRecDepth 100000 in
theorem span_Meet.calls (a0_0 : Int) (a0_1 : Int) (a1_0 : Int) (a1_1 : Int) (r1 : Int) (r2 : Int) (r3 : Bool) (w : World) (h : span_Meet.f a0_0 a0_1 a1_0 a1_1 = some (r1, r2, r3)) :
  Calls Try.prog 43 #[.agg #[.int .i64 a0_0, .int .i64 a0_1], .agg #[.int .i64 a1_0, .int .i64 a1_1]] w fun e w' => e = .returned (.tuple #[.agg #[.int .i64 r1, .int .i64 r2], .bool r3]) ∧ Below w.heap.size w w' := by
 have hu59 := Try.underlying59
 have HB := Aside0.mk (Below.refl w.heap.size w)
 have H : ((span_Right.f (mx a0_0 a1_0) (mn a0_1 a1_1)).bind fun t108 => (if t108 = true then (some (mx a0_0 a1_0, mn a0_1 a1_1, true)) else (some (0, 0, false)))) = some (r1, r2, r3) := h
 clear h
 obtain ⟨ji3, hji3⟩ : ∃ j_ : Int, (mx a0_0 a1_0) = j_ := ⟨_, rfl⟩
 replace H : ((span_Right.f (ji3) (mn a0_1 a1_1)).bind fun t108 => (if t108 = true then (some (ji3, mn a0_1 a1_1, true)) else (some (0, 0, false)))) = some (r1, r2, r3) := by first | (rw [hji3] at H; exact H) | (simp only [hji3] at H ⊢; exact H)
 have hji3_ : (if a0_0 < a1_0 then a1_0 else a0_0) = ji3 := hji3
 obtain ⟨ji4, hji4⟩ : ∃ j_ : Int, (mn a0_1 a1_1) = j_ := ⟨_, rfl⟩
 replace H : ((span_Right.f (ji3) (ji4)).bind fun t108 => (if t108 = true then (some (ji3, ji4, true)) else (some (0, 0, false)))) = some (r1, r2, r3) := by first | (rw [hji4] at H; exact H) | (simp only [hji4] at H ⊢; exact H)
 have hji4_ : (if a1_1 < a0_1 then a1_1 else a0_1) = ji4 := hji4
 replace H := Option.bind_eq_some_iff.mp H
 obtain ⟨t108, A50, H⟩ := H
 (try dsimp only at H)
 have A5 := Aside0.mk A50
 clear A50
 by_cases c6 : t108 = true
 ·
  subst c6
  rw [if_pos rfl] at H
  simp only [Option.some.injEq, Prod.mk.injEq] at H
  obtain ⟨rfl, rfl, rfl⟩ := H
  go_enter Try.func43, Try.ntmps43
  go_wp2_with (first | ((with_reducible refine gate_dst (N := 2) rfl ?_); refine box_event ?hg (N := 2) ?hd (cs := #[.int .i64 a0_0, .int .i64 a0_1]) (t := 59) ?hr ?_; (case hd => rfl); (case hg => rfl); (case hr => first | (go_simp; done) | (go_simp; rfl)); intro gb104 hg w7 hbox hb; have BK104 := Aside0.mk (hbox); have GW104 := geb hg HB rfl; have GE104 := geb hg HB rfl; replace HB := hst HB hb rfl; clear hb hbox hg) | ((with_reducible refine gate_dst (N := 3) rfl ?_); refine box_event ?hg (N := 3) ?hd (cs := #[.int .i64 a1_0, .int .i64 a1_1]) (t := 59) ?hr ?_; (case hd => rfl); (case hg => rfl); (case hr => first | (go_simp; done) | (go_simp; rfl)); intro gb105 hg w8 hbox hb; have BK105 := Aside0.mk (hbox); have GW105 := geb hg HB rfl; have GE105 := geb hg HB rfl; have NB104_105 := nbl hg BK104 rfl; have NB105_104 := nbr hg BK104 rfl; replace BK104 := bb BK104 hb rfl; replace HB := hst HB hb rfl; clear hb hbox hg) | ((with_reducible refine gate_dst (N := 4) rfl ?_); refine box_event ?hg (N := 4) ?hd (cs := #[.int .i64 0, .int .i64 0]) (t := 59) ?hr ?_; (case hd => rfl); (case hg => rfl); (case hr => first | (go_simp; done) | (go_simp; rfl)); intro gb106 hg w9 hbox hb; have BK106 := Aside0.mk (hbox); have GW106 := geb hg HB rfl; have GE106 := geb hg HB rfl; have NB104_106 := nbl hg BK104 rfl; have NB106_104 := nbr hg BK104 rfl; have NB105_106 := nbl hg BK105 rfl; have NB106_105 := nbr hg BK105 rfl; replace BK104 := bb BK104 hb rfl; replace BK105 := bb BK105 hb rfl; replace HB := hst HB hb rfl; clear hb hbox hg; have hnb10 := NB104_105.out; have hnc10 := NB105_104.out; have hnb11 := NB104_106.out; have hnc11 := NB106_104.out; obtain ⟨hcz12_0, hcz12_1, hfz12_0, hfz12_1⟩ := c2 BK104; have hnb13 := NB105_106.out; have hnc13 := NB106_105.out; obtain ⟨hcz14_0, hcz14_1, hfz14_0, hfz14_1⟩ := c2 BK105) | ((with_reducible refine gate_dst (N := 6) rfl ?_); refine box_event ?hg (N := 6) ?hd (cs := #[.int .i64 0, .int .i64 0]) (t := 59) ?hr ?_; (case hd => rfl); (case hg => rfl); (case hr => first | (go_simp; done) | (go_simp; rfl)); intro gb107 hg w15 hbox hb; have BK107 := Aside0.mk (hbox); have GW107 := geb hg HB rfl; have GE107 := geb hg HB rfl; have NB104_107 := nbl hg BK104 rfl; have NB107_104 := nbr hg BK104 rfl; have NB105_107 := nbl hg BK105 rfl; have NB107_105 := nbr hg BK105 rfl; have NB106_107 := nbl hg BK106 rfl; have NB107_106 := nbr hg BK106 rfl; replace BK104 := bb BK104 hb rfl; replace BK105 := bb BK105 hb rfl; replace BK106 := bb BK106 hb rfl; replace HB := hst HB hb rfl; clear hb hbox hg; have hnb16 := NB107_104.out; have hnc16 := NB104_107.out; have hnb17 := NB107_105.out; have hnc17 := NB105_107.out; have hnb18 := NB107_106.out; have hnc18 := NB106_107.out; obtain ⟨hcz19_0, hcz19_1, hfz19_0, hfz19_1⟩ := c2 BK107) | ((with_reducible refine gate_callee (f := 42) rfl ?_); refine goesL_ (some 19) rfl rfl Try.func42 (by kernel_rfl) rfl #[.agg #[.int .i64 ji3, .int .i64 ji4]] rfl (by (try simp only [List.map_toArray, List.map_cons, List.map_nil]); first | done | (simp only [hji3, hji4]; rfl) | rfl | (simp only [List.length_drop, List.length_take]; rfl)) ?_; (with_reducible refine (span_Right.calls ji3 ji4 true _ A5.out).mono ?_); rintro e w20 ⟨rfl, hb⟩; refine ⟨_, rfl, ?_⟩; replace BK104 := Aside0.mk (blk_below (g := gb104) (o := .cells #[.int .i64 a0_0, .int .i64 a0_1] 59 (0, 0)) (by (with_reducible repeat (first | refine blk_drewN ?_ _ | refine blk_drew ?_ | refine blk_alloc ?_ _)); refine blk_far ?_ NB104_107.out _; (with_reducible repeat (first | refine blk_drewN ?_ _ | refine blk_drew ?_ | refine blk_alloc ?_ _)); refine blk_far ?_ NB104_107.out _; (with_reducible repeat (first | refine blk_drewN ?_ _ | refine blk_drew ?_ | refine blk_alloc ?_ _)); exact BK104.out) hb); replace BK105 := Aside0.mk (blk_below (g := gb105) (o := .cells #[.int .i64 a1_0, .int .i64 a1_1] 59 (0, 0)) (by (with_reducible repeat (first | refine blk_drewN ?_ _ | refine blk_drew ?_ | refine blk_alloc ?_ _)); refine blk_far ?_ NB105_107.out _; (with_reducible repeat (first | refine blk_drewN ?_ _ | refine blk_drew ?_ | refine blk_alloc ?_ _)); refine blk_far ?_ NB105_107.out _; (with_reducible repeat (first | refine blk_drewN ?_ _ | refine blk_drew ?_ | refine blk_alloc ?_ _)); exact BK105.out) hb); replace BK106 := Aside0.mk (blk_below (g := gb106) (o := .cells #[.int .i64 0, .int .i64 0] 59 (0, 0)) (by (with_reducible repeat (first | refine blk_drewN ?_ _ | refine blk_drew ?_ | refine blk_alloc ?_ _)); refine blk_far ?_ NB106_107.out _; (with_reducible repeat (first | refine blk_drewN ?_ _ | refine blk_drew ?_ | refine blk_alloc ?_ _)); refine blk_far ?_ NB106_107.out _; (with_reducible repeat (first | refine blk_drewN ?_ _ | refine blk_drew ?_ | refine blk_alloc ?_ _)); exact BK106.out) hb); replace BK107 := Aside0.mk (blk_below (g := gb107) (o := .cells #[.int .i64 ji3, .int .i64 ji4] 59 (0, 0)) (by (with_reducible repeat (first | refine blk_drewN ?_ _ | refine blk_drew ?_ | refine blk_alloc ?_ _)); refine blk_put (cs := #[.int .i64 ji3, .int .i64 0]) ?_ 1 _ rfl; (with_reducible repeat (first | refine blk_drewN ?_ _ | refine blk_drew ?_ | refine blk_alloc ?_ _)); refine blk_put (cs := #[.int .i64 0, .int .i64 0]) ?_ 0 _ rfl; (with_reducible repeat (first | refine blk_drewN ?_ _ | refine blk_drew ?_ | refine blk_alloc ?_ _)); exact BK107.out) hb); replace HB := Aside0.mk (below_step (by repeat (first | (with_reducible first | exact HB.out | apply below_alloc | apply pw_below_drewN | apply below_drew1 | refine below_set ?_ GE104.out | refine below_set ?_ GE105.out | refine below_set ?_ GE106.out | refine below_set ?_ GE107.out) | exact HB.out)) hb); (try clear hb); obtain ⟨hcz21_0, hcz21_1, hfz21_0, hfz21_1⟩ := c2 BK107; obtain ⟨hcz22_0, hcz22_1, hfz22_0, hfz22_1⟩ := c2 BK106))
  refine bodyPost_ret (results_ct rfl _ _ gb106 59 #[.int .i64 ji3, .int .i64 ji4] (0, 0) _ rfl (by (with_reducible repeat (first | refine blk_drewN ?_ _ | refine blk_drew ?_ | refine blk_alloc ?_ _)); refine blk_put (cs := #[.int .i64 ji3, .int .i64 0]) ?_ 1 _ rfl; (with_reducible repeat (first | refine blk_drewN ?_ _ | refine blk_drew ?_ | refine blk_alloc ?_ _)); refine blk_put (cs := #[.int .i64 0, .int .i64 0]) ?_ 0 _ rfl; (with_reducible repeat (first | refine blk_drewN ?_ _ | refine blk_drew ?_ | refine blk_alloc ?_ _)); exact BK106.out) Try.underlying59 rfl (by kernel_rfl)) rfl ?_
  exact ⟨by first | rfl | (simp [errW_none, errW_some] <;> rfl) | (simp only [← hji3, ← hji4]; first | rfl | (simp [errW_none, errW_some] <;> rfl)) | (simp [*, errW_none, errW_some] <;> rfl), by repeat (first | (with_reducible first | exact HB.out | apply below_alloc | apply pw_below_drewN | apply below_drew1 | refine below_set ?_ GE104.out | refine below_set ?_ GE105.out | refine below_set ?_ GE106.out | refine below_set ?_ GE107.out) | exact HB.out)⟩
 ·
  replace c6 := Bool.eq_false_iff.mpr c6
  subst c6
  rw [if_neg (show ¬ (false = true) by decide)] at H
  simp only [Option.some.injEq, Prod.mk.injEq] at H
  obtain ⟨rfl, rfl, rfl⟩ := H
  go_enter Try.func43, Try.ntmps43
  go_wp2_with (first | ((with_reducible refine gate_dst (N := 2) rfl ?_); refine box_event ?hg (N := 2) ?hd (cs := #[.int .i64 a0_0, .int .i64 a0_1]) (t := 59) ?hr ?_; (case hd => rfl); (case hg => rfl); (case hr => first | (go_simp; done) | (go_simp; rfl)); intro gb104 hg w23 hbox hb; have BK104 := Aside0.mk (hbox); have GW104 := geb hg HB rfl; have GE104 := geb hg HB rfl; replace HB := hst HB hb rfl; clear hb hbox hg) | ((with_reducible refine gate_dst (N := 3) rfl ?_); refine box_event ?hg (N := 3) ?hd (cs := #[.int .i64 a1_0, .int .i64 a1_1]) (t := 59) ?hr ?_; (case hd => rfl); (case hg => rfl); (case hr => first | (go_simp; done) | (go_simp; rfl)); intro gb105 hg w24 hbox hb; have BK105 := Aside0.mk (hbox); have GW105 := geb hg HB rfl; have GE105 := geb hg HB rfl; have NB104_105 := nbl hg BK104 rfl; have NB105_104 := nbr hg BK104 rfl; replace BK104 := bb BK104 hb rfl; replace HB := hst HB hb rfl; clear hb hbox hg) | ((with_reducible refine gate_dst (N := 4) rfl ?_); refine box_event ?hg (N := 4) ?hd (cs := #[.int .i64 0, .int .i64 0]) (t := 59) ?hr ?_; (case hd => rfl); (case hg => rfl); (case hr => first | (go_simp; done) | (go_simp; rfl)); intro gb106 hg w25 hbox hb; have BK106 := Aside0.mk (hbox); have GW106 := geb hg HB rfl; have GE106 := geb hg HB rfl; have NB104_106 := nbl hg BK104 rfl; have NB106_104 := nbr hg BK104 rfl; have NB105_106 := nbl hg BK105 rfl; have NB106_105 := nbr hg BK105 rfl; replace BK104 := bb BK104 hb rfl; replace BK105 := bb BK105 hb rfl; replace HB := hst HB hb rfl; clear hb hbox hg; have hnb26 := NB104_105.out; have hnc26 := NB105_104.out; have hnb27 := NB104_106.out; have hnc27 := NB106_104.out; obtain ⟨hcz28_0, hcz28_1, hfz28_0, hfz28_1⟩ := c2 BK104; have hnb29 := NB105_106.out; have hnc29 := NB106_105.out; obtain ⟨hcz30_0, hcz30_1, hfz30_0, hfz30_1⟩ := c2 BK105) | ((with_reducible refine gate_dst (N := 6) rfl ?_); refine box_event ?hg (N := 6) ?hd (cs := #[.int .i64 0, .int .i64 0]) (t := 59) ?hr ?_; (case hd => rfl); (case hg => rfl); (case hr => first | (go_simp; done) | (go_simp; rfl)); intro gb107 hg w31 hbox hb; have BK107 := Aside0.mk (hbox); have GW107 := geb hg HB rfl; have GE107 := geb hg HB rfl; have NB104_107 := nbl hg BK104 rfl; have NB107_104 := nbr hg BK104 rfl; have NB105_107 := nbl hg BK105 rfl; have NB107_105 := nbr hg BK105 rfl; have NB106_107 := nbl hg BK106 rfl; have NB107_106 := nbr hg BK106 rfl; replace BK104 := bb BK104 hb rfl; replace BK105 := bb BK105 hb rfl; replace BK106 := bb BK106 hb rfl; replace HB := hst HB hb rfl; clear hb hbox hg; have hnb32 := NB107_104.out; have hnc32 := NB104_107.out; have hnb33 := NB107_105.out; have hnc33 := NB105_107.out; have hnb34 := NB107_106.out; have hnc34 := NB106_107.out; obtain ⟨hcz35_0, hcz35_1, hfz35_0, hfz35_1⟩ := c2 BK107) | ((with_reducible refine gate_callee (f := 42) rfl ?_); refine goesL_ (some 19) rfl rfl Try.func42 (by kernel_rfl) rfl #[.agg #[.int .i64 ji3, .int .i64 ji4]] rfl (by (try simp only [List.map_toArray, List.map_cons, List.map_nil]); first | done | (simp only [hji3, hji4]; rfl) | rfl | (simp only [List.length_drop, List.length_take]; rfl)) ?_; (with_reducible refine (span_Right.calls ji3 ji4 false _ A5.out).mono ?_); rintro e w36 ⟨rfl, hb⟩; refine ⟨_, rfl, ?_⟩; replace BK104 := Aside0.mk (blk_below (g := gb104) (o := .cells #[.int .i64 a0_0, .int .i64 a0_1] 59 (0, 0)) (by (with_reducible repeat (first | refine blk_drewN ?_ _ | refine blk_drew ?_ | refine blk_alloc ?_ _)); refine blk_far ?_ NB104_107.out _; (with_reducible repeat (first | refine blk_drewN ?_ _ | refine blk_drew ?_ | refine blk_alloc ?_ _)); refine blk_far ?_ NB104_107.out _; (with_reducible repeat (first | refine blk_drewN ?_ _ | refine blk_drew ?_ | refine blk_alloc ?_ _)); exact BK104.out) hb); replace BK105 := Aside0.mk (blk_below (g := gb105) (o := .cells #[.int .i64 a1_0, .int .i64 a1_1] 59 (0, 0)) (by (with_reducible repeat (first | refine blk_drewN ?_ _ | refine blk_drew ?_ | refine blk_alloc ?_ _)); refine blk_far ?_ NB105_107.out _; (with_reducible repeat (first | refine blk_drewN ?_ _ | refine blk_drew ?_ | refine blk_alloc ?_ _)); refine blk_far ?_ NB105_107.out _; (with_reducible repeat (first | refine blk_drewN ?_ _ | refine blk_drew ?_ | refine blk_alloc ?_ _)); exact BK105.out) hb); replace BK106 := Aside0.mk (blk_below (g := gb106) (o := .cells #[.int .i64 0, .int .i64 0] 59 (0, 0)) (by (with_reducible repeat (first | refine blk_drewN ?_ _ | refine blk_drew ?_ | refine blk_alloc ?_ _)); refine blk_far ?_ NB106_107.out _; (with_reducible repeat (first | refine blk_drewN ?_ _ | refine blk_drew ?_ | refine blk_alloc ?_ _)); refine blk_far ?_ NB106_107.out _; (with_reducible repeat (first | refine blk_drewN ?_ _ | refine blk_drew ?_ | refine blk_alloc ?_ _)); exact BK106.out) hb); replace BK107 := Aside0.mk (blk_below (g := gb107) (o := .cells #[.int .i64 ji3, .int .i64 ji4] 59 (0, 0)) (by (with_reducible repeat (first | refine blk_drewN ?_ _ | refine blk_drew ?_ | refine blk_alloc ?_ _)); refine blk_put (cs := #[.int .i64 ji3, .int .i64 0]) ?_ 1 _ rfl; (with_reducible repeat (first | refine blk_drewN ?_ _ | refine blk_drew ?_ | refine blk_alloc ?_ _)); refine blk_put (cs := #[.int .i64 0, .int .i64 0]) ?_ 0 _ rfl; (with_reducible repeat (first | refine blk_drewN ?_ _ | refine blk_drew ?_ | refine blk_alloc ?_ _)); exact BK107.out) hb); replace HB := Aside0.mk (below_step (by repeat (first | (with_reducible first | exact HB.out | apply below_alloc | apply pw_below_drewN | apply below_drew1 | refine below_set ?_ GE104.out | refine below_set ?_ GE105.out | refine below_set ?_ GE106.out | refine below_set ?_ GE107.out) | exact HB.out)) hb); (try clear hb); obtain ⟨hcz37_0, hcz37_1, hfz37_0, hfz37_1⟩ := c2 BK106))
  refine bodyPost_ret (results_ct rfl _ _ gb106 59 #[.int .i64 0, .int .i64 0] (0, 0) _ rfl (by (with_reducible repeat (first | refine blk_drewN ?_ _ | refine blk_drew ?_ | refine blk_alloc ?_ _)); refine blk_put (cs := #[.int .i64 0, .int .i64 0]) ?_ 1 _ rfl; (with_reducible repeat (first | refine blk_drewN ?_ _ | refine blk_drew ?_ | refine blk_alloc ?_ _)); refine blk_put (cs := #[.int .i64 0, .int .i64 0]) ?_ 0 _ rfl; (with_reducible repeat (first | refine blk_drewN ?_ _ | refine blk_drew ?_ | refine blk_alloc ?_ _)); exact BK106.out) Try.underlying59 rfl (by kernel_rfl)) rfl ?_
  exact ⟨by first | rfl | (simp [errW_none, errW_some] <;> rfl) | (simp only [← hji3, ← hji4]; first | rfl | (simp [errW_none, errW_some] <;> rfl)) | (simp [*, errW_none, errW_some] <;> rfl), by repeat (first | (with_reducible first | exact HB.out | apply below_alloc | apply pw_below_drewN | apply below_drew1 | refine below_set ?_ GE104.out | refine below_set ?_ GE105.out | refine below_set ?_ GE106.out | refine below_set ?_ GE107.out) | exact HB.out)⟩

/-! ### span_Of: function 45 -/
def span_Of.f (a0 : Int) : Option (Int × Int) := some (a0, a0)
set_option maxHeartbeats 8000000 in
set_option maxRecDepth 100000 in
theorem span_Of.calls (a0 : Int) (r1 : Int) (r2 : Int) (w : World) (h : span_Of.f a0 = some (r1, r2)) :
  Calls Try.prog 45 #[.int .i64 a0] w fun e w' => e = .returned (.agg #[.int .i64 r1, .int .i64 r2]) ∧ Below w.heap.size w w' := by
 have hu59 := Try.underlying59
 have HB := Aside0.mk (Below.refl w.heap.size w)
 have H : (some (a0, a0)) = some (r1, r2) := h
 clear h
 simp only [Option.some.injEq, Prod.mk.injEq] at H
 obtain ⟨rfl, rfl⟩ := H
 go_enter Try.func45, Try.ntmps45
 go_wp2_with (first | ((with_reducible refine gate_dst (N := 2) rfl ?_); refine box_event ?hg (N := 2) ?hd (cs := #[.int .i64 0, .int .i64 0]) (t := 59) ?hr ?_; (case hd => rfl); (case hg => rfl); (case hr => first | (go_simp; done) | (go_simp; rfl)); intro gb109 hg w2 hbox hb; have BK109 := Aside0.mk (hbox); have GW109 := geb hg HB rfl; have GE109 := geb hg HB rfl; replace HB := hst HB hb rfl; clear hb hbox hg; obtain ⟨hcz3_0, hcz3_1, hfz3_0, hfz3_1⟩ := c2 BK109))
 refine bodyPost_ret (results_cell_row rfl _ _ gb109 59 #[.int .i64 a0, .int .i64 a0] (0, 0) _ rfl (by (with_reducible repeat (first | refine blk_drewN ?_ _ | refine blk_drew ?_ | refine blk_alloc ?_ _)); refine blk_put (cs := #[.int .i64 a0, .int .i64 0]) ?_ 1 _ rfl; (with_reducible repeat (first | refine blk_drewN ?_ _ | refine blk_drew ?_ | refine blk_alloc ?_ _)); refine blk_put (cs := #[.int .i64 0, .int .i64 0]) ?_ 0 _ rfl; (with_reducible repeat (first | refine blk_drewN ?_ _ | refine blk_drew ?_ | refine blk_alloc ?_ _)); exact BK109.out) Try.underlying59 rfl (by kernel_rfl)) rfl ?_
 exact ⟨by first | rfl | (simp [*, errW_none, errW_some] <;> rfl), by repeat (first | (with_reducible first | exact HB.out | apply below_alloc | apply pw_below_drewN | apply below_drew1 | refine below_set ?_ GE109.out) | exact HB.out)⟩

/-! ### span_Join: function 48 -/
def span_Join.f (a0_0 : Int) (a0_1 : Int) (a1_0 : Int) (a1_1 : Int) : Option (Int × Int) := some (mn a0_0 a1_0, mx a0_1 a1_1)
set_option maxHeartbeats 8000000 in
set_option maxRecDepth 100000 in
theorem span_Join.calls (a0_0 : Int) (a0_1 : Int) (a1_0 : Int) (a1_1 : Int) (r1 : Int) (r2 : Int) (w : World) (h : span_Join.f a0_0 a0_1 a1_0 a1_1 = some (r1, r2)) :
  Calls Try.prog 48 #[.agg #[.int .i64 a0_0, .int .i64 a0_1], .agg #[.int .i64 a1_0, .int .i64 a1_1]] w fun e w' => e = .returned (.agg #[.int .i64 r1, .int .i64 r2]) ∧ Below w.heap.size w w' := by
 have hu59 := Try.underlying59
 have HB := Aside0.mk (Below.refl w.heap.size w)
 have H : (some (mn a0_0 a1_0, mx a0_1 a1_1)) = some (r1, r2) := h
 clear h
 obtain ⟨ji3, hji3⟩ : ∃ j_ : Int, (mn a0_0 a1_0) = j_ := ⟨_, rfl⟩
 replace H : (some (ji3, mx a0_1 a1_1)) = some (r1, r2) := by first | (rw [hji3] at H; exact H) | (simp only [hji3] at H ⊢; exact H)
 have hji3_ : (if a1_0 < a0_0 then a1_0 else a0_0) = ji3 := hji3
 obtain ⟨ji4, hji4⟩ : ∃ j_ : Int, (mx a0_1 a1_1) = j_ := ⟨_, rfl⟩
 replace H : (some (ji3, ji4)) = some (r1, r2) := by first | (rw [hji4] at H; exact H) | (simp only [hji4] at H ⊢; exact H)
 have hji4_ : (if a0_1 < a1_1 then a1_1 else a0_1) = ji4 := hji4
 simp only [Option.some.injEq, Prod.mk.injEq] at H
 obtain ⟨rfl, rfl⟩ := H
 go_enter Try.func48, Try.ntmps48
 go_wp2_with (first | ((with_reducible refine gate_dst (N := 2) rfl ?_); refine box_event ?hg (N := 2) ?hd (cs := #[.int .i64 a0_0, .int .i64 a0_1]) (t := 59) ?hr ?_; (case hd => rfl); (case hg => rfl); (case hr => first | (go_simp; done) | (go_simp; rfl)); intro gb110 hg w5 hbox hb; have BK110 := Aside0.mk (hbox); have GW110 := geb hg HB rfl; have GE110 := geb hg HB rfl; replace HB := hst HB hb rfl; clear hb hbox hg) | ((with_reducible refine gate_dst (N := 3) rfl ?_); refine box_event ?hg (N := 3) ?hd (cs := #[.int .i64 a1_0, .int .i64 a1_1]) (t := 59) ?hr ?_; (case hd => rfl); (case hg => rfl); (case hr => first | (go_simp; done) | (go_simp; rfl)); intro gb111 hg w6 hbox hb; have BK111 := Aside0.mk (hbox); have GW111 := geb hg HB rfl; have GE111 := geb hg HB rfl; have NB110_111 := nbl hg BK110 rfl; have NB111_110 := nbr hg BK110 rfl; replace BK110 := bb BK110 hb rfl; replace HB := hst HB hb rfl; clear hb hbox hg) | ((with_reducible refine gate_dst (N := 4) rfl ?_); refine box_event ?hg (N := 4) ?hd (cs := #[.int .i64 0, .int .i64 0]) (t := 59) ?hr ?_; (case hd => rfl); (case hg => rfl); (case hr => first | (go_simp; done) | (go_simp; rfl)); intro gb112 hg w7 hbox hb; have BK112 := Aside0.mk (hbox); have GW112 := geb hg HB rfl; have GE112 := geb hg HB rfl; have NB110_112 := nbl hg BK110 rfl; have NB112_110 := nbr hg BK110 rfl; have NB111_112 := nbl hg BK111 rfl; have NB112_111 := nbr hg BK111 rfl; replace BK110 := bb BK110 hb rfl; replace BK111 := bb BK111 hb rfl; replace HB := hst HB hb rfl; clear hb hbox hg; have hnb8 := NB110_111.out; have hnc8 := NB111_110.out; have hnb9 := NB110_112.out; have hnc9 := NB112_110.out; obtain ⟨hcz10_0, hcz10_1, hfz10_0, hfz10_1⟩ := c2 BK110; have hnb11 := NB111_112.out; have hnc11 := NB112_111.out; obtain ⟨hcz12_0, hcz12_1, hfz12_0, hfz12_1⟩ := c2 BK111; obtain ⟨hcz13_0, hcz13_1, hfz13_0, hfz13_1⟩ := c2 BK112))
 refine bodyPost_ret (results_cell_row rfl _ _ gb112 59 #[.int .i64 ji3, .int .i64 ji4] (0, 0) _ rfl (by (with_reducible repeat (first | refine blk_drewN ?_ _ | refine blk_drew ?_ | refine blk_alloc ?_ _)); refine blk_put (cs := #[.int .i64 ji3, .int .i64 0]) ?_ 1 _ rfl; (with_reducible repeat (first | refine blk_drewN ?_ _ | refine blk_drew ?_ | refine blk_alloc ?_ _)); refine blk_put (cs := #[.int .i64 0, .int .i64 0]) ?_ 0 _ rfl; (with_reducible repeat (first | refine blk_drewN ?_ _ | refine blk_drew ?_ | refine blk_alloc ?_ _)); exact BK112.out) Try.underlying59 rfl (by kernel_rfl)) rfl ?_
 exact ⟨by first | rfl | (simp [errW_none, errW_some] <;> rfl) | (simp only [← hji3, ← hji4]; first | rfl | (simp [errW_none, errW_some] <;> rfl)) | (simp [*, errW_none, errW_some] <;> rfl), by repeat (first | (with_reducible first | exact HB.out | apply below_alloc | apply pw_below_drewN | apply below_drew1 | refine below_set ?_ GE110.out | refine below_set ?_ GE111.out | refine below_set ?_ GE112.out) | exact HB.out)⟩


/-! ### span_ends_put: function 64 -/
/-- A state of type 94 at block g of W; what its slices lead to came in by w0. -/
def IsS94 (w0 W : World) (g : Nat) (f0 : Int) (f1 : Int) (f2 : Bool) (f3 : Bool) : Prop := W.heap[g]? = some (.cells #[.int .i64 f0, .int .i64 f1, .bool f2, .bool f3] 94 (0, 0)) ∧ w0.heap.size ≤ g
theorem IsS94.grown {w0 W : World} {g : Nat} {f0 : Int} {f1 : Int} {f2 : Bool} {f3 : Bool} {W1 : World} {row : Option Nat} (h : IsS94 w0 W g f0 f1 f2 f3) (hw : W.grownBy W1 row) (hne : some g ≠ row) : IsS94 w0 W1 g f0 f1 f2 f3 := by
  obtain ⟨hb, hg⟩ := h
  exact ⟨blk_grown hb hw hne, hg⟩
theorem IsS94.own_neN {w0 W : World} {g : Nat} {f0 : Int} {f1 : Int} {f2 : Bool} {f3 : Bool} {α : Type} {d : Kd α} {e : Nat} {base : Nat} {ok : Nat → Prop} {v : Value} {xs : List α} (h : IsS94 w0 W g f0 f1 f2 f3) (ho : Kd.N d e W base ok v xs) (ht : e ≠ 94) : some g ≠ v.ownBlock := by
  obtain ⟨hb, hg⟩ := h
  exact Kd.N_ne ho hb ht
theorem IsS94.fresh {w0 W : World} {g : Nat} {f0 : Int} {f1 : Int} {f2 : Bool} {f3 : Bool} (h : IsS94 w0 W g f0 f1 f2 f3) : ∀ k, W.heap.size ≤ k → k ≠ g := by
  obtain ⟨hb, hg⟩ := h
  exact Kd.freshB hb
theorem IsS94.kept {w0 W : World} {g : Nat} {f0 : Int} {f1 : Int} {f2 : Bool} {f3 : Bool} {W1 : World} {S : Nat → Prop} (h : IsS94 w0 W g f0 f1 f2 f3) (hk : Kept W W1 S) (hne : ¬ S g) : IsS94 w0 W1 g f0 f1 f2 f3 := by
  obtain ⟨hb, hg⟩ := h
  exact ⟨blk_kept hb hk hne, hg⟩
theorem IsS94.below {w0 W : World} {g : Nat} {f0 : Int} {f1 : Int} {f2 : Bool} {f3 : Bool} {W1 : World} (h : IsS94 w0 W g f0 f1 f2 f3) (hw : Below W.heap.size W W1) : IsS94 w0 W1 g f0 f1 f2 f3 := h.grown (grown_of_below hw none) (by simp)
theorem IsS94.alloc {w0 W : World} {g : Nat} {f0 : Int} {f1 : Int} {f2 : Bool} {f3 : Bool} (h : IsS94 w0 W g f0 f1 f2 f3) (o : Obj) : IsS94 w0 (W.alloc o) g f0 f1 f2 f3 := h.below (below_alloc (Below.refl _ _) o)
theorem IsS94.drewN {w0 W : World} {g : Nat} {f0 : Int} {f1 : Int} {f2 : Bool} {f3 : Bool} (h : IsS94 w0 W g f0 f1 f2 f3) (m : Nat) : IsS94 w0 (W.drewN m) g f0 f1 f2 f3 := h
theorem IsS94.drew {w0 W : World} {g : Nat} {f0 : Int} {f1 : Int} {f2 : Bool} {f3 : Bool} (h : IsS94 w0 W g f0 f1 f2 f3) : IsS94 w0 W.drew g f0 f1 f2 f3 := h
theorem IsS94.at_ {w0 W : World} {g : Nat} {f0 : Int} {f1 : Int} {f2 : Bool} {f3 : Bool} {w' : World} {m : Nat} (hq : W.drewN m = w') (h : IsS94 w0 W g f0 f1 f2 f3) : IsS94 w0 w' g f0 f1 f2 f3 := by subst hq; exact IsS94.drewN h m
theorem IsS94.apart {w0 W : World} {g : Nat} {f0 : Int} {f1 : Int} {f2 : Bool} {f3 : Bool} {α : Type} {d : Kd α} {e : Nat} {base : Nat} {ok : Nat → Prop} {v : Value} {xs : List α} (h : IsS94 w0 W g f0 f1 f2 f3) (ho : d.R e W base ok v xs) (ht : ∀ q, q ∈ e :: d.E → q ≠ 94) : d.R e W base (fun k => ok k ∧ k ≠ g) v xs := by
  obtain ⟨hb, hg⟩ := h
  exact Kd.R_types ho hb ht
theorem IsS94.own_ne {w0 W : World} {g : Nat} {f0 : Int} {f1 : Int} {f2 : Bool} {f3 : Bool} {α : Type} {d : Kd α} {e : Nat} {base : Nat} {ok : Nat → Prop} {v : Value} {xs : List α} (h : IsS94 w0 W g f0 f1 f2 f3) (ho : d.R e W base ok v xs) (ht : e ≠ 94) : some g ≠ v.ownBlock := by
  obtain ⟨hb, hg⟩ := h
  exact Kd.R_ne ho hb ht
theorem IsS94.apartQ {w0 W : World} {g : Nat} {f0 : Int} {f1 : Int} {f2 : Bool} {f3 : Bool} {α : Type} {d : Kd α} {e : Nat} {base : Nat} {ok : Nat → Prop} {v : Value} {xs : List α} (h : IsS94 w0 W g f0 f1 f2 f3) (ho : d.Q e W base ok v xs) (ht : ∀ q, q ∈ e :: d.E → q ≠ 94) : d.Q e W base (fun k => ok k ∧ k ≠ g) v xs := by
  obtain ⟨hb, hg⟩ := h
  exact Kd.Q_types ho hb ht
theorem IsS94.own_neQ {w0 W : World} {g : Nat} {f0 : Int} {f1 : Int} {f2 : Bool} {f3 : Bool} {α : Type} {d : Kd α} {e : Nat} {base : Nat} {ok : Nat → Prop} {v : Value} {xs : List α} (h : IsS94 w0 W g f0 f1 f2 f3) (ho : d.Q e W base ok v xs) (ht : e ≠ 94) : some g ≠ v.ownBlock := by
  obtain ⟨hb, hg⟩ := h
  exact Kd.Q_ne ho hb ht
theorem IsS94.apartS {w0 W : World} {g : Nat} {f0 : Int} {f1 : Int} {f2 : Bool} {f3 : Bool} {α : Type} {d : Kd α} {e : Nat} {base : Nat} {ok : Nat → Prop} {v : Value} {xs : List α} (h : IsS94 w0 W g f0 f1 f2 f3) (ho : d.S e W base ok v xs) (ht : ∀ q, q ∈ e :: d.E → q ≠ 94) : d.S e W base (fun k => ok k ∧ k ≠ g) v xs := by
  obtain ⟨hb, hg⟩ := h
  exact Kd.S_types ho hb ht
theorem IsS94.own_neS {w0 W : World} {g : Nat} {f0 : Int} {f1 : Int} {f2 : Bool} {f3 : Bool} {α : Type} {d : Kd α} {e : Nat} {base : Nat} {ok : Nat → Prop} {v : Value} {xs : List α} (h : IsS94 w0 W g f0 f1 f2 f3) (ho : d.S e W base ok v xs) (ht : e ≠ 94) : some g ≠ v.ownBlock := by
  obtain ⟨hb, hg⟩ := h
  exact Kd.S_ne ho hb ht
theorem IsS94.lt {w0 W : World} {g : Nat} {f0 : Int} {f1 : Int} {f2 : Bool} {f3 : Bool} (h : IsS94 w0 W g f0 f1 f2 f3) : g < W.heap.size := by
  obtain ⟨hb, hg⟩ := h
  exact blk_lt hb
theorem IsS94.ge {w0 W : World} {g : Nat} {f0 : Int} {f1 : Int} {f2 : Bool} {f3 : Bool} (h : IsS94 w0 W g f0 f1 f2 f3) : w0.heap.size ≤ g := by
  obtain ⟨hb, hg⟩ := h
  exact hg
theorem IsS94.ne_blk {w0 W : World} {g : Nat} {f0 : Int} {f1 : Int} {f2 : Bool} {f3 : Bool} {a : Nat} {cs : Array Value} {t : TypeId} {fr : Nat × Nat} (h : IsS94 w0 W g f0 f1 f2 f3) (hb2 : W.heap[a]? = some (.cells cs t fr)) (ht : t ≠ 94) : g ≠ a := by
  obtain ⟨hb, hg⟩ := h
  rintro rfl
  rw [hb] at hb2
  injection hb2 with hb2
  injection hb2 with _ ht2
  exact ht ht2.symm
theorem IsS94.far {w0 W : World} {g : Nat} {f0 : Int} {f1 : Int} {f2 : Bool} {f3 : Bool} {p : Addr} (h : IsS94 w0 W g f0 f1 f2 f3) (hne : g ≠ p.block) (u : Value) : IsS94 w0 (W.setCell p u) g f0 f1 f2 f3 := by
  obtain ⟨hb, hg⟩ := h
  exact ⟨blk_far hb hne u, hg⟩
theorem cellS94_0 {W : World} {g : Nat} {f0 : Int} {f1 : Int} {f2 : Bool} {f3 : Bool} (h : W.heap[g]? = some (.cells #[.int .i64 f0, .int .i64 f1, .bool f2, .bool f3] 94 (0, 0))) : W.cell? ⟨g, 0, none⟩ = some (.int .i64 f0) := (blk_cell h 0).trans rfl
theorem IsS94.set_0 {w0 W : World} {g : Nat} {f0 : Int} {f1 : Int} {f2 : Bool} {f3 : Bool} (h : IsS94 w0 W g f0 f1 f2 f3) (x : Int) : IsS94 w0 (W.setCell ⟨g, 0, none⟩ (.int .i64 x)) g x f1 f2 f3 := by
  obtain ⟨hb, hg⟩ := h
  exact ⟨by simpa using blk_set hb 0 (.int .i64 x), hg⟩
theorem cellS94_1 {W : World} {g : Nat} {f0 : Int} {f1 : Int} {f2 : Bool} {f3 : Bool} (h : W.heap[g]? = some (.cells #[.int .i64 f0, .int .i64 f1, .bool f2, .bool f3] 94 (0, 0))) : W.cell? ⟨g, 1, none⟩ = some (.int .i64 f1) := (blk_cell h 1).trans rfl
theorem IsS94.set_1 {w0 W : World} {g : Nat} {f0 : Int} {f1 : Int} {f2 : Bool} {f3 : Bool} (h : IsS94 w0 W g f0 f1 f2 f3) (x : Int) : IsS94 w0 (W.setCell ⟨g, 1, none⟩ (.int .i64 x)) g f0 x f2 f3 := by
  obtain ⟨hb, hg⟩ := h
  exact ⟨by simpa using blk_set hb 1 (.int .i64 x), hg⟩
theorem cellS94_2 {W : World} {g : Nat} {f0 : Int} {f1 : Int} {f2 : Bool} {f3 : Bool} (h : W.heap[g]? = some (.cells #[.int .i64 f0, .int .i64 f1, .bool f2, .bool f3] 94 (0, 0))) : W.cell? ⟨g, 2, none⟩ = some (.bool f2) := (blk_cell h 2).trans rfl
theorem IsS94.set_2 {w0 W : World} {g : Nat} {f0 : Int} {f1 : Int} {f2 : Bool} {f3 : Bool} (h : IsS94 w0 W g f0 f1 f2 f3) (x : Bool) : IsS94 w0 (W.setCell ⟨g, 2, none⟩ (.bool x)) g f0 f1 x f3 := by
  obtain ⟨hb, hg⟩ := h
  exact ⟨by simpa using blk_set hb 2 (.bool x), hg⟩
theorem cellS94_3 {W : World} {g : Nat} {f0 : Int} {f1 : Int} {f2 : Bool} {f3 : Bool} (h : W.heap[g]? = some (.cells #[.int .i64 f0, .int .i64 f1, .bool f2, .bool f3] 94 (0, 0))) : W.cell? ⟨g, 3, none⟩ = some (.bool f3) := (blk_cell h 3).trans rfl
theorem IsS94.set_3 {w0 W : World} {g : Nat} {f0 : Int} {f1 : Int} {f2 : Bool} {f3 : Bool} (h : IsS94 w0 W g f0 f1 f2 f3) (x : Bool) : IsS94 w0 (W.setCell ⟨g, 3, none⟩ (.bool x)) g f0 f1 f2 x := by
  obtain ⟨hb, hg⟩ := h
  exact ⟨by simpa using blk_set hb 3 (.bool x), hg⟩
theorem IsS94.new (w0 W : World) (f0 : Int) (f1 : Int) (f2 : Bool) (f3 : Bool) (hB : Below w0.heap.size w0 W) : IsS94 w0 (W.alloc (.cells #[.int .i64 f0, .int .i64 f1, .bool f2, .bool f3] 94)) W.heap.size f0 f1 f2 f3 := ⟨by simpa using heap_alloc_new W _, hB.size⟩

theorem hst0 {w0 W0 W w1 : World} {B : Nat} (h : Aside0 (Below B w0 W0)) (hb : Below W.heap.size W w1) (e : (W0.heap, W0.os, W0.tape, W0.output) = (W.heap, W.os, W.tape, W.output)) (hB : B ≤ W.heap.size) : Aside0 (Below B w0 w1) := by
  simp only [Prod.mk.injEq] at e
  obtain ⟨e1, e2, e3, e4⟩ := e
  have h0 := h.out
  exact Aside0.mk ⟨by rw [hb.os, ← e2, h0.os], by rw [hb.tape, ← e3, h0.tape], by rw [hb.output, ← e4, h0.output], Nat.le_trans (e1 ▸ h0.size) hb.size, fun i hi => by rw [hb.block i (Nat.lt_of_lt_of_le hi hB), ← e1]; exact h0.block i hi⟩
theorem hkb {w W0 W w1 : World} {g : Nat} {row : Option Nat} (h : Aside0 (KeepBut w W0 g row)) (hb : Below W.heap.size W w1) (e : W0.heap = W.heap) : Aside0 (KeepBut w w1 g row) :=
  Aside0.mk ⟨Nat.le_trans h.out.1 (by rw [e]; exact hb.size), fun i hi hg hr => by rw [hb.block i (Nat.lt_of_lt_of_le hi (by rw [← e]; exact h.out.1)), ← e]; exact h.out.2 i hi hg hr⟩
def span_ends_put.f (s0_0 : Int) (s0_1 : Int) (s0_2 : Bool) (s0_3 : Bool) (a1 : Int) (a2 : Bool) : Option (Int × Int × Bool × Bool) := if a2 = true then (if s0_2 = true then (some (mn s0_0 a1, mx s0_1 a1, s0_2, s0_3)) else (some (a1, a1, true, s0_3))) else (some (s0_0, s0_1, s0_2, true))
set_option maxHeartbeats 8000000 in
set_option maxRecDepth 100000 in
theorem span_ends_put.calls (g : Nat) (s0_0 : Int) (s0_1 : Int) (s0_2 : Bool) (s0_3 : Bool) (a1 : Int) (a2 : Bool) (r1 : Int) (r2 : Int) (r3 : Bool) (r4 : Bool) (w0 w : World) (hI : IsS94 w0 w g s0_0 s0_1 s0_2 s0_3) (hB : Below w0.heap.size w0 w) (h : span_ends_put.f s0_0 s0_1 s0_2 s0_3 a1 a2 = some (r1, r2, r3, r4)) :
    Calls Try.prog 64 #[.pointer (some ⟨g, 0, none⟩), .int .i64 a1, .bool a2] w fun e w' => e = .returned (.tuple #[]) ∧ IsS94 w0 w' g r1 r2 r3 r4 ∧ Below w0.heap.size w0 w' ∧ KeepBut w w' g none := by
  have huE := Try.underlying94
  have huS := Try.underlying59
  obtain ⟨hb0, hg0⟩ := hI
  have BK := Aside0.mk hb0
  have HG := Aside0.mk hg0
  have HB := Aside0.mk hB
  have HK := Aside0.mk (KeepBut.refl w g none)
  clear hb0 hg0 hB
  have c0 := bc BK 0 rfl
  have c1 := bc BK 1 rfl
  have c2 := bc BK 2 rfl
  have c3 := bc BK 3 rfl
  have f0 := blk_frozen BK.out 0
  have f1 := blk_frozen BK.out 1
  have f2 := blk_frozen BK.out 2
  have f3 := blk_frozen BK.out 3
  unfold span_ends_put.f at h
  cases a2 with
  | false =>
    rw [if_neg Bool.false_ne_true] at h
    simp only [Option.some.injEq, Prod.mk.injEq] at h
    obtain ⟨rfl, rfl, rfl, rfl⟩ := h
    go_enter Try.func64, Try.ntmps64
    go_wp2
    first | go_end0 | ((try simp only [Exit.inBlock, Exit.then]); refine bodyPost_ret (results_none rfl _ _ _) rfl ?_)
    exact ⟨rfl, IsS94.set_3 ⟨BK.out, HG.out⟩ true, below_set HB.out HG.out, KeepBut.set_ HK.out 3 _⟩
  | true =>
    cases s0_2 with
    | false =>
      rw [if_pos rfl, if_neg Bool.false_ne_true] at h
      simp only [Option.some.injEq, Prod.mk.injEq] at h
      obtain ⟨rfl, rfl, rfl, rfl⟩ := h
      go_enter Try.func64, Try.ntmps64
      go_wp2_with (first | ((with_reducible refine gate_callee (f := 45) rfl ?_); refine goesL_ (some 31) rfl rfl Try.func45 (by kernel_rfl) rfl #[.int .i64 a1] rfl (mapq rfl) ?_; (with_reducible refine (span_Of.calls a1 a1 a1 _ rfl).mono ?_); rintro e w2 ⟨rfl, hb⟩; refine ⟨_, rfl, ?_⟩; replace BK := bb BK hb rfl; replace HB := hst0 HB hb rfl HB.out.size; replace HK := hkb HK hb rfl; clear hb c0 c1 c2 c3 f0 f1 f2 f3; have c0 := bc BK 0 rfl; have c1 := bc BK 1 rfl; have c2 := bc BK 2 rfl; have c3 := bc BK 3 rfl; have f0 := blk_frozen BK.out 0; have f1 := blk_frozen BK.out 1; have f2 := blk_frozen BK.out 2; have f3 := blk_frozen BK.out 3))
      first | go_end0 | ((try simp only [Exit.inBlock, Exit.then]); refine bodyPost_ret (results_none rfl _ _ _) rfl ?_)
      exact ⟨rfl, IsS94.set_2 (IsS94.set_1 (IsS94.set_0 ⟨BK.out, HG.out⟩ _) _) true, below_set (below_set (below_set HB.out HG.out) HG.out) HG.out, KeepBut.set_ (KeepBut.set_ (KeepBut.set_ HK.out 0 _) 1 _) 2 _⟩
    | true =>
      rw [if_pos rfl, if_pos rfl] at h
      simp only [Option.some.injEq, Prod.mk.injEq] at h
      obtain ⟨rfl, rfl, rfl, rfl⟩ := h
      go_enter Try.func64, Try.ntmps64
      go_wp2
      replace BK := Aside0.mk (blk_drew BK.out)
      replace HB := Aside0.mk (below_drew1 HB.out)
      replace HK := Aside0.mk (keep_drewN HK.out 1)
      clear c0 c1 c2 c3 f0 f1 f2 f3
      refine start_ (n := 11) (S := fun w' => w'.cell? ⟨g, 0, none⟩ = some (.int .i64 s0_0) ∧ w'.cell? ⟨g, 1, none⟩ = some (.int .i64 s0_1)) (ds := [10]) #[false, false, false, false, false, false, false, false, false, false, false] (by kernel_rfl) rfl rfl ⟨bc BK 0 rfl, bc BK 1 rfl⟩ (fun hHeld => ?_)
      refine pure_ (i := 0) (N := some 6) (v := ?_) (a' := ?_) #[true, false, false, false, false, false, false, false, false, false, false] rfl rfl (by kernel_rfl) (fun _ _ _ h => h) (Or.inl ⟨by rfl, ?_⟩) ?_ ?_
      rotate_left
      · intro w'
        go_simp
        with_reducible rfl
      rotate_left
      · simp only [Act.put, List.setIfInBounds_toArray, List.set_cons_zero, List.set_cons_succ, i64_w, i32_w]
        rfl
      refine pure_ (i := 1) (N := some 7) (v := ?_) (a' := ?_) #[true, true, false, false, false, false, false, false, false, false, false] rfl rfl (by kernel_rfl) (fun _ _ _ h => h) (Or.inl ⟨by rfl, ?_⟩) ?_ ?_
      rotate_left
      · intro w'
        go_simp
        with_reducible rfl
      rotate_left
      · simp only [Act.put, List.setIfInBounds_toArray, List.set_cons_zero, List.set_cons_succ, i64_w, i32_w]
        rfl
      refine pure_ (i := 2) (N := some 8) (v := ?_) (a' := ?_) #[true, true, true, false, false, false, false, false, false, false, false] rfl rfl (by kernel_rfl) (fun _ _ _ h => h) (Or.inl ⟨by rfl, ?_⟩) ?_ ?_
      rotate_left
      · intro w'
        go_simp
        with_reducible rfl
      rotate_left
      · simp only [Act.put, List.setIfInBounds_toArray, List.set_cons_zero, List.set_cons_succ, i64_w, i32_w]
        rfl
      refine pure_ (i := 3) (N := some 9) (v := ?_) (a' := ?_) #[true, true, true, true, false, false, false, false, false, false, false] rfl rfl (by kernel_rfl) (fun _ _ _ h => h) (Or.inl ⟨by rfl, ?_⟩) ?_ ?_
      rotate_left
      · intro w'
        go_simp
        with_reducible rfl
      rotate_left
      · simp only [Act.put, List.setIfInBounds_toArray, List.set_cons_zero, List.set_cons_succ, i64_w, i32_w]
        rfl
      refine pure_ (i := 5) (N := some 11) (v := ?_) (a' := ?_) #[true, true, true, true, false, true, false, false, false, false, false] rfl rfl (by kernel_rfl) (fun _ _ _ h => h) (Or.inl ⟨by rfl, ?_⟩) ?_ ?_
      rotate_left
      · intro w'
        go_simp
        with_reducible rfl
      rotate_left
      · simp only [Act.put, List.setIfInBounds_toArray, List.set_cons_zero, List.set_cons_succ, i64_w, i32_w]
        rfl
      refine take_ (i := 4) (N := some 10) (v := ?_) (a' := ?_) #[true, true, true, true, true, true, false, false, false, false, false] rfl rfl (by kernel_rfl) (fun _ _ _ h => h) (Or.inl ⟨by rfl, ?_⟩) hHeld ?_ ?_
      rotate_left
      · rintro w' ⟨s0, s1⟩
        go_simp
        with_reducible rfl
      rotate_left
      · simp only [Act.put, List.setIfInBounds_toArray, List.set_cons_zero, List.set_cons_succ, i64_w, i32_w]
        rfl
      refine one_ (i := 6) (N := some 12) #[true, true, true, true, true, true, true, false, false, false, false] rfl rfl (by kernel_rfl) (by decide) (fun K hK => ?_)
      refine goes_ Try.func45 (by kernel_rfl) rfl #[.int .i64 a1] (by rfl) rfl rfl (mapq rfl) ?_
      with_reducible refine (span_Of.calls a1 a1 a1 _ rfl).mono ?_
      rintro e w2 ⟨rfl, hb⟩
      refine ⟨_, rfl, ?_⟩
      replace BK := bb BK hb rfl
      replace HB := hst0 HB hb rfl HB.out.size
      replace HK := hkb HK hb rfl
      clear hb
      refine hK.out _ _ ⟨bc BK 0 rfl, bc BK 1 rfl⟩ (fun hHeld => ?_)
      clear hK K
      refine norm_ (a' := ?_) ?_ ?_
      rotate_left
      · show Act.put _ (some 12) _ = _
        simp only [Act.put, List.setIfInBounds_toArray, List.set_cons_zero, List.set_cons_succ, i64_w, i32_w]
        rfl
      refine one_ (i := 7) (N := some 13) #[true, true, true, true, true, true, true, true, false, false, false] rfl rfl (by kernel_rfl) (by decide) (fun K hK => ?_)
      refine goes_ Try.func48 (by kernel_rfl) rfl #[.agg #[.int .i64 s0_0, .int .i64 s0_1], .agg #[.int .i64 a1, .int .i64 a1]] (by rfl) rfl rfl (mapq rfl) ?_
      with_reducible refine (span_Join.calls s0_0 s0_1 a1 a1 (mn s0_0 a1) (mx s0_1 a1) _ rfl).mono ?_
      rintro e w3 ⟨rfl, hb⟩
      refine ⟨_, rfl, ?_⟩
      replace BK := bb BK hb rfl
      replace HB := hst0 HB hb rfl HB.out.size
      replace HK := hkb HK hb rfl
      clear hb
      have hc0 := bc BK 0 rfl
      have hc1 := bc BK 1 rfl
      have hf0 := blk_frozen BK.out 0
      have hf1 := blk_frozen BK.out 1
      refine hK.out _ _ ⟨bc BK 0 rfl, bc BK 1 rfl⟩ (fun hHeld => ?_)
      clear hK K
      refine norm_ (a' := ?_) ?_ ?_
      rotate_left
      · show Act.put _ (some 13) _ = _
        simp only [Act.put, List.setIfInBounds_toArray, List.set_cons_zero, List.set_cons_succ, i64_w, i32_w]
        rfl
      refine pure_ (i := 8) (N := some 14) (v := ?_) (a' := ?_) #[true, true, true, true, true, true, true, true, true, false, false] rfl rfl (by kernel_rfl) (fun _ _ _ h => h) (Or.inl ⟨by rfl, ?_⟩) ?_ ?_
      rotate_left
      · intro w'
        go_simp
        with_reducible rfl
      rotate_left
      · simp only [Act.put, List.setIfInBounds_toArray, List.set_cons_zero, List.set_cons_succ, i64_w, i32_w]
        rfl
      refine pure_ (i := 9) (N := some 15) (v := ?_) (a' := ?_) #[true, true, true, true, true, true, true, true, true, true, false] rfl rfl (by kernel_rfl) (fun _ _ _ h => h) (Or.inl ⟨by rfl, ?_⟩) ?_ ?_
      rotate_left
      · intro w'
        go_simp
        with_reducible rfl
      rotate_left
      · simp only [Act.put, List.setIfInBounds_toArray, List.set_cons_zero, List.set_cons_succ, i64_w, i32_w]
        rfl
      refine last_ (i := 10) (N := none) #[true, true, true, true, true, true, true, true, true, true, true] rfl rfl (by kernel_rfl) (by decide) (fun K hK => ?_)
      refine skip_ (w1 := ?_) (by rfl) rfl ?_ ?_
      rotate_left
      · go_simp
        rfl
      refine hK.out _ _ ?_
      clear hK K
      refine done_ (by kernel_rfl) ?_
      first | go_end0 | ((try simp only [Exit.inBlock, Exit.then]); refine bodyPost_ret (results_none rfl _ _ _) rfl ?_)
      exact ⟨rfl, IsS94.set_1 (IsS94.set_0 ⟨BK.out, HG.out⟩ _) _, below_set (below_set HB.out HG.out) HG.out, KeepBut.set_ (KeepBut.set_ HK.out 0 _) 1 _⟩


/-! ### span_sum: function 65 -/
def span_sum.f (a0 : Int) (a1 : Int) : Option (Int × Bool) := some (wrap64 (a0 + a1), decide ((Go.bits .and .i64 (Go.bits .xor .i64 a0 (wrap64 (a0 + a1))) (Go.bits .xor .i64 a1 (wrap64 (a0 + a1)))) ≥ 0))
set_option maxHeartbeats 8000000 in
set_option maxRecDepth 100000 in
theorem span_sum.calls (a0 : Int) (a1 : Int) (r1 : Int) (r2 : Bool) (w : World) (h : span_sum.f a0 a1 = some (r1, r2)) :
  Calls Try.prog 65 #[.int .i64 a0, .int .i64 a1] w fun e w' => e = .returned (.tuple #[.int .i64 r1, .bool r2]) ∧ Drawn0 w w' := by
 have H : (some (wrap64 (a0 + a1), decide ((Go.bits .and .i64 (Go.bits .xor .i64 a0 (wrap64 (a0 + a1))) (Go.bits .xor .i64 a1 (wrap64 (a0 + a1)))) ≥ 0))) = some (r1, r2) := h
 clear h
 simp only [Option.some.injEq, Prod.mk.injEq] at H
 obtain ⟨rfl, rfl⟩ := H
 go_enter Try.func65, Try.ntmps65
 go_wp2
 go_ret2
 exact ⟨by first | rfl | (simp; done) | (simp [*]; done), by repeat (first | exact Drawn0.refl _ | apply Drawn0.step)⟩

/-! ### span_less: function 66 -/
def span_less.f (a0 : Int) (a1 : Int) : Option (Int × Bool) := some (wrap64 (a0 - a1), decide ((Go.bits .and .i64 (Go.bits .xor .i64 a0 a1) (Go.bits .xor .i64 a0 (wrap64 (a0 - a1)))) ≥ 0))
set_option maxHeartbeats 8000000 in
set_option maxRecDepth 100000 in
theorem span_less.calls (a0 : Int) (a1 : Int) (r1 : Int) (r2 : Bool) (w : World) (h : span_less.f a0 a1 = some (r1, r2)) :
  Calls Try.prog 66 #[.int .i64 a0, .int .i64 a1] w fun e w' => e = .returned (.tuple #[.int .i64 r1, .bool r2]) ∧ Drawn0 w w' := by
 have H : (some (wrap64 (a0 - a1), decide ((Go.bits .and .i64 (Go.bits .xor .i64 a0 a1) (Go.bits .xor .i64 a0 (wrap64 (a0 - a1)))) ≥ 0))) = some (r1, r2) := h
 clear h
 simp only [Option.some.injEq, Prod.mk.injEq] at H
 obtain ⟨rfl, rfl⟩ := H
 go_enter Try.func66, Try.ntmps66
 go_wp2
 go_ret2
 exact ⟨by first | rfl | (simp; done) | (simp [*]; done), by repeat (first | exact Drawn0.refl _ | apply Drawn0.step)⟩

/-! ### span_product: function 67 -/
def span_product.f (a0 : Int) (a1 : Int) : Option (Int × Bool) := if a0 = 0 then (some (0, true)) else (if a1 = 0 then (some (0, true)) else (if (wrap64 (Int.tdiv (wrap64 (a0 * a1)) a1)) = a0 then (if a1 = (-1) then (if (a0 = (-9223372036854775808)) then (some (wrap64 (a0 * a1), false)) else (if a0 = (-1) then (some (wrap64 (a0 * a1), !(a1 == (-9223372036854775808)))) else (some (wrap64 (a0 * a1), !false)))) else (if a0 = (-1) then (some (wrap64 (a0 * a1), !(a1 == (-9223372036854775808)))) else (some (wrap64 (a0 * a1), !false)))) else (some (wrap64 (a0 * a1), false))))
set_option maxHeartbeats 8000000 in
set_option maxRecDepth 100000 in
theorem span_product.calls (a0 : Int) (a1 : Int) (r1 : Int) (r2 : Bool) (w : World) (h : span_product.f a0 a1 = some (r1, r2)) :
  Calls Try.prog 67 #[.int .i64 a0, .int .i64 a1] w fun e w' => e = .returned (.tuple #[.int .i64 r1, .bool r2]) ∧ Drawn0 w w' := by
 have H : (if a0 = 0 then (some (0, true)) else (if a1 = 0 then (some (0, true)) else (if (wrap64 (Int.tdiv (wrap64 (a0 * a1)) a1)) = a0 then (if a1 = (-1) then (if (a0 = (-9223372036854775808)) then (some (wrap64 (a0 * a1), false)) else (if a0 = (-1) then (some (wrap64 (a0 * a1), !(a1 == (-9223372036854775808)))) else (some (wrap64 (a0 * a1), !false)))) else (if a0 = (-1) then (some (wrap64 (a0 * a1), !(a1 == (-9223372036854775808)))) else (some (wrap64 (a0 * a1), !false)))) else (some (wrap64 (a0 * a1), false))))) = some (r1, r2) := h
 clear h
 by_cases c3 : a0 = 0
 ·
  rw [if_pos c3] at H
  have c3b0 : (a0 == 0) = true := beq_iff_eq.mpr c3
  have c3b1 : (a0 != 0) = false := bne_eq_false_iff_eq.mpr c3
  clear c3
  simp only [Option.some.injEq, Prod.mk.injEq] at H
  obtain ⟨rfl, rfl⟩ := H
  go_enter Try.func67, Try.ntmps67
  go_wp2
  go_ret2
  exact ⟨by first | rfl | (simp; done) | (simp [*]; done), by repeat (first | exact Drawn0.refl _ | apply Drawn0.step)⟩
 ·
  rw [if_neg c3] at H
  have c3b0 : (a0 == 0) = false := beq_eq_false_iff_ne.mpr c3
  have c3b1 : (a0 != 0) = true := bne_iff_ne.mpr c3
  by_cases c4 : a1 = 0
  ·
   rw [if_pos c4] at H
   have c4b0 : (a1 == 0) = true := beq_iff_eq.mpr c4
   have c4b1 : (a1 != 0) = false := bne_eq_false_iff_eq.mpr c4
   clear c4
   simp only [Option.some.injEq, Prod.mk.injEq] at H
   obtain ⟨rfl, rfl⟩ := H
   go_enter Try.func67, Try.ntmps67
   go_wp2
   go_ret2
   exact ⟨by first | rfl | (simp; done) | (simp [*]; done), by repeat (first | exact Drawn0.refl _ | apply Drawn0.step)⟩
  ·
   rw [if_neg c4] at H
   have c4b0 : (a1 == 0) = false := beq_eq_false_iff_ne.mpr c4
   have c4b1 : (a1 != 0) = true := bne_iff_ne.mpr c4
   by_cases c5 : (wrap64 (Int.tdiv (wrap64 (a0 * a1)) a1)) = a0
   ·
    rw [if_pos c5] at H
    have c5b0 : ((wrap64 (Int.tdiv (wrap64 (a0 * a1)) a1)) == a0) = true := beq_iff_eq.mpr c5
    have c5b1 : ((wrap64 (Int.tdiv (wrap64 (a0 * a1)) a1)) != a0) = false := bne_eq_false_iff_eq.mpr c5
    clear c5
    by_cases c6 : a1 = (-1)
    ·
     rw [if_pos c6] at H
     have c6b0 : (a1 == (-1)) = true := beq_iff_eq.mpr c6
     have c6b1 : (a1 != (-1)) = false := bne_eq_false_iff_eq.mpr c6
     clear c6
     by_cases c7 : (a0 = (-9223372036854775808))
     ·
      rw [if_pos c7] at H
      have c7b0 : (a0 == (-9223372036854775808)) = true := beq_iff_eq.mpr c7
      have c7b1 : (a0 != (-9223372036854775808)) = false := bne_eq_false_iff_eq.mpr c7
      clear c7
      simp only [Option.some.injEq, Prod.mk.injEq] at H
      obtain ⟨rfl, rfl⟩ := H
      go_enter Try.func67, Try.ntmps67
      go_wp2
      go_ret2
      exact ⟨by first | rfl | (simp; done) | (simp [*]; done), by repeat (first | exact Drawn0.refl _ | apply Drawn0.step)⟩
     ·
      rw [if_neg c7] at H
      have c7b0 : (a0 == (-9223372036854775808)) = false := beq_eq_false_iff_ne.mpr c7
      have c7b1 : (a0 != (-9223372036854775808)) = true := bne_iff_ne.mpr c7
      by_cases c8 : a0 = (-1)
      ·
       rw [if_pos c8] at H
       have c8b0 : (a0 == (-1)) = true := beq_iff_eq.mpr c8
       have c8b1 : (a0 != (-1)) = false := bne_eq_false_iff_eq.mpr c8
       clear c8
       simp only [Option.some.injEq, Prod.mk.injEq] at H
       obtain ⟨rfl, rfl⟩ := H
       go_enter Try.func67, Try.ntmps67
       go_wp2
       go_ret2
       exact ⟨by first | rfl | (simp; done) | (simp [*]; done), by repeat (first | exact Drawn0.refl _ | apply Drawn0.step)⟩
      ·
       rw [if_neg c8] at H
       have c8b0 : (a0 == (-1)) = false := beq_eq_false_iff_ne.mpr c8
       have c8b1 : (a0 != (-1)) = true := bne_iff_ne.mpr c8
       simp only [Option.some.injEq, Prod.mk.injEq] at H
       obtain ⟨rfl, rfl⟩ := H
       go_enter Try.func67, Try.ntmps67
       go_wp2
       go_ret2
       exact ⟨by first | rfl | (simp; done) | (simp [*]; done), by repeat (first | exact Drawn0.refl _ | apply Drawn0.step)⟩
    ·
     rw [if_neg c6] at H
     have c6b0 : (a1 == (-1)) = false := beq_eq_false_iff_ne.mpr c6
     have c6b1 : (a1 != (-1)) = true := bne_iff_ne.mpr c6
     by_cases c9 : a0 = (-1)
     ·
      rw [if_pos c9] at H
      have c9b0 : (a0 == (-1)) = true := beq_iff_eq.mpr c9
      have c9b1 : (a0 != (-1)) = false := bne_eq_false_iff_eq.mpr c9
      clear c9
      simp only [Option.some.injEq, Prod.mk.injEq] at H
      obtain ⟨rfl, rfl⟩ := H
      go_enter Try.func67, Try.ntmps67
      go_wp2
      go_ret2
      exact ⟨by first | rfl | (simp; done) | (simp [*]; done), by repeat (first | exact Drawn0.refl _ | apply Drawn0.step)⟩
     ·
      rw [if_neg c9] at H
      have c9b0 : (a0 == (-1)) = false := beq_eq_false_iff_ne.mpr c9
      have c9b1 : (a0 != (-1)) = true := bne_iff_ne.mpr c9
      simp only [Option.some.injEq, Prod.mk.injEq] at H
      obtain ⟨rfl, rfl⟩ := H
      go_enter Try.func67, Try.ntmps67
      go_wp2
      go_ret2
      exact ⟨by first | rfl | (simp; done) | (simp [*]; done), by repeat (first | exact Drawn0.refl _ | apply Drawn0.step)⟩
   ·
    rw [if_neg c5] at H
    have c5b0 : ((wrap64 (Int.tdiv (wrap64 (a0 * a1)) a1)) == a0) = false := beq_eq_false_iff_ne.mpr c5
    have c5b1 : ((wrap64 (Int.tdiv (wrap64 (a0 * a1)) a1)) != a0) = true := bne_iff_ne.mpr c5
    simp only [Option.some.injEq, Prod.mk.injEq] at H
    obtain ⟨rfl, rfl⟩ := H
    go_enter Try.func67, Try.ntmps67
    go_wp2
    go_ret2
    exact ⟨by first | rfl | (simp; done) | (simp [*]; done), by repeat (first | exact Drawn0.refl _ | apply Drawn0.step)⟩

/-! ### span_Any: function 46 -/
def span_Any.f  : Option (Int × Int) := some ((-9223372036854775808), 9223372036854775807)
set_option maxHeartbeats 8000000 in
set_option maxRecDepth 100000 in
theorem span_Any.calls  (r1 : Int) (r2 : Int) (w : World) (h : span_Any.f  = some (r1, r2)) :
  Calls Try.prog 46 #[] w fun e w' => e = .returned (.agg #[.int .i64 r1, .int .i64 r2]) ∧ Below w.heap.size w w' := by
 have hu59 := Try.underlying59
 have HB := Aside0.mk (Below.refl w.heap.size w)
 have H : (some ((-9223372036854775808), 9223372036854775807)) = some (r1, r2) := h
 clear h
 simp only [Option.some.injEq, Prod.mk.injEq] at H
 obtain ⟨rfl, rfl⟩ := H
 go_enter Try.func46, Try.ntmps46
 go_wp2_with (first | ((with_reducible refine gate_dst (N := 0) rfl ?_); refine box_event ?hg (N := 0) ?hd (cs := #[.int .i64 0, .int .i64 0]) (t := 59) ?hr ?_; (case hd => rfl); (case hg => rfl); (case hr => first | (go_simp; done) | (go_simp; rfl)); intro gb113 hg w1 hbox hb; have BK113 := Aside0.mk (hbox); have GW113 := geb hg HB rfl; have GE113 := geb hg HB rfl; replace HB := hst HB hb rfl; clear hb hbox hg; obtain ⟨hcz2_0, hcz2_1, hfz2_0, hfz2_1⟩ := c2 BK113))
 refine bodyPost_ret (results_cell_row rfl _ _ gb113 59 #[.int .i64 (-9223372036854775808), .int .i64 9223372036854775807] (0, 0) _ rfl (by (with_reducible repeat (first | refine blk_drewN ?_ _ | refine blk_drew ?_ | refine blk_alloc ?_ _)); refine blk_put (cs := #[.int .i64 (-9223372036854775808), .int .i64 0]) ?_ 1 _ rfl; (with_reducible repeat (first | refine blk_drewN ?_ _ | refine blk_drew ?_ | refine blk_alloc ?_ _)); refine blk_put (cs := #[.int .i64 0, .int .i64 0]) ?_ 0 _ rfl; (with_reducible repeat (first | refine blk_drewN ?_ _ | refine blk_drew ?_ | refine blk_alloc ?_ _)); exact BK113.out) Try.underlying59 rfl (by kernel_rfl)) rfl ?_
 exact ⟨by first | rfl | (simp [*, errW_none, errW_some] <;> rfl), by repeat (first | (with_reducible first | exact HB.out | apply below_alloc | apply pw_below_drewN | apply below_drew1 | refine below_set ?_ GE113.out) | exact HB.out)⟩

/-! ### span_Has: function 47 -/
def span_Has.f (a0_0 : Int) (a0_1 : Int) (a1 : Int) : Option (Bool) := if a0_0 ≤ a1 then (some (decide (a1 ≤ a0_1))) else (some false)
set_option maxHeartbeats 8000000 in
set_option maxRecDepth 100000 in
theorem span_Has.calls (a0_0 : Int) (a0_1 : Int) (a1 : Int) (r : Bool) (w : World) (h : span_Has.f a0_0 a0_1 a1 = some r) :
  Calls Try.prog 47 #[.agg #[.int .i64 a0_0, .int .i64 a0_1], .int .i64 a1] w fun e w' => e = .returned (.bool r) ∧ Below w.heap.size w w' := by
 have hu59 := Try.underlying59
 have HB := Aside0.mk (Below.refl w.heap.size w)
 have H : (if a0_0 ≤ a1 then (some (decide (a1 ≤ a0_1))) else (some false)) = some r := h
 clear h
 by_cases c3 : a0_0 ≤ a1
 ·
  rw [if_pos c3] at H
  have c3b0 : decide (a0_0 ≤ a1) = true := decide_eq_true c3
  clear c3
  obtain rfl := Option.some.inj H
  go_enter Try.func47, Try.ntmps47
  go_wp2_with (first | ((with_reducible refine gate_dst (N := 2) rfl ?_); refine box_event ?hg (N := 2) ?hd (cs := #[.int .i64 a0_0, .int .i64 a0_1]) (t := 59) ?hr ?_; (case hd => rfl); (case hg => rfl); (case hr => first | (go_simp; done) | (go_simp; rfl)); intro gb114 hg w4 hbox hb; have BK114 := Aside0.mk (hbox); have GW114 := geb hg HB rfl; have GE114 := geb hg HB rfl; replace HB := hst HB hb rfl; clear hb hbox hg; obtain ⟨hcz5_0, hcz5_1, hfz5_0, hfz5_1⟩ := c2 BK114))
  go_ret
  exact ⟨by first | rfl | (simp [*, errW_none, errW_some] <;> rfl), by repeat (first | (with_reducible first | exact HB.out | apply below_alloc | apply pw_below_drewN | apply below_drew1 | refine below_set ?_ GE114.out) | exact HB.out)⟩
 ·
  rw [if_neg c3] at H
  have c3b0 : decide (a0_0 ≤ a1) = false := decide_eq_false c3
  clear c3
  obtain rfl := Option.some.inj H
  go_enter Try.func47, Try.ntmps47
  go_wp2_with (first | ((with_reducible refine gate_dst (N := 2) rfl ?_); refine box_event ?hg (N := 2) ?hd (cs := #[.int .i64 a0_0, .int .i64 a0_1]) (t := 59) ?hr ?_; (case hd => rfl); (case hg => rfl); (case hr => first | (go_simp; done) | (go_simp; rfl)); intro gb114 hg w6 hbox hb; have BK114 := Aside0.mk (hbox); have GW114 := geb hg HB rfl; have GE114 := geb hg HB rfl; replace HB := hst HB hb rfl; clear hb hbox hg; obtain ⟨hcz7_0, hcz7_1, hfz7_0, hfz7_1⟩ := c2 BK114))
  go_ret
  exact ⟨by first | rfl | (simp [*, errW_none, errW_some] <;> rfl), by repeat (first | (with_reducible first | exact HB.out | apply below_alloc | apply pw_below_drewN | apply below_drew1 | refine below_set ?_ GE114.out) | exact HB.out)⟩


/-! ### span_ends_all: function 74 -/
theorem kset {w W : World} {g gb j : Nat} {u : Value} (h : KeepBut w W g none) (hg : w.heap.size ≤ gb) : KeepBut w (W.setCell ⟨gb, j, none⟩ u) g none :=
  ⟨by simpa [World.setCell] using h.1, fun i hi hne hr => (Below.heap_setCell W ⟨gb, j, none⟩ u i (Nat.ne_of_lt (Nat.lt_of_lt_of_le hi hg))).trans (h.2 i hi hne hr)⟩
def span_ends_all.f (s0_0 : Int) (s0_1 : Int) (s0_2 : Bool) (s0_3 : Bool) : Option (Int × Int × Bool × Int × Int × Bool × Bool) := if s0_3 = true then (some ((-9223372036854775808), 9223372036854775807, true, s0_0, s0_1, s0_2, s0_3)) else (some (s0_0, s0_1, s0_2, s0_0, s0_1, s0_2, s0_3))
set_option maxHeartbeats 8000000 in
set_option maxRecDepth 100000 in
theorem span_ends_all.calls (g : Nat) (s0_0 : Int) (s0_1 : Int) (s0_2 : Bool) (s0_3 : Bool) (r1 : Int) (r2 : Int) (r3 : Bool) (r4 : Int) (r5 : Int) (r6 : Bool) (r7 : Bool) (w0 w : World) (hI : IsS94 w0 w g s0_0 s0_1 s0_2 s0_3) (hB : Below w0.heap.size w0 w) (h : span_ends_all.f s0_0 s0_1 s0_2 s0_3 = some (r1, r2, r3, r4, r5, r6, r7)) :
    Calls Try.prog 74 #[.pointer (some ⟨g, 0, none⟩)] w fun e w' => e = .returned (.tuple #[.agg #[.int .i64 r1, .int .i64 r2], .bool r3]) ∧ IsS94 w0 w' g r4 r5 r6 r7 ∧ Below w0.heap.size w0 w' ∧ KeepBut w w' g none := by
  have huE := Try.underlying94
  have huS := Try.underlying59
  obtain ⟨hb0, hg0⟩ := hI
  have BK := Aside0.mk hb0
  have HG := Aside0.mk hg0
  have HB := Aside0.mk hB
  have HK := Aside0.mk (KeepBut.refl w g none)
  clear hb0 hg0 hB
  unfold span_ends_all.f at h
  cases s0_3 with
  | true =>
    rw [if_pos rfl] at h
    simp only [Option.some.injEq, Prod.mk.injEq] at h
    obtain ⟨rfl, rfl, rfl, rfl, rfl, rfl, rfl⟩ := h
    have c3 : w.cell? ⟨g, 3, none⟩ = some (.bool true) := bc BK 3 rfl
    go_enter Try.func74, Try.ntmps74
    go_wp2_with (first | ((with_reducible refine gate_dst (N := 2) rfl ?_); refine box_event ?hg (N := 2) ?hd (cs := #[.int .i64 0, .int .i64 0]) (t := 59) ?hr ?_; (case hd => rfl); (case hg => rfl); (case hr => first | (go_simp; done) | (go_simp; rfl)); intro gb hgb w1 hbox hb; have RK := Aside0.mk hbox; have NE := nbl hgb BK rfl; have RG := Aside0.mk (show w.heap.size ≤ gb by rw [hgb]; exact HK.out.1); have RG0 := Aside0.mk (show w0.heap.size ≤ gb by rw [hgb]; exact HB.out.size); replace BK := bb BK hb rfl; replace HB := hst0 HB hb rfl HB.out.size; replace HK := hkb HK hb rfl; clear hb hbox hgb; clear c3; have c3 : w1.cell? ⟨g, 3, none⟩ = some (.bool true) := bc BK 3 rfl) | ((with_reducible refine gate_callee (f := 46) rfl ?_); refine goesL_ (some 8) rfl rfl Try.func46 (by kernel_rfl) rfl #[] rfl (mapq rfl) ?_; (with_reducible refine (span_Any.calls (-9223372036854775808) 9223372036854775807 _ rfl).mono ?_); rintro e w2 ⟨rfl, hb⟩; refine ⟨_, rfl, ?_⟩; replace BK := bb BK hb rfl; replace RK := bb RK hb rfl; replace HB := hst0 HB hb rfl HB.out.size; replace HK := hkb HK hb rfl; clear hb c3; have d0 : w2.cell? ⟨gb, 0, none⟩ = some (.int .i64 0) := bc RK 0 rfl; have d1 : w2.cell? ⟨gb, 1, none⟩ = some (.int .i64 0) := bc RK 1 rfl; have e0 := blk_frozen RK.out 0; have e1 := blk_frozen RK.out 1; have ne := NE.out; have ne2 := NE.out.symm))
    have R2 : Aside0 (((w2.setCell ⟨gb, 0, none⟩ (.int .i64 (-9223372036854775808))).setCell ⟨gb, 1, none⟩ (.int .i64 9223372036854775807)).heap[gb]? = some (.cells #[.int .i64 (-9223372036854775808), .int .i64 9223372036854775807] 59 (0, 0))) := ⟨by refine blk_put (cs := #[.int .i64 (-9223372036854775808), .int .i64 0]) ?_ 1 _ rfl; exact blk_put (cs := #[.int .i64 0, .int .i64 0]) RK.out 0 _ rfl⟩
    refine bodyPost_ret (results_ct rfl _ _ gb 59 #[.int .i64 (-9223372036854775808), .int .i64 9223372036854775807] (0, 0) _ rfl R2.out Try.underlying59 rfl (by kernel_rfl)) rfl ?_
    exact ⟨rfl, IsS94.far (IsS94.far ⟨BK.out, HG.out⟩ NE.out _) NE.out _, below_set (below_set HB.out RG0.out) RG0.out, kset (kset HK.out RG.out) RG.out⟩
  | false =>
    rw [if_neg Bool.false_ne_true] at h
    simp only [Option.some.injEq, Prod.mk.injEq] at h
    obtain ⟨rfl, rfl, rfl, rfl, rfl, rfl, rfl⟩ := h
    have c3 : w.cell? ⟨g, 3, none⟩ = some (.bool false) := bc BK 3 rfl
    go_enter Try.func74, Try.ntmps74
    go_wp2_with (first | ((with_reducible refine gate_dst (N := 2) rfl ?_); refine box_event ?hg (N := 2) ?hd (cs := #[.int .i64 0, .int .i64 0]) (t := 59) ?hr ?_; (case hd => rfl); (case hg => rfl); (case hr => first | (go_simp; done) | (go_simp; rfl)); intro gb hgb w1 hbox hb; have RK := Aside0.mk hbox; have NE := nbl hgb BK rfl; have RG := Aside0.mk (show w.heap.size ≤ gb by rw [hgb]; exact HK.out.1); have RG0 := Aside0.mk (show w0.heap.size ≤ gb by rw [hgb]; exact HB.out.size); replace BK := bb BK hb rfl; replace HB := hst0 HB hb rfl HB.out.size; replace HK := hkb HK hb rfl; clear hb hbox hgb; clear c3; have c3 : w1.cell? ⟨g, 3, none⟩ = some (.bool false) := bc BK 3 rfl))
    replace BK := Aside0.mk (blk_drew BK.out)
    replace RK := Aside0.mk (blk_drew RK.out)
    replace HB := Aside0.mk (below_drew1 HB.out)
    replace HK := Aside0.mk (show KeepBut w w1.drew g none from HK.out)
    clear c3
    have d0 : w1.drew.cell? ⟨gb, 0, none⟩ = some (.int .i64 0) := bc RK 0 rfl
    have d1 : w1.drew.cell? ⟨gb, 1, none⟩ = some (.int .i64 0) := bc RK 1 rfl
    have e0 := blk_frozen RK.out 0
    have e1 := blk_frozen RK.out 1
    have ne := NE.out
    have ne2 := NE.out.symm
    refine start_ (n := 10) (S := fun w' => w'.cell? ⟨g, 0, none⟩ = some (.int .i64 s0_0) ∧ w'.cell? ⟨g, 1, none⟩ = some (.int .i64 s0_1) ∧ w'.cell? ⟨g, 2, none⟩ = some (.bool s0_2)) (ds := []) #[false, false, false, false, false, false, false, false, false, false] (by kernel_rfl) rfl rfl ⟨bc BK 0 rfl, bc BK 1 rfl, bc BK 2 rfl⟩ (fun hHeld => ?_)
    generalize w1.drew = w2 at BK RK HB HK d0 d1 e0 e1 hHeld ⊢
    refine pure_ (i := 0) (N := some 9) (v := ?_) (a' := ?_) #[true, false, false, false, false, false, false, false, false, false] rfl rfl (by kernel_rfl) (fun _ _ _ h => h) (Or.inl ⟨by rfl, ?_⟩) ?_ ?_
    rotate_left
    · intro w'
      go_simp
      with_reducible rfl
    rotate_left
    · simp only [Act.put, List.setIfInBounds_toArray, List.set_cons_zero, List.set_cons_succ, i64_w, i32_w]
      rfl
    refine pure_ (i := 1) (N := some 10) (v := ?_) (a' := ?_) #[true, true, false, false, false, false, false, false, false, false] rfl rfl (by kernel_rfl) (fun _ _ _ h => h) (Or.inl ⟨by rfl, ?_⟩) ?_ ?_
    rotate_left
    · intro w'
      go_simp
      with_reducible rfl
    rotate_left
    · simp only [Act.put, List.setIfInBounds_toArray, List.set_cons_zero, List.set_cons_succ, i64_w, i32_w]
      rfl
    refine pure_ (i := 2) (N := some 11) (v := ?_) (a' := ?_) #[true, true, true, false, false, false, false, false, false, false] rfl rfl (by kernel_rfl) (fun _ _ _ h => h) (Or.inl ⟨by rfl, ?_⟩) ?_ ?_
    rotate_left
    · intro w'
      go_simp
      with_reducible rfl
    rotate_left
    · simp only [Act.put, List.setIfInBounds_toArray, List.set_cons_zero, List.set_cons_succ, i64_w, i32_w]
      rfl
    refine pure_ (i := 4) (N := some 13) (v := ?_) (a' := ?_) #[true, true, true, false, true, false, false, false, false, false] rfl rfl (by kernel_rfl) (fun _ _ _ h => h) (Or.inl ⟨by rfl, ?_⟩) ?_ ?_
    rotate_left
    · intro w'
      go_simp
      with_reducible rfl
    rotate_left
    · simp only [Act.put, List.setIfInBounds_toArray, List.set_cons_zero, List.set_cons_succ, i64_w, i32_w]
      rfl
    refine pure_ (i := 5) (N := some 14) (v := ?_) (a' := ?_) #[true, true, true, false, true, true, false, false, false, false] rfl rfl (by kernel_rfl) (fun _ _ _ h => h) (Or.inl ⟨by rfl, ?_⟩) ?_ ?_
    rotate_left
    · intro w'
      go_simp
      with_reducible rfl
    rotate_left
    · simp only [Act.put, List.setIfInBounds_toArray, List.set_cons_zero, List.set_cons_succ, i64_w, i32_w]
      rfl
    refine pure_ (i := 6) (N := some 15) (v := ?_) (a' := ?_) #[true, true, true, false, true, true, true, false, false, false] rfl rfl (by kernel_rfl) (fun _ _ _ h => h) (Or.inl ⟨by rfl, ?_⟩) ?_ ?_
    rotate_left
    · intro w'
      go_simp
      with_reducible rfl
    rotate_left
    · simp only [Act.put, List.setIfInBounds_toArray, List.set_cons_zero, List.set_cons_succ, i64_w, i32_w]
      rfl
    refine take_ (i := 3) (N := some 12) (v := ?_) (a' := ?_) #[true, true, true, true, true, true, true, false, false, false] rfl rfl (by kernel_rfl) (fun _ _ _ h => h) (Or.inl ⟨by rfl, ?_⟩) hHeld ?_ ?_
    rotate_left
    · rintro w' ⟨s0, s1, s2⟩
      go_simp
      with_reducible rfl
    rotate_left
    · simp only [Act.put, List.setIfInBounds_toArray, List.set_cons_zero, List.set_cons_succ, i64_w, i32_w]
      rfl
    refine take_ (i := 7) (N := some 16) (v := ?_) (a' := ?_) #[true, true, true, true, true, true, true, true, false, false] rfl rfl (by kernel_rfl) (fun _ _ _ h => h) (Or.inl ⟨by rfl, ?_⟩) hHeld ?_ ?_
    rotate_left
    · rintro w' ⟨s0, s1, s2⟩
      go_simp
      with_reducible rfl
    rotate_left
    · simp only [Act.put, List.setIfInBounds_toArray, List.set_cons_zero, List.set_cons_succ, i64_w, i32_w]
      rfl
    refine one_ (i := 8) (N := none) #[true, true, true, true, true, true, true, true, true, false] rfl rfl (by kernel_rfl) (by decide) (fun K hK => ?_)
    refine skip_ (w1 := ?_) (by rfl) rfl ?_ ?_
    rotate_left
    · go_simp
      rfl
    refine hK.out _ _ ⟨bc (Aside0.mk (blk_far (blk_far BK.out NE.out _) NE.out _)) 0 rfl, bc (Aside0.mk (blk_far (blk_far BK.out NE.out _) NE.out _)) 1 rfl, bc (Aside0.mk (blk_far (blk_far BK.out NE.out _) NE.out _)) 2 rfl⟩ (fun hHeld => ?_)
    clear hK K
    refine pure_ (i := 9) (N := some 3) (v := ?_) (a' := ?_) #[true, true, true, true, true, true, true, true, true, true] rfl rfl (by kernel_rfl) (fun _ _ _ h => h) (Or.inl ⟨by rfl, ?_⟩) ?_ ?_
    rotate_left
    · intro w'
      go_simp
      with_reducible rfl
    rotate_left
    · simp only [Act.put, List.setIfInBounds_toArray, List.set_cons_zero, List.set_cons_succ, i64_w, i32_w]
      rfl
    refine done_ (by kernel_rfl) ?_
    have R2 : Aside0 (((w2.setCell ⟨gb, 0, none⟩ (.int .i64 s0_0)).setCell ⟨gb, 1, none⟩ (.int .i64 s0_1)).heap[gb]? = some (.cells #[.int .i64 s0_0, .int .i64 s0_1] 59 (0, 0))) := ⟨by refine blk_put (cs := #[.int .i64 s0_0, .int .i64 0]) ?_ 1 _ rfl; exact blk_put (cs := #[.int .i64 0, .int .i64 0]) RK.out 0 _ rfl⟩
    go_wp2
    refine bodyPost_ret (results_ct rfl _ _ gb 59 #[.int .i64 s0_0, .int .i64 s0_1] (0, 0) _ rfl R2.out Try.underlying59 rfl (by kernel_rfl)) rfl ?_
    exact ⟨rfl, IsS94.far (IsS94.far ⟨BK.out, HG.out⟩ NE.out _) NE.out _, below_set (below_set HB.out RG0.out) RG0.out, kset (kset HK.out RG.out) RG.out⟩


/-! ### span_Span_parts: function 84 -/
def span_Span_parts.f (a0_0 : Int) (a0_1 : Int) : Option ((List (S59))) := (span_Meet.f a0_0 a0_1 (-9223372036854775808) (-1)).bind fun bt116 => (if bt116.2.2 = true then (if ([] : List (S59)).length < 8796093022208 then ((some (([] : List (S59)) ++ [(⟨bt116.1, bt116.2.1⟩ : S59)] : List (S59))).bind fun y120 => ((span_Meet.f a0_0 a0_1 1 9223372036854775807).bind fun bt123 => (if bt123.2.2 = true then (if y120.length < 8796093022208 then (some (y120 ++ [(⟨bt123.1, bt123.2.1⟩ : S59)])) else (none)) else (some y120)))) else (none)) else ((span_Meet.f a0_0 a0_1 1 9223372036854775807).bind fun bt130 => (if bt130.2.2 = true then (if ([] : List (S59)).length < 8796093022208 then (some (([] : List (S59)) ++ [(⟨bt130.1, bt130.2.1⟩ : S59)])) else (none)) else (some ([] : List (S59))))))
set_option maxHeartbeats 8000000 in
set_option maxRecDepth 100000 in
theorem span_Span_parts.calls (a0_0 : Int) (a0_1 : Int) (r : List (S59)) (w : World) (h : span_Span_parts.f a0_0 a0_1 = some r) :
  Calls Try.prog 84 #[.agg #[.int .i64 a0_0, .int .i64 a0_1]] w fun e w' => ∃ v0_ : Value, e = .returned (v0_) ∧ Kd.R k59 59 w' w.heap.size (fun _ => True) v0_ r ∧ Below w.heap.size w w' := by
 have hu59 := Try.underlying59
 have HB := Aside0.mk (Below.refl w.heap.size w)
 have H : ((span_Meet.f a0_0 a0_1 (-9223372036854775808) (-1)).bind fun bt116 => (if bt116.2.2 = true then (if ([] : List (S59)).length < 8796093022208 then ((some (([] : List (S59)) ++ [(⟨bt116.1, bt116.2.1⟩ : S59)] : List (S59))).bind fun y120 => ((span_Meet.f a0_0 a0_1 1 9223372036854775807).bind fun bt123 => (if bt123.2.2 = true then (if y120.length < 8796093022208 then (some (y120 ++ [(⟨bt123.1, bt123.2.1⟩ : S59)])) else (none)) else (some y120)))) else (none)) else ((span_Meet.f a0_0 a0_1 1 9223372036854775807).bind fun bt130 => (if bt130.2.2 = true then (if ([] : List (S59)).length < 8796093022208 then (some (([] : List (S59)) ++ [(⟨bt130.1, bt130.2.1⟩ : S59)])) else (none)) else (some ([] : List (S59))))))) = some r := h
 clear h
 replace H := Option.bind_eq_some_iff.mp H
 obtain ⟨⟨t116, t117, t118⟩, A20, H⟩ := H
 (try dsimp only at H)
 have A2 := Aside0.mk A20
 clear A20
 by_cases c3 : t118 = true
 ·
  subst c3
  rw [if_pos rfl] at H
  by_cases c4 : ([] : List (S59)).length < 8796093022208
  ·
   rw [if_pos c4] at H
   have LMc4 := Aside0.mk c4
   clear c4
   obtain ⟨y120, hy120⟩ : ∃ y_ : List (S59), y_ = (([] : List (S59)) ++ [(⟨t116, t117⟩ : S59)]) := ⟨_, rfl⟩
   replace H : ((span_Meet.f a0_0 a0_1 1 9223372036854775807).bind fun bt123 => (if bt123.2.2 = true then (if y120.length < 8796093022208 then (some (y120 ++ [(⟨bt123.1, bt123.2.1⟩ : S59)])) else (none)) else (some y120))) = some r := by first | (rw [hy120]; with_reducible exact H) | (have H2_ := (Option.bind_some _ _).symm.trans H; rw [hy120]; with_reducible exact H2_) | (have H2_ := (Option.bind_some _ _).symm.trans H; with_reducible exact H2_) | with_reducible exact H | (rw [hy120]; exact H) | exact H
   have Ny120 := Aside0.mk hy120
   clear hy120
   replace H := Option.bind_eq_some_iff.mp H
   obtain ⟨⟨t123, t124, t125⟩, A50, H⟩ := H
   (try dsimp only at H)
   have A5 := Aside0.mk A50
   clear A50
   by_cases c6 : t125 = true
   ·
    subst c6
    rw [if_pos rfl] at H
    by_cases c7 : y120.length < 8796093022208
    ·
     rw [if_pos c7] at H
     have LMc7 := Aside0.mk c7
     clear c7
     obtain ⟨y127, hy127⟩ : ∃ y_ : List (S59), y_ = (y120 ++ [(⟨t123, t124⟩ : S59)]) := ⟨_, rfl⟩
     replace H : (some y127) = some r := by first | (rw [hy127]; with_reducible exact H) | (have H2_ := (Option.bind_some _ _).symm.trans H; rw [hy127]; with_reducible exact H2_) | (have H2_ := (Option.bind_some _ _).symm.trans H; with_reducible exact H2_) | with_reducible exact H | (rw [hy127]; exact H) | exact H
     have Ny127 := Aside0.mk hy127
     clear hy127
     obtain rfl := Option.some.inj H
     go_enter Try.func84, Try.ntmps84
     go_wp2_with (first | ((with_reducible refine gate_dst (N := 1) rfl ?_); refine box_event ?hg (N := 1) ?hd (cs := #[.int .i64 a0_0, .int .i64 a0_1]) (t := 59) ?hr ?_; (case hd => rfl); (case hg => rfl); (case hr => first | (go_simp; done) | (go_simp; rfl)); intro gb115 hg w8 hbox hb; have BK115 := Aside0.mk (hbox); have GW115 := geb hg HB rfl; have GE115 := geb hg HB rfl; replace HB := hst HB hb rfl; clear hb hbox hg; obtain ⟨hcz9_0, hcz9_1, hfz9_0, hfz9_1⟩ := c2 BK115) | ((with_reducible refine gate_callee (f := 43) rfl ?_); refine goesL_ (some 11) rfl rfl Try.func43 (by kernel_rfl) rfl #[.agg #[.int .i64 a0_0, .int .i64 a0_1], .agg #[.int .i64 (-9223372036854775808), .int .i64 (-1)]] rfl (mapq rfl) ?_; (with_reducible refine (span_Meet.calls a0_0 a0_1 (-9223372036854775808) (-1) t116 t117 true _ A2.out).mono ?_); rintro e w10 ⟨rfl, hb⟩; refine ⟨_, rfl, ?_⟩; replace BK115 := bb BK115 hb rfl; replace HB := hst HB hb rfl; (try clear hb)) | ((with_reducible refine gate_dst (N := 4) rfl ?_); refine box_event ?hg (N := 4) ?hd (cs := #[.int .i64 0, .int .i64 0]) (t := 59) ?hr ?_; (case hd => rfl); (case hg => rfl); (case hr => first | (go_simp; done) | (go_simp; rfl)); intro gb119 hg w11 hbox hb; have BK119 := Aside0.mk (hbox); have GW119 := geb hg HB rfl; have GE119 := geb hg HB rfl; have NB115_119 := nbl hg BK115 rfl; have NB119_115 := nbr hg BK115 rfl; replace BK115 := bb BK115 hb rfl; replace HB := hst HB hb rfl; clear hb hbox hg; have hnb12 := NB119_115.out; have hnc12 := NB115_119.out; obtain ⟨hcz13_0, hcz13_1, hfz13_0, hfz13_1⟩ := c2 BK119) | ((with_reducible refine gate_builtin (b := .append) (xs := #[.tmp 15, .tmp 17]) rfl ?_); at_builtin; refine Kd.R_append k59 (w0 := w) w.heap.size rfl (.tmp 15) (.tmp 17) 102 59 (.agg #[(.int .i64 0), (.int .i64 0)]) 16 rfl Try.underlying102 info59 rfl (by decide) (by omega) (.slice none 0 0) ([] : List (S59)) (⟨t116, t117⟩ : S59) [.int .i64 t116, .int .i64 t117] (fun k_ => k_ ≠ gb115 ∧ k_ ≠ gb119) (fun _ => False) rfl (by first | (go_simp; done) | (go_simp; rfl)) ?aP (fun _ hk => hk.elim) ?aF ?aO ?aB ?aS ?aL ?_; (case aP => exact k59_mkM _ _ _ (⟨t116, t117⟩ : S59)); (case aB => exact (by repeat (first | (with_reducible first | exact HB.out | apply below_alloc | apply pw_below_drewN | apply below_drew1 | refine below_set ?_ GE115.out | refine below_set ?_ GE119.out) | exact HB.out))); (case aF => exact (fun k_ hk => ⟨Kd.freshB (g := gb115) (o := .cells #[.int .i64 a0_0, .int .i64 a0_1] 59 (0, 0)) (by (with_reducible repeat (first | refine blk_drewN ?_ _ | refine blk_drew ?_ | refine blk_alloc ?_ _)); refine blk_far ?_ NB115_119.out _; (with_reducible repeat (first | refine blk_drewN ?_ _ | refine blk_drew ?_ | refine blk_alloc ?_ _)); refine blk_far ?_ NB115_119.out _; (with_reducible repeat (first | refine blk_drewN ?_ _ | refine blk_drew ?_ | refine blk_alloc ?_ _)); exact BK115.out) k_ hk, Kd.freshB (g := gb119) (o := .cells #[.int .i64 t116, .int .i64 t117] 59 (0, 0)) (by (with_reducible repeat (first | refine blk_drewN ?_ _ | refine blk_drew ?_ | refine blk_alloc ?_ _)); refine blk_put (cs := #[.int .i64 t116, .int .i64 0]) ?_ 1 _ rfl; (with_reducible repeat (first | refine blk_drewN ?_ _ | refine blk_drew ?_ | refine blk_alloc ?_ _)); refine blk_put (cs := #[.int .i64 0, .int .i64 0]) ?_ 0 _ rfl; (with_reducible repeat (first | refine blk_drewN ?_ _ | refine blk_drew ?_ | refine blk_alloc ?_ _)); exact BK119.out) k_ hk⟩)); (case aO => exact ((Kd.R_nil _ _ _ _ (fun k_ => k_ ≠ gb115 ∧ k_ ≠ gb119)))); (case aS => exact (below_size (by repeat (first | (with_reducible first | exact HB.out | apply below_alloc | apply pw_below_drewN | apply below_drew1 | refine below_set ?_ GE115.out | refine below_set ?_ GE119.out) | exact HB.out)))); (case aL => have := LMc4.out; omega); intro v121 w14 ho hb hg hat; rw [← Ny120.out] at ho; have HO122 := Aside0.mk (ho); replace BK115 := Aside0.mk (blk_grown (g := gb115) (o := .cells #[.int .i64 a0_0, .int .i64 a0_1] 59 (0, 0)) (by (with_reducible repeat (first | refine blk_drewN ?_ _ | refine blk_drew ?_ | refine blk_alloc ?_ _)); refine blk_far ?_ NB115_119.out _; (with_reducible repeat (first | refine blk_drewN ?_ _ | refine blk_drew ?_ | refine blk_alloc ?_ _)); refine blk_far ?_ NB115_119.out _; (with_reducible repeat (first | refine blk_drewN ?_ _ | refine blk_drew ?_ | refine blk_alloc ?_ _)); exact BK115.out) hg (by simp [Value.ownBlock])); replace BK119 := Aside0.mk (blk_grown (g := gb119) (o := .cells #[.int .i64 t116, .int .i64 t117] 59 (0, 0)) (by (with_reducible repeat (first | refine blk_drewN ?_ _ | refine blk_drew ?_ | refine blk_alloc ?_ _)); refine blk_put (cs := #[.int .i64 t116, .int .i64 0]) ?_ 1 _ rfl; (with_reducible repeat (first | refine blk_drewN ?_ _ | refine blk_drew ?_ | refine blk_alloc ?_ _)); refine blk_put (cs := #[.int .i64 0, .int .i64 0]) ?_ 0 _ rfl; (with_reducible repeat (first | refine blk_drewN ?_ _ | refine blk_drew ?_ | refine blk_alloc ?_ _)); exact BK119.out) hg (by simp [Value.ownBlock])); replace HB := Aside0.mk (hb); clear ho hb hg hat; obtain ⟨hcz15_0, hcz15_1, hfz15_0, hfz15_1⟩ := c2 BK115) | ((with_reducible refine gate_callee (f := 43) rfl ?_); refine goesL_ (some 22) rfl rfl Try.func43 (by kernel_rfl) rfl #[.agg #[.int .i64 a0_0, .int .i64 a0_1], .agg #[.int .i64 1, .int .i64 9223372036854775807]] rfl (mapq rfl) ?_; (with_reducible refine (span_Meet.calls a0_0 a0_1 1 9223372036854775807 t123 t124 true _ A5.out).mono ?_); rintro e w16 ⟨rfl, hb⟩; refine ⟨_, rfl, ?_⟩; replace HO122 := Aside0.mk (Kd.R_below (by (with_reducible repeat (first | apply Kd.R_alloc | apply Kd.R_drewN | apply Kd.R_drew)); exact HO122.out) hb); replace BK115 := bb BK115 hb rfl; replace BK119 := bb BK119 hb rfl; replace HB := hst HB hb rfl; (try clear hb)) | ((with_reducible refine gate_dst (N := 6) rfl ?_); refine box_event ?hg (N := 6) ?hd (cs := #[.int .i64 0, .int .i64 0]) (t := 59) ?hr ?_; (case hd => rfl); (case hg => rfl); (case hr => first | (go_simp; done) | (go_simp; rfl)); intro gb126 hg w17 hbox hb; have BK126 := Aside0.mk (hbox); have GW126 := geb hg HB rfl; have GE126 := geb hg HB rfl; have NB115_126 := nbl hg BK115 rfl; have NB126_115 := nbr hg BK115 rfl; have NB119_126 := nbl hg BK119 rfl; have NB126_119 := nbr hg BK119 rfl; replace HO122 := Aside0.mk (Kd.R_below (Kd.R_elderB (by (with_reducible repeat (first | apply Kd.R_alloc | apply Kd.R_drewN | apply Kd.R_drew)); exact HO122.out) gb126 (Nat.le_of_eq hg.symm)) hb); replace BK115 := bb BK115 hb rfl; replace BK119 := bb BK119 hb rfl; replace HB := hst HB hb rfl; clear hb hbox hg; have hnb18 := NB126_115.out; have hnc18 := NB115_126.out; have hnb19 := NB126_119.out; have hnc19 := NB119_126.out; obtain ⟨hcz20_0, hcz20_1, hfz20_0, hfz20_1⟩ := c2 BK126) | ((with_reducible refine gate_builtin (b := .append) (xs := #[.tmp 26, .tmp 28]) rfl ?_); at_builtin; refine Kd.R_append k59 (w0 := w) w.heap.size rfl (.tmp 26) (.tmp 28) 102 59 (.agg #[(.int .i64 0), (.int .i64 0)]) 16 rfl Try.underlying102 info59 rfl (by decide) (by omega) v121 y120 (⟨t123, t124⟩ : S59) [.int .i64 t123, .int .i64 t124] (fun k_ => k_ ≠ gb115 ∧ k_ ≠ gb119 ∧ k_ ≠ gb126) (fun _ => False) rfl (by first | (go_simp; done) | (go_simp; rfl)) ?aP (fun _ hk => hk.elim) ?aF ?aO ?aB ?aS ?aL ?_; (case aP => exact k59_mkM _ _ _ (⟨t123, t124⟩ : S59)); (case aB => exact (by repeat (first | (with_reducible first | exact HB.out | apply below_alloc | apply pw_below_drewN | apply below_drew1 | refine below_set ?_ GE115.out | refine below_set ?_ GE119.out | refine below_set ?_ GE126.out) | exact HB.out))); (case aF => exact (fun k_ hk => ⟨Kd.freshB (g := gb115) (o := .cells #[.int .i64 a0_0, .int .i64 a0_1] 59 (0, 0)) (by (with_reducible repeat (first | refine blk_drewN ?_ _ | refine blk_drew ?_ | refine blk_alloc ?_ _)); refine blk_far ?_ NB115_126.out _; (with_reducible repeat (first | refine blk_drewN ?_ _ | refine blk_drew ?_ | refine blk_alloc ?_ _)); refine blk_far ?_ NB115_126.out _; (with_reducible repeat (first | refine blk_drewN ?_ _ | refine blk_drew ?_ | refine blk_alloc ?_ _)); exact BK115.out) k_ hk, Kd.freshB (g := gb119) (o := .cells #[.int .i64 t116, .int .i64 t117] 59 (0, 0)) (by (with_reducible repeat (first | refine blk_drewN ?_ _ | refine blk_drew ?_ | refine blk_alloc ?_ _)); refine blk_far ?_ NB119_126.out _; (with_reducible repeat (first | refine blk_drewN ?_ _ | refine blk_drew ?_ | refine blk_alloc ?_ _)); refine blk_far ?_ NB119_126.out _; (with_reducible repeat (first | refine blk_drewN ?_ _ | refine blk_drew ?_ | refine blk_alloc ?_ _)); exact BK119.out) k_ hk, Kd.freshB (g := gb126) (o := .cells #[.int .i64 t123, .int .i64 t124] 59 (0, 0)) (by (with_reducible repeat (first | refine blk_drewN ?_ _ | refine blk_drew ?_ | refine blk_alloc ?_ _)); refine blk_put (cs := #[.int .i64 t123, .int .i64 0]) ?_ 1 _ rfl; (with_reducible repeat (first | refine blk_drewN ?_ _ | refine blk_drew ?_ | refine blk_alloc ?_ _)); refine blk_put (cs := #[.int .i64 0, .int .i64 0]) ?_ 0 _ rfl; (with_reducible repeat (first | refine blk_drewN ?_ _ | refine blk_drew ?_ | refine blk_alloc ?_ _)); exact BK126.out) k_ hk⟩)); (case aO => exact (by (with_reducible repeat (first | apply Kd.R_alloc | apply Kd.R_drewN | apply Kd.R_drew)); exact Kd.R_mono (Kd.R_far (p := ⟨gb126, 1, none⟩) (Kd.R_far (p := ⟨gb126, 0, none⟩) (Kd.R_mono HO122.out (fun k_ hk => (⟨hk, hk.2⟩ : _ ∧ k_ ≠ gb126))) (fun _ hk => hk.2) (.int .i64 t123)) (fun _ hk => hk.2) (.int .i64 t124)) (fun _ hk => ⟨hk.1.1.1, ⟨hk.1.1.2, hk.1.2⟩⟩))); (case aS => exact (below_size (by repeat (first | (with_reducible first | exact HB.out | apply below_alloc | apply pw_below_drewN | apply below_drew1 | refine below_set ?_ GE115.out | refine below_set ?_ GE119.out | refine below_set ?_ GE126.out) | exact HB.out)))); (case aL => have := LMc7.out; omega); intro v128 w21 ho hb hg hat; rw [← Ny127.out] at ho; have HO129 := Aside0.mk (ho); replace BK115 := Aside0.mk (blk_grown (g := gb115) (o := .cells #[.int .i64 a0_0, .int .i64 a0_1] 59 (0, 0)) (by (with_reducible repeat (first | refine blk_drewN ?_ _ | refine blk_drew ?_ | refine blk_alloc ?_ _)); refine blk_far ?_ NB115_126.out _; (with_reducible repeat (first | refine blk_drewN ?_ _ | refine blk_drew ?_ | refine blk_alloc ?_ _)); refine blk_far ?_ NB115_126.out _; (with_reducible repeat (first | refine blk_drewN ?_ _ | refine blk_drew ?_ | refine blk_alloc ?_ _)); exact BK115.out) hg (Kd.R_away HO122.out (fun _ hk => hk.1.1))); replace BK119 := Aside0.mk (blk_grown (g := gb119) (o := .cells #[.int .i64 t116, .int .i64 t117] 59 (0, 0)) (by (with_reducible repeat (first | refine blk_drewN ?_ _ | refine blk_drew ?_ | refine blk_alloc ?_ _)); refine blk_far ?_ NB119_126.out _; (with_reducible repeat (first | refine blk_drewN ?_ _ | refine blk_drew ?_ | refine blk_alloc ?_ _)); refine blk_far ?_ NB119_126.out _; (with_reducible repeat (first | refine blk_drewN ?_ _ | refine blk_drew ?_ | refine blk_alloc ?_ _)); exact BK119.out) hg (Kd.R_away HO122.out (fun _ hk => hk.1.2))); replace BK126 := Aside0.mk (blk_grown (g := gb126) (o := .cells #[.int .i64 t123, .int .i64 t124] 59 (0, 0)) (by (with_reducible repeat (first | refine blk_drewN ?_ _ | refine blk_drew ?_ | refine blk_alloc ?_ _)); refine blk_put (cs := #[.int .i64 t123, .int .i64 0]) ?_ 1 _ rfl; (with_reducible repeat (first | refine blk_drewN ?_ _ | refine blk_drew ?_ | refine blk_alloc ?_ _)); refine blk_put (cs := #[.int .i64 0, .int .i64 0]) ?_ 0 _ rfl; (with_reducible repeat (first | refine blk_drewN ?_ _ | refine blk_drew ?_ | refine blk_alloc ?_ _)); exact BK126.out) hg (Kd.R_away HO122.out (fun _ hk => hk.2))); replace HB := Aside0.mk (hb); clear HO122; clear ho hb hg hat))
     go_ret
     exact ⟨_, by first | rfl | (simp [*, errW_none, errW_some] <;> rfl), by (with_reducible repeat (first | apply Kd.R_alloc | apply Kd.R_drewN | apply Kd.R_drew)); exact Kd.R_mono HO129.out (fun _ hk => trivial), by repeat (first | (with_reducible first | exact HB.out | apply below_alloc | apply pw_below_drewN | apply below_drew1 | refine below_set ?_ GE115.out | refine below_set ?_ GE119.out | refine below_set ?_ GE126.out) | exact HB.out)⟩
    ·
     rw [if_neg c7] at H
     exact absurd H (by simp)
   ·
    replace c6 := Bool.eq_false_iff.mpr c6
    subst c6
    rw [if_neg (show ¬ (false = true) by decide)] at H
    obtain rfl := Option.some.inj H
    go_enter Try.func84, Try.ntmps84
    go_wp2_with (first | ((with_reducible refine gate_dst (N := 1) rfl ?_); refine box_event ?hg (N := 1) ?hd (cs := #[.int .i64 a0_0, .int .i64 a0_1]) (t := 59) ?hr ?_; (case hd => rfl); (case hg => rfl); (case hr => first | (go_simp; done) | (go_simp; rfl)); intro gb115 hg w22 hbox hb; have BK115 := Aside0.mk (hbox); have GW115 := geb hg HB rfl; have GE115 := geb hg HB rfl; replace HB := hst HB hb rfl; clear hb hbox hg; obtain ⟨hcz23_0, hcz23_1, hfz23_0, hfz23_1⟩ := c2 BK115) | ((with_reducible refine gate_callee (f := 43) rfl ?_); refine goesL_ (some 11) rfl rfl Try.func43 (by kernel_rfl) rfl #[.agg #[.int .i64 a0_0, .int .i64 a0_1], .agg #[.int .i64 (-9223372036854775808), .int .i64 (-1)]] rfl (mapq rfl) ?_; (with_reducible refine (span_Meet.calls a0_0 a0_1 (-9223372036854775808) (-1) t116 t117 true _ A2.out).mono ?_); rintro e w24 ⟨rfl, hb⟩; refine ⟨_, rfl, ?_⟩; replace BK115 := bb BK115 hb rfl; replace HB := hst HB hb rfl; (try clear hb)) | ((with_reducible refine gate_dst (N := 4) rfl ?_); refine box_event ?hg (N := 4) ?hd (cs := #[.int .i64 0, .int .i64 0]) (t := 59) ?hr ?_; (case hd => rfl); (case hg => rfl); (case hr => first | (go_simp; done) | (go_simp; rfl)); intro gb119 hg w25 hbox hb; have BK119 := Aside0.mk (hbox); have GW119 := geb hg HB rfl; have GE119 := geb hg HB rfl; have NB115_119 := nbl hg BK115 rfl; have NB119_115 := nbr hg BK115 rfl; replace BK115 := bb BK115 hb rfl; replace HB := hst HB hb rfl; clear hb hbox hg; have hnb26 := NB119_115.out; have hnc26 := NB115_119.out; obtain ⟨hcz27_0, hcz27_1, hfz27_0, hfz27_1⟩ := c2 BK119) | ((with_reducible refine gate_builtin (b := .append) (xs := #[.tmp 15, .tmp 17]) rfl ?_); at_builtin; refine Kd.R_append k59 (w0 := w) w.heap.size rfl (.tmp 15) (.tmp 17) 102 59 (.agg #[(.int .i64 0), (.int .i64 0)]) 16 rfl Try.underlying102 info59 rfl (by decide) (by omega) (.slice none 0 0) ([] : List (S59)) (⟨t116, t117⟩ : S59) [.int .i64 t116, .int .i64 t117] (fun k_ => k_ ≠ gb115 ∧ k_ ≠ gb119) (fun _ => False) rfl (by first | (go_simp; done) | (go_simp; rfl)) ?aP (fun _ hk => hk.elim) ?aF ?aO ?aB ?aS ?aL ?_; (case aP => exact k59_mkM _ _ _ (⟨t116, t117⟩ : S59)); (case aB => exact (by repeat (first | (with_reducible first | exact HB.out | apply below_alloc | apply pw_below_drewN | apply below_drew1 | refine below_set ?_ GE115.out | refine below_set ?_ GE119.out) | exact HB.out))); (case aF => exact (fun k_ hk => ⟨Kd.freshB (g := gb115) (o := .cells #[.int .i64 a0_0, .int .i64 a0_1] 59 (0, 0)) (by (with_reducible repeat (first | refine blk_drewN ?_ _ | refine blk_drew ?_ | refine blk_alloc ?_ _)); refine blk_far ?_ NB115_119.out _; (with_reducible repeat (first | refine blk_drewN ?_ _ | refine blk_drew ?_ | refine blk_alloc ?_ _)); refine blk_far ?_ NB115_119.out _; (with_reducible repeat (first | refine blk_drewN ?_ _ | refine blk_drew ?_ | refine blk_alloc ?_ _)); exact BK115.out) k_ hk, Kd.freshB (g := gb119) (o := .cells #[.int .i64 t116, .int .i64 t117] 59 (0, 0)) (by (with_reducible repeat (first | refine blk_drewN ?_ _ | refine blk_drew ?_ | refine blk_alloc ?_ _)); refine blk_put (cs := #[.int .i64 t116, .int .i64 0]) ?_ 1 _ rfl; (with_reducible repeat (first | refine blk_drewN ?_ _ | refine blk_drew ?_ | refine blk_alloc ?_ _)); refine blk_put (cs := #[.int .i64 0, .int .i64 0]) ?_ 0 _ rfl; (with_reducible repeat (first | refine blk_drewN ?_ _ | refine blk_drew ?_ | refine blk_alloc ?_ _)); exact BK119.out) k_ hk⟩)); (case aO => exact ((Kd.R_nil _ _ _ _ (fun k_ => k_ ≠ gb115 ∧ k_ ≠ gb119)))); (case aS => exact (below_size (by repeat (first | (with_reducible first | exact HB.out | apply below_alloc | apply pw_below_drewN | apply below_drew1 | refine below_set ?_ GE115.out | refine below_set ?_ GE119.out) | exact HB.out)))); (case aL => have := LMc4.out; omega); intro v121 w28 ho hb hg hat; rw [← Ny120.out] at ho; have HO122 := Aside0.mk (ho); replace BK115 := Aside0.mk (blk_grown (g := gb115) (o := .cells #[.int .i64 a0_0, .int .i64 a0_1] 59 (0, 0)) (by (with_reducible repeat (first | refine blk_drewN ?_ _ | refine blk_drew ?_ | refine blk_alloc ?_ _)); refine blk_far ?_ NB115_119.out _; (with_reducible repeat (first | refine blk_drewN ?_ _ | refine blk_drew ?_ | refine blk_alloc ?_ _)); refine blk_far ?_ NB115_119.out _; (with_reducible repeat (first | refine blk_drewN ?_ _ | refine blk_drew ?_ | refine blk_alloc ?_ _)); exact BK115.out) hg (by simp [Value.ownBlock])); replace BK119 := Aside0.mk (blk_grown (g := gb119) (o := .cells #[.int .i64 t116, .int .i64 t117] 59 (0, 0)) (by (with_reducible repeat (first | refine blk_drewN ?_ _ | refine blk_drew ?_ | refine blk_alloc ?_ _)); refine blk_put (cs := #[.int .i64 t116, .int .i64 0]) ?_ 1 _ rfl; (with_reducible repeat (first | refine blk_drewN ?_ _ | refine blk_drew ?_ | refine blk_alloc ?_ _)); refine blk_put (cs := #[.int .i64 0, .int .i64 0]) ?_ 0 _ rfl; (with_reducible repeat (first | refine blk_drewN ?_ _ | refine blk_drew ?_ | refine blk_alloc ?_ _)); exact BK119.out) hg (by simp [Value.ownBlock])); replace HB := Aside0.mk (hb); clear ho hb hg hat; obtain ⟨hcz29_0, hcz29_1, hfz29_0, hfz29_1⟩ := c2 BK115) | ((with_reducible refine gate_callee (f := 43) rfl ?_); refine goesL_ (some 22) rfl rfl Try.func43 (by kernel_rfl) rfl #[.agg #[.int .i64 a0_0, .int .i64 a0_1], .agg #[.int .i64 1, .int .i64 9223372036854775807]] rfl (mapq rfl) ?_; (with_reducible refine (span_Meet.calls a0_0 a0_1 1 9223372036854775807 t123 t124 false _ A5.out).mono ?_); rintro e w30 ⟨rfl, hb⟩; refine ⟨_, rfl, ?_⟩; replace HO122 := Aside0.mk (Kd.R_below (by (with_reducible repeat (first | apply Kd.R_alloc | apply Kd.R_drewN | apply Kd.R_drew)); exact HO122.out) hb); replace BK115 := bb BK115 hb rfl; replace BK119 := bb BK119 hb rfl; replace HB := hst HB hb rfl; (try clear hb)) | ((with_reducible refine gate_dst (N := 6) rfl ?_); refine box_event ?hg (N := 6) ?hd (cs := #[.int .i64 0, .int .i64 0]) (t := 59) ?hr ?_; (case hd => rfl); (case hg => rfl); (case hr => first | (go_simp; done) | (go_simp; rfl)); intro gb126 hg w31 hbox hb; have BK126 := Aside0.mk (hbox); have GW126 := geb hg HB rfl; have GE126 := geb hg HB rfl; have NB115_126 := nbl hg BK115 rfl; have NB126_115 := nbr hg BK115 rfl; have NB119_126 := nbl hg BK119 rfl; have NB126_119 := nbr hg BK119 rfl; replace HO122 := Aside0.mk (Kd.R_below (Kd.R_elderB (by (with_reducible repeat (first | apply Kd.R_alloc | apply Kd.R_drewN | apply Kd.R_drew)); exact HO122.out) gb126 (Nat.le_of_eq hg.symm)) hb); replace BK115 := bb BK115 hb rfl; replace BK119 := bb BK119 hb rfl; replace HB := hst HB hb rfl; clear hb hbox hg; have hnb32 := NB126_115.out; have hnc32 := NB115_126.out; have hnb33 := NB126_119.out; have hnc33 := NB119_126.out; obtain ⟨hcz34_0, hcz34_1, hfz34_0, hfz34_1⟩ := c2 BK126))
    go_ret
    exact ⟨_, by first | rfl | (simp [*, errW_none, errW_some] <;> rfl), by (with_reducible repeat (first | apply Kd.R_alloc | apply Kd.R_drewN | apply Kd.R_drew)); exact Kd.R_mono (Kd.R_far (p := ⟨gb126, 1, none⟩) (Kd.R_far (p := ⟨gb126, 0, none⟩) (Kd.R_mono HO122.out (fun k_ hk => (⟨hk, hk.2⟩ : _ ∧ k_ ≠ gb126))) (fun _ hk => hk.2) (.int .i64 t123)) (fun _ hk => hk.2) (.int .i64 t124)) (fun _ hk => trivial), by repeat (first | (with_reducible first | exact HB.out | apply below_alloc | apply pw_below_drewN | apply below_drew1 | refine below_set ?_ GE115.out | refine below_set ?_ GE119.out | refine below_set ?_ GE126.out) | exact HB.out)⟩
  ·
   rw [if_neg c4] at H
   exact absurd H (by simp)
 ·
  replace c3 := Bool.eq_false_iff.mpr c3
  subst c3
  rw [if_neg (show ¬ (false = true) by decide)] at H
  replace H := Option.bind_eq_some_iff.mp H
  obtain ⟨⟨t130, t131, t132⟩, A350, H⟩ := H
  (try dsimp only at H)
  have A35 := Aside0.mk A350
  clear A350
  by_cases c36 : t132 = true
  ·
   subst c36
   rw [if_pos rfl] at H
   by_cases c37 : ([] : List (S59)).length < 8796093022208
   ·
    rw [if_pos c37] at H
    have LMc37 := Aside0.mk c37
    clear c37
    obtain ⟨y134, hy134⟩ : ∃ y_ : List (S59), y_ = (([] : List (S59)) ++ [(⟨t130, t131⟩ : S59)]) := ⟨_, rfl⟩
    replace H : (some y134) = some r := by first | (rw [hy134]; with_reducible exact H) | (have H2_ := (Option.bind_some _ _).symm.trans H; rw [hy134]; with_reducible exact H2_) | (have H2_ := (Option.bind_some _ _).symm.trans H; with_reducible exact H2_) | with_reducible exact H | (rw [hy134]; exact H) | exact H
    have Ny134 := Aside0.mk hy134
    clear hy134
    obtain rfl := Option.some.inj H
    go_enter Try.func84, Try.ntmps84
    go_wp2_with (first | ((with_reducible refine gate_dst (N := 1) rfl ?_); refine box_event ?hg (N := 1) ?hd (cs := #[.int .i64 a0_0, .int .i64 a0_1]) (t := 59) ?hr ?_; (case hd => rfl); (case hg => rfl); (case hr => first | (go_simp; done) | (go_simp; rfl)); intro gb115 hg w38 hbox hb; have BK115 := Aside0.mk (hbox); have GW115 := geb hg HB rfl; have GE115 := geb hg HB rfl; replace HB := hst HB hb rfl; clear hb hbox hg; obtain ⟨hcz39_0, hcz39_1, hfz39_0, hfz39_1⟩ := c2 BK115) | ((with_reducible refine gate_callee (f := 43) rfl ?_); refine goesL_ (some 11) rfl rfl Try.func43 (by kernel_rfl) rfl #[.agg #[.int .i64 a0_0, .int .i64 a0_1], .agg #[.int .i64 (-9223372036854775808), .int .i64 (-1)]] rfl (mapq rfl) ?_; (with_reducible refine (span_Meet.calls a0_0 a0_1 (-9223372036854775808) (-1) t116 t117 false _ A2.out).mono ?_); rintro e w40 ⟨rfl, hb⟩; refine ⟨_, rfl, ?_⟩; replace BK115 := bb BK115 hb rfl; replace HB := hst HB hb rfl; (try clear hb)) | ((with_reducible refine gate_dst (N := 4) rfl ?_); refine box_event ?hg (N := 4) ?hd (cs := #[.int .i64 0, .int .i64 0]) (t := 59) ?hr ?_; (case hd => rfl); (case hg => rfl); (case hr => first | (go_simp; done) | (go_simp; rfl)); intro gb119 hg w41 hbox hb; have BK119 := Aside0.mk (hbox); have GW119 := geb hg HB rfl; have GE119 := geb hg HB rfl; have NB115_119 := nbl hg BK115 rfl; have NB119_115 := nbr hg BK115 rfl; replace BK115 := bb BK115 hb rfl; replace HB := hst HB hb rfl; clear hb hbox hg; have hnb42 := NB119_115.out; have hnc42 := NB115_119.out; obtain ⟨hcz43_0, hcz43_1, hfz43_0, hfz43_1⟩ := c2 BK119; obtain ⟨hcz44_0, hcz44_1, hfz44_0, hfz44_1⟩ := c2 BK115) | ((with_reducible refine gate_callee (f := 43) rfl ?_); refine goesL_ (some 22) rfl rfl Try.func43 (by kernel_rfl) rfl #[.agg #[.int .i64 a0_0, .int .i64 a0_1], .agg #[.int .i64 1, .int .i64 9223372036854775807]] rfl (mapq rfl) ?_; (with_reducible refine (span_Meet.calls a0_0 a0_1 1 9223372036854775807 t130 t131 true _ A35.out).mono ?_); rintro e w45 ⟨rfl, hb⟩; refine ⟨_, rfl, ?_⟩; replace BK115 := Aside0.mk (blk_below (g := gb115) (o := .cells #[.int .i64 a0_0, .int .i64 a0_1] 59 (0, 0)) (by (with_reducible repeat (first | refine blk_drewN ?_ _ | refine blk_drew ?_ | refine blk_alloc ?_ _)); refine blk_far ?_ NB115_119.out _; (with_reducible repeat (first | refine blk_drewN ?_ _ | refine blk_drew ?_ | refine blk_alloc ?_ _)); refine blk_far ?_ NB115_119.out _; (with_reducible repeat (first | refine blk_drewN ?_ _ | refine blk_drew ?_ | refine blk_alloc ?_ _)); exact BK115.out) hb); replace BK119 := Aside0.mk (blk_below (g := gb119) (o := .cells #[.int .i64 t116, .int .i64 t117] 59 (0, 0)) (by (with_reducible repeat (first | refine blk_drewN ?_ _ | refine blk_drew ?_ | refine blk_alloc ?_ _)); refine blk_put (cs := #[.int .i64 t116, .int .i64 0]) ?_ 1 _ rfl; (with_reducible repeat (first | refine blk_drewN ?_ _ | refine blk_drew ?_ | refine blk_alloc ?_ _)); refine blk_put (cs := #[.int .i64 0, .int .i64 0]) ?_ 0 _ rfl; (with_reducible repeat (first | refine blk_drewN ?_ _ | refine blk_drew ?_ | refine blk_alloc ?_ _)); exact BK119.out) hb); replace HB := Aside0.mk (below_step (by repeat (first | (with_reducible first | exact HB.out | apply below_alloc | apply pw_below_drewN | apply below_drew1 | refine below_set ?_ GE115.out | refine below_set ?_ GE119.out) | exact HB.out)) hb); (try clear hb)) | ((with_reducible refine gate_dst (N := 6) rfl ?_); refine box_event ?hg (N := 6) ?hd (cs := #[.int .i64 0, .int .i64 0]) (t := 59) ?hr ?_; (case hd => rfl); (case hg => rfl); (case hr => first | (go_simp; done) | (go_simp; rfl)); intro gb133 hg w46 hbox hb; have BK133 := Aside0.mk (hbox); have GW133 := geb hg HB rfl; have GE133 := geb hg HB rfl; have NB115_133 := nbl hg BK115 rfl; have NB133_115 := nbr hg BK115 rfl; have NB119_133 := nbl hg BK119 rfl; have NB133_119 := nbr hg BK119 rfl; replace BK115 := bb BK115 hb rfl; replace BK119 := bb BK119 hb rfl; replace HB := hst HB hb rfl; clear hb hbox hg; have hnb47 := NB133_115.out; have hnc47 := NB115_133.out; have hnb48 := NB133_119.out; have hnc48 := NB119_133.out; obtain ⟨hcz49_0, hcz49_1, hfz49_0, hfz49_1⟩ := c2 BK133) | ((with_reducible refine gate_builtin (b := .append) (xs := #[.tmp 26, .tmp 28]) rfl ?_); at_builtin; refine Kd.R_append k59 (w0 := w) w.heap.size rfl (.tmp 26) (.tmp 28) 102 59 (.agg #[(.int .i64 0), (.int .i64 0)]) 16 rfl Try.underlying102 info59 rfl (by decide) (by omega) (.slice none 0 0) ([] : List (S59)) (⟨t130, t131⟩ : S59) [.int .i64 t130, .int .i64 t131] (fun k_ => k_ ≠ gb115 ∧ k_ ≠ gb119 ∧ k_ ≠ gb133) (fun _ => False) rfl (by first | (go_simp; done) | (go_simp; rfl)) ?aP (fun _ hk => hk.elim) ?aF ?aO ?aB ?aS ?aL ?_; (case aP => exact k59_mkM _ _ _ (⟨t130, t131⟩ : S59)); (case aB => exact (by repeat (first | (with_reducible first | exact HB.out | apply below_alloc | apply pw_below_drewN | apply below_drew1 | refine below_set ?_ GE115.out | refine below_set ?_ GE119.out | refine below_set ?_ GE133.out) | exact HB.out))); (case aF => exact (fun k_ hk => ⟨Kd.freshB (g := gb115) (o := .cells #[.int .i64 a0_0, .int .i64 a0_1] 59 (0, 0)) (by (with_reducible repeat (first | refine blk_drewN ?_ _ | refine blk_drew ?_ | refine blk_alloc ?_ _)); refine blk_far ?_ NB115_133.out _; (with_reducible repeat (first | refine blk_drewN ?_ _ | refine blk_drew ?_ | refine blk_alloc ?_ _)); refine blk_far ?_ NB115_133.out _; (with_reducible repeat (first | refine blk_drewN ?_ _ | refine blk_drew ?_ | refine blk_alloc ?_ _)); exact BK115.out) k_ hk, Kd.freshB (g := gb119) (o := .cells #[.int .i64 t116, .int .i64 t117] 59 (0, 0)) (by (with_reducible repeat (first | refine blk_drewN ?_ _ | refine blk_drew ?_ | refine blk_alloc ?_ _)); refine blk_far ?_ NB119_133.out _; (with_reducible repeat (first | refine blk_drewN ?_ _ | refine blk_drew ?_ | refine blk_alloc ?_ _)); refine blk_far ?_ NB119_133.out _; (with_reducible repeat (first | refine blk_drewN ?_ _ | refine blk_drew ?_ | refine blk_alloc ?_ _)); exact BK119.out) k_ hk, Kd.freshB (g := gb133) (o := .cells #[.int .i64 t130, .int .i64 t131] 59 (0, 0)) (by (with_reducible repeat (first | refine blk_drewN ?_ _ | refine blk_drew ?_ | refine blk_alloc ?_ _)); refine blk_put (cs := #[.int .i64 t130, .int .i64 0]) ?_ 1 _ rfl; (with_reducible repeat (first | refine blk_drewN ?_ _ | refine blk_drew ?_ | refine blk_alloc ?_ _)); refine blk_put (cs := #[.int .i64 0, .int .i64 0]) ?_ 0 _ rfl; (with_reducible repeat (first | refine blk_drewN ?_ _ | refine blk_drew ?_ | refine blk_alloc ?_ _)); exact BK133.out) k_ hk⟩)); (case aO => exact ((Kd.R_nil _ _ _ _ (fun k_ => k_ ≠ gb115 ∧ k_ ≠ gb119 ∧ k_ ≠ gb133)))); (case aS => exact (below_size (by repeat (first | (with_reducible first | exact HB.out | apply below_alloc | apply pw_below_drewN | apply below_drew1 | refine below_set ?_ GE115.out | refine below_set ?_ GE119.out | refine below_set ?_ GE133.out) | exact HB.out)))); (case aL => have := LMc37.out; omega); intro v135 w50 ho hb hg hat; rw [← Ny134.out] at ho; have HO136 := Aside0.mk (ho); replace BK115 := Aside0.mk (blk_grown (g := gb115) (o := .cells #[.int .i64 a0_0, .int .i64 a0_1] 59 (0, 0)) (by (with_reducible repeat (first | refine blk_drewN ?_ _ | refine blk_drew ?_ | refine blk_alloc ?_ _)); refine blk_far ?_ NB115_133.out _; (with_reducible repeat (first | refine blk_drewN ?_ _ | refine blk_drew ?_ | refine blk_alloc ?_ _)); refine blk_far ?_ NB115_133.out _; (with_reducible repeat (first | refine blk_drewN ?_ _ | refine blk_drew ?_ | refine blk_alloc ?_ _)); exact BK115.out) hg (by simp [Value.ownBlock])); replace BK119 := Aside0.mk (blk_grown (g := gb119) (o := .cells #[.int .i64 t116, .int .i64 t117] 59 (0, 0)) (by (with_reducible repeat (first | refine blk_drewN ?_ _ | refine blk_drew ?_ | refine blk_alloc ?_ _)); refine blk_far ?_ NB119_133.out _; (with_reducible repeat (first | refine blk_drewN ?_ _ | refine blk_drew ?_ | refine blk_alloc ?_ _)); refine blk_far ?_ NB119_133.out _; (with_reducible repeat (first | refine blk_drewN ?_ _ | refine blk_drew ?_ | refine blk_alloc ?_ _)); exact BK119.out) hg (by simp [Value.ownBlock])); replace BK133 := Aside0.mk (blk_grown (g := gb133) (o := .cells #[.int .i64 t130, .int .i64 t131] 59 (0, 0)) (by (with_reducible repeat (first | refine blk_drewN ?_ _ | refine blk_drew ?_ | refine blk_alloc ?_ _)); refine blk_put (cs := #[.int .i64 t130, .int .i64 0]) ?_ 1 _ rfl; (with_reducible repeat (first | refine blk_drewN ?_ _ | refine blk_drew ?_ | refine blk_alloc ?_ _)); refine blk_put (cs := #[.int .i64 0, .int .i64 0]) ?_ 0 _ rfl; (with_reducible repeat (first | refine blk_drewN ?_ _ | refine blk_drew ?_ | refine blk_alloc ?_ _)); exact BK133.out) hg (by simp [Value.ownBlock])); replace HB := Aside0.mk (hb); clear ho hb hg hat))
    go_ret
    exact ⟨_, by first | rfl | (simp [*, errW_none, errW_some] <;> rfl), by (with_reducible repeat (first | apply Kd.R_alloc | apply Kd.R_drewN | apply Kd.R_drew)); exact Kd.R_mono HO136.out (fun _ hk => trivial), by repeat (first | (with_reducible first | exact HB.out | apply below_alloc | apply pw_below_drewN | apply below_drew1 | refine below_set ?_ GE115.out | refine below_set ?_ GE119.out | refine below_set ?_ GE133.out) | exact HB.out)⟩
   ·
    rw [if_neg c37] at H
    exact absurd H (by simp)
  ·
   replace c36 := Bool.eq_false_iff.mpr c36
   subst c36
   rw [if_neg (show ¬ (false = true) by decide)] at H
   obtain rfl := Option.some.inj H
   go_enter Try.func84, Try.ntmps84
   go_wp2_with (first | ((with_reducible refine gate_dst (N := 1) rfl ?_); refine box_event ?hg (N := 1) ?hd (cs := #[.int .i64 a0_0, .int .i64 a0_1]) (t := 59) ?hr ?_; (case hd => rfl); (case hg => rfl); (case hr => first | (go_simp; done) | (go_simp; rfl)); intro gb115 hg w51 hbox hb; have BK115 := Aside0.mk (hbox); have GW115 := geb hg HB rfl; have GE115 := geb hg HB rfl; replace HB := hst HB hb rfl; clear hb hbox hg; obtain ⟨hcz52_0, hcz52_1, hfz52_0, hfz52_1⟩ := c2 BK115) | ((with_reducible refine gate_callee (f := 43) rfl ?_); refine goesL_ (some 11) rfl rfl Try.func43 (by kernel_rfl) rfl #[.agg #[.int .i64 a0_0, .int .i64 a0_1], .agg #[.int .i64 (-9223372036854775808), .int .i64 (-1)]] rfl (mapq rfl) ?_; (with_reducible refine (span_Meet.calls a0_0 a0_1 (-9223372036854775808) (-1) t116 t117 false _ A2.out).mono ?_); rintro e w53 ⟨rfl, hb⟩; refine ⟨_, rfl, ?_⟩; replace BK115 := bb BK115 hb rfl; replace HB := hst HB hb rfl; (try clear hb)) | ((with_reducible refine gate_dst (N := 4) rfl ?_); refine box_event ?hg (N := 4) ?hd (cs := #[.int .i64 0, .int .i64 0]) (t := 59) ?hr ?_; (case hd => rfl); (case hg => rfl); (case hr => first | (go_simp; done) | (go_simp; rfl)); intro gb119 hg w54 hbox hb; have BK119 := Aside0.mk (hbox); have GW119 := geb hg HB rfl; have GE119 := geb hg HB rfl; have NB115_119 := nbl hg BK115 rfl; have NB119_115 := nbr hg BK115 rfl; replace BK115 := bb BK115 hb rfl; replace HB := hst HB hb rfl; clear hb hbox hg; have hnb55 := NB119_115.out; have hnc55 := NB115_119.out; obtain ⟨hcz56_0, hcz56_1, hfz56_0, hfz56_1⟩ := c2 BK119; obtain ⟨hcz57_0, hcz57_1, hfz57_0, hfz57_1⟩ := c2 BK115) | ((with_reducible refine gate_callee (f := 43) rfl ?_); refine goesL_ (some 22) rfl rfl Try.func43 (by kernel_rfl) rfl #[.agg #[.int .i64 a0_0, .int .i64 a0_1], .agg #[.int .i64 1, .int .i64 9223372036854775807]] rfl (mapq rfl) ?_; (with_reducible refine (span_Meet.calls a0_0 a0_1 1 9223372036854775807 t130 t131 false _ A35.out).mono ?_); rintro e w58 ⟨rfl, hb⟩; refine ⟨_, rfl, ?_⟩; replace BK115 := Aside0.mk (blk_below (g := gb115) (o := .cells #[.int .i64 a0_0, .int .i64 a0_1] 59 (0, 0)) (by (with_reducible repeat (first | refine blk_drewN ?_ _ | refine blk_drew ?_ | refine blk_alloc ?_ _)); refine blk_far ?_ NB115_119.out _; (with_reducible repeat (first | refine blk_drewN ?_ _ | refine blk_drew ?_ | refine blk_alloc ?_ _)); refine blk_far ?_ NB115_119.out _; (with_reducible repeat (first | refine blk_drewN ?_ _ | refine blk_drew ?_ | refine blk_alloc ?_ _)); exact BK115.out) hb); replace BK119 := Aside0.mk (blk_below (g := gb119) (o := .cells #[.int .i64 t116, .int .i64 t117] 59 (0, 0)) (by (with_reducible repeat (first | refine blk_drewN ?_ _ | refine blk_drew ?_ | refine blk_alloc ?_ _)); refine blk_put (cs := #[.int .i64 t116, .int .i64 0]) ?_ 1 _ rfl; (with_reducible repeat (first | refine blk_drewN ?_ _ | refine blk_drew ?_ | refine blk_alloc ?_ _)); refine blk_put (cs := #[.int .i64 0, .int .i64 0]) ?_ 0 _ rfl; (with_reducible repeat (first | refine blk_drewN ?_ _ | refine blk_drew ?_ | refine blk_alloc ?_ _)); exact BK119.out) hb); replace HB := Aside0.mk (below_step (by repeat (first | (with_reducible first | exact HB.out | apply below_alloc | apply pw_below_drewN | apply below_drew1 | refine below_set ?_ GE115.out | refine below_set ?_ GE119.out) | exact HB.out)) hb); (try clear hb)) | ((with_reducible refine gate_dst (N := 6) rfl ?_); refine box_event ?hg (N := 6) ?hd (cs := #[.int .i64 0, .int .i64 0]) (t := 59) ?hr ?_; (case hd => rfl); (case hg => rfl); (case hr => first | (go_simp; done) | (go_simp; rfl)); intro gb133 hg w59 hbox hb; have BK133 := Aside0.mk (hbox); have GW133 := geb hg HB rfl; have GE133 := geb hg HB rfl; have NB115_133 := nbl hg BK115 rfl; have NB133_115 := nbr hg BK115 rfl; have NB119_133 := nbl hg BK119 rfl; have NB133_119 := nbr hg BK119 rfl; replace BK115 := bb BK115 hb rfl; replace BK119 := bb BK119 hb rfl; replace HB := hst HB hb rfl; clear hb hbox hg; have hnb60 := NB133_115.out; have hnc60 := NB115_133.out; have hnb61 := NB133_119.out; have hnc61 := NB119_133.out; obtain ⟨hcz62_0, hcz62_1, hfz62_0, hfz62_1⟩ := c2 BK133))
   go_ret
   exact ⟨_, by first | rfl | (simp [*, errW_none, errW_some] <;> rfl), by first | exact Kd.R_nil _ _ _ _ _ | exact Kd.N_nil _ _ _ _ _ | exact Kd.V_nil _ _ _ _ _ | exact Kd.Q_nil _ _ _ _ _ | exact Kd.S_nil _ _ _ _ _, by repeat (first | (with_reducible first | exact HB.out | apply below_alloc | apply pw_below_drewN | apply below_drew1 | refine below_set ?_ GE115.out | refine below_set ?_ GE119.out | refine below_set ?_ GE133.out) | exact HB.out)⟩

end Go.Proofs.Ytpacmhhaabhdjaa.SM
