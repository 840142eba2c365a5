-- Written by a program of this session: plain functions and their walks. Lean checks it.
import Derived.Test.YtpacmhhaabhdjaaKN0
import Derived.Test.YtpacmhhaabhdjaaKN3
namespace Go.Proofs.Ytpacmhhaabhdjaa.KN
open Go.RowKit Go.Proofs.YtpacmhhaabhdjaaW.PrintWords Go.Proofs.YtpacmhhaabhdjaaW.PrintLast Go.Proofs.YtpacmhhaabhdjaaW.PrintMore
attribute [local go_sem] max2_int min2_int max_two min_two max_three min_three max_four min_four   -- for this text's walks alone
set_option linter.unusedVariables false
set_option linter.unusedSimpArgs false

/-! ### known_One: function 28 -/
def known_One.f (a0 : Int) (a1_0 : Bool) (a1_1 : Int) : Option (Bool × Int × Bool) := if a0 = 3 then (if a1_0 = true then ((known_Known_tidy.f a1_0 (wrap64 (-a1_1))).bind fun bt300 => (some (bt300.1, bt300.2, true))) else ((known_Known_tidy.f a1_0 a1_1).bind fun bt302 => (some (bt302.1, bt302.2, true)))) else (if a0 = 2 then ((known_Known_tidy.f a1_0 a1_1).bind fun bt296 => (some (bt296.1, bt296.2, true))) else ((known_Any.f).bind fun bt298 => (some (bt298.1, bt298.2, false))))
set_option maxHeartbeats 8000000 in
set_option maxRecDepth 100000 in
theorem known_One.calls (a0 : Int) (a1_0 : Bool) (a1_1 : Int) (r1 : Bool) (r2 : Int) (r3 : Bool) (w : World) (h : known_One.f a0 a1_0 a1_1 = some (r1, r2, r3)) :
  Calls Try.prog 28 #[.int .i64 a0, .agg #[.bool a1_0, .int .i64 a1_1]] w fun e w' => e = .returned (.tuple #[.agg #[.bool r1, .int .i64 r2], .bool r3]) ∧ Below w.heap.size w w' := by
 have hu24 := Try.underlying24
 have HB := Aside0.mk (Below.refl w.heap.size w)
 have H : (if a0 = 3 then (if a1_0 = true then ((known_Known_tidy.f a1_0 (wrap64 (-a1_1))).bind fun bt300 => (some (bt300.1, bt300.2, true))) else ((known_Known_tidy.f a1_0 a1_1).bind fun bt302 => (some (bt302.1, bt302.2, true)))) else (if a0 = 2 then ((known_Known_tidy.f a1_0 a1_1).bind fun bt296 => (some (bt296.1, bt296.2, true))) else ((known_Any.f).bind fun bt298 => (some (bt298.1, bt298.2, false))))) = some (r1, r2, r3) := h
 clear h
 by_cases c3 : a0 = 3
 ·
  rw [if_pos c3] at H
  have c3b0 : (a0 == 3) = true := beq_iff_eq.mpr c3
  have c3b1 : (a0 != 3) = false := bne_eq_false_iff_eq.mpr c3
  clear c3
  by_cases c4 : a1_0 = true
  ·
   subst c4
   rw [if_pos rfl] at H
   replace H := Option.bind_eq_some_iff.mp H
   obtain ⟨⟨t300, t301⟩, A50, H⟩ := H
   (try dsimp only at H)
   have A5 := Aside0.mk A50
   clear A50
   simp only [Option.some.injEq, Prod.mk.injEq] at H
   obtain ⟨rfl, rfl, rfl⟩ := H
   go_enter Try.func28, Try.ntmps28
   go_wp2_with (first | ((with_reducible refine gate_dst (N := 3) rfl ?_); refine box_event ?hg (N := 3) ?hd (cs := #[.bool true, .int .i64 a1_1]) (t := 24) ?hr ?_; (case hd => rfl); (case hg => rfl); (case hr => first | (go_simp; done) | (go_simp; rfl)); intro gb294 hg w6 hbox hb; have BK294 := Aside0.mk (hbox); have GW294 := geb hg HB rfl; have GE294 := geb hg HB rfl; replace HB := hst HB hb rfl; clear hb hbox hg) | ((with_reducible refine gate_dst (N := 4) rfl ?_); refine box_event ?hg (N := 4) ?hd (cs := #[.bool false, .int .i64 0]) (t := 24) ?hr ?_; (case hd => rfl); (case hg => rfl); (case hr => first | (go_simp; done) | (go_simp; rfl)); intro gb295 hg w7 hbox hb; have BK295 := Aside0.mk (hbox); have GW295 := geb hg HB rfl; have GE295 := geb hg HB rfl; have NB294_295 := nbl hg BK294 rfl; have NB295_294 := nbr hg BK294 rfl; replace BK294 := bb BK294 hb rfl; replace HB := hst HB hb rfl; clear hb hbox hg; have hnb8 := NB294_295.out; have hnc8 := NB295_294.out; have hcz9_0 : w7.cell? ⟨gb294, 0, none⟩ = some (.bool true) := (blk_cell BK294.out 0).trans rfl; have hcz9_1 : w7.cell? ⟨gb294, 1, none⟩ = some (.int .i64 a1_1) := (blk_cell BK294.out 1).trans rfl; have hfz9_0 := blk_frozen BK294.out 0; have hfz9_1 := blk_frozen BK294.out 1) | ((with_reducible refine gate_callee (f := 60) rfl ?_); refine goesL_ (some 18) rfl rfl Try.func60 (by kernel_rfl) rfl #[.agg #[.bool true, .int .i64 (wrap64 (-a1_1))]] rfl (mapq rfl) ?_; (with_reducible refine (known_Known_tidy.calls true (wrap64 (-a1_1)) t300 t301 _ A5.out).mono ?_); rintro e w10 ⟨rfl, hb⟩; refine ⟨_, rfl, ?_⟩; replace BK294 := Aside0.mk (blk_below (g := gb294) (o := .cells #[.bool true, .int .i64 (wrap64 (-a1_1))] 24 (0, 0)) (by (with_reducible repeat (first | refine blk_drewN ?_ _ | refine blk_drew ?_ | refine blk_alloc ?_ _)); refine blk_put (cs := #[.bool true, .int .i64 a1_1]) ?_ 1 _ rfl; (with_reducible repeat (first | refine blk_drewN ?_ _ | refine blk_drew ?_ | refine blk_alloc ?_ _)); exact BK294.out) hb); replace BK295 := Aside0.mk (blk_below (g := gb295) (o := .cells #[.bool false, .int .i64 0] 24 (0, 0)) (by (with_reducible repeat (first | refine blk_drewN ?_ _ | refine blk_drew ?_ | refine blk_alloc ?_ _)); refine blk_far ?_ NB295_294.out _; (with_reducible repeat (first | refine blk_drewN ?_ _ | refine blk_drew ?_ | refine blk_alloc ?_ _)); exact BK295.out) hb); replace HB := Aside0.mk (below_step (by repeat (first | (with_reducible first | exact HB.out | apply below_alloc | apply pw_below_drewN | apply below_drew1 | refine below_set ?_ GE294.out | refine below_set ?_ GE295.out) | exact HB.out)) hb); (try clear hb); have hcz11_0 : w10.cell? ⟨gb295, 0, none⟩ = some (.bool false) := (blk_cell BK295.out 0).trans rfl; have hcz11_1 : w10.cell? ⟨gb295, 1, none⟩ = some (.int .i64 0) := (blk_cell BK295.out 1).trans rfl; have hfz11_0 := blk_frozen BK295.out 0; have hfz11_1 := blk_frozen BK295.out 1))
   refine bodyPost_ret (results_ct rfl _ _ gb295 24 #[.bool t300, .int .i64 t301] (0, 0) _ rfl (by (with_reducible repeat (first | refine blk_drewN ?_ _ | refine blk_drew ?_ | refine blk_alloc ?_ _)); refine blk_put (cs := #[.bool t300, .int .i64 0]) ?_ 1 _ rfl; (with_reducible repeat (first | refine blk_drewN ?_ _ | refine blk_drew ?_ | refine blk_alloc ?_ _)); refine blk_put (cs := #[.bool false, .int .i64 0]) ?_ 0 _ rfl; (with_reducible repeat (first | refine blk_drewN ?_ _ | refine blk_drew ?_ | refine blk_alloc ?_ _)); exact BK295.out) Try.underlying24 rfl (by kernel_rfl)) rfl ?_
   exact ⟨by first | rfl | (simp [errW_none, errW_some] <;> rfl) | (simp [*, errW_none, errW_some] <;> rfl), by repeat (first | (with_reducible first | exact HB.out | apply below_alloc | apply pw_below_drewN | apply below_drew1 | refine below_set ?_ GE294.out | refine below_set ?_ GE295.out) | exact HB.out)⟩
  ·
   replace c4 := Bool.eq_false_iff.mpr c4
   subst c4
   rw [if_neg (show ¬ (false = true) by decide)] at H
   replace H := Option.bind_eq_some_iff.mp H
   obtain ⟨⟨t302, t303⟩, A120, H⟩ := H
   (try dsimp only at H)
   have A12 := Aside0.mk A120
   clear A120
   simp only [Option.some.injEq, Prod.mk.injEq] at H
   obtain ⟨rfl, rfl, rfl⟩ := H
   go_enter Try.func28, Try.ntmps28
   go_wp2_with (first | ((with_reducible refine gate_dst (N := 3) rfl ?_); refine box_event ?hg (N := 3) ?hd (cs := #[.bool false, .int .i64 a1_1]) (t := 24) ?hr ?_; (case hd => rfl); (case hg => rfl); (case hr => first | (go_simp; done) | (go_simp; rfl)); intro gb294 hg w13 hbox hb; have BK294 := Aside0.mk (hbox); have GW294 := geb hg HB rfl; have GE294 := geb hg HB rfl; replace HB := hst HB hb rfl; clear hb hbox hg) | ((with_reducible refine gate_dst (N := 4) rfl ?_); refine box_event ?hg (N := 4) ?hd (cs := #[.bool false, .int .i64 0]) (t := 24) ?hr ?_; (case hd => rfl); (case hg => rfl); (case hr => first | (go_simp; done) | (go_simp; rfl)); intro gb295 hg w14 hbox hb; have BK295 := Aside0.mk (hbox); have GW295 := geb hg HB rfl; have GE295 := geb hg HB rfl; have NB294_295 := nbl hg BK294 rfl; have NB295_294 := nbr hg BK294 rfl; replace BK294 := bb BK294 hb rfl; replace HB := hst HB hb rfl; clear hb hbox hg; have hnb15 := NB294_295.out; have hnc15 := NB295_294.out; have hcz16_0 : w14.cell? ⟨gb294, 0, none⟩ = some (.bool false) := (blk_cell BK294.out 0).trans rfl; have hcz16_1 : w14.cell? ⟨gb294, 1, none⟩ = some (.int .i64 a1_1) := (blk_cell BK294.out 1).trans rfl; have hfz16_0 := blk_frozen BK294.out 0; have hfz16_1 := blk_frozen BK294.out 1) | ((with_reducible refine gate_callee (f := 60) rfl ?_); refine goesL_ (some 18) rfl rfl Try.func60 (by kernel_rfl) rfl #[.agg #[.bool false, .int .i64 a1_1]] rfl (mapq rfl) ?_; (with_reducible refine (known_Known_tidy.calls false a1_1 t302 t303 _ A12.out).mono ?_); rintro e w17 ⟨rfl, hb⟩; refine ⟨_, rfl, ?_⟩; replace BK294 := bb BK294 hb rfl; replace BK295 := bb BK295 hb rfl; replace HB := hst HB hb rfl; (try clear hb); have hcz18_0 : w17.cell? ⟨gb295, 0, none⟩ = some (.bool false) := (blk_cell BK295.out 0).trans rfl; have hcz18_1 : w17.cell? ⟨gb295, 1, none⟩ = some (.int .i64 0) := (blk_cell BK295.out 1).trans rfl; have hfz18_0 := blk_frozen BK295.out 0; have hfz18_1 := blk_frozen BK295.out 1))
   refine bodyPost_ret (results_ct rfl _ _ gb295 24 #[.bool t302, .int .i64 t303] (0, 0) _ rfl (by (with_reducible repeat (first | refine blk_drewN ?_ _ | refine blk_drew ?_ | refine blk_alloc ?_ _)); refine blk_put (cs := #[.bool t302, .int .i64 0]) ?_ 1 _ rfl; (with_reducible repeat (first | refine blk_drewN ?_ _ | refine blk_drew ?_ | refine blk_alloc ?_ _)); refine blk_put (cs := #[.bool false, .int .i64 0]) ?_ 0 _ rfl; (with_reducible repeat (first | refine blk_drewN ?_ _ | refine blk_drew ?_ | refine blk_alloc ?_ _)); exact BK295.out) Try.underlying24 rfl (by kernel_rfl)) rfl ?_
   exact ⟨by first | rfl | (simp [errW_none, errW_some] <;> rfl) | (simp [*, errW_none, errW_some] <;> rfl), by repeat (first | (with_reducible first | exact HB.out | apply below_alloc | apply pw_below_drewN | apply below_drew1 | refine below_set ?_ GE294.out | refine below_set ?_ GE295.out) | exact HB.out)⟩
 ·
  rw [if_neg c3] at H
  have c3b0 : (a0 == 3) = false := beq_eq_false_iff_ne.mpr c3
  have c3b1 : (a0 != 3) = true := bne_iff_ne.mpr c3
  by_cases c19 : a0 = 2
  ·
   rw [if_pos c19] at H
   have c19b0 : (a0 == 2) = true := beq_iff_eq.mpr c19
   have c19b1 : (a0 != 2) = false := bne_eq_false_iff_eq.mpr c19
   clear c19
   replace H := Option.bind_eq_some_iff.mp H
   obtain ⟨⟨t296, t297⟩, A200, H⟩ := H
   (try dsimp only at H)
   have A20 := Aside0.mk A200
   clear A200
   simp only [Option.some.injEq, Prod.mk.injEq] at H
   obtain ⟨rfl, rfl, rfl⟩ := H
   go_enter Try.func28, Try.ntmps28
   go_wp2_with (first | ((with_reducible refine gate_dst (N := 3) rfl ?_); refine box_event ?hg (N := 3) ?hd (cs := #[.bool a1_0, .int .i64 a1_1]) (t := 24) ?hr ?_; (case hd => rfl); (case hg => rfl); (case hr => first | (go_simp; done) | (go_simp; rfl)); intro gb294 hg w21 hbox hb; have BK294 := Aside0.mk (hbox); have GW294 := geb hg HB rfl; have GE294 := geb hg HB rfl; replace HB := hst HB hb rfl; clear hb hbox hg) | ((with_reducible refine gate_dst (N := 4) rfl ?_); refine box_event ?hg (N := 4) ?hd (cs := #[.bool false, .int .i64 0]) (t := 24) ?hr ?_; (case hd => rfl); (case hg => rfl); (case hr => first | (go_simp; done) | (go_simp; rfl)); intro gb295 hg w22 hbox hb; have BK295 := Aside0.mk (hbox); have GW295 := geb hg HB rfl; have GE295 := geb hg HB rfl; have NB294_295 := nbl hg BK294 rfl; have NB295_294 := nbr hg BK294 rfl; replace BK294 := bb BK294 hb rfl; replace HB := hst HB hb rfl; clear hb hbox hg; have hnb23 := NB294_295.out; have hnc23 := NB295_294.out; have hcz24_0 : w22.cell? ⟨gb294, 0, none⟩ = some (.bool a1_0) := (blk_cell BK294.out 0).trans rfl; have hcz24_1 : w22.cell? ⟨gb294, 1, none⟩ = some (.int .i64 a1_1) := (blk_cell BK294.out 1).trans rfl; have hfz24_0 := blk_frozen BK294.out 0; have hfz24_1 := blk_frozen BK294.out 1) | ((with_reducible refine gate_callee (f := 60) rfl ?_); refine goesL_ (some 18) rfl rfl Try.func60 (by kernel_rfl) rfl #[.agg #[.bool a1_0, .int .i64 a1_1]] rfl (mapq rfl) ?_; (with_reducible refine (known_Known_tidy.calls a1_0 a1_1 t296 t297 _ A20.out).mono ?_); rintro e w25 ⟨rfl, hb⟩; refine ⟨_, rfl, ?_⟩; replace BK294 := bb BK294 hb rfl; replace BK295 := bb BK295 hb rfl; replace HB := hst HB hb rfl; (try clear hb); have hcz26_0 : w25.cell? ⟨gb295, 0, none⟩ = some (.bool false) := (blk_cell BK295.out 0).trans rfl; have hcz26_1 : w25.cell? ⟨gb295, 1, none⟩ = some (.int .i64 0) := (blk_cell BK295.out 1).trans rfl; have hfz26_0 := blk_frozen BK295.out 0; have hfz26_1 := blk_frozen BK295.out 1))
   refine bodyPost_ret (results_ct rfl _ _ gb295 24 #[.bool t296, .int .i64 t297] (0, 0) _ rfl (by (with_reducible repeat (first | refine blk_drewN ?_ _ | refine blk_drew ?_ | refine blk_alloc ?_ _)); refine blk_put (cs := #[.bool t296, .int .i64 0]) ?_ 1 _ rfl; (with_reducible repeat (first | refine blk_drewN ?_ _ | refine blk_drew ?_ | refine blk_alloc ?_ _)); refine blk_put (cs := #[.bool false, .int .i64 0]) ?_ 0 _ rfl; (with_reducible repeat (first | refine blk_drewN ?_ _ | refine blk_drew ?_ | refine blk_alloc ?_ _)); exact BK295.out) Try.underlying24 rfl (by kernel_rfl)) rfl ?_
   exact ⟨by first | rfl | (simp [errW_none, errW_some] <;> rfl) | (simp [*, errW_none, errW_some] <;> rfl), by repeat (first | (with_reducible first | exact HB.out | apply below_alloc | apply pw_below_drewN | apply below_drew1 | refine below_set ?_ GE294.out | refine below_set ?_ GE295.out) | exact HB.out)⟩
  ·
   rw [if_neg c19] at H
   have c19b0 : (a0 == 2) = false := beq_eq_false_iff_ne.mpr c19
   have c19b1 : (a0 != 2) = true := bne_iff_ne.mpr c19
   replace H := Option.bind_eq_some_iff.mp H
   obtain ⟨⟨t298, t299⟩, A270, H⟩ := H
   (try dsimp only at H)
   have A27 := Aside0.mk A270
   clear A270
   simp only [Option.some.injEq, Prod.mk.injEq] at H
   obtain ⟨rfl, rfl, rfl⟩ := H
   go_enter Try.func28, Try.ntmps28
   go_wp2_with (first | ((with_reducible refine gate_dst (N := 3) rfl ?_); refine box_event ?hg (N := 3) ?hd (cs := #[.bool a1_0, .int .i64 a1_1]) (t := 24) ?hr ?_; (case hd => rfl); (case hg => rfl); (case hr => first | (go_simp; done) | (go_simp; rfl)); intro gb294 hg w28 hbox hb; have BK294 := Aside0.mk (hbox); have GW294 := geb hg HB rfl; have GE294 := geb hg HB rfl; replace HB := hst HB hb rfl; clear hb hbox hg) | ((with_reducible refine gate_dst (N := 4) rfl ?_); refine box_event ?hg (N := 4) ?hd (cs := #[.bool false, .int .i64 0]) (t := 24) ?hr ?_; (case hd => rfl); (case hg => rfl); (case hr => first | (go_simp; done) | (go_simp; rfl)); intro gb295 hg w29 hbox hb; have BK295 := Aside0.mk (hbox); have GW295 := geb hg HB rfl; have GE295 := geb hg HB rfl; have NB294_295 := nbl hg BK294 rfl; have NB295_294 := nbr hg BK294 rfl; replace BK294 := bb BK294 hb rfl; replace HB := hst HB hb rfl; clear hb hbox hg) | ((with_reducible refine gate_callee (f := 20) rfl ?_); refine goesL_ (some 19) rfl rfl Try.func20 (by kernel_rfl) rfl #[] rfl (mapq rfl) ?_; (with_reducible refine (known_Any.calls  t298 t299 _ A27.out).mono ?_); rintro e w30 ⟨rfl, hb⟩; refine ⟨_, rfl, ?_⟩; replace BK294 := bb BK294 hb rfl; replace BK295 := bb BK295 hb rfl; replace HB := hst HB hb rfl; (try clear hb); have hnb31 := NB295_294.out; have hnc31 := NB294_295.out; have hcz32_0 : w30.cell? ⟨gb295, 0, none⟩ = some (.bool false) := (blk_cell BK295.out 0).trans rfl; have hcz32_1 : w30.cell? ⟨gb295, 1, none⟩ = some (.int .i64 0) := (blk_cell BK295.out 1).trans rfl; have hfz32_0 := blk_frozen BK295.out 0; have hfz32_1 := blk_frozen BK295.out 1))
   refine bodyPost_ret (results_ct rfl _ _ gb295 24 #[.bool t298, .int .i64 t299] (0, 0) _ rfl (by (with_reducible repeat (first | refine blk_drewN ?_ _ | refine blk_drew ?_ | refine blk_alloc ?_ _)); refine blk_put (cs := #[.bool t298, .int .i64 0]) ?_ 1 _ rfl; (with_reducible repeat (first | refine blk_drewN ?_ _ | refine blk_drew ?_ | refine blk_alloc ?_ _)); refine blk_put (cs := #[.bool false, .int .i64 0]) ?_ 0 _ rfl; (with_reducible repeat (first | refine blk_drewN ?_ _ | refine blk_drew ?_ | refine blk_alloc ?_ _)); exact BK295.out) Try.underlying24 rfl (by kernel_rfl)) rfl ?_
   exact ⟨by first | rfl | (simp [errW_none, errW_some] <;> rfl) | (simp [*, errW_none, errW_some] <;> rfl), by repeat (first | (with_reducible first | exact HB.out | apply below_alloc | apply pw_below_drewN | apply below_drew1 | refine below_set ?_ GE294.out | refine below_set ?_ GE295.out) | exact HB.out)⟩

/-! ### avermentref09_One: function 29 -/
def avermentref09_One.f (a0 : Int) (a1_0 : Bool) (a1_1 : Int) : Option (Bool × Int × Bool) := if a0 = 2 then ((avermentref09_Clean.f a1_0 a1_1).bind fun bt306 => (some (bt306.1, bt306.2, true))) else (if a0 = 3 then (if a1_0 = true then (some (true, wrap64 (-a1_1), true)) else (some (false, 0, (a0 == 3)))) else (some (false, 0, (a0 == 3))))
set_option maxHeartbeats 8000000 in
set_option maxRecDepth 100000 in
theorem avermentref09_One.calls (a0 : Int) (a1_0 : Bool) (a1_1 : Int) (r1 : Bool) (r2 : Int) (r3 : Bool) (w : World) (h : avermentref09_One.f a0 a1_0 a1_1 = some (r1, r2, r3)) :
  Calls Try.prog 29 #[.int .i64 a0, .agg #[.bool a1_0, .int .i64 a1_1]] w fun e w' => e = .returned (.tuple #[.agg #[.bool r1, .int .i64 r2], .bool r3]) ∧ Below w.heap.size w w' := by
 have hu23 := Try.underlying23
 have HB := Aside0.mk (Below.refl w.heap.size w)
 have H : (if a0 = 2 then ((avermentref09_Clean.f a1_0 a1_1).bind fun bt306 => (some (bt306.1, bt306.2, true))) else (if a0 = 3 then (if a1_0 = true then (some (true, wrap64 (-a1_1), true)) else (some (false, 0, (a0 == 3)))) else (some (false, 0, (a0 == 3))))) = some (r1, r2, r3) := h
 clear h
 by_cases c3 : a0 = 2
 ·
  rw [if_pos c3] at H
  have c3b0 : (a0 == 2) = true := beq_iff_eq.mpr c3
  have c3b1 : (a0 != 2) = false := bne_eq_false_iff_eq.mpr c3
  clear c3
  replace H := Option.bind_eq_some_iff.mp H
  obtain ⟨⟨t306, t307⟩, A40, H⟩ := H
  (try dsimp only at H)
  have A4 := Aside0.mk A40
  clear A40
  simp only [Option.some.injEq, Prod.mk.injEq] at H
  obtain ⟨rfl, rfl, rfl⟩ := H
  go_enter Try.func29, Try.ntmps29
  go_wp2_with (first | ((with_reducible refine gate_dst (N := 3) rfl ?_); refine box_event ?hg (N := 3) ?hd (cs := #[.bool a1_0, .int .i64 a1_1]) (t := 23) ?hr ?_; (case hd => rfl); (case hg => rfl); (case hr => first | (go_simp; done) | (go_simp; rfl)); intro gb304 hg w5 hbox hb; have BK304 := Aside0.mk (hbox); have GW304 := geb hg HB rfl; have GE304 := geb hg HB rfl; replace HB := hst HB hb rfl; clear hb hbox hg) | ((with_reducible refine gate_dst (N := 4) rfl ?_); refine box_event ?hg (N := 4) ?hd (cs := #[.bool false, .int .i64 0]) (t := 23) ?hr ?_; (case hd => rfl); (case hg => rfl); (case hr => first | (go_simp; done) | (go_simp; rfl)); intro gb305 hg w6 hbox hb; have BK305 := Aside0.mk (hbox); have GW305 := geb hg HB rfl; have GE305 := geb hg HB rfl; have NB304_305 := nbl hg BK304 rfl; have NB305_304 := nbr hg BK304 rfl; replace BK304 := bb BK304 hb rfl; replace HB := hst HB hb rfl; clear hb hbox hg; have hnb7 := NB304_305.out; have hnc7 := NB305_304.out; have hcz8_0 : w6.cell? ⟨gb304, 0, none⟩ = some (.bool a1_0) := (blk_cell BK304.out 0).trans rfl; have hcz8_1 : w6.cell? ⟨gb304, 1, none⟩ = some (.int .i64 a1_1) := (blk_cell BK304.out 1).trans rfl; have hfz8_0 := blk_frozen BK304.out 0; have hfz8_1 := blk_frozen BK304.out 1) | ((with_reducible refine gate_callee (f := 61) rfl ?_); refine goesL_ (some 9) rfl rfl Try.func61 (by kernel_rfl) rfl #[.agg #[.bool a1_0, .int .i64 a1_1]] rfl (mapq rfl) ?_; (with_reducible refine (avermentref09_Clean.calls a1_0 a1_1 t306 t307 _ A4.out).mono ?_); rintro e w9 ⟨rfl, hb⟩; refine ⟨_, rfl, ?_⟩; replace BK304 := bb BK304 hb rfl; replace BK305 := bb BK305 hb rfl; replace HB := hst HB hb rfl; (try clear hb); have hcz10_0 : w9.cell? ⟨gb305, 0, none⟩ = some (.bool false) := (blk_cell BK305.out 0).trans rfl; have hcz10_1 : w9.cell? ⟨gb305, 1, none⟩ = some (.int .i64 0) := (blk_cell BK305.out 1).trans rfl; have hfz10_0 := blk_frozen BK305.out 0; have hfz10_1 := blk_frozen BK305.out 1))
  refine bodyPost_ret (results_ct rfl _ _ gb305 23 #[.bool t306, .int .i64 t307] (0, 0) _ rfl (by (with_reducible repeat (first | refine blk_drewN ?_ _ | refine blk_drew ?_ | refine blk_alloc ?_ _)); refine blk_put (cs := #[.bool t306, .int .i64 0]) ?_ 1 _ rfl; (with_reducible repeat (first | refine blk_drewN ?_ _ | refine blk_drew ?_ | refine blk_alloc ?_ _)); refine blk_put (cs := #[.bool false, .int .i64 0]) ?_ 0 _ rfl; (with_reducible repeat (first | refine blk_drewN ?_ _ | refine blk_drew ?_ | refine blk_alloc ?_ _)); exact BK305.out) Try.underlying23 rfl (by kernel_rfl)) rfl ?_
  exact ⟨by first | rfl | (simp [errW_none, errW_some] <;> rfl) | (simp [*, errW_none, errW_some] <;> rfl), by repeat (first | (with_reducible first | exact HB.out | apply below_alloc | apply pw_below_drewN | apply below_drew1 | refine below_set ?_ GE304.out | refine below_set ?_ GE305.out) | exact HB.out)⟩
 ·
  rw [if_neg c3] at H
  have c3b0 : (a0 == 2) = false := beq_eq_false_iff_ne.mpr c3
  have c3b1 : (a0 != 2) = true := bne_iff_ne.mpr c3
  by_cases c11 : a0 = 3
  ·
   rw [if_pos c11] at H
   have c11b0 : (a0 == 3) = true := beq_iff_eq.mpr c11
   have c11b1 : (a0 != 3) = false := bne_eq_false_iff_eq.mpr c11
   clear c11
   by_cases c12 : a1_0 = true
   ·
    subst c12
    rw [if_pos rfl] at H
    simp only [Option.some.injEq, Prod.mk.injEq] at H
    obtain ⟨rfl, rfl, rfl⟩ := H
    go_enter Try.func29, Try.ntmps29
    go_wp2_with (first | ((with_reducible refine gate_dst (N := 3) rfl ?_); refine box_event ?hg (N := 3) ?hd (cs := #[.bool true, .int .i64 a1_1]) (t := 23) ?hr ?_; (case hd => rfl); (case hg => rfl); (case hr => first | (go_simp; done) | (go_simp; rfl)); intro gb304 hg w13 hbox hb; have BK304 := Aside0.mk (hbox); have GW304 := geb hg HB rfl; have GE304 := geb hg HB rfl; replace HB := hst HB hb rfl; clear hb hbox hg) | ((with_reducible refine gate_dst (N := 4) rfl ?_); refine box_event ?hg (N := 4) ?hd (cs := #[.bool false, .int .i64 0]) (t := 23) ?hr ?_; (case hd => rfl); (case hg => rfl); (case hr => first | (go_simp; done) | (go_simp; rfl)); intro gb305 hg w14 hbox hb; have BK305 := Aside0.mk (hbox); have GW305 := geb hg HB rfl; have GE305 := geb hg HB rfl; have NB304_305 := nbl hg BK304 rfl; have NB305_304 := nbr hg BK304 rfl; replace BK304 := bb BK304 hb rfl; replace HB := hst HB hb rfl; clear hb hbox hg; have hnb15 := NB304_305.out; have hnc15 := NB305_304.out; have hcz16_0 : w14.cell? ⟨gb304, 0, none⟩ = some (.bool true) := (blk_cell BK304.out 0).trans rfl; have hcz16_1 : w14.cell? ⟨gb304, 1, none⟩ = some (.int .i64 a1_1) := (blk_cell BK304.out 1).trans rfl; have hfz16_0 := blk_frozen BK304.out 0; have hfz16_1 := blk_frozen BK304.out 1; have hcz17_0 : w14.cell? ⟨gb305, 0, none⟩ = some (.bool false) := (blk_cell BK305.out 0).trans rfl; have hcz17_1 : w14.cell? ⟨gb305, 1, none⟩ = some (.int .i64 0) := (blk_cell BK305.out 1).trans rfl; have hfz17_0 := blk_frozen BK305.out 0; have hfz17_1 := blk_frozen BK305.out 1))
    refine bodyPost_ret (results_ct rfl _ _ gb305 23 #[.bool true, .int .i64 (wrap64 (-a1_1))] (0, 0) _ rfl (by (with_reducible repeat (first | refine blk_drewN ?_ _ | refine blk_drew ?_ | refine blk_alloc ?_ _)); refine blk_put (cs := #[.bool true, .int .i64 0]) ?_ 1 _ rfl; (with_reducible repeat (first | refine blk_drewN ?_ _ | refine blk_drew ?_ | refine blk_alloc ?_ _)); refine blk_put (cs := #[.bool false, .int .i64 0]) ?_ 0 _ rfl; (with_reducible repeat (first | refine blk_drewN ?_ _ | refine blk_drew ?_ | refine blk_alloc ?_ _)); exact BK305.out) Try.underlying23 rfl (by kernel_rfl)) rfl ?_
    exact ⟨by first | rfl | (simp [errW_none, errW_some] <;> rfl) | (simp [*, errW_none, errW_some] <;> rfl), by repeat (first | (with_reducible first | exact HB.out | apply below_alloc | apply pw_below_drewN | apply below_drew1 | refine below_set ?_ GE304.out | refine below_set ?_ GE305.out) | exact HB.out)⟩
   ·
    replace c12 := Bool.eq_false_iff.mpr c12
    subst c12
    rw [if_neg (show ¬ (false = true) by decide)] at H
    simp only [Option.some.injEq, Prod.mk.injEq] at H
    obtain ⟨rfl, rfl, rfl⟩ := H
    go_enter Try.func29, Try.ntmps29
    go_wp2_with (first | ((with_reducible refine gate_dst (N := 3) rfl ?_); refine box_event ?hg (N := 3) ?hd (cs := #[.bool false, .int .i64 a1_1]) (t := 23) ?hr ?_; (case hd => rfl); (case hg => rfl); (case hr => first | (go_simp; done) | (go_simp; rfl)); intro gb304 hg w18 hbox hb; have BK304 := Aside0.mk (hbox); have GW304 := geb hg HB rfl; have GE304 := geb hg HB rfl; replace HB := hst HB hb rfl; clear hb hbox hg) | ((with_reducible refine gate_dst (N := 4) rfl ?_); refine box_event ?hg (N := 4) ?hd (cs := #[.bool false, .int .i64 0]) (t := 23) ?hr ?_; (case hd => rfl); (case hg => rfl); (case hr => first | (go_simp; done) | (go_simp; rfl)); intro gb305 hg w19 hbox hb; have BK305 := Aside0.mk (hbox); have GW305 := geb hg HB rfl; have GE305 := geb hg HB rfl; have NB304_305 := nbl hg BK304 rfl; have NB305_304 := nbr hg BK304 rfl; replace BK304 := bb BK304 hb rfl; replace HB := hst HB hb rfl; clear hb hbox hg; have hnb20 := NB304_305.out; have hnc20 := NB305_304.out; have hcz21_0 : w19.cell? ⟨gb304, 0, none⟩ = some (.bool false) := (blk_cell BK304.out 0).trans rfl; have hcz21_1 : w19.cell? ⟨gb304, 1, none⟩ = some (.int .i64 a1_1) := (blk_cell BK304.out 1).trans rfl; have hfz21_0 := blk_frozen BK304.out 0; have hfz21_1 := blk_frozen BK304.out 1; have hcz22_0 : w19.cell? ⟨gb305, 0, none⟩ = some (.bool false) := (blk_cell BK305.out 0).trans rfl; have hcz22_1 : w19.cell? ⟨gb305, 1, none⟩ = some (.int .i64 0) := (blk_cell BK305.out 1).trans rfl; have hfz22_0 := blk_frozen BK305.out 0; have hfz22_1 := blk_frozen BK305.out 1))
    refine bodyPost_ret (results_ct rfl _ _ gb305 23 #[.bool false, .int .i64 0] (0, 0) _ rfl (by (with_reducible repeat (first | refine blk_drewN ?_ _ | refine blk_drew ?_ | refine blk_alloc ?_ _)); refine blk_put (cs := #[.bool false, .int .i64 0]) ?_ 1 _ rfl; (with_reducible repeat (first | refine blk_drewN ?_ _ | refine blk_drew ?_ | refine blk_alloc ?_ _)); refine blk_put (cs := #[.bool false, .int .i64 0]) ?_ 0 _ rfl; (with_reducible repeat (first | refine blk_drewN ?_ _ | refine blk_drew ?_ | refine blk_alloc ?_ _)); exact BK305.out) Try.underlying23 rfl (by kernel_rfl)) rfl ?_
    exact ⟨by first | rfl | (simp [errW_none, errW_some] <;> rfl) | (simp [*, errW_none, errW_some] <;> rfl), by repeat (first | (with_reducible first | exact HB.out | apply below_alloc | apply pw_below_drewN | apply below_drew1 | refine below_set ?_ GE304.out | refine below_set ?_ GE305.out) | exact HB.out)⟩
  ·
   rw [if_neg c11] at H
   have c11b0 : (a0 == 3) = false := beq_eq_false_iff_ne.mpr c11
   have c11b1 : (a0 != 3) = true := bne_iff_ne.mpr c11
   simp only [Option.some.injEq, Prod.mk.injEq] at H
   obtain ⟨rfl, rfl, rfl⟩ := H
   go_enter Try.func29, Try.ntmps29
   go_wp2_with (first | ((with_reducible refine gate_dst (N := 3) rfl ?_); refine box_event ?hg (N := 3) ?hd (cs := #[.bool a1_0, .int .i64 a1_1]) (t := 23) ?hr ?_; (case hd => rfl); (case hg => rfl); (case hr => first | (go_simp; done) | (go_simp; rfl)); intro gb304 hg w23 hbox hb; have BK304 := Aside0.mk (hbox); have GW304 := geb hg HB rfl; have GE304 := geb hg HB rfl; replace HB := hst HB hb rfl; clear hb hbox hg) | ((with_reducible refine gate_dst (N := 4) rfl ?_); refine box_event ?hg (N := 4) ?hd (cs := #[.bool false, .int .i64 0]) (t := 23) ?hr ?_; (case hd => rfl); (case hg => rfl); (case hr => first | (go_simp; done) | (go_simp; rfl)); intro gb305 hg w24 hbox hb; have BK305 := Aside0.mk (hbox); have GW305 := geb hg HB rfl; have GE305 := geb hg HB rfl; have NB304_305 := nbl hg BK304 rfl; have NB305_304 := nbr hg BK304 rfl; replace BK304 := bb BK304 hb rfl; replace HB := hst HB hb rfl; clear hb hbox hg; have hnb25 := NB305_304.out; have hnc25 := NB304_305.out; have hcz26_0 : w24.cell? ⟨gb305, 0, none⟩ = some (.bool false) := (blk_cell BK305.out 0).trans rfl; have hcz26_1 : w24.cell? ⟨gb305, 1, none⟩ = some (.int .i64 0) := (blk_cell BK305.out 1).trans rfl; have hfz26_0 := blk_frozen BK305.out 0; have hfz26_1 := blk_frozen BK305.out 1))
   refine bodyPost_ret (results_ct rfl _ _ gb305 23 #[.bool false, .int .i64 0] (0, 0) _ rfl (by (with_reducible repeat (first | refine blk_drewN ?_ _ | refine blk_drew ?_ | refine blk_alloc ?_ _)); refine blk_put (cs := #[.bool false, .int .i64 0]) ?_ 1 _ rfl; (with_reducible repeat (first | refine blk_drewN ?_ _ | refine blk_drew ?_ | refine blk_alloc ?_ _)); refine blk_put (cs := #[.bool false, .int .i64 0]) ?_ 0 _ rfl; (with_reducible repeat (first | refine blk_drewN ?_ _ | refine blk_drew ?_ | refine blk_alloc ?_ _)); exact BK305.out) Try.underlying23 rfl (by kernel_rfl)) rfl ?_
   exact ⟨by first | rfl | (simp [errW_none, errW_some] <;> rfl) | (simp [*, errW_none, errW_some] <;> rfl), by repeat (first | (with_reducible first | exact HB.out | apply below_alloc | apply pw_below_drewN | apply below_drew1 | refine below_set ?_ GE304.out | refine below_set ?_ GE305.out) | exact HB.out)⟩

/-! ### avermentref07_Arith: function 34 -/
def avermentref07_Arith.f (a0 : Int) (a1 : Int) (a2 : Int) : Option (Int × Bool) := if a0 = 4 then (some (wrap64 (a1 + a2), true)) else (if a0 = 5 then (some (wrap64 (a1 - a2), true)) else (if a0 = 6 then (some (wrap64 (a1 * a2), true)) else (if a0 = 7 then (if a2 = 0 then (some (0, false)) else (if a2 = (-1) then (some (wrap64 (-a1), true)) else (some (wrap64 (Int.tdiv a1 a2), true)))) else (if a0 = 8 then (if a2 = 0 then (some (0, false)) else (if a2 = (-1) then (some (0, true)) else (some (Int.tmod a1 a2, true)))) else (if a0 = 9 then (some (Go.bits .and .i64 a1 a2, true)) else (if a0 = 10 then (some (Go.bits .xor .i64 a1 a2, true)) else (if a0 = 11 then (if a1 < a2 then (some (1, true)) else (some (0, true))) else (if a0 = 12 then (if a1 = a2 then (some (1, true)) else (some (0, true))) else (some (0, false))))))))))
set_option maxHeartbeats 8000000 in
set_option maxRecDepth 100000 in
theorem avermentref07_Arith.calls (a0 : Int) (a1 : Int) (a2 : Int) (r1 : Int) (r2 : Bool) (w : World) (h : avermentref07_Arith.f a0 a1 a2 = some (r1, r2)) :
  Calls Try.prog 34 #[.int .i64 a0, .int .i64 a1, .int .i64 a2] w fun e w' => e = .returned (.tuple #[.int .i64 r1, .bool r2]) ∧ Drawn0 w w' := by
 have H : (if a0 = 4 then (some (wrap64 (a1 + a2), true)) else (if a0 = 5 then (some (wrap64 (a1 - a2), true)) else (if a0 = 6 then (some (wrap64 (a1 * a2), true)) else (if a0 = 7 then (if a2 = 0 then (some (0, false)) else (if a2 = (-1) then (some (wrap64 (-a1), true)) else (some (wrap64 (Int.tdiv a1 a2), true)))) else (if a0 = 8 then (if a2 = 0 then (some (0, false)) else (if a2 = (-1) then (some (0, true)) else (some (Int.tmod a1 a2, true)))) else (if a0 = 9 then (some (Go.bits .and .i64 a1 a2, true)) else (if a0 = 10 then (some (Go.bits .xor .i64 a1 a2, true)) else (if a0 = 11 then (if a1 < a2 then (some (1, true)) else (some (0, true))) else (if a0 = 12 then (if a1 = a2 then (some (1, true)) else (some (0, true))) else (some (0, false))))))))))) = some (r1, r2) := h
 clear h
 by_cases c4 : a0 = 4
 ·
  rw [if_pos c4] at H
  have c4b0 : (a0 == 4) = true := beq_iff_eq.mpr c4
  have c4b1 : (a0 != 4) = false := bne_eq_false_iff_eq.mpr c4
  clear c4
  simp only [Option.some.injEq, Prod.mk.injEq] at H
  obtain ⟨rfl, rfl⟩ := H
  go_enter Try.func34, Try.ntmps34
  go_wp2
  go_ret2
  exact ⟨by first | rfl | (simp; done) | (simp [*]; done), by repeat (first | exact Drawn0.refl _ | apply Drawn0.step)⟩
 ·
  rw [if_neg c4] at H
  have c4b0 : (a0 == 4) = false := beq_eq_false_iff_ne.mpr c4
  have c4b1 : (a0 != 4) = true := bne_iff_ne.mpr c4
  by_cases c5 : a0 = 5
  ·
   rw [if_pos c5] at H
   have c5b0 : (a0 == 5) = true := beq_iff_eq.mpr c5
   have c5b1 : (a0 != 5) = false := bne_eq_false_iff_eq.mpr c5
   clear c5
   simp only [Option.some.injEq, Prod.mk.injEq] at H
   obtain ⟨rfl, rfl⟩ := H
   go_enter Try.func34, Try.ntmps34
   go_wp2
   go_ret2
   exact ⟨by first | rfl | (simp; done) | (simp [*]; done), by repeat (first | exact Drawn0.refl _ | apply Drawn0.step)⟩
  ·
   rw [if_neg c5] at H
   have c5b0 : (a0 == 5) = false := beq_eq_false_iff_ne.mpr c5
   have c5b1 : (a0 != 5) = true := bne_iff_ne.mpr c5
   by_cases c6 : a0 = 6
   ·
    rw [if_pos c6] at H
    have c6b0 : (a0 == 6) = true := beq_iff_eq.mpr c6
    have c6b1 : (a0 != 6) = false := bne_eq_false_iff_eq.mpr c6
    clear c6
    simp only [Option.some.injEq, Prod.mk.injEq] at H
    obtain ⟨rfl, rfl⟩ := H
    go_enter Try.func34, Try.ntmps34
    go_wp2
    go_ret2
    exact ⟨by first | rfl | (simp; done) | (simp [*]; done), by repeat (first | exact Drawn0.refl _ | apply Drawn0.step)⟩
   ·
    rw [if_neg c6] at H
    have c6b0 : (a0 == 6) = false := beq_eq_false_iff_ne.mpr c6
    have c6b1 : (a0 != 6) = true := bne_iff_ne.mpr c6
    by_cases c7 : a0 = 7
    ·
     rw [if_pos c7] at H
     have c7b0 : (a0 == 7) = true := beq_iff_eq.mpr c7
     have c7b1 : (a0 != 7) = false := bne_eq_false_iff_eq.mpr c7
     clear c7
     by_cases c8 : a2 = 0
     ·
      rw [if_pos c8] at H
      have c8b0 : (a2 == 0) = true := beq_iff_eq.mpr c8
      have c8b1 : (a2 != 0) = false := bne_eq_false_iff_eq.mpr c8
      clear c8
      simp only [Option.some.injEq, Prod.mk.injEq] at H
      obtain ⟨rfl, rfl⟩ := H
      go_enter Try.func34, Try.ntmps34
      go_wp2
      go_ret2
      exact ⟨by first | rfl | (simp; done) | (simp [*]; done), by repeat (first | exact Drawn0.refl _ | apply Drawn0.step)⟩
     ·
      rw [if_neg c8] at H
      have c8b0 : (a2 == 0) = false := beq_eq_false_iff_ne.mpr c8
      have c8b1 : (a2 != 0) = true := bne_iff_ne.mpr c8
      by_cases c9 : a2 = (-1)
      ·
       rw [if_pos c9] at H
       have c9b0 : (a2 == (-1)) = true := beq_iff_eq.mpr c9
       have c9b1 : (a2 != (-1)) = false := bne_eq_false_iff_eq.mpr c9
       clear c9
       simp only [Option.some.injEq, Prod.mk.injEq] at H
       obtain ⟨rfl, rfl⟩ := H
       go_enter Try.func34, Try.ntmps34
       go_wp2
       go_ret2
       exact ⟨by first | rfl | (simp; done) | (simp [*]; done), by repeat (first | exact Drawn0.refl _ | apply Drawn0.step)⟩
      ·
       rw [if_neg c9] at H
       have c9b0 : (a2 == (-1)) = false := beq_eq_false_iff_ne.mpr c9
       have c9b1 : (a2 != (-1)) = true := bne_iff_ne.mpr c9
       simp only [Option.some.injEq, Prod.mk.injEq] at H
       obtain ⟨rfl, rfl⟩ := H
       go_enter Try.func34, Try.ntmps34
       go_wp2
       go_ret2
       exact ⟨by first | rfl | (simp; done) | (simp [*]; done), by repeat (first | exact Drawn0.refl _ | apply Drawn0.step)⟩
    ·
     rw [if_neg c7] at H
     have c7b0 : (a0 == 7) = false := beq_eq_false_iff_ne.mpr c7
     have c7b1 : (a0 != 7) = true := bne_iff_ne.mpr c7
     by_cases c10 : a0 = 8
     ·
      rw [if_pos c10] at H
      have c10b0 : (a0 == 8) = true := beq_iff_eq.mpr c10
      have c10b1 : (a0 != 8) = false := bne_eq_false_iff_eq.mpr c10
      clear c10
      by_cases c11 : a2 = 0
      ·
       rw [if_pos c11] at H
       have c11b0 : (a2 == 0) = true := beq_iff_eq.mpr c11
       have c11b1 : (a2 != 0) = false := bne_eq_false_iff_eq.mpr c11
       clear c11
       simp only [Option.some.injEq, Prod.mk.injEq] at H
       obtain ⟨rfl, rfl⟩ := H
       go_enter Try.func34, Try.ntmps34
       go_wp2
       go_ret2
       exact ⟨by first | rfl | (simp; done) | (simp [*]; done), by repeat (first | exact Drawn0.refl _ | apply Drawn0.step)⟩
      ·
       rw [if_neg c11] at H
       have c11b0 : (a2 == 0) = false := beq_eq_false_iff_ne.mpr c11
       have c11b1 : (a2 != 0) = true := bne_iff_ne.mpr c11
       by_cases c12 : a2 = (-1)
       ·
        rw [if_pos c12] at H
        have c12b0 : (a2 == (-1)) = true := beq_iff_eq.mpr c12
        have c12b1 : (a2 != (-1)) = false := bne_eq_false_iff_eq.mpr c12
        clear c12
        simp only [Option.some.injEq, Prod.mk.injEq] at H
        obtain ⟨rfl, rfl⟩ := H
        go_enter Try.func34, Try.ntmps34
        go_wp2
        go_ret2
        exact ⟨by first | rfl | (simp; done) | (simp [*]; done), by repeat (first | exact Drawn0.refl _ | apply Drawn0.step)⟩
       ·
        rw [if_neg c12] at H
        have c12b0 : (a2 == (-1)) = false := beq_eq_false_iff_ne.mpr c12
        have c12b1 : (a2 != (-1)) = true := bne_iff_ne.mpr c12
        simp only [Option.some.injEq, Prod.mk.injEq] at H
        obtain ⟨rfl, rfl⟩ := H
        go_enter Try.func34, Try.ntmps34
        go_wp2
        go_ret2
        exact ⟨by first | rfl | (simp; done) | (simp [*]; done), by repeat (first | exact Drawn0.refl _ | apply Drawn0.step)⟩
     ·
      rw [if_neg c10] at H
      have c10b0 : (a0 == 8) = false := beq_eq_false_iff_ne.mpr c10
      have c10b1 : (a0 != 8) = true := bne_iff_ne.mpr c10
      by_cases c13 : a0 = 9
      ·
       rw [if_pos c13] at H
       have c13b0 : (a0 == 9) = true := beq_iff_eq.mpr c13
       have c13b1 : (a0 != 9) = false := bne_eq_false_iff_eq.mpr c13
       clear c13
       simp only [Option.some.injEq, Prod.mk.injEq] at H
       obtain ⟨rfl, rfl⟩ := H
       go_enter Try.func34, Try.ntmps34
       go_wp2
       go_ret2
       exact ⟨by first | rfl | (simp; done) | (simp [*]; done), by repeat (first | exact Drawn0.refl _ | apply Drawn0.step)⟩
      ·
       rw [if_neg c13] at H
       have c13b0 : (a0 == 9) = false := beq_eq_false_iff_ne.mpr c13
       have c13b1 : (a0 != 9) = true := bne_iff_ne.mpr c13
       by_cases c14 : a0 = 10
       ·
        rw [if_pos c14] at H
        have c14b0 : (a0 == 10) = true := beq_iff_eq.mpr c14
        have c14b1 : (a0 != 10) = false := bne_eq_false_iff_eq.mpr c14
        clear c14
        simp only [Option.some.injEq, Prod.mk.injEq] at H
        obtain ⟨rfl, rfl⟩ := H
        go_enter Try.func34, Try.ntmps34
        go_wp2
        go_ret2
        exact ⟨by first | rfl | (simp; done) | (simp [*]; done), by repeat (first | exact Drawn0.refl _ | apply Drawn0.step)⟩
       ·
        rw [if_neg c14] at H
        have c14b0 : (a0 == 10) = false := beq_eq_false_iff_ne.mpr c14
        have c14b1 : (a0 != 10) = true := bne_iff_ne.mpr c14
        by_cases c15 : a0 = 11
        ·
         rw [if_pos c15] at H
         have c15b0 : (a0 == 11) = true := beq_iff_eq.mpr c15
         have c15b1 : (a0 != 11) = false := bne_eq_false_iff_eq.mpr c15
         clear c15
         by_cases c16 : a1 < a2
         ·
          rw [if_pos c16] at H
          have c16b0 : decide (a1 < a2) = true := decide_eq_true c16
          clear c16
          simp only [Option.some.injEq, Prod.mk.injEq] at H
          obtain ⟨rfl, rfl⟩ := H
          go_enter Try.func34, Try.ntmps34
          go_wp2
          go_ret2
          exact ⟨by first | rfl | (simp; done) | (simp [*]; done), by repeat (first | exact Drawn0.refl _ | apply Drawn0.step)⟩
         ·
          rw [if_neg c16] at H
          have c16b0 : decide (a1 < a2) = false := decide_eq_false c16
          clear c16
          simp only [Option.some.injEq, Prod.mk.injEq] at H
          obtain ⟨rfl, rfl⟩ := H
          go_enter Try.func34, Try.ntmps34
          go_wp2
          go_ret2
          exact ⟨by first | rfl | (simp; done) | (simp [*]; done), by repeat (first | exact Drawn0.refl _ | apply Drawn0.step)⟩
        ·
         rw [if_neg c15] at H
         have c15b0 : (a0 == 11) = false := beq_eq_false_iff_ne.mpr c15
         have c15b1 : (a0 != 11) = true := bne_iff_ne.mpr c15
         by_cases c17 : a0 = 12
         ·
          rw [if_pos c17] at H
          have c17b0 : (a0 == 12) = true := beq_iff_eq.mpr c17
          have c17b1 : (a0 != 12) = false := bne_eq_false_iff_eq.mpr c17
          clear c17
          by_cases c18 : a1 = a2
          ·
           rw [if_pos c18] at H
           have c18b0 : (a1 == a2) = true := beq_iff_eq.mpr c18
           have c18b1 : (a1 != a2) = false := bne_eq_false_iff_eq.mpr c18
           clear c18
           simp only [Option.some.injEq, Prod.mk.injEq] at H
           obtain ⟨rfl, rfl⟩ := H
           go_enter Try.func34, Try.ntmps34
           go_wp2
           go_ret2
           exact ⟨by first | rfl | (simp; done) | (simp [*]; done), by repeat (first | exact Drawn0.refl _ | apply Drawn0.step)⟩
          ·
           rw [if_neg c18] at H
           have c18b0 : (a1 == a2) = false := beq_eq_false_iff_ne.mpr c18
           have c18b1 : (a1 != a2) = true := bne_iff_ne.mpr c18
           simp only [Option.some.injEq, Prod.mk.injEq] at H
           obtain ⟨rfl, rfl⟩ := H
           go_enter Try.func34, Try.ntmps34
           go_wp2
           go_ret2
           exact ⟨by first | rfl | (simp; done) | (simp [*]; done), by repeat (first | exact Drawn0.refl _ | apply Drawn0.step)⟩
         ·
          rw [if_neg c17] at H
          have c17b0 : (a0 == 12) = false := beq_eq_false_iff_ne.mpr c17
          have c17b1 : (a0 != 12) = true := bne_iff_ne.mpr c17
          simp only [Option.some.injEq, Prod.mk.injEq] at H
          obtain ⟨rfl, rfl⟩ := H
          go_enter Try.func34, Try.ntmps34
          go_wp2
          go_ret2
          exact ⟨by first | rfl | (simp; done) | (simp [*]; done), by repeat (first | exact Drawn0.refl _ | apply Drawn0.step)⟩

/-! ### avermentref09_Two: function 30 -/
def avermentref09_Two.j0 : Nat → Int → Bool → Bool → Int → Bool → Int → Option (Bool × Int × Bool)
 | 0, _, _, _, _, _, _ => none
 | k + 1, x0, x32, x309000, x309001, x310000, x310001 => if x32 = true then (some (false, 0, false)) else (if x309000 = true then (if x310000 = true then ((avermentref07_Arith.f x0 x309001 x310001).bind fun bt311 => (some (true, bt311.1, true))) else (some (false, 0, true))) else (some (false, 0, true)))
def avermentref09_Two.f (k : Nat) (a0 : Int) (a1_0 : Bool) (a1_1 : Int) (a2_0 : Bool) (a2_1 : Int) : Option (Bool × Int × Bool) := if a0 < 4 then (avermentref09_Two.j0 k a0 true a1_0 a1_1 a2_0 a2_1) else (if a0 > 12 then (avermentref09_Two.j0 k a0 true a1_0 a1_1 a2_0 a2_1) else (if a0 = 7 then (if a2_0 = true then (avermentref09_Two.j0 k a0 (a2_1 == 0) a1_0 a1_1 a2_0 a2_1) else (avermentref09_Two.j0 k a0 false a1_0 a1_1 a2_0 a2_1)) else (if a0 = 8 then (if a2_0 = true then (avermentref09_Two.j0 k a0 (a2_1 == 0) a1_0 a1_1 a2_0 a2_1) else (avermentref09_Two.j0 k a0 false a1_0 a1_1 a2_0 a2_1)) else (avermentref09_Two.j0 k a0 false a1_0 a1_1 a2_0 a2_1))))
theorem avermentref09_Two.mono_l : ∀ k, (∀ y0 y1 y2 y3 y4 y5, LeO (avermentref09_Two.j0 k y0 y1 y2 y3 y4 y5) (avermentref09_Two.j0 (k + 1) y0 y1 y2 y3 y4 y5))
 | 0 => fun _ _ _ _ _ _ r h => by simp [avermentref09_Two.j0] at h
 | k + 1 => by
  have ih0 := avermentref09_Two.mono_l k
  ·
   intro y0 y1 y2 y3 y4 y5
   unfold avermentref09_Two.j0
   repeat' first
   | (with_reducible exact ih0 _ _ _ _ _ _)
   | (with_reducible exact LeO.refl _)
   | (with_reducible exact LeO.none _)
   | (with_reducible refine LeO.ite ?_ ?_)
   | (with_reducible refine LeO.bind ?_ (fun _ => ?_))
   | exact ih0 _ _ _ _ _ _
   | exact LeO.none _
   | refine LeO.ite ?_ ?_
   | refine LeO.bind ?_ (fun _ => ?_)
theorem avermentref09_Two.mono : ∀ a0 a1 a2 a3 a4 k, LeO (avermentref09_Two.f k a0 a1 a2 a3 a4) (avermentref09_Two.f (k + 1) a0 a1 a2 a3 a4) := by
 intro a0 a1 a2 a3 a4 k
 have ih0 := avermentref09_Two.mono_l k
 unfold avermentref09_Two.f
 repeat' first
   | (with_reducible exact ih0 _ _ _ _ _ _)
   | (with_reducible exact LeO.refl _)
   | (with_reducible exact LeO.none _)
   | (with_reducible refine LeO.ite ?_ ?_)
   | (with_reducible refine LeO.bind ?_ (fun _ => ?_))
   | exact ih0 _ _ _ _ _ _
   | exact LeO.none _
   | refine LeO.ite ?_ ?_
   | refine LeO.bind ?_ (fun _ => ?_)
set_option maxHeartbeats 8000000 in
set_option maxRecDepth 100000 in
theorem avermentref09_Two.calls (k : Nat) (a0 : Int) (a1_0 : Bool) (a1_1 : Int) (a2_0 : Bool) (a2_1 : Int) (r1 : Bool) (r2 : Int) (r3 : Bool) (w : World) (h : avermentref09_Two.f k a0 a1_0 a1_1 a2_0 a2_1 = some (r1, r2, r3)) :
  Calls Try.prog 30 #[.int .i64 a0, .agg #[.bool a1_0, .int .i64 a1_1], .agg #[.bool a2_0, .int .i64 a2_1]] w fun e w' => e = .returned (.tuple #[.agg #[.bool r1, .int .i64 r2], .bool r3]) ∧ Below w.heap.size w w' := by
 have hu23 := Try.underlying23
 have HB := Aside0.mk (Below.refl w.heap.size w)
 have H : (if a0 < 4 then (avermentref09_Two.j0 k a0 true a1_0 a1_1 a2_0 a2_1) else (if a0 > 12 then (avermentref09_Two.j0 k a0 true a1_0 a1_1 a2_0 a2_1) else (if a0 = 7 then (if a2_0 = true then (avermentref09_Two.j0 k a0 (a2_1 == 0) a1_0 a1_1 a2_0 a2_1) else (avermentref09_Two.j0 k a0 false a1_0 a1_1 a2_0 a2_1)) else (if a0 = 8 then (if a2_0 = true then (avermentref09_Two.j0 k a0 (a2_1 == 0) a1_0 a1_1 a2_0 a2_1) else (avermentref09_Two.j0 k a0 false a1_0 a1_1 a2_0 a2_1)) else (avermentref09_Two.j0 k a0 false a1_0 a1_1 a2_0 a2_1))))) = some (r1, r2, r3) := h
 clear h
 have HC4 := Aside0.mk H
 clear H
 go_enter Try.func30, Try.ntmps30
 go_upto_region 1 with (first | ((with_reducible refine gate_dst (N := 4) rfl ?_); refine box_event ?hg (N := 4) ?hd (cs := #[.bool a1_0, .int .i64 a1_1]) (t := 23) ?hr ?_; (case hd => rfl); (case hg => rfl); (case hr => first | (go_simp; done) | (go_simp; rfl)); intro gb308 hg w5 hbox hb; have BK308 := Aside0.mk (hbox); have GW308 := geb hg HB rfl; have GE308 := geb hg HB rfl; replace HB := hst HB hb rfl; clear hb hbox hg) | ((with_reducible refine gate_dst (N := 5) rfl ?_); refine box_event ?hg (N := 5) ?hd (cs := #[.bool a2_0, .int .i64 a2_1]) (t := 23) ?hr ?_; (case hd => rfl); (case hg => rfl); (case hr => first | (go_simp; done) | (go_simp; rfl)); intro gb309 hg w6 hbox hb; have BK309 := Aside0.mk (hbox); have GW309 := geb hg HB rfl; have GE309 := geb hg HB rfl; have NB308_309 := nbl hg BK308 rfl; have NB309_308 := nbr hg BK308 rfl; replace BK308 := bb BK308 hb rfl; replace HB := hst HB hb rfl; clear hb hbox hg) | ((with_reducible refine gate_dst (N := 6) rfl ?_); refine box_event ?hg (N := 6) ?hd (cs := #[.bool false, .int .i64 0]) (t := 23) ?hr ?_; (case hd => rfl); (case hg => rfl); (case hr => first | (go_simp; done) | (go_simp; rfl)); intro gb310 hg w7 hbox hb; have BK310 := Aside0.mk (hbox); have GW310 := geb hg HB rfl; have GE310 := geb hg HB rfl; have NB308_310 := nbl hg BK308 rfl; have NB310_308 := nbr hg BK308 rfl; have NB309_310 := nbl hg BK309 rfl; have NB310_309 := nbr hg BK309 rfl; replace BK308 := bb BK308 hb rfl; replace BK309 := bb BK309 hb rfl; replace HB := hst HB hb rfl; clear hb hbox hg))
 (try simp only [Act.put, List.setIfInBounds_toArray, List.set_cons_zero, List.set_cons_succ])
 go_cut [32] (fun v32 wc => ∃ (kq : Nat) (x32_3 : Bool), v32 = .bool x32_3 ∧ Aside0 (avermentref09_Two.j0 kq a0 x32_3 a1_0 a1_1 a2_0 a2_1 = some (r1, r2, r3)) ∧ Aside0 (kq ≤ k) ∧ Aside0 (wc.heap[gb308]? = some (.cells #[.bool a1_0, .int .i64 a1_1] 23 (0, 0))) ∧ Aside0 (wc.heap[gb309]? = some (.cells #[.bool a2_0, .int .i64 a2_1] 23 (0, 0))) ∧ Aside0 (wc.heap[gb310]? = some (.cells #[.bool false, .int .i64 0] 23 (0, 0))) ∧ Aside0 (Below w.heap.size w wc))
 case first =>
  have H := HC4.out
  clear HC4
  by_cases c8 : a0 < 4
  ·
   rw [if_pos c8] at H
   have c8b0 : decide (a0 < 4) = true := decide_eq_true c8
   clear c8
   (first | rw [c8b0] | (simp only [i64_w, i32_w]; rw [c8b0]) | skip)
   have H' := Aside0.mk H
   clear H
   go_wp2
   go_meet
   case rel => exact ⟨_, (true), (by first | rfl | (simp; done) | (simp [*]; done)), H', ⟨by first | omega | exact Nat.le_refl _⟩, ⟨by (with_reducible repeat (first | refine blk_drewN ?_ _ | refine blk_drew ?_ | refine blk_alloc ?_ _)); exact BK308.out⟩, ⟨by (with_reducible repeat (first | refine blk_drewN ?_ _ | refine blk_drew ?_ | refine blk_alloc ?_ _)); exact BK309.out⟩, ⟨by (with_reducible repeat (first | refine blk_drewN ?_ _ | refine blk_drew ?_ | refine blk_alloc ?_ _)); exact BK310.out⟩, ⟨by repeat (first | (with_reducible first | exact HB.out | apply below_alloc | apply pw_below_drewN | apply below_drew1 | refine below_set ?_ GE308.out | refine below_set ?_ GE309.out | refine below_set ?_ GE310.out) | exact HB.out)⟩⟩
  ·
   rw [if_neg c8] at H
   have c8b0 : decide (a0 < 4) = false := decide_eq_false c8
   clear c8
   (first | rw [c8b0] | (simp only [i64_w, i32_w]; rw [c8b0]) | skip)
   by_cases c9 : a0 > 12
   ·
    rw [if_pos c9] at H
    have c9b0 : decide (12 < a0) = true := decide_eq_true c9
    clear c9
    have H' := Aside0.mk H
    clear H
    go_wp2
    go_meet
    case rel => exact ⟨_, (true), (by first | rfl | (simp; done) | (simp [*]; done)), H', ⟨by first | omega | exact Nat.le_refl _⟩, ⟨by (with_reducible repeat (first | refine blk_drewN ?_ _ | refine blk_drew ?_ | refine blk_alloc ?_ _)); exact BK308.out⟩, ⟨by (with_reducible repeat (first | refine blk_drewN ?_ _ | refine blk_drew ?_ | refine blk_alloc ?_ _)); exact BK309.out⟩, ⟨by (with_reducible repeat (first | refine blk_drewN ?_ _ | refine blk_drew ?_ | refine blk_alloc ?_ _)); exact BK310.out⟩, ⟨by repeat (first | (with_reducible first | exact HB.out | apply below_alloc | apply pw_below_drewN | apply below_drew1 | refine below_set ?_ GE308.out | refine below_set ?_ GE309.out | refine below_set ?_ GE310.out) | exact HB.out)⟩⟩
   ·
    rw [if_neg c9] at H
    have c9b0 : decide (12 < a0) = false := decide_eq_false c9
    clear c9
    by_cases c10 : a0 = 7
    ·
     rw [if_pos c10] at H
     have c10b0 : (a0 == 7) = true := beq_iff_eq.mpr c10
     have c10b1 : (a0 != 7) = false := bne_eq_false_iff_eq.mpr c10
     clear c10
     by_cases c11 : a2_0 = true
     ·
      subst c11
      rw [if_pos rfl] at H
      have H' := Aside0.mk H
      clear H
      have hnb12 := NB309_308.out
      have hnc12 := NB308_309.out
      have hnb13 := NB309_310.out
      have hnc13 := NB310_309.out
      have hcz14_0 : w7.cell? ⟨gb309, 0, none⟩ = some (.bool true) := bc BK309 0 rfl
      have hcz14_1 : w7.cell? ⟨gb309, 1, none⟩ = some (.int .i64 a2_1) := bc BK309 1 rfl
      have hfz14_0 := blk_frozen BK309.out 0
      have hfz14_1 := blk_frozen BK309.out 1
      go_wp2
      go_meet
      case rel => exact ⟨_, ((a2_1 == 0)), (by first | rfl | (simp; done) | (simp [*]; done)), H', ⟨by first | omega | exact Nat.le_refl _⟩, ⟨by (with_reducible repeat (first | refine blk_drewN ?_ _ | refine blk_drew ?_ | refine blk_alloc ?_ _)); exact BK308.out⟩, ⟨by (with_reducible repeat (first | refine blk_drewN ?_ _ | refine blk_drew ?_ | refine blk_alloc ?_ _)); exact BK309.out⟩, ⟨by (with_reducible repeat (first | refine blk_drewN ?_ _ | refine blk_drew ?_ | refine blk_alloc ?_ _)); exact BK310.out⟩, ⟨by repeat (first | (with_reducible first | exact HB.out | apply below_alloc | apply pw_below_drewN | apply below_drew1 | refine below_set ?_ GE308.out | refine below_set ?_ GE309.out | refine below_set ?_ GE310.out) | exact HB.out)⟩⟩
     ·
      replace c11 := Bool.eq_false_iff.mpr c11
      subst c11
      rw [if_neg (show ¬ (false = true) by decide)] at H
      have H' := Aside0.mk H
      clear H
      have hnb15 := NB309_308.out
      have hnc15 := NB308_309.out
      have hnb16 := NB309_310.out
      have hnc16 := NB310_309.out
      have hcz17_0 : w7.cell? ⟨gb309, 0, none⟩ = some (.bool false) := bc BK309 0 rfl
      have hcz17_1 : w7.cell? ⟨gb309, 1, none⟩ = some (.int .i64 a2_1) := bc BK309 1 rfl
      have hfz17_0 := blk_frozen BK309.out 0
      have hfz17_1 := blk_frozen BK309.out 1
      go_wp2
      go_meet
      case rel => exact ⟨_, (false), (by first | rfl | (simp; done) | (simp [*]; done)), H', ⟨by first | omega | exact Nat.le_refl _⟩, ⟨by (with_reducible repeat (first | refine blk_drewN ?_ _ | refine blk_drew ?_ | refine blk_alloc ?_ _)); exact BK308.out⟩, ⟨by (with_reducible repeat (first | refine blk_drewN ?_ _ | refine blk_drew ?_ | refine blk_alloc ?_ _)); exact BK309.out⟩, ⟨by (with_reducible repeat (first | refine blk_drewN ?_ _ | refine blk_drew ?_ | refine blk_alloc ?_ _)); exact BK310.out⟩, ⟨by repeat (first | (with_reducible first | exact HB.out | apply below_alloc | apply pw_below_drewN | apply below_drew1 | refine below_set ?_ GE308.out | refine below_set ?_ GE309.out | refine below_set ?_ GE310.out) | exact HB.out)⟩⟩
    ·
     rw [if_neg c10] at H
     have c10b0 : (a0 == 7) = false := beq_eq_false_iff_ne.mpr c10
     have c10b1 : (a0 != 7) = true := bne_iff_ne.mpr c10
     by_cases c18 : a0 = 8
     ·
      rw [if_pos c18] at H
      have c18b0 : (a0 == 8) = true := beq_iff_eq.mpr c18
      have c18b1 : (a0 != 8) = false := bne_eq_false_iff_eq.mpr c18
      clear c18
      by_cases c19 : a2_0 = true
      ·
       subst c19
       rw [if_pos rfl] at H
       have H' := Aside0.mk H
       clear H
       have hnb20 := NB309_308.out
       have hnc20 := NB308_309.out
       have hnb21 := NB309_310.out
       have hnc21 := NB310_309.out
       have hcz22_0 : w7.cell? ⟨gb309, 0, none⟩ = some (.bool true) := bc BK309 0 rfl
       have hcz22_1 : w7.cell? ⟨gb309, 1, none⟩ = some (.int .i64 a2_1) := bc BK309 1 rfl
       have hfz22_0 := blk_frozen BK309.out 0
       have hfz22_1 := blk_frozen BK309.out 1
       go_wp2
       go_meet
       case rel => exact ⟨_, ((a2_1 == 0)), (by first | rfl | (simp; done) | (simp [*]; done)), H', ⟨by first | omega | exact Nat.le_refl _⟩, ⟨by (with_reducible repeat (first | refine blk_drewN ?_ _ | refine blk_drew ?_ | refine blk_alloc ?_ _)); exact BK308.out⟩, ⟨by (with_reducible repeat (first | refine blk_drewN ?_ _ | refine blk_drew ?_ | refine blk_alloc ?_ _)); exact BK309.out⟩, ⟨by (with_reducible repeat (first | refine blk_drewN ?_ _ | refine blk_drew ?_ | refine blk_alloc ?_ _)); exact BK310.out⟩, ⟨by repeat (first | (with_reducible first | exact HB.out | apply below_alloc | apply pw_below_drewN | apply below_drew1 | refine below_set ?_ GE308.out | refine below_set ?_ GE309.out | refine below_set ?_ GE310.out) | exact HB.out)⟩⟩
      ·
       replace c19 := Bool.eq_false_iff.mpr c19
       subst c19
       rw [if_neg (show ¬ (false = true) by decide)] at H
       have H' := Aside0.mk H
       clear H
       have hnb23 := NB309_308.out
       have hnc23 := NB308_309.out
       have hnb24 := NB309_310.out
       have hnc24 := NB310_309.out
       have hcz25_0 : w7.cell? ⟨gb309, 0, none⟩ = some (.bool false) := bc BK309 0 rfl
       have hcz25_1 : w7.cell? ⟨gb309, 1, none⟩ = some (.int .i64 a2_1) := bc BK309 1 rfl
       have hfz25_0 := blk_frozen BK309.out 0
       have hfz25_1 := blk_frozen BK309.out 1
       go_wp2
       go_meet
       case rel => exact ⟨_, (false), (by first | rfl | (simp; done) | (simp [*]; done)), H', ⟨by first | omega | exact Nat.le_refl _⟩, ⟨by (with_reducible repeat (first | refine blk_drewN ?_ _ | refine blk_drew ?_ | refine blk_alloc ?_ _)); exact BK308.out⟩, ⟨by (with_reducible repeat (first | refine blk_drewN ?_ _ | refine blk_drew ?_ | refine blk_alloc ?_ _)); exact BK309.out⟩, ⟨by (with_reducible repeat (first | refine blk_drewN ?_ _ | refine blk_drew ?_ | refine blk_alloc ?_ _)); exact BK310.out⟩, ⟨by repeat (first | (with_reducible first | exact HB.out | apply below_alloc | apply pw_below_drewN | apply below_drew1 | refine below_set ?_ GE308.out | refine below_set ?_ GE309.out | refine below_set ?_ GE310.out) | exact HB.out)⟩⟩
     ·
      rw [if_neg c18] at H
      have c18b0 : (a0 == 8) = false := beq_eq_false_iff_ne.mpr c18
      have c18b1 : (a0 != 8) = true := bne_iff_ne.mpr c18
      have H' := Aside0.mk H
      clear H
      go_wp2
      go_meet
      case rel => exact ⟨_, (false), (by first | rfl | (simp; done) | (simp [*]; done)), H', ⟨by first | omega | exact Nat.le_refl _⟩, ⟨by (with_reducible repeat (first | refine blk_drewN ?_ _ | refine blk_drew ?_ | refine blk_alloc ?_ _)); exact BK308.out⟩, ⟨by (with_reducible repeat (first | refine blk_drewN ?_ _ | refine blk_drew ?_ | refine blk_alloc ?_ _)); exact BK309.out⟩, ⟨by (with_reducible repeat (first | refine blk_drewN ?_ _ | refine blk_drew ?_ | refine blk_alloc ?_ _)); exact BK310.out⟩, ⟨by repeat (first | (with_reducible first | exact HB.out | apply below_alloc | apply pw_below_drewN | apply below_drew1 | refine below_set ?_ GE308.out | refine below_set ?_ GE309.out | refine below_set ?_ GE310.out) | exact HB.out)⟩⟩
 case rest =>
  clear HC4
  try clear c1
  try clear c2
  try clear p2
  try clear c3
  try clear c8
  try clear c8b0
  try clear c9
  try clear c9b0
  try clear c10
  try clear c10b0
  try clear c10b1
  try clear c11
  try clear c12
  try clear c13
  try clear c15
  try clear c16
  try clear c18
  try clear c18b0
  try clear c18b1
  try clear c19
  try clear c20
  try clear c21
  try clear c23
  try clear c24
  try clear hcz14_0
  try clear hcz14_1
  try clear hcz17_0
  try clear hcz17_1
  try clear hcz22_0
  try clear hcz22_1
  try clear hcz25_0
  try clear hcz25_1
  try clear hfz14_0
  try clear hfz14_1
  try clear hfz17_0
  try clear hfz17_1
  try clear hfz22_0
  try clear hfz22_1
  try clear hfz25_0
  try clear hfz25_1
  obtain ⟨kq, x32_3, rfl, HA, HJ3, BK308, BK309, BK310, HB⟩ := hcut
  cases kq with
  | zero => exact absurd HA.out (by simp [avermentref09_Two.j0])
  | succ kj3 =>
   have H := HA.out
   clear HA
   simp only [avermentref09_Two.j0] at H
   by_cases c26 : x32_3 = true
   ·
    subst c26
    rw [if_pos rfl] at H
    simp only [Option.some.injEq, Prod.mk.injEq] at H
    obtain ⟨rfl, rfl, rfl⟩ := H
    have hnb27 := NB310_308.out
    have hnc27 := NB308_310.out
    have hnb28 := NB310_309.out
    have hnc28 := NB309_310.out
    have hcz29_0 : wc.cell? ⟨gb310, 0, none⟩ = some (.bool false) := bc BK310 0 rfl
    have hcz29_1 : wc.cell? ⟨gb310, 1, none⟩ = some (.int .i64 0) := bc BK310 1 rfl
    have hfz29_0 := blk_frozen BK310.out 0
    have hfz29_1 := blk_frozen BK310.out 1
    go_wp2
    refine bodyPost_ret (results_ct rfl _ _ gb310 23 #[.bool false, .int .i64 0] (0, 0) _ rfl (by (with_reducible repeat (first | refine blk_drewN ?_ _ | refine blk_drew ?_ | refine blk_alloc ?_ _)); refine blk_put (cs := #[.bool false, .int .i64 0]) ?_ 1 _ rfl; (with_reducible repeat (first | refine blk_drewN ?_ _ | refine blk_drew ?_ | refine blk_alloc ?_ _)); refine blk_put (cs := #[.bool false, .int .i64 0]) ?_ 0 _ rfl; (with_reducible repeat (first | refine blk_drewN ?_ _ | refine blk_drew ?_ | refine blk_alloc ?_ _)); exact BK310.out) Try.underlying23 rfl (by kernel_rfl)) rfl ?_
    exact ⟨by first | rfl | (simp [errW_none, errW_some] <;> rfl) | (simp [*, errW_none, errW_some] <;> rfl), by repeat (first | (with_reducible first | exact HB.out | apply below_alloc | apply pw_below_drewN | apply below_drew1 | refine below_set ?_ GE308.out | refine below_set ?_ GE309.out | refine below_set ?_ GE310.out) | exact HB.out)⟩
   ·
    replace c26 := Bool.eq_false_iff.mpr c26
    subst c26
    rw [if_neg (show ¬ (false = true) by decide)] at H
    by_cases c30 : a1_0 = true
    ·
     subst c30
     rw [if_pos rfl] at H
     by_cases c31 : a2_0 = true
     ·
      subst c31
      rw [if_pos rfl] at H
      replace H := Option.bind_eq_some_iff.mp H
      obtain ⟨⟨t311, t312⟩, A320, H⟩ := H
      (try dsimp only at H)
      have A32 := Aside0.mk A320
      clear A320
      simp only [Option.some.injEq, Prod.mk.injEq] at H
      obtain ⟨rfl, rfl, rfl⟩ := H
      have hnb33 := NB308_309.out
      have hnc33 := NB309_308.out
      have hnb34 := NB308_310.out
      have hnc34 := NB310_308.out
      have hcz35_0 : wc.cell? ⟨gb308, 0, none⟩ = some (.bool true) := bc BK308 0 rfl
      have hcz35_1 : wc.cell? ⟨gb308, 1, none⟩ = some (.int .i64 a1_1) := bc BK308 1 rfl
      have hfz35_0 := blk_frozen BK308.out 0
      have hfz35_1 := blk_frozen BK308.out 1
      have hnb36 := NB309_310.out
      have hnc36 := NB310_309.out
      have hcz37_0 : wc.cell? ⟨gb309, 0, none⟩ = some (.bool true) := bc BK309 0 rfl
      have hcz37_1 : wc.cell? ⟨gb309, 1, none⟩ = some (.int .i64 a2_1) := bc BK309 1 rfl
      have hfz37_0 := blk_frozen BK309.out 0
      have hfz37_1 := blk_frozen BK309.out 1
      go_wp2_with (first | ((with_reducible refine gate_callee (f := 34) rfl ?_); refine goesL_ (some 49) rfl rfl Try.func34 (by kernel_rfl) rfl #[.int .i64 a0, .int .i64 a1_1, .int .i64 a2_1] rfl (mapq rfl) ?_; (with_reducible refine (avermentref07_Arith.calls a0 a1_1 a2_1 t311 t312 _ A32.out).mono ?_); rintro e w' ⟨rfl, ⟨nd, rfl⟩⟩; refine ⟨_, rfl, ?_⟩; (try (rw [drewN_self wc]; generalize hq_ : World.drewN wc _ = wc; have n0_ : Aside0 (wc.heap[gb308]? = some (.cells #[.bool true, .int .i64 a1_1] 23 (0, 0))) := ⟨by rw [← hq_]; exact (by (with_reducible repeat (first | refine blk_drewN ?_ _ | refine blk_drew ?_ | refine blk_alloc ?_ _)); exact BK308.out)⟩; have n1_ : Aside0 (wc.heap[gb309]? = some (.cells #[.bool true, .int .i64 a2_1] 23 (0, 0))) := ⟨by rw [← hq_]; exact (by (with_reducible repeat (first | refine blk_drewN ?_ _ | refine blk_drew ?_ | refine blk_alloc ?_ _)); exact BK309.out)⟩; have n2_ : Aside0 (wc.heap[gb310]? = some (.cells #[.bool false, .int .i64 0] 23 (0, 0))) := ⟨by rw [← hq_]; exact (by (with_reducible repeat (first | refine blk_drewN ?_ _ | refine blk_drew ?_ | refine blk_alloc ?_ _)); exact BK310.out)⟩; have n3_ : Aside0 (Below w.heap.size w wc) := ⟨by rw [← hq_]; exact (by repeat (first | (with_reducible first | exact HB.out | apply below_alloc | apply pw_below_drewN | apply below_drew1 | refine below_set ?_ GE308.out | refine below_set ?_ GE309.out | refine below_set ?_ GE310.out) | exact HB.out))⟩; clear BK308 BK309 BK310 HB hq_; have BK308 := n0_; have BK309 := n1_; have BK310 := n2_; have HB := n3_; clear n0_ n1_ n2_ n3_)); have hcz38_0 : wc.cell? ⟨gb310, 0, none⟩ = some (.bool false) := (blk_cell BK310.out 0).trans rfl; have hcz38_1 : wc.cell? ⟨gb310, 1, none⟩ = some (.int .i64 0) := (blk_cell BK310.out 1).trans rfl; have hfz38_0 := blk_frozen BK310.out 0; have hfz38_1 := blk_frozen BK310.out 1))
      refine bodyPost_ret (results_ct rfl _ _ gb310 23 #[.bool true, .int .i64 t311] (0, 0) _ rfl (by (with_reducible repeat (first | refine blk_drewN ?_ _ | refine blk_drew ?_ | refine blk_alloc ?_ _)); refine blk_put (cs := #[.bool true, .int .i64 0]) ?_ 1 _ rfl; (with_reducible repeat (first | refine blk_drewN ?_ _ | refine blk_drew ?_ | refine blk_alloc ?_ _)); refine blk_put (cs := #[.bool false, .int .i64 0]) ?_ 0 _ rfl; (with_reducible repeat (first | refine blk_drewN ?_ _ | refine blk_drew ?_ | refine blk_alloc ?_ _)); exact BK310.out) Try.underlying23 rfl (by kernel_rfl)) rfl ?_
      exact ⟨by first | rfl | (simp [errW_none, errW_some] <;> rfl) | (simp [*, errW_none, errW_some] <;> rfl), by repeat (first | (with_reducible first | exact HB.out | apply below_alloc | apply pw_below_drewN | apply below_drew1 | refine below_set ?_ GE308.out | refine below_set ?_ GE309.out | refine below_set ?_ GE310.out) | exact HB.out)⟩
     ·
      replace c31 := Bool.eq_false_iff.mpr c31
      subst c31
      rw [if_neg (show ¬ (false = true) by decide)] at H
      simp only [Option.some.injEq, Prod.mk.injEq] at H
      obtain ⟨rfl, rfl, rfl⟩ := H
      have hnb39 := NB308_309.out
      have hnc39 := NB309_308.out
      have hnb40 := NB308_310.out
      have hnc40 := NB310_308.out
      have hcz41_0 : wc.cell? ⟨gb308, 0, none⟩ = some (.bool true) := bc BK308 0 rfl
      have hcz41_1 : wc.cell? ⟨gb308, 1, none⟩ = some (.int .i64 a1_1) := bc BK308 1 rfl
      have hfz41_0 := blk_frozen BK308.out 0
      have hfz41_1 := blk_frozen BK308.out 1
      have hnb42 := NB309_310.out
      have hnc42 := NB310_309.out
      have hcz43_0 : wc.cell? ⟨gb309, 0, none⟩ = some (.bool false) := bc BK309 0 rfl
      have hcz43_1 : wc.cell? ⟨gb309, 1, none⟩ = some (.int .i64 a2_1) := bc BK309 1 rfl
      have hfz43_0 := blk_frozen BK309.out 0
      have hfz43_1 := blk_frozen BK309.out 1
      have hcz44_0 : wc.cell? ⟨gb310, 0, none⟩ = some (.bool false) := bc BK310 0 rfl
      have hcz44_1 : wc.cell? ⟨gb310, 1, none⟩ = some (.int .i64 0) := bc BK310 1 rfl
      have hfz44_0 := blk_frozen BK310.out 0
      have hfz44_1 := blk_frozen BK310.out 1
      go_wp2
      refine bodyPost_ret (results_ct rfl _ _ gb310 23 #[.bool false, .int .i64 0] (0, 0) _ rfl (by (with_reducible repeat (first | refine blk_drewN ?_ _ | refine blk_drew ?_ | refine blk_alloc ?_ _)); refine blk_put (cs := #[.bool false, .int .i64 0]) ?_ 1 _ rfl; (with_reducible repeat (first | refine blk_drewN ?_ _ | refine blk_drew ?_ | refine blk_alloc ?_ _)); refine blk_put (cs := #[.bool false, .int .i64 0]) ?_ 0 _ rfl; (with_reducible repeat (first | refine blk_drewN ?_ _ | refine blk_drew ?_ | refine blk_alloc ?_ _)); exact BK310.out) Try.underlying23 rfl (by kernel_rfl)) rfl ?_
      exact ⟨by first | rfl | (simp [errW_none, errW_some] <;> rfl) | (simp [*, errW_none, errW_some] <;> rfl), by repeat (first | (with_reducible first | exact HB.out | apply below_alloc | apply pw_below_drewN | apply below_drew1 | refine below_set ?_ GE308.out | refine below_set ?_ GE309.out | refine below_set ?_ GE310.out) | exact HB.out)⟩
    ·
     replace c30 := Bool.eq_false_iff.mpr c30
     subst c30
     rw [if_neg (show ¬ (false = true) by decide)] at H
     simp only [Option.some.injEq, Prod.mk.injEq] at H
     obtain ⟨rfl, rfl, rfl⟩ := H
     have hnb45 := NB308_309.out
     have hnc45 := NB309_308.out
     have hnb46 := NB308_310.out
     have hnc46 := NB310_308.out
     have hcz47_0 : wc.cell? ⟨gb308, 0, none⟩ = some (.bool false) := bc BK308 0 rfl
     have hcz47_1 : wc.cell? ⟨gb308, 1, none⟩ = some (.int .i64 a1_1) := bc BK308 1 rfl
     have hfz47_0 := blk_frozen BK308.out 0
     have hfz47_1 := blk_frozen BK308.out 1
     have hnb48 := NB310_309.out
     have hnc48 := NB309_310.out
     have hcz49_0 : wc.cell? ⟨gb310, 0, none⟩ = some (.bool false) := bc BK310 0 rfl
     have hcz49_1 : wc.cell? ⟨gb310, 1, none⟩ = some (.int .i64 0) := bc BK310 1 rfl
     have hfz49_0 := blk_frozen BK310.out 0
     have hfz49_1 := blk_frozen BK310.out 1
     go_wp2
     refine bodyPost_ret (results_ct rfl _ _ gb310 23 #[.bool false, .int .i64 0] (0, 0) _ rfl (by (with_reducible repeat (first | refine blk_drewN ?_ _ | refine blk_drew ?_ | refine blk_alloc ?_ _)); refine blk_put (cs := #[.bool false, .int .i64 0]) ?_ 1 _ rfl; (with_reducible repeat (first | refine blk_drewN ?_ _ | refine blk_drew ?_ | refine blk_alloc ?_ _)); refine blk_put (cs := #[.bool false, .int .i64 0]) ?_ 0 _ rfl; (with_reducible repeat (first | refine blk_drewN ?_ _ | refine blk_drew ?_ | refine blk_alloc ?_ _)); exact BK310.out) Try.underlying23 rfl (by kernel_rfl)) rfl ?_
     exact ⟨by first | rfl | (simp [errW_none, errW_some] <;> rfl) | (simp [*, errW_none, errW_some] <;> rfl), by repeat (first | (with_reducible first | exact HB.out | apply below_alloc | apply pw_below_drewN | apply below_drew1 | refine below_set ?_ GE308.out | refine below_set ?_ GE309.out | refine below_set ?_ GE310.out) | exact HB.out)⟩

end Go.Proofs.Ytpacmhhaabhdjaa.KN
