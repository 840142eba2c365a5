-- Written by a program of this session: plain functions and their walks. Lean checks it.
import Derived.Test.YtpacmhhaabhdjaaKN0
import Derived.Test.YtpacmhhaabhdjaaKN2
namespace Go.Proofs.Ytpacmhhaabhdjaa.KN
open Go.RowKit Go.Proofs.YtpacmhhaabhdjaaW.PrintWords Go.Proofs.YtpacmhhaabhdjaaW.PrintLast Go.Proofs.YtpacmhhaabhdjaaW.PrintMore
attribute [local go_sem] max2_int min2_int max_two min_two max_three min_three max_four min_four   -- for this text's walks alone
set_option linter.unusedVariables false
set_option linter.unusedSimpArgs false

attribute [local go_sem high] eqA24
/-! ### known_Any: function 20 -/
def known_Any.f  : Option (Bool × Int) := some (false, 0)
set_option maxHeartbeats 8000000 in
set_option maxRecDepth 100000 in
theorem known_Any.calls  (r1 : Bool) (r2 : Int) (w : World) (h : known_Any.f  = some (r1, r2)) :
  Calls Try.prog 20 #[] w fun e w' => e = .returned (.agg #[.bool r1, .int .i64 r2]) ∧ Below w.heap.size w w' := by
 have hu24 := Try.underlying24
 have HB := Aside0.mk (Below.refl w.heap.size w)
 have H : (some (false, 0)) = some (r1, r2) := h
 clear h
 simp only [Option.some.injEq, Prod.mk.injEq] at H
 obtain ⟨rfl, rfl⟩ := H
 go_enter Try.func20, Try.ntmps20
 go_wp2_with (first | ((with_reducible refine gate_dst (N := 0) rfl ?_); refine box_event ?hg (N := 0) ?hd (cs := #[.bool false, .int .i64 0]) (t := 24) ?hr ?_; (case hd => rfl); (case hg => rfl); (case hr => first | (go_simp; done) | (go_simp; rfl)); intro gb101 hg w1 hbox hb; have BK101 := Aside0.mk (hbox); have GW101 := geb hg HB rfl; have GE101 := geb hg HB rfl; replace HB := hst HB hb rfl; clear hb hbox hg; have hcz2_0 : w1.cell? ⟨gb101, 0, none⟩ = some (.bool false) := (blk_cell BK101.out 0).trans rfl; have hcz2_1 : w1.cell? ⟨gb101, 1, none⟩ = some (.int .i64 0) := (blk_cell BK101.out 1).trans rfl; have hfz2_0 := blk_frozen BK101.out 0; have hfz2_1 := blk_frozen BK101.out 1))
 refine bodyPost_ret (results_cell_row rfl _ _ gb101 24 #[.bool false, .int .i64 0] (0, 0) _ rfl (by (with_reducible repeat (first | refine blk_drewN ?_ _ | refine blk_drew ?_ | refine blk_alloc ?_ _)); refine blk_put (cs := #[.bool false, .int .i64 0]) ?_ 1 _ rfl; (with_reducible repeat (first | refine blk_drewN ?_ _ | refine blk_drew ?_ | refine blk_alloc ?_ _)); refine blk_put (cs := #[.bool false, .int .i64 0]) ?_ 0 _ rfl; (with_reducible repeat (first | refine blk_drewN ?_ _ | refine blk_drew ?_ | refine blk_alloc ?_ _)); exact BK101.out) Try.underlying24 rfl (by kernel_rfl)) rfl ?_
 exact ⟨by first | rfl | (simp [errW_none, errW_some] <;> rfl) | (simp [*, errW_none, errW_some] <;> rfl), by repeat (first | (with_reducible first | exact HB.out | apply below_alloc | apply pw_below_drewN | apply below_drew1 | refine below_set ?_ GE101.out) | exact HB.out)⟩

/-! ### known_Has: function 21 -/
def known_Has.f (a0_0 : Bool) (a0_1 : Int) (a1 : Int) : Option (Bool) := if a0_0 = true then (some (a0_1 == a1)) else (some true)
set_option maxHeartbeats 8000000 in
set_option maxRecDepth 100000 in
theorem known_Has.calls (a0_0 : Bool) (a0_1 : Int) (a1 : Int) (r : Bool) (w : World) (h : known_Has.f a0_0 a0_1 a1 = some r) :
  Calls Try.prog 21 #[.agg #[.bool a0_0, .int .i64 a0_1], .int .i64 a1] w fun e w' => e = .returned (.bool r) ∧ Below w.heap.size w w' := by
 have hu24 := Try.underlying24
 have HB := Aside0.mk (Below.refl w.heap.size w)
 have H : (if a0_0 = true then (some (a0_1 == a1)) else (some true)) = some r := h
 clear h
 by_cases c3 : a0_0 = true
 ·
  subst c3
  rw [if_pos rfl] at H
  obtain rfl := Option.some.inj H
  go_enter Try.func21, Try.ntmps21
  go_wp2_with (first | ((with_reducible refine gate_dst (N := 2) rfl ?_); refine box_event ?hg (N := 2) ?hd (cs := #[.bool true, .int .i64 a0_1]) (t := 24) ?hr ?_; (case hd => rfl); (case hg => rfl); (case hr => first | (go_simp; done) | (go_simp; rfl)); intro gb102 hg w4 hbox hb; have BK102 := Aside0.mk (hbox); have GW102 := geb hg HB rfl; have GE102 := geb hg HB rfl; replace HB := hst HB hb rfl; clear hb hbox hg; have hcz5_0 : w4.cell? ⟨gb102, 0, none⟩ = some (.bool true) := (blk_cell BK102.out 0).trans rfl; have hcz5_1 : w4.cell? ⟨gb102, 1, none⟩ = some (.int .i64 a0_1) := (blk_cell BK102.out 1).trans rfl; have hfz5_0 := blk_frozen BK102.out 0; have hfz5_1 := blk_frozen BK102.out 1))
  go_ret
  exact ⟨by first | rfl | (simp [errW_none, errW_some] <;> rfl) | (simp [*, errW_none, errW_some] <;> rfl), by repeat (first | (with_reducible first | exact HB.out | apply below_alloc | apply pw_below_drewN | apply below_drew1 | refine below_set ?_ GE102.out) | exact HB.out)⟩
 ·
  replace c3 := Bool.eq_false_iff.mpr c3
  subst c3
  rw [if_neg (show ¬ (false = true) by decide)] at H
  obtain rfl := Option.some.inj H
  go_enter Try.func21, Try.ntmps21
  go_wp2_with (first | ((with_reducible refine gate_dst (N := 2) rfl ?_); refine box_event ?hg (N := 2) ?hd (cs := #[.bool false, .int .i64 a0_1]) (t := 24) ?hr ?_; (case hd => rfl); (case hg => rfl); (case hr => first | (go_simp; done) | (go_simp; rfl)); intro gb102 hg w6 hbox hb; have BK102 := Aside0.mk (hbox); have GW102 := geb hg HB rfl; have GE102 := geb hg HB rfl; replace HB := hst HB hb rfl; clear hb hbox hg; have hcz7_0 : w6.cell? ⟨gb102, 0, none⟩ = some (.bool false) := (blk_cell BK102.out 0).trans rfl; have hcz7_1 : w6.cell? ⟨gb102, 1, none⟩ = some (.int .i64 a0_1) := (blk_cell BK102.out 1).trans rfl; have hfz7_0 := blk_frozen BK102.out 0; have hfz7_1 := blk_frozen BK102.out 1))
  go_ret
  exact ⟨by first | rfl | (simp [errW_none, errW_some] <;> rfl) | (simp [*, errW_none, errW_some] <;> rfl), by repeat (first | (with_reducible first | exact HB.out | apply below_alloc | apply pw_below_drewN | apply below_drew1 | refine below_set ?_ GE102.out) | exact HB.out)⟩

/-! ### known_Known_tidy: function 60 -/
def known_Known_tidy.f (a0_0 : Bool) (a0_1 : Int) : Option (Bool × Int) := if a0_0 = true then (some (a0_0, a0_1)) else (some (a0_0, 0))
set_option maxHeartbeats 8000000 in
set_option maxRecDepth 100000 in
theorem known_Known_tidy.calls (a0_0 : Bool) (a0_1 : Int) (r1 : Bool) (r2 : Int) (w : World) (h : known_Known_tidy.f a0_0 a0_1 = some (r1, r2)) :
  Calls Try.prog 60 #[.agg #[.bool a0_0, .int .i64 a0_1]] w fun e w' => e = .returned (.agg #[.bool r1, .int .i64 r2]) ∧ Below w.heap.size w w' := by
 have hu24 := Try.underlying24
 have HB := Aside0.mk (Below.refl w.heap.size w)
 have H : (if a0_0 = true then (some (a0_0, a0_1)) else (some (a0_0, 0))) = some (r1, r2) := h
 clear h
 by_cases c2 : a0_0 = true
 ·
  subst c2
  rw [if_pos rfl] at H
  simp only [Option.some.injEq, Prod.mk.injEq] at H
  obtain ⟨rfl, rfl⟩ := H
  go_enter Try.func60, Try.ntmps60
  go_wp2_with (first | ((with_reducible refine gate_dst (N := 1) rfl ?_); refine box_event ?hg (N := 1) ?hd (cs := #[.bool true, .int .i64 a0_1]) (t := 24) ?hr ?_; (case hd => rfl); (case hg => rfl); (case hr => first | (go_simp; done) | (go_simp; rfl)); intro gb103 hg w3 hbox hb; have BK103 := Aside0.mk (hbox); have GW103 := geb hg HB rfl; have GE103 := geb hg HB rfl; replace HB := hst HB hb rfl; clear hb hbox hg) | ((with_reducible refine gate_dst (N := 2) rfl ?_); refine box_event ?hg (N := 2) ?hd (cs := #[.bool false, .int .i64 0]) (t := 24) ?hr ?_; (case hd => rfl); (case hg => rfl); (case hr => first | (go_simp; done) | (go_simp; rfl)); intro gb104 hg w4 hbox hb; have BK104 := Aside0.mk (hbox); have GW104 := geb hg HB rfl; have GE104 := geb hg HB rfl; have NB103_104 := nbl hg BK103 rfl; have NB104_103 := nbr hg BK103 rfl; replace BK103 := bb BK103 hb rfl; replace HB := hst HB hb rfl; clear hb hbox hg; have hnb5 := NB103_104.out; have hnc5 := NB104_103.out; have hcz6_0 : w4.cell? ⟨gb103, 0, none⟩ = some (.bool true) := (blk_cell BK103.out 0).trans rfl; have hcz6_1 : w4.cell? ⟨gb103, 1, none⟩ = some (.int .i64 a0_1) := (blk_cell BK103.out 1).trans rfl; have hfz6_0 := blk_frozen BK103.out 0; have hfz6_1 := blk_frozen BK103.out 1; have hcz7_0 : w4.cell? ⟨gb104, 0, none⟩ = some (.bool false) := (blk_cell BK104.out 0).trans rfl; have hcz7_1 : w4.cell? ⟨gb104, 1, none⟩ = some (.int .i64 0) := (blk_cell BK104.out 1).trans rfl; have hfz7_0 := blk_frozen BK104.out 0; have hfz7_1 := blk_frozen BK104.out 1))
  refine bodyPost_ret (results_cell_row rfl _ _ gb104 24 #[.bool true, .int .i64 a0_1] (0, 0) _ rfl (by (with_reducible repeat (first | refine blk_drewN ?_ _ | refine blk_drew ?_ | refine blk_alloc ?_ _)); refine blk_put (cs := #[.bool true, .int .i64 0]) ?_ 1 _ rfl; (with_reducible repeat (first | refine blk_drewN ?_ _ | refine blk_drew ?_ | refine blk_alloc ?_ _)); refine blk_put (cs := #[.bool false, .int .i64 0]) ?_ 0 _ rfl; (with_reducible repeat (first | refine blk_drewN ?_ _ | refine blk_drew ?_ | refine blk_alloc ?_ _)); exact BK104.out) Try.underlying24 rfl (by kernel_rfl)) rfl ?_
  exact ⟨by first | rfl | (simp [errW_none, errW_some] <;> rfl) | (simp [*, errW_none, errW_some] <;> rfl), by repeat (first | (with_reducible first | exact HB.out | apply below_alloc | apply pw_below_drewN | apply below_drew1 | refine below_set ?_ GE103.out | refine below_set ?_ GE104.out) | exact HB.out)⟩
 ·
  replace c2 := Bool.eq_false_iff.mpr c2
  subst c2
  rw [if_neg (show ¬ (false = true) by decide)] at H
  simp only [Option.some.injEq, Prod.mk.injEq] at H
  obtain ⟨rfl, rfl⟩ := H
  go_enter Try.func60, Try.ntmps60
  go_wp2_with (first | ((with_reducible refine gate_dst (N := 1) rfl ?_); refine box_event ?hg (N := 1) ?hd (cs := #[.bool false, .int .i64 a0_1]) (t := 24) ?hr ?_; (case hd => rfl); (case hg => rfl); (case hr => first | (go_simp; done) | (go_simp; rfl)); intro gb103 hg w8 hbox hb; have BK103 := Aside0.mk (hbox); have GW103 := geb hg HB rfl; have GE103 := geb hg HB rfl; replace HB := hst HB hb rfl; clear hb hbox hg) | ((with_reducible refine gate_dst (N := 2) rfl ?_); refine box_event ?hg (N := 2) ?hd (cs := #[.bool false, .int .i64 0]) (t := 24) ?hr ?_; (case hd => rfl); (case hg => rfl); (case hr => first | (go_simp; done) | (go_simp; rfl)); intro gb104 hg w9 hbox hb; have BK104 := Aside0.mk (hbox); have GW104 := geb hg HB rfl; have GE104 := geb hg HB rfl; have NB103_104 := nbl hg BK103 rfl; have NB104_103 := nbr hg BK103 rfl; replace BK103 := bb BK103 hb rfl; replace HB := hst HB hb rfl; clear hb hbox hg; have hnb10 := NB103_104.out; have hnc10 := NB104_103.out; have hcz11_0 : w9.cell? ⟨gb103, 0, none⟩ = some (.bool false) := (blk_cell BK103.out 0).trans rfl; have hcz11_1 : w9.cell? ⟨gb103, 1, none⟩ = some (.int .i64 a0_1) := (blk_cell BK103.out 1).trans rfl; have hfz11_0 := blk_frozen BK103.out 0; have hfz11_1 := blk_frozen BK103.out 1; have hcz12_0 : w9.cell? ⟨gb104, 0, none⟩ = some (.bool false) := (blk_cell BK104.out 0).trans rfl; have hcz12_1 : w9.cell? ⟨gb104, 1, none⟩ = some (.int .i64 0) := (blk_cell BK104.out 1).trans rfl; have hfz12_0 := blk_frozen BK104.out 0; have hfz12_1 := blk_frozen BK104.out 1))
  refine bodyPost_ret (results_cell_row rfl _ _ gb104 24 #[.bool false, .int .i64 0] (0, 0) _ rfl (by (with_reducible repeat (first | refine blk_drewN ?_ _ | refine blk_drew ?_ | refine blk_alloc ?_ _)); refine blk_put (cs := #[.bool false, .int .i64 0]) ?_ 1 _ rfl; (with_reducible repeat (first | refine blk_drewN ?_ _ | refine blk_drew ?_ | refine blk_alloc ?_ _)); refine blk_put (cs := #[.bool false, .int .i64 0]) ?_ 0 _ rfl; (with_reducible repeat (first | refine blk_drewN ?_ _ | refine blk_drew ?_ | refine blk_alloc ?_ _)); refine blk_far ?_ NB104_103.out _; (with_reducible repeat (first | refine blk_drewN ?_ _ | refine blk_drew ?_ | refine blk_alloc ?_ _)); exact BK104.out) Try.underlying24 rfl (by kernel_rfl)) rfl ?_
  exact ⟨by first | rfl | (simp [errW_none, errW_some] <;> rfl) | (simp [*, errW_none, errW_some] <;> rfl), by repeat (first | (with_reducible first | exact HB.out | apply below_alloc | apply pw_below_drewN | apply below_drew1 | refine below_set ?_ GE103.out | refine below_set ?_ GE104.out) | exact HB.out)⟩

/-! ### known_Meet: function 13 -/
def known_Meet.f (a0_0 : Bool) (a0_1 : Int) (a1_0 : Bool) (a1_1 : Int) : Option (Bool × Int × Bool) := if a0_0 = true then ((known_Has.f a1_0 a1_1 a0_1).bind fun t108 => (if t108 = true then (some (a0_0, a0_1, true)) else ((known_Any.f).bind fun bt109 => (some (bt109.1, bt109.2, false))))) else ((known_Known_tidy.f a1_0 a1_1).bind fun bt111 => (some (bt111.1, bt111.2, true)))
set_option maxHeartbeats 8000000 in
set_option maxRecDepth 100000 in
theorem known_Meet.calls (a0_0 : Bool) (a0_1 : Int) (a1_0 : Bool) (a1_1 : Int) (r1 : Bool) (r2 : Int) (r3 : Bool) (w : World) (h : known_Meet.f a0_0 a0_1 a1_0 a1_1 = some (r1, r2, r3)) :
  Calls Try.prog 13 #[.agg #[.bool a0_0, .int .i64 a0_1], .agg #[.bool a1_0, .int .i64 a1_1]] w fun e w' => e = .returned (.tuple #[.agg #[.bool r1, .int .i64 r2], .bool r3]) ∧ Below w.heap.size w w' := by
 have hu24 := Try.underlying24
 have HB := Aside0.mk (Below.refl w.heap.size w)
 have H : (if a0_0 = true then ((known_Has.f a1_0 a1_1 a0_1).bind fun t108 => (if t108 = true then (some (a0_0, a0_1, true)) else ((known_Any.f).bind fun bt109 => (some (bt109.1, bt109.2, false))))) else ((known_Known_tidy.f a1_0 a1_1).bind fun bt111 => (some (bt111.1, bt111.2, true)))) = some (r1, r2, r3) := h
 clear h
 by_cases c3 : a0_0 = true
 ·
  subst c3
  rw [if_pos rfl] at H
  replace H := Option.bind_eq_some_iff.mp H
  obtain ⟨t108, A40, H⟩ := H
  (try dsimp only at H)
  have A4 := Aside0.mk A40
  clear A40
  by_cases c5 : t108 = true
  ·
   subst c5
   rw [if_pos rfl] at H
   simp only [Option.some.injEq, Prod.mk.injEq] at H
   obtain ⟨rfl, rfl, rfl⟩ := H
   go_enter Try.func13, Try.ntmps13
   go_wp2_with (first | ((with_reducible refine gate_dst (N := 2) rfl ?_); refine box_event ?hg (N := 2) ?hd (cs := #[.bool true, .int .i64 a0_1]) (t := 24) ?hr ?_; (case hd => rfl); (case hg => rfl); (case hr => first | (go_simp; done) | (go_simp; rfl)); intro gb105 hg w6 hbox hb; have BK105 := Aside0.mk (hbox); have GW105 := geb hg HB rfl; have GE105 := geb hg HB rfl; replace HB := hst HB hb rfl; clear hb hbox hg) | ((with_reducible refine gate_dst (N := 3) rfl ?_); refine box_event ?hg (N := 3) ?hd (cs := #[.bool a1_0, .int .i64 a1_1]) (t := 24) ?hr ?_; (case hd => rfl); (case hg => rfl); (case hr => first | (go_simp; done) | (go_simp; rfl)); intro gb106 hg w7 hbox hb; have BK106 := Aside0.mk (hbox); have GW106 := geb hg HB rfl; have GE106 := geb hg HB rfl; have NB105_106 := nbl hg BK105 rfl; have NB106_105 := nbr hg BK105 rfl; replace BK105 := bb BK105 hb rfl; replace HB := hst HB hb rfl; clear hb hbox hg) | ((with_reducible refine gate_dst (N := 4) rfl ?_); refine box_event ?hg (N := 4) ?hd (cs := #[.bool false, .int .i64 0]) (t := 24) ?hr ?_; (case hd => rfl); (case hg => rfl); (case hr => first | (go_simp; done) | (go_simp; rfl)); intro gb107 hg w8 hbox hb; have BK107 := Aside0.mk (hbox); have GW107 := geb hg HB rfl; have GE107 := geb hg HB rfl; have NB105_107 := nbl hg BK105 rfl; have NB107_105 := nbr hg BK105 rfl; have NB106_107 := nbl hg BK106 rfl; have NB107_106 := nbr hg BK106 rfl; replace BK105 := bb BK105 hb rfl; replace BK106 := bb BK106 hb rfl; replace HB := hst HB hb rfl; clear hb hbox hg; have hnb9 := NB105_106.out; have hnc9 := NB106_105.out; have hnb10 := NB105_107.out; have hnc10 := NB107_105.out; have hcz11_0 : w8.cell? ⟨gb105, 0, none⟩ = some (.bool true) := (blk_cell BK105.out 0).trans rfl; have hcz11_1 : w8.cell? ⟨gb105, 1, none⟩ = some (.int .i64 a0_1) := (blk_cell BK105.out 1).trans rfl; have hfz11_0 := blk_frozen BK105.out 0; have hfz11_1 := blk_frozen BK105.out 1; have hnb12 := NB106_107.out; have hnc12 := NB107_106.out; have hcz13_0 : w8.cell? ⟨gb106, 0, none⟩ = some (.bool a1_0) := (blk_cell BK106.out 0).trans rfl; have hcz13_1 : w8.cell? ⟨gb106, 1, none⟩ = some (.int .i64 a1_1) := (blk_cell BK106.out 1).trans rfl; have hfz13_0 := blk_frozen BK106.out 0; have hfz13_1 := blk_frozen BK106.out 1) | ((with_reducible refine gate_callee (f := 21) rfl ?_); refine goesL_ (some 16) rfl rfl Try.func21 (by kernel_rfl) rfl #[.agg #[.bool a1_0, .int .i64 a1_1], .int .i64 a0_1] rfl (mapq rfl) ?_; (with_reducible refine (known_Has.calls a1_0 a1_1 a0_1 true _ A4.out).mono ?_); rintro e w14 ⟨rfl, hb⟩; refine ⟨_, rfl, ?_⟩; replace BK105 := bb BK105 hb rfl; replace BK106 := bb BK106 hb rfl; replace BK107 := bb BK107 hb rfl; replace HB := hst HB hb rfl; (try clear hb); have hcz15_0 : w14.cell? ⟨gb105, 0, none⟩ = some (.bool true) := (blk_cell BK105.out 0).trans rfl; have hcz15_1 : w14.cell? ⟨gb105, 1, none⟩ = some (.int .i64 a0_1) := (blk_cell BK105.out 1).trans rfl; have hfz15_0 := blk_frozen BK105.out 0; have hfz15_1 := blk_frozen BK105.out 1; have hcz16_0 : w14.cell? ⟨gb107, 0, none⟩ = some (.bool false) := (blk_cell BK107.out 0).trans rfl; have hcz16_1 : w14.cell? ⟨gb107, 1, none⟩ = some (.int .i64 0) := (blk_cell BK107.out 1).trans rfl; have hfz16_0 := blk_frozen BK107.out 0; have hfz16_1 := blk_frozen BK107.out 1))
   refine bodyPost_ret (results_ct rfl _ _ gb107 24 #[.bool true, .int .i64 a0_1] (0, 0) _ rfl (by (with_reducible repeat (first | refine blk_drewN ?_ _ | refine blk_drew ?_ | refine blk_alloc ?_ _)); refine blk_put (cs := #[.bool true, .int .i64 0]) ?_ 1 _ rfl; (with_reducible repeat (first | refine blk_drewN ?_ _ | refine blk_drew ?_ | refine blk_alloc ?_ _)); refine blk_put (cs := #[.bool false, .int .i64 0]) ?_ 0 _ rfl; (with_reducible repeat (first | refine blk_drewN ?_ _ | refine blk_drew ?_ | refine blk_alloc ?_ _)); exact BK107.out) Try.underlying24 rfl (by kernel_rfl)) rfl ?_
   exact ⟨by first | rfl | (simp [errW_none, errW_some] <;> rfl) | (simp [*, errW_none, errW_some] <;> rfl), by repeat (first | (with_reducible first | exact HB.out | apply below_alloc | apply pw_below_drewN | apply below_drew1 | refine below_set ?_ GE105.out | refine below_set ?_ GE106.out | refine below_set ?_ GE107.out) | exact HB.out)⟩
  ·
   replace c5 := Bool.eq_false_iff.mpr c5
   subst c5
   rw [if_neg (show ¬ (false = true) by decide)] at H
   replace H := Option.bind_eq_some_iff.mp H
   obtain ⟨⟨t109, t110⟩, A170, H⟩ := H
   (try dsimp only at H)
   have A17 := Aside0.mk A170
   clear A170
   simp only [Option.some.injEq, Prod.mk.injEq] at H
   obtain ⟨rfl, rfl, rfl⟩ := H
   go_enter Try.func13, Try.ntmps13
   go_wp2_with (first | ((with_reducible refine gate_dst (N := 2) rfl ?_); refine box_event ?hg (N := 2) ?hd (cs := #[.bool true, .int .i64 a0_1]) (t := 24) ?hr ?_; (case hd => rfl); (case hg => rfl); (case hr => first | (go_simp; done) | (go_simp; rfl)); intro gb105 hg w18 hbox hb; have BK105 := Aside0.mk (hbox); have GW105 := geb hg HB rfl; have GE105 := geb hg HB rfl; replace HB := hst HB hb rfl; clear hb hbox hg) | ((with_reducible refine gate_dst (N := 3) rfl ?_); refine box_event ?hg (N := 3) ?hd (cs := #[.bool a1_0, .int .i64 a1_1]) (t := 24) ?hr ?_; (case hd => rfl); (case hg => rfl); (case hr => first | (go_simp; done) | (go_simp; rfl)); intro gb106 hg w19 hbox hb; have BK106 := Aside0.mk (hbox); have GW106 := geb hg HB rfl; have GE106 := geb hg HB rfl; have NB105_106 := nbl hg BK105 rfl; have NB106_105 := nbr hg BK105 rfl; replace BK105 := bb BK105 hb rfl; replace HB := hst HB hb rfl; clear hb hbox hg) | ((with_reducible refine gate_dst (N := 4) rfl ?_); refine box_event ?hg (N := 4) ?hd (cs := #[.bool false, .int .i64 0]) (t := 24) ?hr ?_; (case hd => rfl); (case hg => rfl); (case hr => first | (go_simp; done) | (go_simp; rfl)); intro gb107 hg w20 hbox hb; have BK107 := Aside0.mk (hbox); have GW107 := geb hg HB rfl; have GE107 := geb hg HB rfl; have NB105_107 := nbl hg BK105 rfl; have NB107_105 := nbr hg BK105 rfl; have NB106_107 := nbl hg BK106 rfl; have NB107_106 := nbr hg BK106 rfl; replace BK105 := bb BK105 hb rfl; replace BK106 := bb BK106 hb rfl; replace HB := hst HB hb rfl; clear hb hbox hg; have hnb21 := NB105_106.out; have hnc21 := NB106_105.out; have hnb22 := NB105_107.out; have hnc22 := NB107_105.out; have hcz23_0 : w20.cell? ⟨gb105, 0, none⟩ = some (.bool true) := (blk_cell BK105.out 0).trans rfl; have hcz23_1 : w20.cell? ⟨gb105, 1, none⟩ = some (.int .i64 a0_1) := (blk_cell BK105.out 1).trans rfl; have hfz23_0 := blk_frozen BK105.out 0; have hfz23_1 := blk_frozen BK105.out 1; have hnb24 := NB106_107.out; have hnc24 := NB107_106.out; have hcz25_0 : w20.cell? ⟨gb106, 0, none⟩ = some (.bool a1_0) := (blk_cell BK106.out 0).trans rfl; have hcz25_1 : w20.cell? ⟨gb106, 1, none⟩ = some (.int .i64 a1_1) := (blk_cell BK106.out 1).trans rfl; have hfz25_0 := blk_frozen BK106.out 0; have hfz25_1 := blk_frozen BK106.out 1) | ((with_reducible refine gate_callee (f := 21) rfl ?_); refine goesL_ (some 16) rfl rfl Try.func21 (by kernel_rfl) rfl #[.agg #[.bool a1_0, .int .i64 a1_1], .int .i64 a0_1] rfl (mapq rfl) ?_; (with_reducible refine (known_Has.calls a1_0 a1_1 a0_1 false _ A4.out).mono ?_); rintro e w26 ⟨rfl, hb⟩; refine ⟨_, rfl, ?_⟩; replace BK105 := bb BK105 hb rfl; replace BK106 := bb BK106 hb rfl; replace BK107 := bb BK107 hb rfl; replace HB := hst HB hb rfl; (try clear hb)) | ((with_reducible refine gate_callee (f := 20) rfl ?_); refine goesL_ (some 18) rfl rfl Try.func20 (by kernel_rfl) rfl #[] rfl (mapq rfl) ?_; (with_reducible refine (known_Any.calls  t109 t110 _ A17.out).mono ?_); rintro e w27 ⟨rfl, hb⟩; refine ⟨_, rfl, ?_⟩; replace BK105 := bb BK105 hb rfl; replace BK106 := bb BK106 hb rfl; replace BK107 := bb BK107 hb rfl; replace HB := hst HB hb rfl; (try clear hb); have hcz28_0 : w27.cell? ⟨gb107, 0, none⟩ = some (.bool false) := (blk_cell BK107.out 0).trans rfl; have hcz28_1 : w27.cell? ⟨gb107, 1, none⟩ = some (.int .i64 0) := (blk_cell BK107.out 1).trans rfl; have hfz28_0 := blk_frozen BK107.out 0; have hfz28_1 := blk_frozen BK107.out 1))
   refine bodyPost_ret (results_ct rfl _ _ gb107 24 #[.bool t109, .int .i64 t110] (0, 0) _ rfl (by (with_reducible repeat (first | refine blk_drewN ?_ _ | refine blk_drew ?_ | refine blk_alloc ?_ _)); refine blk_put (cs := #[.bool t109, .int .i64 0]) ?_ 1 _ rfl; (with_reducible repeat (first | refine blk_drewN ?_ _ | refine blk_drew ?_ | refine blk_alloc ?_ _)); refine blk_put (cs := #[.bool false, .int .i64 0]) ?_ 0 _ rfl; (with_reducible repeat (first | refine blk_drewN ?_ _ | refine blk_drew ?_ | refine blk_alloc ?_ _)); exact BK107.out) Try.underlying24 rfl (by kernel_rfl)) rfl ?_
   exact ⟨by first | rfl | (simp [errW_none, errW_some] <;> rfl) | (simp [*, errW_none, errW_some] <;> rfl), by repeat (first | (with_reducible first | exact HB.out | apply below_alloc | apply pw_below_drewN | apply below_drew1 | refine below_set ?_ GE105.out | refine below_set ?_ GE106.out | refine below_set ?_ GE107.out) | exact HB.out)⟩
 ·
  replace c3 := Bool.eq_false_iff.mpr c3
  subst c3
  rw [if_neg (show ¬ (false = true) by decide)] at H
  replace H := Option.bind_eq_some_iff.mp H
  obtain ⟨⟨t111, t112⟩, A290, H⟩ := H
  (try dsimp only at H)
  have A29 := Aside0.mk A290
  clear A290
  simp only [Option.some.injEq, Prod.mk.injEq] at H
  obtain ⟨rfl, rfl, rfl⟩ := H
  go_enter Try.func13, Try.ntmps13
  go_wp2_with (first | ((with_reducible refine gate_dst (N := 2) rfl ?_); refine box_event ?hg (N := 2) ?hd (cs := #[.bool false, .int .i64 a0_1]) (t := 24) ?hr ?_; (case hd => rfl); (case hg => rfl); (case hr => first | (go_simp; done) | (go_simp; rfl)); intro gb105 hg w30 hbox hb; have BK105 := Aside0.mk (hbox); have GW105 := geb hg HB rfl; have GE105 := geb hg HB rfl; replace HB := hst HB hb rfl; clear hb hbox hg) | ((with_reducible refine gate_dst (N := 3) rfl ?_); refine box_event ?hg (N := 3) ?hd (cs := #[.bool a1_0, .int .i64 a1_1]) (t := 24) ?hr ?_; (case hd => rfl); (case hg => rfl); (case hr => first | (go_simp; done) | (go_simp; rfl)); intro gb106 hg w31 hbox hb; have BK106 := Aside0.mk (hbox); have GW106 := geb hg HB rfl; have GE106 := geb hg HB rfl; have NB105_106 := nbl hg BK105 rfl; have NB106_105 := nbr hg BK105 rfl; replace BK105 := bb BK105 hb rfl; replace HB := hst HB hb rfl; clear hb hbox hg) | ((with_reducible refine gate_dst (N := 4) rfl ?_); refine box_event ?hg (N := 4) ?hd (cs := #[.bool false, .int .i64 0]) (t := 24) ?hr ?_; (case hd => rfl); (case hg => rfl); (case hr => first | (go_simp; done) | (go_simp; rfl)); intro gb107 hg w32 hbox hb; have BK107 := Aside0.mk (hbox); have GW107 := geb hg HB rfl; have GE107 := geb hg HB rfl; have NB105_107 := nbl hg BK105 rfl; have NB107_105 := nbr hg BK105 rfl; have NB106_107 := nbl hg BK106 rfl; have NB107_106 := nbr hg BK106 rfl; replace BK105 := bb BK105 hb rfl; replace BK106 := bb BK106 hb rfl; replace HB := hst HB hb rfl; clear hb hbox hg; have hnb33 := NB105_106.out; have hnc33 := NB106_105.out; have hnb34 := NB105_107.out; have hnc34 := NB107_105.out; have hcz35_0 : w32.cell? ⟨gb105, 0, none⟩ = some (.bool false) := (blk_cell BK105.out 0).trans rfl; have hcz35_1 : w32.cell? ⟨gb105, 1, none⟩ = some (.int .i64 a0_1) := (blk_cell BK105.out 1).trans rfl; have hfz35_0 := blk_frozen BK105.out 0; have hfz35_1 := blk_frozen BK105.out 1; have hnb36 := NB106_107.out; have hnc36 := NB107_106.out; have hcz37_0 : w32.cell? ⟨gb106, 0, none⟩ = some (.bool a1_0) := (blk_cell BK106.out 0).trans rfl; have hcz37_1 : w32.cell? ⟨gb106, 1, none⟩ = some (.int .i64 a1_1) := (blk_cell BK106.out 1).trans rfl; have hfz37_0 := blk_frozen BK106.out 0; have hfz37_1 := blk_frozen BK106.out 1) | ((with_reducible refine gate_callee (f := 60) rfl ?_); refine goesL_ (some 11) rfl rfl Try.func60 (by kernel_rfl) rfl #[.agg #[.bool a1_0, .int .i64 a1_1]] rfl (mapq rfl) ?_; (with_reducible refine (known_Known_tidy.calls a1_0 a1_1 t111 t112 _ A29.out).mono ?_); rintro e w38 ⟨rfl, hb⟩; refine ⟨_, rfl, ?_⟩; replace BK105 := bb BK105 hb rfl; replace BK106 := bb BK106 hb rfl; replace BK107 := bb BK107 hb rfl; replace HB := hst HB hb rfl; (try clear hb); have hcz39_0 : w38.cell? ⟨gb107, 0, none⟩ = some (.bool false) := (blk_cell BK107.out 0).trans rfl; have hcz39_1 : w38.cell? ⟨gb107, 1, none⟩ = some (.int .i64 0) := (blk_cell BK107.out 1).trans rfl; have hfz39_0 := blk_frozen BK107.out 0; have hfz39_1 := blk_frozen BK107.out 1))
  refine bodyPost_ret (results_ct rfl _ _ gb107 24 #[.bool t111, .int .i64 t112] (0, 0) _ rfl (by (with_reducible repeat (first | refine blk_drewN ?_ _ | refine blk_drew ?_ | refine blk_alloc ?_ _)); refine blk_put (cs := #[.bool t111, .int .i64 0]) ?_ 1 _ rfl; (with_reducible repeat (first | refine blk_drewN ?_ _ | refine blk_drew ?_ | refine blk_alloc ?_ _)); refine blk_put (cs := #[.bool false, .int .i64 0]) ?_ 0 _ rfl; (with_reducible repeat (first | refine blk_drewN ?_ _ | refine blk_drew ?_ | refine blk_alloc ?_ _)); exact BK107.out) Try.underlying24 rfl (by kernel_rfl)) rfl ?_
  exact ⟨by first | rfl | (simp [errW_none, errW_some] <;> rfl) | (simp [*, errW_none, errW_some] <;> rfl), by repeat (first | (with_reducible first | exact HB.out | apply below_alloc | apply pw_below_drewN | apply below_drew1 | refine below_set ?_ GE105.out | refine below_set ?_ GE106.out | refine below_set ?_ GE107.out) | exact HB.out)⟩

/-! ### avermentlaw09_To: function 14 -/
def avermentlaw09_To.f (a0_0 : Bool) (a0_1 : Int) : Option (Bool × Int) := some (a0_0, a0_1)
set_option maxHeartbeats 8000000 in
set_option maxRecDepth 100000 in
theorem avermentlaw09_To.calls (a0_0 : Bool) (a0_1 : Int) (r1 : Bool) (r2 : Int) (w : World) (h : avermentlaw09_To.f a0_0 a0_1 = some (r1, r2)) :
  Calls Try.prog 14 #[.agg #[.bool a0_0, .int .i64 a0_1]] w fun e w' => e = .returned (.agg #[.bool r1, .int .i64 r2]) ∧ Below w.heap.size w w' := by
 have hu23 := Try.underlying23
 have hu24 := Try.underlying24
 have HB := Aside0.mk (Below.refl w.heap.size w)
 have H : (some (a0_0, a0_1)) = some (r1, r2) := h
 clear h
 simp only [Option.some.injEq, Prod.mk.injEq] at H
 obtain ⟨rfl, rfl⟩ := H
 go_enter Try.func14, Try.ntmps14
 go_wp2_with (first | ((with_reducible refine gate_dst (N := 1) rfl ?_); refine box_event ?hg (N := 1) ?hd (cs := #[.bool a0_0, .int .i64 a0_1]) (t := 23) ?hr ?_; (case hd => rfl); (case hg => rfl); (case hr => first | (go_simp; done) | (go_simp; rfl)); intro gb113 hg w2 hbox hb; have BK113 := Aside0.mk (hbox); have GW113 := geb hg HB rfl; have GE113 := geb hg HB rfl; replace HB := hst HB hb rfl; clear hb hbox hg) | ((with_reducible refine gate_dst (N := 2) rfl ?_); refine box_event ?hg (N := 2) ?hd (cs := #[.bool false, .int .i64 0]) (t := 24) ?hr ?_; (case hd => rfl); (case hg => rfl); (case hr => first | (go_simp; done) | (go_simp; rfl)); intro gb114 hg w3 hbox hb; have BK114 := Aside0.mk (hbox); have GW114 := geb hg HB rfl; have GE114 := geb hg HB rfl; have NB113_114 := nbl hg BK113 rfl; have NB114_113 := nbr hg BK113 rfl; replace BK113 := bb BK113 hb rfl; replace HB := hst HB hb rfl; clear hb hbox hg; have hnb4 := NB113_114.out; have hnc4 := NB114_113.out; have hcz5_0 : w3.cell? ⟨gb113, 0, none⟩ = some (.bool a0_0) := (blk_cell BK113.out 0).trans rfl; have hcz5_1 : w3.cell? ⟨gb113, 1, none⟩ = some (.int .i64 a0_1) := (blk_cell BK113.out 1).trans rfl; have hfz5_0 := blk_frozen BK113.out 0; have hfz5_1 := blk_frozen BK113.out 1; have hcz6_0 : w3.cell? ⟨gb114, 0, none⟩ = some (.bool false) := (blk_cell BK114.out 0).trans rfl; have hcz6_1 : w3.cell? ⟨gb114, 1, none⟩ = some (.int .i64 0) := (blk_cell BK114.out 1).trans rfl; have hfz6_0 := blk_frozen BK114.out 0; have hfz6_1 := blk_frozen BK114.out 1))
 refine bodyPost_ret (results_cell_row rfl _ _ gb114 24 #[.bool a0_0, .int .i64 a0_1] (0, 0) _ rfl (by (with_reducible repeat (first | refine blk_drewN ?_ _ | refine blk_drew ?_ | refine blk_alloc ?_ _)); refine blk_put (cs := #[.bool a0_0, .int .i64 0]) ?_ 1 _ rfl; (with_reducible repeat (first | refine blk_drewN ?_ _ | refine blk_drew ?_ | refine blk_alloc ?_ _)); refine blk_put (cs := #[.bool false, .int .i64 0]) ?_ 0 _ rfl; (with_reducible repeat (first | refine blk_drewN ?_ _ | refine blk_drew ?_ | refine blk_alloc ?_ _)); exact BK114.out) Try.underlying24 rfl (by kernel_rfl)) rfl ?_
 exact ⟨by first | rfl | (simp [errW_none, errW_some] <;> rfl) | (simp [*, errW_none, errW_some] <;> rfl), by repeat (first | (with_reducible first | exact HB.out | apply below_alloc | apply pw_below_drewN | apply below_drew1 | refine below_set ?_ GE113.out | refine below_set ?_ GE114.out) | exact HB.out)⟩

/-! ### avermentref09_Clean: function 61 -/
def avermentref09_Clean.f (a0_0 : Bool) (a0_1 : Int) : Option (Bool × Int) := if a0_0 = true then (some (a0_0, a0_1)) else (some (false, 0))
set_option maxHeartbeats 8000000 in
set_option maxRecDepth 100000 in
theorem avermentref09_Clean.calls (a0_0 : Bool) (a0_1 : Int) (r1 : Bool) (r2 : Int) (w : World) (h : avermentref09_Clean.f a0_0 a0_1 = some (r1, r2)) :
  Calls Try.prog 61 #[.agg #[.bool a0_0, .int .i64 a0_1]] w fun e w' => e = .returned (.agg #[.bool r1, .int .i64 r2]) ∧ Below w.heap.size w w' := by
 have hu23 := Try.underlying23
 have HB := Aside0.mk (Below.refl w.heap.size w)
 have H : (if a0_0 = true then (some (a0_0, a0_1)) else (some (false, 0))) = some (r1, r2) := h
 clear h
 by_cases c2 : a0_0 = true
 ·
  subst c2
  rw [if_pos rfl] at H
  simp only [Option.some.injEq, Prod.mk.injEq] at H
  obtain ⟨rfl, rfl⟩ := H
  go_enter Try.func61, Try.ntmps61
  go_wp2_with (first | ((with_reducible refine gate_dst (N := 1) rfl ?_); refine box_event ?hg (N := 1) ?hd (cs := #[.bool true, .int .i64 a0_1]) (t := 23) ?hr ?_; (case hd => rfl); (case hg => rfl); (case hr => first | (go_simp; done) | (go_simp; rfl)); intro gb115 hg w3 hbox hb; have BK115 := Aside0.mk (hbox); have GW115 := geb hg HB rfl; have GE115 := geb hg HB rfl; replace HB := hst HB hb rfl; clear hb hbox hg) | ((with_reducible refine gate_dst (N := 2) rfl ?_); refine box_event ?hg (N := 2) ?hd (cs := #[.bool false, .int .i64 0]) (t := 23) ?hr ?_; (case hd => rfl); (case hg => rfl); (case hr => first | (go_simp; done) | (go_simp; rfl)); intro gb116 hg w4 hbox hb; have BK116 := Aside0.mk (hbox); have GW116 := geb hg HB rfl; have GE116 := geb hg HB rfl; have NB115_116 := nbl hg BK115 rfl; have NB116_115 := nbr hg BK115 rfl; replace BK115 := bb BK115 hb rfl; replace HB := hst HB hb rfl; clear hb hbox hg; have hnb5 := NB115_116.out; have hnc5 := NB116_115.out; have hcz6_0 : w4.cell? ⟨gb115, 0, none⟩ = some (.bool true) := (blk_cell BK115.out 0).trans rfl; have hcz6_1 : w4.cell? ⟨gb115, 1, none⟩ = some (.int .i64 a0_1) := (blk_cell BK115.out 1).trans rfl; have hfz6_0 := blk_frozen BK115.out 0; have hfz6_1 := blk_frozen BK115.out 1; have hcz7_0 : w4.cell? ⟨gb116, 0, none⟩ = some (.bool false) := (blk_cell BK116.out 0).trans rfl; have hcz7_1 : w4.cell? ⟨gb116, 1, none⟩ = some (.int .i64 0) := (blk_cell BK116.out 1).trans rfl; have hfz7_0 := blk_frozen BK116.out 0; have hfz7_1 := blk_frozen BK116.out 1))
  refine bodyPost_ret (results_cell_row rfl _ _ gb116 23 #[.bool true, .int .i64 a0_1] (0, 0) _ rfl (by (with_reducible repeat (first | refine blk_drewN ?_ _ | refine blk_drew ?_ | refine blk_alloc ?_ _)); refine blk_put (cs := #[.bool true, .int .i64 0]) ?_ 1 _ rfl; (with_reducible repeat (first | refine blk_drewN ?_ _ | refine blk_drew ?_ | refine blk_alloc ?_ _)); refine blk_put (cs := #[.bool false, .int .i64 0]) ?_ 0 _ rfl; (with_reducible repeat (first | refine blk_drewN ?_ _ | refine blk_drew ?_ | refine blk_alloc ?_ _)); exact BK116.out) Try.underlying23 rfl (by kernel_rfl)) rfl ?_
  exact ⟨by first | rfl | (simp [errW_none, errW_some] <;> rfl) | (simp [*, errW_none, errW_some] <;> rfl), by repeat (first | (with_reducible first | exact HB.out | apply below_alloc | apply pw_below_drewN | apply below_drew1 | refine below_set ?_ GE115.out | refine below_set ?_ GE116.out) | exact HB.out)⟩
 ·
  replace c2 := Bool.eq_false_iff.mpr c2
  subst c2
  rw [if_neg (show ¬ (false = true) by decide)] at H
  simp only [Option.some.injEq, Prod.mk.injEq] at H
  obtain ⟨rfl, rfl⟩ := H
  go_enter Try.func61, Try.ntmps61
  go_wp2_with (first | ((with_reducible refine gate_dst (N := 1) rfl ?_); refine box_event ?hg (N := 1) ?hd (cs := #[.bool false, .int .i64 a0_1]) (t := 23) ?hr ?_; (case hd => rfl); (case hg => rfl); (case hr => first | (go_simp; done) | (go_simp; rfl)); intro gb115 hg w8 hbox hb; have BK115 := Aside0.mk (hbox); have GW115 := geb hg HB rfl; have GE115 := geb hg HB rfl; replace HB := hst HB hb rfl; clear hb hbox hg) | ((with_reducible refine gate_dst (N := 2) rfl ?_); refine box_event ?hg (N := 2) ?hd (cs := #[.bool false, .int .i64 0]) (t := 23) ?hr ?_; (case hd => rfl); (case hg => rfl); (case hr => first | (go_simp; done) | (go_simp; rfl)); intro gb116 hg w9 hbox hb; have BK116 := Aside0.mk (hbox); have GW116 := geb hg HB rfl; have GE116 := geb hg HB rfl; have NB115_116 := nbl hg BK115 rfl; have NB116_115 := nbr hg BK115 rfl; replace BK115 := bb BK115 hb rfl; replace HB := hst HB hb rfl; clear hb hbox hg; have hnb10 := NB115_116.out; have hnc10 := NB116_115.out; have hcz11_0 : w9.cell? ⟨gb115, 0, none⟩ = some (.bool false) := (blk_cell BK115.out 0).trans rfl; have hcz11_1 : w9.cell? ⟨gb115, 1, none⟩ = some (.int .i64 a0_1) := (blk_cell BK115.out 1).trans rfl; have hfz11_0 := blk_frozen BK115.out 0; have hfz11_1 := blk_frozen BK115.out 1; have hcz12_0 : w9.cell? ⟨gb116, 0, none⟩ = some (.bool false) := (blk_cell BK116.out 0).trans rfl; have hcz12_1 : w9.cell? ⟨gb116, 1, none⟩ = some (.int .i64 0) := (blk_cell BK116.out 1).trans rfl; have hfz12_0 := blk_frozen BK116.out 0; have hfz12_1 := blk_frozen BK116.out 1))
  refine bodyPost_ret (results_cell_row rfl _ _ gb116 23 #[.bool false, .int .i64 0] (0, 0) _ rfl (by (with_reducible repeat (first | refine blk_drewN ?_ _ | refine blk_drew ?_ | refine blk_alloc ?_ _)); refine blk_put (cs := #[.bool false, .int .i64 0]) ?_ 1 _ rfl; (with_reducible repeat (first | refine blk_drewN ?_ _ | refine blk_drew ?_ | refine blk_alloc ?_ _)); refine blk_put (cs := #[.bool false, .int .i64 0]) ?_ 0 _ rfl; (with_reducible repeat (first | refine blk_drewN ?_ _ | refine blk_drew ?_ | refine blk_alloc ?_ _)); exact BK116.out) Try.underlying23 rfl (by kernel_rfl)) rfl ?_
  exact ⟨by first | rfl | (simp [errW_none, errW_some] <;> rfl) | (simp [*, errW_none, errW_some] <;> rfl), by repeat (first | (with_reducible first | exact HB.out | apply below_alloc | apply pw_below_drewN | apply below_drew1 | refine below_set ?_ GE115.out | refine below_set ?_ GE116.out) | exact HB.out)⟩

/-! ### avermentref09_Meet: function 15 -/
def avermentref09_Meet.j0 : Nat → Bool → Bool → Int → Bool → Int → Option (Bool × Int × Bool)
 | 0, _, _, _, _, _ => none
 | k + 1, x18, x118000, x118001, x119000, x119001 => if x18 = true then (some (false, 0, false)) else (if x118000 = true then (some (x118000, x118001, true)) else ((avermentref09_Clean.f x119000 x119001).bind fun bt120 => (some (bt120.1, bt120.2, true))))
def avermentref09_Meet.f (k : Nat) (a0_0 : Bool) (a0_1 : Int) (a1_0 : Bool) (a1_1 : Int) : Option (Bool × Int × Bool) := if a0_0 = true then (if a1_0 = true then (avermentref09_Meet.j0 k (a0_1 != a1_1) a0_0 a0_1 a1_0 a1_1) else (avermentref09_Meet.j0 k false a0_0 a0_1 a1_0 a1_1)) else (avermentref09_Meet.j0 k false a0_0 a0_1 a1_0 a1_1)
theorem avermentref09_Meet.mono_l : ∀ k, (∀ y0 y1 y2 y3 y4, LeO (avermentref09_Meet.j0 k y0 y1 y2 y3 y4) (avermentref09_Meet.j0 (k + 1) y0 y1 y2 y3 y4))
 | 0 => fun _ _ _ _ _ r h => by simp [avermentref09_Meet.j0] at h
 | k + 1 => by
  have ih0 := avermentref09_Meet.mono_l k
  ·
   intro y0 y1 y2 y3 y4
   unfold avermentref09_Meet.j0
   repeat' first
   | (with_reducible exact ih0 _ _ _ _ _)
   | (with_reducible exact LeO.refl _)
   | (with_reducible exact LeO.none _)
   | (with_reducible refine LeO.ite ?_ ?_)
   | (with_reducible refine LeO.bind ?_ (fun _ => ?_))
   | exact ih0 _ _ _ _ _
   | exact LeO.none _
   | refine LeO.ite ?_ ?_
   | refine LeO.bind ?_ (fun _ => ?_)
theorem avermentref09_Meet.mono : ∀ a0 a1 a2 a3 k, LeO (avermentref09_Meet.f k a0 a1 a2 a3) (avermentref09_Meet.f (k + 1) a0 a1 a2 a3) := by
 intro a0 a1 a2 a3 k
 have ih0 := avermentref09_Meet.mono_l k
 unfold avermentref09_Meet.f
 repeat' first
   | (with_reducible exact ih0 _ _ _ _ _)
   | (with_reducible exact LeO.refl _)
   | (with_reducible exact LeO.none _)
   | (with_reducible refine LeO.ite ?_ ?_)
   | (with_reducible refine LeO.bind ?_ (fun _ => ?_))
   | exact ih0 _ _ _ _ _
   | exact LeO.none _
   | refine LeO.ite ?_ ?_
   | refine LeO.bind ?_ (fun _ => ?_)
set_option maxHeartbeats 8000000 in
set_option maxRecDepth 100000 in
theorem avermentref09_Meet.calls (k : Nat) (a0_0 : Bool) (a0_1 : Int) (a1_0 : Bool) (a1_1 : Int) (r1 : Bool) (r2 : Int) (r3 : Bool) (w : World) (h : avermentref09_Meet.f k a0_0 a0_1 a1_0 a1_1 = some (r1, r2, r3)) :
  Calls Try.prog 15 #[.agg #[.bool a0_0, .int .i64 a0_1], .agg #[.bool a1_0, .int .i64 a1_1]] w fun e w' => e = .returned (.tuple #[.agg #[.bool r1, .int .i64 r2], .bool r3]) ∧ Below w.heap.size w w' := by
 have hu23 := Try.underlying23
 have HB := Aside0.mk (Below.refl w.heap.size w)
 have H : (if a0_0 = true then (if a1_0 = true then (avermentref09_Meet.j0 k (a0_1 != a1_1) a0_0 a0_1 a1_0 a1_1) else (avermentref09_Meet.j0 k false a0_0 a0_1 a1_0 a1_1)) else (avermentref09_Meet.j0 k false a0_0 a0_1 a1_0 a1_1)) = some (r1, r2, r3) := h
 clear h
 have HC3 := Aside0.mk H
 clear H
 go_enter Try.func15, Try.ntmps15
 go_upto_region 1 with (first | ((with_reducible refine gate_dst (N := 2) rfl ?_); refine box_event ?hg (N := 2) ?hd (cs := #[.bool a0_0, .int .i64 a0_1]) (t := 23) ?hr ?_; (case hd => rfl); (case hg => rfl); (case hr => first | (go_simp; done) | (go_simp; rfl)); intro gb117 hg w4 hbox hb; have BK117 := Aside0.mk (hbox); have GW117 := geb hg HB rfl; have GE117 := geb hg HB rfl; replace HB := hst HB hb rfl; clear hb hbox hg) | ((with_reducible refine gate_dst (N := 3) rfl ?_); refine box_event ?hg (N := 3) ?hd (cs := #[.bool a1_0, .int .i64 a1_1]) (t := 23) ?hr ?_; (case hd => rfl); (case hg => rfl); (case hr => first | (go_simp; done) | (go_simp; rfl)); intro gb118 hg w5 hbox hb; have BK118 := Aside0.mk (hbox); have GW118 := geb hg HB rfl; have GE118 := geb hg HB rfl; have NB117_118 := nbl hg BK117 rfl; have NB118_117 := nbr hg BK117 rfl; replace BK117 := bb BK117 hb rfl; replace HB := hst HB hb rfl; clear hb hbox hg) | ((with_reducible refine gate_dst (N := 4) rfl ?_); refine box_event ?hg (N := 4) ?hd (cs := #[.bool false, .int .i64 0]) (t := 23) ?hr ?_; (case hd => rfl); (case hg => rfl); (case hr => first | (go_simp; done) | (go_simp; rfl)); intro gb119 hg w6 hbox hb; have BK119 := Aside0.mk (hbox); have GW119 := geb hg HB rfl; have GE119 := geb hg HB rfl; have NB117_119 := nbl hg BK117 rfl; have NB119_117 := nbr hg BK117 rfl; have NB118_119 := nbl hg BK118 rfl; have NB119_118 := nbr hg BK118 rfl; replace BK117 := bb BK117 hb rfl; replace BK118 := bb BK118 hb rfl; replace HB := hst HB hb rfl; clear hb hbox hg))
 (try simp only [Act.put, List.setIfInBounds_toArray, List.set_cons_zero, List.set_cons_succ])
 go_cut [18] (fun v18 wc => ∃ (kq : Nat) (x18_2 : Bool), v18 = .bool x18_2 ∧ Aside0 (avermentref09_Meet.j0 kq x18_2 a0_0 a0_1 a1_0 a1_1 = some (r1, r2, r3)) ∧ Aside0 (kq ≤ k) ∧ Aside0 (wc.heap[gb117]? = some (.cells #[.bool a0_0, .int .i64 a0_1] 23 (0, 0))) ∧ Aside0 (wc.heap[gb118]? = some (.cells #[.bool a1_0, .int .i64 a1_1] 23 (0, 0))) ∧ Aside0 (wc.heap[gb119]? = some (.cells #[.bool false, .int .i64 0] 23 (0, 0))) ∧ Aside0 (Below w.heap.size w wc))
 case first =>
  have H := HC3.out
  clear HC3
  by_cases c7 : a0_0 = true
  ·
   subst c7
   rw [if_pos rfl] at H
   by_cases c8 : a1_0 = true
   ·
    subst c8
    rw [if_pos rfl] at H
    have H' := Aside0.mk H
    clear H
    have hnb9 := NB117_118.out
    have hnc9 := NB118_117.out
    have hnb10 := NB117_119.out
    have hnc10 := NB119_117.out
    have hcz11_0 : w6.cell? ⟨gb117, 0, none⟩ = some (.bool true) := bc BK117 0 rfl
    have hcz11_1 : w6.cell? ⟨gb117, 1, none⟩ = some (.int .i64 a0_1) := bc BK117 1 rfl
    have hfz11_0 := blk_frozen BK117.out 0
    have hfz11_1 := blk_frozen BK117.out 1
    have hnb12 := NB118_119.out
    have hnc12 := NB119_118.out
    have hcz13_0 : w6.cell? ⟨gb118, 0, none⟩ = some (.bool true) := bc BK118 0 rfl
    have hcz13_1 : w6.cell? ⟨gb118, 1, none⟩ = some (.int .i64 a1_1) := bc BK118 1 rfl
    have hfz13_0 := blk_frozen BK118.out 0
    have hfz13_1 := blk_frozen BK118.out 1
    go_wp2
    go_meet
    case rel => exact ⟨_, ((a0_1 != a1_1)), (by first | rfl | (simp; done) | (simp [*]; done)), H', ⟨by first | omega | exact Nat.le_refl _⟩, ⟨by (with_reducible repeat (first | refine blk_drewN ?_ _ | refine blk_drew ?_ | refine blk_alloc ?_ _)); exact BK117.out⟩, ⟨by (with_reducible repeat (first | refine blk_drewN ?_ _ | refine blk_drew ?_ | refine blk_alloc ?_ _)); exact BK118.out⟩, ⟨by (with_reducible repeat (first | refine blk_drewN ?_ _ | refine blk_drew ?_ | refine blk_alloc ?_ _)); exact BK119.out⟩, ⟨by repeat (first | (with_reducible first | exact HB.out | apply below_alloc | apply pw_below_drewN | apply below_drew1 | refine below_set ?_ GE117.out | refine below_set ?_ GE118.out | refine below_set ?_ GE119.out) | exact HB.out)⟩⟩
   ·
    replace c8 := Bool.eq_false_iff.mpr c8
    subst c8
    rw [if_neg (show ¬ (false = true) by decide)] at H
    have H' := Aside0.mk H
    clear H
    have hnb14 := NB117_118.out
    have hnc14 := NB118_117.out
    have hnb15 := NB117_119.out
    have hnc15 := NB119_117.out
    have hcz16_0 : w6.cell? ⟨gb117, 0, none⟩ = some (.bool true) := bc BK117 0 rfl
    have hcz16_1 : w6.cell? ⟨gb117, 1, none⟩ = some (.int .i64 a0_1) := bc BK117 1 rfl
    have hfz16_0 := blk_frozen BK117.out 0
    have hfz16_1 := blk_frozen BK117.out 1
    have hnb17 := NB118_119.out
    have hnc17 := NB119_118.out
    have hcz18_0 : w6.cell? ⟨gb118, 0, none⟩ = some (.bool false) := bc BK118 0 rfl
    have hcz18_1 : w6.cell? ⟨gb118, 1, none⟩ = some (.int .i64 a1_1) := bc BK118 1 rfl
    have hfz18_0 := blk_frozen BK118.out 0
    have hfz18_1 := blk_frozen BK118.out 1
    go_wp2
    go_meet
    case rel => exact ⟨_, (false), (by first | rfl | (simp; done) | (simp [*]; done)), H', ⟨by first | omega | exact Nat.le_refl _⟩, ⟨by (with_reducible repeat (first | refine blk_drewN ?_ _ | refine blk_drew ?_ | refine blk_alloc ?_ _)); exact BK117.out⟩, ⟨by (with_reducible repeat (first | refine blk_drewN ?_ _ | refine blk_drew ?_ | refine blk_alloc ?_ _)); exact BK118.out⟩, ⟨by (with_reducible repeat (first | refine blk_drewN ?_ _ | refine blk_drew ?_ | refine blk_alloc ?_ _)); exact BK119.out⟩, ⟨by repeat (first | (with_reducible first | exact HB.out | apply below_alloc | apply pw_below_drewN | apply below_drew1 | refine below_set ?_ GE117.out | refine below_set ?_ GE118.out | refine below_set ?_ GE119.out) | exact HB.out)⟩⟩
  ·
   replace c7 := Bool.eq_false_iff.mpr c7
   subst c7
   rw [if_neg (show ¬ (false = true) by decide)] at H
   have H' := Aside0.mk H
   clear H
   have hnb19 := NB117_118.out
   have hnc19 := NB118_117.out
   have hnb20 := NB117_119.out
   have hnc20 := NB119_117.out
   have hcz21_0 : w6.cell? ⟨gb117, 0, none⟩ = some (.bool false) := bc BK117 0 rfl
   have hcz21_1 : w6.cell? ⟨gb117, 1, none⟩ = some (.int .i64 a0_1) := bc BK117 1 rfl
   have hfz21_0 := blk_frozen BK117.out 0
   have hfz21_1 := blk_frozen BK117.out 1
   go_wp2
   go_meet
   case rel => exact ⟨_, (false), (by first | rfl | (simp; done) | (simp [*]; done)), H', ⟨by first | omega | exact Nat.le_refl _⟩, ⟨by (with_reducible repeat (first | refine blk_drewN ?_ _ | refine blk_drew ?_ | refine blk_alloc ?_ _)); exact BK117.out⟩, ⟨by (with_reducible repeat (first | refine blk_drewN ?_ _ | refine blk_drew ?_ | refine blk_alloc ?_ _)); exact BK118.out⟩, ⟨by (with_reducible repeat (first | refine blk_drewN ?_ _ | refine blk_drew ?_ | refine blk_alloc ?_ _)); exact BK119.out⟩, ⟨by repeat (first | (with_reducible first | exact HB.out | apply below_alloc | apply pw_below_drewN | apply below_drew1 | refine below_set ?_ GE117.out | refine below_set ?_ GE118.out | refine below_set ?_ GE119.out) | exact HB.out)⟩⟩
 case rest =>
  clear HC3
  try clear c1
  try clear c2
  try clear p2
  try clear c7
  try clear c8
  try clear c9
  try clear c10
  try clear c12
  try clear c14
  try clear c15
  try clear c17
  try clear c19
  try clear c20
  try clear hcz11_0
  try clear hcz11_1
  try clear hcz13_0
  try clear hcz13_1
  try clear hcz16_0
  try clear hcz16_1
  try clear hcz18_0
  try clear hcz18_1
  try clear hcz21_0
  try clear hcz21_1
  try clear hfz11_0
  try clear hfz11_1
  try clear hfz13_0
  try clear hfz13_1
  try clear hfz16_0
  try clear hfz16_1
  try clear hfz18_0
  try clear hfz18_1
  try clear hfz21_0
  try clear hfz21_1
  obtain ⟨kq, x18_2, rfl, HA, HJ2, BK117, BK118, BK119, HB⟩ := hcut
  cases kq with
  | zero => exact absurd HA.out (by simp [avermentref09_Meet.j0])
  | succ kj2 =>
   have H := HA.out
   clear HA
   simp only [avermentref09_Meet.j0] at H
   by_cases c22 : x18_2 = true
   ·
    subst c22
    rw [if_pos rfl] at H
    simp only [Option.some.injEq, Prod.mk.injEq] at H
    obtain ⟨rfl, rfl, rfl⟩ := H
    have hnb23 := NB119_117.out
    have hnc23 := NB117_119.out
    have hnb24 := NB119_118.out
    have hnc24 := NB118_119.out
    have hcz25_0 : wc.cell? ⟨gb119, 0, none⟩ = some (.bool false) := bc BK119 0 rfl
    have hcz25_1 : wc.cell? ⟨gb119, 1, none⟩ = some (.int .i64 0) := bc BK119 1 rfl
    have hfz25_0 := blk_frozen BK119.out 0
    have hfz25_1 := blk_frozen BK119.out 1
    go_wp2
    refine bodyPost_ret (results_ct rfl _ _ gb119 23 #[.bool false, .int .i64 0] (0, 0) _ rfl (by (with_reducible repeat (first | refine blk_drewN ?_ _ | refine blk_drew ?_ | refine blk_alloc ?_ _)); refine blk_put (cs := #[.bool false, .int .i64 0]) ?_ 1 _ rfl; (with_reducible repeat (first | refine blk_drewN ?_ _ | refine blk_drew ?_ | refine blk_alloc ?_ _)); refine blk_put (cs := #[.bool false, .int .i64 0]) ?_ 0 _ rfl; (with_reducible repeat (first | refine blk_drewN ?_ _ | refine blk_drew ?_ | refine blk_alloc ?_ _)); exact BK119.out) Try.underlying23 rfl (by kernel_rfl)) rfl ?_
    exact ⟨by first | rfl | (simp [errW_none, errW_some] <;> rfl) | (simp [*, errW_none, errW_some] <;> rfl), by repeat (first | (with_reducible first | exact HB.out | apply below_alloc | apply pw_below_drewN | apply below_drew1 | refine below_set ?_ GE117.out | refine below_set ?_ GE118.out | refine below_set ?_ GE119.out) | exact HB.out)⟩
   ·
    replace c22 := Bool.eq_false_iff.mpr c22
    subst c22
    rw [if_neg (show ¬ (false = true) by decide)] at H
    by_cases c26 : a0_0 = true
    ·
     subst c26
     rw [if_pos rfl] at H
     simp only [Option.some.injEq, Prod.mk.injEq] at H
     obtain ⟨rfl, rfl, rfl⟩ := H
     have hnb27 := NB117_118.out
     have hnc27 := NB118_117.out
     have hnb28 := NB117_119.out
     have hnc28 := NB119_117.out
     have hcz29_0 : wc.cell? ⟨gb117, 0, none⟩ = some (.bool true) := bc BK117 0 rfl
     have hcz29_1 : wc.cell? ⟨gb117, 1, none⟩ = some (.int .i64 a0_1) := bc BK117 1 rfl
     have hfz29_0 := blk_frozen BK117.out 0
     have hfz29_1 := blk_frozen BK117.out 1
     have hnb30 := NB119_118.out
     have hnc30 := NB118_119.out
     have hcz31_0 : wc.cell? ⟨gb119, 0, none⟩ = some (.bool false) := bc BK119 0 rfl
     have hcz31_1 : wc.cell? ⟨gb119, 1, none⟩ = some (.int .i64 0) := bc BK119 1 rfl
     have hfz31_0 := blk_frozen BK119.out 0
     have hfz31_1 := blk_frozen BK119.out 1
     go_wp2
     refine bodyPost_ret (results_ct rfl _ _ gb119 23 #[.bool true, .int .i64 a0_1] (0, 0) _ rfl (by (with_reducible repeat (first | refine blk_drewN ?_ _ | refine blk_drew ?_ | refine blk_alloc ?_ _)); refine blk_put (cs := #[.bool true, .int .i64 0]) ?_ 1 _ rfl; (with_reducible repeat (first | refine blk_drewN ?_ _ | refine blk_drew ?_ | refine blk_alloc ?_ _)); refine blk_put (cs := #[.bool false, .int .i64 0]) ?_ 0 _ rfl; (with_reducible repeat (first | refine blk_drewN ?_ _ | refine blk_drew ?_ | refine blk_alloc ?_ _)); exact BK119.out) Try.underlying23 rfl (by kernel_rfl)) rfl ?_
     exact ⟨by first | rfl | (simp [errW_none, errW_some] <;> rfl) | (simp [*, errW_none, errW_some] <;> rfl), by repeat (first | (with_reducible first | exact HB.out | apply below_alloc | apply pw_below_drewN | apply below_drew1 | refine below_set ?_ GE117.out | refine below_set ?_ GE118.out | refine below_set ?_ GE119.out) | exact HB.out)⟩
    ·
     replace c26 := Bool.eq_false_iff.mpr c26
     subst c26
     rw [if_neg (show ¬ (false = true) by decide)] at H
     replace H := Option.bind_eq_some_iff.mp H
     obtain ⟨⟨t120, t121⟩, A320, H⟩ := H
     (try dsimp only at H)
     have A32 := Aside0.mk A320
     clear A320
     simp only [Option.some.injEq, Prod.mk.injEq] at H
     obtain ⟨rfl, rfl, rfl⟩ := H
     have hnb33 := NB117_118.out
     have hnc33 := NB118_117.out
     have hnb34 := NB117_119.out
     have hnc34 := NB119_117.out
     have hcz35_0 : wc.cell? ⟨gb117, 0, none⟩ = some (.bool false) := bc BK117 0 rfl
     have hcz35_1 : wc.cell? ⟨gb117, 1, none⟩ = some (.int .i64 a0_1) := bc BK117 1 rfl
     have hfz35_0 := blk_frozen BK117.out 0
     have hfz35_1 := blk_frozen BK117.out 1
     have hnb36 := NB118_119.out
     have hnc36 := NB119_118.out
     have hcz37_0 : wc.cell? ⟨gb118, 0, none⟩ = some (.bool a1_0) := bc BK118 0 rfl
     have hcz37_1 : wc.cell? ⟨gb118, 1, none⟩ = some (.int .i64 a1_1) := bc BK118 1 rfl
     have hfz37_0 := blk_frozen BK118.out 0
     have hfz37_1 := blk_frozen BK118.out 1
     go_wp2_with (first | ((with_reducible refine gate_callee (f := 61) rfl ?_); refine goesL_ (some 24) rfl rfl Try.func61 (by kernel_rfl) rfl #[.agg #[.bool a1_0, .int .i64 a1_1]] rfl (mapq rfl) ?_; (with_reducible refine (avermentref09_Clean.calls a1_0 a1_1 t120 t121 _ A32.out).mono ?_); rintro e w38 ⟨rfl, hb⟩; refine ⟨_, rfl, ?_⟩; replace BK117 := bb BK117 hb rfl; replace BK118 := bb BK118 hb rfl; replace BK119 := bb BK119 hb rfl; replace HB := hst HB hb rfl; (try clear hb); have hcz39_0 : w38.cell? ⟨gb119, 0, none⟩ = some (.bool false) := (blk_cell BK119.out 0).trans rfl; have hcz39_1 : w38.cell? ⟨gb119, 1, none⟩ = some (.int .i64 0) := (blk_cell BK119.out 1).trans rfl; have hfz39_0 := blk_frozen BK119.out 0; have hfz39_1 := blk_frozen BK119.out 1))
     refine bodyPost_ret (results_ct rfl _ _ gb119 23 #[.bool t120, .int .i64 t121] (0, 0) _ rfl (by (with_reducible repeat (first | refine blk_drewN ?_ _ | refine blk_drew ?_ | refine blk_alloc ?_ _)); refine blk_put (cs := #[.bool t120, .int .i64 0]) ?_ 1 _ rfl; (with_reducible repeat (first | refine blk_drewN ?_ _ | refine blk_drew ?_ | refine blk_alloc ?_ _)); refine blk_put (cs := #[.bool false, .int .i64 0]) ?_ 0 _ rfl; (with_reducible repeat (first | refine blk_drewN ?_ _ | refine blk_drew ?_ | refine blk_alloc ?_ _)); exact BK119.out) Try.underlying23 rfl (by kernel_rfl)) rfl ?_
     exact ⟨by first | rfl | (simp [errW_none, errW_some] <;> rfl) | (simp [*, errW_none, errW_some] <;> rfl), by repeat (first | (with_reducible first | exact HB.out | apply below_alloc | apply pw_below_drewN | apply below_drew1 | refine below_set ?_ GE117.out | refine below_set ?_ GE118.out | refine below_set ?_ GE119.out) | exact HB.out)⟩

/-! ### known_Right: function 18 -/
def known_Right.f (a0_0 : Bool) (a0_1 : Int) : Option (Bool) := (known_Known_tidy.f a0_0 a0_1).bind fun bt123 => (some (a0_0 == bt123.1 && (a0_1 == bt123.2)))
set_option maxHeartbeats 8000000 in
set_option maxRecDepth 100000 in
theorem known_Right.calls (a0_0 : Bool) (a0_1 : Int) (r : Bool) (w : World) (h : known_Right.f a0_0 a0_1 = some r) :
  Calls Try.prog 18 #[.agg #[.bool a0_0, .int .i64 a0_1]] w fun e w' => e = .returned (.bool r) ∧ Below w.heap.size w w' := by
 have hu24 := Try.underlying24
 have HB := Aside0.mk (Below.refl w.heap.size w)
 have H : ((known_Known_tidy.f a0_0 a0_1).bind fun bt123 => (some (a0_0 == bt123.1 && (a0_1 == bt123.2)))) = some r := h
 clear h
 replace H := Option.bind_eq_some_iff.mp H
 obtain ⟨⟨t123, t124⟩, A20, H⟩ := H
 (try dsimp only at H)
 have A2 := Aside0.mk A20
 clear A20
 obtain rfl := Option.some.inj H
 go_enter Try.func18, Try.ntmps18
 try go_wp2_with (first | ((with_reducible refine gate_dst (N := 1) rfl ?_); refine box_event ?hg (N := 1) ?hd (cs := #[.bool a0_0, .int .i64 a0_1]) (t := 24) ?hr ?_; (case hd => rfl); (case hg => rfl); (case hr => first | (go_simp; done) | (go_simp; rfl)); intro gb122 hg w3 hbox hb; have BK122 := Aside0.mk (hbox); have GW122 := geb hg HB rfl; have GE122 := geb hg HB rfl; replace HB := hst HB hb rfl; clear hb hbox hg))
 replace BK122 := Aside0.mk (blk_drew BK122.out); replace HB := Aside0.mk (below_drew1 HB.out)
 refine start_ (n := 5) (S := fun w' => w'.cell? ⟨gb122, 0, none⟩ = some (.bool a0_0) ∧ w'.cell? ⟨gb122, 1, none⟩ = some (.int .i64 a0_1)) (ds := []) #[false, false, false, false, false] (by kernel_rfl) rfl rfl ⟨bc BK122 0 rfl, bc BK122 1 rfl⟩ (fun hHeld => ?_)
 generalize w3.drew = w4 at BK122 HB hHeld ⊢
 refine take_ (i := 0) (N := some 3) (v := ?_) (a' := ?_) #[true, false, false, false, false] rfl rfl (by kernel_rfl) (fun _ _ _ h => h) (Or.inl ⟨by rfl, ?_⟩) hHeld ?_ ?_
 rotate_left
 ·
  rintro w' ⟨s0, s1⟩
  go_simp
  with_reducible rfl
 rotate_left
 ·
  simp only [Act.put, List.setIfInBounds_toArray, List.set_cons_zero, List.set_cons_succ, i64_w, i32_w]
  rfl
 refine take_ (i := 1) (N := some 4) (v := ?_) (a' := ?_) #[true, true, false, false, false] rfl rfl (by kernel_rfl) (fun _ _ _ h => h) (Or.inl ⟨by rfl, ?_⟩) hHeld ?_ ?_
 rotate_left
 ·
  rintro w' ⟨s0, s1⟩
  go_simp
  with_reducible rfl
 rotate_left
 ·
  simp only [Act.put, List.setIfInBounds_toArray, List.set_cons_zero, List.set_cons_succ, i64_w, i32_w]
  rfl
 refine one_ (i := 2) (N := some 5) #[true, true, true, false, false] rfl rfl (by kernel_rfl) (by decide) (fun K hK => ?_)
 refine goes_ Try.func60 (by kernel_rfl) rfl #[.agg #[.bool a0_0, .int .i64 a0_1]] (by rfl) rfl rfl (mapq rfl) ?_
 with_reducible refine (known_Known_tidy.calls a0_0 a0_1 t123 t124 _ A2.out).mono ?_
 rintro e w5 ⟨rfl, hb⟩
 refine ⟨_, rfl, ?_⟩
 replace BK122 := bb BK122 hb rfl; replace HB := hst HB hb rfl
 (try clear hb)
 refine hK.out _ _ ⟨bc BK122 0 rfl, bc BK122 1 rfl⟩ (fun hHeld => ?_)
 clear hK K
 refine norm_ (a' := ?_) ?_ ?_
 rotate_left; · (show Act.put _ (some 5) _ = _; simp only [Act.put, List.setIfInBounds_toArray, List.set_cons_zero, List.set_cons_succ, i64_w, i32_w]; rfl)
 refine pure_ (i := 3) (N := some 6) (v := ?_) (a' := ?_) #[true, true, true, true, false] rfl rfl (by kernel_rfl) (fun _ _ _ h => h) (Or.inl ⟨by rfl, ?_⟩) ?_ ?_
 rotate_left; · (intro w'; go_simp; with_reducible rfl)
 rotate_left; · (simp only [Act.put, List.setIfInBounds_toArray, List.set_cons_zero, List.set_cons_succ, i64_w, i32_w]; rfl)
 refine pure_ (i := 4) (N := some 2) (v := ?_) (a' := ?_) #[true, true, true, true, true] rfl rfl (by kernel_rfl) (fun _ _ _ h => h) (Or.inl ⟨by rfl, ?_⟩) ?_ ?_
 rotate_left; · (intro w'; go_simp; with_reducible rfl)
 rotate_left; · (simp only [Act.put, List.setIfInBounds_toArray, List.set_cons_zero, List.set_cons_succ, i64_w, i32_w]; rfl)
 refine done_ (by kernel_rfl) ?_
 try go_wp2
 go_ret
 exact ⟨by first | rfl | (simp [errW_none, errW_some] <;> rfl) | (simp [*, errW_none, errW_some] <;> rfl), by repeat (first | (with_reducible first | exact HB.out | apply below_alloc | apply pw_below_drewN | apply below_drew1 | refine below_set ?_ GE122.out) | exact HB.out)⟩

/-! ### known_Of: function 19 -/
def known_Of.f (a0 : Int) : Option (Bool × Int) := some (true, a0)
set_option maxHeartbeats 8000000 in
set_option maxRecDepth 100000 in
theorem known_Of.calls (a0 : Int) (r1 : Bool) (r2 : Int) (w : World) (h : known_Of.f a0 = some (r1, r2)) :
  Calls Try.prog 19 #[.int .i64 a0] w fun e w' => e = .returned (.agg #[.bool r1, .int .i64 r2]) ∧ Below w.heap.size w w' := by
 have hu24 := Try.underlying24
 have HB := Aside0.mk (Below.refl w.heap.size w)
 have H : (some (true, a0)) = some (r1, r2) := h
 clear h
 simp only [Option.some.injEq, Prod.mk.injEq] at H
 obtain ⟨rfl, rfl⟩ := H
 go_enter Try.func19, Try.ntmps19
 go_wp2_with (first | ((with_reducible refine gate_dst (N := 2) rfl ?_); refine box_event ?hg (N := 2) ?hd (cs := #[.bool false, .int .i64 0]) (t := 24) ?hr ?_; (case hd => rfl); (case hg => rfl); (case hr => first | (go_simp; done) | (go_simp; rfl)); intro gb125 hg w2 hbox hb; have BK125 := Aside0.mk (hbox); have GW125 := geb hg HB rfl; have GE125 := geb hg HB rfl; replace HB := hst HB hb rfl; clear hb hbox hg; have hcz3_0 : w2.cell? ⟨gb125, 0, none⟩ = some (.bool false) := (blk_cell BK125.out 0).trans rfl; have hcz3_1 : w2.cell? ⟨gb125, 1, none⟩ = some (.int .i64 0) := (blk_cell BK125.out 1).trans rfl; have hfz3_0 := blk_frozen BK125.out 0; have hfz3_1 := blk_frozen BK125.out 1))
 refine bodyPost_ret (results_cell_row rfl _ _ gb125 24 #[.bool true, .int .i64 a0] (0, 0) _ rfl (by (with_reducible repeat (first | refine blk_drewN ?_ _ | refine blk_drew ?_ | refine blk_alloc ?_ _)); refine blk_put (cs := #[.bool true, .int .i64 0]) ?_ 1 _ rfl; (with_reducible repeat (first | refine blk_drewN ?_ _ | refine blk_drew ?_ | refine blk_alloc ?_ _)); refine blk_put (cs := #[.bool false, .int .i64 0]) ?_ 0 _ rfl; (with_reducible repeat (first | refine blk_drewN ?_ _ | refine blk_drew ?_ | refine blk_alloc ?_ _)); exact BK125.out) Try.underlying24 rfl (by kernel_rfl)) rfl ?_
 exact ⟨by first | rfl | (simp [errW_none, errW_some] <;> rfl) | (simp [*, errW_none, errW_some] <;> rfl), by repeat (first | (with_reducible first | exact HB.out | apply below_alloc | apply pw_below_drewN | apply below_drew1 | refine below_set ?_ GE125.out) | exact HB.out)⟩

/-! ### known_Known_is: function 62 -/
def known_Known_is.f (a0_0 : Bool) (a0_1 : Int) (a1 : Int) : Option (Bool) := if a0_0 = true then (some (a0_1 == a1)) else (some false)
set_option maxHeartbeats 8000000 in
set_option maxRecDepth 100000 in
theorem known_Known_is.calls (a0_0 : Bool) (a0_1 : Int) (a1 : Int) (r : Bool) (w : World) (h : known_Known_is.f a0_0 a0_1 a1 = some r) :
  Calls Try.prog 62 #[.agg #[.bool a0_0, .int .i64 a0_1], .int .i64 a1] w fun e w' => e = .returned (.bool r) ∧ Below w.heap.size w w' := by
 have hu24 := Try.underlying24
 have HB := Aside0.mk (Below.refl w.heap.size w)
 have H : (if a0_0 = true then (some (a0_1 == a1)) else (some false)) = some r := h
 clear h
 by_cases c3 : a0_0 = true
 ·
  subst c3
  rw [if_pos rfl] at H
  obtain rfl := Option.some.inj H
  go_enter Try.func62, Try.ntmps62
  go_wp2_with (first | ((with_reducible refine gate_dst (N := 2) rfl ?_); refine box_event ?hg (N := 2) ?hd (cs := #[.bool true, .int .i64 a0_1]) (t := 24) ?hr ?_; (case hd => rfl); (case hg => rfl); (case hr => first | (go_simp; done) | (go_simp; rfl)); intro gb126 hg w4 hbox hb; have BK126 := Aside0.mk (hbox); have GW126 := geb hg HB rfl; have GE126 := geb hg HB rfl; replace HB := hst HB hb rfl; clear hb hbox hg; have hcz5_0 : w4.cell? ⟨gb126, 0, none⟩ = some (.bool true) := (blk_cell BK126.out 0).trans rfl; have hcz5_1 : w4.cell? ⟨gb126, 1, none⟩ = some (.int .i64 a0_1) := (blk_cell BK126.out 1).trans rfl; have hfz5_0 := blk_frozen BK126.out 0; have hfz5_1 := blk_frozen BK126.out 1))
  go_ret
  exact ⟨by first | rfl | (simp [errW_none, errW_some] <;> rfl) | (simp [*, errW_none, errW_some] <;> rfl), by repeat (first | (with_reducible first | exact HB.out | apply below_alloc | apply pw_below_drewN | apply below_drew1 | refine below_set ?_ GE126.out) | exact HB.out)⟩
 ·
  replace c3 := Bool.eq_false_iff.mpr c3
  subst c3
  rw [if_neg (show ¬ (false = true) by decide)] at H
  obtain rfl := Option.some.inj H
  go_enter Try.func62, Try.ntmps62
  go_wp2_with (first | ((with_reducible refine gate_dst (N := 2) rfl ?_); refine box_event ?hg (N := 2) ?hd (cs := #[.bool false, .int .i64 a0_1]) (t := 24) ?hr ?_; (case hd => rfl); (case hg => rfl); (case hr => first | (go_simp; done) | (go_simp; rfl)); intro gb126 hg w6 hbox hb; have BK126 := Aside0.mk (hbox); have GW126 := geb hg HB rfl; have GE126 := geb hg HB rfl; replace HB := hst HB hb rfl; clear hb hbox hg; have hcz7_0 : w6.cell? ⟨gb126, 0, none⟩ = some (.bool false) := (blk_cell BK126.out 0).trans rfl; have hcz7_1 : w6.cell? ⟨gb126, 1, none⟩ = some (.int .i64 a0_1) := (blk_cell BK126.out 1).trans rfl; have hfz7_0 := blk_frozen BK126.out 0; have hfz7_1 := blk_frozen BK126.out 1))
  go_ret
  exact ⟨by first | rfl | (simp [errW_none, errW_some] <;> rfl) | (simp [*, errW_none, errW_some] <;> rfl), by repeat (first | (with_reducible first | exact HB.out | apply below_alloc | apply pw_below_drewN | apply below_drew1 | refine below_set ?_ GE126.out) | exact HB.out)⟩

/-! ### vm_flag: function 83 -/
def vm_flag.f (a0 : Bool) : Option (Int) := if a0 = true then (some 1) else (some 0)
set_option maxHeartbeats 8000000 in
set_option maxRecDepth 100000 in
theorem vm_flag.calls (a0 : Bool) (r : Int) (w : World) (h : vm_flag.f a0 = some r) :
  Calls Try.prog 83 #[.bool a0] w fun e w' => e = .returned (.int .i64 r) ∧ Drawn0 w w' := by
 have H : (if a0 = true then (some 1) else (some 0)) = some r := h
 clear h
 by_cases c2 : a0 = true
 ·
  subst c2
  rw [if_pos rfl] at H
  obtain rfl := Option.some.inj H
  go_enter Try.func83, Try.ntmps83
  go_wp2
  go_ret
  exact ⟨by first | rfl | (simp; done) | (simp [*]; done), by repeat (first | exact Drawn0.refl _ | apply Drawn0.step)⟩
 ·
  replace c2 := Bool.eq_false_iff.mpr c2
  subst c2
  rw [if_neg (show ¬ (false = true) by decide)] at H
  obtain rfl := Option.some.inj H
  go_enter Try.func83, Try.ntmps83
  go_wp2
  go_ret
  exact ⟨by first | rfl | (simp; done) | (simp [*]; done), by repeat (first | exact Drawn0.refl _ | apply Drawn0.step)⟩

/-! ### vm_Arith: function 63 -/
def vm_Arith.j0 : Nat → Int → Int → Int → Bool → Option (Int × Bool)
 | 0, _, _, _, _ => none
 | k + 1, x0, x1, x2, x46 => if x46 = true then (if x2 = 0 then (some (0, false)) else (if x0 = 7 then (some (wrap64 (Int.tdiv x1 x2), true)) else (some (Int.tmod x1 x2, true)))) else (some (0, false))
def vm_Arith.f (k : Nat) (a0 : Int) (a1 : Int) (a2 : Int) : Option (Int × Bool) := if a0 = 4 then (some (wrap64 (a1 + a2), true)) else (if a0 = 5 then (some (wrap64 (a1 - a2), true)) else (if a0 = 6 then (some (wrap64 (a1 * a2), true)) else (if a0 = 9 then (some (Go.bits .and .i64 a1 a2, true)) else (if a0 = 10 then (some (Go.bits .xor .i64 a1 a2, true)) else (if a0 = 11 then ((vm_flag.f (decide (a1 < a2))).bind fun t127 => (some (t127, true))) else (if a0 = 12 then ((vm_flag.f (a1 == a2)).bind fun t128 => (some (t128, true))) else (if a0 = 7 then (vm_Arith.j0 k a0 a1 a2 (a0 == 7)) else (vm_Arith.j0 k a0 a1 a2 (a0 == 8)))))))))
theorem vm_Arith.mono_l : ∀ k, (∀ y0 y1 y2 y3, LeO (vm_Arith.j0 k y0 y1 y2 y3) (vm_Arith.j0 (k + 1) y0 y1 y2 y3))
 | 0 => fun _ _ _ _ r h => by simp [vm_Arith.j0] at h
 | k + 1 => by
  have ih0 := vm_Arith.mono_l k
  ·
   intro y0 y1 y2 y3
   unfold vm_Arith.j0
   repeat' first
   | (with_reducible exact ih0 _ _ _ _)
   | (with_reducible exact LeO.refl _)
   | (with_reducible exact LeO.none _)
   | (with_reducible refine LeO.ite ?_ ?_)
   | (with_reducible refine LeO.bind ?_ (fun _ => ?_))
   | exact ih0 _ _ _ _
   | exact LeO.none _
   | refine LeO.ite ?_ ?_
   | refine LeO.bind ?_ (fun _ => ?_)
theorem vm_Arith.mono : ∀ a0 a1 a2 k, LeO (vm_Arith.f k a0 a1 a2) (vm_Arith.f (k + 1) a0 a1 a2) := by
 intro a0 a1 a2 k
 have ih0 := vm_Arith.mono_l k
 unfold vm_Arith.f
 repeat' first
   | (with_reducible exact ih0 _ _ _ _)
   | (with_reducible exact LeO.refl _)
   | (with_reducible exact LeO.none _)
   | (with_reducible refine LeO.ite ?_ ?_)
   | (with_reducible refine LeO.bind ?_ (fun _ => ?_))
   | exact ih0 _ _ _ _
   | exact LeO.none _
   | refine LeO.ite ?_ ?_
   | refine LeO.bind ?_ (fun _ => ?_)
set_option maxHeartbeats 8000000 in
set_option maxRecDepth 100000 in
theorem vm_Arith.calls (k : Nat) (a0 : Int) (a1 : Int) (a2 : Int) (r1 : Int) (r2 : Bool) (w : World) (h : vm_Arith.f k a0 a1 a2 = some (r1, r2)) :
  Calls Try.prog 63 #[.int .i64 a0, .int .i64 a1, .int .i64 a2] w fun e w' => e = .returned (.tuple #[.int .i64 r1, .bool r2]) ∧ Drawn0 w w' := by
 have H : (if a0 = 4 then (some (wrap64 (a1 + a2), true)) else (if a0 = 5 then (some (wrap64 (a1 - a2), true)) else (if a0 = 6 then (some (wrap64 (a1 * a2), true)) else (if a0 = 9 then (some (Go.bits .and .i64 a1 a2, true)) else (if a0 = 10 then (some (Go.bits .xor .i64 a1 a2, true)) else (if a0 = 11 then ((vm_flag.f (decide (a1 < a2))).bind fun t127 => (some (t127, true))) else (if a0 = 12 then ((vm_flag.f (a1 == a2)).bind fun t128 => (some (t128, true))) else (if a0 = 7 then (vm_Arith.j0 k a0 a1 a2 (a0 == 7)) else (vm_Arith.j0 k a0 a1 a2 (a0 == 8)))))))))) = some (r1, r2) := h
 clear h
 by_cases c4 : a0 = 4
 ·
  rw [if_pos c4] at H
  have c4b0 : (a0 == 4) = true := beq_iff_eq.mpr c4
  have c4b1 : (a0 != 4) = false := bne_eq_false_iff_eq.mpr c4
  clear c4
  simp only [Option.some.injEq, Prod.mk.injEq] at H
  obtain ⟨rfl, rfl⟩ := H
  go_enter Try.func63, Try.ntmps63
  go_wp2
  go_ret2
  exact ⟨by first | rfl | (simp; done) | (simp [*]; done), by repeat (first | exact Drawn0.refl _ | apply Drawn0.step)⟩
 ·
  rw [if_neg c4] at H
  have c4b0 : (a0 == 4) = false := beq_eq_false_iff_ne.mpr c4
  have c4b1 : (a0 != 4) = true := bne_iff_ne.mpr c4
  by_cases c5 : a0 = 5
  ·
   rw [if_pos c5] at H
   have c5b0 : (a0 == 5) = true := beq_iff_eq.mpr c5
   have c5b1 : (a0 != 5) = false := bne_eq_false_iff_eq.mpr c5
   clear c5
   simp only [Option.some.injEq, Prod.mk.injEq] at H
   obtain ⟨rfl, rfl⟩ := H
   go_enter Try.func63, Try.ntmps63
   go_wp2
   go_ret2
   exact ⟨by first | rfl | (simp; done) | (simp [*]; done), by repeat (first | exact Drawn0.refl _ | apply Drawn0.step)⟩
  ·
   rw [if_neg c5] at H
   have c5b0 : (a0 == 5) = false := beq_eq_false_iff_ne.mpr c5
   have c5b1 : (a0 != 5) = true := bne_iff_ne.mpr c5
   by_cases c6 : a0 = 6
   ·
    rw [if_pos c6] at H
    have c6b0 : (a0 == 6) = true := beq_iff_eq.mpr c6
    have c6b1 : (a0 != 6) = false := bne_eq_false_iff_eq.mpr c6
    clear c6
    simp only [Option.some.injEq, Prod.mk.injEq] at H
    obtain ⟨rfl, rfl⟩ := H
    go_enter Try.func63, Try.ntmps63
    go_wp2
    go_ret2
    exact ⟨by first | rfl | (simp; done) | (simp [*]; done), by repeat (first | exact Drawn0.refl _ | apply Drawn0.step)⟩
   ·
    rw [if_neg c6] at H
    have c6b0 : (a0 == 6) = false := beq_eq_false_iff_ne.mpr c6
    have c6b1 : (a0 != 6) = true := bne_iff_ne.mpr c6
    by_cases c7 : a0 = 9
    ·
     rw [if_pos c7] at H
     have c7b0 : (a0 == 9) = true := beq_iff_eq.mpr c7
     have c7b1 : (a0 != 9) = false := bne_eq_false_iff_eq.mpr c7
     clear c7
     simp only [Option.some.injEq, Prod.mk.injEq] at H
     obtain ⟨rfl, rfl⟩ := H
     go_enter Try.func63, Try.ntmps63
     go_wp2
     go_ret2
     exact ⟨by first | rfl | (simp; done) | (simp [*]; done), by repeat (first | exact Drawn0.refl _ | apply Drawn0.step)⟩
    ·
     rw [if_neg c7] at H
     have c7b0 : (a0 == 9) = false := beq_eq_false_iff_ne.mpr c7
     have c7b1 : (a0 != 9) = true := bne_iff_ne.mpr c7
     by_cases c8 : a0 = 10
     ·
      rw [if_pos c8] at H
      have c8b0 : (a0 == 10) = true := beq_iff_eq.mpr c8
      have c8b1 : (a0 != 10) = false := bne_eq_false_iff_eq.mpr c8
      clear c8
      simp only [Option.some.injEq, Prod.mk.injEq] at H
      obtain ⟨rfl, rfl⟩ := H
      go_enter Try.func63, Try.ntmps63
      go_wp2
      go_ret2
      exact ⟨by first | rfl | (simp; done) | (simp [*]; done), by repeat (first | exact Drawn0.refl _ | apply Drawn0.step)⟩
     ·
      rw [if_neg c8] at H
      have c8b0 : (a0 == 10) = false := beq_eq_false_iff_ne.mpr c8
      have c8b1 : (a0 != 10) = true := bne_iff_ne.mpr c8
      by_cases c9 : a0 = 11
      ·
       rw [if_pos c9] at H
       have c9b0 : (a0 == 11) = true := beq_iff_eq.mpr c9
       have c9b1 : (a0 != 11) = false := bne_eq_false_iff_eq.mpr c9
       clear c9
       replace H := Option.bind_eq_some_iff.mp H
       obtain ⟨t127, A100, H⟩ := H
       (try dsimp only at H)
       have A10 := Aside0.mk A100
       clear A100
       simp only [Option.some.injEq, Prod.mk.injEq] at H
       obtain ⟨rfl, rfl⟩ := H
       go_enter Try.func63, Try.ntmps63
       go_wp2_with (first | ((with_reducible refine gate_callee (f := 83) rfl ?_); refine goesL_ (some 39) rfl rfl Try.func83 (by kernel_rfl) rfl #[.bool (decide (a1 < a2))] rfl (mapq rfl) ?_; (with_reducible refine (vm_flag.calls (decide (a1 < a2)) t127 _ A10.out).mono ?_); rintro e w' ⟨rfl, ⟨nd, rfl⟩⟩; refine ⟨_, rfl, ?_⟩))
       go_ret2
       exact ⟨by first | rfl | (simp; done) | (simp [*]; done), by repeat (first | exact Drawn0.refl _ | apply Drawn0.step)⟩
      ·
       rw [if_neg c9] at H
       have c9b0 : (a0 == 11) = false := beq_eq_false_iff_ne.mpr c9
       have c9b1 : (a0 != 11) = true := bne_iff_ne.mpr c9
       by_cases c11 : a0 = 12
       ·
        rw [if_pos c11] at H
        have c11b0 : (a0 == 12) = true := beq_iff_eq.mpr c11
        have c11b1 : (a0 != 12) = false := bne_eq_false_iff_eq.mpr c11
        clear c11
        replace H := Option.bind_eq_some_iff.mp H
        obtain ⟨t128, A120, H⟩ := H
        (try dsimp only at H)
        have A12 := Aside0.mk A120
        clear A120
        simp only [Option.some.injEq, Prod.mk.injEq] at H
        obtain ⟨rfl, rfl⟩ := H
        go_enter Try.func63, Try.ntmps63
        go_wp2_with (first | ((with_reducible refine gate_callee (f := 83) rfl ?_); refine goesL_ (some 45) rfl rfl Try.func83 (by kernel_rfl) rfl #[.bool (a1 == a2)] rfl (mapq rfl) ?_; (with_reducible refine (vm_flag.calls (a1 == a2) t128 _ A12.out).mono ?_); rintro e w' ⟨rfl, ⟨nd, rfl⟩⟩; refine ⟨_, rfl, ?_⟩))
        go_ret2
        exact ⟨by first | rfl | (simp; done) | (simp [*]; done), by repeat (first | exact Drawn0.refl _ | apply Drawn0.step)⟩
       ·
        rw [if_neg c11] at H
        have c11b0 : (a0 == 12) = false := beq_eq_false_iff_ne.mpr c11
        have c11b1 : (a0 != 12) = true := bne_iff_ne.mpr c11
        have HC13 := Aside0.mk H
        clear H
        go_enter Try.func63, Try.ntmps63
        go_upto_if 46 with (fail)
        go_cut [46] (fun v46 wc => ∃ (kq : Nat) (x46_12 : Bool), v46 = .bool x46_12 ∧ Aside0 (vm_Arith.j0 kq a0 a1 a2 x46_12 = some (r1, r2)) ∧ Aside0 (kq ≤ k) ∧ Drawn0 w wc)
        case first =>
         have H := HC13.out
         clear HC13
         by_cases c14 : a0 = 7
         ·
          rw [if_pos c14] at H
          have c14b0 : (a0 == 7) = true := beq_iff_eq.mpr c14
          have c14b1 : (a0 != 7) = false := bne_eq_false_iff_eq.mpr c14
          clear c14
          (first | rw [c14b0] | (simp only [i64_w, i32_w]; rw [c14b0]) | skip)
          have H' := Aside0.mk H
          clear H
          go_wp2
          go_meet
          case rel => exact ⟨_, ((a0 == 7)), (by first | rfl | (simp; done) | (simp [*]; done)), H', ⟨by first | omega | exact Nat.le_refl _⟩, by repeat (first | exact Drawn0.refl _ | apply Drawn0.step)⟩
         ·
          rw [if_neg c14] at H
          have c14b0 : (a0 == 7) = false := beq_eq_false_iff_ne.mpr c14
          have c14b1 : (a0 != 7) = true := bne_iff_ne.mpr c14
          (first | rw [c14b0] | (simp only [i64_w, i32_w]; rw [c14b0]) | skip)
          have H' := Aside0.mk H
          clear H
          go_wp2
          go_meet
          case rel => exact ⟨_, ((a0 == 8)), (by first | rfl | (simp; done) | (simp [*]; done)), H', ⟨by first | omega | exact Nat.le_refl _⟩, by repeat (first | exact Drawn0.refl _ | apply Drawn0.step)⟩
        case rest =>
         clear HC13
         try clear c1
         try clear p2
         try clear c4
         try clear c4b0
         try clear c4b1
         try clear c5
         try clear c5b0
         try clear c5b1
         try clear c6
         try clear c6b0
         try clear c6b1
         try clear p6
         try clear c7
         try clear c7b0
         try clear c7b1
         try clear c8
         try clear c8b0
         try clear c8b1
         try clear c9
         try clear c9b0
         try clear c9b1
         try clear c11
         try clear c11b0
         try clear c11b1
         try clear c14
         try clear c14b0
         try clear c14b1
         obtain ⟨kq, x46_12, rfl, HA, HJ12, ⟨mc12, rfl⟩⟩ := hcut
         cases kq with
         | zero => exact absurd HA.out (by simp [vm_Arith.j0])
         | succ kj12 =>
          have H := HA.out
          clear HA
          simp only [vm_Arith.j0] at H
          by_cases c15 : x46_12 = true
          ·
           subst c15
           rw [if_pos rfl] at H
           by_cases c16 : a2 = 0
           ·
            rw [if_pos c16] at H
            have c16b0 : (a2 == 0) = true := beq_iff_eq.mpr c16
            have c16b1 : (a2 != 0) = false := bne_eq_false_iff_eq.mpr c16
            clear c16
            simp only [Option.some.injEq, Prod.mk.injEq] at H
            obtain ⟨rfl, rfl⟩ := H
            go_wp2
            go_ret2
            exact ⟨by first | rfl | (simp; done) | (simp [*]; done), by repeat (first | exact Drawn0.refl _ | apply Drawn0.step)⟩
           ·
            rw [if_neg c16] at H
            have c16b0 : (a2 == 0) = false := beq_eq_false_iff_ne.mpr c16
            have c16b1 : (a2 != 0) = true := bne_iff_ne.mpr c16
            by_cases c17 : a0 = 7
            ·
             rw [if_pos c17] at H
             have c17b0 : (a0 == 7) = true := beq_iff_eq.mpr c17
             have c17b1 : (a0 != 7) = false := bne_eq_false_iff_eq.mpr c17
             clear c17
             simp only [Option.some.injEq, Prod.mk.injEq] at H
             obtain ⟨rfl, rfl⟩ := H
             go_wp2
             go_ret2
             exact ⟨by first | rfl | (simp; done) | (simp [*]; done), by repeat (first | exact Drawn0.refl _ | apply Drawn0.step)⟩
            ·
             rw [if_neg c17] at H
             have c17b0 : (a0 == 7) = false := beq_eq_false_iff_ne.mpr c17
             have c17b1 : (a0 != 7) = true := bne_iff_ne.mpr c17
             simp only [Option.some.injEq, Prod.mk.injEq] at H
             obtain ⟨rfl, rfl⟩ := H
             go_wp2
             go_ret2
             exact ⟨by first | rfl | (simp; done) | (simp [*]; done), by repeat (first | exact Drawn0.refl _ | apply Drawn0.step)⟩
          ·
           replace c15 := Bool.eq_false_iff.mpr c15
           subst c15
           rw [if_neg (show ¬ (false = true) by decide)] at H
           simp only [Option.some.injEq, Prod.mk.injEq] at H
           obtain ⟨rfl, rfl⟩ := H
           go_wp2
           go_ret2
           exact ⟨by first | rfl | (simp; done) | (simp [*]; done), by repeat (first | exact Drawn0.refl _ | apply Drawn0.step)⟩

end Go.Proofs.Ytpacmhhaabhdjaa.KN
