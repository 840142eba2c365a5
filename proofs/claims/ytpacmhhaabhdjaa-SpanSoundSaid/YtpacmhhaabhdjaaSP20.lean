-- Written by a program of this session: plain functions and their walks. Lean checks it.
import Derived.Test.YtpacmhhaabhdjaaSP0
import Derived.Test.YtpacmhhaabhdjaaSP3
import Derived.Test.YtpacmhhaabhdjaaSP8
namespace Go.Proofs.Ytpacmhhaabhdjaa.SP
open Go.RowKit Go.Proofs.YtpacmhhaabhdjaaW.PrintWords Go.Proofs.YtpacmhhaabhdjaaW.PrintLast Go.Proofs.YtpacmhhaabhdjaaW.PrintMore
attribute [local go_sem] max2_int min2_int max_two min_two max_three min_three max_four min_four   -- for this text's walks alone
set_option linter.unusedVariables false
set_option linter.unusedSimpArgs false

/-! ### avermentlaw10_about: function 59 -/
def avermentlaw10_about.f (a0_0 : Int) (a0_1 : Int) (a1 : Int) : Option (Int × Int) := (avermentref10_Fix.f a0_0 a0_1).bind fun bt622 => ((avermentlaw10_To.f bt622.1 bt622.2).bind fun bt624 => ((span_Of.f a1).bind fun bt626 => ((span_Join.f bt624.1 bt624.2 bt626.1 bt626.2).bind fun bt628 => (some (bt628.1, bt628.2)))))
set_option maxHeartbeats 8000000 in
set_option maxRecDepth 100000 in
theorem avermentlaw10_about.calls (a0_0 : Int) (a0_1 : Int) (a1 : Int) (r1 : Int) (r2 : Int) (w : World) (h : avermentlaw10_about.f a0_0 a0_1 a1 = some (r1, r2)) :
  Calls Try.prog 59 #[.agg #[.int .i64 a0_0, .int .i64 a0_1], .int .i64 a1] w fun e w' => e = .returned (.agg #[.int .i64 r1, .int .i64 r2]) ∧ Below w.heap.size w w' := by
 have hu56 := Try.underlying56
 have hu59 := Try.underlying59
 have HB := Aside0.mk (Below.refl w.heap.size w)
 have H : ((avermentref10_Fix.f a0_0 a0_1).bind fun bt622 => ((avermentlaw10_To.f bt622.1 bt622.2).bind fun bt624 => ((span_Of.f a1).bind fun bt626 => ((span_Join.f bt624.1 bt624.2 bt626.1 bt626.2).bind fun bt628 => (some (bt628.1, bt628.2)))))) = some (r1, r2) := h
 clear h
 replace H := Option.bind_eq_some_iff.mp H
 obtain ⟨⟨t622, t623⟩, A30, H⟩ := H
 (try dsimp only at H)
 have A3 := Aside0.mk A30
 clear A30
 replace H := Option.bind_eq_some_iff.mp H
 obtain ⟨⟨t624, t625⟩, A40, H⟩ := H
 (try dsimp only at H)
 have A4 := Aside0.mk A40
 clear A40
 replace H := Option.bind_eq_some_iff.mp H
 obtain ⟨⟨t626, t627⟩, A50, H⟩ := H
 (try dsimp only at H)
 have A5 := Aside0.mk A50
 clear A50
 replace H := Option.bind_eq_some_iff.mp H
 obtain ⟨⟨t628, t629⟩, A60, H⟩ := H
 (try dsimp only at H)
 have A6 := Aside0.mk A60
 clear A60
 simp only [Option.some.injEq, Prod.mk.injEq] at H
 obtain ⟨rfl, rfl⟩ := H
 go_enter Try.func59, Try.ntmps59
 go_wp2_with (first | ((with_reducible refine gate_dst (N := 2) rfl ?_); refine box_event ?hg (N := 2) ?hd (cs := #[.int .i64 a0_0, .int .i64 a0_1]) (t := 56) ?hr ?_; (case hd => rfl); (case hg => rfl); (case hr => first | (go_simp; done) | (go_simp; rfl)); intro gb620 hg w7 hbox hb; have BK620 := Aside0.mk (hbox); have GW620 := geb hg HB rfl; have GE620 := geb hg HB rfl; replace HB := hst HB hb rfl; clear hb hbox hg) | ((with_reducible refine gate_dst (N := 4) rfl ?_); refine box_event ?hg (N := 4) ?hd (cs := #[.int .i64 0, .int .i64 0]) (t := 59) ?hr ?_; (case hd => rfl); (case hg => rfl); (case hr => first | (go_simp; done) | (go_simp; rfl)); intro gb621 hg w8 hbox hb; have BK621 := Aside0.mk (hbox); have GW621 := geb hg HB rfl; have GE621 := geb hg HB rfl; have NB620_621 := nbl hg BK620 rfl; have NB621_620 := nbr hg BK620 rfl; replace BK620 := bb BK620 hb rfl; replace HB := hst HB hb rfl; clear hb hbox hg; have hnb9 := NB620_621.out; have hnc9 := NB621_620.out; have hcz10_0 : w8.cell? ⟨gb620, 0, none⟩ = some (.int .i64 a0_0) := (blk_cell BK620.out 0).trans rfl; have hcz10_1 : w8.cell? ⟨gb620, 1, none⟩ = some (.int .i64 a0_1) := (blk_cell BK620.out 1).trans rfl; have hfz10_0 := blk_frozen BK620.out 0; have hfz10_1 := blk_frozen BK620.out 1) | ((with_reducible refine gate_callee (f := 35) rfl ?_); refine goesL_ (some 6) rfl rfl Try.func35 (by kernel_rfl) rfl #[.agg #[.int .i64 a0_0, .int .i64 a0_1]] rfl (mapq rfl) ?_; (with_reducible refine (avermentref10_Fix.calls a0_0 a0_1 t622 t623 _ A3.out).mono ?_); rintro e w11 ⟨rfl, hb⟩; refine ⟨_, rfl, ?_⟩; replace BK620 := bb BK620 hb rfl; replace BK621 := bb BK621 hb rfl; replace HB := hst HB hb rfl; (try clear hb)) | ((with_reducible refine gate_callee (f := 37) rfl ?_); refine goesL_ (some 7) rfl rfl Try.func37 (by kernel_rfl) rfl #[.agg #[.int .i64 t622, .int .i64 t623]] rfl (mapq rfl) ?_; (with_reducible refine (avermentlaw10_To.calls t622 t623 t624 t625 _ A4.out).mono ?_); rintro e w12 ⟨rfl, hb⟩; refine ⟨_, rfl, ?_⟩; replace BK620 := bb BK620 hb rfl; replace BK621 := bb BK621 hb rfl; replace HB := hst HB hb rfl; (try clear hb)) | ((with_reducible refine gate_callee (f := 45) rfl ?_); refine goesL_ (some 9) rfl rfl Try.func45 (by kernel_rfl) rfl #[.int .i64 a1] rfl (mapq rfl) ?_; (with_reducible refine (span_Of.calls a1 t626 t627 _ A5.out).mono ?_); rintro e w13 ⟨rfl, hb⟩; refine ⟨_, rfl, ?_⟩; replace BK620 := bb BK620 hb rfl; replace BK621 := bb BK621 hb rfl; replace HB := hst HB hb rfl; (try clear hb)) | ((with_reducible refine gate_callee (f := 48) rfl ?_); refine goesL_ (some 10) rfl rfl Try.func48 (by kernel_rfl) rfl #[.agg #[.int .i64 t624, .int .i64 t625], .agg #[.int .i64 t626, .int .i64 t627]] rfl (mapq rfl) ?_; (with_reducible refine (span_Join.calls t624 t625 t626 t627 t628 t629 _ A6.out).mono ?_); rintro e w14 ⟨rfl, hb⟩; refine ⟨_, rfl, ?_⟩; replace BK620 := bb BK620 hb rfl; replace BK621 := bb BK621 hb rfl; replace HB := hst HB hb rfl; (try clear hb); have hcz15_0 : w14.cell? ⟨gb621, 0, none⟩ = some (.int .i64 0) := (blk_cell BK621.out 0).trans rfl; have hcz15_1 : w14.cell? ⟨gb621, 1, none⟩ = some (.int .i64 0) := (blk_cell BK621.out 1).trans rfl; have hfz15_0 := blk_frozen BK621.out 0; have hfz15_1 := blk_frozen BK621.out 1))
 refine bodyPost_ret (results_cell_row rfl _ _ gb621 59 #[.int .i64 t628, .int .i64 t629] (0, 0) _ rfl (by (with_reducible repeat (first | refine blk_drewN ?_ _ | refine blk_drew ?_ | refine blk_alloc ?_ _)); refine blk_put (cs := #[.int .i64 t628, .int .i64 0]) ?_ 1 _ rfl; (with_reducible repeat (first | refine blk_drewN ?_ _ | refine blk_drew ?_ | refine blk_alloc ?_ _)); refine blk_put (cs := #[.int .i64 0, .int .i64 0]) ?_ 0 _ rfl; (with_reducible repeat (first | refine blk_drewN ?_ _ | refine blk_drew ?_ | refine blk_alloc ?_ _)); exact BK621.out) Try.underlying59 rfl (by kernel_rfl)) rfl ?_
 exact ⟨by first | rfl | (simp [errW_none, errW_some] <;> rfl) | (simp [*, errW_none, errW_some] <;> rfl), by repeat (first | (with_reducible first | exact HB.out | apply below_alloc | apply pw_below_drewN | apply below_drew1 | refine below_set ?_ GE620.out | refine below_set ?_ GE621.out) | exact HB.out)⟩

end Go.Proofs.Ytpacmhhaabhdjaa.SP
