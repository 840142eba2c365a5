-- Written by a program of this session: plain functions and their walks. Lean checks it.
import Derived.Test.YtpacmhhaabhdjaaKN0
import Derived.Test.YtpacmhhaabhdjaaKN1
import Derived.Test.YtpacmhhaabhdjaaKN3
import Derived.Test.YtpacmhhaabhdjaaKN4
import Derived.Test.YtpacmhhaabhdjaaKN5
import Derived.Test.YtpacmhhaabhdjaaKN8
import Derived.Test.YtpacmhhaabhdjaaKN9
namespace Go.Proofs.Ytpacmhhaabhdjaa.KN
open Go.RowKit Go.Proofs.YtpacmhhaabhdjaaW.PrintWords Go.Proofs.YtpacmhhaabhdjaaW.PrintLast Go.Proofs.YtpacmhhaabhdjaaW.PrintMore
attribute [local go_sem] max2_int min2_int max_two min_two max_three min_three max_four min_four   -- for this text's walks alone
set_option linter.unusedVariables false
set_option linter.unusedSimpArgs false

attribute [local go_sem high] eqA23
/-! ### avermentlaw09_KnownMakes: function 5 -/
mutual
def avermentlaw09_KnownMakes.j0 : Nat → Int → Bool → Bool → Int → Bool → Int → Option (Bool)
 | 0, _, _, _, _, _, _ => none
 | k + 1, x0, x37, x328000, x328001, x329000, x329001 => if x37 = true then (some false) else ((avermentlaw09_To.f x328000 x328001).bind fun bt342 => ((avermentlaw09_To.f x329000 x329001).bind fun bt344 => ((known_Two.f k x0 bt342.1 bt342.2 bt344.1 bt344.2).bind fun bt346 => ((avermentref09_Two.f k x0 x328000 x328001 x329000 x329001).bind fun bt349 => ((avermentlaw09_From.f bt346.1 bt346.2.1).bind fun bt352 => (if (!(bt352.1 == bt349.1) || (!(bt352.2 == bt349.2.1))) = true then (avermentlaw09_KnownMakes.j1 k true x328000 x328001) else (avermentlaw09_KnownMakes.j1 k (bt346.2.2 != bt349.2.2) x328000 x328001)))))))
def avermentlaw09_KnownMakes.j1 : Nat → Bool → Bool → Int → Option (Bool)
 | 0, _, _, _ => none
 | k + 1, x62, x328000, x328001 => if x62 = true then (some false) else (avermentlaw09_KnownMakes.l0 k 0 x328000 x328001)
def avermentlaw09_KnownMakes.l0 : Nat → Int → Bool → Int → Option (Bool)
 | 0, _, _, _ => none
 | k + 1, x11, x328000, x328001 => if x11 < 2 then ((avermentlaw09_To.f x328000 x328001).bind fun bt354 => ((known_Branch.f k bt354.1 bt354.2 (x11 == 1)).bind fun bt356 => ((avermentref09_Branch.f k x328000 x328001 (x11 == 1)).bind fun bt359 => ((avermentlaw09_From.f bt356.1 bt356.2.1).bind fun bt362 => (if (!(bt362.1 == bt359.1) || (!(bt362.2 == bt359.2.1))) = true then (some false) else (if (bt356.2.2 != bt359.2.2) = true then (some false) else (avermentlaw09_KnownMakes.l0 k (wrap64 (x11 + 1)) x328000 x328001))))))) else (some true)
end
def avermentlaw09_KnownMakes.f (k : Nat) (a0 : Int) (a1_0 : Bool) (a1_1 : Int) (a2_0 : Bool) (a2_1 : Int) : Option (Bool) := (avermentlaw09_To.f a1_0 a1_1).bind fun bt329 => ((known_One.f a0 bt329.1 bt329.2).bind fun bt331 => ((avermentref09_One.f a0 a1_0 a1_1).bind fun bt335 => ((avermentlaw09_told.f k).bind fun t339 => (if t339 = true then ((avermentlaw09_From.f bt331.1 bt331.2.1).bind fun bt340 => (if (!(bt340.1 == bt335.1) || (!(bt340.2 == bt335.2.1))) = true then (avermentlaw09_KnownMakes.j0 k a0 true a1_0 a1_1 a2_0 a2_1) else (avermentlaw09_KnownMakes.j0 k a0 (bt331.2.2 != bt335.2.2) a1_0 a1_1 a2_0 a2_1))) else (avermentlaw09_KnownMakes.j0 k a0 true a1_0 a1_1 a2_0 a2_1)))))
theorem avermentlaw09_KnownMakes.mono_l : ∀ k, (∀ y0 y1 y2 y3 y4 y5, LeO (avermentlaw09_KnownMakes.j0 k y0 y1 y2 y3 y4 y5) (avermentlaw09_KnownMakes.j0 (k + 1) y0 y1 y2 y3 y4 y5)) ∧ (∀ y0 y1 y2, LeO (avermentlaw09_KnownMakes.j1 k y0 y1 y2) (avermentlaw09_KnownMakes.j1 (k + 1) y0 y1 y2)) ∧ (∀ y0 y1 y2, LeO (avermentlaw09_KnownMakes.l0 k y0 y1 y2) (avermentlaw09_KnownMakes.l0 (k + 1) y0 y1 y2))
 | 0 => ⟨fun _ _ _ _ _ _ r h => by simp [avermentlaw09_KnownMakes.j0] at h, fun _ _ _ r h => by simp [avermentlaw09_KnownMakes.j1] at h, fun _ _ _ r h => by simp [avermentlaw09_KnownMakes.l0] at h⟩
 | k + 1 => by
  obtain ⟨ih0, ih1, ih2⟩ := avermentlaw09_KnownMakes.mono_l k
  refine ⟨?_, ?_, ?_⟩
  ·
   intro y0 y1 y2 y3 y4 y5
   unfold avermentlaw09_KnownMakes.j0
   repeat' first
   | (with_reducible exact ih0 _ _ _ _ _ _)
   | (with_reducible exact ih1 _ _ _)
   | (with_reducible exact ih2 _ _ _)
   | (with_reducible exact avermentlaw09_told.mono _)
   | (with_reducible exact avermentref09_Branch.mono _ _ _ _)
   | (with_reducible exact avermentref09_Two.mono _ _ _ _ _ _)
   | (with_reducible exact known_Branch.mono _ _ _ _)
   | (with_reducible exact known_Two.mono _ _ _ _ _ _)
   | (with_reducible exact LeO.refl _)
   | (with_reducible exact LeO.none _)
   | (with_reducible refine LeO.ite ?_ ?_)
   | (with_reducible refine LeO.bind ?_ (fun _ => ?_))
   | exact ih0 _ _ _ _ _ _
   | exact ih1 _ _ _
   | exact ih2 _ _ _
   | exact avermentlaw09_told.mono _
   | exact avermentref09_Branch.mono _ _ _ _
   | exact avermentref09_Two.mono _ _ _ _ _ _
   | exact known_Branch.mono _ _ _ _
   | exact known_Two.mono _ _ _ _ _ _
   | exact LeO.none _
   | refine LeO.ite ?_ ?_
   | refine LeO.bind ?_ (fun _ => ?_)
  ·
   intro y0 y1 y2
   unfold avermentlaw09_KnownMakes.j1
   repeat' first
   | (with_reducible exact ih0 _ _ _ _ _ _)
   | (with_reducible exact ih1 _ _ _)
   | (with_reducible exact ih2 _ _ _)
   | (with_reducible exact avermentlaw09_told.mono _)
   | (with_reducible exact avermentref09_Branch.mono _ _ _ _)
   | (with_reducible exact avermentref09_Two.mono _ _ _ _ _ _)
   | (with_reducible exact known_Branch.mono _ _ _ _)
   | (with_reducible exact known_Two.mono _ _ _ _ _ _)
   | (with_reducible exact LeO.refl _)
   | (with_reducible exact LeO.none _)
   | (with_reducible refine LeO.ite ?_ ?_)
   | (with_reducible refine LeO.bind ?_ (fun _ => ?_))
   | exact ih0 _ _ _ _ _ _
   | exact ih1 _ _ _
   | exact ih2 _ _ _
   | exact avermentlaw09_told.mono _
   | exact avermentref09_Branch.mono _ _ _ _
   | exact avermentref09_Two.mono _ _ _ _ _ _
   | exact known_Branch.mono _ _ _ _
   | exact known_Two.mono _ _ _ _ _ _
   | exact LeO.none _
   | refine LeO.ite ?_ ?_
   | refine LeO.bind ?_ (fun _ => ?_)
  ·
   intro y0 y1 y2
   unfold avermentlaw09_KnownMakes.l0
   repeat' first
   | (with_reducible exact ih0 _ _ _ _ _ _)
   | (with_reducible exact ih1 _ _ _)
   | (with_reducible exact ih2 _ _ _)
   | (with_reducible exact avermentlaw09_told.mono _)
   | (with_reducible exact avermentref09_Branch.mono _ _ _ _)
   | (with_reducible exact avermentref09_Two.mono _ _ _ _ _ _)
   | (with_reducible exact known_Branch.mono _ _ _ _)
   | (with_reducible exact known_Two.mono _ _ _ _ _ _)
   | (with_reducible exact LeO.refl _)
   | (with_reducible exact LeO.none _)
   | (with_reducible refine LeO.ite ?_ ?_)
   | (with_reducible refine LeO.bind ?_ (fun _ => ?_))
   | exact ih0 _ _ _ _ _ _
   | exact ih1 _ _ _
   | exact ih2 _ _ _
   | exact avermentlaw09_told.mono _
   | exact avermentref09_Branch.mono _ _ _ _
   | exact avermentref09_Two.mono _ _ _ _ _ _
   | exact known_Branch.mono _ _ _ _
   | exact known_Two.mono _ _ _ _ _ _
   | exact LeO.none _
   | refine LeO.ite ?_ ?_
   | refine LeO.bind ?_ (fun _ => ?_)
theorem avermentlaw09_KnownMakes.mono : ∀ a0 a1 a2 a3 a4 k, LeO (avermentlaw09_KnownMakes.f k a0 a1 a2 a3 a4) (avermentlaw09_KnownMakes.f (k + 1) a0 a1 a2 a3 a4) := by
 intro a0 a1 a2 a3 a4 k
 obtain ⟨ih0, ih1, ih2⟩ := avermentlaw09_KnownMakes.mono_l k
 unfold avermentlaw09_KnownMakes.f
 repeat' first
   | (with_reducible exact ih0 _ _ _ _ _ _)
   | (with_reducible exact ih1 _ _ _)
   | (with_reducible exact ih2 _ _ _)
   | (with_reducible exact avermentlaw09_told.mono _)
   | (with_reducible exact avermentref09_Branch.mono _ _ _ _)
   | (with_reducible exact avermentref09_Two.mono _ _ _ _ _ _)
   | (with_reducible exact known_Branch.mono _ _ _ _)
   | (with_reducible exact known_Two.mono _ _ _ _ _ _)
   | (with_reducible exact LeO.refl _)
   | (with_reducible exact LeO.none _)
   | (with_reducible refine LeO.ite ?_ ?_)
   | (with_reducible refine LeO.bind ?_ (fun _ => ?_))
   | exact ih0 _ _ _ _ _ _
   | exact ih1 _ _ _
   | exact ih2 _ _ _
   | exact avermentlaw09_told.mono _
   | exact avermentref09_Branch.mono _ _ _ _
   | exact avermentref09_Two.mono _ _ _ _ _ _
   | exact known_Branch.mono _ _ _ _
   | exact known_Two.mono _ _ _ _ _ _
   | exact LeO.none _
   | refine LeO.ite ?_ ?_
   | refine LeO.bind ?_ (fun _ => ?_)
def avermentlaw09_KnownMakes.T3 : Bool × List (List Nat × List Nat) := (true, [([], []), ([0], [0]), ([1, 0], [1]), ([2], [2]), ([3, 2, 2], [2, 3]), ([2], [2]), ([4, 5, 2], [2, 4, 5]), ([2, 6], [2, 6]), ([7, 4], [7]), ([8], [8]), ([8], [8]), ([9, 10, 8], [8, 9, 10]), ([8, 11], [8, 11])])
def avermentlaw09_KnownMakes.B3 : List Nat := [0, 1, 3, 7, 15, 7, 63, 127, 255, 511, 511, 2047, 4095]
theorem avermentlaw09_KnownMakes.tab3 : rtab .any (opsOf Try.f5 3) = avermentlaw09_KnownMakes.T3 := by kernel_rfl
theorem avermentlaw09_KnownMakes.bits3 : waitsOk avermentlaw09_KnownMakes.T3.2 avermentlaw09_KnownMakes.B3 = true := by kernel_rfl
def avermentlaw09_KnownMakes.T5 : Bool × List (List Nat × List Nat) := (true, [([], []), ([], []), ([1], [1]), ([], []), ([3, 2], [3]), ([0, 2, 4, 4], [0, 2, 4]), ([5], [5]), ([6], [6]), ([6], [6]), ([7, 5, 0, 1, 2, 3, 4, 5, 6, 7], [7]), ([8, 9, 0, 1, 2, 3, 4, 5, 6, 7, 8, 9], [8])])
def avermentlaw09_KnownMakes.B5 : List Nat := [0, 0, 2, 0, 14, 31, 63, 127, 127, 255, 1023]
theorem avermentlaw09_KnownMakes.tab5 : rtab .any (opsOf Try.f5 5) = avermentlaw09_KnownMakes.T5 := by kernel_rfl
theorem avermentlaw09_KnownMakes.bits5 : waitsOk avermentlaw09_KnownMakes.T5.2 avermentlaw09_KnownMakes.B5 = true := by kernel_rfl
def avermentlaw09_KnownMakes.T7 : Bool × List (List Nat × List Nat) := (true, [([], []), ([0], [0]), ([], []), ([1, 2], [1, 2]), ([3, 1], [3]), ([4], [4]), ([4], [4]), ([5, 6, 4], [4, 5, 6]), ([4, 7], [4, 7])])
def avermentlaw09_KnownMakes.B7 : List Nat := [0, 1, 0, 7, 15, 31, 31, 127, 255]
theorem avermentlaw09_KnownMakes.tab7 : rtab .any (opsOf Try.f5 7) = avermentlaw09_KnownMakes.T7 := by kernel_rfl
theorem avermentlaw09_KnownMakes.bits7 : waitsOk avermentlaw09_KnownMakes.T7.2 avermentlaw09_KnownMakes.B7 = true := by kernel_rfl
def avermentlaw09_KnownMakes.T14 : Bool × List (List Nat × List Nat) := (true, [([], []), ([0], [0]), ([], []), ([1, 2], [1, 2]), ([3, 1], [3]), ([4], [4]), ([4], [4]), ([5, 6, 4], [4, 5, 6]), ([4, 7], [4, 7])])
def avermentlaw09_KnownMakes.B14 : List Nat := [0, 1, 0, 7, 15, 31, 31, 127, 255]
theorem avermentlaw09_KnownMakes.tab14 : rtab .any (opsOf Try.f5 14) = avermentlaw09_KnownMakes.T14 := by kernel_rfl
theorem avermentlaw09_KnownMakes.bits14 : waitsOk avermentlaw09_KnownMakes.T14.2 avermentlaw09_KnownMakes.B14 = true := by kernel_rfl
set_option maxHeartbeats 8000000 in
set_option maxRecDepth 100000 in
theorem avermentlaw09_KnownMakes.calls (k : Nat) (a0 : Int) (a1_0 : Bool) (a1_1 : Int) (a2_0 : Bool) (a2_1 : Int) (r : Bool) (w : World) (hr_ : Aside0 (r = true)) (h : avermentlaw09_KnownMakes.f k a0 a1_0 a1_1 a2_0 a2_1 = some r) :
  Calls Try.prog 5 #[.int .i64 a0, .agg #[.bool a1_0, .int .i64 a1_1], .agg #[.bool a2_0, .int .i64 a2_1]] w fun e w' => e = .returned (.bool r) ∧ Below w.heap.size w w' := by
 have hu23 := Try.underlying23
 have hu24 := Try.underlying24
 have HB := Aside0.mk (Below.refl w.heap.size w)
 have H : ((avermentlaw09_To.f a1_0 a1_1).bind fun bt329 => ((known_One.f a0 bt329.1 bt329.2).bind fun bt331 => ((avermentref09_One.f a0 a1_0 a1_1).bind fun bt335 => ((avermentlaw09_told.f k).bind fun t339 => (if t339 = true then ((avermentlaw09_From.f bt331.1 bt331.2.1).bind fun bt340 => (if (!(bt340.1 == bt335.1) || (!(bt340.2 == bt335.2.1))) = true then (avermentlaw09_KnownMakes.j0 k a0 true a1_0 a1_1 a2_0 a2_1) else (avermentlaw09_KnownMakes.j0 k a0 (bt331.2.2 != bt335.2.2) a1_0 a1_1 a2_0 a2_1))) else (avermentlaw09_KnownMakes.j0 k a0 true a1_0 a1_1 a2_0 a2_1)))))) = some r := h
 clear h
 replace H := Option.bind_eq_some_iff.mp H
 obtain ⟨⟨t329, t330⟩, A40, H⟩ := H
 (try dsimp only at H)
 have A4 := Aside0.mk A40
 clear A40
 replace H := Option.bind_eq_some_iff.mp H
 obtain ⟨⟨t331, t332, t333⟩, A50, H⟩ := H
 (try dsimp only at H)
 have A5 := Aside0.mk A50
 clear A50
 replace H := Option.bind_eq_some_iff.mp H
 obtain ⟨⟨t335, t336, t337⟩, A60, H⟩ := H
 (try dsimp only at H)
 have A6 := Aside0.mk A60
 clear A60
 have HC7 := Aside0.mk H
 clear H
 go_enter Try.func5, Try.ntmps5
 go_upto_region 3 with (first | ((with_reducible refine gate_dst (N := 4) rfl ?_); refine box_event ?hg (N := 4) ?hd (cs := #[.bool a1_0, .int .i64 a1_1]) (t := 23) ?hr ?_; (case hd => rfl); (case hg => rfl); (case hr => first | (go_simp; done) | (go_simp; rfl)); intro gb327 hg w8 hbox hb; have BK327 := Aside0.mk (hbox); have GW327 := geb hg HB rfl; have GE327 := geb hg HB rfl; replace HB := hst HB hb rfl; clear hb hbox hg) | ((with_reducible refine gate_dst (N := 5) rfl ?_); refine box_event ?hg (N := 5) ?hd (cs := #[.bool a2_0, .int .i64 a2_1]) (t := 23) ?hr ?_; (case hd => rfl); (case hg => rfl); (case hr => first | (go_simp; done) | (go_simp; rfl)); intro gb328 hg w9 hbox hb; have BK328 := Aside0.mk (hbox); have GW328 := geb hg HB rfl; have GE328 := geb hg HB rfl; have NB327_328 := nbl hg BK327 rfl; have NB328_327 := nbr hg BK327 rfl; replace BK327 := bb BK327 hb rfl; replace HB := hst HB hb rfl; clear hb hbox hg; have hnb10 := NB327_328.out; have hnc10 := NB328_327.out; have hcz11_0 : w9.cell? ⟨gb327, 0, none⟩ = some (.bool a1_0) := (blk_cell BK327.out 0).trans rfl; have hcz11_1 : w9.cell? ⟨gb327, 1, none⟩ = some (.int .i64 a1_1) := (blk_cell BK327.out 1).trans rfl; have hfz11_0 := blk_frozen BK327.out 0; have hfz11_1 := blk_frozen BK327.out 1) | ((with_reducible refine gate_callee (f := 14) rfl ?_); refine goesL_ (some 15) rfl rfl Try.func14 (by kernel_rfl) rfl #[.agg #[.bool a1_0, .int .i64 a1_1]] rfl (mapq rfl) ?_; (with_reducible refine (avermentlaw09_To.calls a1_0 a1_1 t329 t330 _ A4.out).mono ?_); rintro e w12 ⟨rfl, hb⟩; refine ⟨_, rfl, ?_⟩; replace BK327 := bb BK327 hb rfl; replace BK328 := bb BK328 hb rfl; replace HB := hst HB hb rfl; (try clear hb)) | ((with_reducible refine gate_callee (f := 28) rfl ?_); refine goesL_ (some 16) rfl rfl Try.func28 (by kernel_rfl) rfl #[.int .i64 a0, .agg #[.bool t329, .int .i64 t330]] rfl (mapq rfl) ?_; (with_reducible refine (known_One.calls a0 t329 t330 t331 t332 t333 _ A5.out).mono ?_); rintro e w13 ⟨rfl, hb⟩; refine ⟨_, rfl, ?_⟩; replace BK327 := bb BK327 hb rfl; replace BK328 := bb BK328 hb rfl; replace HB := hst HB hb rfl; (try clear hb)) | ((with_reducible refine gate_dst (N := 7) rfl ?_); refine box_event ?hg (N := 7) ?hd (cs := #[.bool false, .int .i64 0]) (t := 24) ?hr ?_; (case hd => rfl); (case hg => rfl); (case hr => first | (go_simp; done) | (go_simp; rfl)); intro gb334 hg w14 hbox hb; have BK334 := Aside0.mk (hbox); have GW334 := geb hg HB rfl; have GE334 := geb hg HB rfl; have NB327_334 := nbl hg BK327 rfl; have NB334_327 := nbr hg BK327 rfl; have NB328_334 := nbl hg BK328 rfl; have NB334_328 := nbr hg BK328 rfl; replace BK327 := bb BK327 hb rfl; replace BK328 := bb BK328 hb rfl; replace HB := hst HB hb rfl; clear hb hbox hg; have hnb15 := NB334_327.out; have hnc15 := NB327_334.out; have hnb16 := NB334_328.out; have hnc16 := NB328_334.out; have hcz17_0 : w14.cell? ⟨gb334, 0, none⟩ = some (.bool false) := (blk_cell BK334.out 0).trans rfl; have hcz17_1 : w14.cell? ⟨gb334, 1, none⟩ = some (.int .i64 0) := (blk_cell BK334.out 1).trans rfl; have hfz17_0 := blk_frozen BK334.out 0; have hfz17_1 := blk_frozen BK334.out 1; have hcz18_0 : w14.cell? ⟨gb327, 0, none⟩ = some (.bool a1_0) := (blk_cell BK327.out 0).trans rfl; have hcz18_1 : w14.cell? ⟨gb327, 1, none⟩ = some (.int .i64 a1_1) := (blk_cell BK327.out 1).trans rfl; have hfz18_0 := blk_frozen BK327.out 0; have hfz18_1 := blk_frozen BK327.out 1) | ((with_reducible refine gate_callee (f := 29) rfl ?_); refine goesL_ (some 22) rfl rfl Try.func29 (by kernel_rfl) rfl #[.int .i64 a0, .agg #[.bool a1_0, .int .i64 a1_1]] rfl (mapq rfl) ?_; (with_reducible refine (avermentref09_One.calls a0 a1_0 a1_1 t335 t336 t337 _ A6.out).mono ?_); rintro e w19 ⟨rfl, hb⟩; refine ⟨_, rfl, ?_⟩; replace BK327 := Aside0.mk (blk_below (g := gb327) (o := .cells #[.bool a1_0, .int .i64 a1_1] 23 (0, 0)) (by (with_reducible repeat (first | refine blk_drewN ?_ _ | refine blk_drew ?_ | refine blk_alloc ?_ _)); refine blk_far ?_ NB327_334.out _; (with_reducible repeat (first | refine blk_drewN ?_ _ | refine blk_drew ?_ | refine blk_alloc ?_ _)); refine blk_far ?_ NB327_334.out _; (with_reducible repeat (first | refine blk_drewN ?_ _ | refine blk_drew ?_ | refine blk_alloc ?_ _)); exact BK327.out) hb); replace BK328 := Aside0.mk (blk_below (g := gb328) (o := .cells #[.bool a2_0, .int .i64 a2_1] 23 (0, 0)) (by (with_reducible repeat (first | refine blk_drewN ?_ _ | refine blk_drew ?_ | refine blk_alloc ?_ _)); refine blk_far ?_ NB328_334.out _; (with_reducible repeat (first | refine blk_drewN ?_ _ | refine blk_drew ?_ | refine blk_alloc ?_ _)); refine blk_far ?_ NB328_334.out _; (with_reducible repeat (first | refine blk_drewN ?_ _ | refine blk_drew ?_ | refine blk_alloc ?_ _)); exact BK328.out) hb); replace BK334 := Aside0.mk (blk_below (g := gb334) (o := .cells #[.bool t331, .int .i64 t332] 24 (0, 0)) (by (with_reducible repeat (first | refine blk_drewN ?_ _ | refine blk_drew ?_ | refine blk_alloc ?_ _)); refine blk_put (cs := #[.bool t331, .int .i64 0]) ?_ 1 _ rfl; (with_reducible repeat (first | refine blk_drewN ?_ _ | refine blk_drew ?_ | refine blk_alloc ?_ _)); refine blk_put (cs := #[.bool false, .int .i64 0]) ?_ 0 _ rfl; (with_reducible repeat (first | refine blk_drewN ?_ _ | refine blk_drew ?_ | refine blk_alloc ?_ _)); exact BK334.out) hb); replace HB := Aside0.mk (below_step (by repeat (first | (with_reducible first | exact HB.out | apply below_alloc | apply pw_below_drewN | apply below_drew1 | refine below_set ?_ GE327.out | refine below_set ?_ GE328.out | refine below_set ?_ GE334.out) | exact HB.out)) hb); (try clear hb)) | ((with_reducible refine gate_dst (N := 9) rfl ?_); refine box_event ?hg (N := 9) ?hd (cs := #[.bool false, .int .i64 0]) (t := 23) ?hr ?_; (case hd => rfl); (case hg => rfl); (case hr => first | (go_simp; done) | (go_simp; rfl)); intro gb338 hg w20 hbox hb; have BK338 := Aside0.mk (hbox); have GW338 := geb hg HB rfl; have GE338 := geb hg HB rfl; have NB327_338 := nbl hg BK327 rfl; have NB338_327 := nbr hg BK327 rfl; have NB328_338 := nbl hg BK328 rfl; have NB338_328 := nbr hg BK328 rfl; have NB334_338 := nbl hg BK334 rfl; have NB338_334 := nbr hg BK334 rfl; replace BK327 := bb BK327 hb rfl; replace BK328 := bb BK328 hb rfl; replace BK334 := bb BK334 hb rfl; replace HB := hst HB hb rfl; clear hb hbox hg; have hnb21 := NB338_327.out; have hnc21 := NB327_338.out; have hnb22 := NB338_328.out; have hnc22 := NB328_338.out; have hnb23 := NB338_334.out; have hnc23 := NB334_338.out; have hcz24_0 : w20.cell? ⟨gb338, 0, none⟩ = some (.bool false) := (blk_cell BK338.out 0).trans rfl; have hcz24_1 : w20.cell? ⟨gb338, 1, none⟩ = some (.int .i64 0) := (blk_cell BK338.out 1).trans rfl; have hfz24_0 := blk_frozen BK338.out 0; have hfz24_1 := blk_frozen BK338.out 1))
 (try simp only [Act.put, List.setIfInBounds_toArray, List.set_cons_zero, List.set_cons_succ])
 go_cut [37] (fun v37 wc => ∃ (kq : Nat) (x37_6 : Bool), v37 = .bool x37_6 ∧ Aside0 (avermentlaw09_KnownMakes.j0 kq a0 x37_6 a1_0 a1_1 a2_0 a2_1 = some r) ∧ Aside0 (kq ≤ k) ∧ Aside0 (wc.heap[gb327]? = some (.cells #[.bool a1_0, .int .i64 a1_1] 23 (0, 0))) ∧ Aside0 (wc.heap[gb328]? = some (.cells #[.bool a2_0, .int .i64 a2_1] 23 (0, 0))) ∧ Aside0 (wc.heap[gb334]? = some (.cells #[.bool t331, .int .i64 t332] 24 (0, 0))) ∧ Aside0 (wc.heap[gb338]? = some (.cells #[.bool t335, .int .i64 t336] 23 (0, 0))) ∧ Aside0 (Below w.heap.size w wc))
 case first =>
  have H := HC7.out
  clear HC7
  replace H := Option.bind_eq_some_iff.mp H
  obtain ⟨t339, A250, H⟩ := H
  (try dsimp only at H)
  have A25 := Aside0.mk A250
  clear A250
  by_cases c26 : t339 = true
  ·
   subst c26
   rw [if_pos rfl] at H
   replace H := Option.bind_eq_some_iff.mp H
   obtain ⟨⟨t340, t341⟩, A270, H⟩ := H
   (try dsimp only at H)
   have A27 := Aside0.mk A270
   clear A270
   by_cases c28 : (!(t340 == t335) || (!(t341 == t336))) = true
   ·
    rw [if_pos c28] at H
    have c28b0 : (!(t340 == t335) || (!(t341 == t336))) = true := c28
    clear c28
    (first | rw [c28b0] | (simp only [i64_w, i32_w]; rw [c28b0]) | skip)
    have H' := Aside0.mk H
    clear H
    try go_wp2
    have n0_ : Aside0 (((w20.setCell ⟨gb338, 0, none⟩ (.bool t335)).setCell ⟨gb338, 1, none⟩ (.int .i64 t336)).heap[gb327]? = some (.cells #[.bool a1_0, .int .i64 a1_1] 23 (0, 0))) := ⟨by (with_reducible repeat (first | refine blk_drewN ?_ _ | refine blk_drew ?_ | refine blk_alloc ?_ _)); refine blk_far ?_ NB327_338.out _; (with_reducible repeat (first | refine blk_drewN ?_ _ | refine blk_drew ?_ | refine blk_alloc ?_ _)); refine blk_far ?_ NB327_338.out _; (with_reducible repeat (first | refine blk_drewN ?_ _ | refine blk_drew ?_ | refine blk_alloc ?_ _)); exact BK327.out⟩
    have n1_ : Aside0 (((w20.setCell ⟨gb338, 0, none⟩ (.bool t335)).setCell ⟨gb338, 1, none⟩ (.int .i64 t336)).heap[gb328]? = some (.cells #[.bool a2_0, .int .i64 a2_1] 23 (0, 0))) := ⟨by (with_reducible repeat (first | refine blk_drewN ?_ _ | refine blk_drew ?_ | refine blk_alloc ?_ _)); refine blk_far ?_ NB328_338.out _; (with_reducible repeat (first | refine blk_drewN ?_ _ | refine blk_drew ?_ | refine blk_alloc ?_ _)); refine blk_far ?_ NB328_338.out _; (with_reducible repeat (first | refine blk_drewN ?_ _ | refine blk_drew ?_ | refine blk_alloc ?_ _)); exact BK328.out⟩
    have n2_ : Aside0 (((w20.setCell ⟨gb338, 0, none⟩ (.bool t335)).setCell ⟨gb338, 1, none⟩ (.int .i64 t336)).heap[gb334]? = some (.cells #[.bool t331, .int .i64 t332] 24 (0, 0))) := ⟨by (with_reducible repeat (first | refine blk_drewN ?_ _ | refine blk_drew ?_ | refine blk_alloc ?_ _)); refine blk_far ?_ NB334_338.out _; (with_reducible repeat (first | refine blk_drewN ?_ _ | refine blk_drew ?_ | refine blk_alloc ?_ _)); refine blk_far ?_ NB334_338.out _; (with_reducible repeat (first | refine blk_drewN ?_ _ | refine blk_drew ?_ | refine blk_alloc ?_ _)); exact BK334.out⟩
    have n3_ : Aside0 (((w20.setCell ⟨gb338, 0, none⟩ (.bool t335)).setCell ⟨gb338, 1, none⟩ (.int .i64 t336)).heap[gb338]? = some (.cells #[.bool t335, .int .i64 t336] 23 (0, 0))) := ⟨by (with_reducible repeat (first | refine blk_drewN ?_ _ | refine blk_drew ?_ | refine blk_alloc ?_ _)); refine blk_put (cs := #[.bool t335, .int .i64 0]) ?_ 1 _ rfl; (with_reducible repeat (first | refine blk_drewN ?_ _ | refine blk_drew ?_ | refine blk_alloc ?_ _)); refine blk_put (cs := #[.bool false, .int .i64 0]) ?_ 0 _ rfl; (with_reducible repeat (first | refine blk_drewN ?_ _ | refine blk_drew ?_ | refine blk_alloc ?_ _)); exact BK338.out⟩
    have n4_ : Aside0 (Below w.heap.size w ((w20.setCell ⟨gb338, 0, none⟩ (.bool t335)).setCell ⟨gb338, 1, none⟩ (.int .i64 t336))) := ⟨by repeat (first | (with_reducible first | exact HB.out | apply below_alloc | apply pw_below_drewN | apply below_drew1 | refine below_set ?_ GE327.out | refine below_set ?_ GE328.out | refine below_set ?_ GE334.out | refine below_set ?_ GE338.out) | exact HB.out)⟩
    (try clear BK327)
    (try clear BK328)
    (try clear BK334)
    (try clear BK338)
    (try clear HB)
    generalize ((w20.setCell ⟨gb338, 0, none⟩ (.bool t335)).setCell ⟨gb338, 1, none⟩ (.int .i64 t336)) = w29 at n0_ n1_ n2_ n3_ n4_ ⊢
    have BK327 := n0_
    have BK328 := n1_
    have BK334 := n2_
    have BK338 := n3_
    have HB := n4_
    clear n0_ n1_ n2_ n3_ n4_
    replace BK327 := Aside0.mk (blk_drew BK327.out); replace BK328 := Aside0.mk (blk_drew BK328.out); replace BK334 := Aside0.mk (blk_drew BK334.out); replace BK338 := Aside0.mk (blk_drew BK338.out); replace HB := Aside0.mk (below_drew1 HB.out)
    refine start_ (n := 13) (S := fun w' => w'.cell? ⟨gb334, 0, none⟩ = some (.bool t331) ∧ w'.cell? ⟨gb334, 1, none⟩ = some (.int .i64 t332) ∧ w'.cell? ⟨gb338, 0, none⟩ = some (.bool t335) ∧ w'.cell? ⟨gb338, 1, none⟩ = some (.int .i64 t336)) (ds := []) #[false, false, false, false, false, false, false, false, false, false, false, false, false] (by kernel_rfl) rfl rfl ⟨bc BK334 0 rfl, bc BK334 1 rfl, bc BK338 0 rfl, bc BK338 1 rfl⟩ (fun hHeld => ?_); refine with_tabW avermentlaw09_KnownMakes.tab3 avermentlaw09_KnownMakes.bits3 (fun HT_ HW_ => ?_)
    generalize w29.drew = w30 at BK327 BK328 BK334 BK338 HB hHeld ⊢
    refine one_ (i := 0) (N := some 25) #[true, false, false, false, false, false, false, false, false, false, false, false, false] rfl rfl (one_of HT_.out (by kernel_rfl)) (by decide) (fun K hK => ?_)
    refine goes_ Try.func16 (by kernel_rfl) rfl #[] (by rfl) rfl rfl (mapq rfl) ?_
    with_reducible refine (avermentlaw09_told.calls k  true _ A25.out).mono ?_
    rintro e w31 ⟨rfl, hb⟩
    refine ⟨_, rfl, ?_⟩
    replace BK327 := bb BK327 hb rfl; replace BK328 := bb BK328 hb rfl; replace BK334 := bb BK334 hb rfl; replace BK338 := bb BK338 hb rfl; replace HB := hst HB hb rfl
    (try clear hb)
    refine hK.out _ _ ⟨bc BK334 0 rfl, bc BK334 1 rfl, bc BK338 0 rfl, bc BK338 1 rfl⟩ (fun hHeld => ?_)
    clear hK K
    refine norm_ (a' := ?_) ?_ ?_
    rotate_left; · (show Act.put _ (some 25) _ = _; simp only [Act.put, List.setIfInBounds_toArray, List.set_cons_zero, List.set_cons_succ, i64_w, i32_w]; rfl)
    refine pure_ (i := 1) (N := some 26) (v := ?_) (a' := ?_) #[true, true, false, false, false, false, false, false, false, false, false, false, false] rfl rfl (any_of HT_.out (by kernel_rfl)) (fun _ _ _ h => h) (Or.inl ⟨by rfl, ?_⟩) ?_ ?_
    rotate_left; · (intro w'; go_simp; with_reducible rfl)
    rotate_left; · (simp only [Act.put, List.setIfInBounds_toArray, List.set_cons_zero, List.set_cons_succ, i64_w, i32_w]; rfl)
    refine pure_ (i := 2) (N := some 27) (v := ?_) (a' := ?_) #[true, true, true, false, false, false, false, false, false, false, false, false, false] rfl rfl (any_of HT_.out (by kernel_rfl)) (fun _ _ _ h => h) (Or.inl ⟨by rfl, ?_⟩) ?_ ?_
    rotate_left; · (intro w'; go_simp; with_reducible rfl)
    rotate_left; · (simp only [Act.put, List.setIfInBounds_toArray, List.set_cons_zero, List.set_cons_succ, i64_w, i32_w]; rfl)
    refine take_ (i := 3) (N := some 28) (v := ?_) (a' := ?_) #[true, true, true, true, false, false, false, false, false, false, false, false, false] rfl rfl (take_ofW HT_.out HW_.out (by kernel_rfl)) (fun _ _ _ h => h) (Or.inl ⟨by rfl, ?_⟩) hHeld ?_ ?_
    rotate_left
    ·
     rintro w' ⟨s0, s1, s2, s3⟩
     go_simp
     with_reducible rfl
    rotate_left
    ·
     simp only [Act.put, List.setIfInBounds_toArray, List.set_cons_zero, List.set_cons_succ, i64_w, i32_w]
     rfl
    refine take_ (i := 5) (N := some 30) (v := ?_) (a' := ?_) #[true, true, true, true, false, true, false, false, false, false, false, false, false] rfl rfl (take_ofW HT_.out HW_.out (by kernel_rfl)) (fun _ _ _ h => h) (Or.inl ⟨by rfl, ?_⟩) hHeld ?_ ?_
    rotate_left
    ·
     rintro w' ⟨s0, s1, s2, s3⟩
     go_simp
     with_reducible rfl
    rotate_left
    ·
     simp only [Act.put, List.setIfInBounds_toArray, List.set_cons_zero, List.set_cons_succ, i64_w, i32_w]
     rfl
    refine one_ (i := 4) (N := some 29) #[true, true, true, true, true, true, false, false, false, false, false, false, false] rfl rfl (one_of HT_.out (by kernel_rfl)) (by decide) (fun K hK => ?_)
    refine goes_ Try.func17 (by kernel_rfl) rfl #[.agg #[.bool t331, .int .i64 t332]] (by rfl) rfl rfl (mapq rfl) ?_
    with_reducible refine (avermentlaw09_From.calls t331 t332 t340 t341 _ A27.out).mono ?_
    rintro e w32 ⟨rfl, hb⟩
    refine ⟨_, rfl, ?_⟩
    replace BK327 := bb BK327 hb rfl; replace BK328 := bb BK328 hb rfl; replace BK334 := bb BK334 hb rfl; replace BK338 := bb BK338 hb rfl; replace HB := hst HB hb rfl
    (try clear hb)
    refine hK.out _ _ ⟨bc BK334 0 rfl, bc BK334 1 rfl, bc BK338 0 rfl, bc BK338 1 rfl⟩ (fun hHeld => ?_)
    clear hK K
    refine norm_ (a' := ?_) ?_ ?_
    rotate_left; · (show Act.put _ (some 29) _ = _; simp only [Act.put, List.setIfInBounds_toArray, List.set_cons_zero, List.set_cons_succ, i64_w, i32_w]; rfl)
    refine pure_ (i := 6) (N := some 31) (v := ?_) (a' := ?_) #[true, true, true, true, true, true, true, false, false, false, false, false, false] rfl rfl (any_of HT_.out (by kernel_rfl)) (fun _ _ _ h => h) (Or.inl ⟨by rfl, ?_⟩) ?_ ?_
    rotate_left; · (intro w'; go_simp; with_reducible rfl)
    rotate_left; · (simp only [Act.put, List.setIfInBounds_toArray, List.set_cons_zero, List.set_cons_succ, i64_w, i32_w]; rfl)
    refine pure_ (i := 7) (N := some 32) (v := ?_) (a' := ?_) #[true, true, true, true, true, true, true, true, false, false, false, false, false] rfl rfl (any_of HT_.out (by kernel_rfl)) (fun _ _ _ h => h) (Or.inl ⟨by rfl, ?_⟩) ?_ ?_
    rotate_left; · (intro w'; go_simp; with_reducible rfl)
    rotate_left; · (simp only [Act.put, List.setIfInBounds_toArray, List.set_cons_zero, List.set_cons_succ, i64_w, i32_w]; rfl)
    refine pure_ (i := 8) (N := some 33) (v := ?_) (a' := ?_) #[true, true, true, true, true, true, true, true, true, false, false, false, false] rfl rfl (any_of HT_.out (by kernel_rfl)) (fun _ _ _ h => h) (Or.inl ⟨by rfl, ?_⟩) ?_ ?_
    rotate_left; · (intro w'; go_simp; with_reducible rfl)
    rotate_left; · (simp only [Act.put, List.setIfInBounds_toArray, List.set_cons_zero, List.set_cons_succ, i64_w, i32_w]; rfl)
    refine pure_ (i := 9) (N := some 34) (v := undef) (a' := ?_) #[true, true, true, true, true, true, true, true, true, true, false, false, false] rfl rfl (any_of HT_.out (by kernel_rfl)) (fun _ _ _ h => h) (Or.inr ⟨by rfl, rfl⟩) ?_ ?_
    rotate_left
    ·
     simp only [Act.put, List.setIfInBounds_toArray, List.set_cons_zero, List.set_cons_succ, i64_w, i32_w]
     rfl
    refine pure_ (i := 10) (N := some 35) (v := undef) (a' := ?_) #[true, true, true, true, true, true, true, true, true, true, true, false, false] rfl rfl (any_of HT_.out (by kernel_rfl)) (fun _ _ _ h => h) (Or.inr ⟨by rfl, rfl⟩) ?_ ?_
    rotate_left
    ·
     simp only [Act.put, List.setIfInBounds_toArray, List.set_cons_zero, List.set_cons_succ, i64_w, i32_w]
     rfl
    refine pure_ (i := 11) (N := some 36) (v := undef) (a' := ?_) #[true, true, true, true, true, true, true, true, true, true, true, true, false] rfl rfl (any_of HT_.out (by kernel_rfl)) (fun _ _ _ h => h) (Or.inr ⟨by rfl, rfl⟩) ?_ ?_
    rotate_left
    ·
     simp only [Act.put, List.setIfInBounds_toArray, List.set_cons_zero, List.set_cons_succ, i64_w, i32_w]
     rfl
    refine pure_ (i := 12) (N := some 37) (v := ?_) (a' := ?_) #[true, true, true, true, true, true, true, true, true, true, true, true, true] rfl rfl (any_of HT_.out (by kernel_rfl)) (fun _ _ _ h => h) (Or.inl ⟨by rfl, ?_⟩) ?_ ?_
    rotate_left; · (intro w'; go_simp; with_reducible rfl)
    rotate_left; · (simp only [Act.put, List.setIfInBounds_toArray, List.set_cons_zero, List.set_cons_succ, i64_w, i32_w]; rfl)
    refine done_ (done_of HT_.out (by kernel_rfl)) ?_
    try go_wp2
    go_meet
    case rel => exact ⟨_, (true), (by first | rfl | (simp; done) | (simp [*]; done)), H', ⟨by first | omega | exact Nat.le_refl _⟩, ⟨by (with_reducible repeat (first | refine blk_drewN ?_ _ | refine blk_drew ?_ | refine blk_alloc ?_ _)); exact BK327.out⟩, ⟨by (with_reducible repeat (first | refine blk_drewN ?_ _ | refine blk_drew ?_ | refine blk_alloc ?_ _)); exact BK328.out⟩, ⟨by (with_reducible repeat (first | refine blk_drewN ?_ _ | refine blk_drew ?_ | refine blk_alloc ?_ _)); exact BK334.out⟩, ⟨by (with_reducible repeat (first | refine blk_drewN ?_ _ | refine blk_drew ?_ | refine blk_alloc ?_ _)); exact BK338.out⟩, ⟨by repeat (first | (with_reducible first | exact HB.out | apply below_alloc | apply pw_below_drewN | apply below_drew1 | refine below_set ?_ GE327.out | refine below_set ?_ GE328.out | refine below_set ?_ GE334.out | refine below_set ?_ GE338.out) | exact HB.out)⟩⟩
   ·
    rw [if_neg c28] at H
    have c28b0 : (!(t340 == t335) || (!(t341 == t336))) = false := by simpa using c28
    clear c28
    (first | rw [c28b0] | (simp only [i64_w, i32_w]; rw [c28b0]) | skip)
    have H' := Aside0.mk H
    clear H
    try go_wp2
    have n0_ : Aside0 (((w20.setCell ⟨gb338, 0, none⟩ (.bool t335)).setCell ⟨gb338, 1, none⟩ (.int .i64 t336)).heap[gb327]? = some (.cells #[.bool a1_0, .int .i64 a1_1] 23 (0, 0))) := ⟨by (with_reducible repeat (first | refine blk_drewN ?_ _ | refine blk_drew ?_ | refine blk_alloc ?_ _)); refine blk_far ?_ NB327_338.out _; (with_reducible repeat (first | refine blk_drewN ?_ _ | refine blk_drew ?_ | refine blk_alloc ?_ _)); refine blk_far ?_ NB327_338.out _; (with_reducible repeat (first | refine blk_drewN ?_ _ | refine blk_drew ?_ | refine blk_alloc ?_ _)); exact BK327.out⟩
    have n1_ : Aside0 (((w20.setCell ⟨gb338, 0, none⟩ (.bool t335)).setCell ⟨gb338, 1, none⟩ (.int .i64 t336)).heap[gb328]? = some (.cells #[.bool a2_0, .int .i64 a2_1] 23 (0, 0))) := ⟨by (with_reducible repeat (first | refine blk_drewN ?_ _ | refine blk_drew ?_ | refine blk_alloc ?_ _)); refine blk_far ?_ NB328_338.out _; (with_reducible repeat (first | refine blk_drewN ?_ _ | refine blk_drew ?_ | refine blk_alloc ?_ _)); refine blk_far ?_ NB328_338.out _; (with_reducible repeat (first | refine blk_drewN ?_ _ | refine blk_drew ?_ | refine blk_alloc ?_ _)); exact BK328.out⟩
    have n2_ : Aside0 (((w20.setCell ⟨gb338, 0, none⟩ (.bool t335)).setCell ⟨gb338, 1, none⟩ (.int .i64 t336)).heap[gb334]? = some (.cells #[.bool t331, .int .i64 t332] 24 (0, 0))) := ⟨by (with_reducible repeat (first | refine blk_drewN ?_ _ | refine blk_drew ?_ | refine blk_alloc ?_ _)); refine blk_far ?_ NB334_338.out _; (with_reducible repeat (first | refine blk_drewN ?_ _ | refine blk_drew ?_ | refine blk_alloc ?_ _)); refine blk_far ?_ NB334_338.out _; (with_reducible repeat (first | refine blk_drewN ?_ _ | refine blk_drew ?_ | refine blk_alloc ?_ _)); exact BK334.out⟩
    have n3_ : Aside0 (((w20.setCell ⟨gb338, 0, none⟩ (.bool t335)).setCell ⟨gb338, 1, none⟩ (.int .i64 t336)).heap[gb338]? = some (.cells #[.bool t335, .int .i64 t336] 23 (0, 0))) := ⟨by (with_reducible repeat (first | refine blk_drewN ?_ _ | refine blk_drew ?_ | refine blk_alloc ?_ _)); refine blk_put (cs := #[.bool t335, .int .i64 0]) ?_ 1 _ rfl; (with_reducible repeat (first | refine blk_drewN ?_ _ | refine blk_drew ?_ | refine blk_alloc ?_ _)); refine blk_put (cs := #[.bool false, .int .i64 0]) ?_ 0 _ rfl; (with_reducible repeat (first | refine blk_drewN ?_ _ | refine blk_drew ?_ | refine blk_alloc ?_ _)); exact BK338.out⟩
    have n4_ : Aside0 (Below w.heap.size w ((w20.setCell ⟨gb338, 0, none⟩ (.bool t335)).setCell ⟨gb338, 1, none⟩ (.int .i64 t336))) := ⟨by repeat (first | (with_reducible first | exact HB.out | apply below_alloc | apply pw_below_drewN | apply below_drew1 | refine below_set ?_ GE327.out | refine below_set ?_ GE328.out | refine below_set ?_ GE334.out | refine below_set ?_ GE338.out) | exact HB.out)⟩
    (try clear BK327)
    (try clear BK328)
    (try clear BK334)
    (try clear BK338)
    (try clear HB)
    generalize ((w20.setCell ⟨gb338, 0, none⟩ (.bool t335)).setCell ⟨gb338, 1, none⟩ (.int .i64 t336)) = w33 at n0_ n1_ n2_ n3_ n4_ ⊢
    have BK327 := n0_
    have BK328 := n1_
    have BK334 := n2_
    have BK338 := n3_
    have HB := n4_
    clear n0_ n1_ n2_ n3_ n4_
    replace BK327 := Aside0.mk (blk_drew BK327.out); replace BK328 := Aside0.mk (blk_drew BK328.out); replace BK334 := Aside0.mk (blk_drew BK334.out); replace BK338 := Aside0.mk (blk_drew BK338.out); replace HB := Aside0.mk (below_drew1 HB.out)
    refine start_ (n := 13) (S := fun w' => w'.cell? ⟨gb334, 0, none⟩ = some (.bool t331) ∧ w'.cell? ⟨gb334, 1, none⟩ = some (.int .i64 t332) ∧ w'.cell? ⟨gb338, 0, none⟩ = some (.bool t335) ∧ w'.cell? ⟨gb338, 1, none⟩ = some (.int .i64 t336)) (ds := []) #[false, false, false, false, false, false, false, false, false, false, false, false, false] (by kernel_rfl) rfl rfl ⟨bc BK334 0 rfl, bc BK334 1 rfl, bc BK338 0 rfl, bc BK338 1 rfl⟩ (fun hHeld => ?_); refine with_tabW avermentlaw09_KnownMakes.tab3 avermentlaw09_KnownMakes.bits3 (fun HT_ HW_ => ?_)
    generalize w33.drew = w34 at BK327 BK328 BK334 BK338 HB hHeld ⊢
    refine one_ (i := 0) (N := some 25) #[true, false, false, false, false, false, false, false, false, false, false, false, false] rfl rfl (one_of HT_.out (by kernel_rfl)) (by decide) (fun K hK => ?_)
    refine goes_ Try.func16 (by kernel_rfl) rfl #[] (by rfl) rfl rfl (mapq rfl) ?_
    with_reducible refine (avermentlaw09_told.calls k  true _ A25.out).mono ?_
    rintro e w35 ⟨rfl, hb⟩
    refine ⟨_, rfl, ?_⟩
    replace BK327 := bb BK327 hb rfl; replace BK328 := bb BK328 hb rfl; replace BK334 := bb BK334 hb rfl; replace BK338 := bb BK338 hb rfl; replace HB := hst HB hb rfl
    (try clear hb)
    refine hK.out _ _ ⟨bc BK334 0 rfl, bc BK334 1 rfl, bc BK338 0 rfl, bc BK338 1 rfl⟩ (fun hHeld => ?_)
    clear hK K
    refine norm_ (a' := ?_) ?_ ?_
    rotate_left; · (show Act.put _ (some 25) _ = _; simp only [Act.put, List.setIfInBounds_toArray, List.set_cons_zero, List.set_cons_succ, i64_w, i32_w]; rfl)
    refine pure_ (i := 1) (N := some 26) (v := ?_) (a' := ?_) #[true, true, false, false, false, false, false, false, false, false, false, false, false] rfl rfl (any_of HT_.out (by kernel_rfl)) (fun _ _ _ h => h) (Or.inl ⟨by rfl, ?_⟩) ?_ ?_
    rotate_left; · (intro w'; go_simp; with_reducible rfl)
    rotate_left; · (simp only [Act.put, List.setIfInBounds_toArray, List.set_cons_zero, List.set_cons_succ, i64_w, i32_w]; rfl)
    refine pure_ (i := 2) (N := some 27) (v := ?_) (a' := ?_) #[true, true, true, false, false, false, false, false, false, false, false, false, false] rfl rfl (any_of HT_.out (by kernel_rfl)) (fun _ _ _ h => h) (Or.inl ⟨by rfl, ?_⟩) ?_ ?_
    rotate_left; · (intro w'; go_simp; with_reducible rfl)
    rotate_left; · (simp only [Act.put, List.setIfInBounds_toArray, List.set_cons_zero, List.set_cons_succ, i64_w, i32_w]; rfl)
    refine take_ (i := 3) (N := some 28) (v := ?_) (a' := ?_) #[true, true, true, true, false, false, false, false, false, false, false, false, false] rfl rfl (take_ofW HT_.out HW_.out (by kernel_rfl)) (fun _ _ _ h => h) (Or.inl ⟨by rfl, ?_⟩) hHeld ?_ ?_
    rotate_left
    ·
     rintro w' ⟨s0, s1, s2, s3⟩
     go_simp
     with_reducible rfl
    rotate_left
    ·
     simp only [Act.put, List.setIfInBounds_toArray, List.set_cons_zero, List.set_cons_succ, i64_w, i32_w]
     rfl
    refine take_ (i := 5) (N := some 30) (v := ?_) (a' := ?_) #[true, true, true, true, false, true, false, false, false, false, false, false, false] rfl rfl (take_ofW HT_.out HW_.out (by kernel_rfl)) (fun _ _ _ h => h) (Or.inl ⟨by rfl, ?_⟩) hHeld ?_ ?_
    rotate_left
    ·
     rintro w' ⟨s0, s1, s2, s3⟩
     go_simp
     with_reducible rfl
    rotate_left
    ·
     simp only [Act.put, List.setIfInBounds_toArray, List.set_cons_zero, List.set_cons_succ, i64_w, i32_w]
     rfl
    refine one_ (i := 4) (N := some 29) #[true, true, true, true, true, true, false, false, false, false, false, false, false] rfl rfl (one_of HT_.out (by kernel_rfl)) (by decide) (fun K hK => ?_)
    refine goes_ Try.func17 (by kernel_rfl) rfl #[.agg #[.bool t331, .int .i64 t332]] (by rfl) rfl rfl (mapq rfl) ?_
    with_reducible refine (avermentlaw09_From.calls t331 t332 t340 t341 _ A27.out).mono ?_
    rintro e w36 ⟨rfl, hb⟩
    refine ⟨_, rfl, ?_⟩
    replace BK327 := bb BK327 hb rfl; replace BK328 := bb BK328 hb rfl; replace BK334 := bb BK334 hb rfl; replace BK338 := bb BK338 hb rfl; replace HB := hst HB hb rfl
    (try clear hb)
    refine hK.out _ _ ⟨bc BK334 0 rfl, bc BK334 1 rfl, bc BK338 0 rfl, bc BK338 1 rfl⟩ (fun hHeld => ?_)
    clear hK K
    refine norm_ (a' := ?_) ?_ ?_
    rotate_left; · (show Act.put _ (some 29) _ = _; simp only [Act.put, List.setIfInBounds_toArray, List.set_cons_zero, List.set_cons_succ, i64_w, i32_w]; rfl)
    refine pure_ (i := 6) (N := some 31) (v := ?_) (a' := ?_) #[true, true, true, true, true, true, true, false, false, false, false, false, false] rfl rfl (any_of HT_.out (by kernel_rfl)) (fun _ _ _ h => h) (Or.inl ⟨by rfl, ?_⟩) ?_ ?_
    rotate_left; · (intro w'; go_simp; with_reducible rfl)
    rotate_left; · (simp only [Act.put, List.setIfInBounds_toArray, List.set_cons_zero, List.set_cons_succ, i64_w, i32_w]; rfl)
    refine pure_ (i := 7) (N := some 32) (v := ?_) (a' := ?_) #[true, true, true, true, true, true, true, true, false, false, false, false, false] rfl rfl (any_of HT_.out (by kernel_rfl)) (fun _ _ _ h => h) (Or.inl ⟨by rfl, ?_⟩) ?_ ?_
    rotate_left; · (intro w'; go_simp; with_reducible rfl)
    rotate_left; · (simp only [Act.put, List.setIfInBounds_toArray, List.set_cons_zero, List.set_cons_succ, i64_w, i32_w]; rfl)
    refine pure_ (i := 8) (N := some 33) (v := ?_) (a' := ?_) #[true, true, true, true, true, true, true, true, true, false, false, false, false] rfl rfl (any_of HT_.out (by kernel_rfl)) (fun _ _ _ h => h) (Or.inl ⟨by rfl, ?_⟩) ?_ ?_
    rotate_left; · (intro w'; go_simp; with_reducible rfl)
    rotate_left; · (simp only [Act.put, List.setIfInBounds_toArray, List.set_cons_zero, List.set_cons_succ, i64_w, i32_w]; rfl)
    refine pure_ (i := 9) (N := some 34) (v := ?_) (a' := ?_) #[true, true, true, true, true, true, true, true, true, true, false, false, false] rfl rfl (any_of HT_.out (by kernel_rfl)) (fun _ _ _ h => h) (Or.inl ⟨by rfl, ?_⟩) ?_ ?_
    rotate_left; · (intro w'; go_simp; with_reducible rfl)
    rotate_left; · (simp only [Act.put, List.setIfInBounds_toArray, List.set_cons_zero, List.set_cons_succ, i64_w, i32_w]; rfl)
    refine pure_ (i := 10) (N := some 35) (v := ?_) (a' := ?_) #[true, true, true, true, true, true, true, true, true, true, true, false, false] rfl rfl (any_of HT_.out (by kernel_rfl)) (fun _ _ _ h => h) (Or.inl ⟨by rfl, ?_⟩) ?_ ?_
    rotate_left; · (intro w'; go_simp; with_reducible rfl)
    rotate_left; · (simp only [Act.put, List.setIfInBounds_toArray, List.set_cons_zero, List.set_cons_succ, i64_w, i32_w]; rfl)
    refine pure_ (i := 11) (N := some 36) (v := ?_) (a' := ?_) #[true, true, true, true, true, true, true, true, true, true, true, true, false] rfl rfl (any_of HT_.out (by kernel_rfl)) (fun _ _ _ h => h) (Or.inl ⟨by rfl, ?_⟩) ?_ ?_
    rotate_left; · (intro w'; go_simp; with_reducible rfl)
    rotate_left; · (simp only [Act.put, List.setIfInBounds_toArray, List.set_cons_zero, List.set_cons_succ, i64_w, i32_w]; rfl)
    refine pure_ (i := 12) (N := some 37) (v := ?_) (a' := ?_) #[true, true, true, true, true, true, true, true, true, true, true, true, true] rfl rfl (any_of HT_.out (by kernel_rfl)) (fun _ _ _ h => h) (Or.inl ⟨by rfl, ?_⟩) ?_ ?_
    rotate_left; · (intro w'; go_simp; with_reducible rfl)
    rotate_left; · (simp only [Act.put, List.setIfInBounds_toArray, List.set_cons_zero, List.set_cons_succ, i64_w, i32_w]; rfl)
    refine done_ (done_of HT_.out (by kernel_rfl)) ?_
    try go_wp2
    go_meet
    case rel => exact ⟨_, ((t333 != t337)), (by first | rfl | (simp; done) | (simp [*]; done)), H', ⟨by first | omega | exact Nat.le_refl _⟩, ⟨by (with_reducible repeat (first | refine blk_drewN ?_ _ | refine blk_drew ?_ | refine blk_alloc ?_ _)); exact BK327.out⟩, ⟨by (with_reducible repeat (first | refine blk_drewN ?_ _ | refine blk_drew ?_ | refine blk_alloc ?_ _)); exact BK328.out⟩, ⟨by (with_reducible repeat (first | refine blk_drewN ?_ _ | refine blk_drew ?_ | refine blk_alloc ?_ _)); exact BK334.out⟩, ⟨by (with_reducible repeat (first | refine blk_drewN ?_ _ | refine blk_drew ?_ | refine blk_alloc ?_ _)); exact BK338.out⟩, ⟨by repeat (first | (with_reducible first | exact HB.out | apply below_alloc | apply pw_below_drewN | apply below_drew1 | refine below_set ?_ GE327.out | refine below_set ?_ GE328.out | refine below_set ?_ GE334.out | refine below_set ?_ GE338.out) | exact HB.out)⟩⟩
  ·
   replace c26 := Bool.eq_false_iff.mpr c26
   subst c26
   rw [if_neg (show ¬ (false = true) by decide)] at H
   have H' := Aside0.mk H
   clear H
   try go_wp2
   have n0_ : Aside0 (((w20.setCell ⟨gb338, 0, none⟩ (.bool t335)).setCell ⟨gb338, 1, none⟩ (.int .i64 t336)).heap[gb327]? = some (.cells #[.bool a1_0, .int .i64 a1_1] 23 (0, 0))) := ⟨by (with_reducible repeat (first | refine blk_drewN ?_ _ | refine blk_drew ?_ | refine blk_alloc ?_ _)); refine blk_far ?_ NB327_338.out _; (with_reducible repeat (first | refine blk_drewN ?_ _ | refine blk_drew ?_ | refine blk_alloc ?_ _)); refine blk_far ?_ NB327_338.out _; (with_reducible repeat (first | refine blk_drewN ?_ _ | refine blk_drew ?_ | refine blk_alloc ?_ _)); exact BK327.out⟩
   have n1_ : Aside0 (((w20.setCell ⟨gb338, 0, none⟩ (.bool t335)).setCell ⟨gb338, 1, none⟩ (.int .i64 t336)).heap[gb328]? = some (.cells #[.bool a2_0, .int .i64 a2_1] 23 (0, 0))) := ⟨by (with_reducible repeat (first | refine blk_drewN ?_ _ | refine blk_drew ?_ | refine blk_alloc ?_ _)); refine blk_far ?_ NB328_338.out _; (with_reducible repeat (first | refine blk_drewN ?_ _ | refine blk_drew ?_ | refine blk_alloc ?_ _)); refine blk_far ?_ NB328_338.out _; (with_reducible repeat (first | refine blk_drewN ?_ _ | refine blk_drew ?_ | refine blk_alloc ?_ _)); exact BK328.out⟩
   have n2_ : Aside0 (((w20.setCell ⟨gb338, 0, none⟩ (.bool t335)).setCell ⟨gb338, 1, none⟩ (.int .i64 t336)).heap[gb334]? = some (.cells #[.bool t331, .int .i64 t332] 24 (0, 0))) := ⟨by (with_reducible repeat (first | refine blk_drewN ?_ _ | refine blk_drew ?_ | refine blk_alloc ?_ _)); refine blk_far ?_ NB334_338.out _; (with_reducible repeat (first | refine blk_drewN ?_ _ | refine blk_drew ?_ | refine blk_alloc ?_ _)); refine blk_far ?_ NB334_338.out _; (with_reducible repeat (first | refine blk_drewN ?_ _ | refine blk_drew ?_ | refine blk_alloc ?_ _)); exact BK334.out⟩
   have n3_ : Aside0 (((w20.setCell ⟨gb338, 0, none⟩ (.bool t335)).setCell ⟨gb338, 1, none⟩ (.int .i64 t336)).heap[gb338]? = some (.cells #[.bool t335, .int .i64 t336] 23 (0, 0))) := ⟨by (with_reducible repeat (first | refine blk_drewN ?_ _ | refine blk_drew ?_ | refine blk_alloc ?_ _)); refine blk_put (cs := #[.bool t335, .int .i64 0]) ?_ 1 _ rfl; (with_reducible repeat (first | refine blk_drewN ?_ _ | refine blk_drew ?_ | refine blk_alloc ?_ _)); refine blk_put (cs := #[.bool false, .int .i64 0]) ?_ 0 _ rfl; (with_reducible repeat (first | refine blk_drewN ?_ _ | refine blk_drew ?_ | refine blk_alloc ?_ _)); exact BK338.out⟩
   have n4_ : Aside0 (Below w.heap.size w ((w20.setCell ⟨gb338, 0, none⟩ (.bool t335)).setCell ⟨gb338, 1, none⟩ (.int .i64 t336))) := ⟨by repeat (first | (with_reducible first | exact HB.out | apply below_alloc | apply pw_below_drewN | apply below_drew1 | refine below_set ?_ GE327.out | refine below_set ?_ GE328.out | refine below_set ?_ GE334.out | refine below_set ?_ GE338.out) | exact HB.out)⟩
   (try clear BK327)
   (try clear BK328)
   (try clear BK334)
   (try clear BK338)
   (try clear HB)
   generalize ((w20.setCell ⟨gb338, 0, none⟩ (.bool t335)).setCell ⟨gb338, 1, none⟩ (.int .i64 t336)) = w37 at n0_ n1_ n2_ n3_ n4_ ⊢
   have BK327 := n0_
   have BK328 := n1_
   have BK334 := n2_
   have BK338 := n3_
   have HB := n4_
   clear n0_ n1_ n2_ n3_ n4_
   replace BK327 := Aside0.mk (blk_drew BK327.out); replace BK328 := Aside0.mk (blk_drew BK328.out); replace BK334 := Aside0.mk (blk_drew BK334.out); replace BK338 := Aside0.mk (blk_drew BK338.out); replace HB := Aside0.mk (below_drew1 HB.out)
   refine start_ (n := 13) (S := fun w' => True) (ds := []) #[false, false, false, false, false, false, false, false, false, false, false, false, false] (by kernel_rfl) rfl rfl trivial (fun hHeld => ?_); refine with_tabW avermentlaw09_KnownMakes.tab3 avermentlaw09_KnownMakes.bits3 (fun HT_ HW_ => ?_)
   generalize w37.drew = w38 at BK327 BK328 BK334 BK338 HB hHeld ⊢
   refine one_ (i := 0) (N := some 25) #[true, false, false, false, false, false, false, false, false, false, false, false, false] rfl rfl (one_of HT_.out (by kernel_rfl)) (by decide) (fun K hK => ?_)
   refine goes_ Try.func16 (by kernel_rfl) rfl #[] (by rfl) rfl rfl (mapq rfl) ?_
   with_reducible refine (avermentlaw09_told.calls k  false _ A25.out).mono ?_
   rintro e w39 ⟨rfl, hb⟩
   refine ⟨_, rfl, ?_⟩
   replace BK327 := bb BK327 hb rfl; replace BK328 := bb BK328 hb rfl; replace BK334 := bb BK334 hb rfl; replace BK338 := bb BK338 hb rfl; replace HB := hst HB hb rfl
   (try clear hb)
   refine hK.out _ _ trivial (fun hHeld => ?_)
   clear hK K
   refine norm_ (a' := ?_) ?_ ?_
   rotate_left; · (show Act.put _ (some 25) _ = _; simp only [Act.put, List.setIfInBounds_toArray, List.set_cons_zero, List.set_cons_succ, i64_w, i32_w]; rfl)
   refine pure_ (i := 1) (N := some 26) (v := ?_) (a' := ?_) #[true, true, false, false, false, false, false, false, false, false, false, false, false] rfl rfl (any_of HT_.out (by kernel_rfl)) (fun _ _ _ h => h) (Or.inl ⟨by rfl, ?_⟩) ?_ ?_
   rotate_left; · (intro w'; go_simp; with_reducible rfl)
   rotate_left; · (simp only [Act.put, List.setIfInBounds_toArray, List.set_cons_zero, List.set_cons_succ, i64_w, i32_w]; rfl)
   refine pure_ (i := 2) (N := some 27) (v := ?_) (a' := ?_) #[true, true, true, false, false, false, false, false, false, false, false, false, false] rfl rfl (any_of HT_.out (by kernel_rfl)) (fun _ _ _ h => h) (Or.inl ⟨by rfl, ?_⟩) ?_ ?_
   rotate_left; · (intro w'; go_simp; with_reducible rfl)
   rotate_left; · (simp only [Act.put, List.setIfInBounds_toArray, List.set_cons_zero, List.set_cons_succ, i64_w, i32_w]; rfl)
   refine pure_ (i := 3) (N := some 28) (v := undef) (a' := ?_) #[true, true, true, true, false, false, false, false, false, false, false, false, false] rfl rfl (any_of HT_.out (by kernel_rfl)) (fun _ _ _ h => h) (Or.inr ⟨by rfl, rfl⟩) ?_ ?_
   rotate_left
   ·
    simp only [Act.put, List.setIfInBounds_toArray, List.set_cons_zero, List.set_cons_succ, i64_w, i32_w]
    rfl
   refine pure_ (i := 4) (N := some 29) (v := undef) (a' := ?_) #[true, true, true, true, true, false, false, false, false, false, false, false, false] rfl rfl (any_of HT_.out (by kernel_rfl)) (fun _ _ _ h => h) (Or.inr ⟨by rfl, rfl⟩) ?_ ?_
   rotate_left
   ·
    simp only [Act.put, List.setIfInBounds_toArray, List.set_cons_zero, List.set_cons_succ, i64_w, i32_w]
    rfl
   refine pure_ (i := 5) (N := some 30) (v := undef) (a' := ?_) #[true, true, true, true, true, true, false, false, false, false, false, false, false] rfl rfl (any_of HT_.out (by kernel_rfl)) (fun _ _ _ h => h) (Or.inr ⟨by rfl, rfl⟩) ?_ ?_
   rotate_left
   ·
    simp only [Act.put, List.setIfInBounds_toArray, List.set_cons_zero, List.set_cons_succ, i64_w, i32_w]
    rfl
   refine pure_ (i := 6) (N := some 31) (v := undef) (a' := ?_) #[true, true, true, true, true, true, true, false, false, false, false, false, false] rfl rfl (any_of HT_.out (by kernel_rfl)) (fun _ _ _ h => h) (Or.inr ⟨by rfl, rfl⟩) ?_ ?_
   rotate_left
   ·
    simp only [Act.put, List.setIfInBounds_toArray, List.set_cons_zero, List.set_cons_succ, i64_w, i32_w]
    rfl
   refine pure_ (i := 7) (N := some 32) (v := ?_) (a' := ?_) #[true, true, true, true, true, true, true, true, false, false, false, false, false] rfl rfl (any_of HT_.out (by kernel_rfl)) (fun _ _ _ h => h) (Or.inl ⟨by rfl, ?_⟩) ?_ ?_
   rotate_left; · (intro w'; go_simp; with_reducible rfl)
   rotate_left; · (simp only [Act.put, List.setIfInBounds_toArray, List.set_cons_zero, List.set_cons_succ, i64_w, i32_w]; rfl)
   refine pure_ (i := 8) (N := some 33) (v := ?_) (a' := ?_) #[true, true, true, true, true, true, true, true, true, false, false, false, false] rfl rfl (any_of HT_.out (by kernel_rfl)) (fun _ _ _ h => h) (Or.inl ⟨by rfl, ?_⟩) ?_ ?_
   rotate_left; · (intro w'; go_simp; with_reducible rfl)
   rotate_left; · (simp only [Act.put, List.setIfInBounds_toArray, List.set_cons_zero, List.set_cons_succ, i64_w, i32_w]; rfl)
   refine pure_ (i := 9) (N := some 34) (v := undef) (a' := ?_) #[true, true, true, true, true, true, true, true, true, true, false, false, false] rfl rfl (any_of HT_.out (by kernel_rfl)) (fun _ _ _ h => h) (Or.inr ⟨by rfl, rfl⟩) ?_ ?_
   rotate_left
   ·
    simp only [Act.put, List.setIfInBounds_toArray, List.set_cons_zero, List.set_cons_succ, i64_w, i32_w]
    rfl
   refine pure_ (i := 10) (N := some 35) (v := undef) (a' := ?_) #[true, true, true, true, true, true, true, true, true, true, true, false, false] rfl rfl (any_of HT_.out (by kernel_rfl)) (fun _ _ _ h => h) (Or.inr ⟨by rfl, rfl⟩) ?_ ?_
   rotate_left
   ·
    simp only [Act.put, List.setIfInBounds_toArray, List.set_cons_zero, List.set_cons_succ, i64_w, i32_w]
    rfl
   refine pure_ (i := 11) (N := some 36) (v := undef) (a' := ?_) #[true, true, true, true, true, true, true, true, true, true, true, true, false] rfl rfl (any_of HT_.out (by kernel_rfl)) (fun _ _ _ h => h) (Or.inr ⟨by rfl, rfl⟩) ?_ ?_
   rotate_left
   ·
    simp only [Act.put, List.setIfInBounds_toArray, List.set_cons_zero, List.set_cons_succ, i64_w, i32_w]
    rfl
   refine pure_ (i := 12) (N := some 37) (v := ?_) (a' := ?_) #[true, true, true, true, true, true, true, true, true, true, true, true, true] rfl rfl (any_of HT_.out (by kernel_rfl)) (fun _ _ _ h => h) (Or.inl ⟨by rfl, ?_⟩) ?_ ?_
   rotate_left; · (intro w'; go_simp; with_reducible rfl)
   rotate_left; · (simp only [Act.put, List.setIfInBounds_toArray, List.set_cons_zero, List.set_cons_succ, i64_w, i32_w]; rfl)
   refine done_ (done_of HT_.out (by kernel_rfl)) ?_
   try go_wp2
   go_meet
   case rel => exact ⟨_, (true), (by first | rfl | (simp; done) | (simp [*]; done)), H', ⟨by first | omega | exact Nat.le_refl _⟩, ⟨by (with_reducible repeat (first | refine blk_drewN ?_ _ | refine blk_drew ?_ | refine blk_alloc ?_ _)); exact BK327.out⟩, ⟨by (with_reducible repeat (first | refine blk_drewN ?_ _ | refine blk_drew ?_ | refine blk_alloc ?_ _)); exact BK328.out⟩, ⟨by (with_reducible repeat (first | refine blk_drewN ?_ _ | refine blk_drew ?_ | refine blk_alloc ?_ _)); exact BK334.out⟩, ⟨by (with_reducible repeat (first | refine blk_drewN ?_ _ | refine blk_drew ?_ | refine blk_alloc ?_ _)); exact BK338.out⟩, ⟨by repeat (first | (with_reducible first | exact HB.out | apply below_alloc | apply pw_below_drewN | apply below_drew1 | refine below_set ?_ GE327.out | refine below_set ?_ GE328.out | refine below_set ?_ GE334.out | refine below_set ?_ GE338.out) | exact HB.out)⟩⟩
 case rest =>
  clear HC7
  try clear c1
  try clear c2
  try clear p2
  try clear c5
  try clear c10
  try clear c14
  try clear c15
  try clear c16
  try clear c17
  try clear c21
  try clear c22
  try clear c23
  try clear c26
  try clear c28
  try clear c28b0
  try clear c29
  try clear hcz11_0
  try clear hcz11_1
  try clear hcz17_0
  try clear hcz17_1
  try clear hcz18_0
  try clear hcz18_1
  try clear hcz24_0
  try clear hcz24_1
  try clear hfz11_0
  try clear hfz11_1
  try clear hfz17_0
  try clear hfz17_1
  try clear hfz18_0
  try clear hfz18_1
  try clear hfz24_0
  try clear hfz24_1
  obtain ⟨kq, x37_6, rfl, HA, HJ6, BK327, BK328, BK334, BK338, HB⟩ := hcut
  cases kq with
  | zero => exact absurd HA.out (by simp [avermentlaw09_KnownMakes.j0])
  | succ kj6 =>
   have H := HA.out
   clear HA
   simp only [avermentlaw09_KnownMakes.j0] at H
   by_cases c40 : x37_6 = true
   ·
    subst c40
    rw [if_pos rfl] at H
    exact absurd ((Option.some.inj H).trans hr_.out) (by decide)
   ·
    replace c40 := Bool.eq_false_iff.mpr c40
    subst c40
    rw [if_neg (show ¬ (false = true) by decide)] at H
    replace H := Option.bind_eq_some_iff.mp H
    obtain ⟨⟨t342, t343⟩, A410, H⟩ := H
    (try dsimp only at H)
    have A41 := Aside0.mk A410
    clear A410
    replace H := Option.bind_eq_some_iff.mp H
    obtain ⟨⟨t344, t345⟩, A420, H⟩ := H
    (try dsimp only at H)
    have A42 := Aside0.mk A420
    clear A420
    replace H := Option.bind_eq_some_iff.mp H
    obtain ⟨⟨t346, t347, t348⟩, A430, H⟩ := H
    (try dsimp only at H)
    have A43 := Aside0.mk A430
    clear A430
    replace H := Option.bind_eq_some_iff.mp H
    obtain ⟨⟨t349, t350, t351⟩, A440, H⟩ := H
    (try dsimp only at H)
    have A44 := Aside0.mk A440
    clear A440
    have HC45 := Aside0.mk H
    clear H
    try go_wp2
    replace BK327 := Aside0.mk (blk_drew BK327.out); replace BK328 := Aside0.mk (blk_drew BK328.out); replace BK334 := Aside0.mk (blk_drew BK334.out); replace BK338 := Aside0.mk (blk_drew BK338.out); replace HB := Aside0.mk (below_drew1 HB.out)
    refine start_ (n := 11) (S := fun w' => w'.cell? ⟨gb327, 0, none⟩ = some (.bool a1_0) ∧ w'.cell? ⟨gb327, 1, none⟩ = some (.int .i64 a1_1) ∧ w'.cell? ⟨gb328, 0, none⟩ = some (.bool a2_0) ∧ w'.cell? ⟨gb328, 1, none⟩ = some (.int .i64 a2_1)) (ds := []) #[false, false, false, false, false, false, false, false, false, false, false] (by kernel_rfl) rfl rfl ⟨bc BK327 0 rfl, bc BK327 1 rfl, bc BK328 0 rfl, bc BK328 1 rfl⟩ (fun hHeld => ?_); refine with_tabW avermentlaw09_KnownMakes.tab5 avermentlaw09_KnownMakes.bits5 (fun HT_ HW_ => ?_)
    generalize wc.drew = w46 at BK327 BK328 BK334 BK338 HB hHeld ⊢
    refine pure_ (i := 0) (N := some 39) (v := ?_) (a' := ?_) #[true, false, false, false, false, false, false, false, false, false, false] rfl rfl (any_of HT_.out (by kernel_rfl)) (fun _ _ _ h => h) (Or.inl ⟨by rfl, ?_⟩) ?_ ?_
    rotate_left; · (intro w'; go_simp; with_reducible rfl)
    rotate_left; · (simp only [Act.put, List.setIfInBounds_toArray, List.set_cons_zero, List.set_cons_succ, i64_w, i32_w]; rfl)
    refine take_ (i := 1) (N := some 40) (v := ?_) (a' := ?_) #[true, true, false, false, false, false, false, false, false, false, false] rfl rfl (take_ofW HT_.out HW_.out (by kernel_rfl)) (fun _ _ _ h => h) (Or.inl ⟨by rfl, ?_⟩) hHeld ?_ ?_
    rotate_left
    ·
     rintro w' ⟨s0, s1, s2, s3⟩
     go_simp
     with_reducible rfl
    rotate_left
    ·
     simp only [Act.put, List.setIfInBounds_toArray, List.set_cons_zero, List.set_cons_succ, i64_w, i32_w]
     rfl
    refine take_ (i := 3) (N := some 42) (v := ?_) (a' := ?_) #[true, true, false, true, false, false, false, false, false, false, false] rfl rfl (take_ofW HT_.out HW_.out (by kernel_rfl)) (fun _ _ _ h => h) (Or.inl ⟨by rfl, ?_⟩) hHeld ?_ ?_
    rotate_left
    ·
     rintro w' ⟨s0, s1, s2, s3⟩
     go_simp
     with_reducible rfl
    rotate_left
    ·
     simp only [Act.put, List.setIfInBounds_toArray, List.set_cons_zero, List.set_cons_succ, i64_w, i32_w]
     rfl
    refine one_ (i := 2) (N := some 41) #[true, true, true, true, false, false, false, false, false, false, false] rfl rfl (one_of HT_.out (by kernel_rfl)) (by decide) (fun K hK => ?_)
    refine goes_ Try.func14 (by kernel_rfl) rfl #[.agg #[.bool a1_0, .int .i64 a1_1]] (by rfl) rfl rfl (mapq rfl) ?_
    with_reducible refine (avermentlaw09_To.calls a1_0 a1_1 t342 t343 _ A41.out).mono ?_
    rintro e w47 ⟨rfl, hb⟩
    refine ⟨_, rfl, ?_⟩
    replace BK327 := bb BK327 hb rfl; replace BK328 := bb BK328 hb rfl; replace BK334 := bb BK334 hb rfl; replace BK338 := bb BK338 hb rfl; replace HB := hst HB hb rfl
    (try clear hb)
    refine hK.out _ _ ⟨bc BK327 0 rfl, bc BK327 1 rfl, bc BK328 0 rfl, bc BK328 1 rfl⟩ (fun hHeld => ?_)
    clear hK K
    refine norm_ (a' := ?_) ?_ ?_
    rotate_left; · (show Act.put _ (some 41) _ = _; simp only [Act.put, List.setIfInBounds_toArray, List.set_cons_zero, List.set_cons_succ, i64_w, i32_w]; rfl)
    refine one_ (i := 4) (N := some 43) #[true, true, true, true, true, false, false, false, false, false, false] rfl rfl (one_of HT_.out (by kernel_rfl)) (by decide) (fun K hK => ?_)
    refine goes_ Try.func14 (by kernel_rfl) rfl #[.agg #[.bool a2_0, .int .i64 a2_1]] (by rfl) rfl rfl (mapq rfl) ?_
    with_reducible refine (avermentlaw09_To.calls a2_0 a2_1 t344 t345 _ A42.out).mono ?_
    rintro e w48 ⟨rfl, hb⟩
    refine ⟨_, rfl, ?_⟩
    replace BK327 := bb BK327 hb rfl; replace BK328 := bb BK328 hb rfl; replace BK334 := bb BK334 hb rfl; replace BK338 := bb BK338 hb rfl; replace HB := hst HB hb rfl
    (try clear hb)
    refine hK.out _ _ ⟨bc BK327 0 rfl, bc BK327 1 rfl, bc BK328 0 rfl, bc BK328 1 rfl⟩ (fun hHeld => ?_)
    clear hK K
    refine norm_ (a' := ?_) ?_ ?_
    rotate_left; · (show Act.put _ (some 43) _ = _; simp only [Act.put, List.setIfInBounds_toArray, List.set_cons_zero, List.set_cons_succ, i64_w, i32_w]; rfl)
    refine one_ (i := 5) (N := some 44) #[true, true, true, true, true, true, false, false, false, false, false] rfl rfl (one_of HT_.out (by kernel_rfl)) (by decide) (fun K hK => ?_)
    refine goes_ Try.func27 (by kernel_rfl) rfl #[.int .i64 a0, .agg #[.bool t342, .int .i64 t343], .agg #[.bool t344, .int .i64 t345]] (by rfl) rfl rfl (mapq rfl) ?_
    with_reducible refine (known_Two.calls kj6 a0 t342 t343 t344 t345 t346 t347 t348 _ A43.out).mono ?_
    rintro e w49 ⟨rfl, hb⟩
    refine ⟨_, rfl, ?_⟩
    replace BK327 := bb BK327 hb rfl; replace BK328 := bb BK328 hb rfl; replace BK334 := bb BK334 hb rfl; replace BK338 := bb BK338 hb rfl; replace HB := hst HB hb rfl
    (try clear hb)
    refine hK.out _ _ ⟨bc BK327 0 rfl, bc BK327 1 rfl, bc BK328 0 rfl, bc BK328 1 rfl⟩ (fun hHeld => ?_)
    clear hK K
    refine norm_ (a' := ?_) ?_ ?_
    rotate_left; · (show Act.put _ (some 44) _ = _; simp only [Act.put, List.setIfInBounds_toArray, List.set_cons_zero, List.set_cons_succ, i64_w, i32_w]; rfl)
    refine pure_ (i := 6) (N := some 38) (v := ?_) (a' := ?_) #[true, true, true, true, true, true, true, false, false, false, false] rfl rfl (any_of HT_.out (by kernel_rfl)) (fun _ _ _ h => h) (Or.inl ⟨by rfl, ?_⟩) ?_ ?_
    rotate_left; · (intro w'; go_simp; with_reducible rfl)
    rotate_left; · (simp only [Act.put, List.setIfInBounds_toArray, List.set_cons_zero, List.set_cons_succ, i64_w, i32_w]; rfl)
    refine pure_ (i := 7) (N := some 45) (v := ?_) (a' := ?_) #[true, true, true, true, true, true, true, true, false, false, false] rfl rfl (any_of HT_.out (by kernel_rfl)) (fun _ _ _ h => h) (Or.inl ⟨by rfl, ?_⟩) ?_ ?_
    rotate_left; · (intro w'; go_simp; with_reducible rfl)
    rotate_left; · (simp only [Act.put, List.setIfInBounds_toArray, List.set_cons_zero, List.set_cons_succ, i64_w, i32_w]; rfl)
    refine pure_ (i := 8) (N := some 46) (v := ?_) (a' := ?_) #[true, true, true, true, true, true, true, true, true, false, false] rfl rfl (any_of HT_.out (by kernel_rfl)) (fun _ _ _ h => h) (Or.inl ⟨by rfl, ?_⟩) ?_ ?_
    rotate_left; · (intro w'; go_simp; with_reducible rfl)
    rotate_left; · (simp only [Act.put, List.setIfInBounds_toArray, List.set_cons_zero, List.set_cons_succ, i64_w, i32_w]; rfl)
    refine one_ (i := 9) (N := none) #[true, true, true, true, true, true, true, true, true, true, false] rfl rfl (one_of HT_.out (by kernel_rfl)) (by decide) (fun K hK => ?_)
    have hs50 : w49.cell? ⟨gb334, 0, none⟩ = some (.bool t331) := bc BK334 0 rfl
    have hfs50 := blk_frozen BK334.out 0
    have hns50_0 := NB327_334.out
    have hns50_1 := NB328_334.out
    have hns50_3 := NB338_334.out
    have hms50_0 := NB334_327.out
    have hms50_1 := NB334_328.out
    have hms50_3 := NB334_338.out
    have hs51 : w49.cell? ⟨gb334, 1, none⟩ = some (.int .i64 t332) := bc BK334 1 rfl
    have hfs51 := blk_frozen BK334.out 1
    have hns51_0 := NB327_334.out
    have hns51_1 := NB328_334.out
    have hns51_3 := NB338_334.out
    have hms51_0 := NB334_327.out
    have hms51_1 := NB334_328.out
    have hms51_3 := NB334_338.out
    refine skip_ (w1 := ?_) (by rfl) rfl ?_ ?_
    rotate_left
    ·
     go_simp
     rfl
    refine hK.out _ _ ⟨((cell_far (p := ⟨gb334, _, none⟩) NB327_334.out _).trans (((cell_far (p := ⟨gb334, _, none⟩) NB327_334.out _).trans (hHeld.1)))), ((cell_far (p := ⟨gb334, _, none⟩) NB327_334.out _).trans (((cell_far (p := ⟨gb334, _, none⟩) NB327_334.out _).trans (hHeld.2.1)))), ((cell_far (p := ⟨gb334, _, none⟩) NB328_334.out _).trans (((cell_far (p := ⟨gb334, _, none⟩) NB328_334.out _).trans (hHeld.2.2.1)))), ((cell_far (p := ⟨gb334, _, none⟩) NB328_334.out _).trans (((cell_far (p := ⟨gb334, _, none⟩) NB328_334.out _).trans (hHeld.2.2.2))))⟩ (fun hHeld => ?_)
    clear hK K
    refine pure_ (i := 10) (N := some 8) (v := ?_) (a' := ?_) #[true, true, true, true, true, true, true, true, true, true, true] rfl rfl (any_of HT_.out (by kernel_rfl)) (fun _ _ _ h => h) (Or.inl ⟨by rfl, ?_⟩) ?_ ?_
    rotate_left; · (intro w'; go_simp; with_reducible rfl)
    rotate_left; · (simp only [Act.put, List.setIfInBounds_toArray, List.set_cons_zero, List.set_cons_succ, i64_w, i32_w]; rfl)
    refine done_ (done_of HT_.out (by kernel_rfl)) ?_
    have hnb52 := NB327_328.out
    have hnc52 := NB328_327.out
    have hnb53 := NB327_334.out
    have hnc53 := NB334_327.out
    have hnb54 := NB327_338.out
    have hnc54 := NB338_327.out
    have hcz55_0 : w49.cell? ⟨gb327, 0, none⟩ = some (.bool a1_0) := bc BK327 0 rfl
    have hcz55_1 : w49.cell? ⟨gb327, 1, none⟩ = some (.int .i64 a1_1) := bc BK327 1 rfl
    have hfz55_0 := blk_frozen BK327.out 0
    have hfz55_1 := blk_frozen BK327.out 1
    have hnb56 := NB328_334.out
    have hnc56 := NB334_328.out
    have hnb57 := NB328_338.out
    have hnc57 := NB338_328.out
    have hcz58_0 : w49.cell? ⟨gb328, 0, none⟩ = some (.bool a2_0) := bc BK328 0 rfl
    have hcz58_1 : w49.cell? ⟨gb328, 1, none⟩ = some (.int .i64 a2_1) := bc BK328 1 rfl
    have hfz58_0 := blk_frozen BK328.out 0
    have hfz58_1 := blk_frozen BK328.out 1
    go_upto_region 7 with (first | ((with_reducible refine gate_callee (f := 30) rfl ?_); refine goesL_ (some 51) rfl rfl Try.func30 (by kernel_rfl) rfl #[.int .i64 a0, .agg #[.bool a1_0, .int .i64 a1_1], .agg #[.bool a2_0, .int .i64 a2_1]] rfl (mapq rfl) ?_; (with_reducible refine (avermentref09_Two.calls kj6 a0 a1_0 a1_1 a2_0 a2_1 t349 t350 t351 _ A44.out).mono ?_); rintro e w59 ⟨rfl, hb⟩; refine ⟨_, rfl, ?_⟩; replace BK327 := Aside0.mk (blk_below (g := gb327) (o := .cells #[.bool a1_0, .int .i64 a1_1] 23 (0, 0)) (by (with_reducible repeat (first | refine blk_drewN ?_ _ | refine blk_drew ?_ | refine blk_alloc ?_ _)); refine blk_far ?_ NB327_334.out _; (with_reducible repeat (first | refine blk_drewN ?_ _ | refine blk_drew ?_ | refine blk_alloc ?_ _)); refine blk_far ?_ NB327_334.out _; (with_reducible repeat (first | refine blk_drewN ?_ _ | refine blk_drew ?_ | refine blk_alloc ?_ _)); exact BK327.out) hb); replace BK328 := Aside0.mk (blk_below (g := gb328) (o := .cells #[.bool a2_0, .int .i64 a2_1] 23 (0, 0)) (by (with_reducible repeat (first | refine blk_drewN ?_ _ | refine blk_drew ?_ | refine blk_alloc ?_ _)); refine blk_far ?_ NB328_334.out _; (with_reducible repeat (first | refine blk_drewN ?_ _ | refine blk_drew ?_ | refine blk_alloc ?_ _)); refine blk_far ?_ NB328_334.out _; (with_reducible repeat (first | refine blk_drewN ?_ _ | refine blk_drew ?_ | refine blk_alloc ?_ _)); exact BK328.out) hb); replace BK334 := Aside0.mk (blk_below (g := gb334) (o := .cells #[.bool t346, .int .i64 t347] 24 (0, 0)) (by (with_reducible repeat (first | refine blk_drewN ?_ _ | refine blk_drew ?_ | refine blk_alloc ?_ _)); refine blk_put (cs := #[.bool t346, .int .i64 t332]) ?_ 1 _ rfl; (with_reducible repeat (first | refine blk_drewN ?_ _ | refine blk_drew ?_ | refine blk_alloc ?_ _)); refine blk_put (cs := #[.bool t331, .int .i64 t332]) ?_ 0 _ rfl; (with_reducible repeat (first | refine blk_drewN ?_ _ | refine blk_drew ?_ | refine blk_alloc ?_ _)); exact BK334.out) hb); replace BK338 := Aside0.mk (blk_below (g := gb338) (o := .cells #[.bool t335, .int .i64 t336] 23 (0, 0)) (by (with_reducible repeat (first | refine blk_drewN ?_ _ | refine blk_drew ?_ | refine blk_alloc ?_ _)); refine blk_far ?_ NB338_334.out _; (with_reducible repeat (first | refine blk_drewN ?_ _ | refine blk_drew ?_ | refine blk_alloc ?_ _)); refine blk_far ?_ NB338_334.out _; (with_reducible repeat (first | refine blk_drewN ?_ _ | refine blk_drew ?_ | refine blk_alloc ?_ _)); exact BK338.out) hb); replace HB := Aside0.mk (below_step (by repeat (first | (with_reducible first | exact HB.out | apply below_alloc | apply pw_below_drewN | apply below_drew1 | refine below_set ?_ GE327.out | refine below_set ?_ GE328.out | refine below_set ?_ GE334.out | refine below_set ?_ GE338.out) | exact HB.out)) hb); (try clear hb); have hnb60 := NB338_334.out; have hnc60 := NB334_338.out; have hcz61_0 : w59.cell? ⟨gb338, 0, none⟩ = some (.bool t335) := (blk_cell BK338.out 0).trans rfl; have hcz61_1 : w59.cell? ⟨gb338, 1, none⟩ = some (.int .i64 t336) := (blk_cell BK338.out 1).trans rfl; have hfz61_0 := blk_frozen BK338.out 0; have hfz61_1 := blk_frozen BK338.out 1))
    (try simp only [Act.put, List.setIfInBounds_toArray, List.set_cons_zero, List.set_cons_succ])
    go_cut [62] (fun v62 wc => ∃ (kq : Nat) (x62_44 : Bool), v62 = .bool x62_44 ∧ Aside0 (avermentlaw09_KnownMakes.j1 kq x62_44 a1_0 a1_1 = some r) ∧ Aside0 (kq ≤ kj6) ∧ Aside0 (wc.heap[gb327]? = some (.cells #[.bool a1_0, .int .i64 a1_1] 23 (0, 0))) ∧ Aside0 (wc.heap[gb328]? = some (.cells #[.bool a2_0, .int .i64 a2_1] 23 (0, 0))) ∧ Aside0 (wc.heap[gb334]? = some (.cells #[.bool t346, .int .i64 t347] 24 (0, 0))) ∧ Aside0 (wc.heap[gb338]? = some (.cells #[.bool t349, .int .i64 t350] 23 (0, 0))) ∧ Aside0 (Below w.heap.size w wc))
    case first =>
     have H := HC45.out
     clear HC45
     replace H := Option.bind_eq_some_iff.mp H
     obtain ⟨⟨t352, t353⟩, A620, H⟩ := H
     (try dsimp only at H)
     have A62 := Aside0.mk A620
     clear A620
     by_cases c63 : (!(t352 == t349) || (!(t353 == t350))) = true
     ·
      rw [if_pos c63] at H
      have c63b0 : (!(t352 == t349) || (!(t353 == t350))) = true := c63
      clear c63
      (first | rw [c63b0] | (simp only [i64_w, i32_w]; rw [c63b0]) | skip)
      have H' := Aside0.mk H
      clear H
      try go_wp2
      have n0_ : Aside0 (((w59.setCell ⟨gb338, 0, none⟩ (.bool t349)).setCell ⟨gb338, 1, none⟩ (.int .i64 t350)).heap[gb327]? = some (.cells #[.bool a1_0, .int .i64 a1_1] 23 (0, 0))) := ⟨by (with_reducible repeat (first | refine blk_drewN ?_ _ | refine blk_drew ?_ | refine blk_alloc ?_ _)); refine blk_far ?_ NB327_338.out _; (with_reducible repeat (first | refine blk_drewN ?_ _ | refine blk_drew ?_ | refine blk_alloc ?_ _)); refine blk_far ?_ NB327_338.out _; (with_reducible repeat (first | refine blk_drewN ?_ _ | refine blk_drew ?_ | refine blk_alloc ?_ _)); exact BK327.out⟩
      have n1_ : Aside0 (((w59.setCell ⟨gb338, 0, none⟩ (.bool t349)).setCell ⟨gb338, 1, none⟩ (.int .i64 t350)).heap[gb328]? = some (.cells #[.bool a2_0, .int .i64 a2_1] 23 (0, 0))) := ⟨by (with_reducible repeat (first | refine blk_drewN ?_ _ | refine blk_drew ?_ | refine blk_alloc ?_ _)); refine blk_far ?_ NB328_338.out _; (with_reducible repeat (first | refine blk_drewN ?_ _ | refine blk_drew ?_ | refine blk_alloc ?_ _)); refine blk_far ?_ NB328_338.out _; (with_reducible repeat (first | refine blk_drewN ?_ _ | refine blk_drew ?_ | refine blk_alloc ?_ _)); exact BK328.out⟩
      have n2_ : Aside0 (((w59.setCell ⟨gb338, 0, none⟩ (.bool t349)).setCell ⟨gb338, 1, none⟩ (.int .i64 t350)).heap[gb334]? = some (.cells #[.bool t346, .int .i64 t347] 24 (0, 0))) := ⟨by (with_reducible repeat (first | refine blk_drewN ?_ _ | refine blk_drew ?_ | refine blk_alloc ?_ _)); refine blk_far ?_ NB334_338.out _; (with_reducible repeat (first | refine blk_drewN ?_ _ | refine blk_drew ?_ | refine blk_alloc ?_ _)); refine blk_far ?_ NB334_338.out _; (with_reducible repeat (first | refine blk_drewN ?_ _ | refine blk_drew ?_ | refine blk_alloc ?_ _)); exact BK334.out⟩
      have n3_ : Aside0 (((w59.setCell ⟨gb338, 0, none⟩ (.bool t349)).setCell ⟨gb338, 1, none⟩ (.int .i64 t350)).heap[gb338]? = some (.cells #[.bool t349, .int .i64 t350] 23 (0, 0))) := ⟨by (with_reducible repeat (first | refine blk_drewN ?_ _ | refine blk_drew ?_ | refine blk_alloc ?_ _)); refine blk_put (cs := #[.bool t349, .int .i64 t336]) ?_ 1 _ rfl; (with_reducible repeat (first | refine blk_drewN ?_ _ | refine blk_drew ?_ | refine blk_alloc ?_ _)); refine blk_put (cs := #[.bool t335, .int .i64 t336]) ?_ 0 _ rfl; (with_reducible repeat (first | refine blk_drewN ?_ _ | refine blk_drew ?_ | refine blk_alloc ?_ _)); exact BK338.out⟩
      have n4_ : Aside0 (Below w.heap.size w ((w59.setCell ⟨gb338, 0, none⟩ (.bool t349)).setCell ⟨gb338, 1, none⟩ (.int .i64 t350))) := ⟨by repeat (first | (with_reducible first | exact HB.out | apply below_alloc | apply pw_below_drewN | apply below_drew1 | refine below_set ?_ GE327.out | refine below_set ?_ GE328.out | refine below_set ?_ GE334.out | refine below_set ?_ GE338.out) | exact HB.out)⟩
      (try clear BK327)
      (try clear BK328)
      (try clear BK334)
      (try clear BK338)
      (try clear HB)
      generalize ((w59.setCell ⟨gb338, 0, none⟩ (.bool t349)).setCell ⟨gb338, 1, none⟩ (.int .i64 t350)) = w64 at n0_ n1_ n2_ n3_ n4_ ⊢
      have BK327 := n0_
      have BK328 := n1_
      have BK334 := n2_
      have BK338 := n3_
      have HB := n4_
      clear n0_ n1_ n2_ n3_ n4_
      replace BK327 := Aside0.mk (blk_drew BK327.out); replace BK328 := Aside0.mk (blk_drew BK328.out); replace BK334 := Aside0.mk (blk_drew BK334.out); replace BK338 := Aside0.mk (blk_drew BK338.out); replace HB := Aside0.mk (below_drew1 HB.out)
      refine start_ (n := 9) (S := fun w' => w'.cell? ⟨gb334, 0, none⟩ = some (.bool t346) ∧ w'.cell? ⟨gb334, 1, none⟩ = some (.int .i64 t347) ∧ w'.cell? ⟨gb338, 0, none⟩ = some (.bool t349) ∧ w'.cell? ⟨gb338, 1, none⟩ = some (.int .i64 t350)) (ds := []) #[false, false, false, false, false, false, false, false, false] (by kernel_rfl) rfl rfl ⟨bc BK334 0 rfl, bc BK334 1 rfl, bc BK338 0 rfl, bc BK338 1 rfl⟩ (fun hHeld => ?_); refine with_tabW avermentlaw09_KnownMakes.tab7 avermentlaw09_KnownMakes.bits7 (fun HT_ HW_ => ?_)
      generalize w64.drew = w65 at BK327 BK328 BK334 BK338 HB hHeld ⊢
      refine take_ (i := 0) (N := some 54) (v := ?_) (a' := ?_) #[true, false, false, false, false, false, false, false, false] rfl rfl (take_ofW HT_.out HW_.out (by kernel_rfl)) (fun _ _ _ h => h) (Or.inl ⟨by rfl, ?_⟩) hHeld ?_ ?_
      rotate_left
      ·
       rintro w' ⟨s0, s1, s2, s3⟩
       go_simp
       with_reducible rfl
      rotate_left
      ·
       simp only [Act.put, List.setIfInBounds_toArray, List.set_cons_zero, List.set_cons_succ, i64_w, i32_w]
       rfl
      refine take_ (i := 2) (N := some 56) (v := ?_) (a' := ?_) #[true, false, true, false, false, false, false, false, false] rfl rfl (take_ofW HT_.out HW_.out (by kernel_rfl)) (fun _ _ _ h => h) (Or.inl ⟨by rfl, ?_⟩) hHeld ?_ ?_
      rotate_left
      ·
       rintro w' ⟨s0, s1, s2, s3⟩
       go_simp
       with_reducible rfl
      rotate_left
      ·
       simp only [Act.put, List.setIfInBounds_toArray, List.set_cons_zero, List.set_cons_succ, i64_w, i32_w]
       rfl
      refine one_ (i := 1) (N := some 55) #[true, true, true, false, false, false, false, false, false] rfl rfl (one_of HT_.out (by kernel_rfl)) (by decide) (fun K hK => ?_)
      refine goes_ Try.func17 (by kernel_rfl) rfl #[.agg #[.bool t346, .int .i64 t347]] (by rfl) rfl rfl (mapq rfl) ?_
      with_reducible refine (avermentlaw09_From.calls t346 t347 t352 t353 _ A62.out).mono ?_
      rintro e w66 ⟨rfl, hb⟩
      refine ⟨_, rfl, ?_⟩
      replace BK327 := bb BK327 hb rfl; replace BK328 := bb BK328 hb rfl; replace BK334 := bb BK334 hb rfl; replace BK338 := bb BK338 hb rfl; replace HB := hst HB hb rfl
      (try clear hb)
      refine hK.out _ _ ⟨bc BK334 0 rfl, bc BK334 1 rfl, bc BK338 0 rfl, bc BK338 1 rfl⟩ (fun hHeld => ?_)
      clear hK K
      refine norm_ (a' := ?_) ?_ ?_
      rotate_left; · (show Act.put _ (some 55) _ = _; simp only [Act.put, List.setIfInBounds_toArray, List.set_cons_zero, List.set_cons_succ, i64_w, i32_w]; rfl)
      refine pure_ (i := 3) (N := some 57) (v := ?_) (a' := ?_) #[true, true, true, true, false, false, false, false, false] rfl rfl (any_of HT_.out (by kernel_rfl)) (fun _ _ _ h => h) (Or.inl ⟨by rfl, ?_⟩) ?_ ?_
      rotate_left; · (intro w'; go_simp; with_reducible rfl)
      rotate_left; · (simp only [Act.put, List.setIfInBounds_toArray, List.set_cons_zero, List.set_cons_succ, i64_w, i32_w]; rfl)
      refine pure_ (i := 4) (N := some 58) (v := ?_) (a' := ?_) #[true, true, true, true, true, false, false, false, false] rfl rfl (any_of HT_.out (by kernel_rfl)) (fun _ _ _ h => h) (Or.inl ⟨by rfl, ?_⟩) ?_ ?_
      rotate_left; · (intro w'; go_simp; with_reducible rfl)
      rotate_left; · (simp only [Act.put, List.setIfInBounds_toArray, List.set_cons_zero, List.set_cons_succ, i64_w, i32_w]; rfl)
      refine pure_ (i := 5) (N := some 59) (v := undef) (a' := ?_) #[true, true, true, true, true, true, false, false, false] rfl rfl (any_of HT_.out (by kernel_rfl)) (fun _ _ _ h => h) (Or.inr ⟨by rfl, rfl⟩) ?_ ?_
      rotate_left
      ·
       simp only [Act.put, List.setIfInBounds_toArray, List.set_cons_zero, List.set_cons_succ, i64_w, i32_w]
       rfl
      refine pure_ (i := 6) (N := some 60) (v := undef) (a' := ?_) #[true, true, true, true, true, true, true, false, false] rfl rfl (any_of HT_.out (by kernel_rfl)) (fun _ _ _ h => h) (Or.inr ⟨by rfl, rfl⟩) ?_ ?_
      rotate_left
      ·
       simp only [Act.put, List.setIfInBounds_toArray, List.set_cons_zero, List.set_cons_succ, i64_w, i32_w]
       rfl
      refine pure_ (i := 7) (N := some 61) (v := undef) (a' := ?_) #[true, true, true, true, true, true, true, true, false] rfl rfl (any_of HT_.out (by kernel_rfl)) (fun _ _ _ h => h) (Or.inr ⟨by rfl, rfl⟩) ?_ ?_
      rotate_left
      ·
       simp only [Act.put, List.setIfInBounds_toArray, List.set_cons_zero, List.set_cons_succ, i64_w, i32_w]
       rfl
      refine pure_ (i := 8) (N := some 62) (v := ?_) (a' := ?_) #[true, true, true, true, true, true, true, true, true] rfl rfl (any_of HT_.out (by kernel_rfl)) (fun _ _ _ h => h) (Or.inl ⟨by rfl, ?_⟩) ?_ ?_
      rotate_left; · (intro w'; go_simp; with_reducible rfl)
      rotate_left; · (simp only [Act.put, List.setIfInBounds_toArray, List.set_cons_zero, List.set_cons_succ, i64_w, i32_w]; rfl)
      refine done_ (done_of HT_.out (by kernel_rfl)) ?_
      try go_wp2
      go_meet
      case rel => exact ⟨_, (true), (by first | rfl | (simp; done) | (simp [*]; done)), H', ⟨by have := HJ6.out; first | omega | exact Nat.le_refl _⟩, ⟨by (with_reducible repeat (first | refine blk_drewN ?_ _ | refine blk_drew ?_ | refine blk_alloc ?_ _)); exact BK327.out⟩, ⟨by (with_reducible repeat (first | refine blk_drewN ?_ _ | refine blk_drew ?_ | refine blk_alloc ?_ _)); exact BK328.out⟩, ⟨by (with_reducible repeat (first | refine blk_drewN ?_ _ | refine blk_drew ?_ | refine blk_alloc ?_ _)); exact BK334.out⟩, ⟨by (with_reducible repeat (first | refine blk_drewN ?_ _ | refine blk_drew ?_ | refine blk_alloc ?_ _)); exact BK338.out⟩, ⟨by repeat (first | (with_reducible first | exact HB.out | apply below_alloc | apply pw_below_drewN | apply below_drew1 | refine below_set ?_ GE327.out | refine below_set ?_ GE328.out | refine below_set ?_ GE334.out | refine below_set ?_ GE338.out) | exact HB.out)⟩⟩
     ·
      rw [if_neg c63] at H
      have c63b0 : (!(t352 == t349) || (!(t353 == t350))) = false := by simpa using c63
      clear c63
      (first | rw [c63b0] | (simp only [i64_w, i32_w]; rw [c63b0]) | skip)
      have H' := Aside0.mk H
      clear H
      try go_wp2
      have n0_ : Aside0 (((w59.setCell ⟨gb338, 0, none⟩ (.bool t349)).setCell ⟨gb338, 1, none⟩ (.int .i64 t350)).heap[gb327]? = some (.cells #[.bool a1_0, .int .i64 a1_1] 23 (0, 0))) := ⟨by (with_reducible repeat (first | refine blk_drewN ?_ _ | refine blk_drew ?_ | refine blk_alloc ?_ _)); refine blk_far ?_ NB327_338.out _; (with_reducible repeat (first | refine blk_drewN ?_ _ | refine blk_drew ?_ | refine blk_alloc ?_ _)); refine blk_far ?_ NB327_338.out _; (with_reducible repeat (first | refine blk_drewN ?_ _ | refine blk_drew ?_ | refine blk_alloc ?_ _)); exact BK327.out⟩
      have n1_ : Aside0 (((w59.setCell ⟨gb338, 0, none⟩ (.bool t349)).setCell ⟨gb338, 1, none⟩ (.int .i64 t350)).heap[gb328]? = some (.cells #[.bool a2_0, .int .i64 a2_1] 23 (0, 0))) := ⟨by (with_reducible repeat (first | refine blk_drewN ?_ _ | refine blk_drew ?_ | refine blk_alloc ?_ _)); refine blk_far ?_ NB328_338.out _; (with_reducible repeat (first | refine blk_drewN ?_ _ | refine blk_drew ?_ | refine blk_alloc ?_ _)); refine blk_far ?_ NB328_338.out _; (with_reducible repeat (first | refine blk_drewN ?_ _ | refine blk_drew ?_ | refine blk_alloc ?_ _)); exact BK328.out⟩
      have n2_ : Aside0 (((w59.setCell ⟨gb338, 0, none⟩ (.bool t349)).setCell ⟨gb338, 1, none⟩ (.int .i64 t350)).heap[gb334]? = some (.cells #[.bool t346, .int .i64 t347] 24 (0, 0))) := ⟨by (with_reducible repeat (first | refine blk_drewN ?_ _ | refine blk_drew ?_ | refine blk_alloc ?_ _)); refine blk_far ?_ NB334_338.out _; (with_reducible repeat (first | refine blk_drewN ?_ _ | refine blk_drew ?_ | refine blk_alloc ?_ _)); refine blk_far ?_ NB334_338.out _; (with_reducible repeat (first | refine blk_drewN ?_ _ | refine blk_drew ?_ | refine blk_alloc ?_ _)); exact BK334.out⟩
      have n3_ : Aside0 (((w59.setCell ⟨gb338, 0, none⟩ (.bool t349)).setCell ⟨gb338, 1, none⟩ (.int .i64 t350)).heap[gb338]? = some (.cells #[.bool t349, .int .i64 t350] 23 (0, 0))) := ⟨by (with_reducible repeat (first | refine blk_drewN ?_ _ | refine blk_drew ?_ | refine blk_alloc ?_ _)); refine blk_put (cs := #[.bool t349, .int .i64 t336]) ?_ 1 _ rfl; (with_reducible repeat (first | refine blk_drewN ?_ _ | refine blk_drew ?_ | refine blk_alloc ?_ _)); refine blk_put (cs := #[.bool t335, .int .i64 t336]) ?_ 0 _ rfl; (with_reducible repeat (first | refine blk_drewN ?_ _ | refine blk_drew ?_ | refine blk_alloc ?_ _)); exact BK338.out⟩
      have n4_ : Aside0 (Below w.heap.size w ((w59.setCell ⟨gb338, 0, none⟩ (.bool t349)).setCell ⟨gb338, 1, none⟩ (.int .i64 t350))) := ⟨by repeat (first | (with_reducible first | exact HB.out | apply below_alloc | apply pw_below_drewN | apply below_drew1 | refine below_set ?_ GE327.out | refine below_set ?_ GE328.out | refine below_set ?_ GE334.out | refine below_set ?_ GE338.out) | exact HB.out)⟩
      (try clear BK327)
      (try clear BK328)
      (try clear BK334)
      (try clear BK338)
      (try clear HB)
      generalize ((w59.setCell ⟨gb338, 0, none⟩ (.bool t349)).setCell ⟨gb338, 1, none⟩ (.int .i64 t350)) = w67 at n0_ n1_ n2_ n3_ n4_ ⊢
      have BK327 := n0_
      have BK328 := n1_
      have BK334 := n2_
      have BK338 := n3_
      have HB := n4_
      clear n0_ n1_ n2_ n3_ n4_
      replace BK327 := Aside0.mk (blk_drew BK327.out); replace BK328 := Aside0.mk (blk_drew BK328.out); replace BK334 := Aside0.mk (blk_drew BK334.out); replace BK338 := Aside0.mk (blk_drew BK338.out); replace HB := Aside0.mk (below_drew1 HB.out)
      refine start_ (n := 9) (S := fun w' => w'.cell? ⟨gb334, 0, none⟩ = some (.bool t346) ∧ w'.cell? ⟨gb334, 1, none⟩ = some (.int .i64 t347) ∧ w'.cell? ⟨gb338, 0, none⟩ = some (.bool t349) ∧ w'.cell? ⟨gb338, 1, none⟩ = some (.int .i64 t350)) (ds := []) #[false, false, false, false, false, false, false, false, false] (by kernel_rfl) rfl rfl ⟨bc BK334 0 rfl, bc BK334 1 rfl, bc BK338 0 rfl, bc BK338 1 rfl⟩ (fun hHeld => ?_); refine with_tabW avermentlaw09_KnownMakes.tab7 avermentlaw09_KnownMakes.bits7 (fun HT_ HW_ => ?_)
      generalize w67.drew = w68 at BK327 BK328 BK334 BK338 HB hHeld ⊢
      refine take_ (i := 0) (N := some 54) (v := ?_) (a' := ?_) #[true, false, false, false, false, false, false, false, false] rfl rfl (take_ofW HT_.out HW_.out (by kernel_rfl)) (fun _ _ _ h => h) (Or.inl ⟨by rfl, ?_⟩) hHeld ?_ ?_
      rotate_left
      ·
       rintro w' ⟨s0, s1, s2, s3⟩
       go_simp
       with_reducible rfl
      rotate_left
      ·
       simp only [Act.put, List.setIfInBounds_toArray, List.set_cons_zero, List.set_cons_succ, i64_w, i32_w]
       rfl
      refine take_ (i := 2) (N := some 56) (v := ?_) (a' := ?_) #[true, false, true, false, false, false, false, false, false] rfl rfl (take_ofW HT_.out HW_.out (by kernel_rfl)) (fun _ _ _ h => h) (Or.inl ⟨by rfl, ?_⟩) hHeld ?_ ?_
      rotate_left
      ·
       rintro w' ⟨s0, s1, s2, s3⟩
       go_simp
       with_reducible rfl
      rotate_left
      ·
       simp only [Act.put, List.setIfInBounds_toArray, List.set_cons_zero, List.set_cons_succ, i64_w, i32_w]
       rfl
      refine one_ (i := 1) (N := some 55) #[true, true, true, false, false, false, false, false, false] rfl rfl (one_of HT_.out (by kernel_rfl)) (by decide) (fun K hK => ?_)
      refine goes_ Try.func17 (by kernel_rfl) rfl #[.agg #[.bool t346, .int .i64 t347]] (by rfl) rfl rfl (mapq rfl) ?_
      with_reducible refine (avermentlaw09_From.calls t346 t347 t352 t353 _ A62.out).mono ?_
      rintro e w69 ⟨rfl, hb⟩
      refine ⟨_, rfl, ?_⟩
      replace BK327 := bb BK327 hb rfl; replace BK328 := bb BK328 hb rfl; replace BK334 := bb BK334 hb rfl; replace BK338 := bb BK338 hb rfl; replace HB := hst HB hb rfl
      (try clear hb)
      refine hK.out _ _ ⟨bc BK334 0 rfl, bc BK334 1 rfl, bc BK338 0 rfl, bc BK338 1 rfl⟩ (fun hHeld => ?_)
      clear hK K
      refine norm_ (a' := ?_) ?_ ?_
      rotate_left; · (show Act.put _ (some 55) _ = _; simp only [Act.put, List.setIfInBounds_toArray, List.set_cons_zero, List.set_cons_succ, i64_w, i32_w]; rfl)
      refine pure_ (i := 3) (N := some 57) (v := ?_) (a' := ?_) #[true, true, true, true, false, false, false, false, false] rfl rfl (any_of HT_.out (by kernel_rfl)) (fun _ _ _ h => h) (Or.inl ⟨by rfl, ?_⟩) ?_ ?_
      rotate_left; · (intro w'; go_simp; with_reducible rfl)
      rotate_left; · (simp only [Act.put, List.setIfInBounds_toArray, List.set_cons_zero, List.set_cons_succ, i64_w, i32_w]; rfl)
      refine pure_ (i := 4) (N := some 58) (v := ?_) (a' := ?_) #[true, true, true, true, true, false, false, false, false] rfl rfl (any_of HT_.out (by kernel_rfl)) (fun _ _ _ h => h) (Or.inl ⟨by rfl, ?_⟩) ?_ ?_
      rotate_left; · (intro w'; go_simp; with_reducible rfl)
      rotate_left; · (simp only [Act.put, List.setIfInBounds_toArray, List.set_cons_zero, List.set_cons_succ, i64_w, i32_w]; rfl)
      refine pure_ (i := 5) (N := some 59) (v := ?_) (a' := ?_) #[true, true, true, true, true, true, false, false, false] rfl rfl (any_of HT_.out (by kernel_rfl)) (fun _ _ _ h => h) (Or.inl ⟨by rfl, ?_⟩) ?_ ?_
      rotate_left; · (intro w'; go_simp; with_reducible rfl)
      rotate_left; · (simp only [Act.put, List.setIfInBounds_toArray, List.set_cons_zero, List.set_cons_succ, i64_w, i32_w]; rfl)
      refine pure_ (i := 6) (N := some 60) (v := ?_) (a' := ?_) #[true, true, true, true, true, true, true, false, false] rfl rfl (any_of HT_.out (by kernel_rfl)) (fun _ _ _ h => h) (Or.inl ⟨by rfl, ?_⟩) ?_ ?_
      rotate_left; · (intro w'; go_simp; with_reducible rfl)
      rotate_left; · (simp only [Act.put, List.setIfInBounds_toArray, List.set_cons_zero, List.set_cons_succ, i64_w, i32_w]; rfl)
      refine pure_ (i := 7) (N := some 61) (v := ?_) (a' := ?_) #[true, true, true, true, true, true, true, true, false] rfl rfl (any_of HT_.out (by kernel_rfl)) (fun _ _ _ h => h) (Or.inl ⟨by rfl, ?_⟩) ?_ ?_
      rotate_left; · (intro w'; go_simp; with_reducible rfl)
      rotate_left; · (simp only [Act.put, List.setIfInBounds_toArray, List.set_cons_zero, List.set_cons_succ, i64_w, i32_w]; rfl)
      refine pure_ (i := 8) (N := some 62) (v := ?_) (a' := ?_) #[true, true, true, true, true, true, true, true, true] rfl rfl (any_of HT_.out (by kernel_rfl)) (fun _ _ _ h => h) (Or.inl ⟨by rfl, ?_⟩) ?_ ?_
      rotate_left; · (intro w'; go_simp; with_reducible rfl)
      rotate_left; · (simp only [Act.put, List.setIfInBounds_toArray, List.set_cons_zero, List.set_cons_succ, i64_w, i32_w]; rfl)
      refine done_ (done_of HT_.out (by kernel_rfl)) ?_
      try go_wp2
      go_meet
      case rel => exact ⟨_, ((t348 != t351)), (by first | rfl | (simp; done) | (simp [*]; done)), H', ⟨by have := HJ6.out; first | omega | exact Nat.le_refl _⟩, ⟨by (with_reducible repeat (first | refine blk_drewN ?_ _ | refine blk_drew ?_ | refine blk_alloc ?_ _)); exact BK327.out⟩, ⟨by (with_reducible repeat (first | refine blk_drewN ?_ _ | refine blk_drew ?_ | refine blk_alloc ?_ _)); exact BK328.out⟩, ⟨by (with_reducible repeat (first | refine blk_drewN ?_ _ | refine blk_drew ?_ | refine blk_alloc ?_ _)); exact BK334.out⟩, ⟨by (with_reducible repeat (first | refine blk_drewN ?_ _ | refine blk_drew ?_ | refine blk_alloc ?_ _)); exact BK338.out⟩, ⟨by repeat (first | (with_reducible first | exact HB.out | apply below_alloc | apply pw_below_drewN | apply below_drew1 | refine below_set ?_ GE327.out | refine below_set ?_ GE328.out | refine below_set ?_ GE334.out | refine below_set ?_ GE338.out) | exact HB.out)⟩⟩
    case rest =>
     clear HC45
     try clear c1
     try clear c2
     try clear p2
     try clear c3
     try clear c4
     try clear c5
     try clear c6
     try clear c10
     try clear c14
     try clear c15
     try clear c16
     try clear c17
     try clear c21
     try clear c22
     try clear c23
     try clear c26
     try clear c27
     try clear c28
     try clear c28b0
     try clear c29
     try clear c30
     try clear c40
     try clear c52
     try clear c53
     try clear c54
     try clear c56
     try clear c57
     try clear c60
     try clear c63
     try clear c63b0
     try clear hcz11_0
     try clear hcz11_1
     try clear hcz17_0
     try clear hcz17_1
     try clear hcz18_0
     try clear hcz18_1
     try clear hcz24_0
     try clear hcz24_1
     try clear hcz55_0
     try clear hcz55_1
     try clear hcz58_0
     try clear hcz58_1
     try clear hcz61_0
     try clear hcz61_1
     try clear hfz11_0
     try clear hfz11_1
     try clear hfz17_0
     try clear hfz17_1
     try clear hfz18_0
     try clear hfz18_1
     try clear hfz24_0
     try clear hfz24_1
     try clear hfz55_0
     try clear hfz55_1
     try clear hfz58_0
     try clear hfz58_1
     try clear hfz61_0
     try clear hfz61_1
     try clear p2
     obtain ⟨kq, x62_44, rfl, HA, HJ44, BK327, BK328, BK334, BK338, HB⟩ := hcut
     cases kq with
     | zero => exact absurd HA.out (by simp [avermentlaw09_KnownMakes.j1])
     | succ kj44 =>
      have H := HA.out
      clear HA
      simp only [avermentlaw09_KnownMakes.j1] at H
      by_cases c70 : x62_44 = true
      ·
       subst c70
       rw [if_pos rfl] at H
       exact absurd ((Option.some.inj H).trans hr_.out) (by decide)
      ·
       replace c70 := Bool.eq_false_iff.mpr c70
       subst c70
       rw [if_neg (show ¬ (false = true) by decide)] at H
       have H' := Aside0.mk H
       clear H
       go_wp2
       go_loopg [11] kj44 (fun kq v11 w' => ∃ (x11_3 : Int) (x335000_3 : Bool) (x335001_3 : Int) (x339000_3 : Bool) (x339001_3 : Int), v11 = .int .i64 x11_3 ∧ Aside0 (avermentlaw09_KnownMakes.l0 kq x11_3 a1_0 a1_1 = some r) ∧ Aside0 (kq ≤ kj44) ∧ Aside0 (w'.heap[gb327]? = some (.cells #[.bool a1_0, .int .i64 a1_1] 23 (0, 0))) ∧ Aside0 (w'.heap[gb328]? = some (.cells #[.bool a2_0, .int .i64 a2_1] 23 (0, 0))) ∧ Aside0 (w'.heap[gb334]? = some (.cells #[.bool x335000_3, .int .i64 x335001_3] 24 (0, 0))) ∧ Aside0 (w'.heap[gb338]? = some (.cells #[.bool x339000_3, .int .i64 x339001_3] 23 (0, 0))) ∧ Aside0 (Below w.heap.size w w'))
       case atStart => exact ⟨(0), (t346), (t347), (t349), (t350), (by first | rfl | (simp; done) | (simp [*]; done)), H', ⟨Nat.le_refl _⟩, ⟨by (with_reducible repeat (first | refine blk_drewN ?_ _ | refine blk_drew ?_ | refine blk_alloc ?_ _)); exact BK327.out⟩, ⟨by (with_reducible repeat (first | refine blk_drewN ?_ _ | refine blk_drew ?_ | refine blk_alloc ?_ _)); exact BK328.out⟩, ⟨by (with_reducible repeat (first | refine blk_drewN ?_ _ | refine blk_drew ?_ | refine blk_alloc ?_ _)); exact BK334.out⟩, ⟨by (with_reducible repeat (first | refine blk_drewN ?_ _ | refine blk_drew ?_ | refine blk_alloc ?_ _)); exact BK338.out⟩, ⟨by repeat (first | (with_reducible first | exact HB.out | apply below_alloc | apply pw_below_drewN | apply below_drew1 | refine below_set ?_ GE327.out | refine below_set ?_ GE328.out | refine below_set ?_ GE334.out | refine below_set ?_ GE338.out) | exact HB.out)⟩⟩
       case round =>
        clear H'
        try clear c1
        try clear c2
        try clear p2
        try clear c3
        try clear c4
        try clear c5
        try clear c6
        try clear c7
        try clear c10
        try clear c14
        try clear c15
        try clear c16
        try clear c17
        try clear c21
        try clear c22
        try clear c23
        try clear c26
        try clear c27
        try clear c28
        try clear c28b0
        try clear c29
        try clear c30
        try clear c40
        try clear c52
        try clear c53
        try clear c54
        try clear c56
        try clear c57
        try clear c60
        try clear c63
        try clear c63b0
        try clear c70
        try clear hcz11_0
        try clear hcz11_1
        try clear hcz17_0
        try clear hcz17_1
        try clear hcz18_0
        try clear hcz18_1
        try clear hcz24_0
        try clear hcz24_1
        try clear hcz55_0
        try clear hcz55_1
        try clear hcz58_0
        try clear hcz58_1
        try clear hcz61_0
        try clear hcz61_1
        try clear hfz11_0
        try clear hfz11_1
        try clear hfz17_0
        try clear hfz17_1
        try clear hfz18_0
        try clear hfz18_1
        try clear hfz24_0
        try clear hfz24_1
        try clear hfz55_0
        try clear hfz55_1
        try clear hfz58_0
        try clear hfz58_1
        try clear hfz61_0
        try clear hfz61_1
        try clear p2
        obtain ⟨x11_3, x335000_3, x335001_3, x339000_3, x339001_3, rfl, HA, HK3, BK327, BK328, BK334, BK338, HB⟩ := hrel
        cases gk with
        | zero => exact absurd HA.out (by simp [avermentlaw09_KnownMakes.l0])
        | succ k3 =>
         have H := HA.out
         clear HA
         simp only [avermentlaw09_KnownMakes.l0] at H
         by_cases c71 : x11_3 < 2
         ·
          rw [if_pos c71] at H
          have c71b0 : decide (x11_3 < 2) = true := decide_eq_true c71
          clear c71
          replace H := Option.bind_eq_some_iff.mp H
          obtain ⟨⟨t354, t355⟩, A720, H⟩ := H
          (try dsimp only at H)
          have A72 := Aside0.mk A720
          clear A720
          replace H := Option.bind_eq_some_iff.mp H
          obtain ⟨⟨t356, t357, t358⟩, A730, H⟩ := H
          (try dsimp only at H)
          have A73 := Aside0.mk A730
          clear A730
          replace H := Option.bind_eq_some_iff.mp H
          obtain ⟨⟨t359, t360, t361⟩, A740, H⟩ := H
          (try dsimp only at H)
          have A74 := Aside0.mk A740
          clear A740
          replace H := Option.bind_eq_some_iff.mp H
          obtain ⟨⟨t362, t363⟩, A750, H⟩ := H
          (try dsimp only at H)
          have A75 := Aside0.mk A750
          clear A750
          by_cases c76 : (!(t362 == t359) || (!(t363 == t360))) = true
          ·
           rw [if_pos c76] at H
           have c76b0 : (!(t362 == t359) || (!(t363 == t360))) = true := c76
           clear c76
           exact absurd ((Option.some.inj H).trans hr_.out) (by decide)
          ·
           rw [if_neg c76] at H
           have c76b0 : (!(t362 == t359) || (!(t363 == t360))) = false := by simpa using c76
           clear c76
           by_cases c77 : (t358 != t361) = true
           ·
            rw [if_pos c77] at H
            have c77b0 : (t358 != t361) = true := c77
            (try (have c77b1 : decide (t358 = t361) = false := by simpa using c77))
            (try (have c77b2 : (t358 == t361) = false := by simpa using c77))
            (try (have c77b3 : ¬ (t358 = t361) := by simpa using c77))
            clear c77
            exact absurd ((Option.some.inj H).trans hr_.out) (by decide)
           ·
            rw [if_neg c77] at H
            have c77b0 : (t358 != t361) = false := by simpa using c77
            (try (have c77b1 : decide (t358 = t361) = true := by simpa using c77))
            (try (have c77b2 : (t358 == t361) = true := by simpa using c77))
            clear c77
            have H' := Aside0.mk H
            clear H
            have hnb78 := NB327_328.out
            have hnc78 := NB328_327.out
            have hnb79 := NB327_334.out
            have hnc79 := NB334_327.out
            have hnb80 := NB327_338.out
            have hnc80 := NB338_327.out
            have hcz81_0 : wr.cell? ⟨gb327, 0, none⟩ = some (.bool a1_0) := bc BK327 0 rfl
            have hcz81_1 : wr.cell? ⟨gb327, 1, none⟩ = some (.int .i64 a1_1) := bc BK327 1 rfl
            have hfz81_0 := blk_frozen BK327.out 0
            have hfz81_1 := blk_frozen BK327.out 1
            try go_wp2_with (first | ((with_reducible refine gate_callee (f := 14) rfl ?_); refine goesL_ (some 69) rfl rfl Try.func14 (by kernel_rfl) rfl #[.agg #[.bool a1_0, .int .i64 a1_1]] rfl (mapq rfl) ?_; (with_reducible refine (avermentlaw09_To.calls a1_0 a1_1 t354 t355 _ A72.out).mono ?_); rintro e w82 ⟨rfl, hb⟩; refine ⟨_, rfl, ?_⟩; replace BK327 := bb BK327 hb rfl; replace BK328 := bb BK328 hb rfl; replace BK334 := bb BK334 hb rfl; replace BK338 := bb BK338 hb rfl; replace HB := hst HB hb rfl; (try clear hb)) | ((with_reducible refine gate_callee (f := 31) rfl ?_); refine goesL_ (some 72) rfl rfl Try.func31 (by kernel_rfl) rfl #[.agg #[.bool t354, .int .i64 t355], .bool (x11_3 == 1)] rfl (mapq rfl) ?_; (with_reducible refine (known_Branch.calls k3 t354 t355 (x11_3 == 1) t356 t357 t358 _ A73.out).mono ?_); rintro e w83 ⟨rfl, hb⟩; refine ⟨_, rfl, ?_⟩; replace BK327 := bb BK327 hb rfl; replace BK328 := bb BK328 hb rfl; replace BK334 := bb BK334 hb rfl; replace BK338 := bb BK338 hb rfl; replace HB := hst HB hb rfl; (try clear hb); have hnb84 := NB334_328.out; have hnc84 := NB328_334.out; have hnb85 := NB334_338.out; have hnc85 := NB338_334.out; have hcz86_0 : w83.cell? ⟨gb334, 0, none⟩ = some (.bool x335000_3) := (blk_cell BK334.out 0).trans rfl; have hcz86_1 : w83.cell? ⟨gb334, 1, none⟩ = some (.int .i64 x335001_3) := (blk_cell BK334.out 1).trans rfl; have hfz86_0 := blk_frozen BK334.out 0; have hfz86_1 := blk_frozen BK334.out 1; have hcz87_0 : w83.cell? ⟨gb327, 0, none⟩ = some (.bool a1_0) := (blk_cell BK327.out 0).trans rfl; have hcz87_1 : w83.cell? ⟨gb327, 1, none⟩ = some (.int .i64 a1_1) := (blk_cell BK327.out 1).trans rfl; have hfz87_0 := blk_frozen BK327.out 0; have hfz87_1 := blk_frozen BK327.out 1) | ((with_reducible refine gate_callee (f := 32) rfl ?_); refine goesL_ (some 79) rfl rfl Try.func32 (by kernel_rfl) rfl #[.agg #[.bool a1_0, .int .i64 a1_1], .bool (x11_3 == 1)] rfl (mapq rfl) ?_; (with_reducible refine (avermentref09_Branch.calls k3 a1_0 a1_1 (x11_3 == 1) t359 t360 t361 _ A74.out).mono ?_); rintro e w88 ⟨rfl, hb⟩; refine ⟨_, rfl, ?_⟩; replace BK327 := Aside0.mk (blk_below (g := gb327) (o := .cells #[.bool a1_0, .int .i64 a1_1] 23 (0, 0)) (by (with_reducible repeat (first | refine blk_drewN ?_ _ | refine blk_drew ?_ | refine blk_alloc ?_ _)); refine blk_far ?_ NB327_334.out _; (with_reducible repeat (first | refine blk_drewN ?_ _ | refine blk_drew ?_ | refine blk_alloc ?_ _)); refine blk_far ?_ NB327_334.out _; (with_reducible repeat (first | refine blk_drewN ?_ _ | refine blk_drew ?_ | refine blk_alloc ?_ _)); exact BK327.out) hb); replace BK328 := Aside0.mk (blk_below (g := gb328) (o := .cells #[.bool a2_0, .int .i64 a2_1] 23 (0, 0)) (by (with_reducible repeat (first | refine blk_drewN ?_ _ | refine blk_drew ?_ | refine blk_alloc ?_ _)); refine blk_far ?_ NB328_334.out _; (with_reducible repeat (first | refine blk_drewN ?_ _ | refine blk_drew ?_ | refine blk_alloc ?_ _)); refine blk_far ?_ NB328_334.out _; (with_reducible repeat (first | refine blk_drewN ?_ _ | refine blk_drew ?_ | refine blk_alloc ?_ _)); exact BK328.out) hb); replace BK334 := Aside0.mk (blk_below (g := gb334) (o := .cells #[.bool t356, .int .i64 t357] 24 (0, 0)) (by (with_reducible repeat (first | refine blk_drewN ?_ _ | refine blk_drew ?_ | refine blk_alloc ?_ _)); refine blk_put (cs := #[.bool t356, .int .i64 x335001_3]) ?_ 1 _ rfl; (with_reducible repeat (first | refine blk_drewN ?_ _ | refine blk_drew ?_ | refine blk_alloc ?_ _)); refine blk_put (cs := #[.bool x335000_3, .int .i64 x335001_3]) ?_ 0 _ rfl; (with_reducible repeat (first | refine blk_drewN ?_ _ | refine blk_drew ?_ | refine blk_alloc ?_ _)); exact BK334.out) hb); replace BK338 := Aside0.mk (blk_below (g := gb338) (o := .cells #[.bool x339000_3, .int .i64 x339001_3] 23 (0, 0)) (by (with_reducible repeat (first | refine blk_drewN ?_ _ | refine blk_drew ?_ | refine blk_alloc ?_ _)); refine blk_far ?_ NB338_334.out _; (with_reducible repeat (first | refine blk_drewN ?_ _ | refine blk_drew ?_ | refine blk_alloc ?_ _)); refine blk_far ?_ NB338_334.out _; (with_reducible repeat (first | refine blk_drewN ?_ _ | refine blk_drew ?_ | refine blk_alloc ?_ _)); exact BK338.out) hb); replace HB := Aside0.mk (below_step (by repeat (first | (with_reducible first | exact HB.out | apply below_alloc | apply pw_below_drewN | apply below_drew1 | refine below_set ?_ GE327.out | refine below_set ?_ GE328.out | refine below_set ?_ GE334.out | refine below_set ?_ GE338.out) | exact HB.out)) hb); (try clear hb); have hnb89 := NB338_328.out; have hnc89 := NB328_338.out; have hcz90_0 : w88.cell? ⟨gb338, 0, none⟩ = some (.bool x339000_3) := (blk_cell BK338.out 0).trans rfl; have hcz90_1 : w88.cell? ⟨gb338, 1, none⟩ = some (.int .i64 x339001_3) := (blk_cell BK338.out 1).trans rfl; have hfz90_0 := blk_frozen BK338.out 0; have hfz90_1 := blk_frozen BK338.out 1))
            have n0_ : Aside0 (((w88.setCell ⟨gb338, 0, none⟩ (.bool t359)).setCell ⟨gb338, 1, none⟩ (.int .i64 t360)).heap[gb327]? = some (.cells #[.bool a1_0, .int .i64 a1_1] 23 (0, 0))) := ⟨by (with_reducible repeat (first | refine blk_drewN ?_ _ | refine blk_drew ?_ | refine blk_alloc ?_ _)); refine blk_far ?_ NB327_338.out _; (with_reducible repeat (first | refine blk_drewN ?_ _ | refine blk_drew ?_ | refine blk_alloc ?_ _)); refine blk_far ?_ NB327_338.out _; (with_reducible repeat (first | refine blk_drewN ?_ _ | refine blk_drew ?_ | refine blk_alloc ?_ _)); exact BK327.out⟩
            have n1_ : Aside0 (((w88.setCell ⟨gb338, 0, none⟩ (.bool t359)).setCell ⟨gb338, 1, none⟩ (.int .i64 t360)).heap[gb328]? = some (.cells #[.bool a2_0, .int .i64 a2_1] 23 (0, 0))) := ⟨by (with_reducible repeat (first | refine blk_drewN ?_ _ | refine blk_drew ?_ | refine blk_alloc ?_ _)); refine blk_far ?_ NB328_338.out _; (with_reducible repeat (first | refine blk_drewN ?_ _ | refine blk_drew ?_ | refine blk_alloc ?_ _)); refine blk_far ?_ NB328_338.out _; (with_reducible repeat (first | refine blk_drewN ?_ _ | refine blk_drew ?_ | refine blk_alloc ?_ _)); exact BK328.out⟩
            have n2_ : Aside0 (((w88.setCell ⟨gb338, 0, none⟩ (.bool t359)).setCell ⟨gb338, 1, none⟩ (.int .i64 t360)).heap[gb334]? = some (.cells #[.bool t356, .int .i64 t357] 24 (0, 0))) := ⟨by (with_reducible repeat (first | refine blk_drewN ?_ _ | refine blk_drew ?_ | refine blk_alloc ?_ _)); refine blk_far ?_ NB334_338.out _; (with_reducible repeat (first | refine blk_drewN ?_ _ | refine blk_drew ?_ | refine blk_alloc ?_ _)); refine blk_far ?_ NB334_338.out _; (with_reducible repeat (first | refine blk_drewN ?_ _ | refine blk_drew ?_ | refine blk_alloc ?_ _)); exact BK334.out⟩
            have n3_ : Aside0 (((w88.setCell ⟨gb338, 0, none⟩ (.bool t359)).setCell ⟨gb338, 1, none⟩ (.int .i64 t360)).heap[gb338]? = some (.cells #[.bool t359, .int .i64 t360] 23 (0, 0))) := ⟨by (with_reducible repeat (first | refine blk_drewN ?_ _ | refine blk_drew ?_ | refine blk_alloc ?_ _)); refine blk_put (cs := #[.bool t359, .int .i64 x339001_3]) ?_ 1 _ rfl; (with_reducible repeat (first | refine blk_drewN ?_ _ | refine blk_drew ?_ | refine blk_alloc ?_ _)); refine blk_put (cs := #[.bool x339000_3, .int .i64 x339001_3]) ?_ 0 _ rfl; (with_reducible repeat (first | refine blk_drewN ?_ _ | refine blk_drew ?_ | refine blk_alloc ?_ _)); exact BK338.out⟩
            have n4_ : Aside0 (Below w.heap.size w ((w88.setCell ⟨gb338, 0, none⟩ (.bool t359)).setCell ⟨gb338, 1, none⟩ (.int .i64 t360))) := ⟨by repeat (first | (with_reducible first | exact HB.out | apply below_alloc | apply pw_below_drewN | apply below_drew1 | refine below_set ?_ GE327.out | refine below_set ?_ GE328.out | refine below_set ?_ GE334.out | refine below_set ?_ GE338.out) | exact HB.out)⟩
            (try clear BK327)
            (try clear BK328)
            (try clear BK334)
            (try clear BK338)
            (try clear HB)
            generalize ((w88.setCell ⟨gb338, 0, none⟩ (.bool t359)).setCell ⟨gb338, 1, none⟩ (.int .i64 t360)) = w91 at n0_ n1_ n2_ n3_ n4_ ⊢
            have BK327 := n0_
            have BK328 := n1_
            have BK334 := n2_
            have BK338 := n3_
            have HB := n4_
            clear n0_ n1_ n2_ n3_ n4_
            replace BK327 := Aside0.mk (blk_drew BK327.out); replace BK328 := Aside0.mk (blk_drew BK328.out); replace BK334 := Aside0.mk (blk_drew BK334.out); replace BK338 := Aside0.mk (blk_drew BK338.out); replace HB := Aside0.mk (below_drew1 HB.out)
            refine start_ (n := 9) (S := fun w' => w'.cell? ⟨gb334, 0, none⟩ = some (.bool t356) ∧ w'.cell? ⟨gb334, 1, none⟩ = some (.int .i64 t357) ∧ w'.cell? ⟨gb338, 0, none⟩ = some (.bool t359) ∧ w'.cell? ⟨gb338, 1, none⟩ = some (.int .i64 t360)) (ds := []) #[false, false, false, false, false, false, false, false, false] (by kernel_rfl) rfl rfl ⟨bc BK334 0 rfl, bc BK334 1 rfl, bc BK338 0 rfl, bc BK338 1 rfl⟩ (fun hHeld => ?_); refine with_tabW avermentlaw09_KnownMakes.tab14 avermentlaw09_KnownMakes.bits14 (fun HT_ HW_ => ?_)
            generalize w91.drew = w92 at BK327 BK328 BK334 BK338 HB hHeld ⊢
            refine take_ (i := 0) (N := some 82) (v := ?_) (a' := ?_) #[true, false, false, false, false, false, false, false, false] rfl rfl (take_ofW HT_.out HW_.out (by kernel_rfl)) (fun _ _ _ h => h) (Or.inl ⟨by rfl, ?_⟩) hHeld ?_ ?_
            rotate_left
            ·
             rintro w' ⟨s0, s1, s2, s3⟩
             go_simp
             with_reducible rfl
            rotate_left
            ·
             simp only [Act.put, List.setIfInBounds_toArray, List.set_cons_zero, List.set_cons_succ, i64_w, i32_w]
             rfl
            refine take_ (i := 2) (N := some 84) (v := ?_) (a' := ?_) #[true, false, true, false, false, false, false, false, false] rfl rfl (take_ofW HT_.out HW_.out (by kernel_rfl)) (fun _ _ _ h => h) (Or.inl ⟨by rfl, ?_⟩) hHeld ?_ ?_
            rotate_left
            ·
             rintro w' ⟨s0, s1, s2, s3⟩
             go_simp
             with_reducible rfl
            rotate_left
            ·
             simp only [Act.put, List.setIfInBounds_toArray, List.set_cons_zero, List.set_cons_succ, i64_w, i32_w]
             rfl
            refine one_ (i := 1) (N := some 83) #[true, true, true, false, false, false, false, false, false] rfl rfl (one_of HT_.out (by kernel_rfl)) (by decide) (fun K hK => ?_)
            refine goes_ Try.func17 (by kernel_rfl) rfl #[.agg #[.bool t356, .int .i64 t357]] (by rfl) rfl rfl (mapq rfl) ?_
            with_reducible refine (avermentlaw09_From.calls t356 t357 t362 t363 _ A75.out).mono ?_
            rintro e w93 ⟨rfl, hb⟩
            refine ⟨_, rfl, ?_⟩
            replace BK327 := bb BK327 hb rfl; replace BK328 := bb BK328 hb rfl; replace BK334 := bb BK334 hb rfl; replace BK338 := bb BK338 hb rfl; replace HB := hst HB hb rfl
            (try clear hb)
            refine hK.out _ _ ⟨bc BK334 0 rfl, bc BK334 1 rfl, bc BK338 0 rfl, bc BK338 1 rfl⟩ (fun hHeld => ?_)
            clear hK K
            refine norm_ (a' := ?_) ?_ ?_
            rotate_left; · (show Act.put _ (some 83) _ = _; simp only [Act.put, List.setIfInBounds_toArray, List.set_cons_zero, List.set_cons_succ, i64_w, i32_w]; rfl)
            refine pure_ (i := 3) (N := some 85) (v := ?_) (a' := ?_) #[true, true, true, true, false, false, false, false, false] rfl rfl (any_of HT_.out (by kernel_rfl)) (fun _ _ _ h => h) (Or.inl ⟨by rfl, ?_⟩) ?_ ?_
            rotate_left; · (intro w'; go_simp; with_reducible rfl)
            rotate_left; · (simp only [Act.put, List.setIfInBounds_toArray, List.set_cons_zero, List.set_cons_succ, i64_w, i32_w]; rfl)
            refine pure_ (i := 4) (N := some 86) (v := ?_) (a' := ?_) #[true, true, true, true, true, false, false, false, false] rfl rfl (any_of HT_.out (by kernel_rfl)) (fun _ _ _ h => h) (Or.inl ⟨by rfl, ?_⟩) ?_ ?_
            rotate_left; · (intro w'; go_simp; with_reducible rfl)
            rotate_left; · (simp only [Act.put, List.setIfInBounds_toArray, List.set_cons_zero, List.set_cons_succ, i64_w, i32_w]; rfl)
            refine pure_ (i := 5) (N := some 87) (v := ?_) (a' := ?_) #[true, true, true, true, true, true, false, false, false] rfl rfl (any_of HT_.out (by kernel_rfl)) (fun _ _ _ h => h) (Or.inl ⟨by rfl, ?_⟩) ?_ ?_
            rotate_left; · (intro w'; go_simp; with_reducible rfl)
            rotate_left; · (simp only [Act.put, List.setIfInBounds_toArray, List.set_cons_zero, List.set_cons_succ, i64_w, i32_w]; rfl)
            refine pure_ (i := 6) (N := some 88) (v := ?_) (a' := ?_) #[true, true, true, true, true, true, true, false, false] rfl rfl (any_of HT_.out (by kernel_rfl)) (fun _ _ _ h => h) (Or.inl ⟨by rfl, ?_⟩) ?_ ?_
            rotate_left; · (intro w'; go_simp; with_reducible rfl)
            rotate_left; · (simp only [Act.put, List.setIfInBounds_toArray, List.set_cons_zero, List.set_cons_succ, i64_w, i32_w]; rfl)
            refine pure_ (i := 7) (N := some 89) (v := ?_) (a' := ?_) #[true, true, true, true, true, true, true, true, false] rfl rfl (any_of HT_.out (by kernel_rfl)) (fun _ _ _ h => h) (Or.inl ⟨by rfl, ?_⟩) ?_ ?_
            rotate_left; · (intro w'; go_simp; with_reducible rfl)
            rotate_left; · (simp only [Act.put, List.setIfInBounds_toArray, List.set_cons_zero, List.set_cons_succ, i64_w, i32_w]; rfl)
            refine pure_ (i := 8) (N := some 90) (v := ?_) (a' := ?_) #[true, true, true, true, true, true, true, true, true] rfl rfl (any_of HT_.out (by kernel_rfl)) (fun _ _ _ h => h) (Or.inl ⟨by rfl, ?_⟩) ?_ ?_
            rotate_left; · (intro w'; go_simp; with_reducible rfl)
            rotate_left; · (simp only [Act.put, List.setIfInBounds_toArray, List.set_cons_zero, List.set_cons_succ, i64_w, i32_w]; rfl)
            refine done_ (done_of HT_.out (by kernel_rfl)) ?_
            try go_wp2
            go_roundg k3
            case measure => have := HJ6.out; have := HJ44.out; have := HK3.out; omega
            case rel => exact ⟨(wrap64 (x11_3 + 1)), (t356), (t357), (t359), (t360), (by first | rfl | (simp; done) | (simp [*]; done)), H', ⟨by have := HJ6.out; have := HJ44.out; have := HK3.out; omega⟩, ⟨by (with_reducible repeat (first | refine blk_drewN ?_ _ | refine blk_drew ?_ | refine blk_alloc ?_ _)); exact BK327.out⟩, ⟨by (with_reducible repeat (first | refine blk_drewN ?_ _ | refine blk_drew ?_ | refine blk_alloc ?_ _)); exact BK328.out⟩, ⟨by (with_reducible repeat (first | refine blk_drewN ?_ _ | refine blk_drew ?_ | refine blk_alloc ?_ _)); exact BK334.out⟩, ⟨by (with_reducible repeat (first | refine blk_drewN ?_ _ | refine blk_drew ?_ | refine blk_alloc ?_ _)); exact BK338.out⟩, ⟨by repeat (first | (with_reducible first | exact HB.out | apply below_alloc | apply pw_below_drewN | apply below_drew1 | refine below_set ?_ GE327.out | refine below_set ?_ GE328.out | refine below_set ?_ GE334.out | refine below_set ?_ GE338.out) | exact HB.out)⟩⟩
         ·
          rw [if_neg c71] at H
          have c71b0 : decide (x11_3 < 2) = false := decide_eq_false c71
          clear c71
          obtain rfl := Option.some.inj H
          go_wp2
          go_ret
          exact ⟨by first | rfl | (simp [errW_none, errW_some] <;> rfl) | (simp [*, errW_none, errW_some] <;> rfl), by repeat (first | (with_reducible first | exact HB.out | apply below_alloc | apply pw_below_drewN | apply below_drew1 | refine below_set ?_ GE327.out | refine below_set ?_ GE328.out | refine below_set ?_ GE334.out | refine below_set ?_ GE338.out) | exact HB.out)⟩

end Go.Proofs.Ytpacmhhaabhdjaa.KN
