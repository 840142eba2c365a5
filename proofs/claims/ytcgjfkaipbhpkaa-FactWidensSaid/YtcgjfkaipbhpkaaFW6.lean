-- Written by a program of this session: plain functions and their walks. Lean checks it.
import Derived.Test.YtcgjfkaipbhpkaaFW0
import Derived.Test.YtcgjfkaipbhpkaaFW2
import Derived.Test.YtcgjfkaipbhpkaaFW3
import Derived.Test.YtcgjfkaipbhpkaaFW5
namespace Go.Proofs.Ytcgjfkaipbhpkaa.FW
open Go.RowKit Go.Proofs.YtcgjfkaipbhpkaaW.PrintWords Go.Proofs.YtcgjfkaipbhpkaaW.PrintLast Go.Proofs.YtcgjfkaipbhpkaaW.PrintMore
attribute [local go_sem] max2_int min2_int max_two min_two max_three min_three max_four min_four   -- for this text's walks alone
set_option linter.unusedVariables false
set_option linter.unusedSimpArgs false

attribute [local go_sem high] eqA31
/-! ### avermentlaw12_FactWidens: function 4 -/
mutual
def avermentlaw12_FactWidens.l0 : Nat → List (S27) → Int → Int → Int → Bool → Int → Int → Int → Int → Option (Bool)
 | 0, _, _, _, _, _, _, _, _, _ => none
 | k + 1, x1, x6, x7, x297000, x297001, x297002, x297003, x297004, x297005 => if x7 < (x1.length : Int) then (avermentlaw12_FactWidens.j1 k x1 x6 x7 (decide (x7 < 60)) x297000 x297001 x297002 x297003 x297004 x297005) else (avermentlaw12_FactWidens.j1 k x1 x6 x7 false x297000 x297001 x297002 x297003 x297004 x297005)
def avermentlaw12_FactWidens.j1 : Nat → List (S27) → Int → Int → Bool → Int → Bool → Int → Int → Int → Int → Option (Bool)
 | 0, _, _, _, _, _, _, _, _, _, _ => none
 | k + 1, x1, x6, x7, x20, x297000, x297001, x297002, x297003, x297004, x297005 => if x20 = true then (if 0 ≤ x7 then (if x7 < (x1.length : Int) then ((avermentref12_Fix.f k ((rd_T27 x1 x7).f0) ((rd_T27 x1 x7).f1.f0) ((rd_T27 x1 x7).f1.f1) ((rd_T27 x1 x7).f2.f0) ((rd_T27 x1 x7).f2.f1) ((rd_T27 x1 x7).f3)).bind fun bt299 => ((avermentlaw12_To.f bt299.1 bt299.2.1 bt299.2.2.1 bt299.2.2.2.1 bt299.2.2.2.2.1 bt299.2.2.2.2.2).bind fun bt305 => ((fact_Widen.f x297000 x297001 x297002 x297003 x297004 x297005 bt305.1 bt305.2.1 bt305.2.2.1 bt305.2.2.2.1 bt305.2.2.2.2.1 bt305.2.2.2.2.2).bind fun bt312 => ((fact_Within.f x297000 x297001 x297002 x297003 x297004 x297005 bt312.1 bt312.2.1 bt312.2.2.1 bt312.2.2.2.1 bt312.2.2.2.2.1 bt312.2.2.2.2.2).bind fun t319 => (if t319 = true then ((fact_Within.f bt305.1 bt305.2.1 bt305.2.2.1 bt305.2.2.2.1 bt305.2.2.2.2.1 bt305.2.2.2.2.2 bt312.1 bt312.2.1 bt312.2.2.1 bt312.2.2.2.1 bt312.2.2.2.2.1 bt312.2.2.2.2.2).bind fun t320 => (avermentlaw12_FactWidens.j2 k x1 x6 x7 (!t320) x297000 x297001 x297002 x297003 x297004 x297005 bt312.1 bt312.2.1 bt312.2.2.1 bt312.2.2.2.1 bt312.2.2.2.2.1 bt312.2.2.2.2.2)) else (avermentlaw12_FactWidens.j2 k x1 x6 x7 true x297000 x297001 x297002 x297003 x297004 x297005 bt312.1 bt312.2.1 bt312.2.2.1 bt312.2.2.2.1 bt312.2.2.2.2.1 bt312.2.2.2.2.2)))))) else (none)) else (none)) else ((avermentlaw12_told.f).bind fun t297 => (if t297 = true then (some (decide (x6 ≤ 6))) else (some false)))
def avermentlaw12_FactWidens.j2 : Nat → List (S27) → Int → Int → Bool → Int → Bool → Int → Int → Int → Int → Int → Bool → Int → Int → Int → Int → Option (Bool)
 | 0, _, _, _, _, _, _, _, _, _, _, _, _, _, _, _, _ => none
 | k + 1, x1, x6, x7, x41, x297000, x297001, x297002, x297003, x297004, x297005, x319000, x319001, x319002, x319003, x319004, x319005 => if x41 = true then (some false) else (if (!(x319000 == x297000) || ((!(x319001 == x297001) || (!(x319002 == x297002))) || ((!(x319003 == x297003) || (!(x319004 == x297004))) || (!(x319005 == x297005))))) = true then (avermentlaw12_FactWidens.l0 k x1 (wrap64 (x6 + 1)) (wrap64 (x7 + 1)) x319000 x319001 x319002 x319003 x319004 x319005) else (avermentlaw12_FactWidens.l0 k x1 x6 (wrap64 (x7 + 1)) x319000 x319001 x319002 x319003 x319004 x319005))
end
def avermentlaw12_FactWidens.f (k : Nat) (a0_0 : Int) (a0_1 : Bool) (a0_2 : Int) (a0_3 : Int) (a0_4 : Int) (a0_5 : Int) (l1 : List (S27)) : Option (Bool) := (avermentref12_Fix.f k a0_0 a0_1 a0_2 a0_3 a0_4 a0_5).bind fun bt284 => ((avermentlaw12_To.f bt284.1 bt284.2.1 bt284.2.2.1 bt284.2.2.2.1 bt284.2.2.2.2.1 bt284.2.2.2.2.2).bind fun bt290 => (avermentlaw12_FactWidens.l0 k l1 0 0 bt290.1 bt290.2.1 bt290.2.2.1 bt290.2.2.2.1 bt290.2.2.2.2.1 bt290.2.2.2.2.2))
theorem avermentlaw12_FactWidens.mono_l : ∀ k, (∀ y0 y1 y2 y3 y4 y5 y6 y7 y8, LeO (avermentlaw12_FactWidens.l0 k y0 y1 y2 y3 y4 y5 y6 y7 y8) (avermentlaw12_FactWidens.l0 (k + 1) y0 y1 y2 y3 y4 y5 y6 y7 y8)) ∧ (∀ y0 y1 y2 y3 y4 y5 y6 y7 y8 y9, LeO (avermentlaw12_FactWidens.j1 k y0 y1 y2 y3 y4 y5 y6 y7 y8 y9) (avermentlaw12_FactWidens.j1 (k + 1) y0 y1 y2 y3 y4 y5 y6 y7 y8 y9)) ∧ (∀ y0 y1 y2 y3 y4 y5 y6 y7 y8 y9 y10 y11 y12 y13 y14 y15, LeO (avermentlaw12_FactWidens.j2 k y0 y1 y2 y3 y4 y5 y6 y7 y8 y9 y10 y11 y12 y13 y14 y15) (avermentlaw12_FactWidens.j2 (k + 1) y0 y1 y2 y3 y4 y5 y6 y7 y8 y9 y10 y11 y12 y13 y14 y15))
 | 0 => ⟨fun _ _ _ _ _ _ _ _ _ r h => by simp [avermentlaw12_FactWidens.l0] at h, fun _ _ _ _ _ _ _ _ _ _ r h => by simp [avermentlaw12_FactWidens.j1] at h, fun _ _ _ _ _ _ _ _ _ _ _ _ _ _ _ _ r h => by simp [avermentlaw12_FactWidens.j2] at h⟩
 | k + 1 => by
  obtain ⟨ih0, ih1, ih2⟩ := avermentlaw12_FactWidens.mono_l k
  refine ⟨?_, ?_, ?_⟩
  ·
   intro y0 y1 y2 y3 y4 y5 y6 y7 y8
   unfold avermentlaw12_FactWidens.l0
   repeat' first
   | (with_reducible exact ih0 _ _ _ _ _ _ _ _ _)
   | (with_reducible exact ih1 _ _ _ _ _ _ _ _ _ _)
   | (with_reducible exact ih2 _ _ _ _ _ _ _ _ _ _ _ _ _ _ _ _)
   | (with_reducible exact avermentref12_Fix.mono _ _ _ _ _ _ _)
   | (with_reducible exact LeO.refl _)
   | (with_reducible exact LeO.none _)
   | (with_reducible refine LeO.ite ?_ ?_)
   | (with_reducible refine LeO.bind ?_ (fun _ => ?_))
   | exact ih0 _ _ _ _ _ _ _ _ _
   | exact ih1 _ _ _ _ _ _ _ _ _ _
   | exact ih2 _ _ _ _ _ _ _ _ _ _ _ _ _ _ _ _
   | exact avermentref12_Fix.mono _ _ _ _ _ _ _
   | exact LeO.none _
   | refine LeO.ite ?_ ?_
   | refine LeO.bind ?_ (fun _ => ?_)
  ·
   intro y0 y1 y2 y3 y4 y5 y6 y7 y8 y9
   unfold avermentlaw12_FactWidens.j1
   repeat' first
   | (with_reducible exact ih0 _ _ _ _ _ _ _ _ _)
   | (with_reducible exact ih1 _ _ _ _ _ _ _ _ _ _)
   | (with_reducible exact ih2 _ _ _ _ _ _ _ _ _ _ _ _ _ _ _ _)
   | (with_reducible exact avermentref12_Fix.mono _ _ _ _ _ _ _)
   | (with_reducible exact LeO.refl _)
   | (with_reducible exact LeO.none _)
   | (with_reducible refine LeO.ite ?_ ?_)
   | (with_reducible refine LeO.bind ?_ (fun _ => ?_))
   | exact ih0 _ _ _ _ _ _ _ _ _
   | exact ih1 _ _ _ _ _ _ _ _ _ _
   | exact ih2 _ _ _ _ _ _ _ _ _ _ _ _ _ _ _ _
   | exact avermentref12_Fix.mono _ _ _ _ _ _ _
   | exact LeO.none _
   | refine LeO.ite ?_ ?_
   | refine LeO.bind ?_ (fun _ => ?_)
  ·
   intro y0 y1 y2 y3 y4 y5 y6 y7 y8 y9 y10 y11 y12 y13 y14 y15
   unfold avermentlaw12_FactWidens.j2
   repeat' first
   | (with_reducible exact ih0 _ _ _ _ _ _ _ _ _)
   | (with_reducible exact ih1 _ _ _ _ _ _ _ _ _ _)
   | (with_reducible exact ih2 _ _ _ _ _ _ _ _ _ _ _ _ _ _ _ _)
   | (with_reducible exact avermentref12_Fix.mono _ _ _ _ _ _ _)
   | (with_reducible exact LeO.refl _)
   | (with_reducible exact LeO.none _)
   | (with_reducible refine LeO.ite ?_ ?_)
   | (with_reducible refine LeO.bind ?_ (fun _ => ?_))
   | exact ih0 _ _ _ _ _ _ _ _ _
   | exact ih1 _ _ _ _ _ _ _ _ _ _
   | exact ih2 _ _ _ _ _ _ _ _ _ _ _ _ _ _ _ _
   | exact avermentref12_Fix.mono _ _ _ _ _ _ _
   | exact LeO.none _
   | refine LeO.ite ?_ ?_
   | refine LeO.bind ?_ (fun _ => ?_)
theorem avermentlaw12_FactWidens.mono : ∀ a0 a1 a2 a3 a4 a5 a6 k, LeO (avermentlaw12_FactWidens.f k a0 a1 a2 a3 a4 a5 a6) (avermentlaw12_FactWidens.f (k + 1) a0 a1 a2 a3 a4 a5 a6) := by
 intro a0 a1 a2 a3 a4 a5 a6 k
 obtain ⟨ih0, ih1, ih2⟩ := avermentlaw12_FactWidens.mono_l k
 unfold avermentlaw12_FactWidens.f
 repeat' first
   | (with_reducible exact ih0 _ _ _ _ _ _ _ _ _)
   | (with_reducible exact ih1 _ _ _ _ _ _ _ _ _ _)
   | (with_reducible exact ih2 _ _ _ _ _ _ _ _ _ _ _ _ _ _ _ _)
   | (with_reducible exact avermentref12_Fix.mono _ _ _ _ _ _ _)
   | (with_reducible exact LeO.refl _)
   | (with_reducible exact LeO.none _)
   | (with_reducible refine LeO.ite ?_ ?_)
   | (with_reducible refine LeO.bind ?_ (fun _ => ?_))
   | exact ih0 _ _ _ _ _ _ _ _ _
   | exact ih1 _ _ _ _ _ _ _ _ _ _
   | exact ih2 _ _ _ _ _ _ _ _ _ _ _ _ _ _ _ _
   | exact avermentref12_Fix.mono _ _ _ _ _ _ _
   | exact LeO.none _
   | refine LeO.ite ?_ ?_
   | refine LeO.bind ?_ (fun _ => ?_)
set_option maxHeartbeats 8000000 in
set_option maxRecDepth 100000 in
theorem avermentlaw12_FactWidens.calls (k : Nat) (a0_0 : Int) (a0_1 : Bool) (a0_2 : Int) (a0_3 : Int) (a0_4 : Int) (a0_5 : Int) (A1 : Option Addr) (c1 : Nat) (l1 : List (S27)) (r : Bool) (w : World) (hr_ : Aside0 (r = true)) (hr1 : Kd.C k27 w A1 l1.length l1) (hc1 : l1.length ≤ c1) (h : avermentlaw12_FactWidens.f k a0_0 a0_1 a0_2 a0_3 a0_4 a0_5 l1 = some r) :
  Calls Try.prog 4 #[.agg #[.int .i64 a0_0, .bool a0_1, .int .i64 a0_2, .int .i64 a0_3, .int .i64 a0_4, .int .i64 a0_5], .slice A1 l1.length c1] w fun e w' => e = .returned (.bool r) ∧ Below w.heap.size w w' := by
 have hu27 := Try.underlying27
 have hu31 := Try.underlying31
 have HR1 := Aside0.mk hr1
 have HC1 := Aside0.mk hc1
 clear hr1 hc1
 have HB := Aside0.mk (Below.refl w.heap.size w)
 have H : ((avermentref12_Fix.f k a0_0 a0_1 a0_2 a0_3 a0_4 a0_5).bind fun bt284 => ((avermentlaw12_To.f bt284.1 bt284.2.1 bt284.2.2.1 bt284.2.2.2.1 bt284.2.2.2.2.1 bt284.2.2.2.2.2).bind fun bt290 => (avermentlaw12_FactWidens.l0 k l1 0 0 bt290.1 bt290.2.1 bt290.2.2.1 bt290.2.2.2.1 bt290.2.2.2.2.1 bt290.2.2.2.2.2))) = some r := h
 clear h
 replace H := Option.bind_eq_some_iff.mp H
 obtain ⟨⟨t284, t285, t286, t287, t288, t289⟩, A30, H⟩ := H
 (try dsimp only at H)
 have A3 := Aside0.mk A30
 clear A30
 replace H := Option.bind_eq_some_iff.mp H
 obtain ⟨⟨t290, t291, t292, t293, t294, t295⟩, A40, H⟩ := H
 (try dsimp only at H)
 have A4 := Aside0.mk A40
 clear A40
 have H' := Aside0.mk H
 clear H
 go_enter Try.func4, Try.ntmps4
 go_wp2_with (first | ((with_reducible refine gate_dst (N := 2) rfl ?_); refine box_event ?hg (N := 2) ?hd (cs := #[.int .i64 a0_0, .bool a0_1, .int .i64 a0_2, .int .i64 a0_3, .int .i64 a0_4, .int .i64 a0_5]) (t := 27) ?hr ?_; (case hd => rfl); (case hg => rfl); (case hr => first | (go_simp; done) | (go_simp; rfl)); intro gb283 hg w5 hbox hb; have BK283 := Aside0.mk (hbox); have GW283 := geb hg HB rfl; have GE283 := geb hg HB rfl; replace HB := hst HB hb rfl; clear hb hbox hg; have hcz6_0 : w5.cell? ⟨gb283, 0, none⟩ = some (.int .i64 a0_0) := (blk_cell BK283.out 0).trans rfl; have hcz6_1 : w5.cell? ⟨gb283, 1, none⟩ = some (.bool a0_1) := (blk_cell BK283.out 1).trans rfl; have hcz6_2 : w5.cell? ⟨gb283, 2, none⟩ = some (.int .i64 a0_2) := (blk_cell BK283.out 2).trans rfl; have hcz6_3 : w5.cell? ⟨gb283, 3, none⟩ = some (.int .i64 a0_3) := (blk_cell BK283.out 3).trans rfl; have hcz6_4 : w5.cell? ⟨gb283, 4, none⟩ = some (.int .i64 a0_4) := (blk_cell BK283.out 4).trans rfl; have hcz6_5 : w5.cell? ⟨gb283, 5, none⟩ = some (.int .i64 a0_5) := (blk_cell BK283.out 5).trans rfl; have hfz6_0 := blk_frozen BK283.out 0; have hfz6_1 := blk_frozen BK283.out 1; have hfz6_2 := blk_frozen BK283.out 2; have hfz6_3 := blk_frozen BK283.out 3; have hfz6_4 := blk_frozen BK283.out 4; have hfz6_5 := blk_frozen BK283.out 5) | ((with_reducible refine gate_callee (f := 9) rfl ?_); refine goesL_ (some 11) rfl rfl Try.func9 (by kernel_rfl) rfl #[.agg #[.int .i64 a0_0, .bool a0_1, .int .i64 a0_2, .int .i64 a0_3, .int .i64 a0_4, .int .i64 a0_5]] rfl (mapq rfl) ?_; (with_reducible refine (avermentref12_Fix.calls k a0_0 a0_1 a0_2 a0_3 a0_4 a0_5 t284 t285 t286 t287 t288 t289 _ A3.out).mono ?_); rintro e w7 ⟨rfl, hb⟩; refine ⟨_, rfl, ?_⟩; replace BK283 := bb BK283 hb rfl; replace HB := hst HB hb rfl; (try clear hb)) | ((with_reducible refine gate_callee (f := 8) rfl ?_); refine goesL_ (some 12) rfl rfl Try.func8 (by kernel_rfl) rfl #[.agg #[.int .i64 t284, .bool t285, .int .i64 t286, .int .i64 t287, .int .i64 t288, .int .i64 t289]] rfl (mapq rfl) ?_; (with_reducible refine (avermentlaw12_To.calls t284 t285 t286 t287 t288 t289 t290 t291 t292 t293 t294 t295 _ A4.out).mono ?_); rintro e w8 ⟨rfl, hb⟩; refine ⟨_, rfl, ?_⟩; replace BK283 := bb BK283 hb rfl; replace HB := hst HB hb rfl; (try clear hb)) | ((with_reducible refine gate_dst (N := 5) rfl ?_); refine box_event ?hg (N := 5) ?hd (cs := #[.int .i64 0, .bool false, .int .i64 0, .int .i64 0, .int .i64 0, .int .i64 0]) (t := 31) ?hr ?_; (case hd => rfl); (case hg => rfl); (case hr => first | (go_simp; done) | (go_simp; rfl)); intro gb296 hg w9 hbox hb; have BK296 := Aside0.mk (hbox); have GW296 := geb hg HB rfl; have GE296 := geb hg HB rfl; have NB283_296 := nbl hg BK283 rfl; have NB296_283 := nbr hg BK283 rfl; replace BK283 := bb BK283 hb rfl; replace HB := hst HB hb rfl; clear hb hbox hg; have hnb10 := NB296_283.out; have hnc10 := NB283_296.out; have hcz11_0 : w9.cell? ⟨gb296, 0, none⟩ = some (.int .i64 0) := (blk_cell BK296.out 0).trans rfl; have hcz11_1 : w9.cell? ⟨gb296, 1, none⟩ = some (.bool false) := (blk_cell BK296.out 1).trans rfl; have hcz11_2 : w9.cell? ⟨gb296, 2, none⟩ = some (.int .i64 0) := (blk_cell BK296.out 2).trans rfl; have hcz11_3 : w9.cell? ⟨gb296, 3, none⟩ = some (.int .i64 0) := (blk_cell BK296.out 3).trans rfl; have hcz11_4 : w9.cell? ⟨gb296, 4, none⟩ = some (.int .i64 0) := (blk_cell BK296.out 4).trans rfl; have hcz11_5 : w9.cell? ⟨gb296, 5, none⟩ = some (.int .i64 0) := (blk_cell BK296.out 5).trans rfl; have hfz11_0 := blk_frozen BK296.out 0; have hfz11_1 := blk_frozen BK296.out 1; have hfz11_2 := blk_frozen BK296.out 2; have hfz11_3 := blk_frozen BK296.out 3; have hfz11_4 := blk_frozen BK296.out 4; have hfz11_5 := blk_frozen BK296.out 5))
 go_loopg [6, 7] k (fun kq v6 v7 w' => ∃ (x6_1 : Int) (x7_1 : Int) (x297000_1 : Int) (x297001_1 : Bool) (x297002_1 : Int) (x297003_1 : Int) (x297004_1 : Int) (x297005_1 : Int), v6 = .int .i64 x6_1 ∧ v7 = .int .i64 x7_1 ∧ Aside0 (avermentlaw12_FactWidens.l0 kq l1 x6_1 x7_1 x297000_1 x297001_1 x297002_1 x297003_1 x297004_1 x297005_1 = some r) ∧ Aside0 (kq ≤ k) ∧ Aside0 (w'.heap[gb283]? = some (.cells #[.int .i64 a0_0, .bool a0_1, .int .i64 a0_2, .int .i64 a0_3, .int .i64 a0_4, .int .i64 a0_5] 27 (0, 0))) ∧ Aside0 (w'.heap[gb296]? = some (.cells #[.int .i64 x297000_1, .bool x297001_1, .int .i64 x297002_1, .int .i64 x297003_1, .int .i64 x297004_1, .int .i64 x297005_1] 31 (0, 0))) ∧ Aside0 (Below w.heap.size w w'))
 case atStart => exact ⟨(0), (0), (t290), (t291), (t292), (t293), (t294), (t295), (by first | rfl | (simp; done) | (simp [*]; done)), (by first | rfl | (simp; done) | (simp [*]; done)), H', ⟨Nat.le_refl _⟩, ⟨by (with_reducible repeat (first | refine blk_drewN ?_ _ | refine blk_drew ?_ | refine blk_alloc ?_ _)); refine blk_far ?_ NB283_296.out _; (with_reducible repeat (first | refine blk_drewN ?_ _ | refine blk_drew ?_ | refine blk_alloc ?_ _)); refine blk_far ?_ NB283_296.out _; (with_reducible repeat (first | refine blk_drewN ?_ _ | refine blk_drew ?_ | refine blk_alloc ?_ _)); refine blk_far ?_ NB283_296.out _; (with_reducible repeat (first | refine blk_drewN ?_ _ | refine blk_drew ?_ | refine blk_alloc ?_ _)); refine blk_far ?_ NB283_296.out _; (with_reducible repeat (first | refine blk_drewN ?_ _ | refine blk_drew ?_ | refine blk_alloc ?_ _)); refine blk_far ?_ NB283_296.out _; (with_reducible repeat (first | refine blk_drewN ?_ _ | refine blk_drew ?_ | refine blk_alloc ?_ _)); refine blk_far ?_ NB283_296.out _; (with_reducible repeat (first | refine blk_drewN ?_ _ | refine blk_drew ?_ | refine blk_alloc ?_ _)); exact BK283.out⟩, ⟨by (with_reducible repeat (first | refine blk_drewN ?_ _ | refine blk_drew ?_ | refine blk_alloc ?_ _)); refine blk_put (cs := #[.int .i64 t290, .bool t291, .int .i64 t292, .int .i64 t293, .int .i64 t294, .int .i64 0]) ?_ 5 _ rfl; (with_reducible repeat (first | refine blk_drewN ?_ _ | refine blk_drew ?_ | refine blk_alloc ?_ _)); refine blk_put (cs := #[.int .i64 t290, .bool t291, .int .i64 t292, .int .i64 t293, .int .i64 0, .int .i64 0]) ?_ 4 _ rfl; (with_reducible repeat (first | refine blk_drewN ?_ _ | refine blk_drew ?_ | refine blk_alloc ?_ _)); refine blk_put (cs := #[.int .i64 t290, .bool t291, .int .i64 t292, .int .i64 0, .int .i64 0, .int .i64 0]) ?_ 3 _ rfl; (with_reducible repeat (first | refine blk_drewN ?_ _ | refine blk_drew ?_ | refine blk_alloc ?_ _)); refine blk_put (cs := #[.int .i64 t290, .bool t291, .int .i64 0, .int .i64 0, .int .i64 0, .int .i64 0]) ?_ 2 _ rfl; (with_reducible repeat (first | refine blk_drewN ?_ _ | refine blk_drew ?_ | refine blk_alloc ?_ _)); refine blk_put (cs := #[.int .i64 t290, .bool false, .int .i64 0, .int .i64 0, .int .i64 0, .int .i64 0]) ?_ 1 _ rfl; (with_reducible repeat (first | refine blk_drewN ?_ _ | refine blk_drew ?_ | refine blk_alloc ?_ _)); refine blk_put (cs := #[.int .i64 0, .bool false, .int .i64 0, .int .i64 0, .int .i64 0, .int .i64 0]) ?_ 0 _ rfl; (with_reducible repeat (first | refine blk_drewN ?_ _ | refine blk_drew ?_ | refine blk_alloc ?_ _)); exact BK296.out⟩, ⟨by repeat (first | (with_reducible first | exact HB.out | apply below_alloc | apply pw_below_drewN | apply below_drew1 | refine below_set ?_ GE283.out | refine below_set ?_ GE296.out) | exact HB.out)⟩⟩
 case round =>
  clear H'
  try clear c1
  try clear p2
  try clear c4
  try clear c8
  try clear c9
  try clear c10
  try clear hcz11_0
  try clear hcz11_1
  try clear hcz11_2
  try clear hcz11_3
  try clear hcz11_4
  try clear hcz11_5
  try clear hcz6_0
  try clear hcz6_1
  try clear hcz6_2
  try clear hcz6_3
  try clear hcz6_4
  try clear hcz6_5
  try clear hfz11_0
  try clear hfz11_1
  try clear hfz11_2
  try clear hfz11_3
  try clear hfz11_4
  try clear hfz11_5
  try clear hfz6_0
  try clear hfz6_1
  try clear hfz6_2
  try clear hfz6_3
  try clear hfz6_4
  try clear hfz6_5
  obtain ⟨x6_1, x7_1, x297000_1, x297001_1, x297002_1, x297003_1, x297004_1, x297005_1, rfl, rfl, HA, HK1, BK283, BK296, HB⟩ := hrel
  cases gk with
  | zero => exact absurd HA.out (by simp [avermentlaw12_FactWidens.l0])
  | succ k1 =>
   have H := HA.out
   clear HA
   simp only [avermentlaw12_FactWidens.l0] at H
   have HC12 := Aside0.mk H
   clear H
   go_upto_region 4 with (fail)
   go_cut [20] (fun v20 wc => ∃ (kq : Nat) (x20_11 : Bool), v20 = .bool x20_11 ∧ Aside0 (avermentlaw12_FactWidens.j1 kq l1 x6_1 x7_1 x20_11 x297000_1 x297001_1 x297002_1 x297003_1 x297004_1 x297005_1 = some r) ∧ Aside0 (kq ≤ k1) ∧ Aside0 (wc.heap[gb283]? = some (.cells #[.int .i64 a0_0, .bool a0_1, .int .i64 a0_2, .int .i64 a0_3, .int .i64 a0_4, .int .i64 a0_5] 27 (0, 0))) ∧ Aside0 (wc.heap[gb296]? = some (.cells #[.int .i64 x297000_1, .bool x297001_1, .int .i64 x297002_1, .int .i64 x297003_1, .int .i64 x297004_1, .int .i64 x297005_1] 31 (0, 0))) ∧ Aside0 (Below w.heap.size w wc))
   case first =>
    have H := HC12.out
    clear HC12
    by_cases c13 : x7_1 < (l1.length : Int)
    ·
     rw [if_pos c13] at H
     have c13b0 : decide (x7_1 < (l1.length : Int)) = true := decide_eq_true c13
     clear c13
     (first | rw [c13b0] | (simp only [i64_w, i32_w]; rw [c13b0]) | skip)
     have H' := Aside0.mk H
     clear H
     go_wp2
     go_meet
     case rel => exact ⟨_, (decide (x7_1 < 60)), (by first | rfl | (simp; done) | (simp [*]; done)), H', ⟨by have := HK1.out; first | omega | exact Nat.le_refl _⟩, ⟨by (with_reducible repeat (first | refine blk_drewN ?_ _ | refine blk_drew ?_ | refine blk_alloc ?_ _)); exact BK283.out⟩, ⟨by (with_reducible repeat (first | refine blk_drewN ?_ _ | refine blk_drew ?_ | refine blk_alloc ?_ _)); exact BK296.out⟩, ⟨by repeat (first | (with_reducible first | exact HB.out | apply below_alloc | apply pw_below_drewN | apply below_drew1 | refine below_set ?_ GE283.out | refine below_set ?_ GE296.out) | exact HB.out)⟩⟩
    ·
     rw [if_neg c13] at H
     have c13b0 : decide (x7_1 < (l1.length : Int)) = false := decide_eq_false c13
     clear c13
     (first | rw [c13b0] | (simp only [i64_w, i32_w]; rw [c13b0]) | skip)
     have H' := Aside0.mk H
     clear H
     go_wp2
     go_meet
     case rel => exact ⟨_, (false), (by first | rfl | (simp; done) | (simp [*]; done)), H', ⟨by have := HK1.out; first | omega | exact Nat.le_refl _⟩, ⟨by (with_reducible repeat (first | refine blk_drewN ?_ _ | refine blk_drew ?_ | refine blk_alloc ?_ _)); exact BK283.out⟩, ⟨by (with_reducible repeat (first | refine blk_drewN ?_ _ | refine blk_drew ?_ | refine blk_alloc ?_ _)); exact BK296.out⟩, ⟨by repeat (first | (with_reducible first | exact HB.out | apply below_alloc | apply pw_below_drewN | apply below_drew1 | refine below_set ?_ GE283.out | refine below_set ?_ GE296.out) | exact HB.out)⟩⟩
   case rest =>
    clear HC12
    try clear c1
    try clear p2
    try clear c4
    try clear c8
    try clear c9
    try clear c10
    try clear c13
    try clear c13b0
    try clear hcz11_0
    try clear hcz11_1
    try clear hcz11_2
    try clear hcz11_3
    try clear hcz11_4
    try clear hcz11_5
    try clear hcz6_0
    try clear hcz6_1
    try clear hcz6_2
    try clear hcz6_3
    try clear hcz6_4
    try clear hcz6_5
    try clear hfz11_0
    try clear hfz11_1
    try clear hfz11_2
    try clear hfz11_3
    try clear hfz11_4
    try clear hfz11_5
    try clear hfz6_0
    try clear hfz6_1
    try clear hfz6_2
    try clear hfz6_3
    try clear hfz6_4
    try clear hfz6_5
    try clear p2
    obtain ⟨kq, x20_11, rfl, HA, HJ11, BK283, BK296, HB⟩ := hcut
    cases kq with
    | zero => exact absurd HA.out (by simp [avermentlaw12_FactWidens.j1])
    | succ kj11 =>
     have H := HA.out
     clear HA
     simp only [avermentlaw12_FactWidens.j1] at H
     by_cases c14 : x20_11 = true
     ·
      subst c14
      rw [if_pos rfl] at H
      by_cases c15 : 0 ≤ x7_1
      ·
       rw [if_pos c15] at H
       have c15b0 : decide (0 ≤ x7_1) = true := decide_eq_true c15
       clear c15
       by_cases c16 : x7_1 < (l1.length : Int)
       ·
        rw [if_pos c16] at H
        have c16b0 : decide (x7_1 < (l1.length : Int)) = true := decide_eq_true c16
        clear c16
        replace H := Option.bind_eq_some_iff.mp H
        obtain ⟨⟨t299, t300, t301, t302, t303, t304⟩, A170, H⟩ := H
        (try dsimp only at H)
        have A17 := Aside0.mk A170
        clear A170
        replace H := Option.bind_eq_some_iff.mp H
        obtain ⟨⟨t305, t306, t307, t308, t309, t310⟩, A180, H⟩ := H
        (try dsimp only at H)
        have A18 := Aside0.mk A180
        clear A180
        replace H := Option.bind_eq_some_iff.mp H
        obtain ⟨⟨t312, t313, t314, t315, t316, t317⟩, A190, H⟩ := H
        (try dsimp only at H)
        have A19 := Aside0.mk A190
        clear A190
        have HC20 := Aside0.mk H
        clear H
        have p298 : 0 ≤ (x7_1 : Int) := of_decide_eq_true (by first | (with_reducible assumption) | assumption)
        have q298 : x7_1 < (l1.length : Int) := of_decide_eq_true (by first | (with_reducible assumption) | assumption)
        obtain ⟨ad298, e298, hx298_0, hx298_1, hx298_2, hx298_3, hx298_4, hx298_5⟩ := at_T27 HR1.out x7_1 p298 q298
        cases e298
        replace hx298_0 := (HB.out.cell (World.block_lt_of_cell? w _ hx298_0)).trans hx298_0
        replace hx298_1 := (HB.out.cell (World.block_lt_of_cell? w _ hx298_1)).trans hx298_1
        replace hx298_2 := (HB.out.cell (World.block_lt_of_cell? w _ hx298_2)).trans hx298_2
        replace hx298_3 := (HB.out.cell (World.block_lt_of_cell? w _ hx298_3)).trans hx298_3
        replace hx298_4 := (HB.out.cell (World.block_lt_of_cell? w _ hx298_4)).trans hx298_4
        replace hx298_5 := (HB.out.cell (World.block_lt_of_cell? w _ hx298_5)).trans hx298_5
        replace p298 := eq_true p298
        replace q298 := eq_true q298
        go_upto_region 8 with (first | ((with_reducible refine gate_callee (f := 9) rfl ?_); refine goesL_ (some 27) rfl rfl Try.func9 (by kernel_rfl) rfl #[.agg #[.int .i64 ((rd_T27 l1 x7_1).f0), .bool ((rd_T27 l1 x7_1).f1.f0), .int .i64 ((rd_T27 l1 x7_1).f1.f1), .int .i64 ((rd_T27 l1 x7_1).f2.f0), .int .i64 ((rd_T27 l1 x7_1).f2.f1), .int .i64 ((rd_T27 l1 x7_1).f3)]] rfl (mapq rfl) ?_; (with_reducible refine (avermentref12_Fix.calls kj11 ((rd_T27 l1 x7_1).f0) ((rd_T27 l1 x7_1).f1.f0) ((rd_T27 l1 x7_1).f1.f1) ((rd_T27 l1 x7_1).f2.f0) ((rd_T27 l1 x7_1).f2.f1) ((rd_T27 l1 x7_1).f3) t299 t300 t301 t302 t303 t304 _ A17.out).mono ?_); rintro e w21 ⟨rfl, hb⟩; refine ⟨_, rfl, ?_⟩; replace BK283 := bb BK283 hb rfl; replace BK296 := bb BK296 hb rfl; replace HB := hst HB hb rfl; (try clear hb)) | ((with_reducible refine gate_callee (f := 8) rfl ?_); refine goesL_ (some 28) rfl rfl Try.func8 (by kernel_rfl) rfl #[.agg #[.int .i64 t299, .bool t300, .int .i64 t301, .int .i64 t302, .int .i64 t303, .int .i64 t304]] rfl (mapq rfl) ?_; (with_reducible refine (avermentlaw12_To.calls t299 t300 t301 t302 t303 t304 t305 t306 t307 t308 t309 t310 _ A18.out).mono ?_); rintro e w22 ⟨rfl, hb⟩; refine ⟨_, rfl, ?_⟩; replace BK283 := bb BK283 hb rfl; replace BK296 := bb BK296 hb rfl; replace HB := hst HB hb rfl; (try clear hb)) | ((with_reducible refine gate_dst (N := 8) rfl ?_); refine box_event ?hg (N := 8) ?hd (cs := #[.int .i64 0, .bool false, .int .i64 0, .int .i64 0, .int .i64 0, .int .i64 0]) (t := 31) ?hr ?_; (case hd => rfl); (case hg => rfl); (case hr => first | (go_simp; done) | (go_simp; rfl)); intro gb311 hg w23 hbox hb; have BK311 := Aside0.mk (hbox); have GW311 := geb hg HB rfl; have GE311 := geb hg HB rfl; have NB283_311 := nbl hg BK283 rfl; have NB311_283 := nbr hg BK283 rfl; have NB296_311 := nbl hg BK296 rfl; have NB311_296 := nbr hg BK296 rfl; replace BK283 := bb BK283 hb rfl; replace BK296 := bb BK296 hb rfl; replace HB := hst HB hb rfl; clear hb hbox hg; have hnb24 := NB311_283.out; have hnc24 := NB283_311.out; have hnb25 := NB311_296.out; have hnc25 := NB296_311.out; have hcz26_0 : w23.cell? ⟨gb311, 0, none⟩ = some (.int .i64 0) := (blk_cell BK311.out 0).trans rfl; have hcz26_1 : w23.cell? ⟨gb311, 1, none⟩ = some (.bool false) := (blk_cell BK311.out 1).trans rfl; have hcz26_2 : w23.cell? ⟨gb311, 2, none⟩ = some (.int .i64 0) := (blk_cell BK311.out 2).trans rfl; have hcz26_3 : w23.cell? ⟨gb311, 3, none⟩ = some (.int .i64 0) := (blk_cell BK311.out 3).trans rfl; have hcz26_4 : w23.cell? ⟨gb311, 4, none⟩ = some (.int .i64 0) := (blk_cell BK311.out 4).trans rfl; have hcz26_5 : w23.cell? ⟨gb311, 5, none⟩ = some (.int .i64 0) := (blk_cell BK311.out 5).trans rfl; have hfz26_0 := blk_frozen BK311.out 0; have hfz26_1 := blk_frozen BK311.out 1; have hfz26_2 := blk_frozen BK311.out 2; have hfz26_3 := blk_frozen BK311.out 3; have hfz26_4 := blk_frozen BK311.out 4; have hfz26_5 := blk_frozen BK311.out 5; have hnb27 := NB296_283.out; have hnc27 := NB283_296.out; have hcz28_0 : w23.cell? ⟨gb296, 0, none⟩ = some (.int .i64 x297000_1) := (blk_cell BK296.out 0).trans rfl; have hcz28_1 : w23.cell? ⟨gb296, 1, none⟩ = some (.bool x297001_1) := (blk_cell BK296.out 1).trans rfl; have hcz28_2 : w23.cell? ⟨gb296, 2, none⟩ = some (.int .i64 x297002_1) := (blk_cell BK296.out 2).trans rfl; have hcz28_3 : w23.cell? ⟨gb296, 3, none⟩ = some (.int .i64 x297003_1) := (blk_cell BK296.out 3).trans rfl; have hcz28_4 : w23.cell? ⟨gb296, 4, none⟩ = some (.int .i64 x297004_1) := (blk_cell BK296.out 4).trans rfl; have hcz28_5 : w23.cell? ⟨gb296, 5, none⟩ = some (.int .i64 x297005_1) := (blk_cell BK296.out 5).trans rfl; have hfz28_0 := blk_frozen BK296.out 0; have hfz28_1 := blk_frozen BK296.out 1; have hfz28_2 := blk_frozen BK296.out 2; have hfz28_3 := blk_frozen BK296.out 3; have hfz28_4 := blk_frozen BK296.out 4; have hfz28_5 := blk_frozen BK296.out 5) | ((with_reducible refine gate_callee (f := 14) rfl ?_); refine goesL_ (some 31) rfl rfl Try.func14 (by kernel_rfl) rfl #[.agg #[.int .i64 x297000_1, .bool x297001_1, .int .i64 x297002_1, .int .i64 x297003_1, .int .i64 x297004_1, .int .i64 x297005_1], .agg #[.int .i64 t305, .bool t306, .int .i64 t307, .int .i64 t308, .int .i64 t309, .int .i64 t310]] rfl (mapq rfl) ?_; (with_reducible refine (fact_Widen.calls x297000_1 x297001_1 x297002_1 x297003_1 x297004_1 x297005_1 t305 t306 t307 t308 t309 t310 t312 t313 t314 t315 t316 t317 _ A19.out).mono ?_); rintro e w29 ⟨rfl, hb⟩; refine ⟨_, rfl, ?_⟩; replace BK283 := Aside0.mk (blk_below (g := gb283) (o := .cells #[.int .i64 a0_0, .bool a0_1, .int .i64 a0_2, .int .i64 a0_3, .int .i64 a0_4, .int .i64 a0_5] 27 (0, 0)) (by (with_reducible repeat (first | refine blk_drewN ?_ _ | refine blk_drew ?_ | refine blk_alloc ?_ _)); refine blk_far ?_ NB283_311.out _; (with_reducible repeat (first | refine blk_drewN ?_ _ | refine blk_drew ?_ | refine blk_alloc ?_ _)); refine blk_far ?_ NB283_311.out _; (with_reducible repeat (first | refine blk_drewN ?_ _ | refine blk_drew ?_ | refine blk_alloc ?_ _)); refine blk_far ?_ NB283_311.out _; (with_reducible repeat (first | refine blk_drewN ?_ _ | refine blk_drew ?_ | refine blk_alloc ?_ _)); refine blk_far ?_ NB283_311.out _; (with_reducible repeat (first | refine blk_drewN ?_ _ | refine blk_drew ?_ | refine blk_alloc ?_ _)); refine blk_far ?_ NB283_311.out _; (with_reducible repeat (first | refine blk_drewN ?_ _ | refine blk_drew ?_ | refine blk_alloc ?_ _)); refine blk_far ?_ NB283_311.out _; (with_reducible repeat (first | refine blk_drewN ?_ _ | refine blk_drew ?_ | refine blk_alloc ?_ _)); exact BK283.out) hb); replace BK296 := Aside0.mk (blk_below (g := gb296) (o := .cells #[.int .i64 x297000_1, .bool x297001_1, .int .i64 x297002_1, .int .i64 x297003_1, .int .i64 x297004_1, .int .i64 x297005_1] 31 (0, 0)) (by (with_reducible repeat (first | refine blk_drewN ?_ _ | refine blk_drew ?_ | refine blk_alloc ?_ _)); refine blk_far ?_ NB296_311.out _; (with_reducible repeat (first | refine blk_drewN ?_ _ | refine blk_drew ?_ | refine blk_alloc ?_ _)); refine blk_far ?_ NB296_311.out _; (with_reducible repeat (first | refine blk_drewN ?_ _ | refine blk_drew ?_ | refine blk_alloc ?_ _)); refine blk_far ?_ NB296_311.out _; (with_reducible repeat (first | refine blk_drewN ?_ _ | refine blk_drew ?_ | refine blk_alloc ?_ _)); refine blk_far ?_ NB296_311.out _; (with_reducible repeat (first | refine blk_drewN ?_ _ | refine blk_drew ?_ | refine blk_alloc ?_ _)); refine blk_far ?_ NB296_311.out _; (with_reducible repeat (first | refine blk_drewN ?_ _ | refine blk_drew ?_ | refine blk_alloc ?_ _)); refine blk_far ?_ NB296_311.out _; (with_reducible repeat (first | refine blk_drewN ?_ _ | refine blk_drew ?_ | refine blk_alloc ?_ _)); exact BK296.out) hb); replace BK311 := Aside0.mk (blk_below (g := gb311) (o := .cells #[.int .i64 t305, .bool t306, .int .i64 t307, .int .i64 t308, .int .i64 t309, .int .i64 t310] 31 (0, 0)) (by (with_reducible repeat (first | refine blk_drewN ?_ _ | refine blk_drew ?_ | refine blk_alloc ?_ _)); refine blk_put (cs := #[.int .i64 t305, .bool t306, .int .i64 t307, .int .i64 t308, .int .i64 t309, .int .i64 0]) ?_ 5 _ rfl; (with_reducible repeat (first | refine blk_drewN ?_ _ | refine blk_drew ?_ | refine blk_alloc ?_ _)); refine blk_put (cs := #[.int .i64 t305, .bool t306, .int .i64 t307, .int .i64 t308, .int .i64 0, .int .i64 0]) ?_ 4 _ rfl; (with_reducible repeat (first | refine blk_drewN ?_ _ | refine blk_drew ?_ | refine blk_alloc ?_ _)); refine blk_put (cs := #[.int .i64 t305, .bool t306, .int .i64 t307, .int .i64 0, .int .i64 0, .int .i64 0]) ?_ 3 _ rfl; (with_reducible repeat (first | refine blk_drewN ?_ _ | refine blk_drew ?_ | refine blk_alloc ?_ _)); refine blk_put (cs := #[.int .i64 t305, .bool t306, .int .i64 0, .int .i64 0, .int .i64 0, .int .i64 0]) ?_ 2 _ rfl; (with_reducible repeat (first | refine blk_drewN ?_ _ | refine blk_drew ?_ | refine blk_alloc ?_ _)); refine blk_put (cs := #[.int .i64 t305, .bool false, .int .i64 0, .int .i64 0, .int .i64 0, .int .i64 0]) ?_ 1 _ rfl; (with_reducible repeat (first | refine blk_drewN ?_ _ | refine blk_drew ?_ | refine blk_alloc ?_ _)); refine blk_put (cs := #[.int .i64 0, .bool false, .int .i64 0, .int .i64 0, .int .i64 0, .int .i64 0]) ?_ 0 _ rfl; (with_reducible repeat (first | refine blk_drewN ?_ _ | refine blk_drew ?_ | refine blk_alloc ?_ _)); exact BK311.out) hb); replace HB := Aside0.mk (below_step (by repeat (first | (with_reducible first | exact HB.out | apply below_alloc | apply pw_below_drewN | apply below_drew1 | refine below_set ?_ GE283.out | refine below_set ?_ GE296.out | refine below_set ?_ GE311.out) | exact HB.out)) hb); (try clear hb)) | ((with_reducible refine gate_dst (N := 9) rfl ?_); refine box_event ?hg (N := 9) ?hd (cs := #[.int .i64 0, .bool false, .int .i64 0, .int .i64 0, .int .i64 0, .int .i64 0]) (t := 31) ?hr ?_; (case hd => rfl); (case hg => rfl); (case hr => first | (go_simp; done) | (go_simp; rfl)); intro gb318 hg w30 hbox hb; have BK318 := Aside0.mk (hbox); have GW318 := geb hg HB rfl; have GE318 := geb hg HB rfl; have NB283_318 := nbl hg BK283 rfl; have NB318_283 := nbr hg BK283 rfl; have NB296_318 := nbl hg BK296 rfl; have NB318_296 := nbr hg BK296 rfl; have NB311_318 := nbl hg BK311 rfl; have NB318_311 := nbr hg BK311 rfl; replace BK283 := bb BK283 hb rfl; replace BK296 := bb BK296 hb rfl; replace BK311 := bb BK311 hb rfl; replace HB := hst HB hb rfl; clear hb hbox hg; have hnb31 := NB318_283.out; have hnc31 := NB283_318.out; have hnb32 := NB318_296.out; have hnc32 := NB296_318.out; have hnb33 := NB318_311.out; have hnc33 := NB311_318.out; have hcz34_0 : w30.cell? ⟨gb318, 0, none⟩ = some (.int .i64 0) := (blk_cell BK318.out 0).trans rfl; have hcz34_1 : w30.cell? ⟨gb318, 1, none⟩ = some (.bool false) := (blk_cell BK318.out 1).trans rfl; have hcz34_2 : w30.cell? ⟨gb318, 2, none⟩ = some (.int .i64 0) := (blk_cell BK318.out 2).trans rfl; have hcz34_3 : w30.cell? ⟨gb318, 3, none⟩ = some (.int .i64 0) := (blk_cell BK318.out 3).trans rfl; have hcz34_4 : w30.cell? ⟨gb318, 4, none⟩ = some (.int .i64 0) := (blk_cell BK318.out 4).trans rfl; have hcz34_5 : w30.cell? ⟨gb318, 5, none⟩ = some (.int .i64 0) := (blk_cell BK318.out 5).trans rfl; have hfz34_0 := blk_frozen BK318.out 0; have hfz34_1 := blk_frozen BK318.out 1; have hfz34_2 := blk_frozen BK318.out 2; have hfz34_3 := blk_frozen BK318.out 3; have hfz34_4 := blk_frozen BK318.out 4; have hfz34_5 := blk_frozen BK318.out 5))
        (try simp only [Act.put, List.setIfInBounds_toArray, List.set_cons_zero, List.set_cons_succ])
        go_cut [41] (fun v41 wc => ∃ (kq : Nat) (x41_19 : Bool), v41 = .bool x41_19 ∧ Aside0 (avermentlaw12_FactWidens.j2 kq l1 x6_1 x7_1 x41_19 x297000_1 x297001_1 x297002_1 x297003_1 x297004_1 x297005_1 t312 t313 t314 t315 t316 t317 = some r) ∧ Aside0 (kq ≤ kj11) ∧ Aside0 (wc.heap[gb283]? = some (.cells #[.int .i64 a0_0, .bool a0_1, .int .i64 a0_2, .int .i64 a0_3, .int .i64 a0_4, .int .i64 a0_5] 27 (0, 0))) ∧ Aside0 (wc.heap[gb296]? = some (.cells #[.int .i64 x297000_1, .bool x297001_1, .int .i64 x297002_1, .int .i64 x297003_1, .int .i64 x297004_1, .int .i64 x297005_1] 31 (0, 0))) ∧ Aside0 (wc.heap[gb311]? = some (.cells #[.int .i64 t305, .bool t306, .int .i64 t307, .int .i64 t308, .int .i64 t309, .int .i64 t310] 31 (0, 0))) ∧ Aside0 (wc.heap[gb318]? = some (.cells #[.int .i64 t312, .bool t313, .int .i64 t314, .int .i64 t315, .int .i64 t316, .int .i64 t317] 31 (0, 0))) ∧ Aside0 (Below w.heap.size w wc))
        case first =>
         have H := HC20.out
         clear HC20
         replace H := Option.bind_eq_some_iff.mp H
         obtain ⟨t319, A350, H⟩ := H
         (try dsimp only at H)
         have A35 := Aside0.mk A350
         clear A350
         by_cases c36 : t319 = true
         ·
          subst c36
          rw [if_pos rfl] at H
          replace H := Option.bind_eq_some_iff.mp H
          obtain ⟨t320, A370, H⟩ := H
          (try dsimp only at H)
          have A37 := Aside0.mk A370
          clear A370
          have H' := Aside0.mk H
          clear H
          have hnb38 := NB296_283.out
          have hnc38 := NB283_296.out
          have hnb39 := NB296_311.out
          have hnc39 := NB311_296.out
          have hnb40 := NB296_318.out
          have hnc40 := NB318_296.out
          have hcz41_0 : w30.cell? ⟨gb296, 0, none⟩ = some (.int .i64 x297000_1) := bc BK296 0 rfl
          have hcz41_1 : w30.cell? ⟨gb296, 1, none⟩ = some (.bool x297001_1) := bc BK296 1 rfl
          have hcz41_2 : w30.cell? ⟨gb296, 2, none⟩ = some (.int .i64 x297002_1) := bc BK296 2 rfl
          have hcz41_3 : w30.cell? ⟨gb296, 3, none⟩ = some (.int .i64 x297003_1) := bc BK296 3 rfl
          have hcz41_4 : w30.cell? ⟨gb296, 4, none⟩ = some (.int .i64 x297004_1) := bc BK296 4 rfl
          have hcz41_5 : w30.cell? ⟨gb296, 5, none⟩ = some (.int .i64 x297005_1) := bc BK296 5 rfl
          have hfz41_0 := blk_frozen BK296.out 0
          have hfz41_1 := blk_frozen BK296.out 1
          have hfz41_2 := blk_frozen BK296.out 2
          have hfz41_3 := blk_frozen BK296.out 3
          have hfz41_4 := blk_frozen BK296.out 4
          have hfz41_5 := blk_frozen BK296.out 5
          have hnb42 := NB318_283.out
          have hnc42 := NB283_318.out
          have hnb43 := NB318_311.out
          have hnc43 := NB311_318.out
          have hcz44_0 : w30.cell? ⟨gb318, 0, none⟩ = some (.int .i64 0) := bc BK318 0 rfl
          have hcz44_1 : w30.cell? ⟨gb318, 1, none⟩ = some (.bool false) := bc BK318 1 rfl
          have hcz44_2 : w30.cell? ⟨gb318, 2, none⟩ = some (.int .i64 0) := bc BK318 2 rfl
          have hcz44_3 : w30.cell? ⟨gb318, 3, none⟩ = some (.int .i64 0) := bc BK318 3 rfl
          have hcz44_4 : w30.cell? ⟨gb318, 4, none⟩ = some (.int .i64 0) := bc BK318 4 rfl
          have hcz44_5 : w30.cell? ⟨gb318, 5, none⟩ = some (.int .i64 0) := bc BK318 5 rfl
          have hfz44_0 := blk_frozen BK318.out 0
          have hfz44_1 := blk_frozen BK318.out 1
          have hfz44_2 := blk_frozen BK318.out 2
          have hfz44_3 := blk_frozen BK318.out 3
          have hfz44_4 := blk_frozen BK318.out 4
          have hfz44_5 := blk_frozen BK318.out 5
          go_wp2_with (first | ((with_reducible refine gate_callee (f := 12) rfl ?_); refine goesL_ (some 34) rfl rfl Try.func12 (by kernel_rfl) rfl #[.agg #[.int .i64 x297000_1, .bool x297001_1, .int .i64 x297002_1, .int .i64 x297003_1, .int .i64 x297004_1, .int .i64 x297005_1], .agg #[.int .i64 t312, .bool t313, .int .i64 t314, .int .i64 t315, .int .i64 t316, .int .i64 t317]] rfl (mapq rfl) ?_; (with_reducible refine (fact_Within.calls x297000_1 x297001_1 x297002_1 x297003_1 x297004_1 x297005_1 t312 t313 t314 t315 t316 t317 true _ A35.out).mono ?_); rintro e w45 ⟨rfl, hb⟩; refine ⟨_, rfl, ?_⟩; replace BK283 := Aside0.mk (blk_below (g := gb283) (o := .cells #[.int .i64 a0_0, .bool a0_1, .int .i64 a0_2, .int .i64 a0_3, .int .i64 a0_4, .int .i64 a0_5] 27 (0, 0)) (by (with_reducible repeat (first | refine blk_drewN ?_ _ | refine blk_drew ?_ | refine blk_alloc ?_ _)); refine blk_far ?_ NB283_318.out _; (with_reducible repeat (first | refine blk_drewN ?_ _ | refine blk_drew ?_ | refine blk_alloc ?_ _)); refine blk_far ?_ NB283_318.out _; (with_reducible repeat (first | refine blk_drewN ?_ _ | refine blk_drew ?_ | refine blk_alloc ?_ _)); refine blk_far ?_ NB283_318.out _; (with_reducible repeat (first | refine blk_drewN ?_ _ | refine blk_drew ?_ | refine blk_alloc ?_ _)); refine blk_far ?_ NB283_318.out _; (with_reducible repeat (first | refine blk_drewN ?_ _ | refine blk_drew ?_ | refine blk_alloc ?_ _)); refine blk_far ?_ NB283_318.out _; (with_reducible repeat (first | refine blk_drewN ?_ _ | refine blk_drew ?_ | refine blk_alloc ?_ _)); refine blk_far ?_ NB283_318.out _; (with_reducible repeat (first | refine blk_drewN ?_ _ | refine blk_drew ?_ | refine blk_alloc ?_ _)); exact BK283.out) hb); replace BK296 := Aside0.mk (blk_below (g := gb296) (o := .cells #[.int .i64 x297000_1, .bool x297001_1, .int .i64 x297002_1, .int .i64 x297003_1, .int .i64 x297004_1, .int .i64 x297005_1] 31 (0, 0)) (by (with_reducible repeat (first | refine blk_drewN ?_ _ | refine blk_drew ?_ | refine blk_alloc ?_ _)); refine blk_far ?_ NB296_318.out _; (with_reducible repeat (first | refine blk_drewN ?_ _ | refine blk_drew ?_ | refine blk_alloc ?_ _)); refine blk_far ?_ NB296_318.out _; (with_reducible repeat (first | refine blk_drewN ?_ _ | refine blk_drew ?_ | refine blk_alloc ?_ _)); refine blk_far ?_ NB296_318.out _; (with_reducible repeat (first | refine blk_drewN ?_ _ | refine blk_drew ?_ | refine blk_alloc ?_ _)); refine blk_far ?_ NB296_318.out _; (with_reducible repeat (first | refine blk_drewN ?_ _ | refine blk_drew ?_ | refine blk_alloc ?_ _)); refine blk_far ?_ NB296_318.out _; (with_reducible repeat (first | refine blk_drewN ?_ _ | refine blk_drew ?_ | refine blk_alloc ?_ _)); refine blk_far ?_ NB296_318.out _; (with_reducible repeat (first | refine blk_drewN ?_ _ | refine blk_drew ?_ | refine blk_alloc ?_ _)); exact BK296.out) hb); replace BK311 := Aside0.mk (blk_below (g := gb311) (o := .cells #[.int .i64 t305, .bool t306, .int .i64 t307, .int .i64 t308, .int .i64 t309, .int .i64 t310] 31 (0, 0)) (by (with_reducible repeat (first | refine blk_drewN ?_ _ | refine blk_drew ?_ | refine blk_alloc ?_ _)); refine blk_far ?_ NB311_318.out _; (with_reducible repeat (first | refine blk_drewN ?_ _ | refine blk_drew ?_ | refine blk_alloc ?_ _)); refine blk_far ?_ NB311_318.out _; (with_reducible repeat (first | refine blk_drewN ?_ _ | refine blk_drew ?_ | refine blk_alloc ?_ _)); refine blk_far ?_ NB311_318.out _; (with_reducible repeat (first | refine blk_drewN ?_ _ | refine blk_drew ?_ | refine blk_alloc ?_ _)); refine blk_far ?_ NB311_318.out _; (with_reducible repeat (first | refine blk_drewN ?_ _ | refine blk_drew ?_ | refine blk_alloc ?_ _)); refine blk_far ?_ NB311_318.out _; (with_reducible repeat (first | refine blk_drewN ?_ _ | refine blk_drew ?_ | refine blk_alloc ?_ _)); refine blk_far ?_ NB311_318.out _; (with_reducible repeat (first | refine blk_drewN ?_ _ | refine blk_drew ?_ | refine blk_alloc ?_ _)); exact BK311.out) hb); replace BK318 := Aside0.mk (blk_below (g := gb318) (o := .cells #[.int .i64 t312, .bool t313, .int .i64 t314, .int .i64 t315, .int .i64 t316, .int .i64 t317] 31 (0, 0)) (by (with_reducible repeat (first | refine blk_drewN ?_ _ | refine blk_drew ?_ | refine blk_alloc ?_ _)); refine blk_put (cs := #[.int .i64 t312, .bool t313, .int .i64 t314, .int .i64 t315, .int .i64 t316, .int .i64 0]) ?_ 5 _ rfl; (with_reducible repeat (first | refine blk_drewN ?_ _ | refine blk_drew ?_ | refine blk_alloc ?_ _)); refine blk_put (cs := #[.int .i64 t312, .bool t313, .int .i64 t314, .int .i64 t315, .int .i64 0, .int .i64 0]) ?_ 4 _ rfl; (with_reducible repeat (first | refine blk_drewN ?_ _ | refine blk_drew ?_ | refine blk_alloc ?_ _)); refine blk_put (cs := #[.int .i64 t312, .bool t313, .int .i64 t314, .int .i64 0, .int .i64 0, .int .i64 0]) ?_ 3 _ rfl; (with_reducible repeat (first | refine blk_drewN ?_ _ | refine blk_drew ?_ | refine blk_alloc ?_ _)); refine blk_put (cs := #[.int .i64 t312, .bool t313, .int .i64 0, .int .i64 0, .int .i64 0, .int .i64 0]) ?_ 2 _ rfl; (with_reducible repeat (first | refine blk_drewN ?_ _ | refine blk_drew ?_ | refine blk_alloc ?_ _)); refine blk_put (cs := #[.int .i64 t312, .bool false, .int .i64 0, .int .i64 0, .int .i64 0, .int .i64 0]) ?_ 1 _ rfl; (with_reducible repeat (first | refine blk_drewN ?_ _ | refine blk_drew ?_ | refine blk_alloc ?_ _)); refine blk_put (cs := #[.int .i64 0, .bool false, .int .i64 0, .int .i64 0, .int .i64 0, .int .i64 0]) ?_ 0 _ rfl; (with_reducible repeat (first | refine blk_drewN ?_ _ | refine blk_drew ?_ | refine blk_alloc ?_ _)); exact BK318.out) hb); replace HB := Aside0.mk (below_step (by repeat (first | (with_reducible first | exact HB.out | apply below_alloc | apply pw_below_drewN | apply below_drew1 | refine below_set ?_ GE283.out | refine below_set ?_ GE296.out | refine below_set ?_ GE311.out | refine below_set ?_ GE318.out) | exact HB.out)) hb); (try clear hb); have hnb46 := NB311_283.out; have hnc46 := NB283_311.out; have hcz47_0 : w45.cell? ⟨gb311, 0, none⟩ = some (.int .i64 t305) := (blk_cell BK311.out 0).trans rfl; have hcz47_1 : w45.cell? ⟨gb311, 1, none⟩ = some (.bool t306) := (blk_cell BK311.out 1).trans rfl; have hcz47_2 : w45.cell? ⟨gb311, 2, none⟩ = some (.int .i64 t307) := (blk_cell BK311.out 2).trans rfl; have hcz47_3 : w45.cell? ⟨gb311, 3, none⟩ = some (.int .i64 t308) := (blk_cell BK311.out 3).trans rfl; have hcz47_4 : w45.cell? ⟨gb311, 4, none⟩ = some (.int .i64 t309) := (blk_cell BK311.out 4).trans rfl; have hcz47_5 : w45.cell? ⟨gb311, 5, none⟩ = some (.int .i64 t310) := (blk_cell BK311.out 5).trans rfl; have hfz47_0 := blk_frozen BK311.out 0; have hfz47_1 := blk_frozen BK311.out 1; have hfz47_2 := blk_frozen BK311.out 2; have hfz47_3 := blk_frozen BK311.out 3; have hfz47_4 := blk_frozen BK311.out 4; have hfz47_5 := blk_frozen BK311.out 5; have hcz48_0 : w45.cell? ⟨gb318, 0, none⟩ = some (.int .i64 t312) := (blk_cell BK318.out 0).trans rfl; have hcz48_1 : w45.cell? ⟨gb318, 1, none⟩ = some (.bool t313) := (blk_cell BK318.out 1).trans rfl; have hcz48_2 : w45.cell? ⟨gb318, 2, none⟩ = some (.int .i64 t314) := (blk_cell BK318.out 2).trans rfl; have hcz48_3 : w45.cell? ⟨gb318, 3, none⟩ = some (.int .i64 t315) := (blk_cell BK318.out 3).trans rfl; have hcz48_4 : w45.cell? ⟨gb318, 4, none⟩ = some (.int .i64 t316) := (blk_cell BK318.out 4).trans rfl; have hcz48_5 : w45.cell? ⟨gb318, 5, none⟩ = some (.int .i64 t317) := (blk_cell BK318.out 5).trans rfl; have hfz48_0 := blk_frozen BK318.out 0; have hfz48_1 := blk_frozen BK318.out 1; have hfz48_2 := blk_frozen BK318.out 2; have hfz48_3 := blk_frozen BK318.out 3; have hfz48_4 := blk_frozen BK318.out 4; have hfz48_5 := blk_frozen BK318.out 5) | (go_at_call 12; (with_reducible refine (fact_Within.calls t305 t306 t307 t308 t309 t310 t312 t313 t314 t315 t316 t317 t320 _ A37.out).mono ?_); rintro e w49 ⟨rfl, hb⟩; replace BK283 := bb BK283 hb rfl; replace BK296 := bb BK296 hb rfl; replace BK311 := bb BK311 hb rfl; replace BK318 := bb BK318 hb rfl; replace HB := hst HB hb rfl; (try clear hb)))
          go_meet
          case rel => exact ⟨_, (!t320), (by first | rfl | (simp; done) | (simp [*]; done)), H', ⟨by have := HK1.out; have := HJ11.out; first | omega | exact Nat.le_refl _⟩, ⟨by (with_reducible repeat (first | refine blk_drewN ?_ _ | refine blk_drew ?_ | refine blk_alloc ?_ _)); exact BK283.out⟩, ⟨by (with_reducible repeat (first | refine blk_drewN ?_ _ | refine blk_drew ?_ | refine blk_alloc ?_ _)); exact BK296.out⟩, ⟨by (with_reducible repeat (first | refine blk_drewN ?_ _ | refine blk_drew ?_ | refine blk_alloc ?_ _)); exact BK311.out⟩, ⟨by (with_reducible repeat (first | refine blk_drewN ?_ _ | refine blk_drew ?_ | refine blk_alloc ?_ _)); exact BK318.out⟩, ⟨by repeat (first | (with_reducible first | exact HB.out | apply below_alloc | apply pw_below_drewN | apply below_drew1 | refine below_set ?_ GE283.out | refine below_set ?_ GE296.out | refine below_set ?_ GE311.out | refine below_set ?_ GE318.out) | exact HB.out)⟩⟩
         ·
          replace c36 := Bool.eq_false_iff.mpr c36
          subst c36
          rw [if_neg (show ¬ (false = true) by decide)] at H
          exact absurd (H.trans (congrArg some hr_.out)) (by generalize kj11 = kz_; cases kz_ <;> simp [avermentlaw12_FactWidens.j2])
        case rest =>
         clear HC20
         try clear c1
         try clear c2
         try clear p2
         try clear q2
         try clear hx2
         try clear c3
         try clear c4
         try clear c8
         try clear c9
         try clear c10
         try clear c12
         try clear c13
         try clear c13b0
         try clear c14
         try clear c15
         try clear c15b0
         try clear c16
         try clear c16b0
         try clear c24
         try clear c25
         try clear c27
         try clear p29
         try clear q29
         try clear hx29
         try clear c31
         try clear c32
         try clear c33
         try clear c36
         try clear c38
         try clear c39
         try clear c40
         try clear c42
         try clear c43
         try clear c46
         try clear hcz11_0
         try clear hcz11_1
         try clear hcz11_2
         try clear hcz11_3
         try clear hcz11_4
         try clear hcz11_5
         try clear hcz26_0
         try clear hcz26_1
         try clear hcz26_2
         try clear hcz26_3
         try clear hcz26_4
         try clear hcz26_5
         try clear hcz28_0
         try clear hcz28_1
         try clear hcz28_2
         try clear hcz28_3
         try clear hcz28_4
         try clear hcz28_5
         try clear hcz34_0
         try clear hcz34_1
         try clear hcz34_2
         try clear hcz34_3
         try clear hcz34_4
         try clear hcz34_5
         try clear hcz41_0
         try clear hcz41_1
         try clear hcz41_2
         try clear hcz41_3
         try clear hcz41_4
         try clear hcz41_5
         try clear hcz44_0
         try clear hcz44_1
         try clear hcz44_2
         try clear hcz44_3
         try clear hcz44_4
         try clear hcz44_5
         try clear hcz47_0
         try clear hcz47_1
         try clear hcz47_2
         try clear hcz47_3
         try clear hcz47_4
         try clear hcz47_5
         try clear hcz48_0
         try clear hcz48_1
         try clear hcz48_2
         try clear hcz48_3
         try clear hcz48_4
         try clear hcz48_5
         try clear hcz6_0
         try clear hcz6_1
         try clear hcz6_2
         try clear hcz6_3
         try clear hcz6_4
         try clear hcz6_5
         try clear hfz11_0
         try clear hfz11_1
         try clear hfz11_2
         try clear hfz11_3
         try clear hfz11_4
         try clear hfz11_5
         try clear hfz26_0
         try clear hfz26_1
         try clear hfz26_2
         try clear hfz26_3
         try clear hfz26_4
         try clear hfz26_5
         try clear hfz28_0
         try clear hfz28_1
         try clear hfz28_2
         try clear hfz28_3
         try clear hfz28_4
         try clear hfz28_5
         try clear hfz34_0
         try clear hfz34_1
         try clear hfz34_2
         try clear hfz34_3
         try clear hfz34_4
         try clear hfz34_5
         try clear hfz41_0
         try clear hfz41_1
         try clear hfz41_2
         try clear hfz41_3
         try clear hfz41_4
         try clear hfz41_5
         try clear hfz44_0
         try clear hfz44_1
         try clear hfz44_2
         try clear hfz44_3
         try clear hfz44_4
         try clear hfz44_5
         try clear hfz47_0
         try clear hfz47_1
         try clear hfz47_2
         try clear hfz47_3
         try clear hfz47_4
         try clear hfz47_5
         try clear hfz48_0
         try clear hfz48_1
         try clear hfz48_2
         try clear hfz48_3
         try clear hfz48_4
         try clear hfz48_5
         try clear hfz6_0
         try clear hfz6_1
         try clear hfz6_2
         try clear hfz6_3
         try clear hfz6_4
         try clear hfz6_5
         try clear hx298_0
         try clear hx298_1
         try clear hx298_2
         try clear hx298_3
         try clear hx298_4
         try clear hx298_5
         try clear p2
         try clear p298
         try clear q298
         obtain ⟨kq, x41_19, rfl, HA, HJ19, BK283, BK296, BK311, BK318, HB⟩ := hcut
         cases kq with
         | zero => exact absurd HA.out (by simp [avermentlaw12_FactWidens.j2])
         | succ kj19 =>
          have H := HA.out
          clear HA
          simp only [avermentlaw12_FactWidens.j2] at H
          by_cases c50 : x41_19 = true
          ·
           subst c50
           rw [if_pos rfl] at H
           exact absurd ((Option.some.inj H).trans hr_.out) (by decide)
          ·
           replace c50 := Bool.eq_false_iff.mpr c50
           subst c50
           rw [if_neg (show ¬ (false = true) by decide)] at H
           by_cases c51 : (!(t312 == x297000_1) || ((!(t313 == x297001_1) || (!(t314 == x297002_1))) || ((!(t315 == x297003_1) || (!(t316 == x297004_1))) || (!(t317 == x297005_1))))) = true
           ·
            rw [if_pos c51] at H
            have c51b0 : (!(t312 == x297000_1) || ((!(t313 == x297001_1) || (!(t314 == x297002_1))) || ((!(t315 == x297003_1) || (!(t316 == x297004_1))) || (!(t317 == x297005_1))))) = true := c51
            clear c51
            have H' := Aside0.mk H
            clear H
            have hnb52 := NB318_283.out
            have hnc52 := NB283_318.out
            have hnb53 := NB318_296.out
            have hnc53 := NB296_318.out
            have hnb54 := NB318_311.out
            have hnc54 := NB311_318.out
            have hcz55_0 : wc.cell? ⟨gb318, 0, none⟩ = some (.int .i64 t312) := bc BK318 0 rfl
            have hcz55_1 : wc.cell? ⟨gb318, 1, none⟩ = some (.bool t313) := bc BK318 1 rfl
            have hcz55_2 : wc.cell? ⟨gb318, 2, none⟩ = some (.int .i64 t314) := bc BK318 2 rfl
            have hcz55_3 : wc.cell? ⟨gb318, 3, none⟩ = some (.int .i64 t315) := bc BK318 3 rfl
            have hcz55_4 : wc.cell? ⟨gb318, 4, none⟩ = some (.int .i64 t316) := bc BK318 4 rfl
            have hcz55_5 : wc.cell? ⟨gb318, 5, none⟩ = some (.int .i64 t317) := bc BK318 5 rfl
            have hfz55_0 := blk_frozen BK318.out 0
            have hfz55_1 := blk_frozen BK318.out 1
            have hfz55_2 := blk_frozen BK318.out 2
            have hfz55_3 := blk_frozen BK318.out 3
            have hfz55_4 := blk_frozen BK318.out 4
            have hfz55_5 := blk_frozen BK318.out 5
            have hnb56 := NB296_283.out
            have hnc56 := NB283_296.out
            have hnb57 := NB296_311.out
            have hnc57 := NB311_296.out
            have hcz58_0 : wc.cell? ⟨gb296, 0, none⟩ = some (.int .i64 x297000_1) := bc BK296 0 rfl
            have hcz58_1 : wc.cell? ⟨gb296, 1, none⟩ = some (.bool x297001_1) := bc BK296 1 rfl
            have hcz58_2 : wc.cell? ⟨gb296, 2, none⟩ = some (.int .i64 x297002_1) := bc BK296 2 rfl
            have hcz58_3 : wc.cell? ⟨gb296, 3, none⟩ = some (.int .i64 x297003_1) := bc BK296 3 rfl
            have hcz58_4 : wc.cell? ⟨gb296, 4, none⟩ = some (.int .i64 x297004_1) := bc BK296 4 rfl
            have hcz58_5 : wc.cell? ⟨gb296, 5, none⟩ = some (.int .i64 x297005_1) := bc BK296 5 rfl
            have hfz58_0 := blk_frozen BK296.out 0
            have hfz58_1 := blk_frozen BK296.out 1
            have hfz58_2 := blk_frozen BK296.out 2
            have hfz58_3 := blk_frozen BK296.out 3
            have hfz58_4 := blk_frozen BK296.out 4
            have hfz58_5 := blk_frozen BK296.out 5
            go_wp2
            go_roundg kj19
            case measure => have := HK1.out; have := HJ11.out; have := HJ19.out; omega
            case rel => exact ⟨(wrap64 (x6_1 + 1)), (wrap64 (x7_1 + 1)), (t312), (t313), (t314), (t315), (t316), (t317), (by first | rfl | (simp; done) | (simp [*]; done)), (by first | rfl | (simp; done) | (simp [*]; done)), H', ⟨by have := HK1.out; have := HJ11.out; have := HJ19.out; omega⟩, ⟨by (with_reducible repeat (first | refine blk_drewN ?_ _ | refine blk_drew ?_ | refine blk_alloc ?_ _)); refine blk_far ?_ NB283_296.out _; (with_reducible repeat (first | refine blk_drewN ?_ _ | refine blk_drew ?_ | refine blk_alloc ?_ _)); refine blk_far ?_ NB283_296.out _; (with_reducible repeat (first | refine blk_drewN ?_ _ | refine blk_drew ?_ | refine blk_alloc ?_ _)); refine blk_far ?_ NB283_296.out _; (with_reducible repeat (first | refine blk_drewN ?_ _ | refine blk_drew ?_ | refine blk_alloc ?_ _)); refine blk_far ?_ NB283_296.out _; (with_reducible repeat (first | refine blk_drewN ?_ _ | refine blk_drew ?_ | refine blk_alloc ?_ _)); refine blk_far ?_ NB283_296.out _; (with_reducible repeat (first | refine blk_drewN ?_ _ | refine blk_drew ?_ | refine blk_alloc ?_ _)); refine blk_far ?_ NB283_296.out _; (with_reducible repeat (first | refine blk_drewN ?_ _ | refine blk_drew ?_ | refine blk_alloc ?_ _)); exact BK283.out⟩, ⟨by (with_reducible repeat (first | refine blk_drewN ?_ _ | refine blk_drew ?_ | refine blk_alloc ?_ _)); refine blk_put (cs := #[.int .i64 t312, .bool t313, .int .i64 t314, .int .i64 t315, .int .i64 t316, .int .i64 x297005_1]) ?_ 5 _ rfl; (with_reducible repeat (first | refine blk_drewN ?_ _ | refine blk_drew ?_ | refine blk_alloc ?_ _)); refine blk_put (cs := #[.int .i64 t312, .bool t313, .int .i64 t314, .int .i64 t315, .int .i64 x297004_1, .int .i64 x297005_1]) ?_ 4 _ rfl; (with_reducible repeat (first | refine blk_drewN ?_ _ | refine blk_drew ?_ | refine blk_alloc ?_ _)); refine blk_put (cs := #[.int .i64 t312, .bool t313, .int .i64 t314, .int .i64 x297003_1, .int .i64 x297004_1, .int .i64 x297005_1]) ?_ 3 _ rfl; (with_reducible repeat (first | refine blk_drewN ?_ _ | refine blk_drew ?_ | refine blk_alloc ?_ _)); refine blk_put (cs := #[.int .i64 t312, .bool t313, .int .i64 x297002_1, .int .i64 x297003_1, .int .i64 x297004_1, .int .i64 x297005_1]) ?_ 2 _ rfl; (with_reducible repeat (first | refine blk_drewN ?_ _ | refine blk_drew ?_ | refine blk_alloc ?_ _)); refine blk_put (cs := #[.int .i64 t312, .bool x297001_1, .int .i64 x297002_1, .int .i64 x297003_1, .int .i64 x297004_1, .int .i64 x297005_1]) ?_ 1 _ rfl; (with_reducible repeat (first | refine blk_drewN ?_ _ | refine blk_drew ?_ | refine blk_alloc ?_ _)); refine blk_put (cs := #[.int .i64 x297000_1, .bool x297001_1, .int .i64 x297002_1, .int .i64 x297003_1, .int .i64 x297004_1, .int .i64 x297005_1]) ?_ 0 _ rfl; (with_reducible repeat (first | refine blk_drewN ?_ _ | refine blk_drew ?_ | refine blk_alloc ?_ _)); exact BK296.out⟩, ⟨by repeat (first | (with_reducible first | exact HB.out | apply below_alloc | apply pw_below_drewN | apply below_drew1 | refine below_set ?_ GE283.out | refine below_set ?_ GE296.out | refine below_set ?_ GE311.out | refine below_set ?_ GE318.out) | exact HB.out)⟩⟩
           ·
            rw [if_neg c51] at H
            have c51b0 : (!(t312 == x297000_1) || ((!(t313 == x297001_1) || (!(t314 == x297002_1))) || ((!(t315 == x297003_1) || (!(t316 == x297004_1))) || (!(t317 == x297005_1))))) = false := by simpa using c51
            clear c51
            have H' := Aside0.mk H
            clear H
            have hnb59 := NB318_283.out
            have hnc59 := NB283_318.out
            have hnb60 := NB318_296.out
            have hnc60 := NB296_318.out
            have hnb61 := NB318_311.out
            have hnc61 := NB311_318.out
            have hcz62_0 : wc.cell? ⟨gb318, 0, none⟩ = some (.int .i64 t312) := bc BK318 0 rfl
            have hcz62_1 : wc.cell? ⟨gb318, 1, none⟩ = some (.bool t313) := bc BK318 1 rfl
            have hcz62_2 : wc.cell? ⟨gb318, 2, none⟩ = some (.int .i64 t314) := bc BK318 2 rfl
            have hcz62_3 : wc.cell? ⟨gb318, 3, none⟩ = some (.int .i64 t315) := bc BK318 3 rfl
            have hcz62_4 : wc.cell? ⟨gb318, 4, none⟩ = some (.int .i64 t316) := bc BK318 4 rfl
            have hcz62_5 : wc.cell? ⟨gb318, 5, none⟩ = some (.int .i64 t317) := bc BK318 5 rfl
            have hfz62_0 := blk_frozen BK318.out 0
            have hfz62_1 := blk_frozen BK318.out 1
            have hfz62_2 := blk_frozen BK318.out 2
            have hfz62_3 := blk_frozen BK318.out 3
            have hfz62_4 := blk_frozen BK318.out 4
            have hfz62_5 := blk_frozen BK318.out 5
            have hnb63 := NB296_283.out
            have hnc63 := NB283_296.out
            have hnb64 := NB296_311.out
            have hnc64 := NB311_296.out
            have hcz65_0 : wc.cell? ⟨gb296, 0, none⟩ = some (.int .i64 x297000_1) := bc BK296 0 rfl
            have hcz65_1 : wc.cell? ⟨gb296, 1, none⟩ = some (.bool x297001_1) := bc BK296 1 rfl
            have hcz65_2 : wc.cell? ⟨gb296, 2, none⟩ = some (.int .i64 x297002_1) := bc BK296 2 rfl
            have hcz65_3 : wc.cell? ⟨gb296, 3, none⟩ = some (.int .i64 x297003_1) := bc BK296 3 rfl
            have hcz65_4 : wc.cell? ⟨gb296, 4, none⟩ = some (.int .i64 x297004_1) := bc BK296 4 rfl
            have hcz65_5 : wc.cell? ⟨gb296, 5, none⟩ = some (.int .i64 x297005_1) := bc BK296 5 rfl
            have hfz65_0 := blk_frozen BK296.out 0
            have hfz65_1 := blk_frozen BK296.out 1
            have hfz65_2 := blk_frozen BK296.out 2
            have hfz65_3 := blk_frozen BK296.out 3
            have hfz65_4 := blk_frozen BK296.out 4
            have hfz65_5 := blk_frozen BK296.out 5
            go_wp2
            go_roundg kj19
            case measure => have := HK1.out; have := HJ11.out; have := HJ19.out; omega
            case rel => exact ⟨(x6_1), (wrap64 (x7_1 + 1)), (t312), (t313), (t314), (t315), (t316), (t317), (by first | rfl | (simp; done) | (simp [*]; done)), (by first | rfl | (simp; done) | (simp [*]; done)), H', ⟨by have := HK1.out; have := HJ11.out; have := HJ19.out; omega⟩, ⟨by (with_reducible repeat (first | refine blk_drewN ?_ _ | refine blk_drew ?_ | refine blk_alloc ?_ _)); refine blk_far ?_ NB283_296.out _; (with_reducible repeat (first | refine blk_drewN ?_ _ | refine blk_drew ?_ | refine blk_alloc ?_ _)); refine blk_far ?_ NB283_296.out _; (with_reducible repeat (first | refine blk_drewN ?_ _ | refine blk_drew ?_ | refine blk_alloc ?_ _)); refine blk_far ?_ NB283_296.out _; (with_reducible repeat (first | refine blk_drewN ?_ _ | refine blk_drew ?_ | refine blk_alloc ?_ _)); refine blk_far ?_ NB283_296.out _; (with_reducible repeat (first | refine blk_drewN ?_ _ | refine blk_drew ?_ | refine blk_alloc ?_ _)); refine blk_far ?_ NB283_296.out _; (with_reducible repeat (first | refine blk_drewN ?_ _ | refine blk_drew ?_ | refine blk_alloc ?_ _)); refine blk_far ?_ NB283_296.out _; (with_reducible repeat (first | refine blk_drewN ?_ _ | refine blk_drew ?_ | refine blk_alloc ?_ _)); exact BK283.out⟩, ⟨by (with_reducible repeat (first | refine blk_drewN ?_ _ | refine blk_drew ?_ | refine blk_alloc ?_ _)); refine blk_put (cs := #[.int .i64 t312, .bool t313, .int .i64 t314, .int .i64 t315, .int .i64 t316, .int .i64 x297005_1]) ?_ 5 _ rfl; (with_reducible repeat (first | refine blk_drewN ?_ _ | refine blk_drew ?_ | refine blk_alloc ?_ _)); refine blk_put (cs := #[.int .i64 t312, .bool t313, .int .i64 t314, .int .i64 t315, .int .i64 x297004_1, .int .i64 x297005_1]) ?_ 4 _ rfl; (with_reducible repeat (first | refine blk_drewN ?_ _ | refine blk_drew ?_ | refine blk_alloc ?_ _)); refine blk_put (cs := #[.int .i64 t312, .bool t313, .int .i64 t314, .int .i64 x297003_1, .int .i64 x297004_1, .int .i64 x297005_1]) ?_ 3 _ rfl; (with_reducible repeat (first | refine blk_drewN ?_ _ | refine blk_drew ?_ | refine blk_alloc ?_ _)); refine blk_put (cs := #[.int .i64 t312, .bool t313, .int .i64 x297002_1, .int .i64 x297003_1, .int .i64 x297004_1, .int .i64 x297005_1]) ?_ 2 _ rfl; (with_reducible repeat (first | refine blk_drewN ?_ _ | refine blk_drew ?_ | refine blk_alloc ?_ _)); refine blk_put (cs := #[.int .i64 t312, .bool x297001_1, .int .i64 x297002_1, .int .i64 x297003_1, .int .i64 x297004_1, .int .i64 x297005_1]) ?_ 1 _ rfl; (with_reducible repeat (first | refine blk_drewN ?_ _ | refine blk_drew ?_ | refine blk_alloc ?_ _)); refine blk_put (cs := #[.int .i64 x297000_1, .bool x297001_1, .int .i64 x297002_1, .int .i64 x297003_1, .int .i64 x297004_1, .int .i64 x297005_1]) ?_ 0 _ rfl; (with_reducible repeat (first | refine blk_drewN ?_ _ | refine blk_drew ?_ | refine blk_alloc ?_ _)); exact BK296.out⟩, ⟨by repeat (first | (with_reducible first | exact HB.out | apply below_alloc | apply pw_below_drewN | apply below_drew1 | refine below_set ?_ GE283.out | refine below_set ?_ GE296.out | refine below_set ?_ GE311.out | refine below_set ?_ GE318.out) | exact HB.out)⟩⟩
       ·
        rw [if_neg c16] at H
        exact absurd H (by simp)
      ·
       rw [if_neg c15] at H
       exact absurd H (by simp)
     ·
      replace c14 := Bool.eq_false_iff.mpr c14
      subst c14
      rw [if_neg (show ¬ (false = true) by decide)] at H
      replace H := Option.bind_eq_some_iff.mp H
      obtain ⟨t297, A660, H⟩ := H
      (try dsimp only at H)
      have A66 := Aside0.mk A660
      clear A660
      by_cases c67 : t297 = true
      ·
       subst c67
       rw [if_pos rfl] at H
       obtain rfl := Option.some.inj H
       go_wp2_with (first | ((with_reducible refine gate_callee (f := 11) rfl ?_); refine goesL_ (some 48) rfl rfl Try.func11 (by kernel_rfl) rfl #[] rfl (mapq rfl) ?_; (with_reducible refine (avermentlaw12_told.calls  true _ A66.out).mono ?_); rintro e w68 ⟨rfl, hb⟩; refine ⟨_, rfl, ?_⟩; replace BK283 := bb BK283 hb rfl; replace BK296 := bb BK296 hb rfl; replace HB := hst HB hb rfl; (try clear hb)))
       go_ret
       exact ⟨by first | rfl | (simp [*, errW_none, errW_some] <;> rfl), by repeat (first | (with_reducible first | exact HB.out | apply below_alloc | apply pw_below_drewN | apply below_drew1 | refine below_set ?_ GE283.out | refine below_set ?_ GE296.out) | exact HB.out)⟩
      ·
       replace c67 := Bool.eq_false_iff.mpr c67
       subst c67
       rw [if_neg (show ¬ (false = true) by decide)] at H
       exact absurd ((Option.some.inj H).trans hr_.out) (by decide)

end Go.Proofs.Ytcgjfkaipbhpkaa.FW
