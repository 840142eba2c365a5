-- Written by a program of this session: plain functions and their walks. Lean checks it.
import Derived.Test.YtpacmhhaabhdjaaSP0
import Derived.Test.YtpacmhhaabhdjaaSP2
import Derived.Test.YtpacmhhaabhdjaaSP3
import Derived.Test.YtpacmhhaabhdjaaSP8
import Derived.Test.YtpacmhhaabhdjaaSP10
namespace Go.Proofs.Ytpacmhhaabhdjaa.SP
open Go.RowKit Go.Proofs.YtpacmhhaabhdjaaW.PrintWords Go.Proofs.YtpacmhhaabhdjaaW.PrintLast Go.Proofs.YtpacmhhaabhdjaaW.PrintMore
attribute [local go_sem] max2_int min2_int max_two min_two max_three min_three max_four min_four   -- for this text's walks alone
set_option linter.unusedVariables false
set_option linter.unusedSimpArgs false

attribute [local go_sem high] eqA59
-- NOT PRINTED: function 12 (avermentlaw10_SpanRises)

/-! ### avermentlaw10_SpanWidens: function 9 -/
mutual
def avermentlaw10_SpanWidens.l0 : Nat → List (S56) → Int → Int → Int → Int → Option (Bool)
 | 0, _, _, _, _, _ => none
 | k + 1, x1, x6, x7, x721000, x721001 => if x7 < (x1.length : Int) then (avermentlaw10_SpanWidens.j1 k x1 x6 x7 (decide (x7 < 100)) x721000 x721001) else (avermentlaw10_SpanWidens.j1 k x1 x6 x7 false x721000 x721001)
def avermentlaw10_SpanWidens.j1 : Nat → List (S56) → Int → Int → Bool → Int → Int → Option (Bool)
 | 0, _, _, _, _, _, _ => none
 | k + 1, x1, x6, x7, x20, x721000, x721001 => if x20 = true then (if 0 ≤ x7 then (if x7 < (x1.length : Int) then ((avermentref10_Fix.f ((rd_T56 x1 x7).f0) ((rd_T56 x1 x7).f1)).bind fun bt723 => ((avermentlaw10_To.f bt723.1 bt723.2).bind fun bt725 => ((span_Widen.f x721000 x721001 bt725.1 bt725.2).bind fun bt728 => ((span_Within.f x721000 x721001 bt728.1 bt728.2).bind fun t731 => (if t731 = true then ((span_Within.f bt725.1 bt725.2 bt728.1 bt728.2).bind fun t732 => (avermentlaw10_SpanWidens.j2 k x1 x6 x7 (!t732) x721000 x721001 bt728.1 bt728.2)) else (avermentlaw10_SpanWidens.j2 k x1 x6 x7 true x721000 x721001 bt728.1 bt728.2)))))) else (none)) else (none)) else ((avermentlaw10_told.f k).bind fun t721 => (if t721 = true then (some (decide (x6 ≤ 2))) else (some false)))
def avermentlaw10_SpanWidens.j2 : Nat → List (S56) → Int → Int → Bool → Int → Int → Int → Int → Option (Bool)
 | 0, _, _, _, _, _, _, _, _ => none
 | k + 1, x1, x6, x7, x41, x721000, x721001, x731000, x731001 => if x41 = true then (some false) else (if (!(x731000 == x721000) || (!(x731001 == x721001))) = true then (avermentlaw10_SpanWidens.l0 k x1 (wrap64 (x6 + 1)) (wrap64 (x7 + 1)) x731000 x731001) else (avermentlaw10_SpanWidens.l0 k x1 x6 (wrap64 (x7 + 1)) x731000 x731001))
end
def avermentlaw10_SpanWidens.f (k : Nat) (a0_0 : Int) (a0_1 : Int) (l1 : List (S56)) : Option (Bool) := (avermentref10_Fix.f a0_0 a0_1).bind fun bt716 => ((avermentlaw10_To.f bt716.1 bt716.2).bind fun bt718 => (avermentlaw10_SpanWidens.l0 k l1 0 0 bt718.1 bt718.2))
theorem avermentlaw10_SpanWidens.mono_l : ∀ k, (∀ y0 y1 y2 y3 y4, LeO (avermentlaw10_SpanWidens.l0 k y0 y1 y2 y3 y4) (avermentlaw10_SpanWidens.l0 (k + 1) y0 y1 y2 y3 y4)) ∧ (∀ y0 y1 y2 y3 y4 y5, LeO (avermentlaw10_SpanWidens.j1 k y0 y1 y2 y3 y4 y5) (avermentlaw10_SpanWidens.j1 (k + 1) y0 y1 y2 y3 y4 y5)) ∧ (∀ y0 y1 y2 y3 y4 y5 y6 y7, LeO (avermentlaw10_SpanWidens.j2 k y0 y1 y2 y3 y4 y5 y6 y7) (avermentlaw10_SpanWidens.j2 (k + 1) y0 y1 y2 y3 y4 y5 y6 y7))
 | 0 => ⟨fun _ _ _ _ _ r h => by simp [avermentlaw10_SpanWidens.l0] at h, fun _ _ _ _ _ _ r h => by simp [avermentlaw10_SpanWidens.j1] at h, fun _ _ _ _ _ _ _ _ r h => by simp [avermentlaw10_SpanWidens.j2] at h⟩
 | k + 1 => by
  obtain ⟨ih0, ih1, ih2⟩ := avermentlaw10_SpanWidens.mono_l k
  refine ⟨?_, ?_, ?_⟩
  ·
   intro y0 y1 y2 y3 y4
   unfold avermentlaw10_SpanWidens.l0
   repeat' first
   | (with_reducible exact ih0 _ _ _ _ _)
   | (with_reducible exact ih1 _ _ _ _ _ _)
   | (with_reducible exact ih2 _ _ _ _ _ _ _ _)
   | (with_reducible exact avermentlaw10_told.mono _)
   | (with_reducible exact LeO.refl _)
   | (with_reducible exact LeO.none _)
   | (with_reducible refine LeO.ite ?_ ?_)
   | (with_reducible refine LeO.bind ?_ (fun _ => ?_))
   | exact ih0 _ _ _ _ _
   | exact ih1 _ _ _ _ _ _
   | exact ih2 _ _ _ _ _ _ _ _
   | exact avermentlaw10_told.mono _
   | exact LeO.none _
   | refine LeO.ite ?_ ?_
   | refine LeO.bind ?_ (fun _ => ?_)
  ·
   intro y0 y1 y2 y3 y4 y5
   unfold avermentlaw10_SpanWidens.j1
   repeat' first
   | (with_reducible exact ih0 _ _ _ _ _)
   | (with_reducible exact ih1 _ _ _ _ _ _)
   | (with_reducible exact ih2 _ _ _ _ _ _ _ _)
   | (with_reducible exact avermentlaw10_told.mono _)
   | (with_reducible exact LeO.refl _)
   | (with_reducible exact LeO.none _)
   | (with_reducible refine LeO.ite ?_ ?_)
   | (with_reducible refine LeO.bind ?_ (fun _ => ?_))
   | exact ih0 _ _ _ _ _
   | exact ih1 _ _ _ _ _ _
   | exact ih2 _ _ _ _ _ _ _ _
   | exact avermentlaw10_told.mono _
   | exact LeO.none _
   | refine LeO.ite ?_ ?_
   | refine LeO.bind ?_ (fun _ => ?_)
  ·
   intro y0 y1 y2 y3 y4 y5 y6 y7
   unfold avermentlaw10_SpanWidens.j2
   repeat' first
   | (with_reducible exact ih0 _ _ _ _ _)
   | (with_reducible exact ih1 _ _ _ _ _ _)
   | (with_reducible exact ih2 _ _ _ _ _ _ _ _)
   | (with_reducible exact avermentlaw10_told.mono _)
   | (with_reducible exact LeO.refl _)
   | (with_reducible exact LeO.none _)
   | (with_reducible refine LeO.ite ?_ ?_)
   | (with_reducible refine LeO.bind ?_ (fun _ => ?_))
   | exact ih0 _ _ _ _ _
   | exact ih1 _ _ _ _ _ _
   | exact ih2 _ _ _ _ _ _ _ _
   | exact avermentlaw10_told.mono _
   | exact LeO.none _
   | refine LeO.ite ?_ ?_
   | refine LeO.bind ?_ (fun _ => ?_)
theorem avermentlaw10_SpanWidens.mono : ∀ a0 a1 a2 k, LeO (avermentlaw10_SpanWidens.f k a0 a1 a2) (avermentlaw10_SpanWidens.f (k + 1) a0 a1 a2) := by
 intro a0 a1 a2 k
 obtain ⟨ih0, ih1, ih2⟩ := avermentlaw10_SpanWidens.mono_l k
 unfold avermentlaw10_SpanWidens.f
 repeat' first
   | (with_reducible exact ih0 _ _ _ _ _)
   | (with_reducible exact ih1 _ _ _ _ _ _)
   | (with_reducible exact ih2 _ _ _ _ _ _ _ _)
   | (with_reducible exact avermentlaw10_told.mono _)
   | (with_reducible exact LeO.refl _)
   | (with_reducible exact LeO.none _)
   | (with_reducible refine LeO.ite ?_ ?_)
   | (with_reducible refine LeO.bind ?_ (fun _ => ?_))
   | exact ih0 _ _ _ _ _
   | exact ih1 _ _ _ _ _ _
   | exact ih2 _ _ _ _ _ _ _ _
   | exact avermentlaw10_told.mono _
   | exact LeO.none _
   | refine LeO.ite ?_ ?_
   | refine LeO.bind ?_ (fun _ => ?_)
set_option maxHeartbeats 8000000 in
set_option maxRecDepth 100000 in
theorem avermentlaw10_SpanWidens.calls (k : Nat) (a0_0 : Int) (a0_1 : Int) (A1 : Option Addr) (c1 : Nat) (l1 : List (S56)) (r : Bool) (w : World) (hr_ : Aside0 (r = true)) (hr1 : Kd.C k56 w A1 l1.length l1) (hc1 : l1.length ≤ c1) (h : avermentlaw10_SpanWidens.f k a0_0 a0_1 l1 = some r) :
  Calls Try.prog 9 #[.agg #[.int .i64 a0_0, .int .i64 a0_1], .slice A1 l1.length c1] w fun e w' => e = .returned (.bool r) ∧ Below w.heap.size w w' := by
 have hu56 := Try.underlying56
 have hu59 := Try.underlying59
 have HR1 := Aside0.mk hr1
 have HC1 := Aside0.mk hc1
 clear hr1 hc1
 have HB := Aside0.mk (Below.refl w.heap.size w)
 have H : ((avermentref10_Fix.f a0_0 a0_1).bind fun bt716 => ((avermentlaw10_To.f bt716.1 bt716.2).bind fun bt718 => (avermentlaw10_SpanWidens.l0 k l1 0 0 bt718.1 bt718.2))) = some r := h
 clear h
 replace H := Option.bind_eq_some_iff.mp H
 obtain ⟨⟨t716, t717⟩, A30, H⟩ := H
 (try dsimp only at H)
 have A3 := Aside0.mk A30
 clear A30
 replace H := Option.bind_eq_some_iff.mp H
 obtain ⟨⟨t718, t719⟩, A40, H⟩ := H
 (try dsimp only at H)
 have A4 := Aside0.mk A40
 clear A40
 have H' := Aside0.mk H
 clear H
 go_enter Try.func9, Try.ntmps9
 go_wp2_with (first | ((with_reducible refine gate_dst (N := 2) rfl ?_); refine box_event ?hg (N := 2) ?hd (cs := #[.int .i64 a0_0, .int .i64 a0_1]) (t := 56) ?hr ?_; (case hd => rfl); (case hg => rfl); (case hr => first | (go_simp; done) | (go_simp; rfl)); intro gb715 hg w5 hbox hb; have BK715 := Aside0.mk (hbox); have GW715 := geb hg HB rfl; have GE715 := geb hg HB rfl; replace HB := hst HB hb rfl; clear hb hbox hg; have hcz6_0 : w5.cell? ⟨gb715, 0, none⟩ = some (.int .i64 a0_0) := (blk_cell BK715.out 0).trans rfl; have hcz6_1 : w5.cell? ⟨gb715, 1, none⟩ = some (.int .i64 a0_1) := (blk_cell BK715.out 1).trans rfl; have hfz6_0 := blk_frozen BK715.out 0; have hfz6_1 := blk_frozen BK715.out 1) | ((with_reducible refine gate_callee (f := 35) rfl ?_); refine goesL_ (some 11) rfl rfl Try.func35 (by kernel_rfl) rfl #[.agg #[.int .i64 a0_0, .int .i64 a0_1]] rfl (mapq rfl) ?_; (with_reducible refine (avermentref10_Fix.calls a0_0 a0_1 t716 t717 _ A3.out).mono ?_); rintro e w7 ⟨rfl, hb⟩; refine ⟨_, rfl, ?_⟩; replace BK715 := bb BK715 hb rfl; replace HB := hst HB hb rfl; (try clear hb)) | ((with_reducible refine gate_callee (f := 37) rfl ?_); refine goesL_ (some 12) rfl rfl Try.func37 (by kernel_rfl) rfl #[.agg #[.int .i64 t716, .int .i64 t717]] rfl (mapq rfl) ?_; (with_reducible refine (avermentlaw10_To.calls t716 t717 t718 t719 _ A4.out).mono ?_); rintro e w8 ⟨rfl, hb⟩; refine ⟨_, rfl, ?_⟩; replace BK715 := bb BK715 hb rfl; replace HB := hst HB hb rfl; (try clear hb)) | ((with_reducible refine gate_dst (N := 5) rfl ?_); refine box_event ?hg (N := 5) ?hd (cs := #[.int .i64 0, .int .i64 0]) (t := 59) ?hr ?_; (case hd => rfl); (case hg => rfl); (case hr => first | (go_simp; done) | (go_simp; rfl)); intro gb720 hg w9 hbox hb; have BK720 := Aside0.mk (hbox); have GW720 := geb hg HB rfl; have GE720 := geb hg HB rfl; have NB715_720 := nbl hg BK715 rfl; have NB720_715 := nbr hg BK715 rfl; replace BK715 := bb BK715 hb rfl; replace HB := hst HB hb rfl; clear hb hbox hg; have hnb10 := NB720_715.out; have hnc10 := NB715_720.out; have hcz11_0 : w9.cell? ⟨gb720, 0, none⟩ = some (.int .i64 0) := (blk_cell BK720.out 0).trans rfl; have hcz11_1 : w9.cell? ⟨gb720, 1, none⟩ = some (.int .i64 0) := (blk_cell BK720.out 1).trans rfl; have hfz11_0 := blk_frozen BK720.out 0; have hfz11_1 := blk_frozen BK720.out 1))
 go_loopg [6, 7] k (fun kq v6 v7 w' => ∃ (x6_1 : Int) (x7_1 : Int) (x721000_1 : Int) (x721001_1 : Int), v6 = .int .i64 x6_1 ∧ v7 = .int .i64 x7_1 ∧ Aside0 (avermentlaw10_SpanWidens.l0 kq l1 x6_1 x7_1 x721000_1 x721001_1 = some r) ∧ Aside0 (kq ≤ k) ∧ Aside0 (w'.heap[gb715]? = some (.cells #[.int .i64 a0_0, .int .i64 a0_1] 56 (0, 0))) ∧ Aside0 (w'.heap[gb720]? = some (.cells #[.int .i64 x721000_1, .int .i64 x721001_1] 59 (0, 0))) ∧ Aside0 (Below w.heap.size w w'))
 case atStart => exact ⟨(0), (0), (t718), (t719), (by first | rfl | (simp; done) | (simp [*]; done)), (by first | rfl | (simp; done) | (simp [*]; done)), H', ⟨Nat.le_refl _⟩, ⟨by (with_reducible repeat (first | refine blk_drewN ?_ _ | refine blk_drew ?_ | refine blk_alloc ?_ _)); refine blk_far ?_ NB715_720.out _; (with_reducible repeat (first | refine blk_drewN ?_ _ | refine blk_drew ?_ | refine blk_alloc ?_ _)); refine blk_far ?_ NB715_720.out _; (with_reducible repeat (first | refine blk_drewN ?_ _ | refine blk_drew ?_ | refine blk_alloc ?_ _)); exact BK715.out⟩, ⟨by (with_reducible repeat (first | refine blk_drewN ?_ _ | refine blk_drew ?_ | refine blk_alloc ?_ _)); refine blk_put (cs := #[.int .i64 t718, .int .i64 0]) ?_ 1 _ rfl; (with_reducible repeat (first | refine blk_drewN ?_ _ | refine blk_drew ?_ | refine blk_alloc ?_ _)); refine blk_put (cs := #[.int .i64 0, .int .i64 0]) ?_ 0 _ rfl; (with_reducible repeat (first | refine blk_drewN ?_ _ | refine blk_drew ?_ | refine blk_alloc ?_ _)); exact BK720.out⟩, ⟨by repeat (first | (with_reducible first | exact HB.out | apply below_alloc | apply pw_below_drewN | apply below_drew1 | refine below_set ?_ GE715.out | refine below_set ?_ GE720.out) | exact HB.out)⟩⟩
 case round =>
  clear H'
  try clear c1
  try clear p2
  try clear c3
  try clear c9
  try clear c10
  try clear hcz11_0
  try clear hcz11_1
  try clear hcz6_0
  try clear hcz6_1
  try clear hfz11_0
  try clear hfz11_1
  try clear hfz6_0
  try clear hfz6_1
  obtain ⟨x6_1, x7_1, x721000_1, x721001_1, rfl, rfl, HA, HK1, BK715, BK720, HB⟩ := hrel
  cases gk with
  | zero => exact absurd HA.out (by simp [avermentlaw10_SpanWidens.l0])
  | succ k1 =>
   have H := HA.out
   clear HA
   simp only [avermentlaw10_SpanWidens.l0] at H
   have HC12 := Aside0.mk H
   clear H
   go_upto_region 4 with (fail)
   go_cut [20] (fun v20 wc => ∃ (kq : Nat) (x20_11 : Bool), v20 = .bool x20_11 ∧ Aside0 (avermentlaw10_SpanWidens.j1 kq l1 x6_1 x7_1 x20_11 x721000_1 x721001_1 = some r) ∧ Aside0 (kq ≤ k1) ∧ Aside0 (wc.heap[gb715]? = some (.cells #[.int .i64 a0_0, .int .i64 a0_1] 56 (0, 0))) ∧ Aside0 (wc.heap[gb720]? = some (.cells #[.int .i64 x721000_1, .int .i64 x721001_1] 59 (0, 0))) ∧ Aside0 (Below w.heap.size w wc))
   case first =>
    have H := HC12.out
    clear HC12
    by_cases c13 : x7_1 < (l1.length : Int)
    ·
     rw [if_pos c13] at H
     have c13b0 : decide (x7_1 < (l1.length : Int)) = true := decide_eq_true c13
     clear c13
     (first | rw [c13b0] | (simp only [i64_w, i32_w]; rw [c13b0]) | skip)
     have H' := Aside0.mk H
     clear H
     go_wp2
     go_meet
     case rel => exact ⟨_, (decide (x7_1 < 100)), (by first | rfl | (simp; done) | (simp [*]; done)), H', ⟨by have := HK1.out; first | omega | exact Nat.le_refl _⟩, ⟨by (with_reducible repeat (first | refine blk_drewN ?_ _ | refine blk_drew ?_ | refine blk_alloc ?_ _)); exact BK715.out⟩, ⟨by (with_reducible repeat (first | refine blk_drewN ?_ _ | refine blk_drew ?_ | refine blk_alloc ?_ _)); exact BK720.out⟩, ⟨by repeat (first | (with_reducible first | exact HB.out | apply below_alloc | apply pw_below_drewN | apply below_drew1 | refine below_set ?_ GE715.out | refine below_set ?_ GE720.out) | exact HB.out)⟩⟩
    ·
     rw [if_neg c13] at H
     have c13b0 : decide (x7_1 < (l1.length : Int)) = false := decide_eq_false c13
     clear c13
     (first | rw [c13b0] | (simp only [i64_w, i32_w]; rw [c13b0]) | skip)
     have H' := Aside0.mk H
     clear H
     go_wp2
     go_meet
     case rel => exact ⟨_, (false), (by first | rfl | (simp; done) | (simp [*]; done)), H', ⟨by have := HK1.out; first | omega | exact Nat.le_refl _⟩, ⟨by (with_reducible repeat (first | refine blk_drewN ?_ _ | refine blk_drew ?_ | refine blk_alloc ?_ _)); exact BK715.out⟩, ⟨by (with_reducible repeat (first | refine blk_drewN ?_ _ | refine blk_drew ?_ | refine blk_alloc ?_ _)); exact BK720.out⟩, ⟨by repeat (first | (with_reducible first | exact HB.out | apply below_alloc | apply pw_below_drewN | apply below_drew1 | refine below_set ?_ GE715.out | refine below_set ?_ GE720.out) | exact HB.out)⟩⟩
   case rest =>
    clear HC12
    try clear c1
    try clear p2
    try clear c3
    try clear c9
    try clear c10
    try clear c13
    try clear c13b0
    try clear hcz11_0
    try clear hcz11_1
    try clear hcz6_0
    try clear hcz6_1
    try clear hfz11_0
    try clear hfz11_1
    try clear hfz6_0
    try clear hfz6_1
    try clear p2
    obtain ⟨kq, x20_11, rfl, HA, HJ11, BK715, BK720, HB⟩ := hcut
    cases kq with
    | zero => exact absurd HA.out (by simp [avermentlaw10_SpanWidens.j1])
    | succ kj11 =>
     have H := HA.out
     clear HA
     simp only [avermentlaw10_SpanWidens.j1] at H
     by_cases c14 : x20_11 = true
     ·
      subst c14
      rw [if_pos rfl] at H
      by_cases c15 : 0 ≤ x7_1
      ·
       rw [if_pos c15] at H
       have c15b0 : decide (0 ≤ x7_1) = true := decide_eq_true c15
       clear c15
       by_cases c16 : x7_1 < (l1.length : Int)
       ·
        rw [if_pos c16] at H
        have c16b0 : decide (x7_1 < (l1.length : Int)) = true := decide_eq_true c16
        clear c16
        replace H := Option.bind_eq_some_iff.mp H
        obtain ⟨⟨t723, t724⟩, A170, H⟩ := H
        (try dsimp only at H)
        have A17 := Aside0.mk A170
        clear A170
        replace H := Option.bind_eq_some_iff.mp H
        obtain ⟨⟨t725, t726⟩, A180, H⟩ := H
        (try dsimp only at H)
        have A18 := Aside0.mk A180
        clear A180
        replace H := Option.bind_eq_some_iff.mp H
        obtain ⟨⟨t728, t729⟩, A190, H⟩ := H
        (try dsimp only at H)
        have A19 := Aside0.mk A190
        clear A190
        have HC20 := Aside0.mk H
        clear H
        have p722 : 0 ≤ (x7_1 : Int) := of_decide_eq_true (by first | (with_reducible assumption) | assumption)
        have q722 : x7_1 < (l1.length : Int) := of_decide_eq_true (by first | (with_reducible assumption) | assumption)
        obtain ⟨ad722, e722, hx722_0, hx722_1⟩ := at_T56 HR1.out x7_1 p722 q722
        cases e722
        replace hx722_0 := (HB.out.cell (World.block_lt_of_cell? w _ hx722_0)).trans hx722_0
        replace hx722_1 := (HB.out.cell (World.block_lt_of_cell? w _ hx722_1)).trans hx722_1
        replace p722 := eq_true p722
        replace q722 := eq_true q722
        go_upto_region 8 with (first | ((with_reducible refine gate_callee (f := 35) rfl ?_); refine goesL_ (some 27) rfl rfl Try.func35 (by kernel_rfl) rfl #[.agg #[.int .i64 ((rd_T56 l1 x7_1).f0), .int .i64 ((rd_T56 l1 x7_1).f1)]] rfl (mapq rfl) ?_; (with_reducible refine (avermentref10_Fix.calls ((rd_T56 l1 x7_1).f0) ((rd_T56 l1 x7_1).f1) t723 t724 _ A17.out).mono ?_); rintro e w21 ⟨rfl, hb⟩; refine ⟨_, rfl, ?_⟩; replace BK715 := bb BK715 hb rfl; replace BK720 := bb BK720 hb rfl; replace HB := hst HB hb rfl; (try clear hb)) | ((with_reducible refine gate_callee (f := 37) rfl ?_); refine goesL_ (some 28) rfl rfl Try.func37 (by kernel_rfl) rfl #[.agg #[.int .i64 t723, .int .i64 t724]] rfl (mapq rfl) ?_; (with_reducible refine (avermentlaw10_To.calls t723 t724 t725 t726 _ A18.out).mono ?_); rintro e w22 ⟨rfl, hb⟩; refine ⟨_, rfl, ?_⟩; replace BK715 := bb BK715 hb rfl; replace BK720 := bb BK720 hb rfl; replace HB := hst HB hb rfl; (try clear hb)) | ((with_reducible refine gate_dst (N := 8) rfl ?_); refine box_event ?hg (N := 8) ?hd (cs := #[.int .i64 0, .int .i64 0]) (t := 59) ?hr ?_; (case hd => rfl); (case hg => rfl); (case hr => first | (go_simp; done) | (go_simp; rfl)); intro gb727 hg w23 hbox hb; have BK727 := Aside0.mk (hbox); have GW727 := geb hg HB rfl; have GE727 := geb hg HB rfl; have NB715_727 := nbl hg BK715 rfl; have NB727_715 := nbr hg BK715 rfl; have NB720_727 := nbl hg BK720 rfl; have NB727_720 := nbr hg BK720 rfl; replace BK715 := bb BK715 hb rfl; replace BK720 := bb BK720 hb rfl; replace HB := hst HB hb rfl; clear hb hbox hg; have hnb24 := NB727_715.out; have hnc24 := NB715_727.out; have hnb25 := NB727_720.out; have hnc25 := NB720_727.out; have hcz26_0 : w23.cell? ⟨gb727, 0, none⟩ = some (.int .i64 0) := (blk_cell BK727.out 0).trans rfl; have hcz26_1 : w23.cell? ⟨gb727, 1, none⟩ = some (.int .i64 0) := (blk_cell BK727.out 1).trans rfl; have hfz26_0 := blk_frozen BK727.out 0; have hfz26_1 := blk_frozen BK727.out 1; have hnb27 := NB720_715.out; have hnc27 := NB715_720.out; have hcz28_0 : w23.cell? ⟨gb720, 0, none⟩ = some (.int .i64 x721000_1) := (blk_cell BK720.out 0).trans rfl; have hcz28_1 : w23.cell? ⟨gb720, 1, none⟩ = some (.int .i64 x721001_1) := (blk_cell BK720.out 1).trans rfl; have hfz28_0 := blk_frozen BK720.out 0; have hfz28_1 := blk_frozen BK720.out 1) | ((with_reducible refine gate_callee (f := 52) rfl ?_); refine goesL_ (some 31) rfl rfl Try.func52 (by kernel_rfl) rfl #[.agg #[.int .i64 x721000_1, .int .i64 x721001_1], .agg #[.int .i64 t725, .int .i64 t726]] rfl (mapq rfl) ?_; (with_reducible refine (span_Widen.calls x721000_1 x721001_1 t725 t726 t728 t729 _ A19.out).mono ?_); rintro e w29 ⟨rfl, hb⟩; refine ⟨_, rfl, ?_⟩; replace BK715 := Aside0.mk (blk_below (g := gb715) (o := .cells #[.int .i64 a0_0, .int .i64 a0_1] 56 (0, 0)) (by (with_reducible repeat (first | refine blk_drewN ?_ _ | refine blk_drew ?_ | refine blk_alloc ?_ _)); refine blk_far ?_ NB715_727.out _; (with_reducible repeat (first | refine blk_drewN ?_ _ | refine blk_drew ?_ | refine blk_alloc ?_ _)); refine blk_far ?_ NB715_727.out _; (with_reducible repeat (first | refine blk_drewN ?_ _ | refine blk_drew ?_ | refine blk_alloc ?_ _)); exact BK715.out) hb); replace BK720 := Aside0.mk (blk_below (g := gb720) (o := .cells #[.int .i64 x721000_1, .int .i64 x721001_1] 59 (0, 0)) (by (with_reducible repeat (first | refine blk_drewN ?_ _ | refine blk_drew ?_ | refine blk_alloc ?_ _)); refine blk_far ?_ NB720_727.out _; (with_reducible repeat (first | refine blk_drewN ?_ _ | refine blk_drew ?_ | refine blk_alloc ?_ _)); refine blk_far ?_ NB720_727.out _; (with_reducible repeat (first | refine blk_drewN ?_ _ | refine blk_drew ?_ | refine blk_alloc ?_ _)); exact BK720.out) hb); replace BK727 := Aside0.mk (blk_below (g := gb727) (o := .cells #[.int .i64 t725, .int .i64 t726] 59 (0, 0)) (by (with_reducible repeat (first | refine blk_drewN ?_ _ | refine blk_drew ?_ | refine blk_alloc ?_ _)); refine blk_put (cs := #[.int .i64 t725, .int .i64 0]) ?_ 1 _ rfl; (with_reducible repeat (first | refine blk_drewN ?_ _ | refine blk_drew ?_ | refine blk_alloc ?_ _)); refine blk_put (cs := #[.int .i64 0, .int .i64 0]) ?_ 0 _ rfl; (with_reducible repeat (first | refine blk_drewN ?_ _ | refine blk_drew ?_ | refine blk_alloc ?_ _)); exact BK727.out) hb); replace HB := Aside0.mk (below_step (by repeat (first | (with_reducible first | exact HB.out | apply below_alloc | apply pw_below_drewN | apply below_drew1 | refine below_set ?_ GE715.out | refine below_set ?_ GE720.out | refine below_set ?_ GE727.out) | exact HB.out)) hb); (try clear hb)) | ((with_reducible refine gate_dst (N := 9) rfl ?_); refine box_event ?hg (N := 9) ?hd (cs := #[.int .i64 0, .int .i64 0]) (t := 59) ?hr ?_; (case hd => rfl); (case hg => rfl); (case hr => first | (go_simp; done) | (go_simp; rfl)); intro gb730 hg w30 hbox hb; have BK730 := Aside0.mk (hbox); have GW730 := geb hg HB rfl; have GE730 := geb hg HB rfl; have NB715_730 := nbl hg BK715 rfl; have NB730_715 := nbr hg BK715 rfl; have NB720_730 := nbl hg BK720 rfl; have NB730_720 := nbr hg BK720 rfl; have NB727_730 := nbl hg BK727 rfl; have NB730_727 := nbr hg BK727 rfl; replace BK715 := bb BK715 hb rfl; replace BK720 := bb BK720 hb rfl; replace BK727 := bb BK727 hb rfl; replace HB := hst HB hb rfl; clear hb hbox hg; have hnb31 := NB730_715.out; have hnc31 := NB715_730.out; have hnb32 := NB730_720.out; have hnc32 := NB720_730.out; have hnb33 := NB730_727.out; have hnc33 := NB727_730.out; have hcz34_0 : w30.cell? ⟨gb730, 0, none⟩ = some (.int .i64 0) := (blk_cell BK730.out 0).trans rfl; have hcz34_1 : w30.cell? ⟨gb730, 1, none⟩ = some (.int .i64 0) := (blk_cell BK730.out 1).trans rfl; have hfz34_0 := blk_frozen BK730.out 0; have hfz34_1 := blk_frozen BK730.out 1))
        (try simp only [Act.put, List.setIfInBounds_toArray, List.set_cons_zero, List.set_cons_succ])
        go_cut [41] (fun v41 wc => ∃ (kq : Nat) (x41_19 : Bool), v41 = .bool x41_19 ∧ Aside0 (avermentlaw10_SpanWidens.j2 kq l1 x6_1 x7_1 x41_19 x721000_1 x721001_1 t728 t729 = some r) ∧ Aside0 (kq ≤ kj11) ∧ Aside0 (wc.heap[gb715]? = some (.cells #[.int .i64 a0_0, .int .i64 a0_1] 56 (0, 0))) ∧ Aside0 (wc.heap[gb720]? = some (.cells #[.int .i64 x721000_1, .int .i64 x721001_1] 59 (0, 0))) ∧ Aside0 (wc.heap[gb727]? = some (.cells #[.int .i64 t725, .int .i64 t726] 59 (0, 0))) ∧ Aside0 (wc.heap[gb730]? = some (.cells #[.int .i64 t728, .int .i64 t729] 59 (0, 0))) ∧ Aside0 (Below w.heap.size w wc))
        case first =>
         have H := HC20.out
         clear HC20
         replace H := Option.bind_eq_some_iff.mp H
         obtain ⟨t731, A350, H⟩ := H
         (try dsimp only at H)
         have A35 := Aside0.mk A350
         clear A350
         by_cases c36 : t731 = true
         ·
          subst c36
          rw [if_pos rfl] at H
          replace H := Option.bind_eq_some_iff.mp H
          obtain ⟨t732, A370, H⟩ := H
          (try dsimp only at H)
          have A37 := Aside0.mk A370
          clear A370
          have H' := Aside0.mk H
          clear H
          have hnb38 := NB720_715.out
          have hnc38 := NB715_720.out
          have hnb39 := NB720_727.out
          have hnc39 := NB727_720.out
          have hnb40 := NB720_730.out
          have hnc40 := NB730_720.out
          have hcz41_0 : w30.cell? ⟨gb720, 0, none⟩ = some (.int .i64 x721000_1) := bc BK720 0 rfl
          have hcz41_1 : w30.cell? ⟨gb720, 1, none⟩ = some (.int .i64 x721001_1) := bc BK720 1 rfl
          have hfz41_0 := blk_frozen BK720.out 0
          have hfz41_1 := blk_frozen BK720.out 1
          have hnb42 := NB730_715.out
          have hnc42 := NB715_730.out
          have hnb43 := NB730_727.out
          have hnc43 := NB727_730.out
          have hcz44_0 : w30.cell? ⟨gb730, 0, none⟩ = some (.int .i64 0) := bc BK730 0 rfl
          have hcz44_1 : w30.cell? ⟨gb730, 1, none⟩ = some (.int .i64 0) := bc BK730 1 rfl
          have hfz44_0 := blk_frozen BK730.out 0
          have hfz44_1 := blk_frozen BK730.out 1
          go_wp2_with (first | ((with_reducible refine gate_callee (f := 50) rfl ?_); refine goesL_ (some 34) rfl rfl Try.func50 (by kernel_rfl) rfl #[.agg #[.int .i64 x721000_1, .int .i64 x721001_1], .agg #[.int .i64 t728, .int .i64 t729]] rfl (mapq rfl) ?_; (with_reducible refine (span_Within.calls x721000_1 x721001_1 t728 t729 true _ A35.out).mono ?_); rintro e w45 ⟨rfl, hb⟩; refine ⟨_, rfl, ?_⟩; replace BK715 := Aside0.mk (blk_below (g := gb715) (o := .cells #[.int .i64 a0_0, .int .i64 a0_1] 56 (0, 0)) (by (with_reducible repeat (first | refine blk_drewN ?_ _ | refine blk_drew ?_ | refine blk_alloc ?_ _)); refine blk_far ?_ NB715_730.out _; (with_reducible repeat (first | refine blk_drewN ?_ _ | refine blk_drew ?_ | refine blk_alloc ?_ _)); refine blk_far ?_ NB715_730.out _; (with_reducible repeat (first | refine blk_drewN ?_ _ | refine blk_drew ?_ | refine blk_alloc ?_ _)); exact BK715.out) hb); replace BK720 := Aside0.mk (blk_below (g := gb720) (o := .cells #[.int .i64 x721000_1, .int .i64 x721001_1] 59 (0, 0)) (by (with_reducible repeat (first | refine blk_drewN ?_ _ | refine blk_drew ?_ | refine blk_alloc ?_ _)); refine blk_far ?_ NB720_730.out _; (with_reducible repeat (first | refine blk_drewN ?_ _ | refine blk_drew ?_ | refine blk_alloc ?_ _)); refine blk_far ?_ NB720_730.out _; (with_reducible repeat (first | refine blk_drewN ?_ _ | refine blk_drew ?_ | refine blk_alloc ?_ _)); exact BK720.out) hb); replace BK727 := Aside0.mk (blk_below (g := gb727) (o := .cells #[.int .i64 t725, .int .i64 t726] 59 (0, 0)) (by (with_reducible repeat (first | refine blk_drewN ?_ _ | refine blk_drew ?_ | refine blk_alloc ?_ _)); refine blk_far ?_ NB727_730.out _; (with_reducible repeat (first | refine blk_drewN ?_ _ | refine blk_drew ?_ | refine blk_alloc ?_ _)); refine blk_far ?_ NB727_730.out _; (with_reducible repeat (first | refine blk_drewN ?_ _ | refine blk_drew ?_ | refine blk_alloc ?_ _)); exact BK727.out) hb); replace BK730 := Aside0.mk (blk_below (g := gb730) (o := .cells #[.int .i64 t728, .int .i64 t729] 59 (0, 0)) (by (with_reducible repeat (first | refine blk_drewN ?_ _ | refine blk_drew ?_ | refine blk_alloc ?_ _)); refine blk_put (cs := #[.int .i64 t728, .int .i64 0]) ?_ 1 _ rfl; (with_reducible repeat (first | refine blk_drewN ?_ _ | refine blk_drew ?_ | refine blk_alloc ?_ _)); refine blk_put (cs := #[.int .i64 0, .int .i64 0]) ?_ 0 _ rfl; (with_reducible repeat (first | refine blk_drewN ?_ _ | refine blk_drew ?_ | refine blk_alloc ?_ _)); exact BK730.out) hb); replace HB := Aside0.mk (below_step (by repeat (first | (with_reducible first | exact HB.out | apply below_alloc | apply pw_below_drewN | apply below_drew1 | refine below_set ?_ GE715.out | refine below_set ?_ GE720.out | refine below_set ?_ GE727.out | refine below_set ?_ GE730.out) | exact HB.out)) hb); (try clear hb); have hnb46 := NB727_715.out; have hnc46 := NB715_727.out; have hcz47_0 : w45.cell? ⟨gb727, 0, none⟩ = some (.int .i64 t725) := (blk_cell BK727.out 0).trans rfl; have hcz47_1 : w45.cell? ⟨gb727, 1, none⟩ = some (.int .i64 t726) := (blk_cell BK727.out 1).trans rfl; have hfz47_0 := blk_frozen BK727.out 0; have hfz47_1 := blk_frozen BK727.out 1; have hcz48_0 : w45.cell? ⟨gb730, 0, none⟩ = some (.int .i64 t728) := (blk_cell BK730.out 0).trans rfl; have hcz48_1 : w45.cell? ⟨gb730, 1, none⟩ = some (.int .i64 t729) := (blk_cell BK730.out 1).trans rfl; have hfz48_0 := blk_frozen BK730.out 0; have hfz48_1 := blk_frozen BK730.out 1) | (go_at_call 50; (with_reducible refine (span_Within.calls t725 t726 t728 t729 t732 _ A37.out).mono ?_); rintro e w49 ⟨rfl, hb⟩; replace BK715 := bb BK715 hb rfl; replace BK720 := bb BK720 hb rfl; replace BK727 := bb BK727 hb rfl; replace BK730 := bb BK730 hb rfl; replace HB := hst HB hb rfl; (try clear hb)))
          go_meet
          case rel => exact ⟨_, (!t732), (by first | rfl | (simp; done) | (simp [*]; done)), H', ⟨by have := HK1.out; have := HJ11.out; first | omega | exact Nat.le_refl _⟩, ⟨by (with_reducible repeat (first | refine blk_drewN ?_ _ | refine blk_drew ?_ | refine blk_alloc ?_ _)); exact BK715.out⟩, ⟨by (with_reducible repeat (first | refine blk_drewN ?_ _ | refine blk_drew ?_ | refine blk_alloc ?_ _)); exact BK720.out⟩, ⟨by (with_reducible repeat (first | refine blk_drewN ?_ _ | refine blk_drew ?_ | refine blk_alloc ?_ _)); exact BK727.out⟩, ⟨by (with_reducible repeat (first | refine blk_drewN ?_ _ | refine blk_drew ?_ | refine blk_alloc ?_ _)); exact BK730.out⟩, ⟨by repeat (first | (with_reducible first | exact HB.out | apply below_alloc | apply pw_below_drewN | apply below_drew1 | refine below_set ?_ GE715.out | refine below_set ?_ GE720.out | refine below_set ?_ GE727.out | refine below_set ?_ GE730.out) | exact HB.out)⟩⟩
         ·
          replace c36 := Bool.eq_false_iff.mpr c36
          subst c36
          rw [if_neg (show ¬ (false = true) by decide)] at H
          have H' := Aside0.mk H
          clear H
          have hnb50 := NB720_715.out
          have hnc50 := NB715_720.out
          have hnb51 := NB720_727.out
          have hnc51 := NB727_720.out
          have hnb52 := NB720_730.out
          have hnc52 := NB730_720.out
          have hcz53_0 : w30.cell? ⟨gb720, 0, none⟩ = some (.int .i64 x721000_1) := bc BK720 0 rfl
          have hcz53_1 : w30.cell? ⟨gb720, 1, none⟩ = some (.int .i64 x721001_1) := bc BK720 1 rfl
          have hfz53_0 := blk_frozen BK720.out 0
          have hfz53_1 := blk_frozen BK720.out 1
          have hnb54 := NB730_715.out
          have hnc54 := NB715_730.out
          have hnb55 := NB730_727.out
          have hnc55 := NB727_730.out
          have hcz56_0 : w30.cell? ⟨gb730, 0, none⟩ = some (.int .i64 0) := bc BK730 0 rfl
          have hcz56_1 : w30.cell? ⟨gb730, 1, none⟩ = some (.int .i64 0) := bc BK730 1 rfl
          have hfz56_0 := blk_frozen BK730.out 0
          have hfz56_1 := blk_frozen BK730.out 1
          go_wp2_with (first | ((with_reducible refine gate_callee (f := 50) rfl ?_); refine goesL_ (some 34) rfl rfl Try.func50 (by kernel_rfl) rfl #[.agg #[.int .i64 x721000_1, .int .i64 x721001_1], .agg #[.int .i64 t728, .int .i64 t729]] rfl (mapq rfl) ?_; (with_reducible refine (span_Within.calls x721000_1 x721001_1 t728 t729 false _ A35.out).mono ?_); rintro e w57 ⟨rfl, hb⟩; refine ⟨_, rfl, ?_⟩; replace BK715 := Aside0.mk (blk_below (g := gb715) (o := .cells #[.int .i64 a0_0, .int .i64 a0_1] 56 (0, 0)) (by (with_reducible repeat (first | refine blk_drewN ?_ _ | refine blk_drew ?_ | refine blk_alloc ?_ _)); refine blk_far ?_ NB715_730.out _; (with_reducible repeat (first | refine blk_drewN ?_ _ | refine blk_drew ?_ | refine blk_alloc ?_ _)); refine blk_far ?_ NB715_730.out _; (with_reducible repeat (first | refine blk_drewN ?_ _ | refine blk_drew ?_ | refine blk_alloc ?_ _)); exact BK715.out) hb); replace BK720 := Aside0.mk (blk_below (g := gb720) (o := .cells #[.int .i64 x721000_1, .int .i64 x721001_1] 59 (0, 0)) (by (with_reducible repeat (first | refine blk_drewN ?_ _ | refine blk_drew ?_ | refine blk_alloc ?_ _)); refine blk_far ?_ NB720_730.out _; (with_reducible repeat (first | refine blk_drewN ?_ _ | refine blk_drew ?_ | refine blk_alloc ?_ _)); refine blk_far ?_ NB720_730.out _; (with_reducible repeat (first | refine blk_drewN ?_ _ | refine blk_drew ?_ | refine blk_alloc ?_ _)); exact BK720.out) hb); replace BK727 := Aside0.mk (blk_below (g := gb727) (o := .cells #[.int .i64 t725, .int .i64 t726] 59 (0, 0)) (by (with_reducible repeat (first | refine blk_drewN ?_ _ | refine blk_drew ?_ | refine blk_alloc ?_ _)); refine blk_far ?_ NB727_730.out _; (with_reducible repeat (first | refine blk_drewN ?_ _ | refine blk_drew ?_ | refine blk_alloc ?_ _)); refine blk_far ?_ NB727_730.out _; (with_reducible repeat (first | refine blk_drewN ?_ _ | refine blk_drew ?_ | refine blk_alloc ?_ _)); exact BK727.out) hb); replace BK730 := Aside0.mk (blk_below (g := gb730) (o := .cells #[.int .i64 t728, .int .i64 t729] 59 (0, 0)) (by (with_reducible repeat (first | refine blk_drewN ?_ _ | refine blk_drew ?_ | refine blk_alloc ?_ _)); refine blk_put (cs := #[.int .i64 t728, .int .i64 0]) ?_ 1 _ rfl; (with_reducible repeat (first | refine blk_drewN ?_ _ | refine blk_drew ?_ | refine blk_alloc ?_ _)); refine blk_put (cs := #[.int .i64 0, .int .i64 0]) ?_ 0 _ rfl; (with_reducible repeat (first | refine blk_drewN ?_ _ | refine blk_drew ?_ | refine blk_alloc ?_ _)); exact BK730.out) hb); replace HB := Aside0.mk (below_step (by repeat (first | (with_reducible first | exact HB.out | apply below_alloc | apply pw_below_drewN | apply below_drew1 | refine below_set ?_ GE715.out | refine below_set ?_ GE720.out | refine below_set ?_ GE727.out | refine below_set ?_ GE730.out) | exact HB.out)) hb); (try clear hb)))
          go_meet
          case rel => exact ⟨_, (true), (by first | rfl | (simp; done) | (simp [*]; done)), H', ⟨by have := HK1.out; have := HJ11.out; first | omega | exact Nat.le_refl _⟩, ⟨by (with_reducible repeat (first | refine blk_drewN ?_ _ | refine blk_drew ?_ | refine blk_alloc ?_ _)); exact BK715.out⟩, ⟨by (with_reducible repeat (first | refine blk_drewN ?_ _ | refine blk_drew ?_ | refine blk_alloc ?_ _)); exact BK720.out⟩, ⟨by (with_reducible repeat (first | refine blk_drewN ?_ _ | refine blk_drew ?_ | refine blk_alloc ?_ _)); exact BK727.out⟩, ⟨by (with_reducible repeat (first | refine blk_drewN ?_ _ | refine blk_drew ?_ | refine blk_alloc ?_ _)); exact BK730.out⟩, ⟨by repeat (first | (with_reducible first | exact HB.out | apply below_alloc | apply pw_below_drewN | apply below_drew1 | refine below_set ?_ GE715.out | refine below_set ?_ GE720.out | refine below_set ?_ GE727.out | refine below_set ?_ GE730.out) | exact HB.out)⟩⟩
        case rest =>
         clear HC20
         try clear c1
         try clear c2
         try clear p2
         try clear c3
         try clear c4
         try clear c5
         try clear p7
         try clear q7
         try clear hx7
         try clear c9
         try clear c10
         try clear c13
         try clear c13b0
         try clear c14
         try clear c15
         try clear c15b0
         try clear c16
         try clear c16b0
         try clear c24
         try clear c25
         try clear c27
         try clear c31
         try clear c32
         try clear c33
         try clear c35
         try clear c36
         try clear c37
         try clear c38
         try clear c39
         try clear c40
         try clear c42
         try clear c43
         try clear c46
         try clear c50
         try clear c51
         try clear c52
         try clear c54
         try clear c55
         try clear hcz11_0
         try clear hcz11_1
         try clear hcz26_0
         try clear hcz26_1
         try clear hcz28_0
         try clear hcz28_1
         try clear hcz34_0
         try clear hcz34_1
         try clear hcz41_0
         try clear hcz41_1
         try clear hcz44_0
         try clear hcz44_1
         try clear hcz47_0
         try clear hcz47_1
         try clear hcz48_0
         try clear hcz48_1
         try clear hcz53_0
         try clear hcz53_1
         try clear hcz56_0
         try clear hcz56_1
         try clear hcz6_0
         try clear hcz6_1
         try clear hfz11_0
         try clear hfz11_1
         try clear hfz26_0
         try clear hfz26_1
         try clear hfz28_0
         try clear hfz28_1
         try clear hfz34_0
         try clear hfz34_1
         try clear hfz41_0
         try clear hfz41_1
         try clear hfz44_0
         try clear hfz44_1
         try clear hfz47_0
         try clear hfz47_1
         try clear hfz48_0
         try clear hfz48_1
         try clear hfz53_0
         try clear hfz53_1
         try clear hfz56_0
         try clear hfz56_1
         try clear hfz6_0
         try clear hfz6_1
         try clear hx722_0
         try clear hx722_1
         try clear p2
         try clear p722
         try clear q722
         obtain ⟨kq, x41_19, rfl, HA, HJ19, BK715, BK720, BK727, BK730, HB⟩ := hcut
         cases kq with
         | zero => exact absurd HA.out (by simp [avermentlaw10_SpanWidens.j2])
         | succ kj19 =>
          have H := HA.out
          clear HA
          simp only [avermentlaw10_SpanWidens.j2] at H
          by_cases c58 : x41_19 = true
          ·
           subst c58
           rw [if_pos rfl] at H
           exact absurd ((Option.some.inj H).trans hr_.out) (by decide)
          ·
           replace c58 := Bool.eq_false_iff.mpr c58
           subst c58
           rw [if_neg (show ¬ (false = true) by decide)] at H
           by_cases c59 : (!(t728 == x721000_1) || (!(t729 == x721001_1))) = true
           ·
            rw [if_pos c59] at H
            have c59b0 : (!(t728 == x721000_1) || (!(t729 == x721001_1))) = true := c59
            clear c59
            have H' := Aside0.mk H
            clear H
            have hnb60 := NB730_715.out
            have hnc60 := NB715_730.out
            have hnb61 := NB730_720.out
            have hnc61 := NB720_730.out
            have hnb62 := NB730_727.out
            have hnc62 := NB727_730.out
            have hcz63_0 : wc.cell? ⟨gb730, 0, none⟩ = some (.int .i64 t728) := bc BK730 0 rfl
            have hcz63_1 : wc.cell? ⟨gb730, 1, none⟩ = some (.int .i64 t729) := bc BK730 1 rfl
            have hfz63_0 := blk_frozen BK730.out 0
            have hfz63_1 := blk_frozen BK730.out 1
            have hnb64 := NB720_715.out
            have hnc64 := NB715_720.out
            have hnb65 := NB720_727.out
            have hnc65 := NB727_720.out
            have hcz66_0 : wc.cell? ⟨gb720, 0, none⟩ = some (.int .i64 x721000_1) := bc BK720 0 rfl
            have hcz66_1 : wc.cell? ⟨gb720, 1, none⟩ = some (.int .i64 x721001_1) := bc BK720 1 rfl
            have hfz66_0 := blk_frozen BK720.out 0
            have hfz66_1 := blk_frozen BK720.out 1
            go_wp2
            go_roundg kj19
            case measure => have := HK1.out; have := HJ11.out; have := HJ19.out; omega
            case rel => exact ⟨(wrap64 (x6_1 + 1)), (wrap64 (x7_1 + 1)), (t728), (t729), (by first | rfl | (simp; done) | (simp [*]; done)), (by first | rfl | (simp; done) | (simp [*]; done)), H', ⟨by have := HK1.out; have := HJ11.out; have := HJ19.out; omega⟩, ⟨by (with_reducible repeat (first | refine blk_drewN ?_ _ | refine blk_drew ?_ | refine blk_alloc ?_ _)); refine blk_far ?_ NB715_720.out _; (with_reducible repeat (first | refine blk_drewN ?_ _ | refine blk_drew ?_ | refine blk_alloc ?_ _)); refine blk_far ?_ NB715_720.out _; (with_reducible repeat (first | refine blk_drewN ?_ _ | refine blk_drew ?_ | refine blk_alloc ?_ _)); exact BK715.out⟩, ⟨by (with_reducible repeat (first | refine blk_drewN ?_ _ | refine blk_drew ?_ | refine blk_alloc ?_ _)); refine blk_put (cs := #[.int .i64 t728, .int .i64 x721001_1]) ?_ 1 _ rfl; (with_reducible repeat (first | refine blk_drewN ?_ _ | refine blk_drew ?_ | refine blk_alloc ?_ _)); refine blk_put (cs := #[.int .i64 x721000_1, .int .i64 x721001_1]) ?_ 0 _ rfl; (with_reducible repeat (first | refine blk_drewN ?_ _ | refine blk_drew ?_ | refine blk_alloc ?_ _)); exact BK720.out⟩, ⟨by repeat (first | (with_reducible first | exact HB.out | apply below_alloc | apply pw_below_drewN | apply below_drew1 | refine below_set ?_ GE715.out | refine below_set ?_ GE720.out | refine below_set ?_ GE727.out | refine below_set ?_ GE730.out) | exact HB.out)⟩⟩
           ·
            rw [if_neg c59] at H
            have c59b0 : (!(t728 == x721000_1) || (!(t729 == x721001_1))) = false := by simpa using c59
            clear c59
            have H' := Aside0.mk H
            clear H
            have hnb67 := NB730_715.out
            have hnc67 := NB715_730.out
            have hnb68 := NB730_720.out
            have hnc68 := NB720_730.out
            have hnb69 := NB730_727.out
            have hnc69 := NB727_730.out
            have hcz70_0 : wc.cell? ⟨gb730, 0, none⟩ = some (.int .i64 t728) := bc BK730 0 rfl
            have hcz70_1 : wc.cell? ⟨gb730, 1, none⟩ = some (.int .i64 t729) := bc BK730 1 rfl
            have hfz70_0 := blk_frozen BK730.out 0
            have hfz70_1 := blk_frozen BK730.out 1
            have hnb71 := NB720_715.out
            have hnc71 := NB715_720.out
            have hnb72 := NB720_727.out
            have hnc72 := NB727_720.out
            have hcz73_0 : wc.cell? ⟨gb720, 0, none⟩ = some (.int .i64 x721000_1) := bc BK720 0 rfl
            have hcz73_1 : wc.cell? ⟨gb720, 1, none⟩ = some (.int .i64 x721001_1) := bc BK720 1 rfl
            have hfz73_0 := blk_frozen BK720.out 0
            have hfz73_1 := blk_frozen BK720.out 1
            go_wp2
            go_roundg kj19
            case measure => have := HK1.out; have := HJ11.out; have := HJ19.out; omega
            case rel => exact ⟨(x6_1), (wrap64 (x7_1 + 1)), (t728), (t729), (by first | rfl | (simp; done) | (simp [*]; done)), (by first | rfl | (simp; done) | (simp [*]; done)), H', ⟨by have := HK1.out; have := HJ11.out; have := HJ19.out; omega⟩, ⟨by (with_reducible repeat (first | refine blk_drewN ?_ _ | refine blk_drew ?_ | refine blk_alloc ?_ _)); refine blk_far ?_ NB715_720.out _; (with_reducible repeat (first | refine blk_drewN ?_ _ | refine blk_drew ?_ | refine blk_alloc ?_ _)); refine blk_far ?_ NB715_720.out _; (with_reducible repeat (first | refine blk_drewN ?_ _ | refine blk_drew ?_ | refine blk_alloc ?_ _)); exact BK715.out⟩, ⟨by (with_reducible repeat (first | refine blk_drewN ?_ _ | refine blk_drew ?_ | refine blk_alloc ?_ _)); refine blk_put (cs := #[.int .i64 t728, .int .i64 x721001_1]) ?_ 1 _ rfl; (with_reducible repeat (first | refine blk_drewN ?_ _ | refine blk_drew ?_ | refine blk_alloc ?_ _)); refine blk_put (cs := #[.int .i64 x721000_1, .int .i64 x721001_1]) ?_ 0 _ rfl; (with_reducible repeat (first | refine blk_drewN ?_ _ | refine blk_drew ?_ | refine blk_alloc ?_ _)); exact BK720.out⟩, ⟨by repeat (first | (with_reducible first | exact HB.out | apply below_alloc | apply pw_below_drewN | apply below_drew1 | refine below_set ?_ GE715.out | refine below_set ?_ GE720.out | refine below_set ?_ GE727.out | refine below_set ?_ GE730.out) | exact HB.out)⟩⟩
       ·
        rw [if_neg c16] at H
        exact absurd H (by simp)
      ·
       rw [if_neg c15] at H
       exact absurd H (by simp)
     ·
      replace c14 := Bool.eq_false_iff.mpr c14
      subst c14
      rw [if_neg (show ¬ (false = true) by decide)] at H
      replace H := Option.bind_eq_some_iff.mp H
      obtain ⟨t721, A740, H⟩ := H
      (try dsimp only at H)
      have A74 := Aside0.mk A740
      clear A740
      by_cases c75 : t721 = true
      ·
       subst c75
       rw [if_pos rfl] at H
       obtain rfl := Option.some.inj H
       go_wp2_with (first | ((with_reducible refine gate_callee (f := 38) rfl ?_); refine goesL_ (some 48) rfl rfl Try.func38 (by kernel_rfl) rfl #[] rfl (mapq rfl) ?_; (with_reducible refine (avermentlaw10_told.calls kj11  true _ A74.out).mono ?_); rintro e w76 ⟨rfl, hb⟩; refine ⟨_, rfl, ?_⟩; replace BK715 := bb BK715 hb rfl; replace BK720 := bb BK720 hb rfl; replace HB := hst HB hb rfl; (try clear hb)))
       go_ret
       exact ⟨by first | rfl | (simp [errW_none, errW_some] <;> rfl) | (simp [*, errW_none, errW_some] <;> rfl), by repeat (first | (with_reducible first | exact HB.out | apply below_alloc | apply pw_below_drewN | apply below_drew1 | refine below_set ?_ GE715.out | refine below_set ?_ GE720.out) | exact HB.out)⟩
      ·
       replace c75 := Bool.eq_false_iff.mpr c75
       subst c75
       rw [if_neg (show ¬ (false = true) by decide)] at H
       exact absurd ((Option.some.inj H).trans hr_.out) (by decide)

end Go.Proofs.Ytpacmhhaabhdjaa.SP
