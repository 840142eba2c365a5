-- Written by a program of this session: plain functions and their walks. Lean checks it.
import Derived.Test.YtpacmhhaabhdjaaSM0
import Derived.Test.YtpacmhhaabhdjaaSM4
namespace Go.Proofs.Ytpacmhhaabhdjaa.SM
open Go.RowKit Go.Proofs.YtpacmhhaabhdjaaW.PrintWords Go.Proofs.YtpacmhhaabhdjaaW.PrintLast Go.Proofs.YtpacmhhaabhdjaaW.PrintMore
attribute [local go_sem] max2_int min2_int max_two min_two max_three min_three max_four min_four   -- for this text's walks alone
set_option linter.unusedVariables false
set_option linter.unusedSimpArgs false

/-! ### span_both: function 70 -/
def span_both.j0 : Nat → Bool → Int → Int → Int → Int → Option (Int × Int)
 | 0, _, _, _, _, _ => none
 | k + 1, x5, x176000, x176001, x177000, x177001 => if x5 = true then (some (0, mn x176001 x177001)) else ((span_Span_above.f x176000 x176001).bind fun t180 => (if t180 = true then (some (0, x176001)) else ((span_Span_above.f x177000 x177001).bind fun t181 => (if t181 = true then (some (0, x177001)) else ((span_Span_below.f x176000 x176001).bind fun t182 => (if t182 = true then ((span_Span_below.f x177000 x177001).bind fun t183 => (if t183 = true then (some ((-9223372036854775808), mn x176001 x177001)) else (some ((-9223372036854775808), mx x176001 x177001)))) else (some ((-9223372036854775808), mx x176001 x177001))))))))
def span_both.f (k : Nat) (a0_0 : Int) (a0_1 : Int) (a1_0 : Int) (a1_1 : Int) : Option (Int × Int) := (span_Span_above.f a0_0 a0_1).bind fun t178 => (if t178 = true then ((span_Span_above.f a1_0 a1_1).bind fun t179 => (span_both.j0 k t179 a0_0 a0_1 a1_0 a1_1)) else (span_both.j0 k false a0_0 a0_1 a1_0 a1_1))
theorem span_both.mono_l : ∀ k, (∀ y0 y1 y2 y3 y4, LeO (span_both.j0 k y0 y1 y2 y3 y4) (span_both.j0 (k + 1) y0 y1 y2 y3 y4))
 | 0 => fun _ _ _ _ _ r h => by simp [span_both.j0] at h
 | k + 1 => by
  have ih0 := span_both.mono_l k
  ·
   intro y0 y1 y2 y3 y4
   unfold span_both.j0
   repeat' first
   | (with_reducible exact ih0 _ _ _ _ _)
   | (with_reducible exact LeO.refl _)
   | (with_reducible exact LeO.none _)
   | (with_reducible refine LeO.ite ?_ ?_)
   | (with_reducible refine LeO.bind ?_ (fun _ => ?_))
   | exact ih0 _ _ _ _ _
   | exact LeO.none _
   | refine LeO.ite ?_ ?_
   | refine LeO.bind ?_ (fun _ => ?_)
theorem span_both.mono : ∀ a0 a1 a2 a3 k, LeO (span_both.f k a0 a1 a2 a3) (span_both.f (k + 1) a0 a1 a2 a3) := by
 intro a0 a1 a2 a3 k
 have ih0 := span_both.mono_l k
 unfold span_both.f
 repeat' first
   | (with_reducible exact ih0 _ _ _ _ _)
   | (with_reducible exact LeO.refl _)
   | (with_reducible exact LeO.none _)
   | (with_reducible refine LeO.ite ?_ ?_)
   | (with_reducible refine LeO.bind ?_ (fun _ => ?_))
   | exact ih0 _ _ _ _ _
   | exact LeO.none _
   | refine LeO.ite ?_ ?_
   | refine LeO.bind ?_ (fun _ => ?_)
set_option maxHeartbeats 8000000 in
set_option maxRecDepth 100000 in
theorem span_both.calls (k : Nat) (a0_0 : Int) (a0_1 : Int) (a1_0 : Int) (a1_1 : Int) (r1 : Int) (r2 : Int) (w : World) (h : span_both.f k a0_0 a0_1 a1_0 a1_1 = some (r1, r2)) :
  Calls Try.prog 70 #[.agg #[.int .i64 a0_0, .int .i64 a0_1], .agg #[.int .i64 a1_0, .int .i64 a1_1]] w fun e w' => e = .returned (.agg #[.int .i64 r1, .int .i64 r2]) ∧ Below w.heap.size w w' := by
 have hu59 := Try.underlying59
 have HB := Aside0.mk (Below.refl w.heap.size w)
 have H : ((span_Span_above.f a0_0 a0_1).bind fun t178 => (if t178 = true then ((span_Span_above.f a1_0 a1_1).bind fun t179 => (span_both.j0 k t179 a0_0 a0_1 a1_0 a1_1)) else (span_both.j0 k false a0_0 a0_1 a1_0 a1_1))) = some (r1, r2) := h
 clear h
 have HC3 := Aside0.mk H
 clear H
 go_enter Try.func70, Try.ntmps70
 go_upto_region 1 with (first | ((with_reducible refine gate_dst (N := 2) rfl ?_); refine box_event ?hg (N := 2) ?hd (cs := #[.int .i64 a0_0, .int .i64 a0_1]) (t := 59) ?hr ?_; (case hd => rfl); (case hg => rfl); (case hr => first | (go_simp; done) | (go_simp; rfl)); intro gb175 hg w4 hbox hb; have BK175 := Aside0.mk (hbox); have GW175 := geb hg HB rfl; have GE175 := geb hg HB rfl; replace HB := hst HB hb rfl; clear hb hbox hg) | ((with_reducible refine gate_dst (N := 3) rfl ?_); refine box_event ?hg (N := 3) ?hd (cs := #[.int .i64 a1_0, .int .i64 a1_1]) (t := 59) ?hr ?_; (case hd => rfl); (case hg => rfl); (case hr => first | (go_simp; done) | (go_simp; rfl)); intro gb176 hg w5 hbox hb; have BK176 := Aside0.mk (hbox); have GW176 := geb hg HB rfl; have GE176 := geb hg HB rfl; have NB175_176 := nbl hg BK175 rfl; have NB176_175 := nbr hg BK175 rfl; replace BK175 := bb BK175 hb rfl; replace HB := hst HB hb rfl; clear hb hbox hg) | ((with_reducible refine gate_dst (N := 4) rfl ?_); refine box_event ?hg (N := 4) ?hd (cs := #[.int .i64 0, .int .i64 0]) (t := 59) ?hr ?_; (case hd => rfl); (case hg => rfl); (case hr => first | (go_simp; done) | (go_simp; rfl)); intro gb177 hg w6 hbox hb; have BK177 := Aside0.mk (hbox); have GW177 := geb hg HB rfl; have GE177 := geb hg HB rfl; have NB175_177 := nbl hg BK175 rfl; have NB177_175 := nbr hg BK175 rfl; have NB176_177 := nbl hg BK176 rfl; have NB177_176 := nbr hg BK176 rfl; replace BK175 := bb BK175 hb rfl; replace BK176 := bb BK176 hb rfl; replace HB := hst HB hb rfl; clear hb hbox hg))
 (try simp only [Act.put, List.setIfInBounds_toArray, List.set_cons_zero, List.set_cons_succ])
 go_cut [5] (fun v5 wc => ∃ (kq : Nat) (x5_2 : Bool), v5 = .bool x5_2 ∧ Aside0 (span_both.j0 kq x5_2 a0_0 a0_1 a1_0 a1_1 = some (r1, r2)) ∧ Aside0 (kq ≤ k) ∧ Aside0 (wc.heap[gb175]? = some (.cells #[.int .i64 a0_0, .int .i64 a0_1] 59 (0, 0))) ∧ Aside0 (wc.heap[gb176]? = some (.cells #[.int .i64 a1_0, .int .i64 a1_1] 59 (0, 0))) ∧ Aside0 (wc.heap[gb177]? = some (.cells #[.int .i64 0, .int .i64 0] 59 (0, 0))) ∧ Aside0 (Below w.heap.size w wc))
 case first =>
  have H := HC3.out
  clear HC3
  replace H := Option.bind_eq_some_iff.mp H
  obtain ⟨t178, A70, H⟩ := H
  (try dsimp only at H)
  have A7 := Aside0.mk A70
  clear A70
  by_cases c8 : t178 = true
  ·
   subst c8
   rw [if_pos rfl] at H
   replace H := Option.bind_eq_some_iff.mp H
   obtain ⟨t179, A90, H⟩ := H
   (try dsimp only at H)
   have A9 := Aside0.mk A90
   clear A90
   have H' := Aside0.mk H
   clear H
   have hnb10 := NB175_176.out
   have hnc10 := NB176_175.out
   have hnb11 := NB175_177.out
   have hnc11 := NB177_175.out
   obtain ⟨hcz12_0, hcz12_1, hfz12_0, hfz12_1⟩ := c2 BK175
   go_wp2_with (first | ((with_reducible refine gate_callee (f := 85) rfl ?_); refine goesL_ (some 7) rfl rfl Try.func85 (by kernel_rfl) rfl #[.agg #[.int .i64 a0_0, .int .i64 a0_1]] rfl (mapq rfl) ?_; (with_reducible refine (span_Span_above.calls a0_0 a0_1 true _ A7.out).mono ?_); rintro e w13 ⟨rfl, hb⟩; refine ⟨_, rfl, ?_⟩; replace BK175 := bb BK175 hb rfl; replace BK176 := bb BK176 hb rfl; replace BK177 := bb BK177 hb rfl; replace HB := hst HB hb rfl; (try clear hb); have hnb14 := NB176_177.out; have hnc14 := NB177_176.out; obtain ⟨hcz15_0, hcz15_1, hfz15_0, hfz15_1⟩ := c2 BK176) | (go_at_call 85; (with_reducible refine (span_Span_above.calls a1_0 a1_1 t179 _ A9.out).mono ?_); rintro e w16 ⟨rfl, hb⟩; replace BK175 := bb BK175 hb rfl; replace BK176 := bb BK176 hb rfl; replace BK177 := bb BK177 hb rfl; replace HB := hst HB hb rfl; (try clear hb)))
   go_meet
   case rel => exact ⟨_, (t179), (by first | rfl | (simp; done) | (simp [*]; done)), H', ⟨by first | omega | exact Nat.le_refl _⟩, ⟨by (with_reducible repeat (first | refine blk_drewN ?_ _ | refine blk_drew ?_ | refine blk_alloc ?_ _)); exact BK175.out⟩, ⟨by (with_reducible repeat (first | refine blk_drewN ?_ _ | refine blk_drew ?_ | refine blk_alloc ?_ _)); exact BK176.out⟩, ⟨by (with_reducible repeat (first | refine blk_drewN ?_ _ | refine blk_drew ?_ | refine blk_alloc ?_ _)); exact BK177.out⟩, ⟨by repeat (first | (with_reducible first | exact HB.out | apply below_alloc | apply pw_below_drewN | apply below_drew1 | refine below_set ?_ GE175.out | refine below_set ?_ GE176.out | refine below_set ?_ GE177.out) | exact HB.out)⟩⟩
  ·
   replace c8 := Bool.eq_false_iff.mpr c8
   subst c8
   rw [if_neg (show ¬ (false = true) by decide)] at H
   have H' := Aside0.mk H
   clear H
   have hnb17 := NB175_176.out
   have hnc17 := NB176_175.out
   have hnb18 := NB175_177.out
   have hnc18 := NB177_175.out
   obtain ⟨hcz19_0, hcz19_1, hfz19_0, hfz19_1⟩ := c2 BK175
   go_wp2_with (first | ((with_reducible refine gate_callee (f := 85) rfl ?_); refine goesL_ (some 7) rfl rfl Try.func85 (by kernel_rfl) rfl #[.agg #[.int .i64 a0_0, .int .i64 a0_1]] rfl (mapq rfl) ?_; (with_reducible refine (span_Span_above.calls a0_0 a0_1 false _ A7.out).mono ?_); rintro e w20 ⟨rfl, hb⟩; refine ⟨_, rfl, ?_⟩; replace BK175 := bb BK175 hb rfl; replace BK176 := bb BK176 hb rfl; replace BK177 := bb BK177 hb rfl; replace HB := hst HB hb rfl; (try clear hb)))
   go_meet
   case rel => exact ⟨_, (false), (by first | rfl | (simp; done) | (simp [*]; done)), H', ⟨by first | omega | exact Nat.le_refl _⟩, ⟨by (with_reducible repeat (first | refine blk_drewN ?_ _ | refine blk_drew ?_ | refine blk_alloc ?_ _)); exact BK175.out⟩, ⟨by (with_reducible repeat (first | refine blk_drewN ?_ _ | refine blk_drew ?_ | refine blk_alloc ?_ _)); exact BK176.out⟩, ⟨by (with_reducible repeat (first | refine blk_drewN ?_ _ | refine blk_drew ?_ | refine blk_alloc ?_ _)); exact BK177.out⟩, ⟨by repeat (first | (with_reducible first | exact HB.out | apply below_alloc | apply pw_below_drewN | apply below_drew1 | refine below_set ?_ GE175.out | refine below_set ?_ GE176.out | refine below_set ?_ GE177.out) | exact HB.out)⟩⟩
 case rest =>
  clear HC3
  try clear c1
  try clear p2
  try clear c7
  try clear c8
  try clear c10
  try clear c11
  try clear c14
  try clear c17
  try clear c18
  try clear hcz12_0
  try clear hcz12_1
  try clear hcz15_0
  try clear hcz15_1
  try clear hcz19_0
  try clear hcz19_1
  try clear hfz12_0
  try clear hfz12_1
  try clear hfz15_0
  try clear hfz15_1
  try clear hfz19_0
  try clear hfz19_1
  obtain ⟨kq, x5_2, rfl, HA, HJ2, BK175, BK176, BK177, HB⟩ := hcut
  cases kq with
  | zero => exact absurd HA.out (by simp [span_both.j0])
  | succ kj2 =>
   have H := HA.out
   clear HA
   simp only [span_both.j0] at H
   by_cases c21 : x5_2 = true
   ·
    subst c21
    rw [if_pos rfl] at H
    obtain ⟨ji22, hji22⟩ : ∃ j_ : Int, (mn a0_1 a1_1) = j_ := ⟨_, rfl⟩
    replace H : (some (0, ji22)) = some (r1, r2) := by first | (rw [hji22] at H; exact H) | (simp only [hji22] at H ⊢; exact H)
    have hji22_ : (if a1_1 < a0_1 then a1_1 else a0_1) = ji22 := hji22
    simp only [Option.some.injEq, Prod.mk.injEq] at H
    obtain ⟨rfl, rfl⟩ := H
    have hnb23 := NB175_176.out
    have hnc23 := NB176_175.out
    have hnb24 := NB175_177.out
    have hnc24 := NB177_175.out
    obtain ⟨hcz25_0, hcz25_1, hfz25_0, hfz25_1⟩ := c2 BK175
    have hnb26 := NB176_177.out
    have hnc26 := NB177_176.out
    obtain ⟨hcz27_0, hcz27_1, hfz27_0, hfz27_1⟩ := c2 BK176
    obtain ⟨hcz28_0, hcz28_1, hfz28_0, hfz28_1⟩ := c2 BK177
    go_wp2
    refine bodyPost_ret (results_cell_row rfl _ _ gb177 59 #[.int .i64 0, .int .i64 ji22] (0, 0) _ rfl (by (with_reducible repeat (first | refine blk_drewN ?_ _ | refine blk_drew ?_ | refine blk_alloc ?_ _)); refine blk_put (cs := #[.int .i64 0, .int .i64 0]) ?_ 1 _ rfl; (with_reducible repeat (first | refine blk_drewN ?_ _ | refine blk_drew ?_ | refine blk_alloc ?_ _)); refine blk_put (cs := #[.int .i64 0, .int .i64 0]) ?_ 0 _ rfl; (with_reducible repeat (first | refine blk_drewN ?_ _ | refine blk_drew ?_ | refine blk_alloc ?_ _)); exact BK177.out) Try.underlying59 rfl (by kernel_rfl)) rfl ?_
    exact ⟨by first | rfl | (simp [errW_none, errW_some] <;> rfl) | (simp only [← hji22]; first | rfl | (simp [errW_none, errW_some] <;> rfl)) | (simp [*, errW_none, errW_some] <;> rfl), by repeat (first | (with_reducible first | exact HB.out | apply below_alloc | apply pw_below_drewN | apply below_drew1 | refine below_set ?_ GE175.out | refine below_set ?_ GE176.out | refine below_set ?_ GE177.out) | exact HB.out)⟩
   ·
    replace c21 := Bool.eq_false_iff.mpr c21
    subst c21
    rw [if_neg (show ¬ (false = true) by decide)] at H
    replace H := Option.bind_eq_some_iff.mp H
    obtain ⟨t180, A290, H⟩ := H
    (try dsimp only at H)
    have A29 := Aside0.mk A290
    clear A290
    by_cases c30 : t180 = true
    ·
     subst c30
     rw [if_pos rfl] at H
     simp only [Option.some.injEq, Prod.mk.injEq] at H
     obtain ⟨rfl, rfl⟩ := H
     have hnb31 := NB175_176.out
     have hnc31 := NB176_175.out
     have hnb32 := NB175_177.out
     have hnc32 := NB177_175.out
     obtain ⟨hcz33_0, hcz33_1, hfz33_0, hfz33_1⟩ := c2 BK175
     go_wp2_with (first | ((with_reducible refine gate_callee (f := 85) rfl ?_); refine goesL_ (some 20) rfl rfl Try.func85 (by kernel_rfl) rfl #[.agg #[.int .i64 a0_0, .int .i64 a0_1]] rfl (mapq rfl) ?_; (with_reducible refine (span_Span_above.calls a0_0 a0_1 true _ A29.out).mono ?_); rintro e w34 ⟨rfl, hb⟩; refine ⟨_, rfl, ?_⟩; replace BK175 := bb BK175 hb rfl; replace BK176 := bb BK176 hb rfl; replace BK177 := bb BK177 hb rfl; replace HB := hst HB hb rfl; (try clear hb); obtain ⟨hcz35_0, hcz35_1, hfz35_0, hfz35_1⟩ := c2 BK175; have hnb36 := NB177_176.out; have hnc36 := NB176_177.out; obtain ⟨hcz37_0, hcz37_1, hfz37_0, hfz37_1⟩ := c2 BK177))
     refine bodyPost_ret (results_cell_row rfl _ _ gb177 59 #[.int .i64 0, .int .i64 a0_1] (0, 0) _ rfl (by (with_reducible repeat (first | refine blk_drewN ?_ _ | refine blk_drew ?_ | refine blk_alloc ?_ _)); refine blk_put (cs := #[.int .i64 0, .int .i64 0]) ?_ 1 _ rfl; (with_reducible repeat (first | refine blk_drewN ?_ _ | refine blk_drew ?_ | refine blk_alloc ?_ _)); refine blk_put (cs := #[.int .i64 0, .int .i64 0]) ?_ 0 _ rfl; (with_reducible repeat (first | refine blk_drewN ?_ _ | refine blk_drew ?_ | refine blk_alloc ?_ _)); exact BK177.out) Try.underlying59 rfl (by kernel_rfl)) rfl ?_
     exact ⟨by first | rfl | (simp [*, errW_none, errW_some] <;> rfl), by repeat (first | (with_reducible first | exact HB.out | apply below_alloc | apply pw_below_drewN | apply below_drew1 | refine below_set ?_ GE175.out | refine below_set ?_ GE176.out | refine below_set ?_ GE177.out) | exact HB.out)⟩
    ·
     replace c30 := Bool.eq_false_iff.mpr c30
     subst c30
     rw [if_neg (show ¬ (false = true) by decide)] at H
     replace H := Option.bind_eq_some_iff.mp H
     obtain ⟨t181, A380, H⟩ := H
     (try dsimp only at H)
     have A38 := Aside0.mk A380
     clear A380
     by_cases c39 : t181 = true
     ·
      subst c39
      rw [if_pos rfl] at H
      simp only [Option.some.injEq, Prod.mk.injEq] at H
      obtain ⟨rfl, rfl⟩ := H
      have hnb40 := NB175_176.out
      have hnc40 := NB176_175.out
      have hnb41 := NB175_177.out
      have hnc41 := NB177_175.out
      obtain ⟨hcz42_0, hcz42_1, hfz42_0, hfz42_1⟩ := c2 BK175
      go_wp2_with (first | ((with_reducible refine gate_callee (f := 85) rfl ?_); refine goesL_ (some 20) rfl rfl Try.func85 (by kernel_rfl) rfl #[.agg #[.int .i64 a0_0, .int .i64 a0_1]] rfl (mapq rfl) ?_; (with_reducible refine (span_Span_above.calls a0_0 a0_1 false _ A29.out).mono ?_); rintro e w43 ⟨rfl, hb⟩; refine ⟨_, rfl, ?_⟩; replace BK175 := bb BK175 hb rfl; replace BK176 := bb BK176 hb rfl; replace BK177 := bb BK177 hb rfl; replace HB := hst HB hb rfl; (try clear hb); have hnb44 := NB176_177.out; have hnc44 := NB177_176.out; obtain ⟨hcz45_0, hcz45_1, hfz45_0, hfz45_1⟩ := c2 BK176) | ((with_reducible refine gate_callee (f := 85) rfl ?_); refine goesL_ (some 26) rfl rfl Try.func85 (by kernel_rfl) rfl #[.agg #[.int .i64 a1_0, .int .i64 a1_1]] rfl (mapq rfl) ?_; (with_reducible refine (span_Span_above.calls a1_0 a1_1 true _ A38.out).mono ?_); rintro e w46 ⟨rfl, hb⟩; refine ⟨_, rfl, ?_⟩; replace BK175 := bb BK175 hb rfl; replace BK176 := bb BK176 hb rfl; replace BK177 := bb BK177 hb rfl; replace HB := hst HB hb rfl; (try clear hb); obtain ⟨hcz47_0, hcz47_1, hfz47_0, hfz47_1⟩ := c2 BK176; obtain ⟨hcz48_0, hcz48_1, hfz48_0, hfz48_1⟩ := c2 BK177))
      refine bodyPost_ret (results_cell_row rfl _ _ gb177 59 #[.int .i64 0, .int .i64 a1_1] (0, 0) _ rfl (by (with_reducible repeat (first | refine blk_drewN ?_ _ | refine blk_drew ?_ | refine blk_alloc ?_ _)); refine blk_put (cs := #[.int .i64 0, .int .i64 0]) ?_ 1 _ rfl; (with_reducible repeat (first | refine blk_drewN ?_ _ | refine blk_drew ?_ | refine blk_alloc ?_ _)); refine blk_put (cs := #[.int .i64 0, .int .i64 0]) ?_ 0 _ rfl; (with_reducible repeat (first | refine blk_drewN ?_ _ | refine blk_drew ?_ | refine blk_alloc ?_ _)); exact BK177.out) Try.underlying59 rfl (by kernel_rfl)) rfl ?_
      exact ⟨by first | rfl | (simp [*, errW_none, errW_some] <;> rfl), by repeat (first | (with_reducible first | exact HB.out | apply below_alloc | apply pw_below_drewN | apply below_drew1 | refine below_set ?_ GE175.out | refine below_set ?_ GE176.out | refine below_set ?_ GE177.out) | exact HB.out)⟩
     ·
      replace c39 := Bool.eq_false_iff.mpr c39
      subst c39
      rw [if_neg (show ¬ (false = true) by decide)] at H
      replace H := Option.bind_eq_some_iff.mp H
      obtain ⟨t182, A490, H⟩ := H
      (try dsimp only at H)
      have A49 := Aside0.mk A490
      clear A490
      by_cases c50 : t182 = true
      ·
       subst c50
       rw [if_pos rfl] at H
       replace H := Option.bind_eq_some_iff.mp H
       obtain ⟨t183, A510, H⟩ := H
       (try dsimp only at H)
       have A51 := Aside0.mk A510
       clear A510
       by_cases c52 : t183 = true
       ·
        subst c52
        rw [if_pos rfl] at H
        obtain ⟨ji53, hji53⟩ : ∃ j_ : Int, (mn a0_1 a1_1) = j_ := ⟨_, rfl⟩
        replace H : (some ((-9223372036854775808), ji53)) = some (r1, r2) := by first | (rw [hji53] at H; exact H) | (simp only [hji53] at H ⊢; exact H)
        (try rw [hji53] at A29)
        (try rw [hji53] at A38)
        (try rw [hji53] at A49)
        (try rw [hji53] at A51)
        have hji53_ : (if a1_1 < a0_1 then a1_1 else a0_1) = ji53 := hji53
        simp only [Option.some.injEq, Prod.mk.injEq] at H
        obtain ⟨rfl, rfl⟩ := H
        have hnb54 := NB175_176.out
        have hnc54 := NB176_175.out
        have hnb55 := NB175_177.out
        have hnc55 := NB177_175.out
        obtain ⟨hcz56_0, hcz56_1, hfz56_0, hfz56_1⟩ := c2 BK175
        go_wp2_with (first | ((with_reducible refine gate_callee (f := 85) rfl ?_); refine goesL_ (some 20) rfl rfl Try.func85 (by kernel_rfl) rfl #[.agg #[.int .i64 a0_0, .int .i64 a0_1]] rfl (mapq rfl) ?_; (with_reducible refine (span_Span_above.calls a0_0 a0_1 false _ A29.out).mono ?_); rintro e w57 ⟨rfl, hb⟩; refine ⟨_, rfl, ?_⟩; replace BK175 := bb BK175 hb rfl; replace BK176 := bb BK176 hb rfl; replace BK177 := bb BK177 hb rfl; replace HB := hst HB hb rfl; (try clear hb); have hnb58 := NB176_177.out; have hnc58 := NB177_176.out; obtain ⟨hcz59_0, hcz59_1, hfz59_0, hfz59_1⟩ := c2 BK176) | ((with_reducible refine gate_callee (f := 85) rfl ?_); refine goesL_ (some 26) rfl rfl Try.func85 (by kernel_rfl) rfl #[.agg #[.int .i64 a1_0, .int .i64 a1_1]] rfl (mapq rfl) ?_; (with_reducible refine (span_Span_above.calls a1_0 a1_1 false _ A38.out).mono ?_); rintro e w60 ⟨rfl, hb⟩; refine ⟨_, rfl, ?_⟩; replace BK175 := bb BK175 hb rfl; replace BK176 := bb BK176 hb rfl; replace BK177 := bb BK177 hb rfl; replace HB := hst HB hb rfl; (try clear hb); obtain ⟨hcz61_0, hcz61_1, hfz61_0, hfz61_1⟩ := c2 BK175) | ((with_reducible refine gate_callee (f := 86) rfl ?_); refine goesL_ (some 32) rfl rfl Try.func86 (by kernel_rfl) rfl #[.agg #[.int .i64 a0_0, .int .i64 a0_1]] rfl (mapq rfl) ?_; (with_reducible refine (span_Span_below.calls a0_0 a0_1 true _ A49.out).mono ?_); rintro e w62 ⟨rfl, hb⟩; refine ⟨_, rfl, ?_⟩; replace BK175 := bb BK175 hb rfl; replace BK176 := bb BK176 hb rfl; replace BK177 := bb BK177 hb rfl; replace HB := hst HB hb rfl; (try clear hb); obtain ⟨hcz63_0, hcz63_1, hfz63_0, hfz63_1⟩ := c2 BK176) | (go_at_call 86; (with_reducible refine (span_Span_below.calls a1_0 a1_1 true _ A51.out).mono ?_); rintro e w64 ⟨rfl, hb⟩; replace BK175 := bb BK175 hb rfl; replace BK176 := bb BK176 hb rfl; replace BK177 := bb BK177 hb rfl; replace HB := hst HB hb rfl; (try clear hb); obtain ⟨hcz65_0, hcz65_1, hfz65_0, hfz65_1⟩ := c2 BK175; obtain ⟨hcz66_0, hcz66_1, hfz66_0, hfz66_1⟩ := c2 BK176; obtain ⟨hcz67_0, hcz67_1, hfz67_0, hfz67_1⟩ := c2 BK177))
        refine bodyPost_ret (results_cell_row rfl _ _ gb177 59 #[.int .i64 (-9223372036854775808), .int .i64 ji53] (0, 0) _ rfl (by (with_reducible repeat (first | refine blk_drewN ?_ _ | refine blk_drew ?_ | refine blk_alloc ?_ _)); refine blk_put (cs := #[.int .i64 (-9223372036854775808), .int .i64 0]) ?_ 1 _ rfl; (with_reducible repeat (first | refine blk_drewN ?_ _ | refine blk_drew ?_ | refine blk_alloc ?_ _)); refine blk_put (cs := #[.int .i64 0, .int .i64 0]) ?_ 0 _ rfl; (with_reducible repeat (first | refine blk_drewN ?_ _ | refine blk_drew ?_ | refine blk_alloc ?_ _)); exact BK177.out) Try.underlying59 rfl (by kernel_rfl)) rfl ?_
        exact ⟨by first | rfl | (simp [errW_none, errW_some] <;> rfl) | (simp only [← hji53]; first | rfl | (simp [errW_none, errW_some] <;> rfl)) | (simp [*, errW_none, errW_some] <;> rfl), by repeat (first | (with_reducible first | exact HB.out | apply below_alloc | apply pw_below_drewN | apply below_drew1 | refine below_set ?_ GE175.out | refine below_set ?_ GE176.out | refine below_set ?_ GE177.out) | exact HB.out)⟩
       ·
        replace c52 := Bool.eq_false_iff.mpr c52
        subst c52
        rw [if_neg (show ¬ (false = true) by decide)] at H
        obtain ⟨ji68, hji68⟩ : ∃ j_ : Int, (mx a0_1 a1_1) = j_ := ⟨_, rfl⟩
        replace H : (some ((-9223372036854775808), ji68)) = some (r1, r2) := by first | (rw [hji68] at H; exact H) | (simp only [hji68] at H ⊢; exact H)
        (try rw [hji68] at A29)
        (try rw [hji68] at A38)
        (try rw [hji68] at A49)
        (try rw [hji68] at A51)
        have hji68_ : (if a0_1 < a1_1 then a1_1 else a0_1) = ji68 := hji68
        simp only [Option.some.injEq, Prod.mk.injEq] at H
        obtain ⟨rfl, rfl⟩ := H
        have hnb69 := NB175_176.out
        have hnc69 := NB176_175.out
        have hnb70 := NB175_177.out
        have hnc70 := NB177_175.out
        obtain ⟨hcz71_0, hcz71_1, hfz71_0, hfz71_1⟩ := c2 BK175
        go_wp2_with (first | ((with_reducible refine gate_callee (f := 85) rfl ?_); refine goesL_ (some 20) rfl rfl Try.func85 (by kernel_rfl) rfl #[.agg #[.int .i64 a0_0, .int .i64 a0_1]] rfl (mapq rfl) ?_; (with_reducible refine (span_Span_above.calls a0_0 a0_1 false _ A29.out).mono ?_); rintro e w72 ⟨rfl, hb⟩; refine ⟨_, rfl, ?_⟩; replace BK175 := bb BK175 hb rfl; replace BK176 := bb BK176 hb rfl; replace BK177 := bb BK177 hb rfl; replace HB := hst HB hb rfl; (try clear hb); have hnb73 := NB176_177.out; have hnc73 := NB177_176.out; obtain ⟨hcz74_0, hcz74_1, hfz74_0, hfz74_1⟩ := c2 BK176) | ((with_reducible refine gate_callee (f := 85) rfl ?_); refine goesL_ (some 26) rfl rfl Try.func85 (by kernel_rfl) rfl #[.agg #[.int .i64 a1_0, .int .i64 a1_1]] rfl (mapq rfl) ?_; (with_reducible refine (span_Span_above.calls a1_0 a1_1 false _ A38.out).mono ?_); rintro e w75 ⟨rfl, hb⟩; refine ⟨_, rfl, ?_⟩; replace BK175 := bb BK175 hb rfl; replace BK176 := bb BK176 hb rfl; replace BK177 := bb BK177 hb rfl; replace HB := hst HB hb rfl; (try clear hb); obtain ⟨hcz76_0, hcz76_1, hfz76_0, hfz76_1⟩ := c2 BK175) | ((with_reducible refine gate_callee (f := 86) rfl ?_); refine goesL_ (some 32) rfl rfl Try.func86 (by kernel_rfl) rfl #[.agg #[.int .i64 a0_0, .int .i64 a0_1]] rfl (mapq rfl) ?_; (with_reducible refine (span_Span_below.calls a0_0 a0_1 true _ A49.out).mono ?_); rintro e w77 ⟨rfl, hb⟩; refine ⟨_, rfl, ?_⟩; replace BK175 := bb BK175 hb rfl; replace BK176 := bb BK176 hb rfl; replace BK177 := bb BK177 hb rfl; replace HB := hst HB hb rfl; (try clear hb); obtain ⟨hcz78_0, hcz78_1, hfz78_0, hfz78_1⟩ := c2 BK176) | (go_at_call 86; (with_reducible refine (span_Span_below.calls a1_0 a1_1 false _ A51.out).mono ?_); rintro e w79 ⟨rfl, hb⟩; replace BK175 := bb BK175 hb rfl; replace BK176 := bb BK176 hb rfl; replace BK177 := bb BK177 hb rfl; replace HB := hst HB hb rfl; (try clear hb); obtain ⟨hcz80_0, hcz80_1, hfz80_0, hfz80_1⟩ := c2 BK175; obtain ⟨hcz81_0, hcz81_1, hfz81_0, hfz81_1⟩ := c2 BK176; obtain ⟨hcz82_0, hcz82_1, hfz82_0, hfz82_1⟩ := c2 BK177))
        refine bodyPost_ret (results_cell_row rfl _ _ gb177 59 #[.int .i64 (-9223372036854775808), .int .i64 ji68] (0, 0) _ rfl (by (with_reducible repeat (first | refine blk_drewN ?_ _ | refine blk_drew ?_ | refine blk_alloc ?_ _)); refine blk_put (cs := #[.int .i64 (-9223372036854775808), .int .i64 0]) ?_ 1 _ rfl; (with_reducible repeat (first | refine blk_drewN ?_ _ | refine blk_drew ?_ | refine blk_alloc ?_ _)); refine blk_put (cs := #[.int .i64 0, .int .i64 0]) ?_ 0 _ rfl; (with_reducible repeat (first | refine blk_drewN ?_ _ | refine blk_drew ?_ | refine blk_alloc ?_ _)); exact BK177.out) Try.underlying59 rfl (by kernel_rfl)) rfl ?_
        exact ⟨by first | rfl | (simp [errW_none, errW_some] <;> rfl) | (simp only [← hji68]; first | rfl | (simp [errW_none, errW_some] <;> rfl)) | (simp [*, errW_none, errW_some] <;> rfl), by repeat (first | (with_reducible first | exact HB.out | apply below_alloc | apply pw_below_drewN | apply below_drew1 | refine below_set ?_ GE175.out | refine below_set ?_ GE176.out | refine below_set ?_ GE177.out) | exact HB.out)⟩
      ·
       replace c50 := Bool.eq_false_iff.mpr c50
       subst c50
       rw [if_neg (show ¬ (false = true) by decide)] at H
       obtain ⟨ji83, hji83⟩ : ∃ j_ : Int, (mx a0_1 a1_1) = j_ := ⟨_, rfl⟩
       replace H : (some ((-9223372036854775808), ji83)) = some (r1, r2) := by first | (rw [hji83] at H; exact H) | (simp only [hji83] at H ⊢; exact H)
       (try rw [hji83] at A29)
       (try rw [hji83] at A38)
       (try rw [hji83] at A49)
       have hji83_ : (if a0_1 < a1_1 then a1_1 else a0_1) = ji83 := hji83
       simp only [Option.some.injEq, Prod.mk.injEq] at H
       obtain ⟨rfl, rfl⟩ := H
       have hnb84 := NB175_176.out
       have hnc84 := NB176_175.out
       have hnb85 := NB175_177.out
       have hnc85 := NB177_175.out
       obtain ⟨hcz86_0, hcz86_1, hfz86_0, hfz86_1⟩ := c2 BK175
       go_wp2_with (first | ((with_reducible refine gate_callee (f := 85) rfl ?_); refine goesL_ (some 20) rfl rfl Try.func85 (by kernel_rfl) rfl #[.agg #[.int .i64 a0_0, .int .i64 a0_1]] rfl (mapq rfl) ?_; (with_reducible refine (span_Span_above.calls a0_0 a0_1 false _ A29.out).mono ?_); rintro e w87 ⟨rfl, hb⟩; refine ⟨_, rfl, ?_⟩; replace BK175 := bb BK175 hb rfl; replace BK176 := bb BK176 hb rfl; replace BK177 := bb BK177 hb rfl; replace HB := hst HB hb rfl; (try clear hb); have hnb88 := NB176_177.out; have hnc88 := NB177_176.out; obtain ⟨hcz89_0, hcz89_1, hfz89_0, hfz89_1⟩ := c2 BK176) | ((with_reducible refine gate_callee (f := 85) rfl ?_); refine goesL_ (some 26) rfl rfl Try.func85 (by kernel_rfl) rfl #[.agg #[.int .i64 a1_0, .int .i64 a1_1]] rfl (mapq rfl) ?_; (with_reducible refine (span_Span_above.calls a1_0 a1_1 false _ A38.out).mono ?_); rintro e w90 ⟨rfl, hb⟩; refine ⟨_, rfl, ?_⟩; replace BK175 := bb BK175 hb rfl; replace BK176 := bb BK176 hb rfl; replace BK177 := bb BK177 hb rfl; replace HB := hst HB hb rfl; (try clear hb); obtain ⟨hcz91_0, hcz91_1, hfz91_0, hfz91_1⟩ := c2 BK175) | ((with_reducible refine gate_callee (f := 86) rfl ?_); refine goesL_ (some 32) rfl rfl Try.func86 (by kernel_rfl) rfl #[.agg #[.int .i64 a0_0, .int .i64 a0_1]] rfl (mapq rfl) ?_; (with_reducible refine (span_Span_below.calls a0_0 a0_1 false _ A49.out).mono ?_); rintro e w92 ⟨rfl, hb⟩; refine ⟨_, rfl, ?_⟩; replace BK175 := bb BK175 hb rfl; replace BK176 := bb BK176 hb rfl; replace BK177 := bb BK177 hb rfl; replace HB := hst HB hb rfl; (try clear hb); obtain ⟨hcz93_0, hcz93_1, hfz93_0, hfz93_1⟩ := c2 BK175; obtain ⟨hcz94_0, hcz94_1, hfz94_0, hfz94_1⟩ := c2 BK176; obtain ⟨hcz95_0, hcz95_1, hfz95_0, hfz95_1⟩ := c2 BK177))
       refine bodyPost_ret (results_cell_row rfl _ _ gb177 59 #[.int .i64 (-9223372036854775808), .int .i64 ji83] (0, 0) _ rfl (by (with_reducible repeat (first | refine blk_drewN ?_ _ | refine blk_drew ?_ | refine blk_alloc ?_ _)); refine blk_put (cs := #[.int .i64 (-9223372036854775808), .int .i64 0]) ?_ 1 _ rfl; (with_reducible repeat (first | refine blk_drewN ?_ _ | refine blk_drew ?_ | refine blk_alloc ?_ _)); refine blk_put (cs := #[.int .i64 0, .int .i64 0]) ?_ 0 _ rfl; (with_reducible repeat (first | refine blk_drewN ?_ _ | refine blk_drew ?_ | refine blk_alloc ?_ _)); exact BK177.out) Try.underlying59 rfl (by kernel_rfl)) rfl ?_
       exact ⟨by first | rfl | (simp [errW_none, errW_some] <;> rfl) | (simp only [← hji83]; first | rfl | (simp [errW_none, errW_some] <;> rfl)) | (simp [*, errW_none, errW_some] <;> rfl), by repeat (first | (with_reducible first | exact HB.out | apply below_alloc | apply pw_below_drewN | apply below_drew1 | refine below_set ?_ GE175.out | refine below_set ?_ GE176.out | refine below_set ?_ GE177.out) | exact HB.out)⟩

/-! ### bits_Len64: function 91 -/
def bits_Len64.j0 : Nat → Int → Int → Option (Int)
 | 0, _, _ => none
 | k + 1, x0, x2 => if x0 ≥ 65536 then (if (x0 / 65536) ≥ 256 then (if 0 ≤ (((x0 / 65536) / 256) % 256) then (if (((x0 / 65536) / 256) % 256) < 256 then (some (wrap64 ((wrap64 ((wrap64 (x2 + 16)) + 8)) + (wrap64 (bt (⟨#[0, 1, 2, 2, 3, 3, 3, 3, 4, 4, 4, 4, 4, 4, 4, 4, 5, 5, 5, 5, 5, 5, 5, 5, 5, 5, 5, 5, 5, 5, 5, 5, 6, 6, 6, 6, 6, 6, 6, 6, 6, 6, 6, 6, 6, 6, 6, 6, 6, 6, 6, 6, 6, 6, 6, 6, 6, 6, 6, 6, 6, 6, 6, 6, 7, 7, 7, 7, 7, 7, 7, 7, 7, 7, 7, 7, 7, 7, 7, 7, 7, 7, 7, 7, 7, 7, 7, 7, 7, 7, 7, 7, 7, 7, 7, 7, 7, 7, 7, 7, 7, 7, 7, 7, 7, 7, 7, 7, 7, 7, 7, 7, 7, 7, 7, 7, 7, 7, 7, 7, 7, 7, 7, 7, 7, 7, 7, 7, 8, 8, 8, 8, 8, 8, 8, 8, 8, 8, 8, 8, 8, 8, 8, 8, 8, 8, 8, 8, 8, 8, 8, 8, 8, 8, 8, 8, 8, 8, 8, 8, 8, 8, 8, 8, 8, 8, 8, 8, 8, 8, 8, 8, 8, 8, 8, 8, 8, 8, 8, 8, 8, 8, 8, 8, 8, 8, 8, 8, 8, 8, 8, 8, 8, 8, 8, 8, 8, 8, 8, 8, 8, 8, 8, 8, 8, 8, 8, 8, 8, 8, 8, 8, 8, 8, 8, 8, 8, 8, 8, 8, 8, 8, 8, 8, 8, 8, 8, 8, 8, 8, 8, 8, 8, 8, 8, 8, 8, 8, 8, 8, 8, 8, 8, 8, 8, 8, 8, 8, 8, 8, 8, 8, 8, 8, 8, 8]⟩ : ByteArray) (((x0 / 65536) / 256) % 256)))))) else (none)) else (none)) else (if 0 ≤ ((x0 / 65536) % 256) then (if ((x0 / 65536) % 256) < 256 then (some (wrap64 ((wrap64 (x2 + 16)) + (wrap64 (bt (⟨#[0, 1, 2, 2, 3, 3, 3, 3, 4, 4, 4, 4, 4, 4, 4, 4, 5, 5, 5, 5, 5, 5, 5, 5, 5, 5, 5, 5, 5, 5, 5, 5, 6, 6, 6, 6, 6, 6, 6, 6, 6, 6, 6, 6, 6, 6, 6, 6, 6, 6, 6, 6, 6, 6, 6, 6, 6, 6, 6, 6, 6, 6, 6, 6, 7, 7, 7, 7, 7, 7, 7, 7, 7, 7, 7, 7, 7, 7, 7, 7, 7, 7, 7, 7, 7, 7, 7, 7, 7, 7, 7, 7, 7, 7, 7, 7, 7, 7, 7, 7, 7, 7, 7, 7, 7, 7, 7, 7, 7, 7, 7, 7, 7, 7, 7, 7, 7, 7, 7, 7, 7, 7, 7, 7, 7, 7, 7, 7, 8, 8, 8, 8, 8, 8, 8, 8, 8, 8, 8, 8, 8, 8, 8, 8, 8, 8, 8, 8, 8, 8, 8, 8, 8, 8, 8, 8, 8, 8, 8, 8, 8, 8, 8, 8, 8, 8, 8, 8, 8, 8, 8, 8, 8, 8, 8, 8, 8, 8, 8, 8, 8, 8, 8, 8, 8, 8, 8, 8, 8, 8, 8, 8, 8, 8, 8, 8, 8, 8, 8, 8, 8, 8, 8, 8, 8, 8, 8, 8, 8, 8, 8, 8, 8, 8, 8, 8, 8, 8, 8, 8, 8, 8, 8, 8, 8, 8, 8, 8, 8, 8, 8, 8, 8, 8, 8, 8, 8, 8, 8, 8, 8, 8, 8, 8, 8, 8, 8, 8, 8, 8, 8, 8, 8, 8, 8, 8]⟩ : ByteArray) ((x0 / 65536) % 256)))))) else (none)) else (none))) else (if x0 ≥ 256 then (if 0 ≤ ((x0 / 256) % 256) then (if ((x0 / 256) % 256) < 256 then (some (wrap64 ((wrap64 (x2 + 8)) + (wrap64 (bt (⟨#[0, 1, 2, 2, 3, 3, 3, 3, 4, 4, 4, 4, 4, 4, 4, 4, 5, 5, 5, 5, 5, 5, 5, 5, 5, 5, 5, 5, 5, 5, 5, 5, 6, 6, 6, 6, 6, 6, 6, 6, 6, 6, 6, 6, 6, 6, 6, 6, 6, 6, 6, 6, 6, 6, 6, 6, 6, 6, 6, 6, 6, 6, 6, 6, 7, 7, 7, 7, 7, 7, 7, 7, 7, 7, 7, 7, 7, 7, 7, 7, 7, 7, 7, 7, 7, 7, 7, 7, 7, 7, 7, 7, 7, 7, 7, 7, 7, 7, 7, 7, 7, 7, 7, 7, 7, 7, 7, 7, 7, 7, 7, 7, 7, 7, 7, 7, 7, 7, 7, 7, 7, 7, 7, 7, 7, 7, 7, 7, 8, 8, 8, 8, 8, 8, 8, 8, 8, 8, 8, 8, 8, 8, 8, 8, 8, 8, 8, 8, 8, 8, 8, 8, 8, 8, 8, 8, 8, 8, 8, 8, 8, 8, 8, 8, 8, 8, 8, 8, 8, 8, 8, 8, 8, 8, 8, 8, 8, 8, 8, 8, 8, 8, 8, 8, 8, 8, 8, 8, 8, 8, 8, 8, 8, 8, 8, 8, 8, 8, 8, 8, 8, 8, 8, 8, 8, 8, 8, 8, 8, 8, 8, 8, 8, 8, 8, 8, 8, 8, 8, 8, 8, 8, 8, 8, 8, 8, 8, 8, 8, 8, 8, 8, 8, 8, 8, 8, 8, 8, 8, 8, 8, 8, 8, 8, 8, 8, 8, 8, 8, 8, 8, 8, 8, 8, 8, 8]⟩ : ByteArray) ((x0 / 256) % 256)))))) else (none)) else (none)) else (if 0 ≤ ((x0) % 256) then (if ((x0) % 256) < 256 then (some (wrap64 (x2 + (wrap64 (bt (⟨#[0, 1, 2, 2, 3, 3, 3, 3, 4, 4, 4, 4, 4, 4, 4, 4, 5, 5, 5, 5, 5, 5, 5, 5, 5, 5, 5, 5, 5, 5, 5, 5, 6, 6, 6, 6, 6, 6, 6, 6, 6, 6, 6, 6, 6, 6, 6, 6, 6, 6, 6, 6, 6, 6, 6, 6, 6, 6, 6, 6, 6, 6, 6, 6, 7, 7, 7, 7, 7, 7, 7, 7, 7, 7, 7, 7, 7, 7, 7, 7, 7, 7, 7, 7, 7, 7, 7, 7, 7, 7, 7, 7, 7, 7, 7, 7, 7, 7, 7, 7, 7, 7, 7, 7, 7, 7, 7, 7, 7, 7, 7, 7, 7, 7, 7, 7, 7, 7, 7, 7, 7, 7, 7, 7, 7, 7, 7, 7, 8, 8, 8, 8, 8, 8, 8, 8, 8, 8, 8, 8, 8, 8, 8, 8, 8, 8, 8, 8, 8, 8, 8, 8, 8, 8, 8, 8, 8, 8, 8, 8, 8, 8, 8, 8, 8, 8, 8, 8, 8, 8, 8, 8, 8, 8, 8, 8, 8, 8, 8, 8, 8, 8, 8, 8, 8, 8, 8, 8, 8, 8, 8, 8, 8, 8, 8, 8, 8, 8, 8, 8, 8, 8, 8, 8, 8, 8, 8, 8, 8, 8, 8, 8, 8, 8, 8, 8, 8, 8, 8, 8, 8, 8, 8, 8, 8, 8, 8, 8, 8, 8, 8, 8, 8, 8, 8, 8, 8, 8, 8, 8, 8, 8, 8, 8, 8, 8, 8, 8, 8, 8, 8, 8, 8, 8, 8, 8]⟩ : ByteArray) ((x0) % 256)))))) else (none)) else (none)))
def bits_Len64.f (k : Nat) (a0 : Int) : Option (Int) := if a0 ≥ 4294967296 then (bits_Len64.j0 k (a0 / 4294967296) 32) else (bits_Len64.j0 k a0 0)
theorem bits_Len64.mono_l : ∀ k, (∀ y0 y1, LeO (bits_Len64.j0 k y0 y1) (bits_Len64.j0 (k + 1) y0 y1))
 | 0 => fun _ _ r h => by simp [bits_Len64.j0] at h
 | k + 1 => by
  have ih0 := bits_Len64.mono_l k
  ·
   intro y0 y1
   unfold bits_Len64.j0
   repeat' first
   | (with_reducible exact ih0 _ _)
   | (with_reducible exact LeO.refl _)
   | (with_reducible exact LeO.none _)
   | (with_reducible refine LeO.ite ?_ ?_)
   | (with_reducible refine LeO.bind ?_ (fun _ => ?_))
   | exact ih0 _ _
   | exact LeO.none _
   | refine LeO.ite ?_ ?_
   | refine LeO.bind ?_ (fun _ => ?_)
theorem bits_Len64.mono : ∀ a0 k, LeO (bits_Len64.f k a0) (bits_Len64.f (k + 1) a0) := by
 intro a0 k
 have ih0 := bits_Len64.mono_l k
 unfold bits_Len64.f
 repeat' first
   | (with_reducible exact ih0 _ _)
   | (with_reducible exact LeO.refl _)
   | (with_reducible exact LeO.none _)
   | (with_reducible refine LeO.ite ?_ ?_)
   | (with_reducible refine LeO.bind ?_ (fun _ => ?_))
   | exact ih0 _ _
   | exact LeO.none _
   | refine LeO.ite ?_ ?_
   | refine LeO.bind ?_ (fun _ => ?_)
set_option maxHeartbeats 8000000 in
set_option maxRecDepth 100000 in
theorem bits_Len64.calls (k : Nat) (a0 : Int) (r : Int) (w : World) (h : bits_Len64.f k a0 = some r) :
  Calls Try.prog 91 #[.int .u64 a0] w fun e w' => e = .returned (.int .i64 r) ∧ Drawn0 w w' := by
 have H : (if a0 ≥ 4294967296 then (bits_Len64.j0 k (a0 / 4294967296) 32) else (bits_Len64.j0 k a0 0)) = some r := h
 clear h
 have HC2 := Aside0.mk H
 clear H
 go_enter Try.func91, Try.ntmps91
 go_upto_if 4 with (fail)
 go_cut [0, 2] (fun v0 v2 wc => ∃ (kq : Nat) (x0_1 : Int) (x2_1 : Int), v0 = .int .u64 x0_1 ∧ v2 = .int .i64 x2_1 ∧ Aside0 (bits_Len64.j0 kq x0_1 x2_1 = some r) ∧ Aside0 (kq ≤ k) ∧ Drawn0 w wc)
 case first =>
  have H := HC2.out
  clear HC2
  by_cases c3 : a0 ≥ 4294967296
  ·
   rw [if_pos c3] at H
   have c3b0 : decide (4294967296 ≤ a0) = true := decide_eq_true c3
   clear c3
   (first | rw [c3b0] | (simp only [i64_w, i32_w]; rw [c3b0]) | skip)
   have H' := Aside0.mk H
   clear H
   go_wp2
   go_meet
   case rel => exact ⟨_, (a0 / 4294967296), (32), (by first | rfl | (simp; done) | (simp [*]; done)), (by first | rfl | (simp; done) | (simp [*]; done)), H', ⟨by first | omega | exact Nat.le_refl _⟩, by repeat (first | exact Drawn0.refl _ | apply Drawn0.step)⟩
  ·
   rw [if_neg c3] at H
   have c3b0 : decide (4294967296 ≤ a0) = false := decide_eq_false c3
   clear c3
   (first | rw [c3b0] | (simp only [i64_w, i32_w]; rw [c3b0]) | skip)
   have H' := Aside0.mk H
   clear H
   go_wp2
   go_meet
   case rel => exact ⟨_, (a0), (0), (by first | rfl | (simp; done) | (simp [*]; done)), (by first | rfl | (simp; done) | (simp [*]; done)), H', ⟨by first | omega | exact Nat.le_refl _⟩, by repeat (first | exact Drawn0.refl _ | apply Drawn0.step)⟩
 case rest =>
  clear HC2
  try clear p2
  try clear c3
  try clear c3b0
  obtain ⟨kq, x0_1, x2_1, rfl, rfl, HA, HJ1, ⟨mc1, rfl⟩⟩ := hcut
  cases kq with
  | zero => exact absurd HA.out (by simp [bits_Len64.j0])
  | succ kj1 =>
   have H := HA.out
   clear HA
   simp only [bits_Len64.j0] at H
   by_cases c4 : x0_1 ≥ 65536
   ·
    rw [if_pos c4] at H
    have c4b0 : decide (65536 ≤ x0_1) = true := decide_eq_true c4
    clear c4
    by_cases c5 : (x0_1 / 65536) ≥ 256
    ·
     rw [if_pos c5] at H
     have c5b0 : decide (256 ≤ (x0_1 / 65536)) = true := decide_eq_true c5
     clear c5
     obtain ⟨ji6, hji6⟩ : ∃ j_ : Int, (((x0_1 / 65536) / 256) % 256) = j_ := ⟨_, rfl⟩
     replace H : (if 0 ≤ (ji6) then (if (ji6) < 256 then (some (wrap64 ((wrap64 ((wrap64 (x2_1 + 16)) + 8)) + (wrap64 (bt (⟨#[0, 1, 2, 2, 3, 3, 3, 3, 4, 4, 4, 4, 4, 4, 4, 4, 5, 5, 5, 5, 5, 5, 5, 5, 5, 5, 5, 5, 5, 5, 5, 5, 6, 6, 6, 6, 6, 6, 6, 6, 6, 6, 6, 6, 6, 6, 6, 6, 6, 6, 6, 6, 6, 6, 6, 6, 6, 6, 6, 6, 6, 6, 6, 6, 7, 7, 7, 7, 7, 7, 7, 7, 7, 7, 7, 7, 7, 7, 7, 7, 7, 7, 7, 7, 7, 7, 7, 7, 7, 7, 7, 7, 7, 7, 7, 7, 7, 7, 7, 7, 7, 7, 7, 7, 7, 7, 7, 7, 7, 7, 7, 7, 7, 7, 7, 7, 7, 7, 7, 7, 7, 7, 7, 7, 7, 7, 7, 7, 8, 8, 8, 8, 8, 8, 8, 8, 8, 8, 8, 8, 8, 8, 8, 8, 8, 8, 8, 8, 8, 8, 8, 8, 8, 8, 8, 8, 8, 8, 8, 8, 8, 8, 8, 8, 8, 8, 8, 8, 8, 8, 8, 8, 8, 8, 8, 8, 8, 8, 8, 8, 8, 8, 8, 8, 8, 8, 8, 8, 8, 8, 8, 8, 8, 8, 8, 8, 8, 8, 8, 8, 8, 8, 8, 8, 8, 8, 8, 8, 8, 8, 8, 8, 8, 8, 8, 8, 8, 8, 8, 8, 8, 8, 8, 8, 8, 8, 8, 8, 8, 8, 8, 8, 8, 8, 8, 8, 8, 8, 8, 8, 8, 8, 8, 8, 8, 8, 8, 8, 8, 8, 8, 8, 8, 8, 8, 8]⟩ : ByteArray) (ji6)))))) else (none)) else (none)) = some r := by first | (rw [hji6] at H; exact H) | (simp only [hji6] at H ⊢; exact H)
     by_cases c7 : 0 ≤ (ji6)
     ·
      rw [if_pos c7] at H
      have c7b0 : decide (0 ≤ (ji6)) = true := decide_eq_true c7
      clear c7
      by_cases c8 : (ji6) < 256
      ·
       rw [if_pos c8] at H
       have c8b0 : decide ((ji6) < 256) = true := decide_eq_true c8
       clear c8
       obtain rfl := Option.some.inj H
       have p9 : 0 ≤ ((ji6) : Int) := of_decide_eq_true (by first | (with_reducible assumption) | assumption)
       have q9 : (ji6) < (256 : Int) := of_decide_eq_true (by first | (with_reducible assumption) | assumption)
       have hx9 := bt_at (⟨#[0, 1, 2, 2, 3, 3, 3, 3, 4, 4, 4, 4, 4, 4, 4, 4, 5, 5, 5, 5, 5, 5, 5, 5, 5, 5, 5, 5, 5, 5, 5, 5, 6, 6, 6, 6, 6, 6, 6, 6, 6, 6, 6, 6, 6, 6, 6, 6, 6, 6, 6, 6, 6, 6, 6, 6, 6, 6, 6, 6, 6, 6, 6, 6, 7, 7, 7, 7, 7, 7, 7, 7, 7, 7, 7, 7, 7, 7, 7, 7, 7, 7, 7, 7, 7, 7, 7, 7, 7, 7, 7, 7, 7, 7, 7, 7, 7, 7, 7, 7, 7, 7, 7, 7, 7, 7, 7, 7, 7, 7, 7, 7, 7, 7, 7, 7, 7, 7, 7, 7, 7, 7, 7, 7, 7, 7, 7, 7, 8, 8, 8, 8, 8, 8, 8, 8, 8, 8, 8, 8, 8, 8, 8, 8, 8, 8, 8, 8, 8, 8, 8, 8, 8, 8, 8, 8, 8, 8, 8, 8, 8, 8, 8, 8, 8, 8, 8, 8, 8, 8, 8, 8, 8, 8, 8, 8, 8, 8, 8, 8, 8, 8, 8, 8, 8, 8, 8, 8, 8, 8, 8, 8, 8, 8, 8, 8, 8, 8, 8, 8, 8, 8, 8, 8, 8, 8, 8, 8, 8, 8, 8, 8, 8, 8, 8, 8, 8, 8, 8, 8, 8, 8, 8, 8, 8, 8, 8, 8, 8, 8, 8, 8, 8, 8, 8, 8, 8, 8, 8, 8, 8, 8, 8, 8, 8, 8, 8, 8, 8, 8, 8, 8, 8, 8, 8, 8]⟩ : ByteArray) (ji6)
       replace p9 := eq_true p9
       replace q9 := eq_true q9
       go_wp2
       go_ret
       exact ⟨by first | rfl | (simp; done) | (simp only [← hji6] <;> (first | rfl | simp)) | (simp [*]; done), by repeat (first | exact Drawn0.refl _ | apply Drawn0.step)⟩
      ·
       rw [if_neg c8] at H
       exact absurd H (by simp)
     ·
      rw [if_neg c7] at H
      exact absurd H (by simp)
    ·
     rw [if_neg c5] at H
     have c5b0 : decide (256 ≤ (x0_1 / 65536)) = false := decide_eq_false c5
     clear c5
     obtain ⟨ji10, hji10⟩ : ∃ j_ : Int, ((x0_1 / 65536) % 256) = j_ := ⟨_, rfl⟩
     replace H : (if 0 ≤ (ji10) then (if (ji10) < 256 then (some (wrap64 ((wrap64 (x2_1 + 16)) + (wrap64 (bt (⟨#[0, 1, 2, 2, 3, 3, 3, 3, 4, 4, 4, 4, 4, 4, 4, 4, 5, 5, 5, 5, 5, 5, 5, 5, 5, 5, 5, 5, 5, 5, 5, 5, 6, 6, 6, 6, 6, 6, 6, 6, 6, 6, 6, 6, 6, 6, 6, 6, 6, 6, 6, 6, 6, 6, 6, 6, 6, 6, 6, 6, 6, 6, 6, 6, 7, 7, 7, 7, 7, 7, 7, 7, 7, 7, 7, 7, 7, 7, 7, 7, 7, 7, 7, 7, 7, 7, 7, 7, 7, 7, 7, 7, 7, 7, 7, 7, 7, 7, 7, 7, 7, 7, 7, 7, 7, 7, 7, 7, 7, 7, 7, 7, 7, 7, 7, 7, 7, 7, 7, 7, 7, 7, 7, 7, 7, 7, 7, 7, 8, 8, 8, 8, 8, 8, 8, 8, 8, 8, 8, 8, 8, 8, 8, 8, 8, 8, 8, 8, 8, 8, 8, 8, 8, 8, 8, 8, 8, 8, 8, 8, 8, 8, 8, 8, 8, 8, 8, 8, 8, 8, 8, 8, 8, 8, 8, 8, 8, 8, 8, 8, 8, 8, 8, 8, 8, 8, 8, 8, 8, 8, 8, 8, 8, 8, 8, 8, 8, 8, 8, 8, 8, 8, 8, 8, 8, 8, 8, 8, 8, 8, 8, 8, 8, 8, 8, 8, 8, 8, 8, 8, 8, 8, 8, 8, 8, 8, 8, 8, 8, 8, 8, 8, 8, 8, 8, 8, 8, 8, 8, 8, 8, 8, 8, 8, 8, 8, 8, 8, 8, 8, 8, 8, 8, 8, 8, 8]⟩ : ByteArray) (ji10)))))) else (none)) else (none)) = some r := by first | (rw [hji10] at H; exact H) | (simp only [hji10] at H ⊢; exact H)
     by_cases c11 : 0 ≤ (ji10)
     ·
      rw [if_pos c11] at H
      have c11b0 : decide (0 ≤ (ji10)) = true := decide_eq_true c11
      clear c11
      by_cases c12 : (ji10) < 256
      ·
       rw [if_pos c12] at H
       have c12b0 : decide ((ji10) < 256) = true := decide_eq_true c12
       clear c12
       obtain rfl := Option.some.inj H
       have p13 : 0 ≤ ((ji10) : Int) := of_decide_eq_true (by first | (with_reducible assumption) | assumption)
       have q13 : (ji10) < (256 : Int) := of_decide_eq_true (by first | (with_reducible assumption) | assumption)
       have hx13 := bt_at (⟨#[0, 1, 2, 2, 3, 3, 3, 3, 4, 4, 4, 4, 4, 4, 4, 4, 5, 5, 5, 5, 5, 5, 5, 5, 5, 5, 5, 5, 5, 5, 5, 5, 6, 6, 6, 6, 6, 6, 6, 6, 6, 6, 6, 6, 6, 6, 6, 6, 6, 6, 6, 6, 6, 6, 6, 6, 6, 6, 6, 6, 6, 6, 6, 6, 7, 7, 7, 7, 7, 7, 7, 7, 7, 7, 7, 7, 7, 7, 7, 7, 7, 7, 7, 7, 7, 7, 7, 7, 7, 7, 7, 7, 7, 7, 7, 7, 7, 7, 7, 7, 7, 7, 7, 7, 7, 7, 7, 7, 7, 7, 7, 7, 7, 7, 7, 7, 7, 7, 7, 7, 7, 7, 7, 7, 7, 7, 7, 7, 8, 8, 8, 8, 8, 8, 8, 8, 8, 8, 8, 8, 8, 8, 8, 8, 8, 8, 8, 8, 8, 8, 8, 8, 8, 8, 8, 8, 8, 8, 8, 8, 8, 8, 8, 8, 8, 8, 8, 8, 8, 8, 8, 8, 8, 8, 8, 8, 8, 8, 8, 8, 8, 8, 8, 8, 8, 8, 8, 8, 8, 8, 8, 8, 8, 8, 8, 8, 8, 8, 8, 8, 8, 8, 8, 8, 8, 8, 8, 8, 8, 8, 8, 8, 8, 8, 8, 8, 8, 8, 8, 8, 8, 8, 8, 8, 8, 8, 8, 8, 8, 8, 8, 8, 8, 8, 8, 8, 8, 8, 8, 8, 8, 8, 8, 8, 8, 8, 8, 8, 8, 8, 8, 8, 8, 8, 8, 8]⟩ : ByteArray) (ji10)
       replace p13 := eq_true p13
       replace q13 := eq_true q13
       go_wp2
       go_ret
       exact ⟨by first | rfl | (simp; done) | (simp only [← hji10] <;> (first | rfl | simp)) | (simp [*]; done), by repeat (first | exact Drawn0.refl _ | apply Drawn0.step)⟩
      ·
       rw [if_neg c12] at H
       exact absurd H (by simp)
     ·
      rw [if_neg c11] at H
      exact absurd H (by simp)
   ·
    rw [if_neg c4] at H
    have c4b0 : decide (65536 ≤ x0_1) = false := decide_eq_false c4
    clear c4
    by_cases c14 : x0_1 ≥ 256
    ·
     rw [if_pos c14] at H
     have c14b0 : decide (256 ≤ x0_1) = true := decide_eq_true c14
     clear c14
     obtain ⟨ji15, hji15⟩ : ∃ j_ : Int, ((x0_1 / 256) % 256) = j_ := ⟨_, rfl⟩
     replace H : (if 0 ≤ (ji15) then (if (ji15) < 256 then (some (wrap64 ((wrap64 (x2_1 + 8)) + (wrap64 (bt (⟨#[0, 1, 2, 2, 3, 3, 3, 3, 4, 4, 4, 4, 4, 4, 4, 4, 5, 5, 5, 5, 5, 5, 5, 5, 5, 5, 5, 5, 5, 5, 5, 5, 6, 6, 6, 6, 6, 6, 6, 6, 6, 6, 6, 6, 6, 6, 6, 6, 6, 6, 6, 6, 6, 6, 6, 6, 6, 6, 6, 6, 6, 6, 6, 6, 7, 7, 7, 7, 7, 7, 7, 7, 7, 7, 7, 7, 7, 7, 7, 7, 7, 7, 7, 7, 7, 7, 7, 7, 7, 7, 7, 7, 7, 7, 7, 7, 7, 7, 7, 7, 7, 7, 7, 7, 7, 7, 7, 7, 7, 7, 7, 7, 7, 7, 7, 7, 7, 7, 7, 7, 7, 7, 7, 7, 7, 7, 7, 7, 8, 8, 8, 8, 8, 8, 8, 8, 8, 8, 8, 8, 8, 8, 8, 8, 8, 8, 8, 8, 8, 8, 8, 8, 8, 8, 8, 8, 8, 8, 8, 8, 8, 8, 8, 8, 8, 8, 8, 8, 8, 8, 8, 8, 8, 8, 8, 8, 8, 8, 8, 8, 8, 8, 8, 8, 8, 8, 8, 8, 8, 8, 8, 8, 8, 8, 8, 8, 8, 8, 8, 8, 8, 8, 8, 8, 8, 8, 8, 8, 8, 8, 8, 8, 8, 8, 8, 8, 8, 8, 8, 8, 8, 8, 8, 8, 8, 8, 8, 8, 8, 8, 8, 8, 8, 8, 8, 8, 8, 8, 8, 8, 8, 8, 8, 8, 8, 8, 8, 8, 8, 8, 8, 8, 8, 8, 8, 8]⟩ : ByteArray) (ji15)))))) else (none)) else (none)) = some r := by first | (rw [hji15] at H; exact H) | (simp only [hji15] at H ⊢; exact H)
     by_cases c16 : 0 ≤ (ji15)
     ·
      rw [if_pos c16] at H
      have c16b0 : decide (0 ≤ (ji15)) = true := decide_eq_true c16
      clear c16
      by_cases c17 : (ji15) < 256
      ·
       rw [if_pos c17] at H
       have c17b0 : decide ((ji15) < 256) = true := decide_eq_true c17
       clear c17
       obtain rfl := Option.some.inj H
       have p18 : 0 ≤ ((ji15) : Int) := of_decide_eq_true (by first | (with_reducible assumption) | assumption)
       have q18 : (ji15) < (256 : Int) := of_decide_eq_true (by first | (with_reducible assumption) | assumption)
       have hx18 := bt_at (⟨#[0, 1, 2, 2, 3, 3, 3, 3, 4, 4, 4, 4, 4, 4, 4, 4, 5, 5, 5, 5, 5, 5, 5, 5, 5, 5, 5, 5, 5, 5, 5, 5, 6, 6, 6, 6, 6, 6, 6, 6, 6, 6, 6, 6, 6, 6, 6, 6, 6, 6, 6, 6, 6, 6, 6, 6, 6, 6, 6, 6, 6, 6, 6, 6, 7, 7, 7, 7, 7, 7, 7, 7, 7, 7, 7, 7, 7, 7, 7, 7, 7, 7, 7, 7, 7, 7, 7, 7, 7, 7, 7, 7, 7, 7, 7, 7, 7, 7, 7, 7, 7, 7, 7, 7, 7, 7, 7, 7, 7, 7, 7, 7, 7, 7, 7, 7, 7, 7, 7, 7, 7, 7, 7, 7, 7, 7, 7, 7, 8, 8, 8, 8, 8, 8, 8, 8, 8, 8, 8, 8, 8, 8, 8, 8, 8, 8, 8, 8, 8, 8, 8, 8, 8, 8, 8, 8, 8, 8, 8, 8, 8, 8, 8, 8, 8, 8, 8, 8, 8, 8, 8, 8, 8, 8, 8, 8, 8, 8, 8, 8, 8, 8, 8, 8, 8, 8, 8, 8, 8, 8, 8, 8, 8, 8, 8, 8, 8, 8, 8, 8, 8, 8, 8, 8, 8, 8, 8, 8, 8, 8, 8, 8, 8, 8, 8, 8, 8, 8, 8, 8, 8, 8, 8, 8, 8, 8, 8, 8, 8, 8, 8, 8, 8, 8, 8, 8, 8, 8, 8, 8, 8, 8, 8, 8, 8, 8, 8, 8, 8, 8, 8, 8, 8, 8, 8, 8]⟩ : ByteArray) (ji15)
       replace p18 := eq_true p18
       replace q18 := eq_true q18
       go_wp2
       go_ret
       exact ⟨by first | rfl | (simp; done) | (simp only [← hji15] <;> (first | rfl | simp)) | (simp [*]; done), by repeat (first | exact Drawn0.refl _ | apply Drawn0.step)⟩
      ·
       rw [if_neg c17] at H
       exact absurd H (by simp)
     ·
      rw [if_neg c16] at H
      exact absurd H (by simp)
    ·
     rw [if_neg c14] at H
     have c14b0 : decide (256 ≤ x0_1) = false := decide_eq_false c14
     clear c14
     obtain ⟨ji19, hji19⟩ : ∃ j_ : Int, ((x0_1) % 256) = j_ := ⟨_, rfl⟩
     replace H : (if 0 ≤ (ji19) then (if (ji19) < 256 then (some (wrap64 (x2_1 + (wrap64 (bt (⟨#[0, 1, 2, 2, 3, 3, 3, 3, 4, 4, 4, 4, 4, 4, 4, 4, 5, 5, 5, 5, 5, 5, 5, 5, 5, 5, 5, 5, 5, 5, 5, 5, 6, 6, 6, 6, 6, 6, 6, 6, 6, 6, 6, 6, 6, 6, 6, 6, 6, 6, 6, 6, 6, 6, 6, 6, 6, 6, 6, 6, 6, 6, 6, 6, 7, 7, 7, 7, 7, 7, 7, 7, 7, 7, 7, 7, 7, 7, 7, 7, 7, 7, 7, 7, 7, 7, 7, 7, 7, 7, 7, 7, 7, 7, 7, 7, 7, 7, 7, 7, 7, 7, 7, 7, 7, 7, 7, 7, 7, 7, 7, 7, 7, 7, 7, 7, 7, 7, 7, 7, 7, 7, 7, 7, 7, 7, 7, 7, 8, 8, 8, 8, 8, 8, 8, 8, 8, 8, 8, 8, 8, 8, 8, 8, 8, 8, 8, 8, 8, 8, 8, 8, 8, 8, 8, 8, 8, 8, 8, 8, 8, 8, 8, 8, 8, 8, 8, 8, 8, 8, 8, 8, 8, 8, 8, 8, 8, 8, 8, 8, 8, 8, 8, 8, 8, 8, 8, 8, 8, 8, 8, 8, 8, 8, 8, 8, 8, 8, 8, 8, 8, 8, 8, 8, 8, 8, 8, 8, 8, 8, 8, 8, 8, 8, 8, 8, 8, 8, 8, 8, 8, 8, 8, 8, 8, 8, 8, 8, 8, 8, 8, 8, 8, 8, 8, 8, 8, 8, 8, 8, 8, 8, 8, 8, 8, 8, 8, 8, 8, 8, 8, 8, 8, 8, 8, 8]⟩ : ByteArray) (ji19)))))) else (none)) else (none)) = some r := by first | (rw [hji19] at H; exact H) | (simp only [hji19] at H ⊢; exact H)
     by_cases c20 : 0 ≤ (ji19)
     ·
      rw [if_pos c20] at H
      have c20b0 : decide (0 ≤ (ji19)) = true := decide_eq_true c20
      clear c20
      by_cases c21 : (ji19) < 256
      ·
       rw [if_pos c21] at H
       have c21b0 : decide ((ji19) < 256) = true := decide_eq_true c21
       clear c21
       obtain rfl := Option.some.inj H
       have p22 : 0 ≤ ((ji19) : Int) := of_decide_eq_true (by first | (with_reducible assumption) | assumption)
       have q22 : (ji19) < (256 : Int) := of_decide_eq_true (by first | (with_reducible assumption) | assumption)
       have hx22 := bt_at (⟨#[0, 1, 2, 2, 3, 3, 3, 3, 4, 4, 4, 4, 4, 4, 4, 4, 5, 5, 5, 5, 5, 5, 5, 5, 5, 5, 5, 5, 5, 5, 5, 5, 6, 6, 6, 6, 6, 6, 6, 6, 6, 6, 6, 6, 6, 6, 6, 6, 6, 6, 6, 6, 6, 6, 6, 6, 6, 6, 6, 6, 6, 6, 6, 6, 7, 7, 7, 7, 7, 7, 7, 7, 7, 7, 7, 7, 7, 7, 7, 7, 7, 7, 7, 7, 7, 7, 7, 7, 7, 7, 7, 7, 7, 7, 7, 7, 7, 7, 7, 7, 7, 7, 7, 7, 7, 7, 7, 7, 7, 7, 7, 7, 7, 7, 7, 7, 7, 7, 7, 7, 7, 7, 7, 7, 7, 7, 7, 7, 8, 8, 8, 8, 8, 8, 8, 8, 8, 8, 8, 8, 8, 8, 8, 8, 8, 8, 8, 8, 8, 8, 8, 8, 8, 8, 8, 8, 8, 8, 8, 8, 8, 8, 8, 8, 8, 8, 8, 8, 8, 8, 8, 8, 8, 8, 8, 8, 8, 8, 8, 8, 8, 8, 8, 8, 8, 8, 8, 8, 8, 8, 8, 8, 8, 8, 8, 8, 8, 8, 8, 8, 8, 8, 8, 8, 8, 8, 8, 8, 8, 8, 8, 8, 8, 8, 8, 8, 8, 8, 8, 8, 8, 8, 8, 8, 8, 8, 8, 8, 8, 8, 8, 8, 8, 8, 8, 8, 8, 8, 8, 8, 8, 8, 8, 8, 8, 8, 8, 8, 8, 8, 8, 8, 8, 8, 8, 8]⟩ : ByteArray) (ji19)
       replace p22 := eq_true p22
       replace q22 := eq_true q22
       go_wp2
       go_ret
       exact ⟨by first | rfl | (simp; done) | (simp only [← hji19] <;> (first | rfl | simp)) | (simp [*]; done), by repeat (first | exact Drawn0.refl _ | apply Drawn0.step)⟩
      ·
       rw [if_neg c21] at H
       exact absurd H (by simp)
     ·
      rw [if_neg c20] at H
      exact absurd H (by simp)

/-! ### span_ones: function 87 -/
def span_ones.f (k : Nat) (a0 : Int) : Option (Int) := (bits_Len64.f k (IntKind.u64.wrap (a0))).bind fun t184 => (if 0 ≤ t184 then (some (wrap64 (IntKind.u64.wrap ((shl .u64 1 t184) - 1)))) else (none))
theorem span_ones.mono : ∀ a0 k, LeO (span_ones.f k a0) (span_ones.f (k + 1) a0) := by
 intro a0 k
 unfold span_ones.f
 repeat' first
   | (with_reducible exact bits_Len64.mono _ _)
   | (with_reducible exact LeO.refl _)
   | (with_reducible exact LeO.none _)
   | (with_reducible refine LeO.ite ?_ ?_)
   | (with_reducible refine LeO.bind ?_ (fun _ => ?_))
   | exact bits_Len64.mono _ _
   | exact LeO.none _
   | refine LeO.ite ?_ ?_
   | refine LeO.bind ?_ (fun _ => ?_)
set_option maxHeartbeats 8000000 in
set_option maxRecDepth 100000 in
theorem span_ones.calls (k : Nat) (a0 : Int) (r : Int) (w : World) (h : span_ones.f k a0 = some r) :
  Calls Try.prog 87 #[.int .i64 a0] w fun e w' => e = .returned (.int .i64 r) ∧ Drawn0 w w' := by
 have H : ((bits_Len64.f k (IntKind.u64.wrap (a0))).bind fun t184 => (if 0 ≤ t184 then (some (wrap64 (IntKind.u64.wrap ((shl .u64 1 t184) - 1)))) else (none))) = some r := h
 clear h
 replace H := Option.bind_eq_some_iff.mp H
 obtain ⟨t184, A20, H⟩ := H
 (try dsimp only at H)
 have A2 := Aside0.mk A20
 clear A20
 by_cases c3 : 0 ≤ t184
 ·
  rw [if_pos c3] at H
  have c3b0 := eq_true c3
  have c3b1 : decide (0 ≤ t184) = true := decide_eq_true c3
  clear c3
  obtain ⟨ji4, hji4⟩ : ∃ j_ : Int, (shl .u64 1 t184) = j_ := ⟨_, rfl⟩
  replace H : (some (wrap64 (IntKind.u64.wrap ((ji4) - 1)))) = some r := by first | (rw [hji4] at H; exact H) | (simp only [hji4] at H ⊢; exact H)
  (try rw [hji4] at A2)
  have hji4_ : (IntKind.u64.wrap (1 * 2 ^ min t184.toNat 64)) = ji4 := hji4
  have hji4z : t184 ≤ 64 → (IntKind.u64.wrap (1 * 2 ^ t184.toNat)) = ji4 := shl_small hji4
  have hji4u : (IntKind.u64.wrap (2 ^ min t184.toNat 64)) = ji4 := by have h_ := hji4_; rw [Int.one_mul] at h_; exact h_
  have hji4v : t184 ≤ 64 → (IntKind.u64.wrap (2 ^ t184.toNat)) = ji4 := fun hle_ => by have h_ := hji4z hle_; rw [Int.one_mul] at h_; exact h_
  obtain rfl := Option.some.inj H
  go_enter Try.func87, Try.ntmps87
  go_wp2_with (first | ((with_reducible refine gate_callee (f := 91) rfl ?_); refine goesL_ (some 5) rfl rfl Try.func91 (by kernel_rfl) rfl #[.int .u64 (IntKind.u64.wrap (a0))] rfl (mapq rfl) ?_; (with_reducible refine (bits_Len64.calls k (IntKind.u64.wrap (a0)) t184 _ A2.out).mono ?_); rintro e w' ⟨rfl, ⟨nd, rfl⟩⟩; refine ⟨_, rfl, ?_⟩))
  go_ret
  exact ⟨by first | rfl | (simp; done) | (simp only [← hji4] <;> (first | rfl | simp)) | (simp [*]; done), by repeat (first | exact Drawn0.refl _ | apply Drawn0.step)⟩
 ·
  rw [if_neg c3] at H
  exact absurd H (by simp)

/-! ### span_Span_turned: function 88 -/
def span_Span_turned.f (a0_0 : Int) (a0_1 : Int) : Option (Int × Int) := some (Go.bits .xor .i64 (-1) a0_1, Go.bits .xor .i64 (-1) a0_0)
set_option maxHeartbeats 8000000 in
set_option maxRecDepth 100000 in
theorem span_Span_turned.calls (a0_0 : Int) (a0_1 : Int) (r1 : Int) (r2 : Int) (w : World) (h : span_Span_turned.f a0_0 a0_1 = some (r1, r2)) :
  Calls Try.prog 88 #[.agg #[.int .i64 a0_0, .int .i64 a0_1]] w fun e w' => e = .returned (.agg #[.int .i64 r1, .int .i64 r2]) ∧ Below w.heap.size w w' := by
 have hu59 := Try.underlying59
 have hsg_ : IntKind.i64.signed = true := rfl
 have HB := Aside0.mk (Below.refl w.heap.size w)
 have H : (some (Go.bits .xor .i64 (-1) a0_1, Go.bits .xor .i64 (-1) a0_0)) = some (r1, r2) := h
 clear h
 simp only [Option.some.injEq, Prod.mk.injEq] at H
 obtain ⟨rfl, rfl⟩ := H
 go_enter Try.func88, Try.ntmps88
 go_wp2_with (first | ((with_reducible refine gate_dst (N := 1) rfl ?_); refine box_event ?hg (N := 1) ?hd (cs := #[.int .i64 a0_0, .int .i64 a0_1]) (t := 59) ?hr ?_; (case hd => rfl); (case hg => rfl); (case hr => first | (go_simp; done) | (go_simp; rfl)); intro gb185 hg w2 hbox hb; have BK185 := Aside0.mk (hbox); have GW185 := geb hg HB rfl; have GE185 := geb hg HB rfl; replace HB := hst HB hb rfl; clear hb hbox hg) | ((with_reducible refine gate_dst (N := 2) rfl ?_); refine box_event ?hg (N := 2) ?hd (cs := #[.int .i64 0, .int .i64 0]) (t := 59) ?hr ?_; (case hd => rfl); (case hg => rfl); (case hr => first | (go_simp; done) | (go_simp; rfl)); intro gb186 hg w3 hbox hb; have BK186 := Aside0.mk (hbox); have GW186 := geb hg HB rfl; have GE186 := geb hg HB rfl; have NB185_186 := nbl hg BK185 rfl; have NB186_185 := nbr hg BK185 rfl; replace BK185 := bb BK185 hb rfl; replace HB := hst HB hb rfl; clear hb hbox hg; have hnb4 := NB185_186.out; have hnc4 := NB186_185.out; obtain ⟨hcz5_0, hcz5_1, hfz5_0, hfz5_1⟩ := c2 BK185; obtain ⟨hcz6_0, hcz6_1, hfz6_0, hfz6_1⟩ := c2 BK186))
 refine bodyPost_ret (results_cell_row rfl _ _ gb186 59 #[.int .i64 (Go.bits .xor .i64 (-1) a0_1), .int .i64 (Go.bits .xor .i64 (-1) a0_0)] (0, 0) _ rfl (by (with_reducible repeat (first | refine blk_drewN ?_ _ | refine blk_drew ?_ | refine blk_alloc ?_ _)); refine blk_put (cs := #[.int .i64 (Go.bits .xor .i64 (-1) a0_1), .int .i64 0]) ?_ 1 _ rfl; (with_reducible repeat (first | refine blk_drewN ?_ _ | refine blk_drew ?_ | refine blk_alloc ?_ _)); refine blk_put (cs := #[.int .i64 0, .int .i64 0]) ?_ 0 _ rfl; (with_reducible repeat (first | refine blk_drewN ?_ _ | refine blk_drew ?_ | refine blk_alloc ?_ _)); exact BK186.out) Try.underlying59 rfl (by kernel_rfl)) rfl ?_
 exact ⟨by first | rfl | (simp [*, errW_none, errW_some] <;> rfl), by repeat (first | (with_reducible first | exact HB.out | apply below_alloc | apply pw_below_drewN | apply below_drew1 | refine below_set ?_ GE185.out | refine below_set ?_ GE186.out) | exact HB.out)⟩

end Go.Proofs.Ytpacmhhaabhdjaa.SM
