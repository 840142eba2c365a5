-- Written by a program of this session: plain functions and their walks. Lean checks it.
import Derived.Test.YtpacmhhaabhdjaaSM0
import Derived.Test.YtpacmhhaabhdjaaSM2
import Derived.Test.YtpacmhhaabhdjaaSM3
namespace Go.Proofs.Ytpacmhhaabhdjaa.SM
open Go.RowKit Go.Proofs.YtpacmhhaabhdjaaW.PrintWords Go.Proofs.YtpacmhhaabhdjaaW.PrintLast Go.Proofs.YtpacmhhaabhdjaaW.PrintMore
attribute [local go_sem] max2_int min2_int max_two min_two max_three min_three max_four min_four   -- for this text's walks alone
set_option linter.unusedVariables false
set_option linter.unusedSimpArgs false

attribute [local go_sem high] eqA59
/-! ### span_quotients: function 68 -/
mutual
def span_quotients.j0 : Nat → List (S59) → Bool → Int → Int → Option (Int × Int × Bool)
 | 0, _, _, _, _ => none
 | k + 1, x6, x25, x138000, x138001 => if x25 = true then ((span_Any.f).bind fun bt144 => (some (bt144.1, bt144.2, true))) else (span_quotients.l0 k x6 (x6.length : Int) 0 x138000 x138001 0 0 false false)
def span_quotients.l0 : Nat → List (S59) → Int → Int → Int → Int → Int → Int → Bool → Bool → Option (Int × Int × Bool)
 | 0, _, _, _, _, _, _, _, _, _ => none
 | k + 1, x27, x28, x29, x138000, x138001, x147000, x147001, x147002, x147003 => if x29 < x28 then (if 0 ≤ x29 then (if x29 < (x27.length : Int) then ((some (([(rd_T59 x27 x29).f0, (rd_T59 x27 x29).f1] : List Int) : List Int)).bind fun y156 => (span_quotients.l1 k x27 x28 x29 y156 (y156.length : Int) 0 x138000 x138001 x147000 x147001 x147002 x147003)) else (none)) else (none)) else ((span_ends_all.f x147000 x147001 x147002 x147003).bind fun bt147 => (some (bt147.1, bt147.2.1, bt147.2.2.1)))
def span_quotients.l1 : Nat → List (S59) → Int → Int → List Int → Int → Int → Int → Int → Int → Int → Bool → Bool → Option (Int × Int × Bool)
 | 0, _, _, _, _, _, _, _, _, _, _, _, _ => none
 | k + 1, x27, x28, x29, x37, x38, x39, x138000, x138001, x147000, x147001, x147002, x147003 => if x39 < x38 then (if 0 ≤ x39 then (if x39 < (x37.length : Int) then (if (rd x37 x39) = 0 then (none) else ((span_ends_put.f x147000 x147001 x147002 x147003 (wrap64 (Int.tdiv x138000 (rd x37 x39))) true).bind fun bt160 => ((span_ends_put.f bt160.1 bt160.2.1 bt160.2.2.1 bt160.2.2.2 (wrap64 (Int.tdiv x138001 (rd x37 x39))) true).bind fun bt164 => (span_quotients.l1 k x27 x28 x29 x37 x38 (wrap64 (x39 + 1)) x138000 x138001 bt164.1 bt164.2.1 bt164.2.2.1 bt164.2.2.2)))) else (none)) else (none)) else (span_quotients.l0 k x27 x28 (wrap64 (x29 + 1)) x138000 x138001 x147000 x147001 x147002 x147003)
end
def span_quotients.f (k : Nat) (a0_0 : Int) (a0_1 : Int) (a1_0 : Int) (a1_1 : Int) : Option (Int × Int × Bool) := (span_Span_parts.f a1_0 a1_1).bind fun t140 => (if (t140.length : Int) > 0 then (if a0_0 = (-9223372036854775808) then ((span_Has.f a1_0 a1_1 (-1)).bind fun t143 => (span_quotients.j0 k t140 t143 a0_0 a0_1)) else (span_quotients.j0 k t140 false a0_0 a0_1)) else (span_quotients.j0 k t140 false a0_0 a0_1))
theorem span_quotients.mono_l : ∀ k, (∀ y0 y1 y2 y3, LeO (span_quotients.j0 k y0 y1 y2 y3) (span_quotients.j0 (k + 1) y0 y1 y2 y3)) ∧ (∀ y0 y1 y2 y3 y4 y5 y6 y7 y8, LeO (span_quotients.l0 k y0 y1 y2 y3 y4 y5 y6 y7 y8) (span_quotients.l0 (k + 1) y0 y1 y2 y3 y4 y5 y6 y7 y8)) ∧ (∀ y0 y1 y2 y3 y4 y5 y6 y7 y8 y9 y10 y11, LeO (span_quotients.l1 k y0 y1 y2 y3 y4 y5 y6 y7 y8 y9 y10 y11) (span_quotients.l1 (k + 1) y0 y1 y2 y3 y4 y5 y6 y7 y8 y9 y10 y11))
 | 0 => ⟨fun _ _ _ _ r h => by simp [span_quotients.j0] at h, fun _ _ _ _ _ _ _ _ _ r h => by simp [span_quotients.l0] at h, fun _ _ _ _ _ _ _ _ _ _ _ _ r h => by simp [span_quotients.l1] at h⟩
 | k + 1 => by
  obtain ⟨ih0, ih1, ih2⟩ := span_quotients.mono_l k
  refine ⟨?_, ?_, ?_⟩
  ·
   intro y0 y1 y2 y3
   unfold span_quotients.j0
   repeat' first
   | (with_reducible exact ih0 _ _ _ _)
   | (with_reducible exact ih1 _ _ _ _ _ _ _ _ _)
   | (with_reducible exact ih2 _ _ _ _ _ _ _ _ _ _ _ _)
   | (with_reducible exact LeO.refl _)
   | (with_reducible exact LeO.none _)
   | (with_reducible refine LeO.ite ?_ ?_)
   | (with_reducible refine LeO.bind ?_ (fun _ => ?_))
   | exact ih0 _ _ _ _
   | exact ih1 _ _ _ _ _ _ _ _ _
   | exact ih2 _ _ _ _ _ _ _ _ _ _ _ _
   | exact LeO.none _
   | refine LeO.ite ?_ ?_
   | refine LeO.bind ?_ (fun _ => ?_)
  ·
   intro y0 y1 y2 y3 y4 y5 y6 y7 y8
   unfold span_quotients.l0
   repeat' first
   | (with_reducible exact ih0 _ _ _ _)
   | (with_reducible exact ih1 _ _ _ _ _ _ _ _ _)
   | (with_reducible exact ih2 _ _ _ _ _ _ _ _ _ _ _ _)
   | (with_reducible exact LeO.refl _)
   | (with_reducible exact LeO.none _)
   | (with_reducible refine LeO.ite ?_ ?_)
   | (with_reducible refine LeO.bind ?_ (fun _ => ?_))
   | exact ih0 _ _ _ _
   | exact ih1 _ _ _ _ _ _ _ _ _
   | exact ih2 _ _ _ _ _ _ _ _ _ _ _ _
   | exact LeO.none _
   | refine LeO.ite ?_ ?_
   | refine LeO.bind ?_ (fun _ => ?_)
  ·
   intro y0 y1 y2 y3 y4 y5 y6 y7 y8 y9 y10 y11
   unfold span_quotients.l1
   repeat' first
   | (with_reducible exact ih0 _ _ _ _)
   | (with_reducible exact ih1 _ _ _ _ _ _ _ _ _)
   | (with_reducible exact ih2 _ _ _ _ _ _ _ _ _ _ _ _)
   | (with_reducible exact LeO.refl _)
   | (with_reducible exact LeO.none _)
   | (with_reducible refine LeO.ite ?_ ?_)
   | (with_reducible refine LeO.bind ?_ (fun _ => ?_))
   | exact ih0 _ _ _ _
   | exact ih1 _ _ _ _ _ _ _ _ _
   | exact ih2 _ _ _ _ _ _ _ _ _ _ _ _
   | exact LeO.none _
   | refine LeO.ite ?_ ?_
   | refine LeO.bind ?_ (fun _ => ?_)
theorem span_quotients.mono : ∀ a0 a1 a2 a3 k, LeO (span_quotients.f k a0 a1 a2 a3) (span_quotients.f (k + 1) a0 a1 a2 a3) := by
 intro a0 a1 a2 a3 k
 obtain ⟨ih0, ih1, ih2⟩ := span_quotients.mono_l k
 unfold span_quotients.f
 repeat' first
   | (with_reducible exact ih0 _ _ _ _)
   | (with_reducible exact ih1 _ _ _ _ _ _ _ _ _)
   | (with_reducible exact ih2 _ _ _ _ _ _ _ _ _ _ _ _)
   | (with_reducible exact LeO.refl _)
   | (with_reducible exact LeO.none _)
   | (with_reducible refine LeO.ite ?_ ?_)
   | (with_reducible refine LeO.bind ?_ (fun _ => ?_))
   | exact ih0 _ _ _ _
   | exact ih1 _ _ _ _ _ _ _ _ _
   | exact ih2 _ _ _ _ _ _ _ _ _ _ _ _
   | exact LeO.none _
   | refine LeO.ite ?_ ?_
   | refine LeO.bind ?_ (fun _ => ?_)
set_option maxHeartbeats 8000000 in
set_option maxRecDepth 100000 in
theorem span_quotients.calls (k : Nat) (a0_0 : Int) (a0_1 : Int) (a1_0 : Int) (a1_1 : Int) (r1 : Int) (r2 : Int) (r3 : Bool) (w : World) (h : span_quotients.f k a0_0 a0_1 a1_0 a1_1 = some (r1, r2, r3)) :
  Calls Try.prog 68 #[.agg #[.int .i64 a0_0, .int .i64 a0_1], .agg #[.int .i64 a1_0, .int .i64 a1_1]] w fun e w' => e = .returned (.tuple #[.agg #[.int .i64 r1, .int .i64 r2], .bool r3]) ∧ Below w.heap.size w w' := by
 have hu59 := Try.underlying59
 have hu94 := Try.underlying94
 have HB := Aside0.mk (Below.refl w.heap.size w)
 have H : ((span_Span_parts.f a1_0 a1_1).bind fun t140 => (if (t140.length : Int) > 0 then (if a0_0 = (-9223372036854775808) then ((span_Has.f a1_0 a1_1 (-1)).bind fun t143 => (span_quotients.j0 k t140 t143 a0_0 a0_1)) else (span_quotients.j0 k t140 false a0_0 a0_1)) else (span_quotients.j0 k t140 false a0_0 a0_1))) = some (r1, r2, r3) := h
 clear h
 replace H := Option.bind_eq_some_iff.mp H
 obtain ⟨t140, A30, H⟩ := H
 (try dsimp only at H)
 have A3 := Aside0.mk A30
 clear A30
 have HC4 := Aside0.mk H
 clear H
 go_enter Try.func68, Try.ntmps68
 go_upto_region 2 with (first | ((with_reducible refine gate_dst (N := 2) rfl ?_); refine box_event ?hg (N := 2) ?hd (cs := #[.int .i64 a0_0, .int .i64 a0_1]) (t := 59) ?hr ?_; (case hd => rfl); (case hg => rfl); (case hr => first | (go_simp; done) | (go_simp; rfl)); intro gb137 hg w5 hbox hb; have BK137 := Aside0.mk (hbox); have GW137 := geb hg HB rfl; have GE137 := geb hg HB rfl; replace HB := hst HB hb rfl; clear hb hbox hg) | ((with_reducible refine gate_dst (N := 3) rfl ?_); refine box_event ?hg (N := 3) ?hd (cs := #[.int .i64 a1_0, .int .i64 a1_1]) (t := 59) ?hr ?_; (case hd => rfl); (case hg => rfl); (case hr => first | (go_simp; done) | (go_simp; rfl)); intro gb138 hg w6 hbox hb; have BK138 := Aside0.mk (hbox); have GW138 := geb hg HB rfl; have GE138 := geb hg HB rfl; have NB137_138 := nbl hg BK137 rfl; have NB138_137 := nbr hg BK137 rfl; replace BK137 := bb BK137 hb rfl; replace HB := hst HB hb rfl; clear hb hbox hg) | ((with_reducible refine gate_dst (N := 4) rfl ?_); refine box_event ?hg (N := 4) ?hd (cs := #[.int .i64 0, .int .i64 0]) (t := 59) ?hr ?_; (case hd => rfl); (case hg => rfl); (case hr => first | (go_simp; done) | (go_simp; rfl)); intro gb139 hg w7 hbox hb; have BK139 := Aside0.mk (hbox); have GW139 := geb hg HB rfl; have GE139 := geb hg HB rfl; have NB137_139 := nbl hg BK137 rfl; have NB139_137 := nbr hg BK137 rfl; have NB138_139 := nbl hg BK138 rfl; have NB139_138 := nbr hg BK138 rfl; replace BK137 := bb BK137 hb rfl; replace BK138 := bb BK138 hb rfl; replace HB := hst HB hb rfl; clear hb hbox hg; have hnb8 := NB138_137.out; have hnc8 := NB137_138.out; have hnb9 := NB138_139.out; have hnc9 := NB139_138.out; obtain ⟨hcz10_0, hcz10_1, hfz10_0, hfz10_1⟩ := c2 BK138) | ((with_reducible refine gate_callee (f := 84) rfl ?_); refine goesL_ (some 13) rfl rfl Try.func84 (by kernel_rfl) rfl #[.agg #[.int .i64 a1_0, .int .i64 a1_1]] rfl (mapq rfl) ?_; (with_reducible refine (span_Span_parts.calls a1_0 a1_1 t140 _ A3.out).mono ?_); rintro e w11 ⟨v141, rfl, ho0, hb⟩; refine ⟨_, rfl, ?_⟩; have HO142 := Aside0.mk (Kd.R_lower (Kd.R_newB (Kd.R_newB (Kd.R_newB ho0 (g := gb137) (o := .cells #[.int .i64 a0_0, .int .i64 a0_1] 59 (0, 0)) (by (with_reducible repeat (first | refine blk_drewN ?_ _ | refine blk_drew ?_ | refine blk_alloc ?_ _)); exact BK137.out)) (g := gb138) (o := .cells #[.int .i64 a1_0, .int .i64 a1_1] 59 (0, 0)) (by (with_reducible repeat (first | refine blk_drewN ?_ _ | refine blk_drew ?_ | refine blk_alloc ?_ _)); exact BK138.out)) (g := gb139) (o := .cells #[.int .i64 0, .int .i64 0] 59 (0, 0)) (by (with_reducible repeat (first | refine blk_drewN ?_ _ | refine blk_drew ?_ | refine blk_alloc ?_ _)); exact BK139.out)) (below_size (by repeat (first | (with_reducible first | exact HB.out | apply below_alloc | apply pw_below_drewN | apply below_drew1 | refine below_set ?_ GE137.out | refine below_set ?_ GE138.out | refine below_set ?_ GE139.out) | exact HB.out)))); replace BK137 := bb BK137 hb rfl; replace BK138 := bb BK138 hb rfl; replace BK139 := bb BK139 hb rfl; replace HB := hst HB hb rfl; (try clear hb); (try clear ho0)))
 (try simp only [Act.put, List.setIfInBounds_toArray, List.set_cons_zero, List.set_cons_succ])
 go_cut [25] (fun v25 wc => ∃ (kq : Nat) (x25_3 : Bool), v25 = .bool x25_3 ∧ Aside0 (span_quotients.j0 kq t140 x25_3 a0_0 a0_1 = some (r1, r2, r3)) ∧ Aside0 (kq ≤ k) ∧ Aside0 (Kd.R k59 59 wc w.heap.size (fun k_ => k_ ≠ gb137 ∧ k_ ≠ gb138 ∧ k_ ≠ gb139) v141 t140) ∧ Aside0 (wc.heap[gb137]? = some (.cells #[.int .i64 a0_0, .int .i64 a0_1] 59 (0, 0))) ∧ Aside0 (wc.heap[gb138]? = some (.cells #[.int .i64 a1_0, .int .i64 a1_1] 59 (0, 0))) ∧ Aside0 (wc.heap[gb139]? = some (.cells #[.int .i64 0, .int .i64 0] 59 (0, 0))) ∧ Aside0 (Below w.heap.size w wc))
 case first =>
  have H := HC4.out
  clear HC4
  by_cases c12 : (t140.length : Int) > 0
  ·
   rw [if_pos c12] at H
   have c12b0 : decide (0 < (t140.length : Int)) = true := decide_eq_true c12
   have c12b1 : decide (0 < t140.length) = true := decide_eq_true (by omega)
   clear c12
   (first | rw [c12b0] | (simp only [i64_w, i32_w]; rw [c12b0]) | skip)
   by_cases c13 : a0_0 = (-9223372036854775808)
   ·
    rw [if_pos c13] at H
    have c13b0 : (a0_0 == (-9223372036854775808)) = true := beq_iff_eq.mpr c13
    have c13b1 : (a0_0 != (-9223372036854775808)) = false := bne_eq_false_iff_eq.mpr c13
    clear c13
    replace H := Option.bind_eq_some_iff.mp H
    obtain ⟨t143, A140, H⟩ := H
    (try dsimp only at H)
    have A14 := Aside0.mk A140
    clear A140
    have H' := Aside0.mk H
    clear H
    obtain ⟨Ao15, co15, eo15⟩ := Kd.R_slice HO142.out
    subst eo15
    have hnb16 := NB137_138.out
    have hnc16 := NB138_137.out
    have hnb17 := NB137_139.out
    have hnc17 := NB139_137.out
    obtain ⟨hcz18_0, hcz18_1, hfz18_0, hfz18_1⟩ := c2 BK137
    have hnb19 := NB138_139.out
    have hnc19 := NB139_138.out
    obtain ⟨hcz20_0, hcz20_1, hfz20_0, hfz20_1⟩ := c2 BK138
    go_wp2_with (first | (go_at_call 47; (with_reducible refine (span_Has.calls a1_0 a1_1 (-1) t143 _ A14.out).mono ?_); rintro e w21 ⟨rfl, hb⟩; replace HO142 := Aside0.mk (Kd.R_below (by (with_reducible repeat (first | apply Kd.R_alloc | apply Kd.R_drewN | apply Kd.R_drew)); exact HO142.out) hb); replace BK137 := bb BK137 hb rfl; replace BK138 := bb BK138 hb rfl; replace BK139 := bb BK139 hb rfl; replace HB := hst HB hb rfl; (try clear hb)))
    go_meet
    case rel => exact ⟨_, (t143), (by first | rfl | (simp; done) | (simp [*]; done)), H', ⟨by first | omega | exact Nat.le_refl _⟩, ⟨by (with_reducible repeat (first | apply Kd.R_alloc | apply Kd.R_drewN | apply Kd.R_drew)); exact Kd.R_mono HO142.out (fun _ hk => ⟨hk.1.1.2, ⟨hk.1.2, hk.2⟩⟩)⟩, ⟨by (with_reducible repeat (first | refine blk_drewN ?_ _ | refine blk_drew ?_ | refine blk_alloc ?_ _)); exact BK137.out⟩, ⟨by (with_reducible repeat (first | refine blk_drewN ?_ _ | refine blk_drew ?_ | refine blk_alloc ?_ _)); exact BK138.out⟩, ⟨by (with_reducible repeat (first | refine blk_drewN ?_ _ | refine blk_drew ?_ | refine blk_alloc ?_ _)); exact BK139.out⟩, ⟨by repeat (first | (with_reducible first | exact HB.out | apply below_alloc | apply pw_below_drewN | apply below_drew1 | refine below_set ?_ GE137.out | refine below_set ?_ GE138.out | refine below_set ?_ GE139.out) | exact HB.out)⟩⟩
   ·
    rw [if_neg c13] at H
    have c13b0 : (a0_0 == (-9223372036854775808)) = false := beq_eq_false_iff_ne.mpr c13
    have c13b1 : (a0_0 != (-9223372036854775808)) = true := bne_iff_ne.mpr c13
    have H' := Aside0.mk H
    clear H
    obtain ⟨Ao22, co22, eo22⟩ := Kd.R_slice HO142.out
    subst eo22
    have hnb23 := NB137_138.out
    have hnc23 := NB138_137.out
    have hnb24 := NB137_139.out
    have hnc24 := NB139_137.out
    obtain ⟨hcz25_0, hcz25_1, hfz25_0, hfz25_1⟩ := c2 BK137
    go_wp2
    go_meet
    case rel => exact ⟨_, (false), (by first | rfl | (simp; done) | (simp [*]; done)), H', ⟨by first | omega | exact Nat.le_refl _⟩, ⟨by (with_reducible repeat (first | apply Kd.R_alloc | apply Kd.R_drewN | apply Kd.R_drew)); exact Kd.R_mono HO142.out (fun _ hk => ⟨hk.1.1.2, ⟨hk.1.2, hk.2⟩⟩)⟩, ⟨by (with_reducible repeat (first | refine blk_drewN ?_ _ | refine blk_drew ?_ | refine blk_alloc ?_ _)); exact BK137.out⟩, ⟨by (with_reducible repeat (first | refine blk_drewN ?_ _ | refine blk_drew ?_ | refine blk_alloc ?_ _)); exact BK138.out⟩, ⟨by (with_reducible repeat (first | refine blk_drewN ?_ _ | refine blk_drew ?_ | refine blk_alloc ?_ _)); exact BK139.out⟩, ⟨by repeat (first | (with_reducible first | exact HB.out | apply below_alloc | apply pw_below_drewN | apply below_drew1 | refine below_set ?_ GE137.out | refine below_set ?_ GE138.out | refine below_set ?_ GE139.out) | exact HB.out)⟩⟩
  ·
   rw [if_neg c12] at H
   have c12b0 : decide (0 < (t140.length : Int)) = false := decide_eq_false c12
   have c12b1 : decide (0 < t140.length) = false := decide_eq_false (by omega)
   clear c12
   (first | rw [c12b0] | (simp only [i64_w, i32_w]; rw [c12b0]) | skip)
   have H' := Aside0.mk H
   clear H
   obtain ⟨Ao26, co26, eo26⟩ := Kd.R_slice HO142.out
   subst eo26
   go_wp2
   go_meet
   case rel => exact ⟨_, (false), (by first | rfl | (simp; done) | (simp [*]; done)), H', ⟨by first | omega | exact Nat.le_refl _⟩, ⟨by (with_reducible repeat (first | apply Kd.R_alloc | apply Kd.R_drewN | apply Kd.R_drew)); exact Kd.R_mono HO142.out (fun _ hk => ⟨hk.1.1.2, ⟨hk.1.2, hk.2⟩⟩)⟩, ⟨by (with_reducible repeat (first | refine blk_drewN ?_ _ | refine blk_drew ?_ | refine blk_alloc ?_ _)); exact BK137.out⟩, ⟨by (with_reducible repeat (first | refine blk_drewN ?_ _ | refine blk_drew ?_ | refine blk_alloc ?_ _)); exact BK138.out⟩, ⟨by (with_reducible repeat (first | refine blk_drewN ?_ _ | refine blk_drew ?_ | refine blk_alloc ?_ _)); exact BK139.out⟩, ⟨by repeat (first | (with_reducible first | exact HB.out | apply below_alloc | apply pw_below_drewN | apply below_drew1 | refine below_set ?_ GE137.out | refine below_set ?_ GE138.out | refine below_set ?_ GE139.out) | exact HB.out)⟩⟩
 case rest =>
  clear HC4
  try clear c1
  try clear c2
  try clear p2
  try clear c6
  try clear c8
  try clear c9
  try clear c12
  try clear c12b0
  try clear c12b1
  try clear c13
  try clear c13b0
  try clear c13b1
  try clear c16
  try clear c17
  try clear c19
  try clear c23
  try clear c24
  try clear hcz10_0
  try clear hcz10_1
  try clear hcz18_0
  try clear hcz18_1
  try clear hcz20_0
  try clear hcz20_1
  try clear hcz25_0
  try clear hcz25_1
  try clear hfz10_0
  try clear hfz10_1
  try clear hfz18_0
  try clear hfz18_1
  try clear hfz20_0
  try clear hfz20_1
  try clear hfz25_0
  try clear hfz25_1
  obtain ⟨kq, x25_3, rfl, HA, HJ3, HO_6, BK137, BK138, BK139, HB⟩ := hcut
  cases kq with
  | zero => exact absurd HA.out (by simp [span_quotients.j0])
  | succ kj3 =>
   have H := HA.out
   clear HA
   simp only [span_quotients.j0] at H
   by_cases c27 : x25_3 = true
   ·
    subst c27
    rw [if_pos rfl] at H
    replace H := Option.bind_eq_some_iff.mp H
    obtain ⟨⟨t144, t145⟩, A280, H⟩ := H
    (try dsimp only at H)
    have A28 := Aside0.mk A280
    clear A280
    simp only [Option.some.injEq, Prod.mk.injEq] at H
    obtain ⟨rfl, rfl, rfl⟩ := H
    go_wp2_with (first | ((with_reducible refine gate_callee (f := 46) rfl ?_); refine goesL_ (some 26) rfl rfl Try.func46 (by kernel_rfl) rfl #[] rfl (mapq rfl) ?_; (with_reducible refine (span_Any.calls  t144 t145 _ A28.out).mono ?_); rintro e w29 ⟨rfl, hb⟩; refine ⟨_, rfl, ?_⟩; replace HO_6 := Aside0.mk (Kd.R_below (by (with_reducible repeat (first | apply Kd.R_alloc | apply Kd.R_drewN | apply Kd.R_drew)); exact HO_6.out) hb); replace BK137 := bb BK137 hb rfl; replace BK138 := bb BK138 hb rfl; replace BK139 := bb BK139 hb rfl; replace HB := hst HB hb rfl; (try clear hb); have hnb30 := NB139_137.out; have hnc30 := NB137_139.out; have hnb31 := NB139_138.out; have hnc31 := NB138_139.out; obtain ⟨hcz32_0, hcz32_1, hfz32_0, hfz32_1⟩ := c2 BK139))
    refine bodyPost_ret (results_ct rfl _ _ gb139 59 #[.int .i64 t144, .int .i64 t145] (0, 0) _ rfl (by (with_reducible repeat (first | refine blk_drewN ?_ _ | refine blk_drew ?_ | refine blk_alloc ?_ _)); refine blk_put (cs := #[.int .i64 t144, .int .i64 0]) ?_ 1 _ rfl; (with_reducible repeat (first | refine blk_drewN ?_ _ | refine blk_drew ?_ | refine blk_alloc ?_ _)); refine blk_put (cs := #[.int .i64 0, .int .i64 0]) ?_ 0 _ rfl; (with_reducible repeat (first | refine blk_drewN ?_ _ | refine blk_drew ?_ | refine blk_alloc ?_ _)); exact BK139.out) Try.underlying59 rfl (by kernel_rfl)) rfl ?_
    exact ⟨by first | rfl | (simp [*, errW_none, errW_some] <;> rfl), by repeat (first | (with_reducible first | exact HB.out | apply below_alloc | apply pw_below_drewN | apply below_drew1 | refine below_set ?_ GE137.out | refine below_set ?_ GE138.out | refine below_set ?_ GE139.out) | exact HB.out)⟩
   ·
    replace c27 := Bool.eq_false_iff.mpr c27
    subst c27
    rw [if_neg (show ¬ (false = true) by decide)] at H
    have H' := Aside0.mk H
    clear H
    go_wp2_with (first | ((with_reducible refine gate_dst (N := 7) rfl ?_); refine box_event ?hg (N := 7) ?hd (cs := #[.int .i64 0, .int .i64 0, .bool false, .bool false]) (t := 94) ?hr ?_; (case hd => rfl); (case hg => rfl); (case hr => first | (go_simp; done) | (go_simp; rfl)); intro gb146 hg w33 hbox hb; have NB137_146 := nbl hg BK137 rfl; have NB146_137 := nbr hg BK137 rfl; have NB138_146 := nbl hg BK138 rfl; have NB146_138 := nbr hg BK138 rfl; have NB139_146 := nbl hg BK139 rfl; have NB146_139 := nbr hg BK139 rfl; have HI146 := Aside0.mk ((show IsS94 w w33 gb146 0 0 false false from ⟨hbox, by rw [hg]; exact (below_size (by repeat (first | (with_reducible first | exact HB.out | apply below_alloc | apply pw_below_drewN | apply below_drew1 | refine below_set ?_ GE137.out | refine below_set ?_ GE138.out | refine below_set ?_ GE139.out) | exact HB.out)))⟩)); replace HO_6 := Aside0.mk (Kd.R_below (by (with_reducible repeat (first | apply Kd.R_alloc | apply Kd.R_drewN | apply Kd.R_drew)); exact HO_6.out) hb); replace BK137 := bb BK137 hb rfl; replace BK138 := bb BK138 hb rfl; replace BK139 := bb BK139 hb rfl; replace HB := hst HB hb rfl; clear hb hbox hg; obtain ⟨Ao34, co34, eo34⟩ := Kd.R_slice HO_6.out; subst eo34))
    go_loopg [29] kj3 (fun kq v29 w' => ∃ (x29_2 : Int) (x147000_2 : Int) (x147001_2 : Int) (x147002_2 : Bool) (x147003_2 : Bool), v29 = .int .i64 x29_2 ∧ Aside0 (span_quotients.l0 kq t140 (t140.length : Int) x29_2 a0_0 a0_1 x147000_2 x147001_2 x147002_2 x147003_2 = some (r1, r2, r3)) ∧ Aside0 (kq ≤ kj3) ∧ Aside0 (Kd.R k59 59 w' w.heap.size (fun k_ => k_ ≠ gb137 ∧ k_ ≠ gb138 ∧ k_ ≠ gb139) (.slice Ao34 t140.length co34) t140) ∧ Aside0 (w'.heap[gb137]? = some (.cells #[.int .i64 a0_0, .int .i64 a0_1] 59 (0, 0))) ∧ Aside0 (w'.heap[gb138]? = some (.cells #[.int .i64 a1_0, .int .i64 a1_1] 59 (0, 0))) ∧ Aside0 (w'.heap[gb139]? = some (.cells #[.int .i64 0, .int .i64 0] 59 (0, 0))) ∧ Aside0 (IsS94 w w' gb146 x147000_2 x147001_2 x147002_2 x147003_2) ∧ Aside0 (Below w.heap.size w w'))
    case atStart => exact ⟨(0), (0), (0), (false), (false), (by first | rfl | (simp; done) | (simp [*]; done)), H', ⟨Nat.le_refl _⟩, ⟨by (with_reducible repeat (first | apply Kd.R_alloc | apply Kd.R_drewN | apply Kd.R_drew)); exact HO_6.out⟩, ⟨by (with_reducible repeat (first | refine blk_drewN ?_ _ | refine blk_drew ?_ | refine blk_alloc ?_ _)); exact BK137.out⟩, ⟨by (with_reducible repeat (first | refine blk_drewN ?_ _ | refine blk_drew ?_ | refine blk_alloc ?_ _)); exact BK138.out⟩, ⟨by (with_reducible repeat (first | refine blk_drewN ?_ _ | refine blk_drew ?_ | refine blk_alloc ?_ _)); exact BK139.out⟩, ⟨by repeat (first | (with_reducible first | exact HI146.out | apply IsS94.alloc | apply IsS94.drewN | apply IsS94.drew | apply IsS94.set_0 | apply IsS94.set_1 | apply IsS94.set_2 | apply IsS94.set_3 | refine IsS94.far ?_ NB146_137.out _ | refine IsS94.far ?_ NB146_138.out _ | refine IsS94.far ?_ NB146_139.out _) | exact HI146.out)⟩, ⟨by repeat (first | (with_reducible first | exact HB.out | apply below_alloc | apply pw_below_drewN | apply below_drew1 | refine below_set ?_ (IsS94.ge HI146.out) | refine below_set ?_ GE137.out | refine below_set ?_ GE138.out | refine below_set ?_ GE139.out) | exact HB.out)⟩⟩
    case round =>
     clear H'
     try clear c1
     try clear c2
     try clear p2
     try clear c3
     try clear c4
     try clear c6
     try clear c8
     try clear c9
     try clear c12
     try clear c12b0
     try clear c12b1
     try clear c13
     try clear c13b0
     try clear c13b1
     try clear c16
     try clear c17
     try clear c19
     try clear c23
     try clear c24
     try clear c27
     try clear c30
     try clear c31
     try clear hcz10_0
     try clear hcz10_1
     try clear hcz18_0
     try clear hcz18_1
     try clear hcz20_0
     try clear hcz20_1
     try clear hcz25_0
     try clear hcz25_1
     try clear hcz32_0
     try clear hcz32_1
     try clear hfz10_0
     try clear hfz10_1
     try clear hfz18_0
     try clear hfz18_1
     try clear hfz20_0
     try clear hfz20_1
     try clear hfz25_0
     try clear hfz25_1
     try clear hfz32_0
     try clear hfz32_1
     try clear p2
     obtain ⟨x29_2, x147000_2, x147001_2, x147002_2, x147003_2, rfl, HA, HK2, HO_27, BK137, BK138, BK139, HI146, HB⟩ := hrel
     cases gk with
     | zero => exact absurd HA.out (by simp [span_quotients.l0])
     | succ k2 =>
      have H := HA.out
      clear HA
      simp only [span_quotients.l0] at H
      by_cases c35 : x29_2 < (t140.length : Int)
      ·
       rw [if_pos c35] at H
       have c35b0 : decide (x29_2 < (t140.length : Int)) = true := decide_eq_true c35
       clear c35
       by_cases c36 : 0 ≤ x29_2
       ·
        rw [if_pos c36] at H
        have c36b0 : decide (0 ≤ x29_2) = true := decide_eq_true c36
        clear c36
        by_cases c37 : x29_2 < (t140.length : Int)
        ·
         rw [if_pos c37] at H
         have c37b0 : decide (x29_2 < (t140.length : Int)) = true := decide_eq_true c37
         clear c37
         obtain ⟨y156, hy156⟩ : ∃ y_ : List Int, y_ = (([(rd_T59 t140 x29_2).f0, (rd_T59 t140 x29_2).f1] : List Int)) := ⟨_, rfl⟩
         replace H : (span_quotients.l1 k2 t140 (t140.length : Int) x29_2 y156 (y156.length : Int) 0 a0_0 a0_1 x147000_2 x147001_2 x147002_2 x147003_2) = some (r1, r2, r3) := by first | (rw [hy156]; with_reducible exact H) | (have H2_ := (Option.bind_some _ _).symm.trans H; rw [hy156]; with_reducible exact H2_) | (have H2_ := (Option.bind_some _ _).symm.trans H; with_reducible exact H2_) | with_reducible exact H | (rw [hy156]; exact H) | exact H
         have Ny156 := Aside0.mk hy156
         clear hy156
         have H' := Aside0.mk H
         clear H
         have p154 : 0 ≤ (x29_2 : Int) := of_decide_eq_true (by first | (with_reducible assumption) | assumption)
         have q154 : x29_2 < (t140.length : Int) := of_decide_eq_true (by first | (with_reducible assumption) | assumption)
         obtain ⟨ad154, e154, hx154_0, hx154_1⟩ := at_T59 (Kd.R_reads' HO_27.out).2.2 x29_2 p154 q154
         cases e154
         replace p154 := eq_true p154
         replace q154 := eq_true q154
         go_wp2_with (first | ((with_reducible refine gate_dst (N := 9) rfl ?_); refine box_event ?hg (N := 9) ?hd (cs := #[.int .i64 0, .int .i64 0]) (t := 59) ?hr ?_; (case hd => rfl); (case hg => rfl); (case hr => first | (go_simp; done) | (go_simp; rfl)); intro gb155 hg w38 hbox hb; have BK155 := Aside0.mk (hbox); have GW155 := geb hg HB rfl; have GE155 := geb hg HB rfl; have NB137_155 := nbl hg BK137 rfl; have NB155_137 := nbr hg BK137 rfl; have NB138_155 := nbl hg BK138 rfl; have NB155_138 := nbr hg BK138 rfl; have NB139_155 := nbl hg BK139 rfl; have NB155_139 := nbr hg BK139 rfl; have NB146_155 := Aside0.mk ((by rw [hg]; exact Nat.ne_of_lt (IsS94.lt (show IsS94 w _ gb146 x147000_2 x147001_2 x147002_2 x147003_2 from by repeat (first | (with_reducible first | exact HI146.out | apply IsS94.alloc | apply IsS94.drewN | apply IsS94.drew | apply IsS94.set_0 | apply IsS94.set_1 | apply IsS94.set_2 | apply IsS94.set_3 | refine IsS94.far ?_ NB146_137.out _ | refine IsS94.far ?_ NB146_138.out _ | refine IsS94.far ?_ NB146_139.out _) | exact HI146.out))) : gb146 ≠ gb155)); have NB155_146 := Aside0.mk ((by rw [hg]; exact Nat.ne_of_gt (IsS94.lt (show IsS94 w _ gb146 x147000_2 x147001_2 x147002_2 x147003_2 from by repeat (first | (with_reducible first | exact HI146.out | apply IsS94.alloc | apply IsS94.drewN | apply IsS94.drew | apply IsS94.set_0 | apply IsS94.set_1 | apply IsS94.set_2 | apply IsS94.set_3 | refine IsS94.far ?_ NB146_137.out _ | refine IsS94.far ?_ NB146_138.out _ | refine IsS94.far ?_ NB146_139.out _) | exact HI146.out))) : gb155 ≠ gb146)); replace HO_27 := Aside0.mk (Kd.R_below (Kd.R_elderB (by (with_reducible repeat (first | apply Kd.R_alloc | apply Kd.R_drewN | apply Kd.R_drew)); exact HO_27.out) gb155 (Nat.le_of_eq hg.symm)) hb); replace BK137 := bb BK137 hb rfl; replace BK138 := bb BK138 hb rfl; replace BK139 := bb BK139 hb rfl; replace HB := hst HB hb rfl; replace HI146 := Aside0.mk (IsS94.below (by repeat (first | (with_reducible first | exact HI146.out | apply IsS94.alloc | apply IsS94.drewN | apply IsS94.drew | apply IsS94.set_0 | apply IsS94.set_1 | apply IsS94.set_2 | apply IsS94.set_3 | refine IsS94.far ?_ NB146_137.out _ | refine IsS94.far ?_ NB146_138.out _ | refine IsS94.far ?_ NB146_139.out _) | exact HI146.out)) hb); clear hb hbox hg; have hnb39 := NB155_137.out; have hnc39 := NB137_155.out; have hnb40 := NB155_138.out; have hnc40 := NB138_155.out; have hnb41 := NB155_139.out; have hnc41 := NB139_155.out; have hnb42 := NB155_146.out; have hnc42 := NB146_155.out; obtain ⟨hcz43_0, hcz43_1, hfz43_0, hfz43_1⟩ := c2 BK155) | ((with_reducible refine gate_dst (N := 37) rfl ?_); refine Kd.R_lit (Kd.int .i64) _ 2 ?hg (N := 37) ?hd (xs := ([(rd_T59 t140 x29_2).f0, (rd_T59 t140 x29_2).f1] : List Int)) (inner := [.int .i64 ((rd_T59 t140 x29_2).f0), .int .i64 ((rd_T59 t140 x29_2).f1)]) (ok := fun _ => True) (okp := fun _ => True) ?hr ?hp (fun _ hk => hk) trivial (Below.refl _ _) (Nat.le_refl _) (by simp) ?_; (case hd => rfl); (case hg => rfl); (case hr => first | (go_simp; done) | (go_simp; rfl)); (case hp => exact (Reps.one (show Kd.M (Kd.int .i64) _ _ _ ((rd_T59 t140 x29_2).f0) [.int .i64 ((rd_T59 t140 x29_2).f0)] from rfl) (Reps.one (show Kd.M (Kd.int .i64) _ _ _ ((rd_T59 t140 x29_2).f1) [.int .i64 ((rd_T59 t140 x29_2).f1)] from rfl) (Reps.none _ _)))); intro v157 w44 ho45 hb hg_ hnew_; clear hg_ hnew_; (first | rw [← Ny156.out] at ho45 | (simp only [Int.reduceToNat] at ho45; rw [← Ny156.out] at ho45)); have HO158 := Aside0.mk (Kd.R_lower ho45 (below_size (by repeat (first | (with_reducible first | exact HB.out | apply below_alloc | apply pw_below_drewN | apply below_drew1 | refine below_set ?_ (IsS94.ge HI146.out) | refine below_set ?_ GE137.out | refine below_set ?_ GE138.out | refine below_set ?_ GE139.out | refine below_set ?_ GE155.out) | exact HB.out)))); replace HO_27 := Aside0.mk (Kd.R_below (by (with_reducible repeat (first | apply Kd.R_alloc | apply Kd.R_drewN | apply Kd.R_drew)); exact (Kd.R_mono (Kd.R_far (p := ⟨gb155, 1, none⟩) (Kd.R_far (p := ⟨gb155, 0, none⟩) (Kd.R_mono HO_27.out (fun k_ hk => (⟨hk, hk.2⟩ : _ ∧ k_ ≠ gb155))) (fun _ hk => hk.2) (.int .i64 ((rd_T59 t140 x29_2).f0))) (fun _ hk => hk.2) (.int .i64 ((rd_T59 t140 x29_2).f1))) (fun _ h_ => h_.1))) hb); replace BK137 := Aside0.mk (blk_below (g := gb137) (o := .cells #[.int .i64 a0_0, .int .i64 a0_1] 59 (0, 0)) (by (with_reducible repeat (first | refine blk_drewN ?_ _ | refine blk_drew ?_ | refine blk_alloc ?_ _)); refine blk_far ?_ NB137_155.out _; (with_reducible repeat (first | refine blk_drewN ?_ _ | refine blk_drew ?_ | refine blk_alloc ?_ _)); refine blk_far ?_ NB137_155.out _; (with_reducible repeat (first | refine blk_drewN ?_ _ | refine blk_drew ?_ | refine blk_alloc ?_ _)); exact BK137.out) hb); replace BK138 := Aside0.mk (blk_below (g := gb138) (o := .cells #[.int .i64 a1_0, .int .i64 a1_1] 59 (0, 0)) (by (with_reducible repeat (first | refine blk_drewN ?_ _ | refine blk_drew ?_ | refine blk_alloc ?_ _)); refine blk_far ?_ NB138_155.out _; (with_reducible repeat (first | refine blk_drewN ?_ _ | refine blk_drew ?_ | refine blk_alloc ?_ _)); refine blk_far ?_ NB138_155.out _; (with_reducible repeat (first | refine blk_drewN ?_ _ | refine blk_drew ?_ | refine blk_alloc ?_ _)); exact BK138.out) hb); replace BK139 := Aside0.mk (blk_below (g := gb139) (o := .cells #[.int .i64 0, .int .i64 0] 59 (0, 0)) (by (with_reducible repeat (first | refine blk_drewN ?_ _ | refine blk_drew ?_ | refine blk_alloc ?_ _)); refine blk_far ?_ NB139_155.out _; (with_reducible repeat (first | refine blk_drewN ?_ _ | refine blk_drew ?_ | refine blk_alloc ?_ _)); refine blk_far ?_ NB139_155.out _; (with_reducible repeat (first | refine blk_drewN ?_ _ | refine blk_drew ?_ | refine blk_alloc ?_ _)); exact BK139.out) hb); replace BK155 := Aside0.mk (blk_below (g := gb155) (o := .cells #[.int .i64 ((rd_T59 t140 x29_2).f0), .int .i64 ((rd_T59 t140 x29_2).f1)] 59 (0, 0)) (by (with_reducible repeat (first | refine blk_drewN ?_ _ | refine blk_drew ?_ | refine blk_alloc ?_ _)); refine blk_put (cs := #[.int .i64 ((rd_T59 t140 x29_2).f0), .int .i64 0]) ?_ 1 _ rfl; (with_reducible repeat (first | refine blk_drewN ?_ _ | refine blk_drew ?_ | refine blk_alloc ?_ _)); refine blk_put (cs := #[.int .i64 0, .int .i64 0]) ?_ 0 _ rfl; (with_reducible repeat (first | refine blk_drewN ?_ _ | refine blk_drew ?_ | refine blk_alloc ?_ _)); exact BK155.out) hb); replace HB := Aside0.mk (below_step (by repeat (first | (with_reducible first | exact HB.out | apply below_alloc | apply pw_below_drewN | apply below_drew1 | refine below_set ?_ (IsS94.ge HI146.out) | refine below_set ?_ GE137.out | refine below_set ?_ GE138.out | refine below_set ?_ GE139.out | refine below_set ?_ GE155.out) | exact HB.out)) hb); replace HI146 := Aside0.mk (IsS94.below (show IsS94 w ((w38.setCell ⟨gb155, 0, none⟩ (.int .i64 ((rd_T59 t140 x29_2).f0))).setCell ⟨gb155, 1, none⟩ (.int .i64 ((rd_T59 t140 x29_2).f1))) gb146 x147000_2 x147001_2 x147002_2 x147003_2 from by repeat (first | (with_reducible first | exact HI146.out | apply IsS94.alloc | apply IsS94.drewN | apply IsS94.drew | apply IsS94.set_0 | apply IsS94.set_1 | apply IsS94.set_2 | apply IsS94.set_3 | refine IsS94.far ?_ NB146_137.out _ | refine IsS94.far ?_ NB146_138.out _ | refine IsS94.far ?_ NB146_139.out _ | refine IsS94.far ?_ NB146_155.out _) | exact HI146.out)) hb); clear hb ho45; obtain ⟨Ao46, co46, eo46⟩ := Kd.R_slice HO158.out; subst eo46))
         go_loopg [39] k2 (fun kq v39 w' => ∃ (x39_3 : Int) (x147000_3 : Int) (x147001_3 : Int) (x147002_3 : Bool) (x147003_3 : Bool), v39 = .int .i64 x39_3 ∧ Aside0 (span_quotients.l1 kq t140 (t140.length : Int) x29_2 y156 (y156.length : Int) x39_3 a0_0 a0_1 x147000_3 x147001_3 x147002_3 x147003_3 = some (r1, r2, r3)) ∧ Aside0 (kq ≤ k2) ∧ Aside0 (Kd.R k59 59 w' w.heap.size (fun k_ => k_ ≠ gb137 ∧ k_ ≠ gb138 ∧ k_ ≠ gb139 ∧ k_ ≠ gb155) (.slice (some ad154) t140.length co34) t140) ∧ Aside0 (Kd.R (Kd.int .i64) 2 w' w.heap.size (fun _ => True) (.slice Ao46 y156.length co46) y156) ∧ Aside0 (w'.heap[gb137]? = some (.cells #[.int .i64 a0_0, .int .i64 a0_1] 59 (0, 0))) ∧ Aside0 (w'.heap[gb138]? = some (.cells #[.int .i64 a1_0, .int .i64 a1_1] 59 (0, 0))) ∧ Aside0 (w'.heap[gb139]? = some (.cells #[.int .i64 0, .int .i64 0] 59 (0, 0))) ∧ Aside0 (w'.heap[gb155]? = some (.cells #[.int .i64 ((rd_T59 t140 x29_2).f0), .int .i64 ((rd_T59 t140 x29_2).f1)] 59 (0, 0))) ∧ Aside0 (IsS94 w w' gb146 x147000_3 x147001_3 x147002_3 x147003_3) ∧ Aside0 (Below w.heap.size w w'))
         case atStart => exact ⟨(0), (x147000_2), (x147001_2), (x147002_2), (x147003_2), (by first | rfl | (simp; done) | (simp [*]; done)), H', ⟨Nat.le_refl _⟩, ⟨by (with_reducible repeat (first | apply Kd.R_alloc | apply Kd.R_drewN | apply Kd.R_drew)); exact Kd.R_mono HO_27.out (fun _ hk => ⟨hk.1.1, ⟨hk.1.2.1, ⟨hk.1.2.2, hk.2⟩⟩⟩)⟩, ⟨by (with_reducible repeat (first | apply Kd.R_alloc | apply Kd.R_drewN | apply Kd.R_drew)); exact HO158.out⟩, ⟨by (with_reducible repeat (first | refine blk_drewN ?_ _ | refine blk_drew ?_ | refine blk_alloc ?_ _)); exact BK137.out⟩, ⟨by (with_reducible repeat (first | refine blk_drewN ?_ _ | refine blk_drew ?_ | refine blk_alloc ?_ _)); exact BK138.out⟩, ⟨by (with_reducible repeat (first | refine blk_drewN ?_ _ | refine blk_drew ?_ | refine blk_alloc ?_ _)); exact BK139.out⟩, ⟨by (with_reducible repeat (first | refine blk_drewN ?_ _ | refine blk_drew ?_ | refine blk_alloc ?_ _)); exact BK155.out⟩, ⟨by repeat (first | (with_reducible first | exact HI146.out | apply IsS94.alloc | apply IsS94.drewN | apply IsS94.drew | apply IsS94.set_0 | apply IsS94.set_1 | apply IsS94.set_2 | apply IsS94.set_3 | refine IsS94.far ?_ NB146_137.out _ | refine IsS94.far ?_ NB146_138.out _ | refine IsS94.far ?_ NB146_139.out _ | refine IsS94.far ?_ NB146_155.out _) | exact HI146.out)⟩, ⟨by repeat (first | (with_reducible first | exact HB.out | apply below_alloc | apply pw_below_drewN | apply below_drew1 | refine below_set ?_ (IsS94.ge HI146.out) | refine below_set ?_ GE137.out | refine below_set ?_ GE138.out | refine below_set ?_ GE139.out | refine below_set ?_ GE155.out) | exact HB.out)⟩⟩
         case round =>
          clear H'
          try clear c1
          try clear p1
          try clear q1
          try clear hx1
          try clear c2
          try clear p2
          try clear c3
          try clear c4
          try clear c6
          try clear c8
          try clear c9
          try clear c12
          try clear c12b0
          try clear c12b1
          try clear c13
          try clear c13b0
          try clear c13b1
          try clear p15
          try clear q15
          try clear hx15
          try clear c16
          try clear c17
          try clear c19
          try clear c23
          try clear c24
          try clear c27
          try clear c30
          try clear c31
          try clear c35
          try clear c35b0
          try clear c36
          try clear c36b0
          try clear c37
          try clear c37b0
          try clear c39
          try clear c40
          try clear c41
          try clear c42
          try clear c46
          try clear hcz10_0
          try clear hcz10_1
          try clear hcz18_0
          try clear hcz18_1
          try clear hcz20_0
          try clear hcz20_1
          try clear hcz25_0
          try clear hcz25_1
          try clear hcz32_0
          try clear hcz32_1
          try clear hcz43_0
          try clear hcz43_1
          try clear hfz10_0
          try clear hfz10_1
          try clear hfz18_0
          try clear hfz18_1
          try clear hfz20_0
          try clear hfz20_1
          try clear hfz25_0
          try clear hfz25_1
          try clear hfz32_0
          try clear hfz32_1
          try clear hfz43_0
          try clear hfz43_1
          try clear hx154_0
          try clear hx154_1
          try clear p154
          try clear p2
          try clear q154
          obtain ⟨x39_3, x147000_3, x147001_3, x147002_3, x147003_3, rfl, HA, HK3, HO_27, HO_37, BK137, BK138, BK139, BK155, HI146, HB⟩ := hrel
          cases gk with
          | zero => exact absurd HA.out (by simp [span_quotients.l1])
          | succ k3 =>
           have H := HA.out
           clear HA
           simp only [span_quotients.l1] at H
           by_cases c47 : x39_3 < (y156.length : Int)
           ·
            rw [if_pos c47] at H
            have c47b0 : decide (x39_3 < (y156.length : Int)) = true := decide_eq_true c47
            clear c47
            by_cases c48 : 0 ≤ x39_3
            ·
             rw [if_pos c48] at H
             have c48b0 : decide (0 ≤ x39_3) = true := decide_eq_true c48
             clear c48
             by_cases c49 : x39_3 < (y156.length : Int)
             ·
              rw [if_pos c49] at H
              have c49b0 : decide (x39_3 < (y156.length : Int)) = true := decide_eq_true c49
              clear c49
              by_cases c50 : (rd y156 x39_3) = 0
              ·
               rw [if_pos c50] at H
               exact absurd H (by simp)
              ·
               rw [if_neg c50] at H
               have c50b0 : ((rd y156 x39_3) == 0) = false := beq_eq_false_iff_ne.mpr c50
               have c50b1 : ((rd y156 x39_3) != 0) = true := bne_iff_ne.mpr c50
               replace H := Option.bind_eq_some_iff.mp H
               obtain ⟨⟨t160, t161, t162, t163⟩, A510, H⟩ := H
               (try dsimp only at H)
               have A51 := Aside0.mk A510
               clear A510
               replace H := Option.bind_eq_some_iff.mp H
               obtain ⟨⟨t164, t165, t166, t167⟩, A520, H⟩ := H
               (try dsimp only at H)
               have A52 := Aside0.mk A520
               clear A520
               have H' := Aside0.mk H
               clear H
               have p159 : 0 ≤ (x39_3 : Int) := of_decide_eq_true (by first | (with_reducible assumption) | assumption)
               have q159 : x39_3 < (y156.length : Int) := of_decide_eq_true (by first | (with_reducible assumption) | assumption)
               obtain ⟨ad159, e159, hx159_0⟩ := Kd.at_int (Kd.R_reads' HO_37.out).2.2 x39_3 p159 q159
               cases e159
               replace p159 := eq_true p159
               replace q159 := eq_true q159
               have hnb53 := NB137_138.out
               have hnc53 := NB138_137.out
               have hnb54 := NB137_139.out
               have hnc54 := NB139_137.out
               have hnb55 := NB137_155.out
               have hnc55 := NB155_137.out
               have hnb56 := NB137_146.out
               have hnc56 := NB146_137.out
               obtain ⟨hcz57_0, hcz57_1, hfz57_0, hfz57_1⟩ := c2 BK137
               go_wp2_with (first | ((with_reducible refine gate_callee (f := 64) rfl ?_); refine goesL_ (some 47) rfl rfl Try.func64 (by kernel_rfl) rfl #[.pointer (some ⟨gb146, 0, none⟩), .int .i64 (wrap64 (Int.tdiv a0_0 (rd y156 x39_3))), .bool true] rfl (mapq rfl) ?_; (with_reducible refine (span_ends_put.calls gb146 x147000_3 x147001_3 x147002_3 x147003_3 (wrap64 (Int.tdiv a0_0 (rd y156 x39_3))) true t160 t161 t162 t163 w _ ?side1 ?side2 A51.out).mono ?_); (case side1 => repeat (first | (with_reducible first | exact HI146.out | apply IsS94.alloc | apply IsS94.drewN | apply IsS94.drew | apply IsS94.set_0 | apply IsS94.set_1 | apply IsS94.set_2 | apply IsS94.set_3 | refine IsS94.far ?_ NB146_137.out _ | refine IsS94.far ?_ NB146_138.out _ | refine IsS94.far ?_ NB146_139.out _ | refine IsS94.far ?_ NB146_155.out _) | exact HI146.out)); (case side2 => repeat (first | (with_reducible first | exact HB.out | apply below_alloc | apply pw_below_drewN | apply below_drew1 | refine below_set ?_ (IsS94.ge HI146.out) | refine below_set ?_ GE137.out | refine below_set ?_ GE138.out | refine below_set ?_ GE139.out | refine below_set ?_ GE155.out) | exact HB.out)); rintro e w58 ⟨rfl, hi, hb, hk⟩; refine ⟨_, rfl, ?_⟩; replace HO_27 := Aside0.mk (Kd.R_mono (Kd.R_keep (IsS94.apart (show IsS94 w _ gb146 x147000_3 x147001_3 x147002_3 x147003_3 from by repeat (first | (with_reducible first | exact HI146.out | apply IsS94.alloc | apply IsS94.drewN | apply IsS94.drew | apply IsS94.set_0 | apply IsS94.set_1 | apply IsS94.set_2 | apply IsS94.set_3 | refine IsS94.far ?_ NB146_137.out _ | refine IsS94.far ?_ NB146_138.out _ | refine IsS94.far ?_ NB146_139.out _ | refine IsS94.far ?_ NB146_155.out _) | exact HI146.out)) (by (with_reducible repeat (first | apply Kd.R_alloc | apply Kd.R_drewN | apply Kd.R_drew)); exact HO_27.out) (by decide)) hk (fun _ h => h.2)) (fun _ h => h.1)); replace HO_37 := Aside0.mk (Kd.R_mono (Kd.R_keep (IsS94.apart (show IsS94 w _ gb146 x147000_3 x147001_3 x147002_3 x147003_3 from by repeat (first | (with_reducible first | exact HI146.out | apply IsS94.alloc | apply IsS94.drewN | apply IsS94.drew | apply IsS94.set_0 | apply IsS94.set_1 | apply IsS94.set_2 | apply IsS94.set_3 | refine IsS94.far ?_ NB146_137.out _ | refine IsS94.far ?_ NB146_138.out _ | refine IsS94.far ?_ NB146_139.out _ | refine IsS94.far ?_ NB146_155.out _) | exact HI146.out)) (by (with_reducible repeat (first | apply Kd.R_alloc | apply Kd.R_drewN | apply Kd.R_drew)); exact HO_37.out) (by decide)) hk (fun _ h => h.2)) (fun _ h => h.1)); replace BK137 := Aside0.mk (KeepBut.blk hk (g' := gb137) (o := .cells #[.int .i64 a0_0, .int .i64 a0_1] 59 (0, 0)) (by (with_reducible repeat (first | refine blk_drewN ?_ _ | refine blk_drew ?_ | refine blk_alloc ?_ _)); exact BK137.out) NB137_146.out (by simp)); replace BK138 := Aside0.mk (KeepBut.blk hk (g' := gb138) (o := .cells #[.int .i64 a1_0, .int .i64 a1_1] 59 (0, 0)) (by (with_reducible repeat (first | refine blk_drewN ?_ _ | refine blk_drew ?_ | refine blk_alloc ?_ _)); exact BK138.out) NB138_146.out (by simp)); replace BK139 := Aside0.mk (KeepBut.blk hk (g' := gb139) (o := .cells #[.int .i64 0, .int .i64 0] 59 (0, 0)) (by (with_reducible repeat (first | refine blk_drewN ?_ _ | refine blk_drew ?_ | refine blk_alloc ?_ _)); exact BK139.out) NB139_146.out (by simp)); replace BK155 := Aside0.mk (KeepBut.blk hk (g' := gb155) (o := .cells #[.int .i64 ((rd_T59 t140 x29_2).f0), .int .i64 ((rd_T59 t140 x29_2).f1)] 59 (0, 0)) (by (with_reducible repeat (first | refine blk_drewN ?_ _ | refine blk_drew ?_ | refine blk_alloc ?_ _)); exact BK155.out) NB155_146.out (by simp)); replace HB := Aside0.mk (hb); replace HI146 := Aside0.mk (hi); (try clear hb); (try clear hb2); (try clear hk); (try clear hi); obtain ⟨hcz59_0, hcz59_1, hfz59_0, hfz59_1⟩ := c2 BK137) | ((with_reducible refine gate_callee (f := 64) rfl ?_); refine goesL_ (some 52) rfl rfl Try.func64 (by kernel_rfl) rfl #[.pointer (some ⟨gb146, 0, none⟩), .int .i64 (wrap64 (Int.tdiv a0_1 (rd y156 x39_3))), .bool true] rfl (mapq rfl) ?_; (with_reducible refine (span_ends_put.calls gb146 t160 t161 t162 t163 (wrap64 (Int.tdiv a0_1 (rd y156 x39_3))) true t164 t165 t166 t167 w _ ?side1 ?side2 A52.out).mono ?_); (case side1 => repeat (first | (with_reducible first | exact HI146.out | apply IsS94.alloc | apply IsS94.drewN | apply IsS94.drew | apply IsS94.set_0 | apply IsS94.set_1 | apply IsS94.set_2 | apply IsS94.set_3 | refine IsS94.far ?_ NB146_137.out _ | refine IsS94.far ?_ NB146_138.out _ | refine IsS94.far ?_ NB146_139.out _ | refine IsS94.far ?_ NB146_155.out _) | exact HI146.out)); (case side2 => repeat (first | (with_reducible first | exact HB.out | apply below_alloc | apply pw_below_drewN | apply below_drew1 | refine below_set ?_ (IsS94.ge HI146.out) | refine below_set ?_ GE137.out | refine below_set ?_ GE138.out | refine below_set ?_ GE139.out | refine below_set ?_ GE155.out) | exact HB.out)); rintro e w60 ⟨rfl, hi, hb, hk⟩; refine ⟨_, rfl, ?_⟩; replace HO_27 := Aside0.mk (Kd.R_mono (Kd.R_keep (IsS94.apart (show IsS94 w _ gb146 t160 t161 t162 t163 from by repeat (first | (with_reducible first | exact HI146.out | apply IsS94.alloc | apply IsS94.drewN | apply IsS94.drew | apply IsS94.set_0 | apply IsS94.set_1 | apply IsS94.set_2 | apply IsS94.set_3 | refine IsS94.far ?_ NB146_137.out _ | refine IsS94.far ?_ NB146_138.out _ | refine IsS94.far ?_ NB146_139.out _ | refine IsS94.far ?_ NB146_155.out _) | exact HI146.out)) (by (with_reducible repeat (first | apply Kd.R_alloc | apply Kd.R_drewN | apply Kd.R_drew)); exact HO_27.out) (by decide)) hk (fun _ h => h.2)) (fun _ h => h.1)); replace HO_37 := Aside0.mk (Kd.R_mono (Kd.R_keep (IsS94.apart (show IsS94 w _ gb146 t160 t161 t162 t163 from by repeat (first | (with_reducible first | exact HI146.out | apply IsS94.alloc | apply IsS94.drewN | apply IsS94.drew | apply IsS94.set_0 | apply IsS94.set_1 | apply IsS94.set_2 | apply IsS94.set_3 | refine IsS94.far ?_ NB146_137.out _ | refine IsS94.far ?_ NB146_138.out _ | refine IsS94.far ?_ NB146_139.out _ | refine IsS94.far ?_ NB146_155.out _) | exact HI146.out)) (by (with_reducible repeat (first | apply Kd.R_alloc | apply Kd.R_drewN | apply Kd.R_drew)); exact HO_37.out) (by decide)) hk (fun _ h => h.2)) (fun _ h => h.1)); replace BK137 := Aside0.mk (KeepBut.blk hk (g' := gb137) (o := .cells #[.int .i64 a0_0, .int .i64 a0_1] 59 (0, 0)) (by (with_reducible repeat (first | refine blk_drewN ?_ _ | refine blk_drew ?_ | refine blk_alloc ?_ _)); exact BK137.out) NB137_146.out (by simp)); replace BK138 := Aside0.mk (KeepBut.blk hk (g' := gb138) (o := .cells #[.int .i64 a1_0, .int .i64 a1_1] 59 (0, 0)) (by (with_reducible repeat (first | refine blk_drewN ?_ _ | refine blk_drew ?_ | refine blk_alloc ?_ _)); exact BK138.out) NB138_146.out (by simp)); replace BK139 := Aside0.mk (KeepBut.blk hk (g' := gb139) (o := .cells #[.int .i64 0, .int .i64 0] 59 (0, 0)) (by (with_reducible repeat (first | refine blk_drewN ?_ _ | refine blk_drew ?_ | refine blk_alloc ?_ _)); exact BK139.out) NB139_146.out (by simp)); replace BK155 := Aside0.mk (KeepBut.blk hk (g' := gb155) (o := .cells #[.int .i64 ((rd_T59 t140 x29_2).f0), .int .i64 ((rd_T59 t140 x29_2).f1)] 59 (0, 0)) (by (with_reducible repeat (first | refine blk_drewN ?_ _ | refine blk_drew ?_ | refine blk_alloc ?_ _)); exact BK155.out) NB155_146.out (by simp)); replace HB := Aside0.mk (hb); replace HI146 := Aside0.mk (hi); (try clear hb); (try clear hb2); (try clear hk); (try clear hi)))
               go_roundg k3
               case measure => have := HJ3.out; have := HK2.out; have := HK3.out; omega
               case rel => exact ⟨(wrap64 (x39_3 + 1)), (t164), (t165), (t166), (t167), (by first | rfl | (simp; done) | (simp [*]; done)), H', ⟨by have := HJ3.out; have := HK2.out; have := HK3.out; omega⟩, ⟨by (with_reducible repeat (first | apply Kd.R_alloc | apply Kd.R_drewN | apply Kd.R_drew)); exact HO_27.out⟩, ⟨by (with_reducible repeat (first | apply Kd.R_alloc | apply Kd.R_drewN | apply Kd.R_drew)); exact HO_37.out⟩, ⟨by (with_reducible repeat (first | refine blk_drewN ?_ _ | refine blk_drew ?_ | refine blk_alloc ?_ _)); exact BK137.out⟩, ⟨by (with_reducible repeat (first | refine blk_drewN ?_ _ | refine blk_drew ?_ | refine blk_alloc ?_ _)); exact BK138.out⟩, ⟨by (with_reducible repeat (first | refine blk_drewN ?_ _ | refine blk_drew ?_ | refine blk_alloc ?_ _)); exact BK139.out⟩, ⟨by (with_reducible repeat (first | refine blk_drewN ?_ _ | refine blk_drew ?_ | refine blk_alloc ?_ _)); exact BK155.out⟩, ⟨by repeat (first | (with_reducible first | exact HI146.out | apply IsS94.alloc | apply IsS94.drewN | apply IsS94.drew | apply IsS94.set_0 | apply IsS94.set_1 | apply IsS94.set_2 | apply IsS94.set_3 | refine IsS94.far ?_ NB146_137.out _ | refine IsS94.far ?_ NB146_138.out _ | refine IsS94.far ?_ NB146_139.out _ | refine IsS94.far ?_ NB146_155.out _) | exact HI146.out)⟩, ⟨by repeat (first | (with_reducible first | exact HB.out | apply below_alloc | apply pw_below_drewN | apply below_drew1 | refine below_set ?_ (IsS94.ge HI146.out) | refine below_set ?_ GE137.out | refine below_set ?_ GE138.out | refine below_set ?_ GE139.out | refine below_set ?_ GE155.out) | exact HB.out)⟩⟩
             ·
              rw [if_neg c49] at H
              exact absurd H (by simp)
            ·
             rw [if_neg c48] at H
             exact absurd H (by simp)
           ·
            rw [if_neg c47] at H
            have c47b0 : decide (x39_3 < (y156.length : Int)) = false := decide_eq_false c47
            clear c47
            have H' := Aside0.mk H
            clear H
            go_wp2
            go_roundg k3
            case measure => have := HJ3.out; have := HK2.out; have := HK3.out; omega
            case rel => exact ⟨(wrap64 (x29_2 + 1)), (x147000_3), (x147001_3), (x147002_3), (x147003_3), (by first | rfl | (simp; done) | (simp [*]; done)), H', ⟨by have := HJ3.out; have := HK2.out; have := HK3.out; omega⟩, ⟨by (with_reducible repeat (first | apply Kd.R_alloc | apply Kd.R_drewN | apply Kd.R_drew)); exact Kd.R_mono HO_27.out (fun _ hk => ⟨hk.1, ⟨hk.2.1, hk.2.2.1⟩⟩)⟩, ⟨by (with_reducible repeat (first | refine blk_drewN ?_ _ | refine blk_drew ?_ | refine blk_alloc ?_ _)); exact BK137.out⟩, ⟨by (with_reducible repeat (first | refine blk_drewN ?_ _ | refine blk_drew ?_ | refine blk_alloc ?_ _)); exact BK138.out⟩, ⟨by (with_reducible repeat (first | refine blk_drewN ?_ _ | refine blk_drew ?_ | refine blk_alloc ?_ _)); exact BK139.out⟩, ⟨by repeat (first | (with_reducible first | exact HI146.out | apply IsS94.alloc | apply IsS94.drewN | apply IsS94.drew | apply IsS94.set_0 | apply IsS94.set_1 | apply IsS94.set_2 | apply IsS94.set_3 | refine IsS94.far ?_ NB146_137.out _ | refine IsS94.far ?_ NB146_138.out _ | refine IsS94.far ?_ NB146_139.out _ | refine IsS94.far ?_ NB146_155.out _) | exact HI146.out)⟩, ⟨by repeat (first | (with_reducible first | exact HB.out | apply below_alloc | apply pw_below_drewN | apply below_drew1 | refine below_set ?_ (IsS94.ge HI146.out) | refine below_set ?_ GE137.out | refine below_set ?_ GE138.out | refine below_set ?_ GE139.out | refine below_set ?_ GE155.out) | exact HB.out)⟩⟩
        ·
         rw [if_neg c37] at H
         exact absurd H (by simp)
       ·
        rw [if_neg c36] at H
        exact absurd H (by simp)
      ·
       rw [if_neg c35] at H
       have c35b0 : decide (x29_2 < (t140.length : Int)) = false := decide_eq_false c35
       clear c35
       replace H := Option.bind_eq_some_iff.mp H
       obtain ⟨⟨t147, t148, t149, t150, t151, t152, t153⟩, A610, H⟩ := H
       (try dsimp only at H)
       have A61 := Aside0.mk A610
       clear A610
       simp only [Option.some.injEq, Prod.mk.injEq] at H
       obtain ⟨rfl, rfl, rfl⟩ := H
       go_wp2_with (first | ((with_reducible refine gate_callee (f := 74) rfl ?_); refine goesL_ (some 55) rfl rfl Try.func74 (by kernel_rfl) rfl #[.pointer (some ⟨gb146, 0, none⟩)] rfl (mapq rfl) ?_; (with_reducible refine (span_ends_all.calls gb146 x147000_2 x147001_2 x147002_2 x147003_2 t147 t148 t149 t150 t151 t152 t153 w _ ?side1 ?side2 A61.out).mono ?_); (case side1 => repeat (first | (with_reducible first | exact HI146.out | apply IsS94.alloc | apply IsS94.drewN | apply IsS94.drew | apply IsS94.set_0 | apply IsS94.set_1 | apply IsS94.set_2 | apply IsS94.set_3 | refine IsS94.far ?_ NB146_137.out _ | refine IsS94.far ?_ NB146_138.out _ | refine IsS94.far ?_ NB146_139.out _) | exact HI146.out)); (case side2 => repeat (first | (with_reducible first | exact HB.out | apply below_alloc | apply pw_below_drewN | apply below_drew1 | refine below_set ?_ (IsS94.ge HI146.out) | refine below_set ?_ GE137.out | refine below_set ?_ GE138.out | refine below_set ?_ GE139.out) | exact HB.out)); rintro e w62 ⟨rfl, hi, hb, hk⟩; refine ⟨_, rfl, ?_⟩; replace HO_27 := Aside0.mk (Kd.R_mono (Kd.R_keep (IsS94.apart (show IsS94 w _ gb146 x147000_2 x147001_2 x147002_2 x147003_2 from by repeat (first | (with_reducible first | exact HI146.out | apply IsS94.alloc | apply IsS94.drewN | apply IsS94.drew | apply IsS94.set_0 | apply IsS94.set_1 | apply IsS94.set_2 | apply IsS94.set_3 | refine IsS94.far ?_ NB146_137.out _ | refine IsS94.far ?_ NB146_138.out _ | refine IsS94.far ?_ NB146_139.out _) | exact HI146.out)) (by (with_reducible repeat (first | apply Kd.R_alloc | apply Kd.R_drewN | apply Kd.R_drew)); exact HO_27.out) (by decide)) hk (fun _ h => h.2)) (fun _ h => h.1)); replace BK137 := Aside0.mk (KeepBut.blk hk (g' := gb137) (o := .cells #[.int .i64 a0_0, .int .i64 a0_1] 59 (0, 0)) (by (with_reducible repeat (first | refine blk_drewN ?_ _ | refine blk_drew ?_ | refine blk_alloc ?_ _)); exact BK137.out) NB137_146.out (by simp)); replace BK138 := Aside0.mk (KeepBut.blk hk (g' := gb138) (o := .cells #[.int .i64 a1_0, .int .i64 a1_1] 59 (0, 0)) (by (with_reducible repeat (first | refine blk_drewN ?_ _ | refine blk_drew ?_ | refine blk_alloc ?_ _)); exact BK138.out) NB138_146.out (by simp)); replace BK139 := Aside0.mk (KeepBut.blk hk (g' := gb139) (o := .cells #[.int .i64 0, .int .i64 0] 59 (0, 0)) (by (with_reducible repeat (first | refine blk_drewN ?_ _ | refine blk_drew ?_ | refine blk_alloc ?_ _)); exact BK139.out) NB139_146.out (by simp)); replace HB := Aside0.mk (hb); replace HI146 := Aside0.mk (hi); (try clear hb); (try clear hb2); (try clear hk); (try clear hi); have hnb63 := NB139_137.out; have hnc63 := NB137_139.out; have hnb64 := NB139_138.out; have hnc64 := NB138_139.out; have hnb65 := NB139_146.out; have hnc65 := NB146_139.out; obtain ⟨hcz66_0, hcz66_1, hfz66_0, hfz66_1⟩ := c2 BK139))
       refine bodyPost_ret (results_ct rfl _ _ gb139 59 #[.int .i64 t147, .int .i64 t148] (0, 0) _ rfl (by (with_reducible repeat (first | refine blk_drewN ?_ _ | refine blk_drew ?_ | refine blk_alloc ?_ _)); refine blk_put (cs := #[.int .i64 t147, .int .i64 0]) ?_ 1 _ rfl; (with_reducible repeat (first | refine blk_drewN ?_ _ | refine blk_drew ?_ | refine blk_alloc ?_ _)); refine blk_put (cs := #[.int .i64 0, .int .i64 0]) ?_ 0 _ rfl; (with_reducible repeat (first | refine blk_drewN ?_ _ | refine blk_drew ?_ | refine blk_alloc ?_ _)); exact BK139.out) Try.underlying59 rfl (by kernel_rfl)) rfl ?_
       exact ⟨by first | rfl | (simp [*, errW_none, errW_some] <;> rfl), by repeat (first | (with_reducible first | exact HB.out | apply below_alloc | apply pw_below_drewN | apply below_drew1 | refine below_set ?_ (IsS94.ge HI146.out) | refine below_set ?_ GE137.out | refine below_set ?_ GE138.out | refine below_set ?_ GE139.out) | exact HB.out)⟩

/-! ### span_rests: function 69 -/
def span_rests.f (a0_0 : Int) (a0_1 : Int) (a1_0 : Int) (a1_1 : Int) : Option (Int × Int × Bool) := (span_Of.f 0).bind fun bt171 => (if (a1_0 == bt171.1 && (a1_1 == bt171.2)) = true then (some (0, 0, false)) else (if a1_1 = (-9223372036854775808) then (if a1_0 < 0 then (some (mn 0 (mx a0_0 (wrap64 (-(mx 0 (Go.bits .xor .i64 (-1) a1_0))))), mx 0 (mn a0_1 (mx 0 (Go.bits .xor .i64 (-1) a1_0))), true)) else (none)) else (if a1_0 < 0 then (some (mn 0 (mx a0_0 (wrap64 (-(mx (mx 0 (wrap64 (a1_1 - 1))) (Go.bits .xor .i64 (-1) a1_0))))), mx 0 (mn a0_1 (mx (mx 0 (wrap64 (a1_1 - 1))) (Go.bits .xor .i64 (-1) a1_0))), true)) else (some (mn 0 (mx a0_0 (wrap64 (-(mx 0 (wrap64 (a1_1 - 1)))))), mx 0 (mn a0_1 (mx 0 (wrap64 (a1_1 - 1)))), true)))))
set_option maxHeartbeats 8000000 in
set_option maxRecDepth 100000 in
theorem span_rests.calls (a0_0 : Int) (a0_1 : Int) (a1_0 : Int) (a1_1 : Int) (r1 : Int) (r2 : Int) (r3 : Bool) (w : World) (h : span_rests.f a0_0 a0_1 a1_0 a1_1 = some (r1, r2, r3)) :
  Calls Try.prog 69 #[.agg #[.int .i64 a0_0, .int .i64 a0_1], .agg #[.int .i64 a1_0, .int .i64 a1_1]] w fun e w' => e = .returned (.tuple #[.agg #[.int .i64 r1, .int .i64 r2], .bool r3]) ∧ Below w.heap.size w w' := by
 have hu59 := Try.underlying59
 have hsg_ : IntKind.i64.signed = true := rfl
 have HB := Aside0.mk (Below.refl w.heap.size w)
 have H : ((span_Of.f 0).bind fun bt171 => (if (a1_0 == bt171.1 && (a1_1 == bt171.2)) = true then (some (0, 0, false)) else (if a1_1 = (-9223372036854775808) then (if a1_0 < 0 then (some (mn 0 (mx a0_0 (wrap64 (-(mx 0 (Go.bits .xor .i64 (-1) a1_0))))), mx 0 (mn a0_1 (mx 0 (Go.bits .xor .i64 (-1) a1_0))), true)) else (none)) else (if a1_0 < 0 then (some (mn 0 (mx a0_0 (wrap64 (-(mx (mx 0 (wrap64 (a1_1 - 1))) (Go.bits .xor .i64 (-1) a1_0))))), mx 0 (mn a0_1 (mx (mx 0 (wrap64 (a1_1 - 1))) (Go.bits .xor .i64 (-1) a1_0))), true)) else (some (mn 0 (mx a0_0 (wrap64 (-(mx 0 (wrap64 (a1_1 - 1)))))), mx 0 (mn a0_1 (mx 0 (wrap64 (a1_1 - 1)))), true)))))) = some (r1, r2, r3) := h
 clear h
 replace H := Option.bind_eq_some_iff.mp H
 obtain ⟨⟨t171, t172⟩, A30, H⟩ := H
 (try dsimp only at H)
 have A3 := Aside0.mk A30
 clear A30
 by_cases c4 : (a1_0 == t171 && (a1_1 == t172)) = true
 ·
  rw [if_pos c4] at H
  have c4b0 : (a1_0 == t171 && (a1_1 == t172)) = true := c4
  (try (have c4b1 : decide (a1_0 = t171 && (a1_1 == t172)) = true := by simpa using c4))
  (try (have c4b2 : (a1_0 == t171 && (a1_1 == t172)) = true := by simpa using c4))
  clear c4
  simp only [Option.some.injEq, Prod.mk.injEq] at H
  obtain ⟨rfl, rfl, rfl⟩ := H
  go_enter Try.func69, Try.ntmps69
  try go_wp2_with (first | ((with_reducible refine gate_dst (N := 2) rfl ?_); refine box_event ?hg (N := 2) ?hd (cs := #[.int .i64 a0_0, .int .i64 a0_1]) (t := 59) ?hr ?_; (case hd => rfl); (case hg => rfl); (case hr => first | (go_simp; done) | (go_simp; rfl)); intro gb168 hg w5 hbox hb; have BK168 := Aside0.mk (hbox); have GW168 := geb hg HB rfl; have GE168 := geb hg HB rfl; replace HB := hst HB hb rfl; clear hb hbox hg) | ((with_reducible refine gate_dst (N := 3) rfl ?_); refine box_event ?hg (N := 3) ?hd (cs := #[.int .i64 a1_0, .int .i64 a1_1]) (t := 59) ?hr ?_; (case hd => rfl); (case hg => rfl); (case hr => first | (go_simp; done) | (go_simp; rfl)); intro gb169 hg w6 hbox hb; have BK169 := Aside0.mk (hbox); have GW169 := geb hg HB rfl; have GE169 := geb hg HB rfl; have NB168_169 := nbl hg BK168 rfl; have NB169_168 := nbr hg BK168 rfl; replace BK168 := bb BK168 hb rfl; replace HB := hst HB hb rfl; clear hb hbox hg) | ((with_reducible refine gate_dst (N := 4) rfl ?_); refine box_event ?hg (N := 4) ?hd (cs := #[.int .i64 0, .int .i64 0]) (t := 59) ?hr ?_; (case hd => rfl); (case hg => rfl); (case hr => first | (go_simp; done) | (go_simp; rfl)); intro gb170 hg w7 hbox hb; have BK170 := Aside0.mk (hbox); have GW170 := geb hg HB rfl; have GE170 := geb hg HB rfl; have NB168_170 := nbl hg BK168 rfl; have NB170_168 := nbr hg BK168 rfl; have NB169_170 := nbl hg BK169 rfl; have NB170_169 := nbr hg BK169 rfl; replace BK168 := bb BK168 hb rfl; replace BK169 := bb BK169 hb rfl; replace HB := hst HB hb rfl; clear hb hbox hg))
  replace BK168 := Aside0.mk (blk_drew BK168.out); replace BK169 := Aside0.mk (blk_drew BK169.out); replace BK170 := Aside0.mk (blk_drew BK170.out); replace HB := Aside0.mk (below_drew1 HB.out)
  refine start_ (n := 3) (S := fun w' => w'.cell? ⟨gb169, 0, none⟩ = some (.int .i64 a1_0) ∧ w'.cell? ⟨gb169, 1, none⟩ = some (.int .i64 a1_1)) (ds := []) #[false, false, false] (by kernel_rfl) rfl rfl ⟨bc BK169 0 rfl, bc BK169 1 rfl⟩ (fun hHeld => ?_)
  generalize w7.drew = w8 at BK168 BK169 BK170 HB hHeld ⊢
  refine take_ (i := 0) (N := some 7) (v := ?_) (a' := ?_) #[true, false, false] rfl rfl (by kernel_rfl) (fun _ _ _ h => h) (Or.inl ⟨by rfl, ?_⟩) hHeld ?_ ?_
  rotate_left
  ·
   rintro w' ⟨s0, s1⟩
   go_simp
   with_reducible rfl
  rotate_left
  ·
   simp only [Act.put, List.setIfInBounds_toArray, List.set_cons_zero, List.set_cons_succ, i64_w, i32_w]
   rfl
  refine one_ (i := 1) (N := some 8) #[true, true, false] rfl rfl (by kernel_rfl) (by decide) (fun K hK => ?_)
  refine goes_ Try.func45 (by kernel_rfl) rfl #[.int .i64 0] (by rfl) rfl rfl (mapq rfl) ?_
  with_reducible refine (span_Of.calls 0 t171 t172 _ A3.out).mono ?_
  rintro e w9 ⟨rfl, hb⟩
  refine ⟨_, rfl, ?_⟩
  replace BK168 := bb BK168 hb rfl; replace BK169 := bb BK169 hb rfl; replace BK170 := bb BK170 hb rfl; replace HB := hst HB hb rfl
  (try clear hb)
  refine hK.out _ _ ⟨bc BK169 0 rfl, bc BK169 1 rfl⟩ (fun hHeld => ?_)
  clear hK K
  refine norm_ (a' := ?_) ?_ ?_
  rotate_left; · (show Act.put _ (some 8) _ = _; simp only [Act.put, List.setIfInBounds_toArray, List.set_cons_zero, List.set_cons_succ, i64_w, i32_w]; rfl)
  refine pure_ (i := 2) (N := some 9) (v := ?_) (a' := ?_) #[true, true, true] rfl rfl (by kernel_rfl) (fun _ _ _ h => h) (Or.inl ⟨by rfl, ?_⟩) ?_ ?_
  rotate_left; · (intro w'; go_simp; with_reducible rfl)
  rotate_left; · (simp only [Act.put, List.setIfInBounds_toArray, List.set_cons_zero, List.set_cons_succ, i64_w, i32_w]; rfl)
  refine done_ (by kernel_rfl) ?_
  have hnb10 := NB170_168.out
  have hnc10 := NB168_170.out
  have hnb11 := NB170_169.out
  have hnc11 := NB169_170.out
  obtain ⟨hcz12_0, hcz12_1, hfz12_0, hfz12_1⟩ := c2 BK170
  try go_wp2
  refine bodyPost_ret (results_ct rfl _ _ gb170 59 #[.int .i64 0, .int .i64 0] (0, 0) _ rfl (by (with_reducible repeat (first | refine blk_drewN ?_ _ | refine blk_drew ?_ | refine blk_alloc ?_ _)); refine blk_put (cs := #[.int .i64 0, .int .i64 0]) ?_ 1 _ rfl; (with_reducible repeat (first | refine blk_drewN ?_ _ | refine blk_drew ?_ | refine blk_alloc ?_ _)); refine blk_put (cs := #[.int .i64 0, .int .i64 0]) ?_ 0 _ rfl; (with_reducible repeat (first | refine blk_drewN ?_ _ | refine blk_drew ?_ | refine blk_alloc ?_ _)); exact BK170.out) Try.underlying59 rfl (by kernel_rfl)) rfl ?_
  exact ⟨by first | rfl | (simp [*, errW_none, errW_some] <;> rfl), by repeat (first | (with_reducible first | exact HB.out | apply below_alloc | apply pw_below_drewN | apply below_drew1 | refine below_set ?_ GE168.out | refine below_set ?_ GE169.out | refine below_set ?_ GE170.out) | exact HB.out)⟩
 ·
  rw [if_neg c4] at H
  have c4b0 : (a1_0 == t171 && (a1_1 == t172)) = false := by simpa using c4
  (try (have c4b1 : decide (a1_0 = t171 && (a1_1 == t172)) = false := by simpa using c4))
  (try (have c4b2 : (a1_0 == t171 && (a1_1 == t172)) = false := by simpa using c4))
  (try (have c4b3 : ¬ (a1_0 = t171 && (a1_1 == t172)) := by simpa using c4))
  clear c4
  obtain ⟨ji13, hji13⟩ : ∃ j_ : Int, (mx 0 (wrap64 (a1_1 - 1))) = j_ := ⟨_, rfl⟩
  replace H : (if a1_1 = (-9223372036854775808) then (if a1_0 < 0 then (some (mn 0 (mx a0_0 (wrap64 (-(mx 0 (Go.bits .xor .i64 (-1) a1_0))))), mx 0 (mn a0_1 (mx 0 (Go.bits .xor .i64 (-1) a1_0))), true)) else (none)) else (if a1_0 < 0 then (some (mn 0 (mx a0_0 (wrap64 (-(mx (ji13) (Go.bits .xor .i64 (-1) a1_0))))), mx 0 (mn a0_1 (mx (ji13) (Go.bits .xor .i64 (-1) a1_0))), true)) else (some (mn 0 (mx a0_0 (wrap64 (-(ji13)))), mx 0 (mn a0_1 (ji13)), true)))) = some (r1, r2, r3) := by first | (rw [hji13] at H; exact H) | (simp only [hji13] at H ⊢; exact H)
  (try rw [hji13] at A3)
  (try (have hji13l : 0 ≤ ji13 := by (rw [← hji13]; unfold mx; (repeat' split) <;> omega)))
  (try (have hji13m : 0 ≤ ji13 := by omega))
  have hji13_ : (if 0 < (wrap64 (a1_1 - 1)) then (wrap64 (a1_1 - 1)) else 0) = ji13 := hji13
  by_cases c14 : a1_1 = (-9223372036854775808)
  ·
   rw [if_pos c14] at H
   have c14b0 : (a1_1 == (-9223372036854775808)) = true := beq_iff_eq.mpr c14
   have c14b1 : (a1_1 != (-9223372036854775808)) = false := bne_eq_false_iff_eq.mpr c14
   clear c14
   by_cases c15 : a1_0 < 0
   ·
    rw [if_pos c15] at H
    have c15b0 : decide (a1_0 < 0) = true := decide_eq_true c15
    clear c15
    obtain ⟨ji16, hji16⟩ : ∃ j_ : Int, (mx 0 (Go.bits .xor .i64 (-1) a1_0)) = j_ := ⟨_, rfl⟩
    replace H : (some (mn 0 (mx a0_0 (wrap64 (-(ji16)))), mx 0 (mn a0_1 (ji16)), true)) = some (r1, r2, r3) := by first | (rw [hji16] at H; exact H) | (simp only [hji16] at H ⊢; exact H)
    (try rw [hji16] at A3)
    (try (have hji16l : 0 ≤ ji16 := by (rw [← hji16]; unfold mx; (repeat' split) <;> omega)))
    (try (have hji16m : 0 ≤ ji16 := by omega))
    have hji16_ : (if 0 < (Go.bits .xor .i64 (-1) a1_0) then (Go.bits .xor .i64 (-1) a1_0) else 0) = ji16 := hji16
    obtain ⟨ji17, hji17⟩ : ∃ j_ : Int, (mx a0_0 (wrap64 (-(ji16)))) = j_ := ⟨_, rfl⟩
    replace H : (some (mn 0 (ji17), mx 0 (mn a0_1 (ji16)), true)) = some (r1, r2, r3) := by first | (rw [hji17] at H; exact H) | (simp only [hji17] at H ⊢; exact H)
    (try rw [hji17] at A3)
    have hji17_ : (if a0_0 < (wrap64 (-(ji16))) then (wrap64 (-(ji16))) else a0_0) = ji17 := hji17
    obtain ⟨ji18, hji18⟩ : ∃ j_ : Int, (mn 0 (ji17)) = j_ := ⟨_, rfl⟩
    replace H : (some (ji18, mx 0 (mn a0_1 (ji16)), true)) = some (r1, r2, r3) := by first | (rw [hji18] at H; exact H) | (simp only [hji18] at H ⊢; exact H)
    (try rw [hji18] at A3)
    have hji18_ : (if (ji17) < 0 then (ji17) else 0) = ji18 := hji18
    obtain ⟨ji19, hji19⟩ : ∃ j_ : Int, (mn a0_1 (ji16)) = j_ := ⟨_, rfl⟩
    replace H : (some (ji18, mx 0 (ji19), true)) = some (r1, r2, r3) := by first | (rw [hji19] at H; exact H) | (simp only [hji19] at H ⊢; exact H)
    (try rw [hji19] at A3)
    have hji19_ : (if (ji16) < a0_1 then (ji16) else a0_1) = ji19 := hji19
    obtain ⟨ji20, hji20⟩ : ∃ j_ : Int, (mx 0 (ji19)) = j_ := ⟨_, rfl⟩
    replace H : (some (ji18, ji20, true)) = some (r1, r2, r3) := by first | (rw [hji20] at H; exact H) | (simp only [hji20] at H ⊢; exact H)
    (try rw [hji20] at A3)
    have hji20_ : (if 0 < (ji19) then (ji19) else 0) = ji20 := hji20
    simp only [Option.some.injEq, Prod.mk.injEq] at H
    obtain ⟨rfl, rfl, rfl⟩ := H
    go_enter Try.func69, Try.ntmps69
    try go_wp2_with (first | ((with_reducible refine gate_dst (N := 2) rfl ?_); refine box_event ?hg (N := 2) ?hd (cs := #[.int .i64 a0_0, .int .i64 a0_1]) (t := 59) ?hr ?_; (case hd => rfl); (case hg => rfl); (case hr => first | (go_simp; done) | (go_simp; rfl)); intro gb168 hg w21 hbox hb; have BK168 := Aside0.mk (hbox); have GW168 := geb hg HB rfl; have GE168 := geb hg HB rfl; replace HB := hst HB hb rfl; clear hb hbox hg) | ((with_reducible refine gate_dst (N := 3) rfl ?_); refine box_event ?hg (N := 3) ?hd (cs := #[.int .i64 a1_0, .int .i64 a1_1]) (t := 59) ?hr ?_; (case hd => rfl); (case hg => rfl); (case hr => first | (go_simp; done) | (go_simp; rfl)); intro gb169 hg w22 hbox hb; have BK169 := Aside0.mk (hbox); have GW169 := geb hg HB rfl; have GE169 := geb hg HB rfl; have NB168_169 := nbl hg BK168 rfl; have NB169_168 := nbr hg BK168 rfl; replace BK168 := bb BK168 hb rfl; replace HB := hst HB hb rfl; clear hb hbox hg) | ((with_reducible refine gate_dst (N := 4) rfl ?_); refine box_event ?hg (N := 4) ?hd (cs := #[.int .i64 0, .int .i64 0]) (t := 59) ?hr ?_; (case hd => rfl); (case hg => rfl); (case hr => first | (go_simp; done) | (go_simp; rfl)); intro gb170 hg w23 hbox hb; have BK170 := Aside0.mk (hbox); have GW170 := geb hg HB rfl; have GE170 := geb hg HB rfl; have NB168_170 := nbl hg BK168 rfl; have NB170_168 := nbr hg BK168 rfl; have NB169_170 := nbl hg BK169 rfl; have NB170_169 := nbr hg BK169 rfl; replace BK168 := bb BK168 hb rfl; replace BK169 := bb BK169 hb rfl; replace HB := hst HB hb rfl; clear hb hbox hg))
    replace BK168 := Aside0.mk (blk_drew BK168.out); replace BK169 := Aside0.mk (blk_drew BK169.out); replace BK170 := Aside0.mk (blk_drew BK170.out); replace HB := Aside0.mk (below_drew1 HB.out)
    refine start_ (n := 3) (S := fun w' => w'.cell? ⟨gb169, 0, none⟩ = some (.int .i64 a1_0) ∧ w'.cell? ⟨gb169, 1, none⟩ = some (.int .i64 a1_1)) (ds := []) #[false, false, false] (by kernel_rfl) rfl rfl ⟨bc BK169 0 rfl, bc BK169 1 rfl⟩ (fun hHeld => ?_)
    generalize w23.drew = w24 at BK168 BK169 BK170 HB hHeld ⊢
    refine take_ (i := 0) (N := some 7) (v := ?_) (a' := ?_) #[true, false, false] rfl rfl (by kernel_rfl) (fun _ _ _ h => h) (Or.inl ⟨by rfl, ?_⟩) hHeld ?_ ?_
    rotate_left
    ·
     rintro w' ⟨s0, s1⟩
     go_simp
     with_reducible rfl
    rotate_left
    ·
     simp only [Act.put, List.setIfInBounds_toArray, List.set_cons_zero, List.set_cons_succ, i64_w, i32_w]
     rfl
    refine one_ (i := 1) (N := some 8) #[true, true, false] rfl rfl (by kernel_rfl) (by decide) (fun K hK => ?_)
    refine goes_ Try.func45 (by kernel_rfl) rfl #[.int .i64 0] (by rfl) rfl rfl (mapq rfl) ?_
    with_reducible refine (span_Of.calls 0 t171 t172 _ A3.out).mono ?_
    rintro e w25 ⟨rfl, hb⟩
    refine ⟨_, rfl, ?_⟩
    replace BK168 := bb BK168 hb rfl; replace BK169 := bb BK169 hb rfl; replace BK170 := bb BK170 hb rfl; replace HB := hst HB hb rfl
    (try clear hb)
    refine hK.out _ _ ⟨bc BK169 0 rfl, bc BK169 1 rfl⟩ (fun hHeld => ?_)
    clear hK K
    refine norm_ (a' := ?_) ?_ ?_
    rotate_left; · (show Act.put _ (some 8) _ = _; simp only [Act.put, List.setIfInBounds_toArray, List.set_cons_zero, List.set_cons_succ, i64_w, i32_w]; rfl)
    refine pure_ (i := 2) (N := some 9) (v := ?_) (a' := ?_) #[true, true, true] rfl rfl (by kernel_rfl) (fun _ _ _ h => h) (Or.inl ⟨by rfl, ?_⟩) ?_ ?_
    rotate_left; · (intro w'; go_simp; with_reducible rfl)
    rotate_left; · (simp only [Act.put, List.setIfInBounds_toArray, List.set_cons_zero, List.set_cons_succ, i64_w, i32_w]; rfl)
    refine done_ (by kernel_rfl) ?_
    have hnb26 := NB169_168.out
    have hnc26 := NB168_169.out
    have hnb27 := NB169_170.out
    have hnc27 := NB170_169.out
    obtain ⟨hcz28_0, hcz28_1, hfz28_0, hfz28_1⟩ := c2 BK169
    have hnb29 := NB168_170.out
    have hnc29 := NB170_168.out
    obtain ⟨hcz30_0, hcz30_1, hfz30_0, hfz30_1⟩ := c2 BK168
    obtain ⟨hcz31_0, hcz31_1, hfz31_0, hfz31_1⟩ := c2 BK170
    try go_wp2
    refine bodyPost_ret (results_ct rfl _ _ gb170 59 #[.int .i64 ji18, .int .i64 ji20] (0, 0) _ rfl (by (with_reducible repeat (first | refine blk_drewN ?_ _ | refine blk_drew ?_ | refine blk_alloc ?_ _)); refine blk_put (cs := #[.int .i64 ji18, .int .i64 0]) ?_ 1 _ rfl; (with_reducible repeat (first | refine blk_drewN ?_ _ | refine blk_drew ?_ | refine blk_alloc ?_ _)); refine blk_put (cs := #[.int .i64 0, .int .i64 0]) ?_ 0 _ rfl; (with_reducible repeat (first | refine blk_drewN ?_ _ | refine blk_drew ?_ | refine blk_alloc ?_ _)); exact BK170.out) Try.underlying59 rfl (by kernel_rfl)) rfl ?_
    exact ⟨by first | rfl | (simp [errW_none, errW_some] <;> rfl) | (simp only [← hji13, ← hji16, ← hji17, ← hji18, ← hji19, ← hji20]; first | rfl | (simp [errW_none, errW_some] <;> rfl)) | (simp [*, errW_none, errW_some] <;> rfl), by repeat (first | (with_reducible first | exact HB.out | apply below_alloc | apply pw_below_drewN | apply below_drew1 | refine below_set ?_ GE168.out | refine below_set ?_ GE169.out | refine below_set ?_ GE170.out) | exact HB.out)⟩
   ·
    rw [if_neg c15] at H
    have c15b0 : decide (a1_0 < 0) = false := decide_eq_false c15
    clear c15
    exact absurd H (by simp)
  ·
   rw [if_neg c14] at H
   have c14b0 : (a1_1 == (-9223372036854775808)) = false := beq_eq_false_iff_ne.mpr c14
   have c14b1 : (a1_1 != (-9223372036854775808)) = true := bne_iff_ne.mpr c14
   by_cases c32 : a1_0 < 0
   ·
    rw [if_pos c32] at H
    have c32b0 : decide (a1_0 < 0) = true := decide_eq_true c32
    clear c32
    obtain ⟨ji33, hji33⟩ : ∃ j_ : Int, (mx (ji13) (Go.bits .xor .i64 (-1) a1_0)) = j_ := ⟨_, rfl⟩
    replace H : (some (mn 0 (mx a0_0 (wrap64 (-(ji33)))), mx 0 (mn a0_1 (ji33)), true)) = some (r1, r2, r3) := by first | (rw [hji33] at H; exact H) | (simp only [hji33] at H ⊢; exact H)
    (try rw [hji33] at A3)
    have hji33_ : (if (ji13) < (Go.bits .xor .i64 (-1) a1_0) then (Go.bits .xor .i64 (-1) a1_0) else (ji13)) = ji33 := hji33
    obtain ⟨ji34, hji34⟩ : ∃ j_ : Int, (mx a0_0 (wrap64 (-(ji33)))) = j_ := ⟨_, rfl⟩
    replace H : (some (mn 0 (ji34), mx 0 (mn a0_1 (ji33)), true)) = some (r1, r2, r3) := by first | (rw [hji34] at H; exact H) | (simp only [hji34] at H ⊢; exact H)
    (try rw [hji34] at A3)
    have hji34_ : (if a0_0 < (wrap64 (-(ji33))) then (wrap64 (-(ji33))) else a0_0) = ji34 := hji34
    obtain ⟨ji35, hji35⟩ : ∃ j_ : Int, (mn 0 (ji34)) = j_ := ⟨_, rfl⟩
    replace H : (some (ji35, mx 0 (mn a0_1 (ji33)), true)) = some (r1, r2, r3) := by first | (rw [hji35] at H; exact H) | (simp only [hji35] at H ⊢; exact H)
    (try rw [hji35] at A3)
    have hji35_ : (if (ji34) < 0 then (ji34) else 0) = ji35 := hji35
    obtain ⟨ji36, hji36⟩ : ∃ j_ : Int, (mn a0_1 (ji33)) = j_ := ⟨_, rfl⟩
    replace H : (some (ji35, mx 0 (ji36), true)) = some (r1, r2, r3) := by first | (rw [hji36] at H; exact H) | (simp only [hji36] at H ⊢; exact H)
    (try rw [hji36] at A3)
    have hji36_ : (if (ji33) < a0_1 then (ji33) else a0_1) = ji36 := hji36
    obtain ⟨ji37, hji37⟩ : ∃ j_ : Int, (mx 0 (ji36)) = j_ := ⟨_, rfl⟩
    replace H : (some (ji35, ji37, true)) = some (r1, r2, r3) := by first | (rw [hji37] at H; exact H) | (simp only [hji37] at H ⊢; exact H)
    (try rw [hji37] at A3)
    have hji37_ : (if 0 < (ji36) then (ji36) else 0) = ji37 := hji37
    simp only [Option.some.injEq, Prod.mk.injEq] at H
    obtain ⟨rfl, rfl, rfl⟩ := H
    go_enter Try.func69, Try.ntmps69
    try go_wp2_with (first | ((with_reducible refine gate_dst (N := 2) rfl ?_); refine box_event ?hg (N := 2) ?hd (cs := #[.int .i64 a0_0, .int .i64 a0_1]) (t := 59) ?hr ?_; (case hd => rfl); (case hg => rfl); (case hr => first | (go_simp; done) | (go_simp; rfl)); intro gb168 hg w38 hbox hb; have BK168 := Aside0.mk (hbox); have GW168 := geb hg HB rfl; have GE168 := geb hg HB rfl; replace HB := hst HB hb rfl; clear hb hbox hg) | ((with_reducible refine gate_dst (N := 3) rfl ?_); refine box_event ?hg (N := 3) ?hd (cs := #[.int .i64 a1_0, .int .i64 a1_1]) (t := 59) ?hr ?_; (case hd => rfl); (case hg => rfl); (case hr => first | (go_simp; done) | (go_simp; rfl)); intro gb169 hg w39 hbox hb; have BK169 := Aside0.mk (hbox); have GW169 := geb hg HB rfl; have GE169 := geb hg HB rfl; have NB168_169 := nbl hg BK168 rfl; have NB169_168 := nbr hg BK168 rfl; replace BK168 := bb BK168 hb rfl; replace HB := hst HB hb rfl; clear hb hbox hg) | ((with_reducible refine gate_dst (N := 4) rfl ?_); refine box_event ?hg (N := 4) ?hd (cs := #[.int .i64 0, .int .i64 0]) (t := 59) ?hr ?_; (case hd => rfl); (case hg => rfl); (case hr => first | (go_simp; done) | (go_simp; rfl)); intro gb170 hg w40 hbox hb; have BK170 := Aside0.mk (hbox); have GW170 := geb hg HB rfl; have GE170 := geb hg HB rfl; have NB168_170 := nbl hg BK168 rfl; have NB170_168 := nbr hg BK168 rfl; have NB169_170 := nbl hg BK169 rfl; have NB170_169 := nbr hg BK169 rfl; replace BK168 := bb BK168 hb rfl; replace BK169 := bb BK169 hb rfl; replace HB := hst HB hb rfl; clear hb hbox hg))
    replace BK168 := Aside0.mk (blk_drew BK168.out); replace BK169 := Aside0.mk (blk_drew BK169.out); replace BK170 := Aside0.mk (blk_drew BK170.out); replace HB := Aside0.mk (below_drew1 HB.out)
    refine start_ (n := 3) (S := fun w' => w'.cell? ⟨gb169, 0, none⟩ = some (.int .i64 a1_0) ∧ w'.cell? ⟨gb169, 1, none⟩ = some (.int .i64 a1_1)) (ds := []) #[false, false, false] (by kernel_rfl) rfl rfl ⟨bc BK169 0 rfl, bc BK169 1 rfl⟩ (fun hHeld => ?_)
    generalize w40.drew = w41 at BK168 BK169 BK170 HB hHeld ⊢
    refine take_ (i := 0) (N := some 7) (v := ?_) (a' := ?_) #[true, false, false] rfl rfl (by kernel_rfl) (fun _ _ _ h => h) (Or.inl ⟨by rfl, ?_⟩) hHeld ?_ ?_
    rotate_left
    ·
     rintro w' ⟨s0, s1⟩
     go_simp
     with_reducible rfl
    rotate_left
    ·
     simp only [Act.put, List.setIfInBounds_toArray, List.set_cons_zero, List.set_cons_succ, i64_w, i32_w]
     rfl
    refine one_ (i := 1) (N := some 8) #[true, true, false] rfl rfl (by kernel_rfl) (by decide) (fun K hK => ?_)
    refine goes_ Try.func45 (by kernel_rfl) rfl #[.int .i64 0] (by rfl) rfl rfl (mapq rfl) ?_
    with_reducible refine (span_Of.calls 0 t171 t172 _ A3.out).mono ?_
    rintro e w42 ⟨rfl, hb⟩
    refine ⟨_, rfl, ?_⟩
    replace BK168 := bb BK168 hb rfl; replace BK169 := bb BK169 hb rfl; replace BK170 := bb BK170 hb rfl; replace HB := hst HB hb rfl
    (try clear hb)
    refine hK.out _ _ ⟨bc BK169 0 rfl, bc BK169 1 rfl⟩ (fun hHeld => ?_)
    clear hK K
    refine norm_ (a' := ?_) ?_ ?_
    rotate_left; · (show Act.put _ (some 8) _ = _; simp only [Act.put, List.setIfInBounds_toArray, List.set_cons_zero, List.set_cons_succ, i64_w, i32_w]; rfl)
    refine pure_ (i := 2) (N := some 9) (v := ?_) (a' := ?_) #[true, true, true] rfl rfl (by kernel_rfl) (fun _ _ _ h => h) (Or.inl ⟨by rfl, ?_⟩) ?_ ?_
    rotate_left; · (intro w'; go_simp; with_reducible rfl)
    rotate_left; · (simp only [Act.put, List.setIfInBounds_toArray, List.set_cons_zero, List.set_cons_succ, i64_w, i32_w]; rfl)
    refine done_ (by kernel_rfl) ?_
    have hnb43 := NB169_168.out
    have hnc43 := NB168_169.out
    have hnb44 := NB169_170.out
    have hnc44 := NB170_169.out
    obtain ⟨hcz45_0, hcz45_1, hfz45_0, hfz45_1⟩ := c2 BK169
    have hnb46 := NB168_170.out
    have hnc46 := NB170_168.out
    obtain ⟨hcz47_0, hcz47_1, hfz47_0, hfz47_1⟩ := c2 BK168
    obtain ⟨hcz48_0, hcz48_1, hfz48_0, hfz48_1⟩ := c2 BK170
    try go_wp2
    refine bodyPost_ret (results_ct rfl _ _ gb170 59 #[.int .i64 ji35, .int .i64 ji37] (0, 0) _ rfl (by (with_reducible repeat (first | refine blk_drewN ?_ _ | refine blk_drew ?_ | refine blk_alloc ?_ _)); refine blk_put (cs := #[.int .i64 ji35, .int .i64 0]) ?_ 1 _ rfl; (with_reducible repeat (first | refine blk_drewN ?_ _ | refine blk_drew ?_ | refine blk_alloc ?_ _)); refine blk_put (cs := #[.int .i64 0, .int .i64 0]) ?_ 0 _ rfl; (with_reducible repeat (first | refine blk_drewN ?_ _ | refine blk_drew ?_ | refine blk_alloc ?_ _)); exact BK170.out) Try.underlying59 rfl (by kernel_rfl)) rfl ?_
    exact ⟨by first | rfl | (simp [errW_none, errW_some] <;> rfl) | (simp only [← hji13, ← hji33, ← hji34, ← hji35, ← hji36, ← hji37]; first | rfl | (simp [errW_none, errW_some] <;> rfl)) | (simp [*, errW_none, errW_some] <;> rfl), by repeat (first | (with_reducible first | exact HB.out | apply below_alloc | apply pw_below_drewN | apply below_drew1 | refine below_set ?_ GE168.out | refine below_set ?_ GE169.out | refine below_set ?_ GE170.out) | exact HB.out)⟩
   ·
    rw [if_neg c32] at H
    have c32b0 : decide (a1_0 < 0) = false := decide_eq_false c32
    clear c32
    obtain ⟨ji49, hji49⟩ : ∃ j_ : Int, (mx a0_0 (wrap64 (-(ji13)))) = j_ := ⟨_, rfl⟩
    replace H : (some (mn 0 (ji49), mx 0 (mn a0_1 (ji13)), true)) = some (r1, r2, r3) := by first | (rw [hji49] at H; exact H) | (simp only [hji49] at H ⊢; exact H)
    (try rw [hji49] at A3)
    have hji49_ : (if a0_0 < (wrap64 (-(ji13))) then (wrap64 (-(ji13))) else a0_0) = ji49 := hji49
    obtain ⟨ji50, hji50⟩ : ∃ j_ : Int, (mn 0 (ji49)) = j_ := ⟨_, rfl⟩
    replace H : (some (ji50, mx 0 (mn a0_1 (ji13)), true)) = some (r1, r2, r3) := by first | (rw [hji50] at H; exact H) | (simp only [hji50] at H ⊢; exact H)
    (try rw [hji50] at A3)
    have hji50_ : (if (ji49) < 0 then (ji49) else 0) = ji50 := hji50
    obtain ⟨ji51, hji51⟩ : ∃ j_ : Int, (mn a0_1 (ji13)) = j_ := ⟨_, rfl⟩
    replace H : (some (ji50, mx 0 (ji51), true)) = some (r1, r2, r3) := by first | (rw [hji51] at H; exact H) | (simp only [hji51] at H ⊢; exact H)
    (try rw [hji51] at A3)
    have hji51_ : (if (ji13) < a0_1 then (ji13) else a0_1) = ji51 := hji51
    obtain ⟨ji52, hji52⟩ : ∃ j_ : Int, (mx 0 (ji51)) = j_ := ⟨_, rfl⟩
    replace H : (some (ji50, ji52, true)) = some (r1, r2, r3) := by first | (rw [hji52] at H; exact H) | (simp only [hji52] at H ⊢; exact H)
    (try rw [hji52] at A3)
    have hji52_ : (if 0 < (ji51) then (ji51) else 0) = ji52 := hji52
    simp only [Option.some.injEq, Prod.mk.injEq] at H
    obtain ⟨rfl, rfl, rfl⟩ := H
    go_enter Try.func69, Try.ntmps69
    try go_wp2_with (first | ((with_reducible refine gate_dst (N := 2) rfl ?_); refine box_event ?hg (N := 2) ?hd (cs := #[.int .i64 a0_0, .int .i64 a0_1]) (t := 59) ?hr ?_; (case hd => rfl); (case hg => rfl); (case hr => first | (go_simp; done) | (go_simp; rfl)); intro gb168 hg w53 hbox hb; have BK168 := Aside0.mk (hbox); have GW168 := geb hg HB rfl; have GE168 := geb hg HB rfl; replace HB := hst HB hb rfl; clear hb hbox hg) | ((with_reducible refine gate_dst (N := 3) rfl ?_); refine box_event ?hg (N := 3) ?hd (cs := #[.int .i64 a1_0, .int .i64 a1_1]) (t := 59) ?hr ?_; (case hd => rfl); (case hg => rfl); (case hr => first | (go_simp; done) | (go_simp; rfl)); intro gb169 hg w54 hbox hb; have BK169 := Aside0.mk (hbox); have GW169 := geb hg HB rfl; have GE169 := geb hg HB rfl; have NB168_169 := nbl hg BK168 rfl; have NB169_168 := nbr hg BK168 rfl; replace BK168 := bb BK168 hb rfl; replace HB := hst HB hb rfl; clear hb hbox hg) | ((with_reducible refine gate_dst (N := 4) rfl ?_); refine box_event ?hg (N := 4) ?hd (cs := #[.int .i64 0, .int .i64 0]) (t := 59) ?hr ?_; (case hd => rfl); (case hg => rfl); (case hr => first | (go_simp; done) | (go_simp; rfl)); intro gb170 hg w55 hbox hb; have BK170 := Aside0.mk (hbox); have GW170 := geb hg HB rfl; have GE170 := geb hg HB rfl; have NB168_170 := nbl hg BK168 rfl; have NB170_168 := nbr hg BK168 rfl; have NB169_170 := nbl hg BK169 rfl; have NB170_169 := nbr hg BK169 rfl; replace BK168 := bb BK168 hb rfl; replace BK169 := bb BK169 hb rfl; replace HB := hst HB hb rfl; clear hb hbox hg))
    replace BK168 := Aside0.mk (blk_drew BK168.out); replace BK169 := Aside0.mk (blk_drew BK169.out); replace BK170 := Aside0.mk (blk_drew BK170.out); replace HB := Aside0.mk (below_drew1 HB.out)
    refine start_ (n := 3) (S := fun w' => w'.cell? ⟨gb169, 0, none⟩ = some (.int .i64 a1_0) ∧ w'.cell? ⟨gb169, 1, none⟩ = some (.int .i64 a1_1)) (ds := []) #[false, false, false] (by kernel_rfl) rfl rfl ⟨bc BK169 0 rfl, bc BK169 1 rfl⟩ (fun hHeld => ?_)
    generalize w55.drew = w56 at BK168 BK169 BK170 HB hHeld ⊢
    refine take_ (i := 0) (N := some 7) (v := ?_) (a' := ?_) #[true, false, false] rfl rfl (by kernel_rfl) (fun _ _ _ h => h) (Or.inl ⟨by rfl, ?_⟩) hHeld ?_ ?_
    rotate_left
    ·
     rintro w' ⟨s0, s1⟩
     go_simp
     with_reducible rfl
    rotate_left
    ·
     simp only [Act.put, List.setIfInBounds_toArray, List.set_cons_zero, List.set_cons_succ, i64_w, i32_w]
     rfl
    refine one_ (i := 1) (N := some 8) #[true, true, false] rfl rfl (by kernel_rfl) (by decide) (fun K hK => ?_)
    refine goes_ Try.func45 (by kernel_rfl) rfl #[.int .i64 0] (by rfl) rfl rfl (mapq rfl) ?_
    with_reducible refine (span_Of.calls 0 t171 t172 _ A3.out).mono ?_
    rintro e w57 ⟨rfl, hb⟩
    refine ⟨_, rfl, ?_⟩
    replace BK168 := bb BK168 hb rfl; replace BK169 := bb BK169 hb rfl; replace BK170 := bb BK170 hb rfl; replace HB := hst HB hb rfl
    (try clear hb)
    refine hK.out _ _ ⟨bc BK169 0 rfl, bc BK169 1 rfl⟩ (fun hHeld => ?_)
    clear hK K
    refine norm_ (a' := ?_) ?_ ?_
    rotate_left; · (show Act.put _ (some 8) _ = _; simp only [Act.put, List.setIfInBounds_toArray, List.set_cons_zero, List.set_cons_succ, i64_w, i32_w]; rfl)
    refine pure_ (i := 2) (N := some 9) (v := ?_) (a' := ?_) #[true, true, true] rfl rfl (by kernel_rfl) (fun _ _ _ h => h) (Or.inl ⟨by rfl, ?_⟩) ?_ ?_
    rotate_left; · (intro w'; go_simp; with_reducible rfl)
    rotate_left; · (simp only [Act.put, List.setIfInBounds_toArray, List.set_cons_zero, List.set_cons_succ, i64_w, i32_w]; rfl)
    refine done_ (by kernel_rfl) ?_
    have hnb58 := NB169_168.out
    have hnc58 := NB168_169.out
    have hnb59 := NB169_170.out
    have hnc59 := NB170_169.out
    obtain ⟨hcz60_0, hcz60_1, hfz60_0, hfz60_1⟩ := c2 BK169
    have hnb61 := NB168_170.out
    have hnc61 := NB170_168.out
    obtain ⟨hcz62_0, hcz62_1, hfz62_0, hfz62_1⟩ := c2 BK168
    obtain ⟨hcz63_0, hcz63_1, hfz63_0, hfz63_1⟩ := c2 BK170
    try go_wp2
    refine bodyPost_ret (results_ct rfl _ _ gb170 59 #[.int .i64 ji50, .int .i64 ji52] (0, 0) _ rfl (by (with_reducible repeat (first | refine blk_drewN ?_ _ | refine blk_drew ?_ | refine blk_alloc ?_ _)); refine blk_put (cs := #[.int .i64 ji50, .int .i64 0]) ?_ 1 _ rfl; (with_reducible repeat (first | refine blk_drewN ?_ _ | refine blk_drew ?_ | refine blk_alloc ?_ _)); refine blk_put (cs := #[.int .i64 0, .int .i64 0]) ?_ 0 _ rfl; (with_reducible repeat (first | refine blk_drewN ?_ _ | refine blk_drew ?_ | refine blk_alloc ?_ _)); exact BK170.out) Try.underlying59 rfl (by kernel_rfl)) rfl ?_
    exact ⟨by first | rfl | (simp [errW_none, errW_some] <;> rfl) | (simp only [← hji13, ← hji49, ← hji50, ← hji51, ← hji52]; first | rfl | (simp [errW_none, errW_some] <;> rfl)) | (simp [*, errW_none, errW_some] <;> rfl), by repeat (first | (with_reducible first | exact HB.out | apply below_alloc | apply pw_below_drewN | apply below_drew1 | refine below_set ?_ GE168.out | refine below_set ?_ GE169.out | refine below_set ?_ GE170.out) | exact HB.out)⟩

/-! ### span_Span_above: function 85 -/
def span_Span_above.f (a0_0 : Int) (a0_1 : Int) : Option (Bool) := some (decide (a0_0 ≥ 0))
set_option maxHeartbeats 8000000 in
set_option maxRecDepth 100000 in
theorem span_Span_above.calls (a0_0 : Int) (a0_1 : Int) (r : Bool) (w : World) (h : span_Span_above.f a0_0 a0_1 = some r) :
  Calls Try.prog 85 #[.agg #[.int .i64 a0_0, .int .i64 a0_1]] w fun e w' => e = .returned (.bool r) ∧ Below w.heap.size w w' := by
 have hu59 := Try.underlying59
 have HB := Aside0.mk (Below.refl w.heap.size w)
 have H : (some (decide (a0_0 ≥ 0))) = some r := h
 clear h
 obtain rfl := Option.some.inj H
 go_enter Try.func85, Try.ntmps85
 go_wp2_with (first | ((with_reducible refine gate_dst (N := 1) rfl ?_); refine box_event ?hg (N := 1) ?hd (cs := #[.int .i64 a0_0, .int .i64 a0_1]) (t := 59) ?hr ?_; (case hd => rfl); (case hg => rfl); (case hr => first | (go_simp; done) | (go_simp; rfl)); intro gb173 hg w2 hbox hb; have BK173 := Aside0.mk (hbox); have GW173 := geb hg HB rfl; have GE173 := geb hg HB rfl; replace HB := hst HB hb rfl; clear hb hbox hg; obtain ⟨hcz3_0, hcz3_1, hfz3_0, hfz3_1⟩ := c2 BK173))
 go_ret
 exact ⟨by first | rfl | (simp [*, errW_none, errW_some] <;> rfl), by repeat (first | (with_reducible first | exact HB.out | apply below_alloc | apply pw_below_drewN | apply below_drew1 | refine below_set ?_ GE173.out) | exact HB.out)⟩

/-! ### span_Span_below: function 86 -/
def span_Span_below.f (a0_0 : Int) (a0_1 : Int) : Option (Bool) := some (decide (a0_1 < 0))
set_option maxHeartbeats 8000000 in
set_option maxRecDepth 100000 in
theorem span_Span_below.calls (a0_0 : Int) (a0_1 : Int) (r : Bool) (w : World) (h : span_Span_below.f a0_0 a0_1 = some r) :
  Calls Try.prog 86 #[.agg #[.int .i64 a0_0, .int .i64 a0_1]] w fun e w' => e = .returned (.bool r) ∧ Below w.heap.size w w' := by
 have hu59 := Try.underlying59
 have HB := Aside0.mk (Below.refl w.heap.size w)
 have H : (some (decide (a0_1 < 0))) = some r := h
 clear h
 obtain rfl := Option.some.inj H
 go_enter Try.func86, Try.ntmps86
 go_wp2_with (first | ((with_reducible refine gate_dst (N := 1) rfl ?_); refine box_event ?hg (N := 1) ?hd (cs := #[.int .i64 a0_0, .int .i64 a0_1]) (t := 59) ?hr ?_; (case hd => rfl); (case hg => rfl); (case hr => first | (go_simp; done) | (go_simp; rfl)); intro gb174 hg w2 hbox hb; have BK174 := Aside0.mk (hbox); have GW174 := geb hg HB rfl; have GE174 := geb hg HB rfl; replace HB := hst HB hb rfl; clear hb hbox hg; obtain ⟨hcz3_0, hcz3_1, hfz3_0, hfz3_1⟩ := c2 BK174))
 go_ret
 exact ⟨by first | rfl | (simp [*, errW_none, errW_some] <;> rfl), by repeat (first | (with_reducible first | exact HB.out | apply below_alloc | apply pw_below_drewN | apply below_drew1 | refine below_set ?_ GE174.out) | exact HB.out)⟩

end Go.Proofs.Ytpacmhhaabhdjaa.SM
