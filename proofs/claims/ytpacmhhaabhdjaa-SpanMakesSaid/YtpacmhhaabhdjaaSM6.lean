-- Written by a program of this session: plain functions and their walks. Lean checks it.
import Derived.Test.YtpacmhhaabhdjaaSM0
import Derived.Test.YtpacmhhaabhdjaaSM3
import Derived.Test.YtpacmhhaabhdjaaSM4
import Derived.Test.YtpacmhhaabhdjaaSM5
namespace Go.Proofs.Ytpacmhhaabhdjaa.SM
open Go.RowKit Go.Proofs.YtpacmhhaabhdjaaW.PrintWords Go.Proofs.YtpacmhhaabhdjaaW.PrintLast Go.Proofs.YtpacmhhaabhdjaaW.PrintMore
attribute [local go_sem] max2_int min2_int max_two min_two max_three min_three max_four min_four   -- for this text's walks alone
set_option linter.unusedVariables false
set_option linter.unusedSimpArgs false

/-! ### span_either: function 71 -/
mutual
def span_either.j0 : Nat → Bool → Int → Int → Int → Int → Option (Int × Int)
 | 0, _, _, _, _, _ => none
 | k + 1, x5, x188000, x188001, x189000, x189001 => if x5 = true then ((span_ones.f k (mx x188001 x189001)).bind fun t192 => (some (0, t192))) else ((span_Span_below.f x188000 x188001).bind fun t193 => (if t193 = true then ((span_Span_below.f x189000 x189001).bind fun t194 => (span_either.j1 k t194 x188000 x188001 x189000 x189001)) else (span_either.j1 k false x188000 x188001 x189000 x189001)))
def span_either.j1 : Nat → Bool → Int → Int → Int → Int → Option (Int × Int)
 | 0, _, _, _, _, _ => none
 | k + 1, x19, x188000, x188001, x189000, x189001 => if x19 = true then ((span_Span_turned.f x188000 x188001).bind fun bt195 => ((span_Span_turned.f x189000 x189001).bind fun bt197 => ((span_either.f k bt195.1 bt195.2 bt197.1 bt197.2).bind fun bt199 => (some (bt199.1, bt199.2))))) else ((span_Span_below.f x188000 x188001).bind fun t201 => (if t201 = true then ((span_Span_above.f x189000 x189001).bind fun t202 => (span_either.j2 k t202 x188000 x188001 x189000 x189001)) else (span_either.j2 k false x188000 x188001 x189000 x189001)))
def span_either.j2 : Nat → Bool → Int → Int → Int → Int → Option (Int × Int)
 | 0, _, _, _, _, _ => none
 | k + 1, x31, x188000, x188001, x189000, x189001 => if x31 = true then ((span_Span_turned.f x188000 x188001).bind fun bt203 => ((span_either.f k bt203.1 bt203.2 x189000 x189001).bind fun bt205 => ((span_Span_turned.f bt205.1 bt205.2).bind fun bt207 => (some (bt207.1, bt207.2))))) else ((span_Span_above.f x188000 x188001).bind fun t209 => (if t209 = true then ((span_Span_below.f x189000 x189001).bind fun t210 => (span_either.j3 k t210 x188000 x188001 x189000 x189001)) else (span_either.j3 k false x188000 x188001 x189000 x189001)))
def span_either.j3 : Nat → Bool → Int → Int → Int → Int → Option (Int × Int)
 | 0, _, _, _, _, _ => none
 | k + 1, x43, x188000, x188001, x189000, x189001 => if x43 = true then ((span_Span_turned.f x189000 x189001).bind fun bt211 => ((span_either.f k x188000 x188001 bt211.1 bt211.2).bind fun bt213 => ((span_Span_turned.f bt213.1 bt213.2).bind fun bt215 => (some (bt215.1, bt215.2))))) else ((span_Any.f).bind fun bt217 => (some (bt217.1, bt217.2)))
def span_either.f : Nat → Int → Int → Int → Int → Option (Int × Int)
 | 0, _, _, _, _ => none
 | k + 1, a0_0, a0_1, a1_0, a1_1 => (span_Span_above.f a0_0 a0_1).bind fun t190 => (if t190 = true then ((span_Span_above.f a1_0 a1_1).bind fun t191 => (span_either.j0 k t191 a0_0 a0_1 a1_0 a1_1)) else (span_either.j0 k false a0_0 a0_1 a1_0 a1_1))
end
theorem span_either.mono_l : ∀ k, (∀ y0 y1 y2 y3, LeO (span_either.f k y0 y1 y2 y3) (span_either.f (k + 1) y0 y1 y2 y3)) ∧ (∀ y0 y1 y2 y3 y4, LeO (span_either.j0 k y0 y1 y2 y3 y4) (span_either.j0 (k + 1) y0 y1 y2 y3 y4)) ∧ (∀ y0 y1 y2 y3 y4, LeO (span_either.j1 k y0 y1 y2 y3 y4) (span_either.j1 (k + 1) y0 y1 y2 y3 y4)) ∧ (∀ y0 y1 y2 y3 y4, LeO (span_either.j2 k y0 y1 y2 y3 y4) (span_either.j2 (k + 1) y0 y1 y2 y3 y4)) ∧ (∀ y0 y1 y2 y3 y4, LeO (span_either.j3 k y0 y1 y2 y3 y4) (span_either.j3 (k + 1) y0 y1 y2 y3 y4))
 | 0 => ⟨fun _ _ _ _ r h => by simp [span_either.f] at h, fun _ _ _ _ _ r h => by simp [span_either.j0] at h, fun _ _ _ _ _ r h => by simp [span_either.j1] at h, fun _ _ _ _ _ r h => by simp [span_either.j2] at h, fun _ _ _ _ _ r h => by simp [span_either.j3] at h⟩
 | k + 1 => by
  obtain ⟨ih0, ih1, ih2, ih3, ih4⟩ := span_either.mono_l k
  refine ⟨?_, ?_, ?_, ?_, ?_⟩
  ·
   intro y0 y1 y2 y3
   unfold span_either.f
   repeat' first
   | (with_reducible exact ih0 _ _ _ _)
   | (with_reducible exact ih1 _ _ _ _ _)
   | (with_reducible exact ih2 _ _ _ _ _)
   | (with_reducible exact ih3 _ _ _ _ _)
   | (with_reducible exact ih4 _ _ _ _ _)
   | (with_reducible exact span_ones.mono _ _)
   | (with_reducible exact LeO.refl _)
   | (with_reducible exact LeO.none _)
   | (with_reducible refine LeO.ite ?_ ?_)
   | (with_reducible refine LeO.bind ?_ (fun _ => ?_))
   | exact ih0 _ _ _ _
   | exact ih1 _ _ _ _ _
   | exact ih2 _ _ _ _ _
   | exact ih3 _ _ _ _ _
   | exact ih4 _ _ _ _ _
   | exact span_ones.mono _ _
   | exact LeO.none _
   | refine LeO.ite ?_ ?_
   | refine LeO.bind ?_ (fun _ => ?_)
  ·
   intro y0 y1 y2 y3 y4
   unfold span_either.j0
   repeat' first
   | (with_reducible exact ih0 _ _ _ _)
   | (with_reducible exact ih1 _ _ _ _ _)
   | (with_reducible exact ih2 _ _ _ _ _)
   | (with_reducible exact ih3 _ _ _ _ _)
   | (with_reducible exact ih4 _ _ _ _ _)
   | (with_reducible exact span_ones.mono _ _)
   | (with_reducible exact LeO.refl _)
   | (with_reducible exact LeO.none _)
   | (with_reducible refine LeO.ite ?_ ?_)
   | (with_reducible refine LeO.bind ?_ (fun _ => ?_))
   | exact ih0 _ _ _ _
   | exact ih1 _ _ _ _ _
   | exact ih2 _ _ _ _ _
   | exact ih3 _ _ _ _ _
   | exact ih4 _ _ _ _ _
   | exact span_ones.mono _ _
   | exact LeO.none _
   | refine LeO.ite ?_ ?_
   | refine LeO.bind ?_ (fun _ => ?_)
  ·
   intro y0 y1 y2 y3 y4
   unfold span_either.j1
   repeat' first
   | (with_reducible exact ih0 _ _ _ _)
   | (with_reducible exact ih1 _ _ _ _ _)
   | (with_reducible exact ih2 _ _ _ _ _)
   | (with_reducible exact ih3 _ _ _ _ _)
   | (with_reducible exact ih4 _ _ _ _ _)
   | (with_reducible exact span_ones.mono _ _)
   | (with_reducible exact LeO.refl _)
   | (with_reducible exact LeO.none _)
   | (with_reducible refine LeO.ite ?_ ?_)
   | (with_reducible refine LeO.bind ?_ (fun _ => ?_))
   | exact ih0 _ _ _ _
   | exact ih1 _ _ _ _ _
   | exact ih2 _ _ _ _ _
   | exact ih3 _ _ _ _ _
   | exact ih4 _ _ _ _ _
   | exact span_ones.mono _ _
   | exact LeO.none _
   | refine LeO.ite ?_ ?_
   | refine LeO.bind ?_ (fun _ => ?_)
  ·
   intro y0 y1 y2 y3 y4
   unfold span_either.j2
   repeat' first
   | (with_reducible exact ih0 _ _ _ _)
   | (with_reducible exact ih1 _ _ _ _ _)
   | (with_reducible exact ih2 _ _ _ _ _)
   | (with_reducible exact ih3 _ _ _ _ _)
   | (with_reducible exact ih4 _ _ _ _ _)
   | (with_reducible exact span_ones.mono _ _)
   | (with_reducible exact LeO.refl _)
   | (with_reducible exact LeO.none _)
   | (with_reducible refine LeO.ite ?_ ?_)
   | (with_reducible refine LeO.bind ?_ (fun _ => ?_))
   | exact ih0 _ _ _ _
   | exact ih1 _ _ _ _ _
   | exact ih2 _ _ _ _ _
   | exact ih3 _ _ _ _ _
   | exact ih4 _ _ _ _ _
   | exact span_ones.mono _ _
   | exact LeO.none _
   | refine LeO.ite ?_ ?_
   | refine LeO.bind ?_ (fun _ => ?_)
  ·
   intro y0 y1 y2 y3 y4
   unfold span_either.j3
   repeat' first
   | (with_reducible exact ih0 _ _ _ _)
   | (with_reducible exact ih1 _ _ _ _ _)
   | (with_reducible exact ih2 _ _ _ _ _)
   | (with_reducible exact ih3 _ _ _ _ _)
   | (with_reducible exact ih4 _ _ _ _ _)
   | (with_reducible exact span_ones.mono _ _)
   | (with_reducible exact LeO.refl _)
   | (with_reducible exact LeO.none _)
   | (with_reducible refine LeO.ite ?_ ?_)
   | (with_reducible refine LeO.bind ?_ (fun _ => ?_))
   | exact ih0 _ _ _ _
   | exact ih1 _ _ _ _ _
   | exact ih2 _ _ _ _ _
   | exact ih3 _ _ _ _ _
   | exact ih4 _ _ _ _ _
   | exact span_ones.mono _ _
   | exact LeO.none _
   | refine LeO.ite ?_ ?_
   | refine LeO.bind ?_ (fun _ => ?_)
theorem span_either.mono : ∀ a0 a1 a2 a3 k, LeO (span_either.f k a0 a1 a2 a3) (span_either.f (k + 1) a0 a1 a2 a3) := by
 intro a0 a1 a2 a3 k
 obtain ⟨ih0, ih1, ih2, ih3, ih4⟩ := span_either.mono_l k
 exact ih0 a0 a1 a2 a3
set_option maxHeartbeats 8000000 in
set_option maxRecDepth 100000 in
theorem span_either.calls (k : Nat) : ∀ (a0_0 : Int) (a0_1 : Int) (a1_0 : Int) (a1_1 : Int) (r1 : Int) (r2 : Int) (w : World) (h : span_either.f k a0_0 a0_1 a1_0 a1_1 = some (r1, r2)),
  Calls Try.prog 71 #[.agg #[.int .i64 a0_0, .int .i64 a0_1], .agg #[.int .i64 a1_0, .int .i64 a1_1]] w fun e w' => e = .returned (.agg #[.int .i64 r1, .int .i64 r2]) ∧ Below w.heap.size w w' := by
 induction k using Nat.strongRecOn with
 | _ k ih =>
 intro a0_0 a0_1 a1_0 a1_1 r1 r2 w h
 cases k with
 | zero => exact absurd h (by simp [span_either.f])
 | succ k =>
 simp only [span_either.f] at h
 have hu59 := Try.underlying59
 have HB := Aside0.mk (Below.refl w.heap.size w)
 have H : ((span_Span_above.f a0_0 a0_1).bind fun t190 => (if t190 = true then ((span_Span_above.f a1_0 a1_1).bind fun t191 => (span_either.j0 k t191 a0_0 a0_1 a1_0 a1_1)) else (span_either.j0 k false a0_0 a0_1 a1_0 a1_1))) = some (r1, r2) := h
 clear h
 have HC3 := Aside0.mk H
 clear H
 go_enter Try.func71, Try.ntmps71
 go_upto_region 1 with (first | ((with_reducible refine gate_dst (N := 2) rfl ?_); refine box_event ?hg (N := 2) ?hd (cs := #[.int .i64 a0_0, .int .i64 a0_1]) (t := 59) ?hr ?_; (case hd => rfl); (case hg => rfl); (case hr => first | (go_simp; done) | (go_simp; rfl)); intro gb187 hg w4 hbox hb; have BK187 := Aside0.mk (hbox); have GW187 := geb hg HB rfl; have GE187 := geb hg HB rfl; replace HB := hst HB hb rfl; clear hb hbox hg) | ((with_reducible refine gate_dst (N := 3) rfl ?_); refine box_event ?hg (N := 3) ?hd (cs := #[.int .i64 a1_0, .int .i64 a1_1]) (t := 59) ?hr ?_; (case hd => rfl); (case hg => rfl); (case hr => first | (go_simp; done) | (go_simp; rfl)); intro gb188 hg w5 hbox hb; have BK188 := Aside0.mk (hbox); have GW188 := geb hg HB rfl; have GE188 := geb hg HB rfl; have NB187_188 := nbl hg BK187 rfl; have NB188_187 := nbr hg BK187 rfl; replace BK187 := bb BK187 hb rfl; replace HB := hst HB hb rfl; clear hb hbox hg) | ((with_reducible refine gate_dst (N := 4) rfl ?_); refine box_event ?hg (N := 4) ?hd (cs := #[.int .i64 0, .int .i64 0]) (t := 59) ?hr ?_; (case hd => rfl); (case hg => rfl); (case hr => first | (go_simp; done) | (go_simp; rfl)); intro gb189 hg w6 hbox hb; have BK189 := Aside0.mk (hbox); have GW189 := geb hg HB rfl; have GE189 := geb hg HB rfl; have NB187_189 := nbl hg BK187 rfl; have NB189_187 := nbr hg BK187 rfl; have NB188_189 := nbl hg BK188 rfl; have NB189_188 := nbr hg BK188 rfl; replace BK187 := bb BK187 hb rfl; replace BK188 := bb BK188 hb rfl; replace HB := hst HB hb rfl; clear hb hbox hg))
 (try simp only [Act.put, List.setIfInBounds_toArray, List.set_cons_zero, List.set_cons_succ])
 go_cut [5] (fun v5 wc => ∃ (kq : Nat) (x5_2 : Bool), v5 = .bool x5_2 ∧ Aside0 (span_either.j0 kq x5_2 a0_0 a0_1 a1_0 a1_1 = some (r1, r2)) ∧ Aside0 (kq ≤ k) ∧ Aside0 (wc.heap[gb187]? = some (.cells #[.int .i64 a0_0, .int .i64 a0_1] 59 (0, 0))) ∧ Aside0 (wc.heap[gb188]? = some (.cells #[.int .i64 a1_0, .int .i64 a1_1] 59 (0, 0))) ∧ Aside0 (wc.heap[gb189]? = some (.cells #[.int .i64 0, .int .i64 0] 59 (0, 0))) ∧ Aside0 (Below w.heap.size w wc))
 case first =>
  have H := HC3.out
  clear HC3
  replace H := Option.bind_eq_some_iff.mp H
  obtain ⟨t190, A70, H⟩ := H
  (try dsimp only at H)
  have A7 := Aside0.mk A70
  clear A70
  by_cases c8 : t190 = true
  ·
   subst c8
   rw [if_pos rfl] at H
   replace H := Option.bind_eq_some_iff.mp H
   obtain ⟨t191, A90, H⟩ := H
   (try dsimp only at H)
   have A9 := Aside0.mk A90
   clear A90
   have H' := Aside0.mk H
   clear H
   have hnb10 := NB187_188.out
   have hnc10 := NB188_187.out
   have hnb11 := NB187_189.out
   have hnc11 := NB189_187.out
   obtain ⟨hcz12_0, hcz12_1, hfz12_0, hfz12_1⟩ := c2 BK187
   go_wp2_with (first | ((with_reducible refine gate_callee (f := 85) rfl ?_); refine goesL_ (some 7) rfl rfl Try.func85 (by kernel_rfl) rfl #[.agg #[.int .i64 a0_0, .int .i64 a0_1]] rfl (mapq rfl) ?_; (with_reducible refine (span_Span_above.calls a0_0 a0_1 true _ A7.out).mono ?_); rintro e w13 ⟨rfl, hb⟩; refine ⟨_, rfl, ?_⟩; replace BK187 := bb BK187 hb rfl; replace BK188 := bb BK188 hb rfl; replace BK189 := bb BK189 hb rfl; replace HB := hst HB hb rfl; (try clear hb); have hnb14 := NB188_189.out; have hnc14 := NB189_188.out; obtain ⟨hcz15_0, hcz15_1, hfz15_0, hfz15_1⟩ := c2 BK188) | (go_at_call 85; (with_reducible refine (span_Span_above.calls a1_0 a1_1 t191 _ A9.out).mono ?_); rintro e w16 ⟨rfl, hb⟩; replace BK187 := bb BK187 hb rfl; replace BK188 := bb BK188 hb rfl; replace BK189 := bb BK189 hb rfl; replace HB := hst HB hb rfl; (try clear hb)))
   go_meet
   case rel => exact ⟨_, (t191), (by first | rfl | (simp; done) | (simp [*]; done)), H', ⟨by first | omega | exact Nat.le_refl _⟩, ⟨by (with_reducible repeat (first | refine blk_drewN ?_ _ | refine blk_drew ?_ | refine blk_alloc ?_ _)); exact BK187.out⟩, ⟨by (with_reducible repeat (first | refine blk_drewN ?_ _ | refine blk_drew ?_ | refine blk_alloc ?_ _)); exact BK188.out⟩, ⟨by (with_reducible repeat (first | refine blk_drewN ?_ _ | refine blk_drew ?_ | refine blk_alloc ?_ _)); exact BK189.out⟩, ⟨by repeat (first | (with_reducible first | exact HB.out | apply below_alloc | apply pw_below_drewN | apply below_drew1 | refine below_set ?_ GE187.out | refine below_set ?_ GE188.out | refine below_set ?_ GE189.out) | exact HB.out)⟩⟩
  ·
   replace c8 := Bool.eq_false_iff.mpr c8
   subst c8
   rw [if_neg (show ¬ (false = true) by decide)] at H
   have H' := Aside0.mk H
   clear H
   have hnb17 := NB187_188.out
   have hnc17 := NB188_187.out
   have hnb18 := NB187_189.out
   have hnc18 := NB189_187.out
   obtain ⟨hcz19_0, hcz19_1, hfz19_0, hfz19_1⟩ := c2 BK187
   go_wp2_with (first | ((with_reducible refine gate_callee (f := 85) rfl ?_); refine goesL_ (some 7) rfl rfl Try.func85 (by kernel_rfl) rfl #[.agg #[.int .i64 a0_0, .int .i64 a0_1]] rfl (mapq rfl) ?_; (with_reducible refine (span_Span_above.calls a0_0 a0_1 false _ A7.out).mono ?_); rintro e w20 ⟨rfl, hb⟩; refine ⟨_, rfl, ?_⟩; replace BK187 := bb BK187 hb rfl; replace BK188 := bb BK188 hb rfl; replace BK189 := bb BK189 hb rfl; replace HB := hst HB hb rfl; (try clear hb)))
   go_meet
   case rel => exact ⟨_, (false), (by first | rfl | (simp; done) | (simp [*]; done)), H', ⟨by first | omega | exact Nat.le_refl _⟩, ⟨by (with_reducible repeat (first | refine blk_drewN ?_ _ | refine blk_drew ?_ | refine blk_alloc ?_ _)); exact BK187.out⟩, ⟨by (with_reducible repeat (first | refine blk_drewN ?_ _ | refine blk_drew ?_ | refine blk_alloc ?_ _)); exact BK188.out⟩, ⟨by (with_reducible repeat (first | refine blk_drewN ?_ _ | refine blk_drew ?_ | refine blk_alloc ?_ _)); exact BK189.out⟩, ⟨by repeat (first | (with_reducible first | exact HB.out | apply below_alloc | apply pw_below_drewN | apply below_drew1 | refine below_set ?_ GE187.out | refine below_set ?_ GE188.out | refine below_set ?_ GE189.out) | exact HB.out)⟩⟩
 case rest =>
  clear HC3
  try clear c1
  try clear p2
  try clear c7
  try clear c8
  try clear c10
  try clear c11
  try clear c14
  try clear c17
  try clear c18
  try clear hcz12_0
  try clear hcz12_1
  try clear hcz15_0
  try clear hcz15_1
  try clear hcz19_0
  try clear hcz19_1
  try clear hfz12_0
  try clear hfz12_1
  try clear hfz15_0
  try clear hfz15_1
  try clear hfz19_0
  try clear hfz19_1
  obtain ⟨kq, x5_2, rfl, HA, HJ2, BK187, BK188, BK189, HB⟩ := hcut
  cases kq with
  | zero => exact absurd HA.out (by simp [span_either.j0])
  | succ kj2 =>
   have H := HA.out
   clear HA
   simp only [span_either.j0] at H
   by_cases c21 : x5_2 = true
   ·
    subst c21
    rw [if_pos rfl] at H
    obtain ⟨ji22, hji22⟩ : ∃ j_ : Int, (mx a0_1 a1_1) = j_ := ⟨_, rfl⟩
    replace H : ((span_ones.f kj2 (ji22)).bind fun t192 => (some (0, t192))) = some (r1, r2) := by first | (rw [hji22] at H; exact H) | (simp only [hji22] at H ⊢; exact H)
    have hji22_ : (if a0_1 < a1_1 then a1_1 else a0_1) = ji22 := hji22
    replace H := Option.bind_eq_some_iff.mp H
    obtain ⟨t192, A230, H⟩ := H
    (try dsimp only at H)
    have A23 := Aside0.mk A230
    clear A230
    simp only [Option.some.injEq, Prod.mk.injEq] at H
    obtain ⟨rfl, rfl⟩ := H
    have hnb24 := NB187_188.out
    have hnc24 := NB188_187.out
    have hnb25 := NB187_189.out
    have hnc25 := NB189_187.out
    obtain ⟨hcz26_0, hcz26_1, hfz26_0, hfz26_1⟩ := c2 BK187
    have hnb27 := NB188_189.out
    have hnc27 := NB189_188.out
    obtain ⟨hcz28_0, hcz28_1, hfz28_0, hfz28_1⟩ := c2 BK188
    go_wp2_with (first | ((with_reducible refine gate_callee (f := 87) rfl ?_); refine goesL_ (some 17) rfl rfl Try.func87 (by kernel_rfl) rfl #[.int .i64 ji22] rfl (by (try simp only [List.map_toArray, List.map_cons, List.map_nil]); first | done | (simp only [hji22]; rfl) | rfl | (simp only [List.length_drop, List.length_take]; rfl)) ?_; (with_reducible refine (span_ones.calls kj2 ji22 t192 _ A23.out).mono ?_); rintro e w' ⟨rfl, ⟨nd, rfl⟩⟩; refine ⟨_, rfl, ?_⟩; (try (rw [drewN_self wc]; generalize hq_ : World.drewN wc _ = wc; replace BK187 := dk BK187 hq_; replace BK188 := dk BK188 hq_; replace BK189 := dk BK189 hq_; replace HB := dh HB hq_; clear hq_)); obtain ⟨hcz29_0, hcz29_1, hfz29_0, hfz29_1⟩ := c2 BK189))
    refine bodyPost_ret (results_cell_row rfl _ _ gb189 59 #[.int .i64 0, .int .i64 t192] (0, 0) _ rfl (by (with_reducible repeat (first | refine blk_drewN ?_ _ | refine blk_drew ?_ | refine blk_alloc ?_ _)); refine blk_put (cs := #[.int .i64 0, .int .i64 0]) ?_ 1 _ rfl; (with_reducible repeat (first | refine blk_drewN ?_ _ | refine blk_drew ?_ | refine blk_alloc ?_ _)); refine blk_put (cs := #[.int .i64 0, .int .i64 0]) ?_ 0 _ rfl; (with_reducible repeat (first | refine blk_drewN ?_ _ | refine blk_drew ?_ | refine blk_alloc ?_ _)); exact BK189.out) Try.underlying59 rfl (by kernel_rfl)) rfl ?_
    exact ⟨by first | rfl | (simp [errW_none, errW_some] <;> rfl) | (simp only [← hji22]; first | rfl | (simp [errW_none, errW_some] <;> rfl)) | (simp [*, errW_none, errW_some] <;> rfl), by repeat (first | (with_reducible first | exact HB.out | apply below_alloc | apply pw_below_drewN | apply below_drew1 | refine below_set ?_ GE187.out | refine below_set ?_ GE188.out | refine below_set ?_ GE189.out) | exact HB.out)⟩
   ·
    replace c21 := Bool.eq_false_iff.mpr c21
    subst c21
    rw [if_neg (show ¬ (false = true) by decide)] at H
    have HC30 := Aside0.mk H
    clear H
    go_upto_region 3 with (fail)
    go_cut [19] (fun v19 wc => ∃ (kq : Nat) (x19_29 : Bool), v19 = .bool x19_29 ∧ Aside0 (span_either.j1 kq x19_29 a0_0 a0_1 a1_0 a1_1 = some (r1, r2)) ∧ Aside0 (kq ≤ kj2) ∧ Aside0 (wc.heap[gb187]? = some (.cells #[.int .i64 a0_0, .int .i64 a0_1] 59 (0, 0))) ∧ Aside0 (wc.heap[gb188]? = some (.cells #[.int .i64 a1_0, .int .i64 a1_1] 59 (0, 0))) ∧ Aside0 (wc.heap[gb189]? = some (.cells #[.int .i64 0, .int .i64 0] 59 (0, 0))) ∧ Aside0 (Below w.heap.size w wc))
    case first =>
     have H := HC30.out
     clear HC30
     replace H := Option.bind_eq_some_iff.mp H
     obtain ⟨t193, A310, H⟩ := H
     (try dsimp only at H)
     have A31 := Aside0.mk A310
     clear A310
     by_cases c32 : t193 = true
     ·
      subst c32
      rw [if_pos rfl] at H
      replace H := Option.bind_eq_some_iff.mp H
      obtain ⟨t194, A330, H⟩ := H
      (try dsimp only at H)
      have A33 := Aside0.mk A330
      clear A330
      have H' := Aside0.mk H
      clear H
      have hnb34 := NB187_188.out
      have hnc34 := NB188_187.out
      have hnb35 := NB187_189.out
      have hnc35 := NB189_187.out
      obtain ⟨hcz36_0, hcz36_1, hfz36_0, hfz36_1⟩ := c2 BK187
      go_wp2_with (first | ((with_reducible refine gate_callee (f := 86) rfl ?_); refine goesL_ (some 21) rfl rfl Try.func86 (by kernel_rfl) rfl #[.agg #[.int .i64 a0_0, .int .i64 a0_1]] rfl (mapq rfl) ?_; (with_reducible refine (span_Span_below.calls a0_0 a0_1 true _ A31.out).mono ?_); rintro e w37 ⟨rfl, hb⟩; refine ⟨_, rfl, ?_⟩; replace BK187 := bb BK187 hb rfl; replace BK188 := bb BK188 hb rfl; replace BK189 := bb BK189 hb rfl; replace HB := hst HB hb rfl; (try clear hb); have hnb38 := NB188_189.out; have hnc38 := NB189_188.out; obtain ⟨hcz39_0, hcz39_1, hfz39_0, hfz39_1⟩ := c2 BK188) | (go_at_call 86; (with_reducible refine (span_Span_below.calls a1_0 a1_1 t194 _ A33.out).mono ?_); rintro e w40 ⟨rfl, hb⟩; replace BK187 := bb BK187 hb rfl; replace BK188 := bb BK188 hb rfl; replace BK189 := bb BK189 hb rfl; replace HB := hst HB hb rfl; (try clear hb)))
      go_meet
      case rel => exact ⟨_, (t194), (by first | rfl | (simp; done) | (simp [*]; done)), H', ⟨by have := HJ2.out; first | omega | exact Nat.le_refl _⟩, ⟨by (with_reducible repeat (first | refine blk_drewN ?_ _ | refine blk_drew ?_ | refine blk_alloc ?_ _)); exact BK187.out⟩, ⟨by (with_reducible repeat (first | refine blk_drewN ?_ _ | refine blk_drew ?_ | refine blk_alloc ?_ _)); exact BK188.out⟩, ⟨by (with_reducible repeat (first | refine blk_drewN ?_ _ | refine blk_drew ?_ | refine blk_alloc ?_ _)); exact BK189.out⟩, ⟨by repeat (first | (with_reducible first | exact HB.out | apply below_alloc | apply pw_below_drewN | apply below_drew1 | refine below_set ?_ GE187.out | refine below_set ?_ GE188.out | refine below_set ?_ GE189.out) | exact HB.out)⟩⟩
     ·
      replace c32 := Bool.eq_false_iff.mpr c32
      subst c32
      rw [if_neg (show ¬ (false = true) by decide)] at H
      have H' := Aside0.mk H
      clear H
      have hnb41 := NB187_188.out
      have hnc41 := NB188_187.out
      have hnb42 := NB187_189.out
      have hnc42 := NB189_187.out
      obtain ⟨hcz43_0, hcz43_1, hfz43_0, hfz43_1⟩ := c2 BK187
      go_wp2_with (first | ((with_reducible refine gate_callee (f := 86) rfl ?_); refine goesL_ (some 21) rfl rfl Try.func86 (by kernel_rfl) rfl #[.agg #[.int .i64 a0_0, .int .i64 a0_1]] rfl (mapq rfl) ?_; (with_reducible refine (span_Span_below.calls a0_0 a0_1 false _ A31.out).mono ?_); rintro e w44 ⟨rfl, hb⟩; refine ⟨_, rfl, ?_⟩; replace BK187 := bb BK187 hb rfl; replace BK188 := bb BK188 hb rfl; replace BK189 := bb BK189 hb rfl; replace HB := hst HB hb rfl; (try clear hb)))
      go_meet
      case rel => exact ⟨_, (false), (by first | rfl | (simp; done) | (simp [*]; done)), H', ⟨by have := HJ2.out; first | omega | exact Nat.le_refl _⟩, ⟨by (with_reducible repeat (first | refine blk_drewN ?_ _ | refine blk_drew ?_ | refine blk_alloc ?_ _)); exact BK187.out⟩, ⟨by (with_reducible repeat (first | refine blk_drewN ?_ _ | refine blk_drew ?_ | refine blk_alloc ?_ _)); exact BK188.out⟩, ⟨by (with_reducible repeat (first | refine blk_drewN ?_ _ | refine blk_drew ?_ | refine blk_alloc ?_ _)); exact BK189.out⟩, ⟨by repeat (first | (with_reducible first | exact HB.out | apply below_alloc | apply pw_below_drewN | apply below_drew1 | refine below_set ?_ GE187.out | refine below_set ?_ GE188.out | refine below_set ?_ GE189.out) | exact HB.out)⟩⟩
    case rest =>
     clear HC30
     try clear c1
     try clear c2
     try clear p2
     try clear c3
     try clear c4
     try clear c7
     try clear c8
     try clear c10
     try clear c11
     try clear c14
     try clear c17
     try clear c18
     try clear c21
     try clear c24
     try clear c25
     try clear c27
     try clear c32
     try clear c34
     try clear c35
     try clear c38
     try clear c41
     try clear c42
     try clear hcz12_0
     try clear hcz12_1
     try clear hcz15_0
     try clear hcz15_1
     try clear hcz19_0
     try clear hcz19_1
     try clear hcz26_0
     try clear hcz26_1
     try clear hcz28_0
     try clear hcz28_1
     try clear hcz29_0
     try clear hcz29_1
     try clear hcz36_0
     try clear hcz36_1
     try clear hcz39_0
     try clear hcz39_1
     try clear hcz43_0
     try clear hcz43_1
     try clear hfz12_0
     try clear hfz12_1
     try clear hfz15_0
     try clear hfz15_1
     try clear hfz19_0
     try clear hfz19_1
     try clear hfz26_0
     try clear hfz26_1
     try clear hfz28_0
     try clear hfz28_1
     try clear hfz29_0
     try clear hfz29_1
     try clear hfz36_0
     try clear hfz36_1
     try clear hfz39_0
     try clear hfz39_1
     try clear hfz43_0
     try clear hfz43_1
     try clear p2
     obtain ⟨kq, x19_29, rfl, HA, HJ29, BK187, BK188, BK189, HB⟩ := hcut
     cases kq with
     | zero => exact absurd HA.out (by simp [span_either.j1])
     | succ kj29 =>
      have H := HA.out
      clear HA
      simp only [span_either.j1] at H
      by_cases c45 : x19_29 = true
      ·
       subst c45
       rw [if_pos rfl] at H
       replace H := Option.bind_eq_some_iff.mp H
       obtain ⟨⟨t195, t196⟩, A460, H⟩ := H
       (try dsimp only at H)
       have A46 := Aside0.mk A460
       clear A460
       replace H := Option.bind_eq_some_iff.mp H
       obtain ⟨⟨t197, t198⟩, A470, H⟩ := H
       (try dsimp only at H)
       have A47 := Aside0.mk A470
       clear A470
       replace H := Option.bind_eq_some_iff.mp H
       obtain ⟨⟨t199, t200⟩, A480, H⟩ := H
       (try dsimp only at H)
       have A48 := Aside0.mk A480
       clear A480
       simp only [Option.some.injEq, Prod.mk.injEq] at H
       obtain ⟨rfl, rfl⟩ := H
       try go_wp2
       replace BK187 := Aside0.mk (blk_drew BK187.out); replace BK188 := Aside0.mk (blk_drew BK188.out); replace BK189 := Aside0.mk (blk_drew BK189.out); replace HB := Aside0.mk (below_drew1 HB.out)
       refine start_ (n := 6) (S := fun w' => w'.cell? ⟨gb187, 0, none⟩ = some (.int .i64 a0_0) ∧ w'.cell? ⟨gb187, 1, none⟩ = some (.int .i64 a0_1) ∧ w'.cell? ⟨gb188, 0, none⟩ = some (.int .i64 a1_0) ∧ w'.cell? ⟨gb188, 1, none⟩ = some (.int .i64 a1_1)) (ds := []) #[false, false, false, false, false, false] (by kernel_rfl) rfl rfl ⟨bc BK187 0 rfl, bc BK187 1 rfl, bc BK188 0 rfl, bc BK188 1 rfl⟩ (fun hHeld => ?_)
       generalize wc.drew = w49 at BK187 BK188 BK189 HB hHeld ⊢
       refine take_ (i := 0) (N := some 26) (v := ?_) (a' := ?_) #[true, false, false, false, false, false] rfl rfl (by kernel_rfl) (fun _ _ _ h => h) (Or.inl ⟨by rfl, ?_⟩) hHeld ?_ ?_
       rotate_left
       ·
        rintro w' ⟨s0, s1, s2, s3⟩
        go_simp
        with_reducible rfl
       rotate_left
       ·
        simp only [Act.put, List.setIfInBounds_toArray, List.set_cons_zero, List.set_cons_succ, i64_w, i32_w]
        rfl
       refine take_ (i := 2) (N := some 28) (v := ?_) (a' := ?_) #[true, false, true, false, false, false] rfl rfl (by kernel_rfl) (fun _ _ _ h => h) (Or.inl ⟨by rfl, ?_⟩) hHeld ?_ ?_
       rotate_left
       ·
        rintro w' ⟨s0, s1, s2, s3⟩
        go_simp
        with_reducible rfl
       rotate_left
       ·
        simp only [Act.put, List.setIfInBounds_toArray, List.set_cons_zero, List.set_cons_succ, i64_w, i32_w]
        rfl
       refine one_ (i := 1) (N := some 27) #[true, true, true, false, false, false] rfl rfl (by kernel_rfl) (by decide) (fun K hK => ?_)
       refine goes_ Try.func88 (by kernel_rfl) rfl #[.agg #[.int .i64 a0_0, .int .i64 a0_1]] (by rfl) rfl rfl (mapq rfl) ?_
       with_reducible refine (span_Span_turned.calls a0_0 a0_1 t195 t196 _ A46.out).mono ?_
       rintro e w50 ⟨rfl, hb⟩
       refine ⟨_, rfl, ?_⟩
       replace BK187 := bb BK187 hb rfl; replace BK188 := bb BK188 hb rfl; replace BK189 := bb BK189 hb rfl; replace HB := hst HB hb rfl
       (try clear hb)
       refine hK.out _ _ ⟨bc BK187 0 rfl, bc BK187 1 rfl, bc BK188 0 rfl, bc BK188 1 rfl⟩ (fun hHeld => ?_)
       clear hK K
       refine norm_ (a' := ?_) ?_ ?_
       rotate_left; · (show Act.put _ (some 27) _ = _; simp only [Act.put, List.setIfInBounds_toArray, List.set_cons_zero, List.set_cons_succ, i64_w, i32_w]; rfl)
       refine one_ (i := 3) (N := some 29) #[true, true, true, true, false, false] rfl rfl (by kernel_rfl) (by decide) (fun K hK => ?_)
       refine goes_ Try.func88 (by kernel_rfl) rfl #[.agg #[.int .i64 a1_0, .int .i64 a1_1]] (by rfl) rfl rfl (mapq rfl) ?_
       with_reducible refine (span_Span_turned.calls a1_0 a1_1 t197 t198 _ A47.out).mono ?_
       rintro e w51 ⟨rfl, hb⟩
       refine ⟨_, rfl, ?_⟩
       replace BK187 := bb BK187 hb rfl; replace BK188 := bb BK188 hb rfl; replace BK189 := bb BK189 hb rfl; replace HB := hst HB hb rfl
       (try clear hb)
       refine hK.out _ _ ⟨bc BK187 0 rfl, bc BK187 1 rfl, bc BK188 0 rfl, bc BK188 1 rfl⟩ (fun hHeld => ?_)
       clear hK K
       refine norm_ (a' := ?_) ?_ ?_
       rotate_left; · (show Act.put _ (some 29) _ = _; simp only [Act.put, List.setIfInBounds_toArray, List.set_cons_zero, List.set_cons_succ, i64_w, i32_w]; rfl)
       refine one_ (i := 4) (N := some 30) #[true, true, true, true, true, false] rfl rfl (by kernel_rfl) (by decide) (fun K hK => ?_)
       refine goes_ Try.func71 (by kernel_rfl) rfl #[.agg #[.int .i64 t195, .int .i64 t196], .agg #[.int .i64 t197, .int .i64 t198]] (by rfl) rfl rfl (mapq rfl) ?_
       with_reducible refine (ih kj29 (by have := HJ2.out; have := HJ29.out; omega) t195 t196 t197 t198 t199 t200 _ A48.out).mono ?_
       rintro e w52 ⟨rfl, hb⟩
       refine ⟨_, rfl, ?_⟩
       replace BK187 := bb BK187 hb rfl; replace BK188 := bb BK188 hb rfl; replace BK189 := bb BK189 hb rfl; replace HB := hst HB hb rfl
       (try clear hb)
       refine hK.out _ _ ⟨bc BK187 0 rfl, bc BK187 1 rfl, bc BK188 0 rfl, bc BK188 1 rfl⟩ (fun hHeld => ?_)
       clear hK K
       refine norm_ (a' := ?_) ?_ ?_
       rotate_left; · (show Act.put _ (some 30) _ = _; simp only [Act.put, List.setIfInBounds_toArray, List.set_cons_zero, List.set_cons_succ, i64_w, i32_w]; rfl)
       refine one_ (i := 5) (N := none) #[true, true, true, true, true, true] rfl rfl (by kernel_rfl) (by decide) (fun K hK => ?_)
       have hs53 : w52.cell? ⟨gb189, 0, none⟩ = some (.int .i64 0) := bc BK189 0 rfl
       have hfs53 := blk_frozen BK189.out 0
       have hns53_0 := NB187_189.out
       have hns53_1 := NB188_189.out
       have hms53_0 := NB189_187.out
       have hms53_1 := NB189_188.out
       have hs54 : w52.cell? ⟨gb189, 1, none⟩ = some (.int .i64 0) := bc BK189 1 rfl
       have hfs54 := blk_frozen BK189.out 1
       have hns54_0 := NB187_189.out
       have hns54_1 := NB188_189.out
       have hms54_0 := NB189_187.out
       have hms54_1 := NB189_188.out
       refine skip_ (w1 := ?_) (by rfl) rfl ?_ ?_
       rotate_left
       ·
        go_simp
        rfl
       refine hK.out _ _ ⟨((cell_far (p := ⟨gb189, _, none⟩) NB187_189.out _).trans (((cell_far (p := ⟨gb189, _, none⟩) NB187_189.out _).trans (hHeld.1)))), ((cell_far (p := ⟨gb189, _, none⟩) NB187_189.out _).trans (((cell_far (p := ⟨gb189, _, none⟩) NB187_189.out _).trans (hHeld.2.1)))), ((cell_far (p := ⟨gb189, _, none⟩) NB188_189.out _).trans (((cell_far (p := ⟨gb189, _, none⟩) NB188_189.out _).trans (hHeld.2.2.1)))), ((cell_far (p := ⟨gb189, _, none⟩) NB188_189.out _).trans (((cell_far (p := ⟨gb189, _, none⟩) NB188_189.out _).trans (hHeld.2.2.2))))⟩ (fun hHeld => ?_)
       clear hK K
       refine done_ (by kernel_rfl) ?_
       try go_wp2
       refine bodyPost_ret (results_cell_row rfl _ _ gb189 59 #[.int .i64 t199, .int .i64 t200] (0, 0) _ rfl (by (with_reducible repeat (first | refine blk_drewN ?_ _ | refine blk_drew ?_ | refine blk_alloc ?_ _)); refine blk_put (cs := #[.int .i64 t199, .int .i64 0]) ?_ 1 _ rfl; (with_reducible repeat (first | refine blk_drewN ?_ _ | refine blk_drew ?_ | refine blk_alloc ?_ _)); refine blk_put (cs := #[.int .i64 0, .int .i64 0]) ?_ 0 _ rfl; (with_reducible repeat (first | refine blk_drewN ?_ _ | refine blk_drew ?_ | refine blk_alloc ?_ _)); exact BK189.out) Try.underlying59 rfl (by kernel_rfl)) rfl ?_
       exact ⟨by first | rfl | (simp [*, errW_none, errW_some] <;> rfl), by repeat (first | (with_reducible first | exact HB.out | apply below_alloc | apply pw_below_drewN | apply below_drew1 | refine below_set ?_ GE187.out | refine below_set ?_ GE188.out | refine below_set ?_ GE189.out) | exact HB.out)⟩
      ·
       replace c45 := Bool.eq_false_iff.mpr c45
       subst c45
       rw [if_neg (show ¬ (false = true) by decide)] at H
       have HC55 := Aside0.mk H
       clear H
       go_upto_region 5 with (fail)
       go_cut [31] (fun v31 wc => ∃ (kq : Nat) (x31_54 : Bool), v31 = .bool x31_54 ∧ Aside0 (span_either.j2 kq x31_54 a0_0 a0_1 a1_0 a1_1 = some (r1, r2)) ∧ Aside0 (kq ≤ kj29) ∧ Aside0 (wc.heap[gb187]? = some (.cells #[.int .i64 a0_0, .int .i64 a0_1] 59 (0, 0))) ∧ Aside0 (wc.heap[gb188]? = some (.cells #[.int .i64 a1_0, .int .i64 a1_1] 59 (0, 0))) ∧ Aside0 (wc.heap[gb189]? = some (.cells #[.int .i64 0, .int .i64 0] 59 (0, 0))) ∧ Aside0 (Below w.heap.size w wc))
       case first =>
        have H := HC55.out
        clear HC55
        replace H := Option.bind_eq_some_iff.mp H
        obtain ⟨t201, A560, H⟩ := H
        (try dsimp only at H)
        have A56 := Aside0.mk A560
        clear A560
        by_cases c57 : t201 = true
        ·
         subst c57
         rw [if_pos rfl] at H
         replace H := Option.bind_eq_some_iff.mp H
         obtain ⟨t202, A580, H⟩ := H
         (try dsimp only at H)
         have A58 := Aside0.mk A580
         clear A580
         have H' := Aside0.mk H
         clear H
         have hnb59 := NB187_188.out
         have hnc59 := NB188_187.out
         have hnb60 := NB187_189.out
         have hnc60 := NB189_187.out
         obtain ⟨hcz61_0, hcz61_1, hfz61_0, hfz61_1⟩ := c2 BK187
         go_wp2_with (first | ((with_reducible refine gate_callee (f := 86) rfl ?_); refine goesL_ (some 33) rfl rfl Try.func86 (by kernel_rfl) rfl #[.agg #[.int .i64 a0_0, .int .i64 a0_1]] rfl (mapq rfl) ?_; (with_reducible refine (span_Span_below.calls a0_0 a0_1 true _ A56.out).mono ?_); rintro e w62 ⟨rfl, hb⟩; refine ⟨_, rfl, ?_⟩; replace BK187 := bb BK187 hb rfl; replace BK188 := bb BK188 hb rfl; replace BK189 := bb BK189 hb rfl; replace HB := hst HB hb rfl; (try clear hb); have hnb63 := NB188_189.out; have hnc63 := NB189_188.out; obtain ⟨hcz64_0, hcz64_1, hfz64_0, hfz64_1⟩ := c2 BK188) | (go_at_call 85; (with_reducible refine (span_Span_above.calls a1_0 a1_1 t202 _ A58.out).mono ?_); rintro e w65 ⟨rfl, hb⟩; replace BK187 := bb BK187 hb rfl; replace BK188 := bb BK188 hb rfl; replace BK189 := bb BK189 hb rfl; replace HB := hst HB hb rfl; (try clear hb)))
         go_meet
         case rel => exact ⟨_, (t202), (by first | rfl | (simp; done) | (simp [*]; done)), H', ⟨by have := HJ2.out; have := HJ29.out; first | omega | exact Nat.le_refl _⟩, ⟨by (with_reducible repeat (first | refine blk_drewN ?_ _ | refine blk_drew ?_ | refine blk_alloc ?_ _)); exact BK187.out⟩, ⟨by (with_reducible repeat (first | refine blk_drewN ?_ _ | refine blk_drew ?_ | refine blk_alloc ?_ _)); exact BK188.out⟩, ⟨by (with_reducible repeat (first | refine blk_drewN ?_ _ | refine blk_drew ?_ | refine blk_alloc ?_ _)); exact BK189.out⟩, ⟨by repeat (first | (with_reducible first | exact HB.out | apply below_alloc | apply pw_below_drewN | apply below_drew1 | refine below_set ?_ GE187.out | refine below_set ?_ GE188.out | refine below_set ?_ GE189.out) | exact HB.out)⟩⟩
        ·
         replace c57 := Bool.eq_false_iff.mpr c57
         subst c57
         rw [if_neg (show ¬ (false = true) by decide)] at H
         have H' := Aside0.mk H
         clear H
         have hnb66 := NB187_188.out
         have hnc66 := NB188_187.out
         have hnb67 := NB187_189.out
         have hnc67 := NB189_187.out
         obtain ⟨hcz68_0, hcz68_1, hfz68_0, hfz68_1⟩ := c2 BK187
         go_wp2_with (first | ((with_reducible refine gate_callee (f := 86) rfl ?_); refine goesL_ (some 33) rfl rfl Try.func86 (by kernel_rfl) rfl #[.agg #[.int .i64 a0_0, .int .i64 a0_1]] rfl (mapq rfl) ?_; (with_reducible refine (span_Span_below.calls a0_0 a0_1 false _ A56.out).mono ?_); rintro e w69 ⟨rfl, hb⟩; refine ⟨_, rfl, ?_⟩; replace BK187 := bb BK187 hb rfl; replace BK188 := bb BK188 hb rfl; replace BK189 := bb BK189 hb rfl; replace HB := hst HB hb rfl; (try clear hb)))
         go_meet
         case rel => exact ⟨_, (false), (by first | rfl | (simp; done) | (simp [*]; done)), H', ⟨by have := HJ2.out; have := HJ29.out; first | omega | exact Nat.le_refl _⟩, ⟨by (with_reducible repeat (first | refine blk_drewN ?_ _ | refine blk_drew ?_ | refine blk_alloc ?_ _)); exact BK187.out⟩, ⟨by (with_reducible repeat (first | refine blk_drewN ?_ _ | refine blk_drew ?_ | refine blk_alloc ?_ _)); exact BK188.out⟩, ⟨by (with_reducible repeat (first | refine blk_drewN ?_ _ | refine blk_drew ?_ | refine blk_alloc ?_ _)); exact BK189.out⟩, ⟨by repeat (first | (with_reducible first | exact HB.out | apply below_alloc | apply pw_below_drewN | apply below_drew1 | refine below_set ?_ GE187.out | refine below_set ?_ GE188.out | refine below_set ?_ GE189.out) | exact HB.out)⟩⟩
       case rest =>
        clear HC55
        try clear c1
        try clear c2
        try clear p2
        try clear c3
        try clear c4
        try clear c5
        try clear c6
        try clear c7
        try clear c8
        try clear c10
        try clear c11
        try clear c14
        try clear c17
        try clear c18
        try clear c21
        try clear c24
        try clear c25
        try clear c27
        try clear c32
        try clear c34
        try clear c35
        try clear c38
        try clear c41
        try clear c42
        try clear c45
        try clear c57
        try clear c59
        try clear c60
        try clear c63
        try clear c66
        try clear c67
        try clear hcz12_0
        try clear hcz12_1
        try clear hcz15_0
        try clear hcz15_1
        try clear hcz19_0
        try clear hcz19_1
        try clear hcz26_0
        try clear hcz26_1
        try clear hcz28_0
        try clear hcz28_1
        try clear hcz29_0
        try clear hcz29_1
        try clear hcz36_0
        try clear hcz36_1
        try clear hcz39_0
        try clear hcz39_1
        try clear hcz43_0
        try clear hcz43_1
        try clear hcz61_0
        try clear hcz61_1
        try clear hcz64_0
        try clear hcz64_1
        try clear hcz68_0
        try clear hcz68_1
        try clear hfz12_0
        try clear hfz12_1
        try clear hfz15_0
        try clear hfz15_1
        try clear hfz19_0
        try clear hfz19_1
        try clear hfz26_0
        try clear hfz26_1
        try clear hfz28_0
        try clear hfz28_1
        try clear hfz29_0
        try clear hfz29_1
        try clear hfz36_0
        try clear hfz36_1
        try clear hfz39_0
        try clear hfz39_1
        try clear hfz43_0
        try clear hfz43_1
        try clear hfz61_0
        try clear hfz61_1
        try clear hfz64_0
        try clear hfz64_1
        try clear hfz68_0
        try clear hfz68_1
        try clear p2
        obtain ⟨kq, x31_54, rfl, HA, HJ54, BK187, BK188, BK189, HB⟩ := hcut
        cases kq with
        | zero => exact absurd HA.out (by simp [span_either.j2])
        | succ kj54 =>
         have H := HA.out
         clear HA
         simp only [span_either.j2] at H
         by_cases c70 : x31_54 = true
         ·
          subst c70
          rw [if_pos rfl] at H
          replace H := Option.bind_eq_some_iff.mp H
          obtain ⟨⟨t203, t204⟩, A710, H⟩ := H
          (try dsimp only at H)
          have A71 := Aside0.mk A710
          clear A710
          replace H := Option.bind_eq_some_iff.mp H
          obtain ⟨⟨t205, t206⟩, A720, H⟩ := H
          (try dsimp only at H)
          have A72 := Aside0.mk A720
          clear A720
          replace H := Option.bind_eq_some_iff.mp H
          obtain ⟨⟨t207, t208⟩, A730, H⟩ := H
          (try dsimp only at H)
          have A73 := Aside0.mk A730
          clear A730
          simp only [Option.some.injEq, Prod.mk.injEq] at H
          obtain ⟨rfl, rfl⟩ := H
          try go_wp2
          replace BK187 := Aside0.mk (blk_drew BK187.out); replace BK188 := Aside0.mk (blk_drew BK188.out); replace BK189 := Aside0.mk (blk_drew BK189.out); replace HB := Aside0.mk (below_drew1 HB.out)
          refine start_ (n := 6) (S := fun w' => w'.cell? ⟨gb187, 0, none⟩ = some (.int .i64 a0_0) ∧ w'.cell? ⟨gb187, 1, none⟩ = some (.int .i64 a0_1) ∧ w'.cell? ⟨gb188, 0, none⟩ = some (.int .i64 a1_0) ∧ w'.cell? ⟨gb188, 1, none⟩ = some (.int .i64 a1_1)) (ds := []) #[false, false, false, false, false, false] (by kernel_rfl) rfl rfl ⟨bc BK187 0 rfl, bc BK187 1 rfl, bc BK188 0 rfl, bc BK188 1 rfl⟩ (fun hHeld => ?_)
          generalize wc.drew = w74 at BK187 BK188 BK189 HB hHeld ⊢
          refine take_ (i := 0) (N := some 38) (v := ?_) (a' := ?_) #[true, false, false, false, false, false] rfl rfl (by kernel_rfl) (fun _ _ _ h => h) (Or.inl ⟨by rfl, ?_⟩) hHeld ?_ ?_
          rotate_left
          ·
           rintro w' ⟨s0, s1, s2, s3⟩
           go_simp
           with_reducible rfl
          rotate_left
          ·
           simp only [Act.put, List.setIfInBounds_toArray, List.set_cons_zero, List.set_cons_succ, i64_w, i32_w]
           rfl
          refine take_ (i := 2) (N := some 40) (v := ?_) (a' := ?_) #[true, false, true, false, false, false] rfl rfl (by kernel_rfl) (fun _ _ _ h => h) (Or.inl ⟨by rfl, ?_⟩) hHeld ?_ ?_
          rotate_left
          ·
           rintro w' ⟨s0, s1, s2, s3⟩
           go_simp
           with_reducible rfl
          rotate_left
          ·
           simp only [Act.put, List.setIfInBounds_toArray, List.set_cons_zero, List.set_cons_succ, i64_w, i32_w]
           rfl
          refine one_ (i := 1) (N := some 39) #[true, true, true, false, false, false] rfl rfl (by kernel_rfl) (by decide) (fun K hK => ?_)
          refine goes_ Try.func88 (by kernel_rfl) rfl #[.agg #[.int .i64 a0_0, .int .i64 a0_1]] (by rfl) rfl rfl (mapq rfl) ?_
          with_reducible refine (span_Span_turned.calls a0_0 a0_1 t203 t204 _ A71.out).mono ?_
          rintro e w75 ⟨rfl, hb⟩
          refine ⟨_, rfl, ?_⟩
          replace BK187 := bb BK187 hb rfl; replace BK188 := bb BK188 hb rfl; replace BK189 := bb BK189 hb rfl; replace HB := hst HB hb rfl
          (try clear hb)
          refine hK.out _ _ ⟨bc BK187 0 rfl, bc BK187 1 rfl, bc BK188 0 rfl, bc BK188 1 rfl⟩ (fun hHeld => ?_)
          clear hK K
          refine norm_ (a' := ?_) ?_ ?_
          rotate_left; · (show Act.put _ (some 39) _ = _; simp only [Act.put, List.setIfInBounds_toArray, List.set_cons_zero, List.set_cons_succ, i64_w, i32_w]; rfl)
          refine one_ (i := 3) (N := some 41) #[true, true, true, true, false, false] rfl rfl (by kernel_rfl) (by decide) (fun K hK => ?_)
          refine goes_ Try.func71 (by kernel_rfl) rfl #[.agg #[.int .i64 t203, .int .i64 t204], .agg #[.int .i64 a1_0, .int .i64 a1_1]] (by rfl) rfl rfl (mapq rfl) ?_
          with_reducible refine (ih kj54 (by have := HJ2.out; have := HJ29.out; have := HJ54.out; omega) t203 t204 a1_0 a1_1 t205 t206 _ A72.out).mono ?_
          rintro e w76 ⟨rfl, hb⟩
          refine ⟨_, rfl, ?_⟩
          replace BK187 := bb BK187 hb rfl; replace BK188 := bb BK188 hb rfl; replace BK189 := bb BK189 hb rfl; replace HB := hst HB hb rfl
          (try clear hb)
          refine hK.out _ _ ⟨bc BK187 0 rfl, bc BK187 1 rfl, bc BK188 0 rfl, bc BK188 1 rfl⟩ (fun hHeld => ?_)
          clear hK K
          refine norm_ (a' := ?_) ?_ ?_
          rotate_left; · (show Act.put _ (some 41) _ = _; simp only [Act.put, List.setIfInBounds_toArray, List.set_cons_zero, List.set_cons_succ, i64_w, i32_w]; rfl)
          refine one_ (i := 4) (N := some 42) #[true, true, true, true, true, false] rfl rfl (by kernel_rfl) (by decide) (fun K hK => ?_)
          refine goes_ Try.func88 (by kernel_rfl) rfl #[.agg #[.int .i64 t205, .int .i64 t206]] (by rfl) rfl rfl (mapq rfl) ?_
          with_reducible refine (span_Span_turned.calls t205 t206 t207 t208 _ A73.out).mono ?_
          rintro e w77 ⟨rfl, hb⟩
          refine ⟨_, rfl, ?_⟩
          replace BK187 := bb BK187 hb rfl; replace BK188 := bb BK188 hb rfl; replace BK189 := bb BK189 hb rfl; replace HB := hst HB hb rfl
          (try clear hb)
          refine hK.out _ _ ⟨bc BK187 0 rfl, bc BK187 1 rfl, bc BK188 0 rfl, bc BK188 1 rfl⟩ (fun hHeld => ?_)
          clear hK K
          refine norm_ (a' := ?_) ?_ ?_
          rotate_left; · (show Act.put _ (some 42) _ = _; simp only [Act.put, List.setIfInBounds_toArray, List.set_cons_zero, List.set_cons_succ, i64_w, i32_w]; rfl)
          refine one_ (i := 5) (N := none) #[true, true, true, true, true, true] rfl rfl (by kernel_rfl) (by decide) (fun K hK => ?_)
          have hs78 : w77.cell? ⟨gb189, 0, none⟩ = some (.int .i64 0) := bc BK189 0 rfl
          have hfs78 := blk_frozen BK189.out 0
          have hns78_0 := NB187_189.out
          have hns78_1 := NB188_189.out
          have hms78_0 := NB189_187.out
          have hms78_1 := NB189_188.out
          have hs79 : w77.cell? ⟨gb189, 1, none⟩ = some (.int .i64 0) := bc BK189 1 rfl
          have hfs79 := blk_frozen BK189.out 1
          have hns79_0 := NB187_189.out
          have hns79_1 := NB188_189.out
          have hms79_0 := NB189_187.out
          have hms79_1 := NB189_188.out
          refine skip_ (w1 := ?_) (by rfl) rfl ?_ ?_
          rotate_left
          ·
           go_simp
           rfl
          refine hK.out _ _ ⟨((cell_far (p := ⟨gb189, _, none⟩) NB187_189.out _).trans (((cell_far (p := ⟨gb189, _, none⟩) NB187_189.out _).trans (hHeld.1)))), ((cell_far (p := ⟨gb189, _, none⟩) NB187_189.out _).trans (((cell_far (p := ⟨gb189, _, none⟩) NB187_189.out _).trans (hHeld.2.1)))), ((cell_far (p := ⟨gb189, _, none⟩) NB188_189.out _).trans (((cell_far (p := ⟨gb189, _, none⟩) NB188_189.out _).trans (hHeld.2.2.1)))), ((cell_far (p := ⟨gb189, _, none⟩) NB188_189.out _).trans (((cell_far (p := ⟨gb189, _, none⟩) NB188_189.out _).trans (hHeld.2.2.2))))⟩ (fun hHeld => ?_)
          clear hK K
          refine done_ (by kernel_rfl) ?_
          try go_wp2
          refine bodyPost_ret (results_cell_row rfl _ _ gb189 59 #[.int .i64 t207, .int .i64 t208] (0, 0) _ rfl (by (with_reducible repeat (first | refine blk_drewN ?_ _ | refine blk_drew ?_ | refine blk_alloc ?_ _)); refine blk_put (cs := #[.int .i64 t207, .int .i64 0]) ?_ 1 _ rfl; (with_reducible repeat (first | refine blk_drewN ?_ _ | refine blk_drew ?_ | refine blk_alloc ?_ _)); refine blk_put (cs := #[.int .i64 0, .int .i64 0]) ?_ 0 _ rfl; (with_reducible repeat (first | refine blk_drewN ?_ _ | refine blk_drew ?_ | refine blk_alloc ?_ _)); exact BK189.out) Try.underlying59 rfl (by kernel_rfl)) rfl ?_
          exact ⟨by first | rfl | (simp [*, errW_none, errW_some] <;> rfl), by repeat (first | (with_reducible first | exact HB.out | apply below_alloc | apply pw_below_drewN | apply below_drew1 | refine below_set ?_ GE187.out | refine below_set ?_ GE188.out | refine below_set ?_ GE189.out) | exact HB.out)⟩
         ·
          replace c70 := Bool.eq_false_iff.mpr c70
          subst c70
          rw [if_neg (show ¬ (false = true) by decide)] at H
          have HC80 := Aside0.mk H
          clear H
          go_upto_region 7 with (fail)
          go_cut [43] (fun v43 wc => ∃ (kq : Nat) (x43_79 : Bool), v43 = .bool x43_79 ∧ Aside0 (span_either.j3 kq x43_79 a0_0 a0_1 a1_0 a1_1 = some (r1, r2)) ∧ Aside0 (kq ≤ kj54) ∧ Aside0 (wc.heap[gb187]? = some (.cells #[.int .i64 a0_0, .int .i64 a0_1] 59 (0, 0))) ∧ Aside0 (wc.heap[gb188]? = some (.cells #[.int .i64 a1_0, .int .i64 a1_1] 59 (0, 0))) ∧ Aside0 (wc.heap[gb189]? = some (.cells #[.int .i64 0, .int .i64 0] 59 (0, 0))) ∧ Aside0 (Below w.heap.size w wc))
          case first =>
           have H := HC80.out
           clear HC80
           replace H := Option.bind_eq_some_iff.mp H
           obtain ⟨t209, A810, H⟩ := H
           (try dsimp only at H)
           have A81 := Aside0.mk A810
           clear A810
           by_cases c82 : t209 = true
           ·
            subst c82
            rw [if_pos rfl] at H
            replace H := Option.bind_eq_some_iff.mp H
            obtain ⟨t210, A830, H⟩ := H
            (try dsimp only at H)
            have A83 := Aside0.mk A830
            clear A830
            have H' := Aside0.mk H
            clear H
            have hnb84 := NB187_188.out
            have hnc84 := NB188_187.out
            have hnb85 := NB187_189.out
            have hnc85 := NB189_187.out
            obtain ⟨hcz86_0, hcz86_1, hfz86_0, hfz86_1⟩ := c2 BK187
            go_wp2_with (first | ((with_reducible refine gate_callee (f := 85) rfl ?_); refine goesL_ (some 45) rfl rfl Try.func85 (by kernel_rfl) rfl #[.agg #[.int .i64 a0_0, .int .i64 a0_1]] rfl (mapq rfl) ?_; (with_reducible refine (span_Span_above.calls a0_0 a0_1 true _ A81.out).mono ?_); rintro e w87 ⟨rfl, hb⟩; refine ⟨_, rfl, ?_⟩; replace BK187 := bb BK187 hb rfl; replace BK188 := bb BK188 hb rfl; replace BK189 := bb BK189 hb rfl; replace HB := hst HB hb rfl; (try clear hb); have hnb88 := NB188_189.out; have hnc88 := NB189_188.out; obtain ⟨hcz89_0, hcz89_1, hfz89_0, hfz89_1⟩ := c2 BK188) | (go_at_call 86; (with_reducible refine (span_Span_below.calls a1_0 a1_1 t210 _ A83.out).mono ?_); rintro e w90 ⟨rfl, hb⟩; replace BK187 := bb BK187 hb rfl; replace BK188 := bb BK188 hb rfl; replace BK189 := bb BK189 hb rfl; replace HB := hst HB hb rfl; (try clear hb)))
            go_meet
            case rel => exact ⟨_, (t210), (by first | rfl | (simp; done) | (simp [*]; done)), H', ⟨by have := HJ2.out; have := HJ29.out; have := HJ54.out; first | omega | exact Nat.le_refl _⟩, ⟨by (with_reducible repeat (first | refine blk_drewN ?_ _ | refine blk_drew ?_ | refine blk_alloc ?_ _)); exact BK187.out⟩, ⟨by (with_reducible repeat (first | refine blk_drewN ?_ _ | refine blk_drew ?_ | refine blk_alloc ?_ _)); exact BK188.out⟩, ⟨by (with_reducible repeat (first | refine blk_drewN ?_ _ | refine blk_drew ?_ | refine blk_alloc ?_ _)); exact BK189.out⟩, ⟨by repeat (first | (with_reducible first | exact HB.out | apply below_alloc | apply pw_below_drewN | apply below_drew1 | refine below_set ?_ GE187.out | refine below_set ?_ GE188.out | refine below_set ?_ GE189.out) | exact HB.out)⟩⟩
           ·
            replace c82 := Bool.eq_false_iff.mpr c82
            subst c82
            rw [if_neg (show ¬ (false = true) by decide)] at H
            have H' := Aside0.mk H
            clear H
            have hnb91 := NB187_188.out
            have hnc91 := NB188_187.out
            have hnb92 := NB187_189.out
            have hnc92 := NB189_187.out
            obtain ⟨hcz93_0, hcz93_1, hfz93_0, hfz93_1⟩ := c2 BK187
            go_wp2_with (first | ((with_reducible refine gate_callee (f := 85) rfl ?_); refine goesL_ (some 45) rfl rfl Try.func85 (by kernel_rfl) rfl #[.agg #[.int .i64 a0_0, .int .i64 a0_1]] rfl (mapq rfl) ?_; (with_reducible refine (span_Span_above.calls a0_0 a0_1 false _ A81.out).mono ?_); rintro e w94 ⟨rfl, hb⟩; refine ⟨_, rfl, ?_⟩; replace BK187 := bb BK187 hb rfl; replace BK188 := bb BK188 hb rfl; replace BK189 := bb BK189 hb rfl; replace HB := hst HB hb rfl; (try clear hb)))
            go_meet
            case rel => exact ⟨_, (false), (by first | rfl | (simp; done) | (simp [*]; done)), H', ⟨by have := HJ2.out; have := HJ29.out; have := HJ54.out; first | omega | exact Nat.le_refl _⟩, ⟨by (with_reducible repeat (first | refine blk_drewN ?_ _ | refine blk_drew ?_ | refine blk_alloc ?_ _)); exact BK187.out⟩, ⟨by (with_reducible repeat (first | refine blk_drewN ?_ _ | refine blk_drew ?_ | refine blk_alloc ?_ _)); exact BK188.out⟩, ⟨by (with_reducible repeat (first | refine blk_drewN ?_ _ | refine blk_drew ?_ | refine blk_alloc ?_ _)); exact BK189.out⟩, ⟨by repeat (first | (with_reducible first | exact HB.out | apply below_alloc | apply pw_below_drewN | apply below_drew1 | refine below_set ?_ GE187.out | refine below_set ?_ GE188.out | refine below_set ?_ GE189.out) | exact HB.out)⟩⟩
          case rest =>
           clear HC80
           try clear c1
           try clear c2
           try clear p2
           try clear c3
           try clear c4
           try clear c5
           try clear c6
           try clear c7
           try clear c8
           try clear c9
           try clear c10
           try clear c11
           try clear c14
           try clear c17
           try clear c18
           try clear c21
           try clear c24
           try clear c25
           try clear c27
           try clear c32
           try clear c34
           try clear c35
           try clear c38
           try clear c41
           try clear c42
           try clear c45
           try clear c57
           try clear c59
           try clear c60
           try clear c63
           try clear c66
           try clear c67
           try clear c70
           try clear c71
           try clear c82
           try clear c84
           try clear c85
           try clear c86
           try clear c88
           try clear c91
           try clear c92
           try clear hcz12_0
           try clear hcz12_1
           try clear hcz15_0
           try clear hcz15_1
           try clear hcz19_0
           try clear hcz19_1
           try clear hcz26_0
           try clear hcz26_1
           try clear hcz28_0
           try clear hcz28_1
           try clear hcz29_0
           try clear hcz29_1
           try clear hcz36_0
           try clear hcz36_1
           try clear hcz39_0
           try clear hcz39_1
           try clear hcz43_0
           try clear hcz43_1
           try clear hcz61_0
           try clear hcz61_1
           try clear hcz64_0
           try clear hcz64_1
           try clear hcz68_0
           try clear hcz68_1
           try clear hcz86_0
           try clear hcz86_1
           try clear hcz89_0
           try clear hcz89_1
           try clear hcz93_0
           try clear hcz93_1
           try clear hfz12_0
           try clear hfz12_1
           try clear hfz15_0
           try clear hfz15_1
           try clear hfz19_0
           try clear hfz19_1
           try clear hfz26_0
           try clear hfz26_1
           try clear hfz28_0
           try clear hfz28_1
           try clear hfz29_0
           try clear hfz29_1
           try clear hfz36_0
           try clear hfz36_1
           try clear hfz39_0
           try clear hfz39_1
           try clear hfz43_0
           try clear hfz43_1
           try clear hfz61_0
           try clear hfz61_1
           try clear hfz64_0
           try clear hfz64_1
           try clear hfz68_0
           try clear hfz68_1
           try clear hfz86_0
           try clear hfz86_1
           try clear hfz89_0
           try clear hfz89_1
           try clear hfz93_0
           try clear hfz93_1
           try clear p2
           obtain ⟨kq, x43_79, rfl, HA, HJ79, BK187, BK188, BK189, HB⟩ := hcut
           cases kq with
           | zero => exact absurd HA.out (by simp [span_either.j3])
           | succ kj79 =>
            have H := HA.out
            clear HA
            simp only [span_either.j3] at H
            by_cases c95 : x43_79 = true
            ·
             subst c95
             rw [if_pos rfl] at H
             replace H := Option.bind_eq_some_iff.mp H
             obtain ⟨⟨t211, t212⟩, A960, H⟩ := H
             (try dsimp only at H)
             have A96 := Aside0.mk A960
             clear A960
             replace H := Option.bind_eq_some_iff.mp H
             obtain ⟨⟨t213, t214⟩, A970, H⟩ := H
             (try dsimp only at H)
             have A97 := Aside0.mk A970
             clear A970
             replace H := Option.bind_eq_some_iff.mp H
             obtain ⟨⟨t215, t216⟩, A980, H⟩ := H
             (try dsimp only at H)
             have A98 := Aside0.mk A980
             clear A980
             simp only [Option.some.injEq, Prod.mk.injEq] at H
             obtain ⟨rfl, rfl⟩ := H
             try go_wp2
             replace BK187 := Aside0.mk (blk_drew BK187.out); replace BK188 := Aside0.mk (blk_drew BK188.out); replace BK189 := Aside0.mk (blk_drew BK189.out); replace HB := Aside0.mk (below_drew1 HB.out)
             refine start_ (n := 6) (S := fun w' => w'.cell? ⟨gb187, 0, none⟩ = some (.int .i64 a0_0) ∧ w'.cell? ⟨gb187, 1, none⟩ = some (.int .i64 a0_1) ∧ w'.cell? ⟨gb188, 0, none⟩ = some (.int .i64 a1_0) ∧ w'.cell? ⟨gb188, 1, none⟩ = some (.int .i64 a1_1)) (ds := []) #[false, false, false, false, false, false] (by kernel_rfl) rfl rfl ⟨bc BK187 0 rfl, bc BK187 1 rfl, bc BK188 0 rfl, bc BK188 1 rfl⟩ (fun hHeld => ?_)
             generalize wc.drew = w99 at BK187 BK188 BK189 HB hHeld ⊢
             refine take_ (i := 0) (N := some 50) (v := ?_) (a' := ?_) #[true, false, false, false, false, false] rfl rfl (by kernel_rfl) (fun _ _ _ h => h) (Or.inl ⟨by rfl, ?_⟩) hHeld ?_ ?_
             rotate_left
             ·
              rintro w' ⟨s0, s1, s2, s3⟩
              go_simp
              with_reducible rfl
             rotate_left
             ·
              simp only [Act.put, List.setIfInBounds_toArray, List.set_cons_zero, List.set_cons_succ, i64_w, i32_w]
              rfl
             refine take_ (i := 1) (N := some 51) (v := ?_) (a' := ?_) #[true, true, false, false, false, false] rfl rfl (by kernel_rfl) (fun _ _ _ h => h) (Or.inl ⟨by rfl, ?_⟩) hHeld ?_ ?_
             rotate_left
             ·
              rintro w' ⟨s0, s1, s2, s3⟩
              go_simp
              with_reducible rfl
             rotate_left
             ·
              simp only [Act.put, List.setIfInBounds_toArray, List.set_cons_zero, List.set_cons_succ, i64_w, i32_w]
              rfl
             refine one_ (i := 2) (N := some 52) #[true, true, true, false, false, false] rfl rfl (by kernel_rfl) (by decide) (fun K hK => ?_)
             refine goes_ Try.func88 (by kernel_rfl) rfl #[.agg #[.int .i64 a1_0, .int .i64 a1_1]] (by rfl) rfl rfl (mapq rfl) ?_
             with_reducible refine (span_Span_turned.calls a1_0 a1_1 t211 t212 _ A96.out).mono ?_
             rintro e w100 ⟨rfl, hb⟩
             refine ⟨_, rfl, ?_⟩
             replace BK187 := bb BK187 hb rfl; replace BK188 := bb BK188 hb rfl; replace BK189 := bb BK189 hb rfl; replace HB := hst HB hb rfl
             (try clear hb)
             refine hK.out _ _ ⟨bc BK187 0 rfl, bc BK187 1 rfl, bc BK188 0 rfl, bc BK188 1 rfl⟩ (fun hHeld => ?_)
             clear hK K
             refine norm_ (a' := ?_) ?_ ?_
             rotate_left; · (show Act.put _ (some 52) _ = _; simp only [Act.put, List.setIfInBounds_toArray, List.set_cons_zero, List.set_cons_succ, i64_w, i32_w]; rfl)
             refine one_ (i := 3) (N := some 53) #[true, true, true, true, false, false] rfl rfl (by kernel_rfl) (by decide) (fun K hK => ?_)
             refine goes_ Try.func71 (by kernel_rfl) rfl #[.agg #[.int .i64 a0_0, .int .i64 a0_1], .agg #[.int .i64 t211, .int .i64 t212]] (by rfl) rfl rfl (mapq rfl) ?_
             with_reducible refine (ih kj79 (by have := HJ2.out; have := HJ29.out; have := HJ54.out; have := HJ79.out; omega) a0_0 a0_1 t211 t212 t213 t214 _ A97.out).mono ?_
             rintro e w101 ⟨rfl, hb⟩
             refine ⟨_, rfl, ?_⟩
             replace BK187 := bb BK187 hb rfl; replace BK188 := bb BK188 hb rfl; replace BK189 := bb BK189 hb rfl; replace HB := hst HB hb rfl
             (try clear hb)
             refine hK.out _ _ ⟨bc BK187 0 rfl, bc BK187 1 rfl, bc BK188 0 rfl, bc BK188 1 rfl⟩ (fun hHeld => ?_)
             clear hK K
             refine norm_ (a' := ?_) ?_ ?_
             rotate_left; · (show Act.put _ (some 53) _ = _; simp only [Act.put, List.setIfInBounds_toArray, List.set_cons_zero, List.set_cons_succ, i64_w, i32_w]; rfl)
             refine one_ (i := 4) (N := some 54) #[true, true, true, true, true, false] rfl rfl (by kernel_rfl) (by decide) (fun K hK => ?_)
             refine goes_ Try.func88 (by kernel_rfl) rfl #[.agg #[.int .i64 t213, .int .i64 t214]] (by rfl) rfl rfl (mapq rfl) ?_
             with_reducible refine (span_Span_turned.calls t213 t214 t215 t216 _ A98.out).mono ?_
             rintro e w102 ⟨rfl, hb⟩
             refine ⟨_, rfl, ?_⟩
             replace BK187 := bb BK187 hb rfl; replace BK188 := bb BK188 hb rfl; replace BK189 := bb BK189 hb rfl; replace HB := hst HB hb rfl
             (try clear hb)
             refine hK.out _ _ ⟨bc BK187 0 rfl, bc BK187 1 rfl, bc BK188 0 rfl, bc BK188 1 rfl⟩ (fun hHeld => ?_)
             clear hK K
             refine norm_ (a' := ?_) ?_ ?_
             rotate_left; · (show Act.put _ (some 54) _ = _; simp only [Act.put, List.setIfInBounds_toArray, List.set_cons_zero, List.set_cons_succ, i64_w, i32_w]; rfl)
             refine one_ (i := 5) (N := none) #[true, true, true, true, true, true] rfl rfl (by kernel_rfl) (by decide) (fun K hK => ?_)
             have hs103 : w102.cell? ⟨gb189, 0, none⟩ = some (.int .i64 0) := bc BK189 0 rfl
             have hfs103 := blk_frozen BK189.out 0
             have hns103_0 := NB187_189.out
             have hns103_1 := NB188_189.out
             have hms103_0 := NB189_187.out
             have hms103_1 := NB189_188.out
             have hs104 : w102.cell? ⟨gb189, 1, none⟩ = some (.int .i64 0) := bc BK189 1 rfl
             have hfs104 := blk_frozen BK189.out 1
             have hns104_0 := NB187_189.out
             have hns104_1 := NB188_189.out
             have hms104_0 := NB189_187.out
             have hms104_1 := NB189_188.out
             refine skip_ (w1 := ?_) (by rfl) rfl ?_ ?_
             rotate_left
             ·
              go_simp
              rfl
             refine hK.out _ _ ⟨((cell_far (p := ⟨gb189, _, none⟩) NB187_189.out _).trans (((cell_far (p := ⟨gb189, _, none⟩) NB187_189.out _).trans (hHeld.1)))), ((cell_far (p := ⟨gb189, _, none⟩) NB187_189.out _).trans (((cell_far (p := ⟨gb189, _, none⟩) NB187_189.out _).trans (hHeld.2.1)))), ((cell_far (p := ⟨gb189, _, none⟩) NB188_189.out _).trans (((cell_far (p := ⟨gb189, _, none⟩) NB188_189.out _).trans (hHeld.2.2.1)))), ((cell_far (p := ⟨gb189, _, none⟩) NB188_189.out _).trans (((cell_far (p := ⟨gb189, _, none⟩) NB188_189.out _).trans (hHeld.2.2.2))))⟩ (fun hHeld => ?_)
             clear hK K
             refine done_ (by kernel_rfl) ?_
             try go_wp2
             refine bodyPost_ret (results_cell_row rfl _ _ gb189 59 #[.int .i64 t215, .int .i64 t216] (0, 0) _ rfl (by (with_reducible repeat (first | refine blk_drewN ?_ _ | refine blk_drew ?_ | refine blk_alloc ?_ _)); refine blk_put (cs := #[.int .i64 t215, .int .i64 0]) ?_ 1 _ rfl; (with_reducible repeat (first | refine blk_drewN ?_ _ | refine blk_drew ?_ | refine blk_alloc ?_ _)); refine blk_put (cs := #[.int .i64 0, .int .i64 0]) ?_ 0 _ rfl; (with_reducible repeat (first | refine blk_drewN ?_ _ | refine blk_drew ?_ | refine blk_alloc ?_ _)); exact BK189.out) Try.underlying59 rfl (by kernel_rfl)) rfl ?_
             exact ⟨by first | rfl | (simp [*, errW_none, errW_some] <;> rfl), by repeat (first | (with_reducible first | exact HB.out | apply below_alloc | apply pw_below_drewN | apply below_drew1 | refine below_set ?_ GE187.out | refine below_set ?_ GE188.out | refine below_set ?_ GE189.out) | exact HB.out)⟩
            ·
             replace c95 := Bool.eq_false_iff.mpr c95
             subst c95
             rw [if_neg (show ¬ (false = true) by decide)] at H
             replace H := Option.bind_eq_some_iff.mp H
             obtain ⟨⟨t217, t218⟩, A1050, H⟩ := H
             (try dsimp only at H)
             have A105 := Aside0.mk A1050
             clear A1050
             simp only [Option.some.injEq, Prod.mk.injEq] at H
             obtain ⟨rfl, rfl⟩ := H
             go_wp2_with (first | ((with_reducible refine gate_callee (f := 46) rfl ?_); refine goesL_ (some 55) rfl rfl Try.func46 (by kernel_rfl) rfl #[] rfl (mapq rfl) ?_; (with_reducible refine (span_Any.calls  t217 t218 _ A105.out).mono ?_); rintro e w106 ⟨rfl, hb⟩; refine ⟨_, rfl, ?_⟩; replace BK187 := bb BK187 hb rfl; replace BK188 := bb BK188 hb rfl; replace BK189 := bb BK189 hb rfl; replace HB := hst HB hb rfl; (try clear hb); have hnb107 := NB189_187.out; have hnc107 := NB187_189.out; have hnb108 := NB189_188.out; have hnc108 := NB188_189.out; obtain ⟨hcz109_0, hcz109_1, hfz109_0, hfz109_1⟩ := c2 BK189))
             refine bodyPost_ret (results_cell_row rfl _ _ gb189 59 #[.int .i64 t217, .int .i64 t218] (0, 0) _ rfl (by (with_reducible repeat (first | refine blk_drewN ?_ _ | refine blk_drew ?_ | refine blk_alloc ?_ _)); refine blk_put (cs := #[.int .i64 t217, .int .i64 0]) ?_ 1 _ rfl; (with_reducible repeat (first | refine blk_drewN ?_ _ | refine blk_drew ?_ | refine blk_alloc ?_ _)); refine blk_put (cs := #[.int .i64 0, .int .i64 0]) ?_ 0 _ rfl; (with_reducible repeat (first | refine blk_drewN ?_ _ | refine blk_drew ?_ | refine blk_alloc ?_ _)); exact BK189.out) Try.underlying59 rfl (by kernel_rfl)) rfl ?_
             exact ⟨by first | rfl | (simp [*, errW_none, errW_some] <;> rfl), by repeat (first | (with_reducible first | exact HB.out | apply below_alloc | apply pw_below_drewN | apply below_drew1 | refine below_set ?_ GE187.out | refine below_set ?_ GE188.out | refine below_set ?_ GE189.out) | exact HB.out)⟩

end Go.Proofs.Ytpacmhhaabhdjaa.SM
