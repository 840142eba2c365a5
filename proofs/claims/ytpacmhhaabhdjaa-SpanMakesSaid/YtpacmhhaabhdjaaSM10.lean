-- Written by a program of this session: plain functions and their walks. Lean checks it.
import Derived.Test.YtpacmhhaabhdjaaSM0
import Derived.Test.YtpacmhhaabhdjaaSM8
import Derived.Test.YtpacmhhaabhdjaaSM9
namespace Go.Proofs.Ytpacmhhaabhdjaa.SM
open Go.RowKit Go.Proofs.YtpacmhhaabhdjaaW.PrintWords Go.Proofs.YtpacmhhaabhdjaaW.PrintLast Go.Proofs.YtpacmhhaabhdjaaW.PrintMore
attribute [local go_sem] max2_int min2_int max_two min_two max_three min_three max_four min_four   -- for this text's walks alone
set_option linter.unusedVariables false
set_option linter.unusedSimpArgs false

/-! ### avermentref10_div: function 79 -/
mutual
def avermentref10_div.j0 : Nat → List Int → Int → Int → Int → Int → Option (Int × Int × Bool)
 | 0, _, _, _, _, _ => none
 | k + 1, x6, x360000, x360001, x361000, x361001 => if x361001 > 0 then ((some (([mx x361000 1, x361001] : List Int) : List Int)).bind fun y368 => (if x6.length + y368.length < 17592186044416 then (avermentref10_div.j1 k (x6 ++ y368) x360000 x360001 x361000 x361001) else (none))) else (avermentref10_div.j1 k x6 x360000 x360001 x361000 x361001)
def avermentref10_div.j1 : Nat → List Int → Int → Int → Int → Int → Option (Int × Int × Bool)
 | 0, _, _, _, _, _ => none
 | k + 1, x6, x360000, x360001, x361000, x361001 => if (x6.length : Int) = 0 then (some (0, 0, false)) else (if x360000 = (-9223372036854775808) then ((avermentref10_Has.f x361000 x361001 (-1)).bind fun t374 => (avermentref10_div.j2 k x6 t374 x360000 x360001)) else (avermentref10_div.j2 k x6 false x360000 x360001))
def avermentref10_div.j2 : Nat → List Int → Bool → Int → Int → Option (Int × Int × Bool)
 | 0, _, _, _, _ => none
 | k + 1, x6, x41, x360000, x360001 => if x41 = true then ((avermentref10_Any.f).bind fun bt375 => (some (bt375.1, bt375.2, true))) else (avermentref10_div.l0 k x6 ([] : List Int) 0 x360000 x360001)
def avermentref10_div.l0 : Nat → List Int → List Int → Int → Int → Int → Option (Int × Int × Bool)
 | 0, _, _, _, _, _ => none
 | k + 1, x6, x7, x8, x360000, x360001 => if x8 < (x6.length : Int) then (if 0 ≤ x8 then (if (rd x6 x8) = 0 then (none) else ((some (([wrap64 (Int.tdiv x360000 (rd x6 x8)), wrap64 (Int.tdiv x360001 (rd x6 x8))] : List Int) : List Int)).bind fun y379 => (if x7.length + y379.length < 17592186044416 then (avermentref10_div.l0 k x6 (x7 ++ y379) (wrap64 (x8 + 1)) x360000 x360001) else (none)))) else (none)) else ((avermentref10_hull.f k x7 true).bind fun bt385 => (some (bt385.1, bt385.2.1, bt385.2.2)))
end
def avermentref10_div.f (k : Nat) (a0_0 : Int) (a0_1 : Int) (a1_0 : Int) (a1_1 : Int) : Option (Int × Int × Bool) := if a1_0 < 0 then ((some (([a1_0, mn a1_1 (-1)] : List Int) : List Int)).bind fun y362 => (if ([] : List Int).length + y362.length < 17592186044416 then (avermentref10_div.j0 k (([] : List Int) ++ y362) a0_0 a0_1 a1_0 a1_1) else (none))) else (avermentref10_div.j0 k ([] : List Int) a0_0 a0_1 a1_0 a1_1)
theorem avermentref10_div.mono_l : ∀ k, (∀ y0 y1 y2 y3 y4, LeO (avermentref10_div.j0 k y0 y1 y2 y3 y4) (avermentref10_div.j0 (k + 1) y0 y1 y2 y3 y4)) ∧ (∀ y0 y1 y2 y3 y4, LeO (avermentref10_div.j1 k y0 y1 y2 y3 y4) (avermentref10_div.j1 (k + 1) y0 y1 y2 y3 y4)) ∧ (∀ y0 y1 y2 y3, LeO (avermentref10_div.j2 k y0 y1 y2 y3) (avermentref10_div.j2 (k + 1) y0 y1 y2 y3)) ∧ (∀ y0 y1 y2 y3 y4, LeO (avermentref10_div.l0 k y0 y1 y2 y3 y4) (avermentref10_div.l0 (k + 1) y0 y1 y2 y3 y4))
 | 0 => ⟨fun _ _ _ _ _ r h => by simp [avermentref10_div.j0] at h, fun _ _ _ _ _ r h => by simp [avermentref10_div.j1] at h, fun _ _ _ _ r h => by simp [avermentref10_div.j2] at h, fun _ _ _ _ _ r h => by simp [avermentref10_div.l0] at h⟩
 | k + 1 => by
  obtain ⟨ih0, ih1, ih2, ih3⟩ := avermentref10_div.mono_l k
  refine ⟨?_, ?_, ?_, ?_⟩
  ·
   intro y0 y1 y2 y3 y4
   unfold avermentref10_div.j0
   repeat' first
   | (with_reducible exact ih0 _ _ _ _ _)
   | (with_reducible exact ih1 _ _ _ _ _)
   | (with_reducible exact ih2 _ _ _ _)
   | (with_reducible exact ih3 _ _ _ _ _)
   | (with_reducible exact avermentref10_hull.mono _ _ _)
   | (with_reducible exact LeO.refl _)
   | (with_reducible exact LeO.none _)
   | (with_reducible refine LeO.ite ?_ ?_)
   | (with_reducible refine LeO.bind ?_ (fun _ => ?_))
   | exact ih0 _ _ _ _ _
   | exact ih1 _ _ _ _ _
   | exact ih2 _ _ _ _
   | exact ih3 _ _ _ _ _
   | exact avermentref10_hull.mono _ _ _
   | exact LeO.none _
   | refine LeO.ite ?_ ?_
   | refine LeO.bind ?_ (fun _ => ?_)
  ·
   intro y0 y1 y2 y3 y4
   unfold avermentref10_div.j1
   repeat' first
   | (with_reducible exact ih0 _ _ _ _ _)
   | (with_reducible exact ih1 _ _ _ _ _)
   | (with_reducible exact ih2 _ _ _ _)
   | (with_reducible exact ih3 _ _ _ _ _)
   | (with_reducible exact avermentref10_hull.mono _ _ _)
   | (with_reducible exact LeO.refl _)
   | (with_reducible exact LeO.none _)
   | (with_reducible refine LeO.ite ?_ ?_)
   | (with_reducible refine LeO.bind ?_ (fun _ => ?_))
   | exact ih0 _ _ _ _ _
   | exact ih1 _ _ _ _ _
   | exact ih2 _ _ _ _
   | exact ih3 _ _ _ _ _
   | exact avermentref10_hull.mono _ _ _
   | exact LeO.none _
   | refine LeO.ite ?_ ?_
   | refine LeO.bind ?_ (fun _ => ?_)
  ·
   intro y0 y1 y2 y3
   unfold avermentref10_div.j2
   repeat' first
   | (with_reducible exact ih0 _ _ _ _ _)
   | (with_reducible exact ih1 _ _ _ _ _)
   | (with_reducible exact ih2 _ _ _ _)
   | (with_reducible exact ih3 _ _ _ _ _)
   | (with_reducible exact avermentref10_hull.mono _ _ _)
   | (with_reducible exact LeO.refl _)
   | (with_reducible exact LeO.none _)
   | (with_reducible refine LeO.ite ?_ ?_)
   | (with_reducible refine LeO.bind ?_ (fun _ => ?_))
   | exact ih0 _ _ _ _ _
   | exact ih1 _ _ _ _ _
   | exact ih2 _ _ _ _
   | exact ih3 _ _ _ _ _
   | exact avermentref10_hull.mono _ _ _
   | exact LeO.none _
   | refine LeO.ite ?_ ?_
   | refine LeO.bind ?_ (fun _ => ?_)
  ·
   intro y0 y1 y2 y3 y4
   unfold avermentref10_div.l0
   repeat' first
   | (with_reducible exact ih0 _ _ _ _ _)
   | (with_reducible exact ih1 _ _ _ _ _)
   | (with_reducible exact ih2 _ _ _ _)
   | (with_reducible exact ih3 _ _ _ _ _)
   | (with_reducible exact avermentref10_hull.mono _ _ _)
   | (with_reducible exact LeO.refl _)
   | (with_reducible exact LeO.none _)
   | (with_reducible refine LeO.ite ?_ ?_)
   | (with_reducible refine LeO.bind ?_ (fun _ => ?_))
   | exact ih0 _ _ _ _ _
   | exact ih1 _ _ _ _ _
   | exact ih2 _ _ _ _
   | exact ih3 _ _ _ _ _
   | exact avermentref10_hull.mono _ _ _
   | exact LeO.none _
   | refine LeO.ite ?_ ?_
   | refine LeO.bind ?_ (fun _ => ?_)
theorem avermentref10_div.mono : ∀ a0 a1 a2 a3 k, LeO (avermentref10_div.f k a0 a1 a2 a3) (avermentref10_div.f (k + 1) a0 a1 a2 a3) := by
 intro a0 a1 a2 a3 k
 obtain ⟨ih0, ih1, ih2, ih3⟩ := avermentref10_div.mono_l k
 unfold avermentref10_div.f
 repeat' first
   | (with_reducible exact ih0 _ _ _ _ _)
   | (with_reducible exact ih1 _ _ _ _ _)
   | (with_reducible exact ih2 _ _ _ _)
   | (with_reducible exact ih3 _ _ _ _ _)
   | (with_reducible exact avermentref10_hull.mono _ _ _)
   | (with_reducible exact LeO.refl _)
   | (with_reducible exact LeO.none _)
   | (with_reducible refine LeO.ite ?_ ?_)
   | (with_reducible refine LeO.bind ?_ (fun _ => ?_))
   | exact ih0 _ _ _ _ _
   | exact ih1 _ _ _ _ _
   | exact ih2 _ _ _ _
   | exact ih3 _ _ _ _ _
   | exact avermentref10_hull.mono _ _ _
   | exact LeO.none _
   | refine LeO.ite ?_ ?_
   | refine LeO.bind ?_ (fun _ => ?_)
def avermentref10_div.T14 : Bool × List (List Nat × List Nat) := (true, [([], []), ([], []), ([1], [1]), ([], []), ([], []), ([3, 4], [3, 4]), ([5], [5]), ([2, 6], [2, 6]), ([], []), ([8], [8]), ([], []), ([], []), ([10, 11], [10, 11]), ([12], [12]), ([9, 13], [9, 13]), ([7, 14], [7, 14]), ([0, 15], [0, 15]), ([16, 16, 0, 1, 2, 3, 4, 5, 6, 7, 8, 9, 10, 11, 12, 13, 14, 15, 16], [0, 16])])
def avermentref10_div.B14 : List Nat := [0, 0, 2, 0, 0, 24, 56, 126, 0, 256, 0, 0, 3072, 7168, 16128, 32766, 65535, 131071]
theorem avermentref10_div.tab14 : rtab .any (opsOf Try.f79 14) = avermentref10_div.T14 := by kernel_rfl
theorem avermentref10_div.bits14 : waitsOk avermentref10_div.T14.2 avermentref10_div.B14 = true := by kernel_rfl
set_option maxHeartbeats 8000000 in
set_option maxRecDepth 100000 in
theorem avermentref10_div.calls (k : Nat) (a0_0 : Int) (a0_1 : Int) (a1_0 : Int) (a1_1 : Int) (r1 : Int) (r2 : Int) (r3 : Bool) (w : World) (h : avermentref10_div.f k a0_0 a0_1 a1_0 a1_1 = some (r1, r2, r3)) :
  Calls Try.prog 79 #[.agg #[.int .i64 a0_0, .int .i64 a0_1], .agg #[.int .i64 a1_0, .int .i64 a1_1]] w fun e w' => e = .returned (.tuple #[.agg #[.int .i64 r1, .int .i64 r2], .bool r3]) ∧ Below w.heap.size w w' := by
 have hu56 := Try.underlying56
 have HB := Aside0.mk (Below.refl w.heap.size w)
 have H : (if a1_0 < 0 then ((some (([a1_0, mn a1_1 (-1)] : List Int) : List Int)).bind fun y362 => (if ([] : List Int).length + y362.length < 17592186044416 then (avermentref10_div.j0 k (([] : List Int) ++ y362) a0_0 a0_1 a1_0 a1_1) else (none))) else (avermentref10_div.j0 k ([] : List Int) a0_0 a0_1 a1_0 a1_1)) = some (r1, r2, r3) := h
 clear h
 have HC3 := Aside0.mk H
 clear H
 go_enter Try.func79, Try.ntmps79
 go_upto_if 11 with (first | ((with_reducible refine gate_dst (N := 2) rfl ?_); refine box_event ?hg (N := 2) ?hd (cs := #[.int .i64 a0_0, .int .i64 a0_1]) (t := 56) ?hr ?_; (case hd => rfl); (case hg => rfl); (case hr => first | (go_simp; done) | (go_simp; rfl)); intro gb359 hg w4 hbox hb; have BK359 := Aside0.mk (hbox); have GW359 := geb hg HB rfl; have GE359 := geb hg HB rfl; replace HB := hst HB hb rfl; clear hb hbox hg) | ((with_reducible refine gate_dst (N := 3) rfl ?_); refine box_event ?hg (N := 3) ?hd (cs := #[.int .i64 a1_0, .int .i64 a1_1]) (t := 56) ?hr ?_; (case hd => rfl); (case hg => rfl); (case hr => first | (go_simp; done) | (go_simp; rfl)); intro gb360 hg w5 hbox hb; have BK360 := Aside0.mk (hbox); have GW360 := geb hg HB rfl; have GE360 := geb hg HB rfl; have NB359_360 := nbl hg BK359 rfl; have NB360_359 := nbr hg BK359 rfl; replace BK359 := bb BK359 hb rfl; replace HB := hst HB hb rfl; clear hb hbox hg) | ((with_reducible refine gate_dst (N := 4) rfl ?_); refine box_event ?hg (N := 4) ?hd (cs := #[.int .i64 0, .int .i64 0]) (t := 56) ?hr ?_; (case hd => rfl); (case hg => rfl); (case hr => first | (go_simp; done) | (go_simp; rfl)); intro gb361 hg w6 hbox hb; have BK361 := Aside0.mk (hbox); have GW361 := geb hg HB rfl; have GE361 := geb hg HB rfl; have NB359_361 := nbl hg BK359 rfl; have NB361_359 := nbr hg BK359 rfl; have NB360_361 := nbl hg BK360 rfl; have NB361_360 := nbr hg BK360 rfl; replace BK359 := bb BK359 hb rfl; replace BK360 := bb BK360 hb rfl; replace HB := hst HB hb rfl; clear hb hbox hg; have hnb7 := NB360_359.out; have hnc7 := NB359_360.out; have hnb8 := NB360_361.out; have hnc8 := NB361_360.out; obtain ⟨hcz9_0, hcz9_1, hfz9_0, hfz9_1⟩ := c2 BK360))
 (try simp only [Act.put, List.setIfInBounds_toArray, List.set_cons_zero, List.set_cons_succ])
 go_cut [6] (fun v6 wc => ∃ (kq : Nat) (x6_2 : List Int), Aside0 (avermentref10_div.j0 kq x6_2 a0_0 a0_1 a1_0 a1_1 = some (r1, r2, r3)) ∧ Aside0 (kq ≤ k) ∧ Aside0 (Kd.R (Kd.int .i64) 2 wc w.heap.size (fun _ => True) v6 x6_2) ∧ Aside0 (wc.heap[gb359]? = some (.cells #[.int .i64 a0_0, .int .i64 a0_1] 56 (0, 0))) ∧ Aside0 (wc.heap[gb360]? = some (.cells #[.int .i64 a1_0, .int .i64 a1_1] 56 (0, 0))) ∧ Aside0 (wc.heap[gb361]? = some (.cells #[.int .i64 0, .int .i64 0] 56 (0, 0))) ∧ Aside0 (Below w.heap.size w wc))
 case first =>
  have H := HC3.out
  clear HC3
  by_cases c10 : a1_0 < 0
  ·
   rw [if_pos c10] at H
   have c10b0 : decide (a1_0 < 0) = true := decide_eq_true c10
   clear c10
   (first | rw [c10b0] | (simp only [i64_w, i32_w]; rw [c10b0]) | skip)
   obtain ⟨ji11, hji11⟩ : ∃ j_ : Int, (mn a1_1 (-1)) = j_ := ⟨_, rfl⟩
   replace H : ((some (([a1_0, ji11] : List Int) : List Int)).bind fun y362 => (if ([] : List Int).length + y362.length < 17592186044416 then (avermentref10_div.j0 k (([] : List Int) ++ y362) a0_0 a0_1 a1_0 a1_1) else (none))) = some (r1, r2, r3) := by first | (rw [hji11] at H; exact H) | (simp only [hji11] at H ⊢; exact H)
   (try (have hji11h : ji11 ≤ -1 := by (rw [← hji11]; unfold mn; (repeat' split) <;> omega)))
   (try (have hji11g : ji11 ≤ 64 := by omega))
   have hji11_ : (if (-1) < a1_1 then (-1) else a1_1) = ji11 := hji11
   obtain ⟨y362, hy362⟩ : ∃ y_ : List Int, y_ = (([a1_0, ji11] : List Int)) := ⟨_, rfl⟩
   replace H : (if ([] : List Int).length + y362.length < 17592186044416 then (avermentref10_div.j0 k (([] : List Int) ++ y362) a0_0 a0_1 a1_0 a1_1) else (none)) = some (r1, r2, r3) := by first | (rw [hy362]; with_reducible exact H) | (have H2_ := (Option.bind_some _ _).symm.trans H; rw [hy362]; with_reducible exact H2_) | (have H2_ := (Option.bind_some _ _).symm.trans H; with_reducible exact H2_) | with_reducible exact H | (rw [hy362]; exact H) | exact H
   have Ny362 := Aside0.mk hy362
   clear hy362
   by_cases c12 : ([] : List Int).length + y362.length < 17592186044416
   ·
    rw [if_pos c12] at H
    have LMc12 := Aside0.mk c12
    clear c12
    obtain ⟨y365, hy365⟩ : ∃ y_ : List Int, y_ = (([] : List Int) ++ y362) := ⟨_, rfl⟩
    replace H : (avermentref10_div.j0 k y365 a0_0 a0_1 a1_0 a1_1) = some (r1, r2, r3) := by first | (rw [hy365]; with_reducible exact H) | (have H2_ := (Option.bind_some _ _).symm.trans H; rw [hy365]; with_reducible exact H2_) | (have H2_ := (Option.bind_some _ _).symm.trans H; with_reducible exact H2_) | with_reducible exact H | (rw [hy365]; exact H) | exact H
    have Ny365 := Aside0.mk hy365
    clear hy365
    have H' := Aside0.mk H
    clear H
    have hnb13 := NB360_359.out
    have hnc13 := NB359_360.out
    have hnb14 := NB360_361.out
    have hnc14 := NB361_360.out
    obtain ⟨hcz15_0, hcz15_1, hfz15_0, hfz15_1⟩ := c2 BK360
    go_wp2_with (first | ((with_reducible refine gate_dst (N := 18) rfl ?_); refine Kd.R_lit (Kd.int .i64) _ 2 ?hg (N := 18) ?hd (xs := ([a1_0, ji11] : List Int)) (inner := [.int .i64 a1_0, .int .i64 ji11]) (ok := fun _ => True) (okp := fun _ => True) ?hr ?hp (fun _ hk => hk) trivial (Below.refl _ _) (Nat.le_refl _) (by simp) ?_; (case hd => rfl); (case hg => rfl); (case hr => first | (go_simp; done) | (go_simp; rfl)); (case hp => exact (Reps.one (show Kd.M (Kd.int .i64) _ _ _ a1_0 [.int .i64 a1_0] from rfl) (Reps.one (show Kd.M (Kd.int .i64) _ _ _ ji11 [.int .i64 ji11] from rfl) (Reps.none _ _)))); intro v363 w16 ho17 hb hg_ hnew_; clear hg_ hnew_; (first | rw [← Ny362.out] at ho17 | (simp only [Int.reduceToNat] at ho17; rw [← Ny362.out] at ho17)); have HO364 := Aside0.mk (Kd.R_lower ho17 (below_size (by repeat (first | (with_reducible first | exact HB.out | apply below_alloc | apply pw_below_drewN | apply below_drew1 | refine below_set ?_ GE359.out | refine below_set ?_ GE360.out | refine below_set ?_ GE361.out) | exact HB.out)))); replace BK359 := bb BK359 hb rfl; replace BK360 := bb BK360 hb rfl; replace BK361 := bb BK361 hb rfl; replace HB := hst HB hb rfl; clear hb ho17; obtain ⟨Ao19, co19, eo19⟩ := Kd.R_slice HO364.out; subst eo19) | ((with_reducible refine gate_builtin (b := .append) (xs := #[.tmp 12, .tmp 18]) rfl ?_); at_builtin; refine Kd.R_append_rows (Kd.int .i64) (w0 := w) w.heap.size rfl (.tmp 12) (.tmp 18) 65 2 (.int .i64 0) 8 rfl Try.underlying65 info2 rfl (by decide) (by omega) (.slice none 0 0) ([] : List Int) y362 _ _ _ (fun k_ => some k_ ≠ (.slice Ao19 y362.length co19 : Value).ownBlock) (fun _ => False) rfl rfl ?aO ?aR (fun _ _ h => h) (fun _ h => h.elim) ?aF ?aB ?aS ?aL ?_; (case aR => repeat (first | exact (Kd.R_reads' HO364.out).2.2 | (with_reducible refine Kd.C_alloc ?_ _) | (with_reducible refine Kd.C_drewN ?_ _) | (with_reducible refine Kd.C_drew ?_))); (case aB => exact (by repeat (first | (with_reducible first | exact HB.out | apply below_alloc | apply pw_below_drewN | apply below_drew1 | refine below_set ?_ GE359.out | refine below_set ?_ GE360.out | refine below_set ?_ GE361.out) | exact HB.out))); (case aF => exact (fun k_ hk => Kd.fresh' (Kd.R_lt (by (with_reducible repeat (first | apply Kd.R_alloc | apply Kd.R_drewN | apply Kd.R_drew)); exact HO364.out)) k_ hk)); (case aO => exact ((Kd.R_nil _ _ _ _ (fun k_ => some k_ ≠ (.slice Ao19 y362.length co19 : Value).ownBlock)))); (case aS => exact (below_size (by repeat (first | (with_reducible first | exact HB.out | apply below_alloc | apply pw_below_drewN | apply below_drew1 | refine below_set ?_ GE359.out | refine below_set ?_ GE360.out | refine below_set ?_ GE361.out) | exact HB.out)))); (case aL => have := LMc12.out; omega); intro v366 w18 ho hb hg hat; rw [← Ny365.out] at ho; have HO367 := Aside0.mk (ho); replace BK359 := Aside0.mk (blk_grown (g := gb359) (o := .cells #[.int .i64 a0_0, .int .i64 a0_1] 56 (0, 0)) (by (with_reducible repeat (first | refine blk_drewN ?_ _ | refine blk_drew ?_ | refine blk_alloc ?_ _)); exact BK359.out) hg (by simp [Value.ownBlock])); replace BK360 := Aside0.mk (blk_grown (g := gb360) (o := .cells #[.int .i64 a1_0, .int .i64 a1_1] 56 (0, 0)) (by (with_reducible repeat (first | refine blk_drewN ?_ _ | refine blk_drew ?_ | refine blk_alloc ?_ _)); exact BK360.out) hg (by simp [Value.ownBlock])); replace BK361 := Aside0.mk (blk_grown (g := gb361) (o := .cells #[.int .i64 0, .int .i64 0] 56 (0, 0)) (by (with_reducible repeat (first | refine blk_drewN ?_ _ | refine blk_drew ?_ | refine blk_alloc ?_ _)); exact BK361.out) hg (by simp [Value.ownBlock])); replace HO364 := Aside0.mk (Kd.R_after (Kd.R_apart_nil (by (with_reducible repeat (first | apply Kd.R_alloc | apply Kd.R_drewN | apply Kd.R_drew)); exact HO364.out)) hg hat); replace HB := Aside0.mk (hb); clear ho hb hg hat))
    go_meet
    case rel => exact ⟨_, (y365), H', ⟨by first | omega | exact Nat.le_refl _⟩, ⟨by (with_reducible repeat (first | apply Kd.R_alloc | apply Kd.R_drewN | apply Kd.R_drew)); exact Kd.R_mono HO367.out (fun _ hk => trivial)⟩, ⟨by (with_reducible repeat (first | refine blk_drewN ?_ _ | refine blk_drew ?_ | refine blk_alloc ?_ _)); exact BK359.out⟩, ⟨by (with_reducible repeat (first | refine blk_drewN ?_ _ | refine blk_drew ?_ | refine blk_alloc ?_ _)); exact BK360.out⟩, ⟨by (with_reducible repeat (first | refine blk_drewN ?_ _ | refine blk_drew ?_ | refine blk_alloc ?_ _)); exact BK361.out⟩, ⟨by repeat (first | (with_reducible first | exact HB.out | apply below_alloc | apply pw_below_drewN | apply below_drew1 | refine below_set ?_ GE359.out | refine below_set ?_ GE360.out | refine below_set ?_ GE361.out) | exact HB.out)⟩⟩
   ·
    rw [if_neg c12] at H
    exact absurd H (by simp)
  ·
   rw [if_neg c10] at H
   have c10b0 : decide (a1_0 < 0) = false := decide_eq_false c10
   clear c10
   (first | rw [c10b0] | (simp only [i64_w, i32_w]; rw [c10b0]) | skip)
   have H' := Aside0.mk H
   clear H
   go_wp2
   go_meet
   case rel => exact ⟨_, (([] : List Int)), H', ⟨by first | omega | exact Nat.le_refl _⟩, ⟨by first | exact Kd.R_nil _ _ _ _ _ | exact Kd.N_nil _ _ _ _ _ | exact Kd.V_nil _ _ _ _ _ | exact Kd.Q_nil _ _ _ _ _ | exact Kd.S_nil _ _ _ _ _⟩, ⟨by (with_reducible repeat (first | refine blk_drewN ?_ _ | refine blk_drew ?_ | refine blk_alloc ?_ _)); exact BK359.out⟩, ⟨by (with_reducible repeat (first | refine blk_drewN ?_ _ | refine blk_drew ?_ | refine blk_alloc ?_ _)); exact BK360.out⟩, ⟨by (with_reducible repeat (first | refine blk_drewN ?_ _ | refine blk_drew ?_ | refine blk_alloc ?_ _)); exact BK361.out⟩, ⟨by repeat (first | (with_reducible first | exact HB.out | apply below_alloc | apply pw_below_drewN | apply below_drew1 | refine below_set ?_ GE359.out | refine below_set ?_ GE360.out | refine below_set ?_ GE361.out) | exact HB.out)⟩⟩
 case rest =>
  clear HC3
  try clear c1
  try clear p2
  try clear c7
  try clear c8
  try clear c10
  try clear c10b0
  try clear c12
  try clear c13
  try clear c14
  try clear hcz15_0
  try clear hcz15_1
  try clear hcz9_0
  try clear hcz9_1
  try clear hfz15_0
  try clear hfz15_1
  try clear hfz9_0
  try clear hfz9_1
  obtain ⟨kq, x6_2, HA, HJ2, HO_6, BK359, BK360, BK361, HB⟩ := hcut
  cases kq with
  | zero => exact absurd HA.out (by simp [avermentref10_div.j0])
  | succ kj2 =>
   have H := HA.out
   clear HA
   simp only [avermentref10_div.j0] at H
   have HC20 := Aside0.mk H
   clear H
   have hnb21 := NB360_359.out
   have hnc21 := NB359_360.out
   have hnb22 := NB360_361.out
   have hnc22 := NB361_360.out
   obtain ⟨hcz23_0, hcz23_1, hfz23_0, hfz23_1⟩ := c2 BK360
   go_upto_if 22 with (fail)
   go_cut [6] (fun v6 wc => ∃ (kq : Nat) (x6_19 : List Int), Aside0 (avermentref10_div.j1 kq x6_19 a0_0 a0_1 a1_0 a1_1 = some (r1, r2, r3)) ∧ Aside0 (kq ≤ kj2) ∧ Aside0 (Kd.R (Kd.int .i64) 2 wc w.heap.size (fun _ => True) v6 x6_19) ∧ Aside0 (wc.heap[gb359]? = some (.cells #[.int .i64 a0_0, .int .i64 a0_1] 56 (0, 0))) ∧ Aside0 (wc.heap[gb360]? = some (.cells #[.int .i64 a1_0, .int .i64 a1_1] 56 (0, 0))) ∧ Aside0 (wc.heap[gb361]? = some (.cells #[.int .i64 0, .int .i64 0] 56 (0, 0))) ∧ Aside0 (Below w.heap.size w wc))
   case first =>
    have H := HC20.out
    clear HC20
    by_cases c24 : a1_1 > 0
    ·
     rw [if_pos c24] at H
     have c24b0 : decide (0 < a1_1) = true := decide_eq_true c24
     clear c24
     (first | rw [c24b0] | (simp only [i64_w, i32_w]; rw [c24b0]) | skip)
     obtain ⟨ji25, hji25⟩ : ∃ j_ : Int, (mx a1_0 1) = j_ := ⟨_, rfl⟩
     replace H : ((some (([ji25, a1_1] : List Int) : List Int)).bind fun y368 => (if x6_2.length + y368.length < 17592186044416 then (avermentref10_div.j1 kj2 (x6_2 ++ y368) a0_0 a0_1 a1_0 a1_1) else (none))) = some (r1, r2, r3) := by first | (rw [hji25] at H; exact H) | (simp only [hji25] at H ⊢; exact H)
     have hji25_ : (if a1_0 < 1 then 1 else a1_0) = ji25 := hji25
     obtain ⟨y368, hy368⟩ : ∃ y_ : List Int, y_ = (([ji25, a1_1] : List Int)) := ⟨_, rfl⟩
     replace H : (if x6_2.length + y368.length < 17592186044416 then (avermentref10_div.j1 kj2 (x6_2 ++ y368) a0_0 a0_1 a1_0 a1_1) else (none)) = some (r1, r2, r3) := by first | (rw [hy368]; with_reducible exact H) | (have H2_ := (Option.bind_some _ _).symm.trans H; rw [hy368]; with_reducible exact H2_) | (have H2_ := (Option.bind_some _ _).symm.trans H; with_reducible exact H2_) | with_reducible exact H | (rw [hy368]; exact H) | exact H
     have Ny368 := Aside0.mk hy368
     clear hy368
     by_cases c26 : x6_2.length + y368.length < 17592186044416
     ·
      rw [if_pos c26] at H
      have LMc26 := Aside0.mk c26
      clear c26
      obtain ⟨y371, hy371⟩ : ∃ y_ : List Int, y_ = (x6_2 ++ y368) := ⟨_, rfl⟩
      replace H : (avermentref10_div.j1 kj2 y371 a0_0 a0_1 a1_0 a1_1) = some (r1, r2, r3) := by first | (rw [hy371]; with_reducible exact H) | (have H2_ := (Option.bind_some _ _).symm.trans H; rw [hy371]; with_reducible exact H2_) | (have H2_ := (Option.bind_some _ _).symm.trans H; with_reducible exact H2_) | with_reducible exact H | (rw [hy371]; exact H) | exact H
      have Ny371 := Aside0.mk hy371
      clear hy371
      have H' := Aside0.mk H
      clear H
      have hnb27 := NB360_359.out
      have hnc27 := NB359_360.out
      have hnb28 := NB360_361.out
      have hnc28 := NB361_360.out
      obtain ⟨hcz29_0, hcz29_1, hfz29_0, hfz29_1⟩ := c2 BK360
      go_wp2_with (first | ((with_reducible refine gate_dst (N := 29) rfl ?_); refine Kd.R_lit (Kd.int .i64) _ 2 ?hg (N := 29) ?hd (xs := ([ji25, a1_1] : List Int)) (inner := [.int .i64 ji25, .int .i64 a1_1]) (ok := fun _ => True) (okp := fun _ => True) ?hr ?hp (fun _ hk => hk) trivial (Below.refl _ _) (Nat.le_refl _) (by simp) ?_; (case hd => rfl); (case hg => rfl); (case hr => first | (go_simp; done) | (go_simp; rfl)); (case hp => exact (Reps.one (show Kd.M (Kd.int .i64) _ _ _ ji25 [.int .i64 ji25] from rfl) (Reps.one (show Kd.M (Kd.int .i64) _ _ _ a1_1 [.int .i64 a1_1] from rfl) (Reps.none _ _)))); intro v369 w30 ho31 hb hg_ hnew_; clear hg_ hnew_; (first | rw [← Ny368.out] at ho31 | (simp only [Int.reduceToNat] at ho31; rw [← Ny368.out] at ho31)); have HO370 := Aside0.mk (Kd.R_lower (Kd.R_new' ho31 (Kd.R_lt (by (with_reducible repeat (first | apply Kd.R_alloc | apply Kd.R_drewN | apply Kd.R_drew)); exact HO_6.out))) (below_size (by repeat (first | (with_reducible first | exact HB.out | apply below_alloc | apply pw_below_drewN | apply below_drew1 | refine below_set ?_ GE359.out | refine below_set ?_ GE360.out | refine below_set ?_ GE361.out) | exact HB.out)))); replace HO_6 := Aside0.mk (Kd.R_elder' (by (with_reducible repeat (first | apply Kd.R_alloc | apply Kd.R_drewN | apply Kd.R_drew)); exact HO_6.out) (Kd.R_base ho31) hb); replace BK359 := bb BK359 hb rfl; replace BK360 := bb BK360 hb rfl; replace BK361 := bb BK361 hb rfl; replace HB := hst HB hb rfl; clear hb ho31; obtain ⟨Ao33, co33, eo33⟩ := Kd.R_slice HO370.out; subst eo33) | ((with_reducible refine gate_builtin (b := .append) (xs := #[.tmp 23, .tmp 29]) rfl ?_); at_builtin; refine Kd.R_append_rows (Kd.int .i64) (w0 := w) w.heap.size rfl (.tmp 23) (.tmp 29) 65 2 (.int .i64 0) 8 rfl Try.underlying65 info2 rfl (by decide) (by omega) u6 x6_2 y368 _ _ _ (fun k_ => some k_ ≠ (.slice Ao33 y368.length co33 : Value).ownBlock) (fun _ => False) rfl rfl ?aO ?aR (fun _ _ h => h) (fun _ h => h.elim) ?aF ?aB ?aS ?aL ?_; (case aR => repeat (first | exact (Kd.R_reads' HO370.out).2.2 | (with_reducible refine Kd.C_alloc ?_ _) | (with_reducible refine Kd.C_drewN ?_ _) | (with_reducible refine Kd.C_drew ?_))); (case aB => exact (by repeat (first | (with_reducible first | exact HB.out | apply below_alloc | apply pw_below_drewN | apply below_drew1 | refine below_set ?_ GE359.out | refine below_set ?_ GE360.out | refine below_set ?_ GE361.out) | exact HB.out))); (case aF => exact (fun k_ hk => Kd.fresh' (Kd.R_lt (by (with_reducible repeat (first | apply Kd.R_alloc | apply Kd.R_drewN | apply Kd.R_drew)); exact HO370.out)) k_ hk)); (case aO => exact (by (with_reducible repeat (first | apply Kd.R_alloc | apply Kd.R_drewN | apply Kd.R_drew)); exact Kd.R_mono HO_6.out (fun _ hk => hk.2))); (case aS => exact (below_size (by repeat (first | (with_reducible first | exact HB.out | apply below_alloc | apply pw_below_drewN | apply below_drew1 | refine below_set ?_ GE359.out | refine below_set ?_ GE360.out | refine below_set ?_ GE361.out) | exact HB.out)))); (case aL => have := LMc26.out; omega); intro v372 w32 ho hb hg hat; rw [← Ny371.out] at ho; have HO373 := Aside0.mk (ho); replace BK359 := Aside0.mk (blk_grown (g := gb359) (o := .cells #[.int .i64 a0_0, .int .i64 a0_1] 56 (0, 0)) (by (with_reducible repeat (first | refine blk_drewN ?_ _ | refine blk_drew ?_ | refine blk_alloc ?_ _)); exact BK359.out) hg (Kd.R_ne HO_6.out BK359.out (by decide))); replace BK360 := Aside0.mk (blk_grown (g := gb360) (o := .cells #[.int .i64 a1_0, .int .i64 a1_1] 56 (0, 0)) (by (with_reducible repeat (first | refine blk_drewN ?_ _ | refine blk_drew ?_ | refine blk_alloc ?_ _)); exact BK360.out) hg (Kd.R_ne HO_6.out BK360.out (by decide))); replace BK361 := Aside0.mk (blk_grown (g := gb361) (o := .cells #[.int .i64 0, .int .i64 0] 56 (0, 0)) (by (with_reducible repeat (first | refine blk_drewN ?_ _ | refine blk_drew ?_ | refine blk_alloc ?_ _)); exact BK361.out) hg (Kd.R_ne HO_6.out BK361.out (by decide))); replace HO370 := Aside0.mk (Kd.R_after (ok := (fun _ => True)) (by (with_reducible repeat (first | apply Kd.R_alloc | apply Kd.R_drewN | apply Kd.R_drew)); exact HO370.out) hg hat); replace HB := Aside0.mk (hb); clear HO_6; clear ho hb hg hat))
      go_meet
      case rel => exact ⟨_, (y371), H', ⟨by have := HJ2.out; first | omega | exact Nat.le_refl _⟩, ⟨by (with_reducible repeat (first | apply Kd.R_alloc | apply Kd.R_drewN | apply Kd.R_drew)); exact Kd.R_mono HO373.out (fun _ hk => trivial)⟩, ⟨by (with_reducible repeat (first | refine blk_drewN ?_ _ | refine blk_drew ?_ | refine blk_alloc ?_ _)); exact BK359.out⟩, ⟨by (with_reducible repeat (first | refine blk_drewN ?_ _ | refine blk_drew ?_ | refine blk_alloc ?_ _)); exact BK360.out⟩, ⟨by (with_reducible repeat (first | refine blk_drewN ?_ _ | refine blk_drew ?_ | refine blk_alloc ?_ _)); exact BK361.out⟩, ⟨by repeat (first | (with_reducible first | exact HB.out | apply below_alloc | apply pw_below_drewN | apply below_drew1 | refine below_set ?_ GE359.out | refine below_set ?_ GE360.out | refine below_set ?_ GE361.out) | exact HB.out)⟩⟩
     ·
      rw [if_neg c26] at H
      exact absurd H (by simp)
    ·
     rw [if_neg c24] at H
     have c24b0 : decide (0 < a1_1) = false := decide_eq_false c24
     clear c24
     (first | rw [c24b0] | (simp only [i64_w, i32_w]; rw [c24b0]) | skip)
     have H' := Aside0.mk H
     clear H
     go_wp2
     go_meet
     case rel => exact ⟨_, (x6_2), H', ⟨by have := HJ2.out; first | omega | exact Nat.le_refl _⟩, ⟨by (with_reducible repeat (first | apply Kd.R_alloc | apply Kd.R_drewN | apply Kd.R_drew)); exact HO_6.out⟩, ⟨by (with_reducible repeat (first | refine blk_drewN ?_ _ | refine blk_drew ?_ | refine blk_alloc ?_ _)); exact BK359.out⟩, ⟨by (with_reducible repeat (first | refine blk_drewN ?_ _ | refine blk_drew ?_ | refine blk_alloc ?_ _)); exact BK360.out⟩, ⟨by (with_reducible repeat (first | refine blk_drewN ?_ _ | refine blk_drew ?_ | refine blk_alloc ?_ _)); exact BK361.out⟩, ⟨by repeat (first | (with_reducible first | exact HB.out | apply below_alloc | apply pw_below_drewN | apply below_drew1 | refine below_set ?_ GE359.out | refine below_set ?_ GE360.out | refine below_set ?_ GE361.out) | exact HB.out)⟩⟩
   case rest =>
    clear HC20
    try clear c1
    try clear c2
    try clear p2
    try clear c7
    try clear c8
    try clear c10
    try clear c10b0
    try clear c12
    try clear c13
    try clear c14
    try clear c21
    try clear c22
    try clear c24
    try clear c24b0
    try clear c26
    try clear c27
    try clear c28
    try clear hcz15_0
    try clear hcz15_1
    try clear hcz23_0
    try clear hcz23_1
    try clear hcz29_0
    try clear hcz29_1
    try clear hcz9_0
    try clear hcz9_1
    try clear hfz15_0
    try clear hfz15_1
    try clear hfz23_0
    try clear hfz23_1
    try clear hfz29_0
    try clear hfz29_1
    try clear hfz9_0
    try clear hfz9_1
    try clear p2
    obtain ⟨kq, x6_19, HA, HJ19, HO_6, BK359, BK360, BK361, HB⟩ := hcut
    cases kq with
    | zero => exact absurd HA.out (by simp [avermentref10_div.j1])
    | succ kj19 =>
     have H := HA.out
     clear HA
     simp only [avermentref10_div.j1] at H
     by_cases c34 : (x6_19.length : Int) = 0
     ·
      rw [if_pos c34] at H
      have c34b0 : ((x6_19.length : Int) == 0) = true := beq_iff_eq.mpr c34
      have c34b1 : ((x6_19.length : Int) != 0) = false := bne_eq_false_iff_eq.mpr c34
      clear c34
      simp only [Option.some.injEq, Prod.mk.injEq] at H
      obtain ⟨rfl, rfl, rfl⟩ := H
      obtain ⟨Ao35, co35, eo35⟩ := Kd.R_slice HO_6.out
      subst eo35
      have hnb36 := NB361_359.out
      have hnc36 := NB359_361.out
      have hnb37 := NB361_360.out
      have hnc37 := NB360_361.out
      obtain ⟨hcz38_0, hcz38_1, hfz38_0, hfz38_1⟩ := c2 BK361
      go_wp2
      refine bodyPost_ret (results_ct rfl _ _ gb361 56 #[.int .i64 0, .int .i64 0] (0, 0) _ rfl (by (with_reducible repeat (first | refine blk_drewN ?_ _ | refine blk_drew ?_ | refine blk_alloc ?_ _)); refine blk_put (cs := #[.int .i64 0, .int .i64 0]) ?_ 1 _ rfl; (with_reducible repeat (first | refine blk_drewN ?_ _ | refine blk_drew ?_ | refine blk_alloc ?_ _)); refine blk_put (cs := #[.int .i64 0, .int .i64 0]) ?_ 0 _ rfl; (with_reducible repeat (first | refine blk_drewN ?_ _ | refine blk_drew ?_ | refine blk_alloc ?_ _)); exact BK361.out) Try.underlying56 rfl (by kernel_rfl)) rfl ?_
      exact ⟨by first | rfl | (simp [*, errW_none, errW_some] <;> rfl), by repeat (first | (with_reducible first | exact HB.out | apply below_alloc | apply pw_below_drewN | apply below_drew1 | refine below_set ?_ GE359.out | refine below_set ?_ GE360.out | refine below_set ?_ GE361.out) | exact HB.out)⟩
     ·
      rw [if_neg c34] at H
      have c34b0 : ((x6_19.length : Int) == 0) = false := beq_eq_false_iff_ne.mpr c34
      have c34b1 : ((x6_19.length : Int) != 0) = true := bne_iff_ne.mpr c34
      have c34b2 : ¬ (x6_19 = []) := fun h_ => c34 (by rw [h_]; rfl)
      have HC39 := Aside0.mk H
      clear H
      obtain ⟨Ao40, co40, eo40⟩ := Kd.R_slice HO_6.out
      subst eo40
      go_upto_region 8 with (fail)
      go_cut [41] (fun v41 wc => ∃ (kq : Nat) (x41_38 : Bool), v41 = .bool x41_38 ∧ Aside0 (avermentref10_div.j2 kq x6_19 x41_38 a0_0 a0_1 = some (r1, r2, r3)) ∧ Aside0 (kq ≤ kj19) ∧ Aside0 (Kd.R (Kd.int .i64) 2 wc w.heap.size (fun _ => True) (.slice Ao40 x6_19.length co40) x6_19) ∧ Aside0 (wc.heap[gb359]? = some (.cells #[.int .i64 a0_0, .int .i64 a0_1] 56 (0, 0))) ∧ Aside0 (wc.heap[gb360]? = some (.cells #[.int .i64 a1_0, .int .i64 a1_1] 56 (0, 0))) ∧ Aside0 (wc.heap[gb361]? = some (.cells #[.int .i64 0, .int .i64 0] 56 (0, 0))) ∧ Aside0 (Below w.heap.size w wc))
      case first =>
       have H := HC39.out
       clear HC39
       by_cases c41 : a0_0 = (-9223372036854775808)
       ·
        rw [if_pos c41] at H
        have c41b0 : (a0_0 == (-9223372036854775808)) = true := beq_iff_eq.mpr c41
        have c41b1 : (a0_0 != (-9223372036854775808)) = false := bne_eq_false_iff_eq.mpr c41
        clear c41
        (first | rw [c41b0] | (simp only [i64_w, i32_w]; rw [c41b0]) | skip)
        replace H := Option.bind_eq_some_iff.mp H
        obtain ⟨t374, A420, H⟩ := H
        (try dsimp only at H)
        have A42 := Aside0.mk A420
        clear A420
        have H' := Aside0.mk H
        clear H
        have hnb43 := NB359_360.out
        have hnc43 := NB360_359.out
        have hnb44 := NB359_361.out
        have hnc44 := NB361_359.out
        obtain ⟨hcz45_0, hcz45_1, hfz45_0, hfz45_1⟩ := c2 BK359
        have hnb46 := NB360_361.out
        have hnc46 := NB361_360.out
        obtain ⟨hcz47_0, hcz47_1, hfz47_0, hfz47_1⟩ := c2 BK360
        go_wp2_with (first | (go_at_call 41; (with_reducible refine (avermentref10_Has.calls a1_0 a1_1 (-1) t374 _ A42.out).mono ?_); rintro e w48 ⟨rfl, hb⟩; replace HO_6 := Aside0.mk (Kd.R_below (by (with_reducible repeat (first | apply Kd.R_alloc | apply Kd.R_drewN | apply Kd.R_drew)); exact HO_6.out) hb); replace BK359 := bb BK359 hb rfl; replace BK360 := bb BK360 hb rfl; replace BK361 := bb BK361 hb rfl; replace HB := hst HB hb rfl; (try clear hb)))
        go_meet
        case rel => exact ⟨_, (t374), (by first | rfl | (simp; done) | (simp [*]; done)), H', ⟨by have := HJ2.out; have := HJ19.out; first | omega | exact Nat.le_refl _⟩, ⟨by (with_reducible repeat (first | apply Kd.R_alloc | apply Kd.R_drewN | apply Kd.R_drew)); exact HO_6.out⟩, ⟨by (with_reducible repeat (first | refine blk_drewN ?_ _ | refine blk_drew ?_ | refine blk_alloc ?_ _)); exact BK359.out⟩, ⟨by (with_reducible repeat (first | refine blk_drewN ?_ _ | refine blk_drew ?_ | refine blk_alloc ?_ _)); exact BK360.out⟩, ⟨by (with_reducible repeat (first | refine blk_drewN ?_ _ | refine blk_drew ?_ | refine blk_alloc ?_ _)); exact BK361.out⟩, ⟨by repeat (first | (with_reducible first | exact HB.out | apply below_alloc | apply pw_below_drewN | apply below_drew1 | refine below_set ?_ GE359.out | refine below_set ?_ GE360.out | refine below_set ?_ GE361.out) | exact HB.out)⟩⟩
       ·
        rw [if_neg c41] at H
        have c41b0 : (a0_0 == (-9223372036854775808)) = false := beq_eq_false_iff_ne.mpr c41
        have c41b1 : (a0_0 != (-9223372036854775808)) = true := bne_iff_ne.mpr c41
        (first | rw [c41b0] | (simp only [i64_w, i32_w]; rw [c41b0]) | skip)
        have H' := Aside0.mk H
        clear H
        have hnb49 := NB359_360.out
        have hnc49 := NB360_359.out
        have hnb50 := NB359_361.out
        have hnc50 := NB361_359.out
        obtain ⟨hcz51_0, hcz51_1, hfz51_0, hfz51_1⟩ := c2 BK359
        go_wp2
        go_meet
        case rel => exact ⟨_, (false), (by first | rfl | (simp; done) | (simp [*]; done)), H', ⟨by have := HJ2.out; have := HJ19.out; first | omega | exact Nat.le_refl _⟩, ⟨by (with_reducible repeat (first | apply Kd.R_alloc | apply Kd.R_drewN | apply Kd.R_drew)); exact HO_6.out⟩, ⟨by (with_reducible repeat (first | refine blk_drewN ?_ _ | refine blk_drew ?_ | refine blk_alloc ?_ _)); exact BK359.out⟩, ⟨by (with_reducible repeat (first | refine blk_drewN ?_ _ | refine blk_drew ?_ | refine blk_alloc ?_ _)); exact BK360.out⟩, ⟨by (with_reducible repeat (first | refine blk_drewN ?_ _ | refine blk_drew ?_ | refine blk_alloc ?_ _)); exact BK361.out⟩, ⟨by repeat (first | (with_reducible first | exact HB.out | apply below_alloc | apply pw_below_drewN | apply below_drew1 | refine below_set ?_ GE359.out | refine below_set ?_ GE360.out | refine below_set ?_ GE361.out) | exact HB.out)⟩⟩
      case rest =>
       clear HC39
       try clear c1
       try clear c2
       try clear p2
       try clear c3
       try clear c4
       try clear c5
       try clear c7
       try clear c8
       try clear c10
       try clear c10b0
       try clear c12
       try clear c13
       try clear c14
       try clear c21
       try clear c22
       try clear c24
       try clear c24b0
       try clear c26
       try clear c27
       try clear c28
       try clear c34
       try clear c34b0
       try clear c34b1
       try clear c34b2
       try clear c36
       try clear c37
       try clear c41
       try clear c41b0
       try clear c41b1
       try clear c43
       try clear c44
       try clear c46
       try clear c49
       try clear c50
       try clear hcz15_0
       try clear hcz15_1
       try clear hcz23_0
       try clear hcz23_1
       try clear hcz29_0
       try clear hcz29_1
       try clear hcz38_0
       try clear hcz38_1
       try clear hcz45_0
       try clear hcz45_1
       try clear hcz47_0
       try clear hcz47_1
       try clear hcz51_0
       try clear hcz51_1
       try clear hcz9_0
       try clear hcz9_1
       try clear hfz15_0
       try clear hfz15_1
       try clear hfz23_0
       try clear hfz23_1
       try clear hfz29_0
       try clear hfz29_1
       try clear hfz38_0
       try clear hfz38_1
       try clear hfz45_0
       try clear hfz45_1
       try clear hfz47_0
       try clear hfz47_1
       try clear hfz51_0
       try clear hfz51_1
       try clear hfz9_0
       try clear hfz9_1
       try clear p2
       obtain ⟨kq, x41_38, rfl, HA, HJ38, HO_6, BK359, BK360, BK361, HB⟩ := hcut
       cases kq with
       | zero => exact absurd HA.out (by simp [avermentref10_div.j2])
       | succ kj38 =>
        have H := HA.out
        clear HA
        simp only [avermentref10_div.j2] at H
        by_cases c52 : x41_38 = true
        ·
         subst c52
         rw [if_pos rfl] at H
         replace H := Option.bind_eq_some_iff.mp H
         obtain ⟨⟨t375, t376⟩, A530, H⟩ := H
         (try dsimp only at H)
         have A53 := Aside0.mk A530
         clear A530
         simp only [Option.some.injEq, Prod.mk.injEq] at H
         obtain ⟨rfl, rfl, rfl⟩ := H
         go_wp2_with (first | ((with_reducible refine gate_callee (f := 40) rfl ?_); refine goesL_ (some 42) rfl rfl Try.func40 (by kernel_rfl) rfl #[] rfl (mapq rfl) ?_; (with_reducible refine (avermentref10_Any.calls  t375 t376 _ A53.out).mono ?_); rintro e w54 ⟨rfl, hb⟩; refine ⟨_, rfl, ?_⟩; replace HO_6 := Aside0.mk (Kd.R_below (by (with_reducible repeat (first | apply Kd.R_alloc | apply Kd.R_drewN | apply Kd.R_drew)); exact HO_6.out) hb); replace BK359 := bb BK359 hb rfl; replace BK360 := bb BK360 hb rfl; replace BK361 := bb BK361 hb rfl; replace HB := hst HB hb rfl; (try clear hb); have hnb55 := NB361_359.out; have hnc55 := NB359_361.out; have hnb56 := NB361_360.out; have hnc56 := NB360_361.out; obtain ⟨hcz57_0, hcz57_1, hfz57_0, hfz57_1⟩ := c2 BK361))
         refine bodyPost_ret (results_ct rfl _ _ gb361 56 #[.int .i64 t375, .int .i64 t376] (0, 0) _ rfl (by (with_reducible repeat (first | refine blk_drewN ?_ _ | refine blk_drew ?_ | refine blk_alloc ?_ _)); refine blk_put (cs := #[.int .i64 t375, .int .i64 0]) ?_ 1 _ rfl; (with_reducible repeat (first | refine blk_drewN ?_ _ | refine blk_drew ?_ | refine blk_alloc ?_ _)); refine blk_put (cs := #[.int .i64 0, .int .i64 0]) ?_ 0 _ rfl; (with_reducible repeat (first | refine blk_drewN ?_ _ | refine blk_drew ?_ | refine blk_alloc ?_ _)); exact BK361.out) Try.underlying56 rfl (by kernel_rfl)) rfl ?_
         exact ⟨by first | rfl | (simp [*, errW_none, errW_some] <;> rfl), by repeat (first | (with_reducible first | exact HB.out | apply below_alloc | apply pw_below_drewN | apply below_drew1 | refine below_set ?_ GE359.out | refine below_set ?_ GE360.out | refine below_set ?_ GE361.out) | exact HB.out)⟩
        ·
         replace c52 := Bool.eq_false_iff.mpr c52
         subst c52
         rw [if_neg (show ¬ (false = true) by decide)] at H
         have H' := Aside0.mk H
         clear H
         go_wp2
         go_loopg [7, 8] kj38 (fun kq v7 v8 w' => ∃ (x7_4 : List Int) (x8_4 : Int), v8 = .int .i64 x8_4 ∧ Aside0 (avermentref10_div.l0 kq x6_19 x7_4 x8_4 a0_0 a0_1 = some (r1, r2, r3)) ∧ Aside0 (kq ≤ kj38) ∧ Aside0 (Kd.R (Kd.int .i64) 2 w' w.heap.size (fun k_ => some k_ ≠ (v7 : Value).ownBlock) (.slice Ao40 x6_19.length co40) x6_19) ∧ Aside0 (Kd.R (Kd.int .i64) 2 w' w.heap.size (fun k_ => some k_ ≠ ((.slice Ao40 x6_19.length co40) : Value).ownBlock) v7 x7_4) ∧ Aside0 (w'.heap[gb359]? = some (.cells #[.int .i64 a0_0, .int .i64 a0_1] 56 (0, 0))) ∧ Aside0 (w'.heap[gb360]? = some (.cells #[.int .i64 a1_0, .int .i64 a1_1] 56 (0, 0))) ∧ Aside0 (w'.heap[gb361]? = some (.cells #[.int .i64 0, .int .i64 0] 56 (0, 0))) ∧ Aside0 (Below w.heap.size w w'))
         case atStart => exact ⟨(([] : List Int)), (0), (by first | rfl | (simp; done) | (simp [*]; done)), H', ⟨Nat.le_refl _⟩, ⟨by (with_reducible repeat (first | apply Kd.R_alloc | apply Kd.R_drewN | apply Kd.R_drew)); exact Kd.R_mono HO_6.out (fun _ hk => (by simp [Value.ownBlock]))⟩, ⟨by first | exact Kd.R_nil _ _ _ _ _ | exact Kd.N_nil _ _ _ _ _ | exact Kd.V_nil _ _ _ _ _ | exact Kd.Q_nil _ _ _ _ _ | exact Kd.S_nil _ _ _ _ _⟩, ⟨by (with_reducible repeat (first | refine blk_drewN ?_ _ | refine blk_drew ?_ | refine blk_alloc ?_ _)); exact BK359.out⟩, ⟨by (with_reducible repeat (first | refine blk_drewN ?_ _ | refine blk_drew ?_ | refine blk_alloc ?_ _)); exact BK360.out⟩, ⟨by (with_reducible repeat (first | refine blk_drewN ?_ _ | refine blk_drew ?_ | refine blk_alloc ?_ _)); exact BK361.out⟩, ⟨by repeat (first | (with_reducible first | exact HB.out | apply below_alloc | apply pw_below_drewN | apply below_drew1 | refine below_set ?_ GE359.out | refine below_set ?_ GE360.out | refine below_set ?_ GE361.out) | exact HB.out)⟩⟩
         case round =>
          clear H'
          try clear c1
          try clear c2
          try clear p2
          try clear c3
          try clear c4
          try clear c5
          try clear c7
          try clear c8
          try clear c10
          try clear c10b0
          try clear c12
          try clear c13
          try clear c14
          try clear c21
          try clear c22
          try clear c24
          try clear c24b0
          try clear c26
          try clear c27
          try clear c28
          try clear c34
          try clear c34b0
          try clear c34b1
          try clear c34b2
          try clear c36
          try clear c37
          try clear c40
          try clear c41
          try clear c41b0
          try clear c41b1
          try clear c43
          try clear c44
          try clear c46
          try clear c49
          try clear c50
          try clear c52
          try clear c55
          try clear c56
          try clear hcz15_0
          try clear hcz15_1
          try clear hcz23_0
          try clear hcz23_1
          try clear hcz29_0
          try clear hcz29_1
          try clear hcz38_0
          try clear hcz38_1
          try clear hcz45_0
          try clear hcz45_1
          try clear hcz47_0
          try clear hcz47_1
          try clear hcz51_0
          try clear hcz51_1
          try clear hcz57_0
          try clear hcz57_1
          try clear hcz9_0
          try clear hcz9_1
          try clear hfz15_0
          try clear hfz15_1
          try clear hfz23_0
          try clear hfz23_1
          try clear hfz29_0
          try clear hfz29_1
          try clear hfz38_0
          try clear hfz38_1
          try clear hfz45_0
          try clear hfz45_1
          try clear hfz47_0
          try clear hfz47_1
          try clear hfz51_0
          try clear hfz51_1
          try clear hfz57_0
          try clear hfz57_1
          try clear hfz9_0
          try clear hfz9_1
          try clear p2
          obtain ⟨x7_4, x8_4, rfl, HA, HK4, HO_6, HO_7, BK359, BK360, BK361, HB⟩ := hrel
          cases gk with
          | zero => exact absurd HA.out (by simp [avermentref10_div.l0])
          | succ k4 =>
           have H := HA.out
           clear HA
           simp only [avermentref10_div.l0] at H
           by_cases c58 : x8_4 < (x6_19.length : Int)
           ·
            rw [if_pos c58] at H
            have c58b0 : decide (x8_4 < (x6_19.length : Int)) = true := decide_eq_true c58
            clear c58
            by_cases c59 : 0 ≤ x8_4
            ·
             rw [if_pos c59] at H
             have c59b0 : decide (0 ≤ x8_4) = true := decide_eq_true c59
             clear c59
             by_cases c60 : (rd x6_19 x8_4) = 0
             ·
              rw [if_pos c60] at H
              exact absurd H (by simp)
             ·
              rw [if_neg c60] at H
              have c60b0 : ((rd x6_19 x8_4) == 0) = false := beq_eq_false_iff_ne.mpr c60
              have c60b1 : ((rd x6_19 x8_4) != 0) = true := bne_iff_ne.mpr c60
              obtain ⟨y379, hy379⟩ : ∃ y_ : List Int, y_ = (([wrap64 (Int.tdiv a0_0 (rd x6_19 x8_4)), wrap64 (Int.tdiv a0_1 (rd x6_19 x8_4))] : List Int)) := ⟨_, rfl⟩
              replace H : (if x7_4.length + y379.length < 17592186044416 then (avermentref10_div.l0 k4 x6_19 (x7_4 ++ y379) (wrap64 (x8_4 + 1)) a0_0 a0_1) else (none)) = some (r1, r2, r3) := by first | (rw [hy379]; with_reducible exact H) | (have H2_ := (Option.bind_some _ _).symm.trans H; rw [hy379]; with_reducible exact H2_) | (have H2_ := (Option.bind_some _ _).symm.trans H; with_reducible exact H2_) | with_reducible exact H | (rw [hy379]; exact H) | exact H
              have Ny379 := Aside0.mk hy379
              clear hy379
              by_cases c61 : x7_4.length + y379.length < 17592186044416
              ·
               rw [if_pos c61] at H
               have LMc61 := Aside0.mk c61
               clear c61
               obtain ⟨y382, hy382⟩ : ∃ y_ : List Int, y_ = (x7_4 ++ y379) := ⟨_, rfl⟩
               replace H : (avermentref10_div.l0 k4 x6_19 y382 (wrap64 (x8_4 + 1)) a0_0 a0_1) = some (r1, r2, r3) := by first | (rw [hy382]; with_reducible exact H) | (have H2_ := (Option.bind_some _ _).symm.trans H; rw [hy382]; with_reducible exact H2_) | (have H2_ := (Option.bind_some _ _).symm.trans H; with_reducible exact H2_) | with_reducible exact H | (rw [hy382]; exact H) | exact H
               have Ny382 := Aside0.mk hy382
               clear hy382
               have H' := Aside0.mk H
               clear H
               try go_wp2
               replace HO_6 := Aside0.mk (Kd.R_drew HO_6.out); replace HO_7 := Aside0.mk (Kd.R_drew HO_7.out); replace BK359 := Aside0.mk (blk_drew BK359.out); replace BK360 := Aside0.mk (blk_drew BK360.out); replace BK361 := Aside0.mk (blk_drew BK361.out); replace HB := Aside0.mk (below_drew1 HB.out)
               have p377 : 0 ≤ (x8_4 : Int) := of_decide_eq_true (by first | (with_reducible assumption) | assumption)
               have q377 : x8_4 < (x6_19.length : Int) := of_decide_eq_true (by first | (with_reducible assumption) | assumption)
               obtain ⟨ad377, e377, hx377_0⟩ := Kd.at_int (Kd.R_reads' HO_6.out).2.2 x8_4 p377 q377
               cases e377
               replace p377 := eq_true p377
               replace q377 := eq_true q377
               have p378 : 0 ≤ (x8_4 : Int) := of_decide_eq_true (by first | (with_reducible assumption) | assumption)
               have q378 : x8_4 < (x6_19.length : Int) := of_decide_eq_true (by first | (with_reducible assumption) | assumption)
               obtain ⟨ad378, e378, hx378_0⟩ := Kd.at_int (Kd.R_reads' HO_6.out).2.2 x8_4 p378 q378
               obtain rfl : ad377 = ad378 := (by injection e378)
               replace p378 := eq_true p378
               replace q378 := eq_true q378
               refine start_ (n := 18) (S := fun w' => w'.cell? ⟨gb359, 0, none⟩ = some (.int .i64 a0_0) ∧ w'.cell? ⟨gb359, 1, none⟩ = some (.int .i64 a0_1) ∧ w'.cell? (ad377.add (x8_4).toNat) = some (.int .i64 (rd x6_19 x8_4)) ∧ w'.cell? (ad377.add (x8_4).toNat) = some (.int .i64 (rd x6_19 x8_4))) (ds := [16]) #[false, false, false, false, false, false, false, false, false, false, false, false, false, false, false, false, false, false] (by kernel_rfl) rfl rfl ⟨bc BK359 0 rfl, bc BK359 1 rfl, hx377_0, hx378_0⟩ (fun hHeld => ?_); refine with_tabW avermentref10_div.tab14 avermentref10_div.bits14 (fun HT_ HW_ => ?_)
               generalize wr.drew = w62 at HO_6 HO_7 BK359 BK360 BK361 HB hx377_0 hx378_0 hHeld ⊢
               refine pure_ (i := 0) (N := some 49) (v := ?_) (a' := ?_) #[true, false, false, false, false, false, false, false, false, false, false, false, false, false, false, false, false, false] rfl rfl (any_of HT_.out (by kernel_rfl)) (fun _ _ _ h => h) (Or.inl ⟨by rfl, ?_⟩) ?_ ?_
               rotate_left; · (intro w'; go_simp; with_reducible rfl)
               rotate_left; · (simp only [Act.put, List.setIfInBounds_toArray, List.set_cons_zero, List.set_cons_succ, i64_w, i32_w]; rfl)
               refine pure_ (i := 1) (N := some 50) (v := ?_) (a' := ?_) #[true, true, false, false, false, false, false, false, false, false, false, false, false, false, false, false, false, false] rfl rfl (any_of HT_.out (by kernel_rfl)) (fun _ _ _ h => h) (Or.inl ⟨by rfl, ?_⟩) ?_ ?_
               rotate_left; · (intro w'; go_simp; with_reducible rfl)
               rotate_left; · (simp only [Act.put, List.setIfInBounds_toArray, List.set_cons_zero, List.set_cons_succ, i64_w, i32_w]; rfl)
               refine pure_ (i := 3) (N := some 52) (v := ?_) (a' := ?_) #[true, true, false, true, false, false, false, false, false, false, false, false, false, false, false, false, false, false] rfl rfl (any_of HT_.out (by kernel_rfl)) (fun _ _ _ h => h) (Or.inl ⟨by rfl, ?_⟩) ?_ ?_
               rotate_left; · (intro w'; go_simp; with_reducible rfl)
               rotate_left; · (simp only [Act.put, List.setIfInBounds_toArray, List.set_cons_zero, List.set_cons_succ, i64_w, i32_w]; rfl)
               refine pure_ (i := 4) (N := some 53) (v := ?_) (a' := ?_) #[true, true, false, true, true, false, false, false, false, false, false, false, false, false, false, false, false, false] rfl rfl (any_of HT_.out (by kernel_rfl)) (fun _ _ _ h => h) (Or.inl ⟨by rfl, ?_⟩) ?_ ?_
               rotate_left; · (intro w'; go_simp; with_reducible rfl)
               rotate_left; · (simp only [Act.put, List.setIfInBounds_toArray, List.set_cons_zero, List.set_cons_succ, i64_w, i32_w]; rfl)
               refine pure_ (i := 5) (N := some 54) (v := ?_) (a' := ?_) #[true, true, false, true, true, true, false, false, false, false, false, false, false, false, false, false, false, false] rfl rfl (any_of HT_.out (by kernel_rfl)) (fun _ _ _ h => h) (Or.inl ⟨by rfl, ?_⟩) ?_ ?_
               rotate_left; · (intro w'; go_simp; with_reducible rfl)
               rotate_left; · (simp only [Act.put, List.setIfInBounds_toArray, List.set_cons_zero, List.set_cons_succ, i64_w, i32_w]; rfl)
               refine pure_ (i := 8) (N := some 57) (v := ?_) (a' := ?_) #[true, true, false, true, true, true, false, false, true, false, false, false, false, false, false, false, false, false] rfl rfl (any_of HT_.out (by kernel_rfl)) (fun _ _ _ h => h) (Or.inl ⟨by rfl, ?_⟩) ?_ ?_
               rotate_left; · (intro w'; go_simp; with_reducible rfl)
               rotate_left; · (simp only [Act.put, List.setIfInBounds_toArray, List.set_cons_zero, List.set_cons_succ, i64_w, i32_w]; rfl)
               refine pure_ (i := 10) (N := some 59) (v := ?_) (a' := ?_) #[true, true, false, true, true, true, false, false, true, false, true, false, false, false, false, false, false, false] rfl rfl (any_of HT_.out (by kernel_rfl)) (fun _ _ _ h => h) (Or.inl ⟨by rfl, ?_⟩) ?_ ?_
               rotate_left; · (intro w'; go_simp; with_reducible rfl)
               rotate_left; · (simp only [Act.put, List.setIfInBounds_toArray, List.set_cons_zero, List.set_cons_succ, i64_w, i32_w]; rfl)
               refine pure_ (i := 11) (N := some 60) (v := ?_) (a' := ?_) #[true, true, false, true, true, true, false, false, true, false, true, true, false, false, false, false, false, false] rfl rfl (any_of HT_.out (by kernel_rfl)) (fun _ _ _ h => h) (Or.inl ⟨by rfl, ?_⟩) ?_ ?_
               rotate_left; · (intro w'; go_simp; with_reducible rfl)
               rotate_left; · (simp only [Act.put, List.setIfInBounds_toArray, List.set_cons_zero, List.set_cons_succ, i64_w, i32_w]; rfl)
               refine pure_ (i := 12) (N := some 61) (v := ?_) (a' := ?_) #[true, true, false, true, true, true, false, false, true, false, true, true, true, false, false, false, false, false] rfl rfl (any_of HT_.out (by kernel_rfl)) (fun _ _ _ h => h) (Or.inl ⟨by rfl, ?_⟩) ?_ ?_
               rotate_left; · (intro w'; go_simp; with_reducible rfl)
               rotate_left; · (simp only [Act.put, List.setIfInBounds_toArray, List.set_cons_zero, List.set_cons_succ, i64_w, i32_w]; rfl)
               refine take_ (i := 2) (N := some 51) (v := ?_) (a' := ?_) #[true, true, true, true, true, true, false, false, true, false, true, true, true, false, false, false, false, false] rfl rfl (take_ofW HT_.out HW_.out (by kernel_rfl)) (fun _ _ _ h => h) (Or.inl ⟨by rfl, ?_⟩) hHeld ?_ ?_
               rotate_left
               ·
                rintro w' ⟨s0, s1, s2, s3⟩
                go_simp
                with_reducible rfl
               rotate_left
               ·
                simp only [Act.put, List.setIfInBounds_toArray, List.set_cons_zero, List.set_cons_succ, i64_w, i32_w]
                rfl
               refine take_ (i := 6) (N := some 55) (v := ?_) (a' := ?_) #[true, true, true, true, true, true, true, false, true, false, true, true, true, false, false, false, false, false] rfl rfl (take_ofW HT_.out HW_.out (by kernel_rfl)) (fun _ _ _ h => h) (Or.inl ⟨by rfl, ?_⟩) hHeld ?_ ?_
               rotate_left
               ·
                rintro w' ⟨s0, s1, s2, s3⟩
                go_simp
                with_reducible rfl
               rotate_left
               ·
                simp only [Act.put, List.setIfInBounds_toArray, List.set_cons_zero, List.set_cons_succ, i64_w, i32_w]
                rfl
               refine pure_ (i := 7) (N := some 56) (v := ?_) (a' := ?_) #[true, true, true, true, true, true, true, true, true, false, true, true, true, false, false, false, false, false] rfl rfl (any_of HT_.out (by kernel_rfl)) (fun _ _ _ h => h) (Or.inl ⟨by rfl, ?_⟩) ?_ ?_
               rotate_left; · (intro w'; go_simp; with_reducible rfl)
               rotate_left; · (simp only [Act.put, List.setIfInBounds_toArray, List.set_cons_zero, List.set_cons_succ, i64_w, i32_w]; rfl)
               refine take_ (i := 9) (N := some 58) (v := ?_) (a' := ?_) #[true, true, true, true, true, true, true, true, true, true, true, true, true, false, false, false, false, false] rfl rfl (take_ofW HT_.out HW_.out (by kernel_rfl)) (fun _ _ _ h => h) (Or.inl ⟨by rfl, ?_⟩) hHeld ?_ ?_
               rotate_left
               ·
                rintro w' ⟨s0, s1, s2, s3⟩
                go_simp
                with_reducible rfl
               rotate_left
               ·
                simp only [Act.put, List.setIfInBounds_toArray, List.set_cons_zero, List.set_cons_succ, i64_w, i32_w]
                rfl
               refine take_ (i := 13) (N := some 62) (v := ?_) (a' := ?_) #[true, true, true, true, true, true, true, true, true, true, true, true, true, true, false, false, false, false] rfl rfl (take_ofW HT_.out HW_.out (by kernel_rfl)) (fun _ _ _ h => h) (Or.inl ⟨by rfl, ?_⟩) hHeld ?_ ?_
               rotate_left
               ·
                rintro w' ⟨s0, s1, s2, s3⟩
                go_simp
                with_reducible rfl
               rotate_left
               ·
                simp only [Act.put, List.setIfInBounds_toArray, List.set_cons_zero, List.set_cons_succ, i64_w, i32_w]
                rfl
               refine pure_ (i := 14) (N := some 63) (v := ?_) (a' := ?_) #[true, true, true, true, true, true, true, true, true, true, true, true, true, true, true, false, false, false] rfl rfl (any_of HT_.out (by kernel_rfl)) (fun _ _ _ h => h) (Or.inl ⟨by rfl, ?_⟩) ?_ ?_
               rotate_left; · (intro w'; go_simp; with_reducible rfl)
               rotate_left; · (simp only [Act.put, List.setIfInBounds_toArray, List.set_cons_zero, List.set_cons_succ, i64_w, i32_w]; rfl)
               refine one_ (i := 15) (N := some 64) #[true, true, true, true, true, true, true, true, true, true, true, true, true, true, true, true, false, false] rfl rfl (one_of HT_.out (by kernel_rfl)) (by decide) (fun K hK => ?_)
               refine Kd.R_lit_step (Kd.int .i64) _ 2 ?hg (N := 64) ?hd (xs := ([wrap64 (Int.tdiv a0_0 (rd x6_19 x8_4)), wrap64 (Int.tdiv a0_1 (rd x6_19 x8_4))] : List Int)) (inner := [.int .i64 (wrap64 (Int.tdiv a0_0 (rd x6_19 x8_4))), .int .i64 (wrap64 (Int.tdiv a0_1 (rd x6_19 x8_4)))]) (ok := fun _ => True) (okp := fun _ => True) ?hr ?hp (fun _ hk => hk) trivial (Below.refl _ _) (Nat.le_refl _) (by simp) ?_; (case hd => rfl); (case hg => rfl); (case hr => first | (go_simp; done) | (go_simp; rfl)); (case hp => exact (Reps.one (show Kd.M (Kd.int .i64) _ _ _ (wrap64 (Int.tdiv a0_0 (rd x6_19 x8_4))) [.int .i64 (wrap64 (Int.tdiv a0_0 (rd x6_19 x8_4)))] from rfl) (Reps.one (show Kd.M (Kd.int .i64) _ _ _ (wrap64 (Int.tdiv a0_1 (rd x6_19 x8_4))) [.int .i64 (wrap64 (Int.tdiv a0_1 (rd x6_19 x8_4)))] from rfl) (Reps.none _ _))))
               intro v380 w63 ho64 hb hg_ hnew_
               have HS2_ := (hb.cell (World.block_lt_of_cell? _ _ (hHeld.2.2.1))).trans (hHeld.2.2.1)
               have HS3_ := (hb.cell (World.block_lt_of_cell? _ _ (hHeld.2.2.2))).trans (hHeld.2.2.2)
               clear hg_ hnew_
               (first | rw [← Ny379.out] at ho64 | (simp only [Int.reduceToNat] at ho64; rw [← Ny379.out] at ho64))
               have HO381 := Aside0.mk (Kd.R_lower (Kd.R_new' (Kd.R_new' ho64 (Kd.R_lt (by (with_reducible repeat (first | apply Kd.R_alloc | apply Kd.R_drewN | apply Kd.R_drew)); exact HO_6.out))) (Kd.R_lt (by (with_reducible repeat (first | apply Kd.R_alloc | apply Kd.R_drewN | apply Kd.R_drew)); exact HO_7.out))) (below_size HB.out))
               replace HO_6 := Aside0.mk (Kd.R_elder' (by (with_reducible repeat (first | apply Kd.R_alloc | apply Kd.R_drewN | apply Kd.R_drew)); exact HO_6.out) (Kd.R_base ho64) hb); replace HO_7 := Aside0.mk (Kd.R_elder' (by (with_reducible repeat (first | apply Kd.R_alloc | apply Kd.R_drewN | apply Kd.R_drew)); exact HO_7.out) (Kd.R_base ho64) hb); replace BK359 := bb BK359 hb rfl; replace BK360 := bb BK360 hb rfl; replace BK361 := bb BK361 hb rfl; replace HB := hst HB hb rfl
               clear hb ho64
               obtain ⟨Ao66, co66, eo66⟩ := Kd.R_slice HO381.out
               (first | subst eo66 | (injection eo66 with f1_ f2_ f3_; have f4_ := f1_.symm; have f5_ := f3_.symm; clear f1_ f2_ f3_; subst f4_; subst f5_))
               refine hK.out _ _ ⟨bc BK359 0 rfl, bc BK359 1 rfl, HS2_, HS3_⟩ (fun hHeld => ?_)
               clear hK K
               refine norm_ (a' := ?_) ?_ ?_
               rotate_left; · (show Act.put _ (some 64) _ = _; simp only [Act.put, List.setIfInBounds_toArray, List.set_cons_zero, List.set_cons_succ, i64_w, i32_w]; rfl)
               refine last_ (i := 16) (N := some 65) #[true, true, true, true, true, true, true, true, true, true, true, true, true, true, true, true, true, false] rfl rfl (one_of HT_.out (by kernel_rfl)) (by decide) (fun K hK => ?_)
               refine Kd.R_append_rows_step (Kd.int .i64) (w0 := w) w.heap.size (by rfl) (.tmp 49) (.tmp 64) 65 2 (.int .i64 0) 8 rfl Try.underlying65 info2 rfl (by decide) (by omega) u7 x7_4 y379 _ _ _ (fun k_ => some k_ ≠ (.slice (some ad377) x6_19.length co40 : Value).ownBlock ∧ some k_ ≠ (.slice Ao66 y379.length co66 : Value).ownBlock) (fun _ => False) rfl rfl ?aO ?aR (fun _ _ h => h) (fun _ h => h.elim) ?aF ?aB ?aS ?aL ?_
               (case aR => repeat (first | exact (Kd.R_reads' HO381.out).2.2 | (with_reducible refine Kd.C_alloc ?_ _) | (with_reducible refine Kd.C_drewN ?_ _) | (with_reducible refine Kd.C_drew ?_)))
               (case aB => exact (by repeat (first | (with_reducible first | exact HB.out | apply below_alloc | apply pw_below_drewN | apply below_drew1 | refine below_set ?_ GE359.out | refine below_set ?_ GE360.out | refine below_set ?_ GE361.out) | exact HB.out)))
               (case aF => exact (fun k_ hk => ⟨Kd.fresh' (Kd.R_lt (by (with_reducible repeat (first | apply Kd.R_alloc | apply Kd.R_drewN | apply Kd.R_drew)); exact HO_6.out)) k_ hk, Kd.fresh' (Kd.R_lt (by (with_reducible repeat (first | apply Kd.R_alloc | apply Kd.R_drewN | apply Kd.R_drew)); exact HO381.out)) k_ hk⟩))
               (case aO => exact (by (with_reducible repeat (first | apply Kd.R_alloc | apply Kd.R_drewN | apply Kd.R_drew)); exact HO_7.out))
               (case aS => exact (below_size HB.out))
               (case aL => have := LMc61.out; omega)
               intro v383 w65 ho hb hg hat
               rw [← Ny382.out] at ho
               have HO384 := Aside0.mk (ho)
               replace HO_6 := Aside0.mk (Kd.R_after (ok := (fun k_ => some k_ ≠ (.slice Ao66 y379.length co66 : Value).ownBlock)) (by (with_reducible repeat (first | apply Kd.R_alloc | apply Kd.R_drewN | apply Kd.R_drew)); exact Kd.R_mono HO_6.out (fun _ hk => ⟨hk.2, hk.1⟩)) hg hat); replace BK359 := Aside0.mk (blk_grown (g := gb359) (o := .cells #[.int .i64 a0_0, .int .i64 a0_1] 56 (0, 0)) BK359.out hg (Kd.R_ne HO_7.out BK359.out (by decide))); replace BK360 := Aside0.mk (blk_grown (g := gb360) (o := .cells #[.int .i64 a1_0, .int .i64 a1_1] 56 (0, 0)) BK360.out hg (Kd.R_ne HO_7.out BK360.out (by decide))); replace BK361 := Aside0.mk (blk_grown (g := gb361) (o := .cells #[.int .i64 0, .int .i64 0] 56 (0, 0)) BK361.out hg (Kd.R_ne HO_7.out BK361.out (by decide))); replace HO381 := Aside0.mk (Kd.R_after (ok := (fun k_ => some k_ ≠ (.slice (some ad377) x6_19.length co40 : Value).ownBlock)) (by (with_reducible repeat (first | apply Kd.R_alloc | apply Kd.R_drewN | apply Kd.R_drew)); exact Kd.R_mono HO381.out (fun _ hk => ⟨hk.1.2, hk.2⟩)) hg hat); replace HB := Aside0.mk (hb)
               clear HO_7
               clear ho hb hg hat
               refine hK.out _ _ ?_
               clear hK K
               refine norm_ (a' := ?_) ?_ ?_
               rotate_left; · (show Act.put _ (some 65) _ = _; simp only [Act.put, List.setIfInBounds_toArray, List.set_cons_zero, List.set_cons_succ, i64_w, i32_w]; rfl)
               refine pure_ (i := 17) (N := some 7) (v := ?_) (a' := ?_) #[true, true, true, true, true, true, true, true, true, true, true, true, true, true, true, true, true, true] rfl rfl (any_of HT_.out (by kernel_rfl)) (fun _ _ _ h => h) (Or.inl ⟨by rfl, ?_⟩) ?_ ?_
               rotate_left; · (intro w'; go_simp; with_reducible rfl)
               rotate_left; · (simp only [Act.put, List.setIfInBounds_toArray, List.set_cons_zero, List.set_cons_succ, i64_w, i32_w]; rfl)
               refine done_ (done_of HT_.out (by kernel_rfl)) ?_
               try go_wp2
               go_roundg k4
               case measure => have := HJ2.out; have := HJ19.out; have := HJ38.out; have := HK4.out; omega
               case rel => exact ⟨(y382), (wrap64 (x8_4 + 1)), (by first | rfl | (simp; done) | (simp [*]; done)), H', ⟨by have := HJ2.out; have := HJ19.out; have := HJ38.out; have := HK4.out; omega⟩, ⟨by (with_reducible repeat (first | apply Kd.R_alloc | apply Kd.R_drewN | apply Kd.R_drew)); exact Kd.R_mono HO_6.out (fun _ hk => hk.2)⟩, ⟨by (with_reducible repeat (first | apply Kd.R_alloc | apply Kd.R_drewN | apply Kd.R_drew)); exact Kd.R_mono HO384.out (fun _ hk => hk.1)⟩, ⟨by (with_reducible repeat (first | refine blk_drewN ?_ _ | refine blk_drew ?_ | refine blk_alloc ?_ _)); exact BK359.out⟩, ⟨by (with_reducible repeat (first | refine blk_drewN ?_ _ | refine blk_drew ?_ | refine blk_alloc ?_ _)); exact BK360.out⟩, ⟨by (with_reducible repeat (first | refine blk_drewN ?_ _ | refine blk_drew ?_ | refine blk_alloc ?_ _)); exact BK361.out⟩, ⟨by repeat (first | (with_reducible first | exact HB.out | apply below_alloc | apply pw_below_drewN | apply below_drew1 | refine below_set ?_ GE359.out | refine below_set ?_ GE360.out | refine below_set ?_ GE361.out) | exact HB.out)⟩⟩
              ·
               rw [if_neg c61] at H
               exact absurd H (by simp)
            ·
             rw [if_neg c59] at H
             exact absurd H (by simp)
           ·
            rw [if_neg c58] at H
            have c58b0 : decide (x8_4 < (x6_19.length : Int)) = false := decide_eq_false c58
            clear c58
            replace H := Option.bind_eq_some_iff.mp H
            obtain ⟨⟨t385, t386, t387⟩, A670, H⟩ := H
            (try dsimp only at H)
            have A67 := Aside0.mk A670
            clear A670
            simp only [Option.some.injEq, Prod.mk.injEq] at H
            obtain ⟨rfl, rfl, rfl⟩ := H
            obtain ⟨Ao68, co68, eo68⟩ := Kd.R_slice HO_7.out
            subst eo68
            go_wp2_with (first | ((with_reducible refine gate_callee (f := 76) rfl ?_); refine goesL_ (some 67) rfl rfl Try.func76 (by kernel_rfl) rfl #[.slice Ao68 x7_4.length co68, .bool true] rfl (mapq rfl) ?_; (with_reducible refine (avermentref10_hull.calls k4 _ _ x7_4 true t385 t386 t387 _ ?side1 ?side2 A67.out).mono ?_); (case side1 => repeat (first | exact (Kd.R_reads' HO_7.out).2.2 | (with_reducible refine Kd.C_alloc ?_ _) | (with_reducible refine Kd.C_drewN ?_ _) | (with_reducible refine Kd.C_drew ?_))); (case side2 => exact (Kd.R_reads' HO_7.out).2.1); rintro e w69 ⟨rfl, hb⟩; refine ⟨_, rfl, ?_⟩; replace HO_6 := Aside0.mk (Kd.R_below (by (with_reducible repeat (first | apply Kd.R_alloc | apply Kd.R_drewN | apply Kd.R_drew)); exact HO_6.out) hb); replace HO_7 := Aside0.mk (Kd.R_below (by (with_reducible repeat (first | apply Kd.R_alloc | apply Kd.R_drewN | apply Kd.R_drew)); exact HO_7.out) hb); replace BK359 := bb BK359 hb rfl; replace BK360 := bb BK360 hb rfl; replace BK361 := bb BK361 hb rfl; replace HB := hst HB hb rfl; (try clear hb); have hnb70 := NB361_359.out; have hnc70 := NB359_361.out; have hnb71 := NB361_360.out; have hnc71 := NB360_361.out; obtain ⟨hcz72_0, hcz72_1, hfz72_0, hfz72_1⟩ := c2 BK361))
            refine bodyPost_ret (results_ct rfl _ _ gb361 56 #[.int .i64 t385, .int .i64 t386] (0, 0) _ rfl (by (with_reducible repeat (first | refine blk_drewN ?_ _ | refine blk_drew ?_ | refine blk_alloc ?_ _)); refine blk_put (cs := #[.int .i64 t385, .int .i64 0]) ?_ 1 _ rfl; (with_reducible repeat (first | refine blk_drewN ?_ _ | refine blk_drew ?_ | refine blk_alloc ?_ _)); refine blk_put (cs := #[.int .i64 0, .int .i64 0]) ?_ 0 _ rfl; (with_reducible repeat (first | refine blk_drewN ?_ _ | refine blk_drew ?_ | refine blk_alloc ?_ _)); exact BK361.out) Try.underlying56 rfl (by kernel_rfl)) rfl ?_
            exact ⟨by first | rfl | (simp [*, errW_none, errW_some] <;> rfl), by repeat (first | (with_reducible first | exact HB.out | apply below_alloc | apply pw_below_drewN | apply below_drew1 | refine below_set ?_ GE359.out | refine below_set ?_ GE360.out | refine below_set ?_ GE361.out) | exact HB.out)⟩

/-! ### avermentref10_far: function 89 -/
def avermentref10_far.f (a0_0 : Int) (a0_1 : Int) : Option (Int) := if a0_0 < 0 then (if a0_1 > 0 then (some (mx (wrap64 (-(wrap64 (a0_0 + 1)))) (wrap64 (a0_1 - 1)))) else (some (wrap64 (-(wrap64 (a0_0 + 1)))))) else (if a0_1 > 0 then (some (mx 0 (wrap64 (a0_1 - 1)))) else (some 0))
set_option maxHeartbeats 8000000 in
set_option maxRecDepth 100000 in
theorem avermentref10_far.calls (a0_0 : Int) (a0_1 : Int) (r : Int) (w : World) (h : avermentref10_far.f a0_0 a0_1 = some r) :
  Calls Try.prog 89 #[.agg #[.int .i64 a0_0, .int .i64 a0_1]] w fun e w' => e = .returned (.int .i64 r) ∧ Below w.heap.size w w' := by
 have hu56 := Try.underlying56
 have HB := Aside0.mk (Below.refl w.heap.size w)
 have H : (if a0_0 < 0 then (if a0_1 > 0 then (some (mx (wrap64 (-(wrap64 (a0_0 + 1)))) (wrap64 (a0_1 - 1)))) else (some (wrap64 (-(wrap64 (a0_0 + 1)))))) else (if a0_1 > 0 then (some (mx 0 (wrap64 (a0_1 - 1)))) else (some 0))) = some r := h
 clear h
 by_cases c2 : a0_0 < 0
 ·
  rw [if_pos c2] at H
  have c2b0 : decide (a0_0 < 0) = true := decide_eq_true c2
  clear c2
  by_cases c3 : a0_1 > 0
  ·
   rw [if_pos c3] at H
   have c3b0 : decide (0 < a0_1) = true := decide_eq_true c3
   clear c3
   obtain ⟨ji4, hji4⟩ : ∃ j_ : Int, (mx (wrap64 (-(wrap64 (a0_0 + 1)))) (wrap64 (a0_1 - 1))) = j_ := ⟨_, rfl⟩
   replace H : (some ji4) = some r := by first | (rw [hji4] at H; exact H) | (simp only [hji4] at H ⊢; exact H)
   have hji4_ : (if (wrap64 (-(wrap64 (a0_0 + 1)))) < (wrap64 (a0_1 - 1)) then (wrap64 (a0_1 - 1)) else (wrap64 (-(wrap64 (a0_0 + 1))))) = ji4 := hji4
   obtain rfl := Option.some.inj H
   go_enter Try.func89, Try.ntmps89
   go_wp2_with (first | ((with_reducible refine gate_dst (N := 1) rfl ?_); refine box_event ?hg (N := 1) ?hd (cs := #[.int .i64 a0_0, .int .i64 a0_1]) (t := 56) ?hr ?_; (case hd => rfl); (case hg => rfl); (case hr => first | (go_simp; done) | (go_simp; rfl)); intro gb388 hg w5 hbox hb; have BK388 := Aside0.mk (hbox); have GW388 := geb hg HB rfl; have GE388 := geb hg HB rfl; replace HB := hst HB hb rfl; clear hb hbox hg; obtain ⟨hcz6_0, hcz6_1, hfz6_0, hfz6_1⟩ := c2 BK388))
   go_ret
   exact ⟨by first | rfl | (simp [errW_none, errW_some] <;> rfl) | (simp only [← hji4]; first | rfl | (simp [errW_none, errW_some] <;> rfl)) | (simp [*, errW_none, errW_some] <;> rfl), by repeat (first | (with_reducible first | exact HB.out | apply below_alloc | apply pw_below_drewN | apply below_drew1 | refine below_set ?_ GE388.out) | exact HB.out)⟩
  ·
   rw [if_neg c3] at H
   have c3b0 : decide (0 < a0_1) = false := decide_eq_false c3
   clear c3
   obtain rfl := Option.some.inj H
   go_enter Try.func89, Try.ntmps89
   go_wp2_with (first | ((with_reducible refine gate_dst (N := 1) rfl ?_); refine box_event ?hg (N := 1) ?hd (cs := #[.int .i64 a0_0, .int .i64 a0_1]) (t := 56) ?hr ?_; (case hd => rfl); (case hg => rfl); (case hr => first | (go_simp; done) | (go_simp; rfl)); intro gb388 hg w7 hbox hb; have BK388 := Aside0.mk (hbox); have GW388 := geb hg HB rfl; have GE388 := geb hg HB rfl; replace HB := hst HB hb rfl; clear hb hbox hg; obtain ⟨hcz8_0, hcz8_1, hfz8_0, hfz8_1⟩ := c2 BK388))
   go_ret
   exact ⟨by first | rfl | (simp [*, errW_none, errW_some] <;> rfl), by repeat (first | (with_reducible first | exact HB.out | apply below_alloc | apply pw_below_drewN | apply below_drew1 | refine below_set ?_ GE388.out) | exact HB.out)⟩
 ·
  rw [if_neg c2] at H
  have c2b0 : decide (a0_0 < 0) = false := decide_eq_false c2
  clear c2
  by_cases c9 : a0_1 > 0
  ·
   rw [if_pos c9] at H
   have c9b0 : decide (0 < a0_1) = true := decide_eq_true c9
   clear c9
   obtain ⟨ji10, hji10⟩ : ∃ j_ : Int, (mx 0 (wrap64 (a0_1 - 1))) = j_ := ⟨_, rfl⟩
   replace H : (some ji10) = some r := by first | (rw [hji10] at H; exact H) | (simp only [hji10] at H ⊢; exact H)
   (try (have hji10l : 0 ≤ ji10 := by (rw [← hji10]; unfold mx; (repeat' split) <;> omega)))
   (try (have hji10m : 0 ≤ ji10 := by omega))
   have hji10_ : (if 0 < (wrap64 (a0_1 - 1)) then (wrap64 (a0_1 - 1)) else 0) = ji10 := hji10
   obtain rfl := Option.some.inj H
   go_enter Try.func89, Try.ntmps89
   go_wp2_with (first | ((with_reducible refine gate_dst (N := 1) rfl ?_); refine box_event ?hg (N := 1) ?hd (cs := #[.int .i64 a0_0, .int .i64 a0_1]) (t := 56) ?hr ?_; (case hd => rfl); (case hg => rfl); (case hr => first | (go_simp; done) | (go_simp; rfl)); intro gb388 hg w11 hbox hb; have BK388 := Aside0.mk (hbox); have GW388 := geb hg HB rfl; have GE388 := geb hg HB rfl; replace HB := hst HB hb rfl; clear hb hbox hg; obtain ⟨hcz12_0, hcz12_1, hfz12_0, hfz12_1⟩ := c2 BK388))
   go_ret
   exact ⟨by first | rfl | (simp [errW_none, errW_some] <;> rfl) | (simp only [← hji10]; first | rfl | (simp [errW_none, errW_some] <;> rfl)) | (simp [*, errW_none, errW_some] <;> rfl), by repeat (first | (with_reducible first | exact HB.out | apply below_alloc | apply pw_below_drewN | apply below_drew1 | refine below_set ?_ GE388.out) | exact HB.out)⟩
  ·
   rw [if_neg c9] at H
   have c9b0 : decide (0 < a0_1) = false := decide_eq_false c9
   clear c9
   obtain rfl := Option.some.inj H
   go_enter Try.func89, Try.ntmps89
   go_wp2_with (first | ((with_reducible refine gate_dst (N := 1) rfl ?_); refine box_event ?hg (N := 1) ?hd (cs := #[.int .i64 a0_0, .int .i64 a0_1]) (t := 56) ?hr ?_; (case hd => rfl); (case hg => rfl); (case hr => first | (go_simp; done) | (go_simp; rfl)); intro gb388 hg w13 hbox hb; have BK388 := Aside0.mk (hbox); have GW388 := geb hg HB rfl; have GE388 := geb hg HB rfl; replace HB := hst HB hb rfl; clear hb hbox hg; obtain ⟨hcz14_0, hcz14_1, hfz14_0, hfz14_1⟩ := c2 BK388))
   go_ret
   exact ⟨by first | rfl | (simp [*, errW_none, errW_some] <;> rfl), by repeat (first | (with_reducible first | exact HB.out | apply below_alloc | apply pw_below_drewN | apply below_drew1 | refine below_set ?_ GE388.out) | exact HB.out)⟩

end Go.Proofs.Ytpacmhhaabhdjaa.SM
