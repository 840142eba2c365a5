-- Written by a program of this session: plain functions and their walks. Lean checks it.
import Derived.Test.YtpacmhhaabhdjaaSM0
import Derived.Test.YtpacmhhaabhdjaaSM8
import Derived.Test.YtpacmhhaabhdjaaSM11
namespace Go.Proofs.Ytpacmhhaabhdjaa.SM
open Go.RowKit Go.Proofs.YtpacmhhaabhdjaaW.PrintWords Go.Proofs.YtpacmhhaabhdjaaW.PrintLast Go.Proofs.YtpacmhhaabhdjaaW.PrintMore
attribute [local go_sem] max2_int min2_int max_two min_two max_three min_three max_four min_four   -- for this text's walks alone
set_option linter.unusedVariables false
set_option linter.unusedSimpArgs false

/-! ### avermentref10_xor: function 82 -/
mutual
def avermentref10_xor.j0 : Nat → Bool → Int → Int → Int → Int → Option (Int × Int)
 | 0, _, _, _, _, _ => none
 | k + 1, x12, x398000, x398001, x399000, x399001 => if x12 = true then ((avermentref10_Ones.f k (mx x398001 x399001)).bind fun t400 => (some (0, t400))) else (if x398001 < 0 then (avermentref10_xor.j1 k (decide (x399001 < 0)) x398000 x398001 x399000 x399001) else (avermentref10_xor.j1 k false x398000 x398001 x399000 x399001))
def avermentref10_xor.j1 : Nat → Bool → Int → Int → Int → Int → Option (Int × Int)
 | 0, _, _, _, _, _ => none
 | k + 1, x27, x398000, x398001, x399000, x399001 => if x27 = true then ((avermentref10_Ones.f k (mx (wrap64 ((-1) - x398000)) (wrap64 ((-1) - x399000)))).bind fun t401 => (some (0, t401))) else (if x398001 < 0 then (avermentref10_xor.j2 k (decide (x399000 ≥ 0)) x398000 x398001 x399000 x399001) else (avermentref10_xor.j2 k false x398000 x398001 x399000 x399001))
def avermentref10_xor.j2 : Nat → Bool → Int → Int → Int → Int → Option (Int × Int)
 | 0, _, _, _, _, _ => none
 | k + 1, x44, x398000, x398001, x399000, x399001 => if x44 = true then ((avermentref10_Ones.f k (mx (wrap64 ((-1) - x398000)) x399001)).bind fun t402 => (some (wrap64 ((-1) - t402), (-1)))) else (if x398000 ≥ 0 then (avermentref10_xor.j3 k (decide (x399001 < 0)) x398000 x398001 x399000 x399001) else (avermentref10_xor.j3 k false x398000 x398001 x399000 x399001))
def avermentref10_xor.j3 : Nat → Bool → Int → Int → Int → Int → Option (Int × Int)
 | 0, _, _, _, _, _ => none
 | k + 1, x61, x398000, x398001, x399000, x399001 => if x61 = true then ((avermentref10_Ones.f k (mx x398001 (wrap64 ((-1) - x399000)))).bind fun t403 => (some (wrap64 ((-1) - t403), (-1)))) else ((avermentref10_Any.f).bind fun bt404 => (some (bt404.1, bt404.2)))
end
def avermentref10_xor.f (k : Nat) (a0_0 : Int) (a0_1 : Int) (a1_0 : Int) (a1_1 : Int) : Option (Int × Int) := if a0_0 ≥ 0 then (avermentref10_xor.j0 k (decide (a1_0 ≥ 0)) a0_0 a0_1 a1_0 a1_1) else (avermentref10_xor.j0 k false a0_0 a0_1 a1_0 a1_1)
theorem avermentref10_xor.mono_l : ∀ k, (∀ y0 y1 y2 y3 y4, LeO (avermentref10_xor.j0 k y0 y1 y2 y3 y4) (avermentref10_xor.j0 (k + 1) y0 y1 y2 y3 y4)) ∧ (∀ y0 y1 y2 y3 y4, LeO (avermentref10_xor.j1 k y0 y1 y2 y3 y4) (avermentref10_xor.j1 (k + 1) y0 y1 y2 y3 y4)) ∧ (∀ y0 y1 y2 y3 y4, LeO (avermentref10_xor.j2 k y0 y1 y2 y3 y4) (avermentref10_xor.j2 (k + 1) y0 y1 y2 y3 y4)) ∧ (∀ y0 y1 y2 y3 y4, LeO (avermentref10_xor.j3 k y0 y1 y2 y3 y4) (avermentref10_xor.j3 (k + 1) y0 y1 y2 y3 y4))
 | 0 => ⟨fun _ _ _ _ _ r h => by simp [avermentref10_xor.j0] at h, fun _ _ _ _ _ r h => by simp [avermentref10_xor.j1] at h, fun _ _ _ _ _ r h => by simp [avermentref10_xor.j2] at h, fun _ _ _ _ _ r h => by simp [avermentref10_xor.j3] at h⟩
 | k + 1 => by
  obtain ⟨ih0, ih1, ih2, ih3⟩ := avermentref10_xor.mono_l k
  refine ⟨?_, ?_, ?_, ?_⟩
  ·
   intro y0 y1 y2 y3 y4
   unfold avermentref10_xor.j0
   repeat' first
   | (with_reducible exact ih0 _ _ _ _ _)
   | (with_reducible exact ih1 _ _ _ _ _)
   | (with_reducible exact ih2 _ _ _ _ _)
   | (with_reducible exact ih3 _ _ _ _ _)
   | (with_reducible exact avermentref10_Ones.mono _ _)
   | (with_reducible exact LeO.refl _)
   | (with_reducible exact LeO.none _)
   | (with_reducible refine LeO.ite ?_ ?_)
   | (with_reducible refine LeO.bind ?_ (fun _ => ?_))
   | exact ih0 _ _ _ _ _
   | exact ih1 _ _ _ _ _
   | exact ih2 _ _ _ _ _
   | exact ih3 _ _ _ _ _
   | exact avermentref10_Ones.mono _ _
   | exact LeO.none _
   | refine LeO.ite ?_ ?_
   | refine LeO.bind ?_ (fun _ => ?_)
  ·
   intro y0 y1 y2 y3 y4
   unfold avermentref10_xor.j1
   repeat' first
   | (with_reducible exact ih0 _ _ _ _ _)
   | (with_reducible exact ih1 _ _ _ _ _)
   | (with_reducible exact ih2 _ _ _ _ _)
   | (with_reducible exact ih3 _ _ _ _ _)
   | (with_reducible exact avermentref10_Ones.mono _ _)
   | (with_reducible exact LeO.refl _)
   | (with_reducible exact LeO.none _)
   | (with_reducible refine LeO.ite ?_ ?_)
   | (with_reducible refine LeO.bind ?_ (fun _ => ?_))
   | exact ih0 _ _ _ _ _
   | exact ih1 _ _ _ _ _
   | exact ih2 _ _ _ _ _
   | exact ih3 _ _ _ _ _
   | exact avermentref10_Ones.mono _ _
   | exact LeO.none _
   | refine LeO.ite ?_ ?_
   | refine LeO.bind ?_ (fun _ => ?_)
  ·
   intro y0 y1 y2 y3 y4
   unfold avermentref10_xor.j2
   repeat' first
   | (with_reducible exact ih0 _ _ _ _ _)
   | (with_reducible exact ih1 _ _ _ _ _)
   | (with_reducible exact ih2 _ _ _ _ _)
   | (with_reducible exact ih3 _ _ _ _ _)
   | (with_reducible exact avermentref10_Ones.mono _ _)
   | (with_reducible exact LeO.refl _)
   | (with_reducible exact LeO.none _)
   | (with_reducible refine LeO.ite ?_ ?_)
   | (with_reducible refine LeO.bind ?_ (fun _ => ?_))
   | exact ih0 _ _ _ _ _
   | exact ih1 _ _ _ _ _
   | exact ih2 _ _ _ _ _
   | exact ih3 _ _ _ _ _
   | exact avermentref10_Ones.mono _ _
   | exact LeO.none _
   | refine LeO.ite ?_ ?_
   | refine LeO.bind ?_ (fun _ => ?_)
  ·
   intro y0 y1 y2 y3 y4
   unfold avermentref10_xor.j3
   repeat' first
   | (with_reducible exact ih0 _ _ _ _ _)
   | (with_reducible exact ih1 _ _ _ _ _)
   | (with_reducible exact ih2 _ _ _ _ _)
   | (with_reducible exact ih3 _ _ _ _ _)
   | (with_reducible exact avermentref10_Ones.mono _ _)
   | (with_reducible exact LeO.refl _)
   | (with_reducible exact LeO.none _)
   | (with_reducible refine LeO.ite ?_ ?_)
   | (with_reducible refine LeO.bind ?_ (fun _ => ?_))
   | exact ih0 _ _ _ _ _
   | exact ih1 _ _ _ _ _
   | exact ih2 _ _ _ _ _
   | exact ih3 _ _ _ _ _
   | exact avermentref10_Ones.mono _ _
   | exact LeO.none _
   | refine LeO.ite ?_ ?_
   | refine LeO.bind ?_ (fun _ => ?_)
theorem avermentref10_xor.mono : ∀ a0 a1 a2 a3 k, LeO (avermentref10_xor.f k a0 a1 a2 a3) (avermentref10_xor.f (k + 1) a0 a1 a2 a3) := by
 intro a0 a1 a2 a3 k
 obtain ⟨ih0, ih1, ih2, ih3⟩ := avermentref10_xor.mono_l k
 unfold avermentref10_xor.f
 repeat' first
   | (with_reducible exact ih0 _ _ _ _ _)
   | (with_reducible exact ih1 _ _ _ _ _)
   | (with_reducible exact ih2 _ _ _ _ _)
   | (with_reducible exact ih3 _ _ _ _ _)
   | (with_reducible exact avermentref10_Ones.mono _ _)
   | (with_reducible exact LeO.refl _)
   | (with_reducible exact LeO.none _)
   | (with_reducible refine LeO.ite ?_ ?_)
   | (with_reducible refine LeO.bind ?_ (fun _ => ?_))
   | exact ih0 _ _ _ _ _
   | exact ih1 _ _ _ _ _
   | exact ih2 _ _ _ _ _
   | exact ih3 _ _ _ _ _
   | exact avermentref10_Ones.mono _ _
   | exact LeO.none _
   | refine LeO.ite ?_ ?_
   | refine LeO.bind ?_ (fun _ => ?_)
set_option maxHeartbeats 8000000 in
set_option maxRecDepth 100000 in
theorem avermentref10_xor.calls (k : Nat) (a0_0 : Int) (a0_1 : Int) (a1_0 : Int) (a1_1 : Int) (r1 : Int) (r2 : Int) (w : World) (h : avermentref10_xor.f k a0_0 a0_1 a1_0 a1_1 = some (r1, r2)) :
  Calls Try.prog 82 #[.agg #[.int .i64 a0_0, .int .i64 a0_1], .agg #[.int .i64 a1_0, .int .i64 a1_1]] w fun e w' => e = .returned (.agg #[.int .i64 r1, .int .i64 r2]) ∧ Below w.heap.size w w' := by
 have hu56 := Try.underlying56
 have HB := Aside0.mk (Below.refl w.heap.size w)
 have H : (if a0_0 ≥ 0 then (avermentref10_xor.j0 k (decide (a1_0 ≥ 0)) a0_0 a0_1 a1_0 a1_1) else (avermentref10_xor.j0 k false a0_0 a0_1 a1_0 a1_1)) = some (r1, r2) := h
 clear h
 have HC3 := Aside0.mk H
 clear H
 go_enter Try.func82, Try.ntmps82
 go_upto_region 1 with (first | ((with_reducible refine gate_dst (N := 2) rfl ?_); refine box_event ?hg (N := 2) ?hd (cs := #[.int .i64 a0_0, .int .i64 a0_1]) (t := 56) ?hr ?_; (case hd => rfl); (case hg => rfl); (case hr => first | (go_simp; done) | (go_simp; rfl)); intro gb397 hg w4 hbox hb; have BK397 := Aside0.mk (hbox); have GW397 := geb hg HB rfl; have GE397 := geb hg HB rfl; replace HB := hst HB hb rfl; clear hb hbox hg) | ((with_reducible refine gate_dst (N := 3) rfl ?_); refine box_event ?hg (N := 3) ?hd (cs := #[.int .i64 a1_0, .int .i64 a1_1]) (t := 56) ?hr ?_; (case hd => rfl); (case hg => rfl); (case hr => first | (go_simp; done) | (go_simp; rfl)); intro gb398 hg w5 hbox hb; have BK398 := Aside0.mk (hbox); have GW398 := geb hg HB rfl; have GE398 := geb hg HB rfl; have NB397_398 := nbl hg BK397 rfl; have NB398_397 := nbr hg BK397 rfl; replace BK397 := bb BK397 hb rfl; replace HB := hst HB hb rfl; clear hb hbox hg) | ((with_reducible refine gate_dst (N := 4) rfl ?_); refine box_event ?hg (N := 4) ?hd (cs := #[.int .i64 0, .int .i64 0]) (t := 56) ?hr ?_; (case hd => rfl); (case hg => rfl); (case hr => first | (go_simp; done) | (go_simp; rfl)); intro gb399 hg w6 hbox hb; have BK399 := Aside0.mk (hbox); have GW399 := geb hg HB rfl; have GE399 := geb hg HB rfl; have NB397_399 := nbl hg BK397 rfl; have NB399_397 := nbr hg BK397 rfl; have NB398_399 := nbl hg BK398 rfl; have NB399_398 := nbr hg BK398 rfl; replace BK397 := bb BK397 hb rfl; replace BK398 := bb BK398 hb rfl; replace HB := hst HB hb rfl; clear hb hbox hg))
 (try simp only [Act.put, List.setIfInBounds_toArray, List.set_cons_zero, List.set_cons_succ])
 go_cut [12] (fun v12 wc => ∃ (kq : Nat) (x12_2 : Bool), v12 = .bool x12_2 ∧ Aside0 (avermentref10_xor.j0 kq x12_2 a0_0 a0_1 a1_0 a1_1 = some (r1, r2)) ∧ Aside0 (kq ≤ k) ∧ Aside0 (wc.heap[gb397]? = some (.cells #[.int .i64 a0_0, .int .i64 a0_1] 56 (0, 0))) ∧ Aside0 (wc.heap[gb398]? = some (.cells #[.int .i64 a1_0, .int .i64 a1_1] 56 (0, 0))) ∧ Aside0 (wc.heap[gb399]? = some (.cells #[.int .i64 0, .int .i64 0] 56 (0, 0))) ∧ Aside0 (Below w.heap.size w wc))
 case first =>
  have H := HC3.out
  clear HC3
  by_cases c7 : a0_0 ≥ 0
  ·
   rw [if_pos c7] at H
   have c7b0 : decide (0 ≤ a0_0) = true := decide_eq_true c7
   clear c7
   (first | rw [c7b0] | (simp only [i64_w, i32_w]; rw [c7b0]) | skip)
   have H' := Aside0.mk H
   clear H
   have hnb8 := NB397_398.out
   have hnc8 := NB398_397.out
   have hnb9 := NB397_399.out
   have hnc9 := NB399_397.out
   obtain ⟨hcz10_0, hcz10_1, hfz10_0, hfz10_1⟩ := c2 BK397
   have hnb11 := NB398_399.out
   have hnc11 := NB399_398.out
   obtain ⟨hcz12_0, hcz12_1, hfz12_0, hfz12_1⟩ := c2 BK398
   go_wp2
   go_meet
   case rel => exact ⟨_, (decide (a1_0 ≥ 0)), (by first | rfl | (simp; done) | (simp [*]; done)), H', ⟨by first | omega | exact Nat.le_refl _⟩, ⟨by (with_reducible repeat (first | refine blk_drewN ?_ _ | refine blk_drew ?_ | refine blk_alloc ?_ _)); exact BK397.out⟩, ⟨by (with_reducible repeat (first | refine blk_drewN ?_ _ | refine blk_drew ?_ | refine blk_alloc ?_ _)); exact BK398.out⟩, ⟨by (with_reducible repeat (first | refine blk_drewN ?_ _ | refine blk_drew ?_ | refine blk_alloc ?_ _)); exact BK399.out⟩, ⟨by repeat (first | (with_reducible first | exact HB.out | apply below_alloc | apply pw_below_drewN | apply below_drew1 | refine below_set ?_ GE397.out | refine below_set ?_ GE398.out | refine below_set ?_ GE399.out) | exact HB.out)⟩⟩
  ·
   rw [if_neg c7] at H
   have c7b0 : decide (0 ≤ a0_0) = false := decide_eq_false c7
   clear c7
   (first | rw [c7b0] | (simp only [i64_w, i32_w]; rw [c7b0]) | skip)
   have H' := Aside0.mk H
   clear H
   have hnb13 := NB397_398.out
   have hnc13 := NB398_397.out
   have hnb14 := NB397_399.out
   have hnc14 := NB399_397.out
   obtain ⟨hcz15_0, hcz15_1, hfz15_0, hfz15_1⟩ := c2 BK397
   go_wp2
   go_meet
   case rel => exact ⟨_, (false), (by first | rfl | (simp; done) | (simp [*]; done)), H', ⟨by first | omega | exact Nat.le_refl _⟩, ⟨by (with_reducible repeat (first | refine blk_drewN ?_ _ | refine blk_drew ?_ | refine blk_alloc ?_ _)); exact BK397.out⟩, ⟨by (with_reducible repeat (first | refine blk_drewN ?_ _ | refine blk_drew ?_ | refine blk_alloc ?_ _)); exact BK398.out⟩, ⟨by (with_reducible repeat (first | refine blk_drewN ?_ _ | refine blk_drew ?_ | refine blk_alloc ?_ _)); exact BK399.out⟩, ⟨by repeat (first | (with_reducible first | exact HB.out | apply below_alloc | apply pw_below_drewN | apply below_drew1 | refine below_set ?_ GE397.out | refine below_set ?_ GE398.out | refine below_set ?_ GE399.out) | exact HB.out)⟩⟩
 case rest =>
  clear HC3
  try clear c1
  try clear p2
  try clear c7
  try clear c7b0
  try clear c8
  try clear c9
  try clear c11
  try clear c13
  try clear c14
  try clear hcz10_0
  try clear hcz10_1
  try clear hcz12_0
  try clear hcz12_1
  try clear hcz15_0
  try clear hcz15_1
  try clear hfz10_0
  try clear hfz10_1
  try clear hfz12_0
  try clear hfz12_1
  try clear hfz15_0
  try clear hfz15_1
  obtain ⟨kq, x12_2, rfl, HA, HJ2, BK397, BK398, BK399, HB⟩ := hcut
  cases kq with
  | zero => exact absurd HA.out (by simp [avermentref10_xor.j0])
  | succ kj2 =>
   have H := HA.out
   clear HA
   simp only [avermentref10_xor.j0] at H
   by_cases c16 : x12_2 = true
   ·
    subst c16
    rw [if_pos rfl] at H
    obtain ⟨ji17, hji17⟩ : ∃ j_ : Int, (mx a0_1 a1_1) = j_ := ⟨_, rfl⟩
    replace H : ((avermentref10_Ones.f kj2 (ji17)).bind fun t400 => (some (0, t400))) = some (r1, r2) := by first | (rw [hji17] at H; exact H) | (simp only [hji17] at H ⊢; exact H)
    have hji17_ : (if a0_1 < a1_1 then a1_1 else a0_1) = ji17 := hji17
    replace H := Option.bind_eq_some_iff.mp H
    obtain ⟨t400, A180, H⟩ := H
    (try dsimp only at H)
    have A18 := Aside0.mk A180
    clear A180
    simp only [Option.some.injEq, Prod.mk.injEq] at H
    obtain ⟨rfl, rfl⟩ := H
    have hnb19 := NB397_398.out
    have hnc19 := NB398_397.out
    have hnb20 := NB397_399.out
    have hnc20 := NB399_397.out
    obtain ⟨hcz21_0, hcz21_1, hfz21_0, hfz21_1⟩ := c2 BK397
    have hnb22 := NB398_399.out
    have hnc22 := NB399_398.out
    obtain ⟨hcz23_0, hcz23_1, hfz23_0, hfz23_1⟩ := c2 BK398
    go_wp2_with (first | ((with_reducible refine gate_callee (f := 90) rfl ?_); refine goesL_ (some 18) rfl rfl Try.func90 (by kernel_rfl) rfl #[.int .i64 ji17] rfl (by (try simp only [List.map_toArray, List.map_cons, List.map_nil]); first | done | (simp only [hji17]; rfl) | rfl | (simp only [List.length_drop, List.length_take]; rfl)) ?_; (with_reducible refine (avermentref10_Ones.calls kj2 ji17 t400 _ A18.out).mono ?_); rintro e w' ⟨rfl, ⟨nd, rfl⟩⟩; refine ⟨_, rfl, ?_⟩; (try (rw [drewN_self wc]; generalize hq_ : World.drewN wc _ = wc; replace BK397 := dk BK397 hq_; replace BK398 := dk BK398 hq_; replace BK399 := dk BK399 hq_; replace HB := dh HB hq_; clear hq_)); obtain ⟨hcz24_0, hcz24_1, hfz24_0, hfz24_1⟩ := c2 BK399))
    refine bodyPost_ret (results_cell_row rfl _ _ gb399 56 #[.int .i64 0, .int .i64 t400] (0, 0) _ rfl (by (with_reducible repeat (first | refine blk_drewN ?_ _ | refine blk_drew ?_ | refine blk_alloc ?_ _)); refine blk_put (cs := #[.int .i64 0, .int .i64 0]) ?_ 1 _ rfl; (with_reducible repeat (first | refine blk_drewN ?_ _ | refine blk_drew ?_ | refine blk_alloc ?_ _)); refine blk_put (cs := #[.int .i64 0, .int .i64 0]) ?_ 0 _ rfl; (with_reducible repeat (first | refine blk_drewN ?_ _ | refine blk_drew ?_ | refine blk_alloc ?_ _)); exact BK399.out) Try.underlying56 rfl (by kernel_rfl)) rfl ?_
    exact ⟨by first | rfl | (simp [errW_none, errW_some] <;> rfl) | (simp only [← hji17]; first | rfl | (simp [errW_none, errW_some] <;> rfl)) | (simp [*, errW_none, errW_some] <;> rfl), by repeat (first | (with_reducible first | exact HB.out | apply below_alloc | apply pw_below_drewN | apply below_drew1 | refine below_set ?_ GE397.out | refine below_set ?_ GE398.out | refine below_set ?_ GE399.out) | exact HB.out)⟩
   ·
    replace c16 := Bool.eq_false_iff.mpr c16
    subst c16
    rw [if_neg (show ¬ (false = true) by decide)] at H
    have HC25 := Aside0.mk H
    clear H
    go_upto_region 3 with (fail)
    go_cut [27] (fun v27 wc => ∃ (kq : Nat) (x27_24 : Bool), v27 = .bool x27_24 ∧ Aside0 (avermentref10_xor.j1 kq x27_24 a0_0 a0_1 a1_0 a1_1 = some (r1, r2)) ∧ Aside0 (kq ≤ kj2) ∧ Aside0 (wc.heap[gb397]? = some (.cells #[.int .i64 a0_0, .int .i64 a0_1] 56 (0, 0))) ∧ Aside0 (wc.heap[gb398]? = some (.cells #[.int .i64 a1_0, .int .i64 a1_1] 56 (0, 0))) ∧ Aside0 (wc.heap[gb399]? = some (.cells #[.int .i64 0, .int .i64 0] 56 (0, 0))) ∧ Aside0 (Below w.heap.size w wc))
    case first =>
     have H := HC25.out
     clear HC25
     by_cases c26 : a0_1 < 0
     ·
      rw [if_pos c26] at H
      have c26b0 : decide (a0_1 < 0) = true := decide_eq_true c26
      clear c26
      (first | rw [c26b0] | (simp only [i64_w, i32_w]; rw [c26b0]) | skip)
      have H' := Aside0.mk H
      clear H
      have hnb27 := NB397_398.out
      have hnc27 := NB398_397.out
      have hnb28 := NB397_399.out
      have hnc28 := NB399_397.out
      obtain ⟨hcz29_0, hcz29_1, hfz29_0, hfz29_1⟩ := c2 BK397
      have hnb30 := NB398_399.out
      have hnc30 := NB399_398.out
      obtain ⟨hcz31_0, hcz31_1, hfz31_0, hfz31_1⟩ := c2 BK398
      go_wp2
      go_meet
      case rel => exact ⟨_, (decide (a1_1 < 0)), (by first | rfl | (simp; done) | (simp [*]; done)), H', ⟨by have := HJ2.out; first | omega | exact Nat.le_refl _⟩, ⟨by (with_reducible repeat (first | refine blk_drewN ?_ _ | refine blk_drew ?_ | refine blk_alloc ?_ _)); exact BK397.out⟩, ⟨by (with_reducible repeat (first | refine blk_drewN ?_ _ | refine blk_drew ?_ | refine blk_alloc ?_ _)); exact BK398.out⟩, ⟨by (with_reducible repeat (first | refine blk_drewN ?_ _ | refine blk_drew ?_ | refine blk_alloc ?_ _)); exact BK399.out⟩, ⟨by repeat (first | (with_reducible first | exact HB.out | apply below_alloc | apply pw_below_drewN | apply below_drew1 | refine below_set ?_ GE397.out | refine below_set ?_ GE398.out | refine below_set ?_ GE399.out) | exact HB.out)⟩⟩
     ·
      rw [if_neg c26] at H
      have c26b0 : decide (a0_1 < 0) = false := decide_eq_false c26
      clear c26
      (first | rw [c26b0] | (simp only [i64_w, i32_w]; rw [c26b0]) | skip)
      have H' := Aside0.mk H
      clear H
      have hnb32 := NB397_398.out
      have hnc32 := NB398_397.out
      have hnb33 := NB397_399.out
      have hnc33 := NB399_397.out
      obtain ⟨hcz34_0, hcz34_1, hfz34_0, hfz34_1⟩ := c2 BK397
      go_wp2
      go_meet
      case rel => exact ⟨_, (false), (by first | rfl | (simp; done) | (simp [*]; done)), H', ⟨by have := HJ2.out; first | omega | exact Nat.le_refl _⟩, ⟨by (with_reducible repeat (first | refine blk_drewN ?_ _ | refine blk_drew ?_ | refine blk_alloc ?_ _)); exact BK397.out⟩, ⟨by (with_reducible repeat (first | refine blk_drewN ?_ _ | refine blk_drew ?_ | refine blk_alloc ?_ _)); exact BK398.out⟩, ⟨by (with_reducible repeat (first | refine blk_drewN ?_ _ | refine blk_drew ?_ | refine blk_alloc ?_ _)); exact BK399.out⟩, ⟨by repeat (first | (with_reducible first | exact HB.out | apply below_alloc | apply pw_below_drewN | apply below_drew1 | refine below_set ?_ GE397.out | refine below_set ?_ GE398.out | refine below_set ?_ GE399.out) | exact HB.out)⟩⟩
    case rest =>
     clear HC25
     try clear c1
     try clear c2
     try clear p2
     try clear c3
     try clear c7
     try clear c7b0
     try clear c8
     try clear c9
     try clear c11
     try clear c13
     try clear c14
     try clear c16
     try clear c19
     try clear c20
     try clear c22
     try clear c26
     try clear c26b0
     try clear c27
     try clear c28
     try clear c30
     try clear c32
     try clear c33
     try clear hcz10_0
     try clear hcz10_1
     try clear hcz12_0
     try clear hcz12_1
     try clear hcz15_0
     try clear hcz15_1
     try clear hcz21_0
     try clear hcz21_1
     try clear hcz23_0
     try clear hcz23_1
     try clear hcz24_0
     try clear hcz24_1
     try clear hcz29_0
     try clear hcz29_1
     try clear hcz31_0
     try clear hcz31_1
     try clear hcz34_0
     try clear hcz34_1
     try clear hfz10_0
     try clear hfz10_1
     try clear hfz12_0
     try clear hfz12_1
     try clear hfz15_0
     try clear hfz15_1
     try clear hfz21_0
     try clear hfz21_1
     try clear hfz23_0
     try clear hfz23_1
     try clear hfz24_0
     try clear hfz24_1
     try clear hfz29_0
     try clear hfz29_1
     try clear hfz31_0
     try clear hfz31_1
     try clear hfz34_0
     try clear hfz34_1
     try clear p2
     obtain ⟨kq, x27_24, rfl, HA, HJ24, BK397, BK398, BK399, HB⟩ := hcut
     cases kq with
     | zero => exact absurd HA.out (by simp [avermentref10_xor.j1])
     | succ kj24 =>
      have H := HA.out
      clear HA
      simp only [avermentref10_xor.j1] at H
      by_cases c35 : x27_24 = true
      ·
       subst c35
       rw [if_pos rfl] at H
       obtain ⟨ji36, hji36⟩ : ∃ j_ : Int, (mx (wrap64 ((-1) - a0_0)) (wrap64 ((-1) - a1_0))) = j_ := ⟨_, rfl⟩
       replace H : ((avermentref10_Ones.f kj24 (ji36)).bind fun t401 => (some (0, t401))) = some (r1, r2) := by first | (rw [hji36] at H; exact H) | (simp only [hji36] at H ⊢; exact H)
       have hji36_ : (if (wrap64 ((-1) - a0_0)) < (wrap64 ((-1) - a1_0)) then (wrap64 ((-1) - a1_0)) else (wrap64 ((-1) - a0_0))) = ji36 := hji36
       replace H := Option.bind_eq_some_iff.mp H
       obtain ⟨t401, A370, H⟩ := H
       (try dsimp only at H)
       have A37 := Aside0.mk A370
       clear A370
       simp only [Option.some.injEq, Prod.mk.injEq] at H
       obtain ⟨rfl, rfl⟩ := H
       have hnb38 := NB397_398.out
       have hnc38 := NB398_397.out
       have hnb39 := NB397_399.out
       have hnc39 := NB399_397.out
       obtain ⟨hcz40_0, hcz40_1, hfz40_0, hfz40_1⟩ := c2 BK397
       have hnb41 := NB398_399.out
       have hnc41 := NB399_398.out
       obtain ⟨hcz42_0, hcz42_1, hfz42_0, hfz42_1⟩ := c2 BK398
       go_wp2_with (first | ((with_reducible refine gate_callee (f := 90) rfl ?_); refine goesL_ (some 35) rfl rfl Try.func90 (by kernel_rfl) rfl #[.int .i64 ji36] rfl (by (try simp only [List.map_toArray, List.map_cons, List.map_nil]); first | done | (simp only [hji36]; rfl) | rfl | (simp only [List.length_drop, List.length_take]; rfl)) ?_; (with_reducible refine (avermentref10_Ones.calls kj24 ji36 t401 _ A37.out).mono ?_); rintro e w' ⟨rfl, ⟨nd, rfl⟩⟩; refine ⟨_, rfl, ?_⟩; (try (rw [drewN_self wc]; generalize hq_ : World.drewN wc _ = wc; replace BK397 := dk BK397 hq_; replace BK398 := dk BK398 hq_; replace BK399 := dk BK399 hq_; replace HB := dh HB hq_; clear hq_)); obtain ⟨hcz43_0, hcz43_1, hfz43_0, hfz43_1⟩ := c2 BK399))
       refine bodyPost_ret (results_cell_row rfl _ _ gb399 56 #[.int .i64 0, .int .i64 t401] (0, 0) _ rfl (by (with_reducible repeat (first | refine blk_drewN ?_ _ | refine blk_drew ?_ | refine blk_alloc ?_ _)); refine blk_put (cs := #[.int .i64 0, .int .i64 0]) ?_ 1 _ rfl; (with_reducible repeat (first | refine blk_drewN ?_ _ | refine blk_drew ?_ | refine blk_alloc ?_ _)); refine blk_put (cs := #[.int .i64 0, .int .i64 0]) ?_ 0 _ rfl; (with_reducible repeat (first | refine blk_drewN ?_ _ | refine blk_drew ?_ | refine blk_alloc ?_ _)); exact BK399.out) Try.underlying56 rfl (by kernel_rfl)) rfl ?_
       exact ⟨by first | rfl | (simp [errW_none, errW_some] <;> rfl) | (simp only [← hji36]; first | rfl | (simp [errW_none, errW_some] <;> rfl)) | (simp [*, errW_none, errW_some] <;> rfl), by repeat (first | (with_reducible first | exact HB.out | apply below_alloc | apply pw_below_drewN | apply below_drew1 | refine below_set ?_ GE397.out | refine below_set ?_ GE398.out | refine below_set ?_ GE399.out) | exact HB.out)⟩
      ·
       replace c35 := Bool.eq_false_iff.mpr c35
       subst c35
       rw [if_neg (show ¬ (false = true) by decide)] at H
       have HC44 := Aside0.mk H
       clear H
       go_upto_region 5 with (fail)
       go_cut [44] (fun v44 wc => ∃ (kq : Nat) (x44_43 : Bool), v44 = .bool x44_43 ∧ Aside0 (avermentref10_xor.j2 kq x44_43 a0_0 a0_1 a1_0 a1_1 = some (r1, r2)) ∧ Aside0 (kq ≤ kj24) ∧ Aside0 (wc.heap[gb397]? = some (.cells #[.int .i64 a0_0, .int .i64 a0_1] 56 (0, 0))) ∧ Aside0 (wc.heap[gb398]? = some (.cells #[.int .i64 a1_0, .int .i64 a1_1] 56 (0, 0))) ∧ Aside0 (wc.heap[gb399]? = some (.cells #[.int .i64 0, .int .i64 0] 56 (0, 0))) ∧ Aside0 (Below w.heap.size w wc))
       case first =>
        have H := HC44.out
        clear HC44
        by_cases c45 : a0_1 < 0
        ·
         rw [if_pos c45] at H
         have c45b0 : decide (a0_1 < 0) = true := decide_eq_true c45
         clear c45
         (first | rw [c45b0] | (simp only [i64_w, i32_w]; rw [c45b0]) | skip)
         have H' := Aside0.mk H
         clear H
         have hnb46 := NB397_398.out
         have hnc46 := NB398_397.out
         have hnb47 := NB397_399.out
         have hnc47 := NB399_397.out
         obtain ⟨hcz48_0, hcz48_1, hfz48_0, hfz48_1⟩ := c2 BK397
         have hnb49 := NB398_399.out
         have hnc49 := NB399_398.out
         obtain ⟨hcz50_0, hcz50_1, hfz50_0, hfz50_1⟩ := c2 BK398
         go_wp2
         go_meet
         case rel => exact ⟨_, (decide (a1_0 ≥ 0)), (by first | rfl | (simp; done) | (simp [*]; done)), H', ⟨by have := HJ2.out; have := HJ24.out; first | omega | exact Nat.le_refl _⟩, ⟨by (with_reducible repeat (first | refine blk_drewN ?_ _ | refine blk_drew ?_ | refine blk_alloc ?_ _)); exact BK397.out⟩, ⟨by (with_reducible repeat (first | refine blk_drewN ?_ _ | refine blk_drew ?_ | refine blk_alloc ?_ _)); exact BK398.out⟩, ⟨by (with_reducible repeat (first | refine blk_drewN ?_ _ | refine blk_drew ?_ | refine blk_alloc ?_ _)); exact BK399.out⟩, ⟨by repeat (first | (with_reducible first | exact HB.out | apply below_alloc | apply pw_below_drewN | apply below_drew1 | refine below_set ?_ GE397.out | refine below_set ?_ GE398.out | refine below_set ?_ GE399.out) | exact HB.out)⟩⟩
        ·
         rw [if_neg c45] at H
         have c45b0 : decide (a0_1 < 0) = false := decide_eq_false c45
         clear c45
         (first | rw [c45b0] | (simp only [i64_w, i32_w]; rw [c45b0]) | skip)
         have H' := Aside0.mk H
         clear H
         have hnb51 := NB397_398.out
         have hnc51 := NB398_397.out
         have hnb52 := NB397_399.out
         have hnc52 := NB399_397.out
         obtain ⟨hcz53_0, hcz53_1, hfz53_0, hfz53_1⟩ := c2 BK397
         go_wp2
         go_meet
         case rel => exact ⟨_, (false), (by first | rfl | (simp; done) | (simp [*]; done)), H', ⟨by have := HJ2.out; have := HJ24.out; first | omega | exact Nat.le_refl _⟩, ⟨by (with_reducible repeat (first | refine blk_drewN ?_ _ | refine blk_drew ?_ | refine blk_alloc ?_ _)); exact BK397.out⟩, ⟨by (with_reducible repeat (first | refine blk_drewN ?_ _ | refine blk_drew ?_ | refine blk_alloc ?_ _)); exact BK398.out⟩, ⟨by (with_reducible repeat (first | refine blk_drewN ?_ _ | refine blk_drew ?_ | refine blk_alloc ?_ _)); exact BK399.out⟩, ⟨by repeat (first | (with_reducible first | exact HB.out | apply below_alloc | apply pw_below_drewN | apply below_drew1 | refine below_set ?_ GE397.out | refine below_set ?_ GE398.out | refine below_set ?_ GE399.out) | exact HB.out)⟩⟩
       case rest =>
        clear HC44
        try clear c1
        try clear c2
        try clear p2
        try clear c3
        try clear c4
        try clear c5
        try clear p6
        try clear c7
        try clear c7b0
        try clear c8
        try clear c9
        try clear c11
        try clear c13
        try clear c14
        try clear c16
        try clear c19
        try clear c20
        try clear c22
        try clear c26
        try clear c26b0
        try clear c27
        try clear c28
        try clear c30
        try clear c32
        try clear c33
        try clear c35
        try clear c38
        try clear c39
        try clear c41
        try clear c45
        try clear c45b0
        try clear c46
        try clear c47
        try clear c49
        try clear c51
        try clear c52
        try clear hcz10_0
        try clear hcz10_1
        try clear hcz12_0
        try clear hcz12_1
        try clear hcz15_0
        try clear hcz15_1
        try clear hcz21_0
        try clear hcz21_1
        try clear hcz23_0
        try clear hcz23_1
        try clear hcz24_0
        try clear hcz24_1
        try clear hcz29_0
        try clear hcz29_1
        try clear hcz31_0
        try clear hcz31_1
        try clear hcz34_0
        try clear hcz34_1
        try clear hcz40_0
        try clear hcz40_1
        try clear hcz42_0
        try clear hcz42_1
        try clear hcz43_0
        try clear hcz43_1
        try clear hcz48_0
        try clear hcz48_1
        try clear hcz50_0
        try clear hcz50_1
        try clear hcz53_0
        try clear hcz53_1
        try clear hfz10_0
        try clear hfz10_1
        try clear hfz12_0
        try clear hfz12_1
        try clear hfz15_0
        try clear hfz15_1
        try clear hfz21_0
        try clear hfz21_1
        try clear hfz23_0
        try clear hfz23_1
        try clear hfz24_0
        try clear hfz24_1
        try clear hfz29_0
        try clear hfz29_1
        try clear hfz31_0
        try clear hfz31_1
        try clear hfz34_0
        try clear hfz34_1
        try clear hfz40_0
        try clear hfz40_1
        try clear hfz42_0
        try clear hfz42_1
        try clear hfz43_0
        try clear hfz43_1
        try clear hfz48_0
        try clear hfz48_1
        try clear hfz50_0
        try clear hfz50_1
        try clear hfz53_0
        try clear hfz53_1
        try clear p2
        obtain ⟨kq, x44_43, rfl, HA, HJ43, BK397, BK398, BK399, HB⟩ := hcut
        cases kq with
        | zero => exact absurd HA.out (by simp [avermentref10_xor.j2])
        | succ kj43 =>
         have H := HA.out
         clear HA
         simp only [avermentref10_xor.j2] at H
         by_cases c54 : x44_43 = true
         ·
          subst c54
          rw [if_pos rfl] at H
          obtain ⟨ji55, hji55⟩ : ∃ j_ : Int, (mx (wrap64 ((-1) - a0_0)) a1_1) = j_ := ⟨_, rfl⟩
          replace H : ((avermentref10_Ones.f kj43 (ji55)).bind fun t402 => (some (wrap64 ((-1) - t402), (-1)))) = some (r1, r2) := by first | (rw [hji55] at H; exact H) | (simp only [hji55] at H ⊢; exact H)
          have hji55_ : (if (wrap64 ((-1) - a0_0)) < a1_1 then a1_1 else (wrap64 ((-1) - a0_0))) = ji55 := hji55
          replace H := Option.bind_eq_some_iff.mp H
          obtain ⟨t402, A560, H⟩ := H
          (try dsimp only at H)
          have A56 := Aside0.mk A560
          clear A560
          simp only [Option.some.injEq, Prod.mk.injEq] at H
          obtain ⟨rfl, rfl⟩ := H
          have hnb57 := NB397_398.out
          have hnc57 := NB398_397.out
          have hnb58 := NB397_399.out
          have hnc58 := NB399_397.out
          obtain ⟨hcz59_0, hcz59_1, hfz59_0, hfz59_1⟩ := c2 BK397
          have hnb60 := NB398_399.out
          have hnc60 := NB399_398.out
          obtain ⟨hcz61_0, hcz61_1, hfz61_0, hfz61_1⟩ := c2 BK398
          go_wp2_with (first | ((with_reducible refine gate_callee (f := 90) rfl ?_); refine goesL_ (some 51) rfl rfl Try.func90 (by kernel_rfl) rfl #[.int .i64 ji55] rfl (by (try simp only [List.map_toArray, List.map_cons, List.map_nil]); first | done | (simp only [hji55]; rfl) | rfl | (simp only [List.length_drop, List.length_take]; rfl)) ?_; (with_reducible refine (avermentref10_Ones.calls kj43 ji55 t402 _ A56.out).mono ?_); rintro e w' ⟨rfl, ⟨nd, rfl⟩⟩; refine ⟨_, rfl, ?_⟩; (try (rw [drewN_self wc]; generalize hq_ : World.drewN wc _ = wc; replace BK397 := dk BK397 hq_; replace BK398 := dk BK398 hq_; replace BK399 := dk BK399 hq_; replace HB := dh HB hq_; clear hq_)); obtain ⟨hcz62_0, hcz62_1, hfz62_0, hfz62_1⟩ := c2 BK399))
          refine bodyPost_ret (results_cell_row rfl _ _ gb399 56 #[.int .i64 (wrap64 ((-1) - t402)), .int .i64 (-1)] (0, 0) _ rfl (by (with_reducible repeat (first | refine blk_drewN ?_ _ | refine blk_drew ?_ | refine blk_alloc ?_ _)); refine blk_put (cs := #[.int .i64 (wrap64 ((-1) - t402)), .int .i64 0]) ?_ 1 _ rfl; (with_reducible repeat (first | refine blk_drewN ?_ _ | refine blk_drew ?_ | refine blk_alloc ?_ _)); refine blk_put (cs := #[.int .i64 0, .int .i64 0]) ?_ 0 _ rfl; (with_reducible repeat (first | refine blk_drewN ?_ _ | refine blk_drew ?_ | refine blk_alloc ?_ _)); exact BK399.out) Try.underlying56 rfl (by kernel_rfl)) rfl ?_
          exact ⟨by first | rfl | (simp [errW_none, errW_some] <;> rfl) | (simp only [← hji55]; first | rfl | (simp [errW_none, errW_some] <;> rfl)) | (simp [*, errW_none, errW_some] <;> rfl), by repeat (first | (with_reducible first | exact HB.out | apply below_alloc | apply pw_below_drewN | apply below_drew1 | refine below_set ?_ GE397.out | refine below_set ?_ GE398.out | refine below_set ?_ GE399.out) | exact HB.out)⟩
         ·
          replace c54 := Bool.eq_false_iff.mpr c54
          subst c54
          rw [if_neg (show ¬ (false = true) by decide)] at H
          have HC63 := Aside0.mk H
          clear H
          go_upto_region 7 with (fail)
          go_cut [61] (fun v61 wc => ∃ (kq : Nat) (x61_62 : Bool), v61 = .bool x61_62 ∧ Aside0 (avermentref10_xor.j3 kq x61_62 a0_0 a0_1 a1_0 a1_1 = some (r1, r2)) ∧ Aside0 (kq ≤ kj43) ∧ Aside0 (wc.heap[gb397]? = some (.cells #[.int .i64 a0_0, .int .i64 a0_1] 56 (0, 0))) ∧ Aside0 (wc.heap[gb398]? = some (.cells #[.int .i64 a1_0, .int .i64 a1_1] 56 (0, 0))) ∧ Aside0 (wc.heap[gb399]? = some (.cells #[.int .i64 0, .int .i64 0] 56 (0, 0))) ∧ Aside0 (Below w.heap.size w wc))
          case first =>
           have H := HC63.out
           clear HC63
           by_cases c64 : a0_0 ≥ 0
           ·
            rw [if_pos c64] at H
            have c64b0 : decide (0 ≤ a0_0) = true := decide_eq_true c64
            clear c64
            (first | rw [c64b0] | (simp only [i64_w, i32_w]; rw [c64b0]) | skip)
            have H' := Aside0.mk H
            clear H
            have hnb65 := NB397_398.out
            have hnc65 := NB398_397.out
            have hnb66 := NB397_399.out
            have hnc66 := NB399_397.out
            obtain ⟨hcz67_0, hcz67_1, hfz67_0, hfz67_1⟩ := c2 BK397
            have hnb68 := NB398_399.out
            have hnc68 := NB399_398.out
            obtain ⟨hcz69_0, hcz69_1, hfz69_0, hfz69_1⟩ := c2 BK398
            go_wp2
            go_meet
            case rel => exact ⟨_, (decide (a1_1 < 0)), (by first | rfl | (simp; done) | (simp [*]; done)), H', ⟨by have := HJ2.out; have := HJ24.out; have := HJ43.out; first | omega | exact Nat.le_refl _⟩, ⟨by (with_reducible repeat (first | refine blk_drewN ?_ _ | refine blk_drew ?_ | refine blk_alloc ?_ _)); exact BK397.out⟩, ⟨by (with_reducible repeat (first | refine blk_drewN ?_ _ | refine blk_drew ?_ | refine blk_alloc ?_ _)); exact BK398.out⟩, ⟨by (with_reducible repeat (first | refine blk_drewN ?_ _ | refine blk_drew ?_ | refine blk_alloc ?_ _)); exact BK399.out⟩, ⟨by repeat (first | (with_reducible first | exact HB.out | apply below_alloc | apply pw_below_drewN | apply below_drew1 | refine below_set ?_ GE397.out | refine below_set ?_ GE398.out | refine below_set ?_ GE399.out) | exact HB.out)⟩⟩
           ·
            rw [if_neg c64] at H
            have c64b0 : decide (0 ≤ a0_0) = false := decide_eq_false c64
            clear c64
            (first | rw [c64b0] | (simp only [i64_w, i32_w]; rw [c64b0]) | skip)
            have H' := Aside0.mk H
            clear H
            have hnb70 := NB397_398.out
            have hnc70 := NB398_397.out
            have hnb71 := NB397_399.out
            have hnc71 := NB399_397.out
            obtain ⟨hcz72_0, hcz72_1, hfz72_0, hfz72_1⟩ := c2 BK397
            go_wp2
            go_meet
            case rel => exact ⟨_, (false), (by first | rfl | (simp; done) | (simp [*]; done)), H', ⟨by have := HJ2.out; have := HJ24.out; have := HJ43.out; first | omega | exact Nat.le_refl _⟩, ⟨by (with_reducible repeat (first | refine blk_drewN ?_ _ | refine blk_drew ?_ | refine blk_alloc ?_ _)); exact BK397.out⟩, ⟨by (with_reducible repeat (first | refine blk_drewN ?_ _ | refine blk_drew ?_ | refine blk_alloc ?_ _)); exact BK398.out⟩, ⟨by (with_reducible repeat (first | refine blk_drewN ?_ _ | refine blk_drew ?_ | refine blk_alloc ?_ _)); exact BK399.out⟩, ⟨by repeat (first | (with_reducible first | exact HB.out | apply below_alloc | apply pw_below_drewN | apply below_drew1 | refine below_set ?_ GE397.out | refine below_set ?_ GE398.out | refine below_set ?_ GE399.out) | exact HB.out)⟩⟩
          case rest =>
           clear HC63
           try clear c1
           try clear c2
           try clear p2
           try clear c3
           try clear c4
           try clear c5
           try clear c6
           try clear p6
           try clear c7
           try clear c7b0
           try clear c8
           try clear c9
           try clear c11
           try clear c13
           try clear c14
           try clear c16
           try clear c19
           try clear c20
           try clear c22
           try clear c26
           try clear c26b0
           try clear c27
           try clear c28
           try clear c30
           try clear c32
           try clear c33
           try clear c35
           try clear c38
           try clear c39
           try clear c41
           try clear c45
           try clear c45b0
           try clear c46
           try clear c47
           try clear c49
           try clear c51
           try clear c52
           try clear c54
           try clear c57
           try clear c58
           try clear c60
           try clear c64
           try clear c64b0
           try clear p64
           try clear c65
           try clear c66
           try clear c68
           try clear c70
           try clear c71
           try clear hcz10_0
           try clear hcz10_1
           try clear hcz12_0
           try clear hcz12_1
           try clear hcz15_0
           try clear hcz15_1
           try clear hcz21_0
           try clear hcz21_1
           try clear hcz23_0
           try clear hcz23_1
           try clear hcz24_0
           try clear hcz24_1
           try clear hcz29_0
           try clear hcz29_1
           try clear hcz31_0
           try clear hcz31_1
           try clear hcz34_0
           try clear hcz34_1
           try clear hcz40_0
           try clear hcz40_1
           try clear hcz42_0
           try clear hcz42_1
           try clear hcz43_0
           try clear hcz43_1
           try clear hcz48_0
           try clear hcz48_1
           try clear hcz50_0
           try clear hcz50_1
           try clear hcz53_0
           try clear hcz53_1
           try clear hcz59_0
           try clear hcz59_1
           try clear hcz61_0
           try clear hcz61_1
           try clear hcz62_0
           try clear hcz62_1
           try clear hcz67_0
           try clear hcz67_1
           try clear hcz69_0
           try clear hcz69_1
           try clear hcz72_0
           try clear hcz72_1
           try clear hfz10_0
           try clear hfz10_1
           try clear hfz12_0
           try clear hfz12_1
           try clear hfz15_0
           try clear hfz15_1
           try clear hfz21_0
           try clear hfz21_1
           try clear hfz23_0
           try clear hfz23_1
           try clear hfz24_0
           try clear hfz24_1
           try clear hfz29_0
           try clear hfz29_1
           try clear hfz31_0
           try clear hfz31_1
           try clear hfz34_0
           try clear hfz34_1
           try clear hfz40_0
           try clear hfz40_1
           try clear hfz42_0
           try clear hfz42_1
           try clear hfz43_0
           try clear hfz43_1
           try clear hfz48_0
           try clear hfz48_1
           try clear hfz50_0
           try clear hfz50_1
           try clear hfz53_0
           try clear hfz53_1
           try clear hfz59_0
           try clear hfz59_1
           try clear hfz61_0
           try clear hfz61_1
           try clear hfz62_0
           try clear hfz62_1
           try clear hfz67_0
           try clear hfz67_1
           try clear hfz69_0
           try clear hfz69_1
           try clear hfz72_0
           try clear hfz72_1
           try clear p2
           try clear p6
           obtain ⟨kq, x61_62, rfl, HA, HJ62, BK397, BK398, BK399, HB⟩ := hcut
           cases kq with
           | zero => exact absurd HA.out (by simp [avermentref10_xor.j3])
           | succ kj62 =>
            have H := HA.out
            clear HA
            simp only [avermentref10_xor.j3] at H
            by_cases c73 : x61_62 = true
            ·
             subst c73
             rw [if_pos rfl] at H
             obtain ⟨ji74, hji74⟩ : ∃ j_ : Int, (mx a0_1 (wrap64 ((-1) - a1_0))) = j_ := ⟨_, rfl⟩
             replace H : ((avermentref10_Ones.f kj62 (ji74)).bind fun t403 => (some (wrap64 ((-1) - t403), (-1)))) = some (r1, r2) := by first | (rw [hji74] at H; exact H) | (simp only [hji74] at H ⊢; exact H)
             have hji74_ : (if a0_1 < (wrap64 ((-1) - a1_0)) then (wrap64 ((-1) - a1_0)) else a0_1) = ji74 := hji74
             replace H := Option.bind_eq_some_iff.mp H
             obtain ⟨t403, A750, H⟩ := H
             (try dsimp only at H)
             have A75 := Aside0.mk A750
             clear A750
             simp only [Option.some.injEq, Prod.mk.injEq] at H
             obtain ⟨rfl, rfl⟩ := H
             have hnb76 := NB397_398.out
             have hnc76 := NB398_397.out
             have hnb77 := NB397_399.out
             have hnc77 := NB399_397.out
             obtain ⟨hcz78_0, hcz78_1, hfz78_0, hfz78_1⟩ := c2 BK397
             have hnb79 := NB398_399.out
             have hnc79 := NB399_398.out
             obtain ⟨hcz80_0, hcz80_1, hfz80_0, hfz80_1⟩ := c2 BK398
             go_wp2_with (first | ((with_reducible refine gate_callee (f := 90) rfl ?_); refine goesL_ (some 68) rfl rfl Try.func90 (by kernel_rfl) rfl #[.int .i64 ji74] rfl (by (try simp only [List.map_toArray, List.map_cons, List.map_nil]); first | done | (simp only [hji74]; rfl) | rfl | (simp only [List.length_drop, List.length_take]; rfl)) ?_; (with_reducible refine (avermentref10_Ones.calls kj62 ji74 t403 _ A75.out).mono ?_); rintro e w' ⟨rfl, ⟨nd, rfl⟩⟩; refine ⟨_, rfl, ?_⟩; (try (rw [drewN_self wc]; generalize hq_ : World.drewN wc _ = wc; replace BK397 := dk BK397 hq_; replace BK398 := dk BK398 hq_; replace BK399 := dk BK399 hq_; replace HB := dh HB hq_; clear hq_)); obtain ⟨hcz81_0, hcz81_1, hfz81_0, hfz81_1⟩ := c2 BK399))
             refine bodyPost_ret (results_cell_row rfl _ _ gb399 56 #[.int .i64 (wrap64 ((-1) - t403)), .int .i64 (-1)] (0, 0) _ rfl (by (with_reducible repeat (first | refine blk_drewN ?_ _ | refine blk_drew ?_ | refine blk_alloc ?_ _)); refine blk_put (cs := #[.int .i64 (wrap64 ((-1) - t403)), .int .i64 0]) ?_ 1 _ rfl; (with_reducible repeat (first | refine blk_drewN ?_ _ | refine blk_drew ?_ | refine blk_alloc ?_ _)); refine blk_put (cs := #[.int .i64 0, .int .i64 0]) ?_ 0 _ rfl; (with_reducible repeat (first | refine blk_drewN ?_ _ | refine blk_drew ?_ | refine blk_alloc ?_ _)); exact BK399.out) Try.underlying56 rfl (by kernel_rfl)) rfl ?_
             exact ⟨by first | rfl | (simp [errW_none, errW_some] <;> rfl) | (simp only [← hji74]; first | rfl | (simp [errW_none, errW_some] <;> rfl)) | (simp [*, errW_none, errW_some] <;> rfl), by repeat (first | (with_reducible first | exact HB.out | apply below_alloc | apply pw_below_drewN | apply below_drew1 | refine below_set ?_ GE397.out | refine below_set ?_ GE398.out | refine below_set ?_ GE399.out) | exact HB.out)⟩
            ·
             replace c73 := Bool.eq_false_iff.mpr c73
             subst c73
             rw [if_neg (show ¬ (false = true) by decide)] at H
             replace H := Option.bind_eq_some_iff.mp H
             obtain ⟨⟨t404, t405⟩, A820, H⟩ := H
             (try dsimp only at H)
             have A82 := Aside0.mk A820
             clear A820
             simp only [Option.some.injEq, Prod.mk.injEq] at H
             obtain ⟨rfl, rfl⟩ := H
             go_wp2_with (first | ((with_reducible refine gate_callee (f := 40) rfl ?_); refine goesL_ (some 71) rfl rfl Try.func40 (by kernel_rfl) rfl #[] rfl (mapq rfl) ?_; (with_reducible refine (avermentref10_Any.calls  t404 t405 _ A82.out).mono ?_); rintro e w83 ⟨rfl, hb⟩; refine ⟨_, rfl, ?_⟩; replace BK397 := bb BK397 hb rfl; replace BK398 := bb BK398 hb rfl; replace BK399 := bb BK399 hb rfl; replace HB := hst HB hb rfl; (try clear hb); have hnb84 := NB399_397.out; have hnc84 := NB397_399.out; have hnb85 := NB399_398.out; have hnc85 := NB398_399.out; obtain ⟨hcz86_0, hcz86_1, hfz86_0, hfz86_1⟩ := c2 BK399))
             refine bodyPost_ret (results_cell_row rfl _ _ gb399 56 #[.int .i64 t404, .int .i64 t405] (0, 0) _ rfl (by (with_reducible repeat (first | refine blk_drewN ?_ _ | refine blk_drew ?_ | refine blk_alloc ?_ _)); refine blk_put (cs := #[.int .i64 t404, .int .i64 0]) ?_ 1 _ rfl; (with_reducible repeat (first | refine blk_drewN ?_ _ | refine blk_drew ?_ | refine blk_alloc ?_ _)); refine blk_put (cs := #[.int .i64 0, .int .i64 0]) ?_ 0 _ rfl; (with_reducible repeat (first | refine blk_drewN ?_ _ | refine blk_drew ?_ | refine blk_alloc ?_ _)); exact BK399.out) Try.underlying56 rfl (by kernel_rfl)) rfl ?_
             exact ⟨by first | rfl | (simp [*, errW_none, errW_some] <;> rfl), by repeat (first | (with_reducible first | exact HB.out | apply below_alloc | apply pw_below_drewN | apply below_drew1 | refine below_set ?_ GE397.out | refine below_set ?_ GE398.out | refine below_set ?_ GE399.out) | exact HB.out)⟩

end Go.Proofs.Ytpacmhhaabhdjaa.SM
