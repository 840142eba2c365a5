-- Written by a program of this session: plain functions and their walks. Lean checks it.
import Derived.Test.YtpacmhhaabhdjaaSM0
import Derived.Test.YtpacmhhaabhdjaaSM2
import Derived.Test.YtpacmhhaabhdjaaSM3
namespace Go.Proofs.Ytpacmhhaabhdjaa.SM
open Go.RowKit Go.Proofs.YtpacmhhaabhdjaaW.PrintWords Go.Proofs.YtpacmhhaabhdjaaW.PrintLast Go.Proofs.YtpacmhhaabhdjaaW.PrintMore
attribute [local go_sem] max2_int min2_int max_two min_two max_three min_three max_four min_four   -- for this text's walks alone
set_option linter.unusedVariables false
set_option linter.unusedSimpArgs false

attribute [local go_sem high] eqA59
/-! ### span_One: function 54 -/
mutual
def span_One.j0 : Nat → Int → Bool → Int → Int → Option (Int × Int × Bool)
 | 0, _, _, _, _ => none
 | k + 1, x0, x6, x335000, x335001 => if x6 = true then (some (x335000, x335001, true)) else (if x0 = 3 then (span_One.j1 k x0 (x335000 == (-9223372036854775808)) x335000 x335001) else (span_One.j1 k x0 false x335000 x335001))
def span_One.j1 : Nat → Int → Bool → Int → Int → Option (Int × Int × Bool)
 | 0, _, _, _, _ => none
 | k + 1, x0, x17, x335000, x335001 => if x17 = true then ((span_Any.f).bind fun bt338 => (some (bt338.1, bt338.2, true))) else (if x0 = 3 then (some (wrap64 (-x335001), wrap64 (-x335000), true)) else (some (0, 0, false)))
end
def span_One.f (k : Nat) (a0 : Int) (a1_0 : Int) (a1_1 : Int) : Option (Int × Int × Bool) := if a0 = 2 then (span_One.j0 k a0 (a0 == 2) a1_0 a1_1) else (if a0 = 3 then ((span_Of.f (-9223372036854775808)).bind fun bt336 => (span_One.j0 k a0 (a1_0 == bt336.1 && (a1_1 == bt336.2)) a1_0 a1_1)) else (span_One.j0 k a0 false a1_0 a1_1))
theorem span_One.mono_l : ∀ k, (∀ y0 y1 y2 y3, LeO (span_One.j0 k y0 y1 y2 y3) (span_One.j0 (k + 1) y0 y1 y2 y3)) ∧ (∀ y0 y1 y2 y3, LeO (span_One.j1 k y0 y1 y2 y3) (span_One.j1 (k + 1) y0 y1 y2 y3))
 | 0 => ⟨fun _ _ _ _ r h => by simp [span_One.j0] at h, fun _ _ _ _ r h => by simp [span_One.j1] at h⟩
 | k + 1 => by
  obtain ⟨ih0, ih1⟩ := span_One.mono_l k
  refine ⟨?_, ?_⟩
  ·
   intro y0 y1 y2 y3
   unfold span_One.j0
   repeat' first
   | (with_reducible exact ih0 _ _ _ _)
   | (with_reducible exact ih1 _ _ _ _)
   | (with_reducible exact LeO.refl _)
   | (with_reducible exact LeO.none _)
   | (with_reducible refine LeO.ite ?_ ?_)
   | (with_reducible refine LeO.bind ?_ (fun _ => ?_))
   | exact ih0 _ _ _ _
   | exact ih1 _ _ _ _
   | exact LeO.none _
   | refine LeO.ite ?_ ?_
   | refine LeO.bind ?_ (fun _ => ?_)
  ·
   intro y0 y1 y2 y3
   unfold span_One.j1
   repeat' first
   | (with_reducible exact ih0 _ _ _ _)
   | (with_reducible exact ih1 _ _ _ _)
   | (with_reducible exact LeO.refl _)
   | (with_reducible exact LeO.none _)
   | (with_reducible refine LeO.ite ?_ ?_)
   | (with_reducible refine LeO.bind ?_ (fun _ => ?_))
   | exact ih0 _ _ _ _
   | exact ih1 _ _ _ _
   | exact LeO.none _
   | refine LeO.ite ?_ ?_
   | refine LeO.bind ?_ (fun _ => ?_)
theorem span_One.mono : ∀ a0 a1 a2 k, LeO (span_One.f k a0 a1 a2) (span_One.f (k + 1) a0 a1 a2) := by
 intro a0 a1 a2 k
 obtain ⟨ih0, ih1⟩ := span_One.mono_l k
 unfold span_One.f
 repeat' first
   | (with_reducible exact ih0 _ _ _ _)
   | (with_reducible exact ih1 _ _ _ _)
   | (with_reducible exact LeO.refl _)
   | (with_reducible exact LeO.none _)
   | (with_reducible refine LeO.ite ?_ ?_)
   | (with_reducible refine LeO.bind ?_ (fun _ => ?_))
   | exact ih0 _ _ _ _
   | exact ih1 _ _ _ _
   | exact LeO.none _
   | refine LeO.ite ?_ ?_
   | refine LeO.bind ?_ (fun _ => ?_)
def span_One.T2 : Bool × List (List Nat × List Nat) := (true, [([], []), ([0], [0]), ([1], [1]), ([2], [2]), ([2, 2], [2]), ([3, 4, 2], [2, 3, 4]), ([2, 5], [2, 5]), ([6, 4], [6])])
def span_One.B2 : List Nat := [0, 1, 3, 7, 7, 31, 63, 127]
theorem span_One.tab2 : rtab .any (opsOf Try.f54 2) = span_One.T2 := by kernel_rfl
theorem span_One.bits2 : waitsOk span_One.T2.2 span_One.B2 = true := by kernel_rfl
set_option maxHeartbeats 8000000 in
set_option maxRecDepth 100000 in
theorem span_One.calls (k : Nat) (a0 : Int) (a1_0 : Int) (a1_1 : Int) (r1 : Int) (r2 : Int) (r3 : Bool) (w : World) (h : span_One.f k a0 a1_0 a1_1 = some (r1, r2, r3)) :
  Calls Try.prog 54 #[.int .i64 a0, .agg #[.int .i64 a1_0, .int .i64 a1_1]] w fun e w' => e = .returned (.tuple #[.agg #[.int .i64 r1, .int .i64 r2], .bool r3]) ∧ Below w.heap.size w w' := by
 have hu59 := Try.underlying59
 have HB := Aside0.mk (Below.refl w.heap.size w)
 have H : (if a0 = 2 then (span_One.j0 k a0 (a0 == 2) a1_0 a1_1) else (if a0 = 3 then ((span_Of.f (-9223372036854775808)).bind fun bt336 => (span_One.j0 k a0 (a1_0 == bt336.1 && (a1_1 == bt336.2)) a1_0 a1_1)) else (span_One.j0 k a0 false a1_0 a1_1))) = some (r1, r2, r3) := h
 clear h
 have HC3 := Aside0.mk H
 clear H
 go_enter Try.func54, Try.ntmps54
 go_upto_if 6 with (first | ((with_reducible refine gate_dst (N := 3) rfl ?_); refine box_event ?hg (N := 3) ?hd (cs := #[.int .i64 a1_0, .int .i64 a1_1]) (t := 59) ?hr ?_; (case hd => rfl); (case hg => rfl); (case hr => first | (go_simp; done) | (go_simp; rfl)); intro gb334 hg w4 hbox hb; have BK334 := Aside0.mk (hbox); have GW334 := geb hg HB rfl; have GE334 := geb hg HB rfl; replace HB := hst HB hb rfl; clear hb hbox hg) | ((with_reducible refine gate_dst (N := 4) rfl ?_); refine box_event ?hg (N := 4) ?hd (cs := #[.int .i64 0, .int .i64 0]) (t := 59) ?hr ?_; (case hd => rfl); (case hg => rfl); (case hr => first | (go_simp; done) | (go_simp; rfl)); intro gb335 hg w5 hbox hb; have BK335 := Aside0.mk (hbox); have GW335 := geb hg HB rfl; have GE335 := geb hg HB rfl; have NB334_335 := nbl hg BK334 rfl; have NB335_334 := nbr hg BK334 rfl; replace BK334 := bb BK334 hb rfl; replace HB := hst HB hb rfl; clear hb hbox hg))
 (try simp only [Act.put, List.setIfInBounds_toArray, List.set_cons_zero, List.set_cons_succ])
 go_cut [6] (fun v6 wc => ∃ (kq : Nat) (x6_2 : Bool), v6 = .bool x6_2 ∧ Aside0 (span_One.j0 kq a0 x6_2 a1_0 a1_1 = some (r1, r2, r3)) ∧ Aside0 (kq ≤ k) ∧ Aside0 (wc.heap[gb334]? = some (.cells #[.int .i64 a1_0, .int .i64 a1_1] 59 (0, 0))) ∧ Aside0 (wc.heap[gb335]? = some (.cells #[.int .i64 0, .int .i64 0] 59 (0, 0))) ∧ Aside0 (Below w.heap.size w wc))
 case first =>
  have H := HC3.out
  clear HC3
  by_cases c6 : a0 = 2
  ·
   rw [if_pos c6] at H
   have c6b0 : (a0 == 2) = true := beq_iff_eq.mpr c6
   have c6b1 : (a0 != 2) = false := bne_eq_false_iff_eq.mpr c6
   clear c6
   (first | rw [c6b0] | (simp only [i64_w, i32_w]; rw [c6b0]) | skip)
   have H' := Aside0.mk H
   clear H
   go_wp2
   go_meet
   case rel => exact ⟨_, ((a0 == 2)), (by first | rfl | (simp; done) | (simp [*]; done)), H', ⟨by first | omega | exact Nat.le_refl _⟩, ⟨by (with_reducible repeat (first | refine blk_drewN ?_ _ | refine blk_drew ?_ | refine blk_alloc ?_ _)); exact BK334.out⟩, ⟨by (with_reducible repeat (first | refine blk_drewN ?_ _ | refine blk_drew ?_ | refine blk_alloc ?_ _)); exact BK335.out⟩, ⟨by repeat (first | (with_reducible first | exact HB.out | apply below_alloc | apply pw_below_drewN | apply below_drew1 | refine below_set ?_ GE334.out | refine below_set ?_ GE335.out) | exact HB.out)⟩⟩
  ·
   rw [if_neg c6] at H
   have c6b0 : (a0 == 2) = false := beq_eq_false_iff_ne.mpr c6
   have c6b1 : (a0 != 2) = true := bne_iff_ne.mpr c6
   (first | rw [c6b0] | (simp only [i64_w, i32_w]; rw [c6b0]) | skip)
   by_cases c7 : a0 = 3
   ·
    rw [if_pos c7] at H
    have c7b0 : (a0 == 3) = true := beq_iff_eq.mpr c7
    have c7b1 : (a0 != 3) = false := bne_eq_false_iff_eq.mpr c7
    clear c7
    replace H := Option.bind_eq_some_iff.mp H
    obtain ⟨⟨t336, t337⟩, A80, H⟩ := H
    (try dsimp only at H)
    have A8 := Aside0.mk A80
    clear A80
    have H' := Aside0.mk H
    clear H
    try go_wp2
    replace BK334 := Aside0.mk (blk_drew BK334.out); replace BK335 := Aside0.mk (blk_drew BK335.out); replace HB := Aside0.mk (below_drew1 HB.out)
    refine start_ (n := 8) (S := fun w' => w'.cell? ⟨gb334, 0, none⟩ = some (.int .i64 a1_0) ∧ w'.cell? ⟨gb334, 1, none⟩ = some (.int .i64 a1_1)) (ds := []) #[false, false, false, false, false, false, false, false] (by kernel_rfl) rfl rfl ⟨bc BK334 0 rfl, bc BK334 1 rfl⟩ (fun hHeld => ?_); refine with_tabW span_One.tab2 span_One.bits2 (fun HT_ HW_ => ?_)
    generalize w5.drew = w9 at BK334 BK335 HB hHeld ⊢
    refine pure_ (i := 0) (N := some 9) (v := ?_) (a' := ?_) #[true, false, false, false, false, false, false, false] rfl rfl (any_of HT_.out (by kernel_rfl)) (fun _ _ _ h => h) (Or.inl ⟨by rfl, ?_⟩) ?_ ?_
    rotate_left; · (intro w'; go_simp; with_reducible rfl)
    rotate_left; · (simp only [Act.put, List.setIfInBounds_toArray, List.set_cons_zero, List.set_cons_succ, i64_w, i32_w]; rfl)
    refine pure_ (i := 1) (N := some 10) (v := ?_) (a' := ?_) #[true, true, false, false, false, false, false, false] rfl rfl (any_of HT_.out (by kernel_rfl)) (fun _ _ _ h => h) (Or.inl ⟨by rfl, ?_⟩) ?_ ?_
    rotate_left; · (intro w'; go_simp; with_reducible rfl)
    rotate_left; · (simp only [Act.put, List.setIfInBounds_toArray, List.set_cons_zero, List.set_cons_succ, i64_w, i32_w]; rfl)
    refine pure_ (i := 2) (N := some 11) (v := ?_) (a' := ?_) #[true, true, true, false, false, false, false, false] rfl rfl (any_of HT_.out (by kernel_rfl)) (fun _ _ _ h => h) (Or.inl ⟨by rfl, ?_⟩) ?_ ?_
    rotate_left; · (intro w'; go_simp; with_reducible rfl)
    rotate_left; · (simp only [Act.put, List.setIfInBounds_toArray, List.set_cons_zero, List.set_cons_succ, i64_w, i32_w]; rfl)
    refine take_ (i := 3) (N := some 12) (v := ?_) (a' := ?_) #[true, true, true, true, false, false, false, false] rfl rfl (take_ofW HT_.out HW_.out (by kernel_rfl)) (fun _ _ _ h => h) (Or.inl ⟨by rfl, ?_⟩) hHeld ?_ ?_
    rotate_left
    ·
     rintro w' ⟨s0, s1⟩
     go_simp
     with_reducible rfl
    rotate_left
    ·
     simp only [Act.put, List.setIfInBounds_toArray, List.set_cons_zero, List.set_cons_succ, i64_w, i32_w]
     rfl
    refine one_ (i := 4) (N := some 13) #[true, true, true, true, true, false, false, false] rfl rfl (one_of HT_.out (by kernel_rfl)) (by decide) (fun K hK => ?_)
    refine goes_ Try.func45 (by kernel_rfl) rfl #[.int .i64 (-9223372036854775808)] (by rfl) rfl rfl (mapq rfl) ?_
    with_reducible refine (span_Of.calls (-9223372036854775808) t336 t337 _ A8.out).mono ?_
    rintro e w10 ⟨rfl, hb⟩
    refine ⟨_, rfl, ?_⟩
    replace BK334 := bb BK334 hb rfl; replace BK335 := bb BK335 hb rfl; replace HB := hst HB hb rfl
    (try clear hb)
    refine hK.out _ _ ⟨bc BK334 0 rfl, bc BK334 1 rfl⟩ (fun hHeld => ?_)
    clear hK K
    refine norm_ (a' := ?_) ?_ ?_
    rotate_left; · (show Act.put _ (some 13) _ = _; simp only [Act.put, List.setIfInBounds_toArray, List.set_cons_zero, List.set_cons_succ, i64_w, i32_w]; rfl)
    refine pure_ (i := 5) (N := some 14) (v := ?_) (a' := ?_) #[true, true, true, true, true, true, false, false] rfl rfl (any_of HT_.out (by kernel_rfl)) (fun _ _ _ h => h) (Or.inl ⟨by rfl, ?_⟩) ?_ ?_
    rotate_left; · (intro w'; go_simp; with_reducible rfl)
    rotate_left; · (simp only [Act.put, List.setIfInBounds_toArray, List.set_cons_zero, List.set_cons_succ, i64_w, i32_w]; rfl)
    refine pure_ (i := 6) (N := some 15) (v := ?_) (a' := ?_) #[true, true, true, true, true, true, true, false] rfl rfl (any_of HT_.out (by kernel_rfl)) (fun _ _ _ h => h) (Or.inl ⟨by rfl, ?_⟩) ?_ ?_
    rotate_left; · (intro w'; go_simp; with_reducible rfl)
    rotate_left; · (simp only [Act.put, List.setIfInBounds_toArray, List.set_cons_zero, List.set_cons_succ, i64_w, i32_w]; rfl)
    refine pure_ (i := 7) (N := some 6) (v := ?_) (a' := ?_) #[true, true, true, true, true, true, true, true] rfl rfl (any_of HT_.out (by kernel_rfl)) (fun _ _ _ h => h) (Or.inl ⟨by rfl, ?_⟩) ?_ ?_
    rotate_left; · (intro w'; go_simp; with_reducible rfl)
    rotate_left; · (simp only [Act.put, List.setIfInBounds_toArray, List.set_cons_zero, List.set_cons_succ, i64_w, i32_w]; rfl)
    refine done_ (done_of HT_.out (by kernel_rfl)) ?_
    try go_wp2
    go_meet
    case rel => exact ⟨_, ((a1_0 == t336 && (a1_1 == t337))), (by first | rfl | (simp; done) | (simp [*]; done)), H', ⟨by first | omega | exact Nat.le_refl _⟩, ⟨by (with_reducible repeat (first | refine blk_drewN ?_ _ | refine blk_drew ?_ | refine blk_alloc ?_ _)); exact BK334.out⟩, ⟨by (with_reducible repeat (first | refine blk_drewN ?_ _ | refine blk_drew ?_ | refine blk_alloc ?_ _)); exact BK335.out⟩, ⟨by repeat (first | (with_reducible first | exact HB.out | apply below_alloc | apply pw_below_drewN | apply below_drew1 | refine below_set ?_ GE334.out | refine below_set ?_ GE335.out) | exact HB.out)⟩⟩
   ·
    rw [if_neg c7] at H
    have c7b0 : (a0 == 3) = false := beq_eq_false_iff_ne.mpr c7
    have c7b1 : (a0 != 3) = true := bne_iff_ne.mpr c7
    have H' := Aside0.mk H
    clear H
    try go_wp2
    replace BK334 := Aside0.mk (blk_drew BK334.out); replace BK335 := Aside0.mk (blk_drew BK335.out); replace HB := Aside0.mk (below_drew1 HB.out)
    refine start_ (n := 8) (S := fun w' => True) (ds := []) #[false, false, false, false, false, false, false, false] (by kernel_rfl) rfl rfl trivial (fun hHeld => ?_); refine with_tabW span_One.tab2 span_One.bits2 (fun HT_ HW_ => ?_)
    generalize w5.drew = w11 at BK334 BK335 HB hHeld ⊢
    refine pure_ (i := 0) (N := some 9) (v := ?_) (a' := ?_) #[true, false, false, false, false, false, false, false] rfl rfl (any_of HT_.out (by kernel_rfl)) (fun _ _ _ h => h) (Or.inl ⟨by rfl, ?_⟩) ?_ ?_
    rotate_left; · (intro w'; go_simp; with_reducible rfl)
    rotate_left; · (simp only [Act.put, List.setIfInBounds_toArray, List.set_cons_zero, List.set_cons_succ, i64_w, i32_w]; rfl)
    refine pure_ (i := 1) (N := some 10) (v := ?_) (a' := ?_) #[true, true, false, false, false, false, false, false] rfl rfl (any_of HT_.out (by kernel_rfl)) (fun _ _ _ h => h) (Or.inl ⟨by rfl, ?_⟩) ?_ ?_
    rotate_left; · (intro w'; go_simp; with_reducible rfl)
    rotate_left; · (simp only [Act.put, List.setIfInBounds_toArray, List.set_cons_zero, List.set_cons_succ, i64_w, i32_w]; rfl)
    refine pure_ (i := 2) (N := some 11) (v := ?_) (a' := ?_) #[true, true, true, false, false, false, false, false] rfl rfl (any_of HT_.out (by kernel_rfl)) (fun _ _ _ h => h) (Or.inl ⟨by rfl, ?_⟩) ?_ ?_
    rotate_left; · (intro w'; go_simp; with_reducible rfl)
    rotate_left; · (simp only [Act.put, List.setIfInBounds_toArray, List.set_cons_zero, List.set_cons_succ, i64_w, i32_w]; rfl)
    refine pure_ (i := 3) (N := some 12) (v := undef) (a' := ?_) #[true, true, true, true, false, false, false, false] rfl rfl (any_of HT_.out (by kernel_rfl)) (fun _ _ _ h => h) (Or.inr ⟨by rfl, rfl⟩) ?_ ?_
    rotate_left
    ·
     simp only [Act.put, List.setIfInBounds_toArray, List.set_cons_zero, List.set_cons_succ, i64_w, i32_w]
     rfl
    refine pure_ (i := 4) (N := some 13) (v := undef) (a' := ?_) #[true, true, true, true, true, false, false, false] rfl rfl (any_of HT_.out (by kernel_rfl)) (fun _ _ _ h => h) (Or.inr ⟨by rfl, rfl⟩) ?_ ?_
    rotate_left
    ·
     simp only [Act.put, List.setIfInBounds_toArray, List.set_cons_zero, List.set_cons_succ, i64_w, i32_w]
     rfl
    refine pure_ (i := 5) (N := some 14) (v := undef) (a' := ?_) #[true, true, true, true, true, true, false, false] rfl rfl (any_of HT_.out (by kernel_rfl)) (fun _ _ _ h => h) (Or.inr ⟨by rfl, rfl⟩) ?_ ?_
    rotate_left
    ·
     simp only [Act.put, List.setIfInBounds_toArray, List.set_cons_zero, List.set_cons_succ, i64_w, i32_w]
     rfl
    refine pure_ (i := 6) (N := some 15) (v := ?_) (a' := ?_) #[true, true, true, true, true, true, true, false] rfl rfl (any_of HT_.out (by kernel_rfl)) (fun _ _ _ h => h) (Or.inl ⟨by rfl, ?_⟩) ?_ ?_
    rotate_left; · (intro w'; go_simp; with_reducible rfl)
    rotate_left; · (simp only [Act.put, List.setIfInBounds_toArray, List.set_cons_zero, List.set_cons_succ, i64_w, i32_w]; rfl)
    refine pure_ (i := 7) (N := some 6) (v := ?_) (a' := ?_) #[true, true, true, true, true, true, true, true] rfl rfl (any_of HT_.out (by kernel_rfl)) (fun _ _ _ h => h) (Or.inl ⟨by rfl, ?_⟩) ?_ ?_
    rotate_left; · (intro w'; go_simp; with_reducible rfl)
    rotate_left; · (simp only [Act.put, List.setIfInBounds_toArray, List.set_cons_zero, List.set_cons_succ, i64_w, i32_w]; rfl)
    refine done_ (done_of HT_.out (by kernel_rfl)) ?_
    try go_wp2
    go_meet
    case rel => exact ⟨_, (false), (by first | rfl | (simp; done) | (simp [*]; done)), H', ⟨by first | omega | exact Nat.le_refl _⟩, ⟨by (with_reducible repeat (first | refine blk_drewN ?_ _ | refine blk_drew ?_ | refine blk_alloc ?_ _)); exact BK334.out⟩, ⟨by (with_reducible repeat (first | refine blk_drewN ?_ _ | refine blk_drew ?_ | refine blk_alloc ?_ _)); exact BK335.out⟩, ⟨by repeat (first | (with_reducible first | exact HB.out | apply below_alloc | apply pw_below_drewN | apply below_drew1 | refine below_set ?_ GE334.out | refine below_set ?_ GE335.out) | exact HB.out)⟩⟩
 case rest =>
  clear HC3
  try clear p2
  try clear c4
  try clear c5
  try clear c6
  try clear c6b0
  try clear c6b1
  try clear c7
  try clear c7b0
  try clear c7b1
  obtain ⟨kq, x6_2, rfl, HA, HJ2, BK334, BK335, HB⟩ := hcut
  cases kq with
  | zero => exact absurd HA.out (by simp [span_One.j0])
  | succ kj2 =>
   have H := HA.out
   clear HA
   simp only [span_One.j0] at H
   by_cases c12 : x6_2 = true
   ·
    subst c12
    rw [if_pos rfl] at H
    simp only [Option.some.injEq, Prod.mk.injEq] at H
    obtain ⟨rfl, rfl, rfl⟩ := H
    have hnb13 := NB334_335.out
    have hnc13 := NB335_334.out
    obtain ⟨hcz14_0, hcz14_1, hfz14_0, hfz14_1⟩ := c2 BK334
    obtain ⟨hcz15_0, hcz15_1, hfz15_0, hfz15_1⟩ := c2 BK335
    go_wp2
    refine bodyPost_ret (results_ct rfl _ _ gb335 59 #[.int .i64 a1_0, .int .i64 a1_1] (0, 0) _ rfl (by (with_reducible repeat (first | refine blk_drewN ?_ _ | refine blk_drew ?_ | refine blk_alloc ?_ _)); refine blk_put (cs := #[.int .i64 a1_0, .int .i64 0]) ?_ 1 _ rfl; (with_reducible repeat (first | refine blk_drewN ?_ _ | refine blk_drew ?_ | refine blk_alloc ?_ _)); refine blk_put (cs := #[.int .i64 0, .int .i64 0]) ?_ 0 _ rfl; (with_reducible repeat (first | refine blk_drewN ?_ _ | refine blk_drew ?_ | refine blk_alloc ?_ _)); exact BK335.out) Try.underlying59 rfl (by kernel_rfl)) rfl ?_
    exact ⟨by first | rfl | (simp [*, errW_none, errW_some] <;> rfl), by repeat (first | (with_reducible first | exact HB.out | apply below_alloc | apply pw_below_drewN | apply below_drew1 | refine below_set ?_ GE334.out | refine below_set ?_ GE335.out) | exact HB.out)⟩
   ·
    replace c12 := Bool.eq_false_iff.mpr c12
    subst c12
    rw [if_neg (show ¬ (false = true) by decide)] at H
    have HC16 := Aside0.mk H
    clear H
    go_upto_region 4 with (fail)
    go_cut [17] (fun v17 wc => ∃ (kq : Nat) (x17_15 : Bool), v17 = .bool x17_15 ∧ Aside0 (span_One.j1 kq a0 x17_15 a1_0 a1_1 = some (r1, r2, r3)) ∧ Aside0 (kq ≤ kj2) ∧ Aside0 (wc.heap[gb334]? = some (.cells #[.int .i64 a1_0, .int .i64 a1_1] 59 (0, 0))) ∧ Aside0 (wc.heap[gb335]? = some (.cells #[.int .i64 0, .int .i64 0] 59 (0, 0))) ∧ Aside0 (Below w.heap.size w wc))
    case first =>
     have H := HC16.out
     clear HC16
     by_cases c17 : a0 = 3
     ·
      rw [if_pos c17] at H
      have c17b0 : (a0 == 3) = true := beq_iff_eq.mpr c17
      have c17b1 : (a0 != 3) = false := bne_eq_false_iff_eq.mpr c17
      clear c17
      (first | rw [c17b0] | (simp only [i64_w, i32_w]; rw [c17b0]) | skip)
      have H' := Aside0.mk H
      clear H
      have hnb18 := NB334_335.out
      have hnc18 := NB335_334.out
      obtain ⟨hcz19_0, hcz19_1, hfz19_0, hfz19_1⟩ := c2 BK334
      go_wp2
      go_meet
      case rel => exact ⟨_, ((a1_0 == (-9223372036854775808))), (by first | rfl | (simp; done) | (simp [*]; done)), H', ⟨by have := HJ2.out; first | omega | exact Nat.le_refl _⟩, ⟨by (with_reducible repeat (first | refine blk_drewN ?_ _ | refine blk_drew ?_ | refine blk_alloc ?_ _)); exact BK334.out⟩, ⟨by (with_reducible repeat (first | refine blk_drewN ?_ _ | refine blk_drew ?_ | refine blk_alloc ?_ _)); exact BK335.out⟩, ⟨by repeat (first | (with_reducible first | exact HB.out | apply below_alloc | apply pw_below_drewN | apply below_drew1 | refine below_set ?_ GE334.out | refine below_set ?_ GE335.out) | exact HB.out)⟩⟩
     ·
      rw [if_neg c17] at H
      have c17b0 : (a0 == 3) = false := beq_eq_false_iff_ne.mpr c17
      have c17b1 : (a0 != 3) = true := bne_iff_ne.mpr c17
      (first | rw [c17b0] | (simp only [i64_w, i32_w]; rw [c17b0]) | skip)
      have H' := Aside0.mk H
      clear H
      go_wp2
      go_meet
      case rel => exact ⟨_, (false), (by first | rfl | (simp; done) | (simp [*]; done)), H', ⟨by have := HJ2.out; first | omega | exact Nat.le_refl _⟩, ⟨by (with_reducible repeat (first | refine blk_drewN ?_ _ | refine blk_drew ?_ | refine blk_alloc ?_ _)); exact BK334.out⟩, ⟨by (with_reducible repeat (first | refine blk_drewN ?_ _ | refine blk_drew ?_ | refine blk_alloc ?_ _)); exact BK335.out⟩, ⟨by repeat (first | (with_reducible first | exact HB.out | apply below_alloc | apply pw_below_drewN | apply below_drew1 | refine below_set ?_ GE334.out | refine below_set ?_ GE335.out) | exact HB.out)⟩⟩
    case rest =>
     clear HC16
     try clear c1
     try clear p2
     try clear c4
     try clear c5
     try clear c6
     try clear c6b0
     try clear c6b1
     try clear c7
     try clear c7b0
     try clear c7b1
     try clear c12
     try clear c13
     try clear c17
     try clear c17b0
     try clear c17b1
     try clear c18
     try clear hcz14_0
     try clear hcz14_1
     try clear hcz15_0
     try clear hcz15_1
     try clear hcz19_0
     try clear hcz19_1
     try clear hfz14_0
     try clear hfz14_1
     try clear hfz15_0
     try clear hfz15_1
     try clear hfz19_0
     try clear hfz19_1
     try clear p2
     obtain ⟨kq, x17_15, rfl, HA, HJ15, BK334, BK335, HB⟩ := hcut
     cases kq with
     | zero => exact absurd HA.out (by simp [span_One.j1])
     | succ kj15 =>
      have H := HA.out
      clear HA
      simp only [span_One.j1] at H
      by_cases c20 : x17_15 = true
      ·
       subst c20
       rw [if_pos rfl] at H
       replace H := Option.bind_eq_some_iff.mp H
       obtain ⟨⟨t338, t339⟩, A210, H⟩ := H
       (try dsimp only at H)
       have A21 := Aside0.mk A210
       clear A210
       simp only [Option.some.injEq, Prod.mk.injEq] at H
       obtain ⟨rfl, rfl, rfl⟩ := H
       go_wp2_with (first | ((with_reducible refine gate_callee (f := 46) rfl ?_); refine goesL_ (some 25) rfl rfl Try.func46 (by kernel_rfl) rfl #[] rfl (mapq rfl) ?_; (with_reducible refine (span_Any.calls  t338 t339 _ A21.out).mono ?_); rintro e w22 ⟨rfl, hb⟩; refine ⟨_, rfl, ?_⟩; replace BK334 := bb BK334 hb rfl; replace BK335 := bb BK335 hb rfl; replace HB := hst HB hb rfl; (try clear hb); have hnb23 := NB335_334.out; have hnc23 := NB334_335.out; obtain ⟨hcz24_0, hcz24_1, hfz24_0, hfz24_1⟩ := c2 BK335))
       refine bodyPost_ret (results_ct rfl _ _ gb335 59 #[.int .i64 t338, .int .i64 t339] (0, 0) _ rfl (by (with_reducible repeat (first | refine blk_drewN ?_ _ | refine blk_drew ?_ | refine blk_alloc ?_ _)); refine blk_put (cs := #[.int .i64 t338, .int .i64 0]) ?_ 1 _ rfl; (with_reducible repeat (first | refine blk_drewN ?_ _ | refine blk_drew ?_ | refine blk_alloc ?_ _)); refine blk_put (cs := #[.int .i64 0, .int .i64 0]) ?_ 0 _ rfl; (with_reducible repeat (first | refine blk_drewN ?_ _ | refine blk_drew ?_ | refine blk_alloc ?_ _)); exact BK335.out) Try.underlying59 rfl (by kernel_rfl)) rfl ?_
       exact ⟨by first | rfl | (simp [*, errW_none, errW_some] <;> rfl), by repeat (first | (with_reducible first | exact HB.out | apply below_alloc | apply pw_below_drewN | apply below_drew1 | refine below_set ?_ GE334.out | refine below_set ?_ GE335.out) | exact HB.out)⟩
      ·
       replace c20 := Bool.eq_false_iff.mpr c20
       subst c20
       rw [if_neg (show ¬ (false = true) by decide)] at H
       by_cases c25 : a0 = 3
       ·
        rw [if_pos c25] at H
        have c25b0 : (a0 == 3) = true := beq_iff_eq.mpr c25
        have c25b1 : (a0 != 3) = false := bne_eq_false_iff_eq.mpr c25
        clear c25
        simp only [Option.some.injEq, Prod.mk.injEq] at H
        obtain ⟨rfl, rfl, rfl⟩ := H
        have hnb26 := NB334_335.out
        have hnc26 := NB335_334.out
        obtain ⟨hcz27_0, hcz27_1, hfz27_0, hfz27_1⟩ := c2 BK334
        obtain ⟨hcz28_0, hcz28_1, hfz28_0, hfz28_1⟩ := c2 BK335
        go_wp2
        refine bodyPost_ret (results_ct rfl _ _ gb335 59 #[.int .i64 (wrap64 (-a1_1)), .int .i64 (wrap64 (-a1_0))] (0, 0) _ rfl (by (with_reducible repeat (first | refine blk_drewN ?_ _ | refine blk_drew ?_ | refine blk_alloc ?_ _)); refine blk_put (cs := #[.int .i64 (wrap64 (-a1_1)), .int .i64 0]) ?_ 1 _ rfl; (with_reducible repeat (first | refine blk_drewN ?_ _ | refine blk_drew ?_ | refine blk_alloc ?_ _)); refine blk_put (cs := #[.int .i64 0, .int .i64 0]) ?_ 0 _ rfl; (with_reducible repeat (first | refine blk_drewN ?_ _ | refine blk_drew ?_ | refine blk_alloc ?_ _)); exact BK335.out) Try.underlying59 rfl (by kernel_rfl)) rfl ?_
        exact ⟨by first | rfl | (simp [*, errW_none, errW_some] <;> rfl), by repeat (first | (with_reducible first | exact HB.out | apply below_alloc | apply pw_below_drewN | apply below_drew1 | refine below_set ?_ GE334.out | refine below_set ?_ GE335.out) | exact HB.out)⟩
       ·
        rw [if_neg c25] at H
        have c25b0 : (a0 == 3) = false := beq_eq_false_iff_ne.mpr c25
        have c25b1 : (a0 != 3) = true := bne_iff_ne.mpr c25
        simp only [Option.some.injEq, Prod.mk.injEq] at H
        obtain ⟨rfl, rfl, rfl⟩ := H
        have hnb29 := NB335_334.out
        have hnc29 := NB334_335.out
        obtain ⟨hcz30_0, hcz30_1, hfz30_0, hfz30_1⟩ := c2 BK335
        go_wp2
        refine bodyPost_ret (results_ct rfl _ _ gb335 59 #[.int .i64 0, .int .i64 0] (0, 0) _ rfl (by (with_reducible repeat (first | refine blk_drewN ?_ _ | refine blk_drew ?_ | refine blk_alloc ?_ _)); refine blk_put (cs := #[.int .i64 0, .int .i64 0]) ?_ 1 _ rfl; (with_reducible repeat (first | refine blk_drewN ?_ _ | refine blk_drew ?_ | refine blk_alloc ?_ _)); refine blk_put (cs := #[.int .i64 0, .int .i64 0]) ?_ 0 _ rfl; (with_reducible repeat (first | refine blk_drewN ?_ _ | refine blk_drew ?_ | refine blk_alloc ?_ _)); exact BK335.out) Try.underlying59 rfl (by kernel_rfl)) rfl ?_
        exact ⟨by first | rfl | (simp [*, errW_none, errW_some] <;> rfl), by repeat (first | (with_reducible first | exact HB.out | apply below_alloc | apply pw_below_drewN | apply below_drew1 | refine below_set ?_ GE334.out | refine below_set ?_ GE335.out) | exact HB.out)⟩

/-! ### avermentref10_Any: function 40 -/
def avermentref10_Any.f  : Option (Int × Int) := some ((-9223372036854775808), 9223372036854775807)
set_option maxHeartbeats 8000000 in
set_option maxRecDepth 100000 in
theorem avermentref10_Any.calls  (r1 : Int) (r2 : Int) (w : World) (h : avermentref10_Any.f  = some (r1, r2)) :
  Calls Try.prog 40 #[] w fun e w' => e = .returned (.agg #[.int .i64 r1, .int .i64 r2]) ∧ Below w.heap.size w w' := by
 have hu56 := Try.underlying56
 have HB := Aside0.mk (Below.refl w.heap.size w)
 have H : (some ((-9223372036854775808), 9223372036854775807)) = some (r1, r2) := h
 clear h
 simp only [Option.some.injEq, Prod.mk.injEq] at H
 obtain ⟨rfl, rfl⟩ := H
 go_enter Try.func40, Try.ntmps40
 go_wp2_with (first | ((with_reducible refine gate_dst (N := 0) rfl ?_); refine box_event ?hg (N := 0) ?hd (cs := #[.int .i64 0, .int .i64 0]) (t := 56) ?hr ?_; (case hd => rfl); (case hg => rfl); (case hr => first | (go_simp; done) | (go_simp; rfl)); intro gb340 hg w1 hbox hb; have BK340 := Aside0.mk (hbox); have GW340 := geb hg HB rfl; have GE340 := geb hg HB rfl; replace HB := hst HB hb rfl; clear hb hbox hg; obtain ⟨hcz2_0, hcz2_1, hfz2_0, hfz2_1⟩ := c2 BK340))
 refine bodyPost_ret (results_cell_row rfl _ _ gb340 56 #[.int .i64 (-9223372036854775808), .int .i64 9223372036854775807] (0, 0) _ rfl (by (with_reducible repeat (first | refine blk_drewN ?_ _ | refine blk_drew ?_ | refine blk_alloc ?_ _)); refine blk_put (cs := #[.int .i64 (-9223372036854775808), .int .i64 0]) ?_ 1 _ rfl; (with_reducible repeat (first | refine blk_drewN ?_ _ | refine blk_drew ?_ | refine blk_alloc ?_ _)); refine blk_put (cs := #[.int .i64 0, .int .i64 0]) ?_ 0 _ rfl; (with_reducible repeat (first | refine blk_drewN ?_ _ | refine blk_drew ?_ | refine blk_alloc ?_ _)); exact BK340.out) Try.underlying56 rfl (by kernel_rfl)) rfl ?_
 exact ⟨by first | rfl | (simp [*, errW_none, errW_some] <;> rfl), by repeat (first | (with_reducible first | exact HB.out | apply below_alloc | apply pw_below_drewN | apply below_drew1 | refine below_set ?_ GE340.out) | exact HB.out)⟩

/-! ### avermentref10_One: function 55 -/
def avermentref10_One.f (a0 : Int) (a1_0 : Int) (a1_1 : Int) : Option (Int × Int × Bool) := if a0 = 2 then (some (a1_0, a1_1, true)) else (if a0 = 3 then (if a1_0 > (-9223372036854775808) then (some (wrap64 (-a1_1), wrap64 (-a1_0), true)) else (if a1_1 = (-9223372036854775808) then (some (a1_0, a1_1, true)) else ((avermentref10_Any.f).bind fun bt343 => (some (bt343.1, bt343.2, true))))) else (some (0, 0, false)))
set_option maxHeartbeats 8000000 in
set_option maxRecDepth 100000 in
theorem avermentref10_One.calls (a0 : Int) (a1_0 : Int) (a1_1 : Int) (r1 : Int) (r2 : Int) (r3 : Bool) (w : World) (h : avermentref10_One.f a0 a1_0 a1_1 = some (r1, r2, r3)) :
  Calls Try.prog 55 #[.int .i64 a0, .agg #[.int .i64 a1_0, .int .i64 a1_1]] w fun e w' => e = .returned (.tuple #[.agg #[.int .i64 r1, .int .i64 r2], .bool r3]) ∧ Below w.heap.size w w' := by
 have hu56 := Try.underlying56
 have HB := Aside0.mk (Below.refl w.heap.size w)
 have H : (if a0 = 2 then (some (a1_0, a1_1, true)) else (if a0 = 3 then (if a1_0 > (-9223372036854775808) then (some (wrap64 (-a1_1), wrap64 (-a1_0), true)) else (if a1_1 = (-9223372036854775808) then (some (a1_0, a1_1, true)) else ((avermentref10_Any.f).bind fun bt343 => (some (bt343.1, bt343.2, true))))) else (some (0, 0, false)))) = some (r1, r2, r3) := h
 clear h
 by_cases c3 : a0 = 2
 ·
  rw [if_pos c3] at H
  have c3b0 : (a0 == 2) = true := beq_iff_eq.mpr c3
  have c3b1 : (a0 != 2) = false := bne_eq_false_iff_eq.mpr c3
  clear c3
  simp only [Option.some.injEq, Prod.mk.injEq] at H
  obtain ⟨rfl, rfl, rfl⟩ := H
  go_enter Try.func55, Try.ntmps55
  go_wp2_with (first | ((with_reducible refine gate_dst (N := 3) rfl ?_); refine box_event ?hg (N := 3) ?hd (cs := #[.int .i64 a1_0, .int .i64 a1_1]) (t := 56) ?hr ?_; (case hd => rfl); (case hg => rfl); (case hr => first | (go_simp; done) | (go_simp; rfl)); intro gb341 hg w4 hbox hb; have BK341 := Aside0.mk (hbox); have GW341 := geb hg HB rfl; have GE341 := geb hg HB rfl; replace HB := hst HB hb rfl; clear hb hbox hg) | ((with_reducible refine gate_dst (N := 4) rfl ?_); refine box_event ?hg (N := 4) ?hd (cs := #[.int .i64 0, .int .i64 0]) (t := 56) ?hr ?_; (case hd => rfl); (case hg => rfl); (case hr => first | (go_simp; done) | (go_simp; rfl)); intro gb342 hg w5 hbox hb; have BK342 := Aside0.mk (hbox); have GW342 := geb hg HB rfl; have GE342 := geb hg HB rfl; have NB341_342 := nbl hg BK341 rfl; have NB342_341 := nbr hg BK341 rfl; replace BK341 := bb BK341 hb rfl; replace HB := hst HB hb rfl; clear hb hbox hg; have hnb6 := NB341_342.out; have hnc6 := NB342_341.out; obtain ⟨hcz7_0, hcz7_1, hfz7_0, hfz7_1⟩ := c2 BK341; obtain ⟨hcz8_0, hcz8_1, hfz8_0, hfz8_1⟩ := c2 BK342))
  refine bodyPost_ret (results_ct rfl _ _ gb342 56 #[.int .i64 a1_0, .int .i64 a1_1] (0, 0) _ rfl (by (with_reducible repeat (first | refine blk_drewN ?_ _ | refine blk_drew ?_ | refine blk_alloc ?_ _)); refine blk_put (cs := #[.int .i64 a1_0, .int .i64 0]) ?_ 1 _ rfl; (with_reducible repeat (first | refine blk_drewN ?_ _ | refine blk_drew ?_ | refine blk_alloc ?_ _)); refine blk_put (cs := #[.int .i64 0, .int .i64 0]) ?_ 0 _ rfl; (with_reducible repeat (first | refine blk_drewN ?_ _ | refine blk_drew ?_ | refine blk_alloc ?_ _)); exact BK342.out) Try.underlying56 rfl (by kernel_rfl)) rfl ?_
  exact ⟨by first | rfl | (simp [*, errW_none, errW_some] <;> rfl), by repeat (first | (with_reducible first | exact HB.out | apply below_alloc | apply pw_below_drewN | apply below_drew1 | refine below_set ?_ GE341.out | refine below_set ?_ GE342.out) | exact HB.out)⟩
 ·
  rw [if_neg c3] at H
  have c3b0 : (a0 == 2) = false := beq_eq_false_iff_ne.mpr c3
  have c3b1 : (a0 != 2) = true := bne_iff_ne.mpr c3
  by_cases c9 : a0 = 3
  ·
   rw [if_pos c9] at H
   have c9b0 : (a0 == 3) = true := beq_iff_eq.mpr c9
   have c9b1 : (a0 != 3) = false := bne_eq_false_iff_eq.mpr c9
   clear c9
   by_cases c10 : a1_0 > (-9223372036854775808)
   ·
    rw [if_pos c10] at H
    have c10b0 : decide ((-9223372036854775808) < a1_0) = true := decide_eq_true c10
    clear c10
    simp only [Option.some.injEq, Prod.mk.injEq] at H
    obtain ⟨rfl, rfl, rfl⟩ := H
    go_enter Try.func55, Try.ntmps55
    go_wp2_with (first | ((with_reducible refine gate_dst (N := 3) rfl ?_); refine box_event ?hg (N := 3) ?hd (cs := #[.int .i64 a1_0, .int .i64 a1_1]) (t := 56) ?hr ?_; (case hd => rfl); (case hg => rfl); (case hr => first | (go_simp; done) | (go_simp; rfl)); intro gb341 hg w11 hbox hb; have BK341 := Aside0.mk (hbox); have GW341 := geb hg HB rfl; have GE341 := geb hg HB rfl; replace HB := hst HB hb rfl; clear hb hbox hg) | ((with_reducible refine gate_dst (N := 4) rfl ?_); refine box_event ?hg (N := 4) ?hd (cs := #[.int .i64 0, .int .i64 0]) (t := 56) ?hr ?_; (case hd => rfl); (case hg => rfl); (case hr => first | (go_simp; done) | (go_simp; rfl)); intro gb342 hg w12 hbox hb; have BK342 := Aside0.mk (hbox); have GW342 := geb hg HB rfl; have GE342 := geb hg HB rfl; have NB341_342 := nbl hg BK341 rfl; have NB342_341 := nbr hg BK341 rfl; replace BK341 := bb BK341 hb rfl; replace HB := hst HB hb rfl; clear hb hbox hg; have hnb13 := NB341_342.out; have hnc13 := NB342_341.out; obtain ⟨hcz14_0, hcz14_1, hfz14_0, hfz14_1⟩ := c2 BK341; obtain ⟨hcz15_0, hcz15_1, hfz15_0, hfz15_1⟩ := c2 BK342))
    refine bodyPost_ret (results_ct rfl _ _ gb342 56 #[.int .i64 (wrap64 (-a1_1)), .int .i64 (wrap64 (-a1_0))] (0, 0) _ rfl (by (with_reducible repeat (first | refine blk_drewN ?_ _ | refine blk_drew ?_ | refine blk_alloc ?_ _)); refine blk_put (cs := #[.int .i64 (wrap64 (-a1_1)), .int .i64 0]) ?_ 1 _ rfl; (with_reducible repeat (first | refine blk_drewN ?_ _ | refine blk_drew ?_ | refine blk_alloc ?_ _)); refine blk_put (cs := #[.int .i64 0, .int .i64 0]) ?_ 0 _ rfl; (with_reducible repeat (first | refine blk_drewN ?_ _ | refine blk_drew ?_ | refine blk_alloc ?_ _)); exact BK342.out) Try.underlying56 rfl (by kernel_rfl)) rfl ?_
    exact ⟨by first | rfl | (simp [*, errW_none, errW_some] <;> rfl), by repeat (first | (with_reducible first | exact HB.out | apply below_alloc | apply pw_below_drewN | apply below_drew1 | refine below_set ?_ GE341.out | refine below_set ?_ GE342.out) | exact HB.out)⟩
   ·
    rw [if_neg c10] at H
    have c10b0 : decide ((-9223372036854775808) < a1_0) = false := decide_eq_false c10
    clear c10
    by_cases c16 : a1_1 = (-9223372036854775808)
    ·
     rw [if_pos c16] at H
     have c16b0 : (a1_1 == (-9223372036854775808)) = true := beq_iff_eq.mpr c16
     have c16b1 : (a1_1 != (-9223372036854775808)) = false := bne_eq_false_iff_eq.mpr c16
     clear c16
     simp only [Option.some.injEq, Prod.mk.injEq] at H
     obtain ⟨rfl, rfl, rfl⟩ := H
     go_enter Try.func55, Try.ntmps55
     go_wp2_with (first | ((with_reducible refine gate_dst (N := 3) rfl ?_); refine box_event ?hg (N := 3) ?hd (cs := #[.int .i64 a1_0, .int .i64 a1_1]) (t := 56) ?hr ?_; (case hd => rfl); (case hg => rfl); (case hr => first | (go_simp; done) | (go_simp; rfl)); intro gb341 hg w17 hbox hb; have BK341 := Aside0.mk (hbox); have GW341 := geb hg HB rfl; have GE341 := geb hg HB rfl; replace HB := hst HB hb rfl; clear hb hbox hg) | ((with_reducible refine gate_dst (N := 4) rfl ?_); refine box_event ?hg (N := 4) ?hd (cs := #[.int .i64 0, .int .i64 0]) (t := 56) ?hr ?_; (case hd => rfl); (case hg => rfl); (case hr => first | (go_simp; done) | (go_simp; rfl)); intro gb342 hg w18 hbox hb; have BK342 := Aside0.mk (hbox); have GW342 := geb hg HB rfl; have GE342 := geb hg HB rfl; have NB341_342 := nbl hg BK341 rfl; have NB342_341 := nbr hg BK341 rfl; replace BK341 := bb BK341 hb rfl; replace HB := hst HB hb rfl; clear hb hbox hg; have hnb19 := NB341_342.out; have hnc19 := NB342_341.out; obtain ⟨hcz20_0, hcz20_1, hfz20_0, hfz20_1⟩ := c2 BK341; obtain ⟨hcz21_0, hcz21_1, hfz21_0, hfz21_1⟩ := c2 BK342))
     refine bodyPost_ret (results_ct rfl _ _ gb342 56 #[.int .i64 a1_0, .int .i64 a1_1] (0, 0) _ rfl (by (with_reducible repeat (first | refine blk_drewN ?_ _ | refine blk_drew ?_ | refine blk_alloc ?_ _)); refine blk_put (cs := #[.int .i64 a1_0, .int .i64 0]) ?_ 1 _ rfl; (with_reducible repeat (first | refine blk_drewN ?_ _ | refine blk_drew ?_ | refine blk_alloc ?_ _)); refine blk_put (cs := #[.int .i64 0, .int .i64 0]) ?_ 0 _ rfl; (with_reducible repeat (first | refine blk_drewN ?_ _ | refine blk_drew ?_ | refine blk_alloc ?_ _)); exact BK342.out) Try.underlying56 rfl (by kernel_rfl)) rfl ?_
     exact ⟨by first | rfl | (simp [*, errW_none, errW_some] <;> rfl), by repeat (first | (with_reducible first | exact HB.out | apply below_alloc | apply pw_below_drewN | apply below_drew1 | refine below_set ?_ GE341.out | refine below_set ?_ GE342.out) | exact HB.out)⟩
    ·
     rw [if_neg c16] at H
     have c16b0 : (a1_1 == (-9223372036854775808)) = false := beq_eq_false_iff_ne.mpr c16
     have c16b1 : (a1_1 != (-9223372036854775808)) = true := bne_iff_ne.mpr c16
     replace H := Option.bind_eq_some_iff.mp H
     obtain ⟨⟨t343, t344⟩, A220, H⟩ := H
     (try dsimp only at H)
     have A22 := Aside0.mk A220
     clear A220
     simp only [Option.some.injEq, Prod.mk.injEq] at H
     obtain ⟨rfl, rfl, rfl⟩ := H
     go_enter Try.func55, Try.ntmps55
     go_wp2_with (first | ((with_reducible refine gate_dst (N := 3) rfl ?_); refine box_event ?hg (N := 3) ?hd (cs := #[.int .i64 a1_0, .int .i64 a1_1]) (t := 56) ?hr ?_; (case hd => rfl); (case hg => rfl); (case hr => first | (go_simp; done) | (go_simp; rfl)); intro gb341 hg w23 hbox hb; have BK341 := Aside0.mk (hbox); have GW341 := geb hg HB rfl; have GE341 := geb hg HB rfl; replace HB := hst HB hb rfl; clear hb hbox hg) | ((with_reducible refine gate_dst (N := 4) rfl ?_); refine box_event ?hg (N := 4) ?hd (cs := #[.int .i64 0, .int .i64 0]) (t := 56) ?hr ?_; (case hd => rfl); (case hg => rfl); (case hr => first | (go_simp; done) | (go_simp; rfl)); intro gb342 hg w24 hbox hb; have BK342 := Aside0.mk (hbox); have GW342 := geb hg HB rfl; have GE342 := geb hg HB rfl; have NB341_342 := nbl hg BK341 rfl; have NB342_341 := nbr hg BK341 rfl; replace BK341 := bb BK341 hb rfl; replace HB := hst HB hb rfl; clear hb hbox hg; have hnb25 := NB341_342.out; have hnc25 := NB342_341.out; obtain ⟨hcz26_0, hcz26_1, hfz26_0, hfz26_1⟩ := c2 BK341) | ((with_reducible refine gate_callee (f := 40) rfl ?_); refine goesL_ (some 26) rfl rfl Try.func40 (by kernel_rfl) rfl #[] rfl (mapq rfl) ?_; (with_reducible refine (avermentref10_Any.calls  t343 t344 _ A22.out).mono ?_); rintro e w27 ⟨rfl, hb⟩; refine ⟨_, rfl, ?_⟩; replace BK341 := bb BK341 hb rfl; replace BK342 := bb BK342 hb rfl; replace HB := hst HB hb rfl; (try clear hb); obtain ⟨hcz28_0, hcz28_1, hfz28_0, hfz28_1⟩ := c2 BK342))
     refine bodyPost_ret (results_ct rfl _ _ gb342 56 #[.int .i64 t343, .int .i64 t344] (0, 0) _ rfl (by (with_reducible repeat (first | refine blk_drewN ?_ _ | refine blk_drew ?_ | refine blk_alloc ?_ _)); refine blk_put (cs := #[.int .i64 t343, .int .i64 0]) ?_ 1 _ rfl; (with_reducible repeat (first | refine blk_drewN ?_ _ | refine blk_drew ?_ | refine blk_alloc ?_ _)); refine blk_put (cs := #[.int .i64 0, .int .i64 0]) ?_ 0 _ rfl; (with_reducible repeat (first | refine blk_drewN ?_ _ | refine blk_drew ?_ | refine blk_alloc ?_ _)); exact BK342.out) Try.underlying56 rfl (by kernel_rfl)) rfl ?_
     exact ⟨by first | rfl | (simp [*, errW_none, errW_some] <;> rfl), by repeat (first | (with_reducible first | exact HB.out | apply below_alloc | apply pw_below_drewN | apply below_drew1 | refine below_set ?_ GE341.out | refine below_set ?_ GE342.out) | exact HB.out)⟩
  ·
   rw [if_neg c9] at H
   have c9b0 : (a0 == 3) = false := beq_eq_false_iff_ne.mpr c9
   have c9b1 : (a0 != 3) = true := bne_iff_ne.mpr c9
   simp only [Option.some.injEq, Prod.mk.injEq] at H
   obtain ⟨rfl, rfl, rfl⟩ := H
   go_enter Try.func55, Try.ntmps55
   go_wp2_with (first | ((with_reducible refine gate_dst (N := 3) rfl ?_); refine box_event ?hg (N := 3) ?hd (cs := #[.int .i64 a1_0, .int .i64 a1_1]) (t := 56) ?hr ?_; (case hd => rfl); (case hg => rfl); (case hr => first | (go_simp; done) | (go_simp; rfl)); intro gb341 hg w29 hbox hb; have BK341 := Aside0.mk (hbox); have GW341 := geb hg HB rfl; have GE341 := geb hg HB rfl; replace HB := hst HB hb rfl; clear hb hbox hg) | ((with_reducible refine gate_dst (N := 4) rfl ?_); refine box_event ?hg (N := 4) ?hd (cs := #[.int .i64 0, .int .i64 0]) (t := 56) ?hr ?_; (case hd => rfl); (case hg => rfl); (case hr => first | (go_simp; done) | (go_simp; rfl)); intro gb342 hg w30 hbox hb; have BK342 := Aside0.mk (hbox); have GW342 := geb hg HB rfl; have GE342 := geb hg HB rfl; have NB341_342 := nbl hg BK341 rfl; have NB342_341 := nbr hg BK341 rfl; replace BK341 := bb BK341 hb rfl; replace HB := hst HB hb rfl; clear hb hbox hg; have hnb31 := NB342_341.out; have hnc31 := NB341_342.out; obtain ⟨hcz32_0, hcz32_1, hfz32_0, hfz32_1⟩ := c2 BK342))
   refine bodyPost_ret (results_ct rfl _ _ gb342 56 #[.int .i64 0, .int .i64 0] (0, 0) _ rfl (by (with_reducible repeat (first | refine blk_drewN ?_ _ | refine blk_drew ?_ | refine blk_alloc ?_ _)); refine blk_put (cs := #[.int .i64 0, .int .i64 0]) ?_ 1 _ rfl; (with_reducible repeat (first | refine blk_drewN ?_ _ | refine blk_drew ?_ | refine blk_alloc ?_ _)); refine blk_put (cs := #[.int .i64 0, .int .i64 0]) ?_ 0 _ rfl; (with_reducible repeat (first | refine blk_drewN ?_ _ | refine blk_drew ?_ | refine blk_alloc ?_ _)); exact BK342.out) Try.underlying56 rfl (by kernel_rfl)) rfl ?_
   exact ⟨by first | rfl | (simp [*, errW_none, errW_some] <;> rfl), by repeat (first | (with_reducible first | exact HB.out | apply below_alloc | apply pw_below_drewN | apply below_drew1 | refine below_set ?_ GE341.out | refine below_set ?_ GE342.out) | exact HB.out)⟩

/-! ### avermentref10_add: function 75 -/
def avermentref10_add.f (a0 : Int) (a1 : Int) : Option (Int × Bool) := if ((decide (a0 ≥ 0)) != (decide (a1 ≥ 0))) = true then (some (wrap64 (a0 + a1), true)) else (some (wrap64 (a0 + a1), ((decide ((wrap64 (a0 + a1)) ≥ 0)) == (decide (a0 ≥ 0)))))
set_option maxHeartbeats 8000000 in
set_option maxRecDepth 100000 in
theorem avermentref10_add.calls (a0 : Int) (a1 : Int) (r1 : Int) (r2 : Bool) (w : World) (h : avermentref10_add.f a0 a1 = some (r1, r2)) :
  Calls Try.prog 75 #[.int .i64 a0, .int .i64 a1] w fun e w' => e = .returned (.tuple #[.int .i64 r1, .bool r2]) ∧ Drawn0 w w' := by
 have H : (if ((decide (a0 ≥ 0)) != (decide (a1 ≥ 0))) = true then (some (wrap64 (a0 + a1), true)) else (some (wrap64 (a0 + a1), ((decide ((wrap64 (a0 + a1)) ≥ 0)) == (decide (a0 ≥ 0)))))) = some (r1, r2) := h
 clear h
 by_cases c3 : ((decide (a0 ≥ 0)) != (decide (a1 ≥ 0))) = true
 ·
  rw [if_pos c3] at H
  have c3b0 : ((decide (a0 ≥ 0)) != (decide (a1 ≥ 0))) = true := c3
  (try (have c3b1 : decide ((decide (a0 ≥ 0)) = (decide (a1 ≥ 0))) = false := by simpa using c3))
  (try (have c3b2 : ((decide (a0 ≥ 0)) == (decide (a1 ≥ 0))) = false := by simpa using c3))
  (try (have c3b3 : ¬ ((decide (a0 ≥ 0)) = (decide (a1 ≥ 0))) := by simpa using c3))
  clear c3
  simp only [Option.some.injEq, Prod.mk.injEq] at H
  obtain ⟨rfl, rfl⟩ := H
  go_enter Try.func75, Try.ntmps75
  go_wp2
  go_ret2
  exact ⟨by first | rfl | (simp; done) | (simp [*]; done), by repeat (first | exact Drawn0.refl _ | apply Drawn0.step)⟩
 ·
  rw [if_neg c3] at H
  have c3b0 : ((decide (a0 ≥ 0)) != (decide (a1 ≥ 0))) = false := by simpa using c3
  (try (have c3b1 : decide ((decide (a0 ≥ 0)) = (decide (a1 ≥ 0))) = true := by simpa using c3))
  (try (have c3b2 : ((decide (a0 ≥ 0)) == (decide (a1 ≥ 0))) = true := by simpa using c3))
  clear c3
  simp only [Option.some.injEq, Prod.mk.injEq] at H
  obtain ⟨rfl, rfl⟩ := H
  go_enter Try.func75, Try.ntmps75
  go_wp2
  go_ret2
  exact ⟨by first | rfl | (simp; done) | (simp [*]; done), by repeat (first | exact Drawn0.refl _ | apply Drawn0.step)⟩

/-! ### avermentref10_Join: function 49 -/
def avermentref10_Join.f (a0_0 : Int) (a0_1 : Int) (a1_0 : Int) (a1_1 : Int) : Option (Int × Int) := some (mn a0_0 a1_0, mx a0_1 a1_1)
set_option maxHeartbeats 8000000 in
set_option maxRecDepth 100000 in
theorem avermentref10_Join.calls (a0_0 : Int) (a0_1 : Int) (a1_0 : Int) (a1_1 : Int) (r1 : Int) (r2 : Int) (w : World) (h : avermentref10_Join.f a0_0 a0_1 a1_0 a1_1 = some (r1, r2)) :
  Calls Try.prog 49 #[.agg #[.int .i64 a0_0, .int .i64 a0_1], .agg #[.int .i64 a1_0, .int .i64 a1_1]] w fun e w' => e = .returned (.agg #[.int .i64 r1, .int .i64 r2]) ∧ Below w.heap.size w w' := by
 have hu56 := Try.underlying56
 have HB := Aside0.mk (Below.refl w.heap.size w)
 have H : (some (mn a0_0 a1_0, mx a0_1 a1_1)) = some (r1, r2) := h
 clear h
 obtain ⟨ji3, hji3⟩ : ∃ j_ : Int, (mn a0_0 a1_0) = j_ := ⟨_, rfl⟩
 replace H : (some (ji3, mx a0_1 a1_1)) = some (r1, r2) := by first | (rw [hji3] at H; exact H) | (simp only [hji3] at H ⊢; exact H)
 have hji3_ : (if a1_0 < a0_0 then a1_0 else a0_0) = ji3 := hji3
 obtain ⟨ji4, hji4⟩ : ∃ j_ : Int, (mx a0_1 a1_1) = j_ := ⟨_, rfl⟩
 replace H : (some (ji3, ji4)) = some (r1, r2) := by first | (rw [hji4] at H; exact H) | (simp only [hji4] at H ⊢; exact H)
 have hji4_ : (if a0_1 < a1_1 then a1_1 else a0_1) = ji4 := hji4
 simp only [Option.some.injEq, Prod.mk.injEq] at H
 obtain ⟨rfl, rfl⟩ := H
 go_enter Try.func49, Try.ntmps49
 go_wp2_with (first | ((with_reducible refine gate_dst (N := 2) rfl ?_); refine box_event ?hg (N := 2) ?hd (cs := #[.int .i64 a0_0, .int .i64 a0_1]) (t := 56) ?hr ?_; (case hd => rfl); (case hg => rfl); (case hr => first | (go_simp; done) | (go_simp; rfl)); intro gb345 hg w5 hbox hb; have BK345 := Aside0.mk (hbox); have GW345 := geb hg HB rfl; have GE345 := geb hg HB rfl; replace HB := hst HB hb rfl; clear hb hbox hg) | ((with_reducible refine gate_dst (N := 3) rfl ?_); refine box_event ?hg (N := 3) ?hd (cs := #[.int .i64 a1_0, .int .i64 a1_1]) (t := 56) ?hr ?_; (case hd => rfl); (case hg => rfl); (case hr => first | (go_simp; done) | (go_simp; rfl)); intro gb346 hg w6 hbox hb; have BK346 := Aside0.mk (hbox); have GW346 := geb hg HB rfl; have GE346 := geb hg HB rfl; have NB345_346 := nbl hg BK345 rfl; have NB346_345 := nbr hg BK345 rfl; replace BK345 := bb BK345 hb rfl; replace HB := hst HB hb rfl; clear hb hbox hg) | ((with_reducible refine gate_dst (N := 4) rfl ?_); refine box_event ?hg (N := 4) ?hd (cs := #[.int .i64 0, .int .i64 0]) (t := 56) ?hr ?_; (case hd => rfl); (case hg => rfl); (case hr => first | (go_simp; done) | (go_simp; rfl)); intro gb347 hg w7 hbox hb; have BK347 := Aside0.mk (hbox); have GW347 := geb hg HB rfl; have GE347 := geb hg HB rfl; have NB345_347 := nbl hg BK345 rfl; have NB347_345 := nbr hg BK345 rfl; have NB346_347 := nbl hg BK346 rfl; have NB347_346 := nbr hg BK346 rfl; replace BK345 := bb BK345 hb rfl; replace BK346 := bb BK346 hb rfl; replace HB := hst HB hb rfl; clear hb hbox hg; have hnb8 := NB345_346.out; have hnc8 := NB346_345.out; have hnb9 := NB345_347.out; have hnc9 := NB347_345.out; obtain ⟨hcz10_0, hcz10_1, hfz10_0, hfz10_1⟩ := c2 BK345; have hnb11 := NB346_347.out; have hnc11 := NB347_346.out; obtain ⟨hcz12_0, hcz12_1, hfz12_0, hfz12_1⟩ := c2 BK346; obtain ⟨hcz13_0, hcz13_1, hfz13_0, hfz13_1⟩ := c2 BK347))
 refine bodyPost_ret (results_cell_row rfl _ _ gb347 56 #[.int .i64 ji3, .int .i64 ji4] (0, 0) _ rfl (by (with_reducible repeat (first | refine blk_drewN ?_ _ | refine blk_drew ?_ | refine blk_alloc ?_ _)); refine blk_put (cs := #[.int .i64 ji3, .int .i64 0]) ?_ 1 _ rfl; (with_reducible repeat (first | refine blk_drewN ?_ _ | refine blk_drew ?_ | refine blk_alloc ?_ _)); refine blk_put (cs := #[.int .i64 0, .int .i64 0]) ?_ 0 _ rfl; (with_reducible repeat (first | refine blk_drewN ?_ _ | refine blk_drew ?_ | refine blk_alloc ?_ _)); exact BK347.out) Try.underlying56 rfl (by kernel_rfl)) rfl ?_
 exact ⟨by first | rfl | (simp [errW_none, errW_some] <;> rfl) | (simp only [← hji3, ← hji4]; first | rfl | (simp [errW_none, errW_some] <;> rfl)) | (simp [*, errW_none, errW_some] <;> rfl), by repeat (first | (with_reducible first | exact HB.out | apply below_alloc | apply pw_below_drewN | apply below_drew1 | refine below_set ?_ GE345.out | refine below_set ?_ GE346.out | refine below_set ?_ GE347.out) | exact HB.out)⟩

/-! ### avermentref10_hull: function 76 -/
def avermentref10_hull.l0 : Nat → List Int → Int → Int → Int → Option (Int × Int × Bool)
 | 0, _, _, _, _ => none
 | k + 1, x0, x7, x354000, x354001 => if x7 < (x0.length : Int) then (if 0 ≤ x7 then ((avermentref10_Join.f x354000 x354001 (rd x0 x7) (rd x0 x7)).bind fun bt356 => (avermentref10_hull.l0 k x0 (wrap64 (x7 + 1)) bt356.1 bt356.2)) else (none)) else (some (x354000, x354001, true))
def avermentref10_hull.f (k : Nat) (l0 : List Int) (a1 : Bool) : Option (Int × Int × Bool) := if a1 = true then (if 0 < (l0.length : Int) then (avermentref10_hull.l0 k l0 1 (rd l0 0) (rd l0 0)) else (none)) else ((avermentref10_Any.f).bind fun bt349 => (some (bt349.1, bt349.2, true)))
theorem avermentref10_hull.mono_l : ∀ k, (∀ y0 y1 y2 y3, LeO (avermentref10_hull.l0 k y0 y1 y2 y3) (avermentref10_hull.l0 (k + 1) y0 y1 y2 y3))
 | 0 => fun _ _ _ _ r h => by simp [avermentref10_hull.l0] at h
 | k + 1 => by
  have ih0 := avermentref10_hull.mono_l k
  ·
   intro y0 y1 y2 y3
   unfold avermentref10_hull.l0
   repeat' first
   | (with_reducible exact ih0 _ _ _ _)
   | (with_reducible exact LeO.refl _)
   | (with_reducible exact LeO.none _)
   | (with_reducible refine LeO.ite ?_ ?_)
   | (with_reducible refine LeO.bind ?_ (fun _ => ?_))
   | exact ih0 _ _ _ _
   | exact LeO.none _
   | refine LeO.ite ?_ ?_
   | refine LeO.bind ?_ (fun _ => ?_)
theorem avermentref10_hull.mono : ∀ a0 a1 k, LeO (avermentref10_hull.f k a0 a1) (avermentref10_hull.f (k + 1) a0 a1) := by
 intro a0 a1 k
 have ih0 := avermentref10_hull.mono_l k
 unfold avermentref10_hull.f
 repeat' first
   | (with_reducible exact ih0 _ _ _ _)
   | (with_reducible exact LeO.refl _)
   | (with_reducible exact LeO.none _)
   | (with_reducible refine LeO.ite ?_ ?_)
   | (with_reducible refine LeO.bind ?_ (fun _ => ?_))
   | exact ih0 _ _ _ _
   | exact LeO.none _
   | refine LeO.ite ?_ ?_
   | refine LeO.bind ?_ (fun _ => ?_)
def avermentref10_hull.T3 : Bool × List (List Nat × List Nat) := (true, [([], []), ([0], [0]), ([1], [1]), ([], []), ([3], [3]), ([4], [4]), ([2, 5], [2, 5]), ([], []), ([7, 6, 0, 1, 2, 3, 4, 5, 6, 7], [6, 7])])
def avermentref10_hull.B3 : List Nat := [0, 1, 3, 0, 8, 24, 63, 0, 255]
theorem avermentref10_hull.tab3 : rtab .any (opsOf Try.f76 3) = avermentref10_hull.T3 := by kernel_rfl
theorem avermentref10_hull.bits3 : waitsOk avermentref10_hull.T3.2 avermentref10_hull.B3 = true := by kernel_rfl
def avermentref10_hull.T7 : Bool × List (List Nat × List Nat) := (true, [([], []), ([], []), ([], []), ([1, 2], [1, 2]), ([3], [3]), ([], []), ([], []), ([5, 6], [5, 6]), ([7], [7]), ([4, 8], [4, 8]), ([0, 9], [0, 9]), ([10, 10, 0, 1, 2, 3, 4, 5, 6, 7, 8, 9, 10], [10])])
def avermentref10_hull.B7 : List Nat := [0, 0, 0, 6, 14, 0, 0, 96, 224, 510, 1023, 2047]
theorem avermentref10_hull.tab7 : rtab .any (opsOf Try.f76 7) = avermentref10_hull.T7 := by kernel_rfl
theorem avermentref10_hull.bits7 : waitsOk avermentref10_hull.T7.2 avermentref10_hull.B7 = true := by kernel_rfl
set_option maxHeartbeats 8000000 in
set_option maxRecDepth 100000 in
theorem avermentref10_hull.calls (k : Nat) (A0 : Option Addr) (c0 : Nat) (l0 : List Int) (a1 : Bool) (r1 : Int) (r2 : Int) (r3 : Bool) (w : World) (hr0 : Kd.C (Kd.int .i64) w A0 l0.length l0) (hc0 : l0.length ≤ c0) (h : avermentref10_hull.f k l0 a1 = some (r1, r2, r3)) :
  Calls Try.prog 76 #[.slice A0 l0.length c0, .bool a1] w fun e w' => e = .returned (.tuple #[.agg #[.int .i64 r1, .int .i64 r2], .bool r3]) ∧ Below w.heap.size w w' := by
 have hu56 := Try.underlying56
 have HR0 := Aside0.mk hr0
 have HC0 := Aside0.mk hc0
 clear hr0 hc0
 have HB := Aside0.mk (Below.refl w.heap.size w)
 have H : (if a1 = true then (if 0 < (l0.length : Int) then (avermentref10_hull.l0 k l0 1 (rd l0 0) (rd l0 0)) else (none)) else ((avermentref10_Any.f).bind fun bt349 => (some (bt349.1, bt349.2, true)))) = some (r1, r2, r3) := h
 clear h
 by_cases c3 : a1 = true
 ·
  subst c3
  rw [if_pos rfl] at H
  by_cases c4 : 0 < (l0.length : Int)
  ·
   rw [if_pos c4] at H
   have c4b0 : decide (0 < (l0.length : Int)) = true := decide_eq_true c4
   have c4b1 : decide (0 < l0.length) = true := decide_eq_true (by omega)
   clear c4
   have H' := Aside0.mk H
   clear H
   go_enter Try.func76, Try.ntmps76
   try go_wp2_with (first | ((with_reducible refine gate_dst (N := 4) rfl ?_); refine box_event ?hg (N := 4) ?hd (cs := #[.int .i64 0, .int .i64 0]) (t := 56) ?hr ?_; (case hd => rfl); (case hg => rfl); (case hr => first | (go_simp; done) | (go_simp; rfl)); intro gb348 hg w5 hbox hb; have BK348 := Aside0.mk (hbox); have GW348 := geb hg HB rfl; have GE348 := geb hg HB rfl; replace HB := hst HB hb rfl; clear hb hbox hg))
   replace BK348 := Aside0.mk (blk_drew BK348.out); replace HB := Aside0.mk (below_drew1 HB.out)
   have p351 : 0 ≤ (0 : Int) := (by omega)
   have q351 : 0 < (l0.length : Int) := of_decide_eq_true (by first | (with_reducible assumption) | assumption)
   obtain ⟨ad351, e351, hx351_0⟩ := Kd.at_int HR0.out 0 p351 q351
   have hw351_0 := hx351_0
   (try rw [show ((0 : Int)).toNat = 0 from rfl] at hw351_0)
   (try rw [show 0 * 1 = 0 from rfl] at hw351_0)
   (try rw [Addr.add_zero'] at hw351_0)
   cases e351
   have qi351 : (0 < l0.length) = True := eq_true (by omega)
   (try rw [show ((0 : Int)).toNat = 0 from rfl] at hx351_0)
   (try rw [Addr.add_zero'] at hx351_0)
   replace hx351_0 := (HB.out.cell (World.block_lt_of_cell? w _ hx351_0)).trans hx351_0
   replace p351 := eq_true p351
   replace q351 := eq_true q351
   have p352 : 0 ≤ (0 : Int) := (by omega)
   have q352 : 0 < (l0.length : Int) := of_decide_eq_true (by first | (with_reducible assumption) | assumption)
   obtain ⟨ad352, e352, hx352_0⟩ := Kd.at_int HR0.out 0 p352 q352
   have hw352_0 := hx352_0
   (try rw [show ((0 : Int)).toNat = 0 from rfl] at hw352_0)
   (try rw [show 0 * 1 = 0 from rfl] at hw352_0)
   (try rw [Addr.add_zero'] at hw352_0)
   obtain rfl : ad351 = ad352 := (by injection e352)
   have qi352 : (0 < l0.length) = True := eq_true (by omega)
   (try rw [show ((0 : Int)).toNat = 0 from rfl] at hx352_0)
   (try rw [Addr.add_zero'] at hx352_0)
   replace hx352_0 := (HB.out.cell (World.block_lt_of_cell? w _ hx352_0)).trans hx352_0
   replace p352 := eq_true p352
   replace q352 := eq_true q352
   refine start_ (n := 9) (S := fun w' => w'.cell? ad351 = some (.int .i64 (rd l0 0)) ∧ w'.cell? ad351 = some (.int .i64 (rd l0 0))) (ds := []) #[false, false, false, false, false, false, false, false, false] (by kernel_rfl) rfl rfl ⟨((HB.out.cell (World.block_lt_of_cell? w _ hw351_0)).trans hw351_0), ((HB.out.cell (World.block_lt_of_cell? w _ hw352_0)).trans hw352_0)⟩ (fun hHeld => ?_); refine with_tabW avermentref10_hull.tab3 avermentref10_hull.bits3 (fun HT_ HW_ => ?_)
   generalize w5.drew = w6 at BK348 HB hx351_0 hx352_0 hHeld ⊢
   refine pure_ (i := 0) (N := some 11) (v := ?_) (a' := ?_) #[true, false, false, false, false, false, false, false, false] rfl rfl (any_of HT_.out (by kernel_rfl)) (fun _ _ _ h => h) (Or.inl ⟨by rfl, ?_⟩) ?_ ?_
   rotate_left; · (intro w'; go_simp; with_reducible rfl)
   rotate_left; · (simp only [Act.put, List.setIfInBounds_toArray, List.set_cons_zero, List.set_cons_succ, i64_w, i32_w]; rfl)
   refine pure_ (i := 1) (N := some 12) (v := ?_) (a' := ?_) #[true, true, false, false, false, false, false, false, false] rfl rfl (any_of HT_.out (by kernel_rfl)) (fun _ _ _ h => h) (Or.inl ⟨by rfl, ?_⟩) ?_ ?_
   rotate_left; · (intro w'; go_simp; with_reducible rfl)
   rotate_left; · (simp only [Act.put, List.setIfInBounds_toArray, List.set_cons_zero, List.set_cons_succ, i64_w, i32_w]; rfl)
   refine pure_ (i := 3) (N := some 14) (v := ?_) (a' := ?_) #[true, true, false, true, false, false, false, false, false] rfl rfl (any_of HT_.out (by kernel_rfl)) (fun _ _ _ h => h) (Or.inl ⟨by rfl, ?_⟩) ?_ ?_
   rotate_left; · (intro w'; go_simp; with_reducible rfl)
   rotate_left; · (simp only [Act.put, List.setIfInBounds_toArray, List.set_cons_zero, List.set_cons_succ, i64_w, i32_w]; rfl)
   refine pure_ (i := 4) (N := some 15) (v := ?_) (a' := ?_) #[true, true, false, true, true, false, false, false, false] rfl rfl (any_of HT_.out (by kernel_rfl)) (fun _ _ _ h => h) (Or.inl ⟨by rfl, ?_⟩) ?_ ?_
   rotate_left; · (intro w'; go_simp; with_reducible rfl)
   rotate_left; · (simp only [Act.put, List.setIfInBounds_toArray, List.set_cons_zero, List.set_cons_succ, i64_w, i32_w]; rfl)
   refine take_ (i := 2) (N := some 13) (v := ?_) (a' := ?_) #[true, true, true, true, true, false, false, false, false] rfl rfl (take_ofW HT_.out HW_.out (by kernel_rfl)) (fun _ _ _ h => h) (Or.inl ⟨by rfl, ?_⟩) hHeld ?_ ?_
   rotate_left
   ·
    rintro w' ⟨s0, s1⟩
    go_simp
    with_reducible rfl
   rotate_left
   ·
    simp only [Act.put, List.setIfInBounds_toArray, List.set_cons_zero, List.set_cons_succ, i64_w, i32_w]
    rfl
   refine take_ (i := 5) (N := some 16) (v := ?_) (a' := ?_) #[true, true, true, true, true, true, false, false, false] rfl rfl (take_ofW HT_.out HW_.out (by kernel_rfl)) (fun _ _ _ h => h) (Or.inl ⟨by rfl, ?_⟩) hHeld ?_ ?_
   rotate_left
   ·
    rintro w' ⟨s0, s1⟩
    go_simp
    with_reducible rfl
   rotate_left
   ·
    simp only [Act.put, List.setIfInBounds_toArray, List.set_cons_zero, List.set_cons_succ, i64_w, i32_w]
    rfl
   refine pure_ (i := 6) (N := some 17) (v := ?_) (a' := ?_) #[true, true, true, true, true, true, true, false, false] rfl rfl (any_of HT_.out (by kernel_rfl)) (fun _ _ _ h => h) (Or.inl ⟨by rfl, ?_⟩) ?_ ?_
   rotate_left; · (intro w'; go_simp; with_reducible rfl)
   rotate_left; · (simp only [Act.put, List.setIfInBounds_toArray, List.set_cons_zero, List.set_cons_succ, i64_w, i32_w]; rfl)
   refine one_ (i := 7) (N := some 6) #[true, true, true, true, true, true, true, true, false] rfl rfl (one_of HT_.out (by kernel_rfl)) (by decide) (fun K hK => ?_)
   refine box_step ?hg (N := 6) ?hd (cs := #[.int .i64 0, .int .i64 0]) (t := 56) ?hr ?_; (case hd => rfl); (case hg => rfl); (case hr => first | (go_simp; done) | (go_simp; rfl))
   intro gb353 hg w7 hbox hb
   have BK353 := Aside0.mk (hbox)
   have GW353 := geb hg HB rfl
   have GE353 := geb hg HB rfl
   have NB348_353 := nbl hg BK348 rfl
   have NB353_348 := nbr hg BK348 rfl
   replace BK348 := bb BK348 hb rfl; replace HB := hst HB hb rfl
   clear hb hbox hg
   refine hK.out _ _ ⟨((HB.out.cell (World.block_lt_of_cell? w _ hw351_0)).trans hw351_0), ((HB.out.cell (World.block_lt_of_cell? w _ hw352_0)).trans hw352_0)⟩ (fun hHeld => ?_)
   clear hK K
   refine norm_ (a' := ?_) ?_ ?_
   rotate_left; · (show Act.put _ (some 6) _ = _; simp only [Act.put, List.setIfInBounds_toArray, List.set_cons_zero, List.set_cons_succ, i64_w, i32_w]; rfl)
   refine one_ (i := 8) (N := none) #[true, true, true, true, true, true, true, true, true] rfl rfl (one_of HT_.out (by kernel_rfl)) (by decide) (fun K hK => ?_)
   have hs8 : w7.cell? ⟨gb353, 0, none⟩ = some (.int .i64 0) := bc BK353 0 rfl
   have hfs8 := blk_frozen BK353.out 0
   have hns8_0 := NB348_353.out
   have hms8_0 := NB353_348.out
   have hs9 : w7.cell? ⟨gb353, 1, none⟩ = some (.int .i64 0) := bc BK353 1 rfl
   have hfs9 := blk_frozen BK353.out 1
   have hns9_0 := NB348_353.out
   have hms9_0 := NB353_348.out
   refine skip_ (w1 := ?_) (by rfl) rfl ?_ ?_
   rotate_left
   ·
    go_simp
    rfl
   refine hK.out _ _ ⟨((cell_far (p := ⟨gb353, _, none⟩) (by first | exact Nat.ne_of_lt (Nat.lt_of_lt_of_le (by have := World.block_lt_of_cell? _ _ hw351_0; first | rwa [add_block] at this | exact this) GW353.out) | (rw [add_block]; exact Nat.ne_of_lt (Nat.lt_of_lt_of_le (by have := World.block_lt_of_cell? _ _ hw351_0; first | rwa [add_block] at this | exact this) GW353.out)) | (show (Addr.add _ _).block ≠ _; rw [add_block]; exact Nat.ne_of_lt (Nat.lt_of_lt_of_le (by have := World.block_lt_of_cell? _ _ hw351_0; first | rwa [add_block] at this | exact this) GW353.out)) | (dsimp only; exact Nat.ne_of_lt (Nat.lt_of_lt_of_le (by have := World.block_lt_of_cell? _ _ hw351_0; first | rwa [add_block] at this | exact this) GW353.out))) _).trans (((cell_far (p := ⟨gb353, _, none⟩) (by first | exact Nat.ne_of_lt (Nat.lt_of_lt_of_le (by have := World.block_lt_of_cell? _ _ hw351_0; first | rwa [add_block] at this | exact this) GW353.out) | (rw [add_block]; exact Nat.ne_of_lt (Nat.lt_of_lt_of_le (by have := World.block_lt_of_cell? _ _ hw351_0; first | rwa [add_block] at this | exact this) GW353.out)) | (show (Addr.add _ _).block ≠ _; rw [add_block]; exact Nat.ne_of_lt (Nat.lt_of_lt_of_le (by have := World.block_lt_of_cell? _ _ hw351_0; first | rwa [add_block] at this | exact this) GW353.out)) | (dsimp only; exact Nat.ne_of_lt (Nat.lt_of_lt_of_le (by have := World.block_lt_of_cell? _ _ hw351_0; first | rwa [add_block] at this | exact this) GW353.out))) _).trans (hHeld.1)))), ((cell_far (p := ⟨gb353, _, none⟩) (by first | exact Nat.ne_of_lt (Nat.lt_of_lt_of_le (by have := World.block_lt_of_cell? _ _ hw352_0; first | rwa [add_block] at this | exact this) GW353.out) | (rw [add_block]; exact Nat.ne_of_lt (Nat.lt_of_lt_of_le (by have := World.block_lt_of_cell? _ _ hw352_0; first | rwa [add_block] at this | exact this) GW353.out)) | (show (Addr.add _ _).block ≠ _; rw [add_block]; exact Nat.ne_of_lt (Nat.lt_of_lt_of_le (by have := World.block_lt_of_cell? _ _ hw352_0; first | rwa [add_block] at this | exact this) GW353.out)) | (dsimp only; exact Nat.ne_of_lt (Nat.lt_of_lt_of_le (by have := World.block_lt_of_cell? _ _ hw352_0; first | rwa [add_block] at this | exact this) GW353.out))) _).trans (((cell_far (p := ⟨gb353, _, none⟩) (by first | exact Nat.ne_of_lt (Nat.lt_of_lt_of_le (by have := World.block_lt_of_cell? _ _ hw352_0; first | rwa [add_block] at this | exact this) GW353.out) | (rw [add_block]; exact Nat.ne_of_lt (Nat.lt_of_lt_of_le (by have := World.block_lt_of_cell? _ _ hw352_0; first | rwa [add_block] at this | exact this) GW353.out)) | (show (Addr.add _ _).block ≠ _; rw [add_block]; exact Nat.ne_of_lt (Nat.lt_of_lt_of_le (by have := World.block_lt_of_cell? _ _ hw352_0; first | rwa [add_block] at this | exact this) GW353.out)) | (dsimp only; exact Nat.ne_of_lt (Nat.lt_of_lt_of_le (by have := World.block_lt_of_cell? _ _ hw352_0; first | rwa [add_block] at this | exact this) GW353.out))) _).trans (hHeld.2))))⟩ (fun hHeld => ?_)
   clear hK K
   refine done_ (done_of HT_.out (by kernel_rfl)) ?_
   try go_wp2
   go_loopg [7] k (fun kq v7 w' => ∃ (x7_1 : Int) (x354000_1 : Int) (x354001_1 : Int), v7 = .int .i64 x7_1 ∧ Aside0 (avermentref10_hull.l0 kq l0 x7_1 x354000_1 x354001_1 = some (r1, r2, r3)) ∧ Aside0 (kq ≤ k) ∧ Aside0 (w'.heap[gb348]? = some (.cells #[.int .i64 0, .int .i64 0] 56 (0, 0))) ∧ Aside0 (w'.heap[gb353]? = some (.cells #[.int .i64 x354000_1, .int .i64 x354001_1] 56 (0, 0))) ∧ Aside0 (Below w.heap.size w w'))
   case atStart => exact ⟨(1), (rd l0 0), (rd l0 0), (by first | rfl | (simp; done) | (simp [*]; done)), H', ⟨Nat.le_refl _⟩, ⟨by (with_reducible repeat (first | refine blk_drewN ?_ _ | refine blk_drew ?_ | refine blk_alloc ?_ _)); refine blk_far ?_ NB348_353.out _; (with_reducible repeat (first | refine blk_drewN ?_ _ | refine blk_drew ?_ | refine blk_alloc ?_ _)); refine blk_far ?_ NB348_353.out _; (with_reducible repeat (first | refine blk_drewN ?_ _ | refine blk_drew ?_ | refine blk_alloc ?_ _)); exact BK348.out⟩, ⟨by (with_reducible repeat (first | refine blk_drewN ?_ _ | refine blk_drew ?_ | refine blk_alloc ?_ _)); refine blk_put (cs := #[.int .i64 (rd l0 0), .int .i64 0]) ?_ 1 _ rfl; (with_reducible repeat (first | refine blk_drewN ?_ _ | refine blk_drew ?_ | refine blk_alloc ?_ _)); refine blk_put (cs := #[.int .i64 0, .int .i64 0]) ?_ 0 _ rfl; (with_reducible repeat (first | refine blk_drewN ?_ _ | refine blk_drew ?_ | refine blk_alloc ?_ _)); exact BK353.out⟩, ⟨by repeat (first | (with_reducible first | exact HB.out | apply below_alloc | apply pw_below_drewN | apply below_drew1 | refine below_set ?_ GE348.out | refine below_set ?_ GE353.out) | exact HB.out)⟩⟩
   case round =>
    clear H'
    try clear p2
    try clear c3
    try clear p3
    try clear q3
    try clear hx3
    try clear qi3
    try clear c4
    try clear c4b0
    try clear c4b1
    try clear c7
    try clear hx351_0
    try clear hx352_0
    try clear p351
    try clear p352
    try clear q351
    try clear q352
    obtain ⟨x7_1, x354000_1, x354001_1, rfl, HA, HK1, BK348, BK353, HB⟩ := hrel
    cases gk with
    | zero => exact absurd HA.out (by simp [avermentref10_hull.l0])
    | succ k1 =>
     have H := HA.out
     clear HA
     simp only [avermentref10_hull.l0] at H
     by_cases c10 : x7_1 < (l0.length : Int)
     ·
      rw [if_pos c10] at H
      have c10b0 : decide (x7_1 < (l0.length : Int)) = true := decide_eq_true c10
      clear c10
      by_cases c11 : 0 ≤ x7_1
      ·
       rw [if_pos c11] at H
       have c11b0 : decide (0 ≤ x7_1) = true := decide_eq_true c11
       clear c11
       replace H := Option.bind_eq_some_iff.mp H
       obtain ⟨⟨t356, t357⟩, A120, H⟩ := H
       (try dsimp only at H)
       have A12 := Aside0.mk A120
       clear A120
       have H' := Aside0.mk H
       clear H
       try go_wp2
       replace BK348 := Aside0.mk (blk_drew BK348.out); replace BK353 := Aside0.mk (blk_drew BK353.out); replace HB := Aside0.mk (below_drew1 HB.out)
       have p354 : 0 ≤ (x7_1 : Int) := of_decide_eq_true (by first | (with_reducible assumption) | assumption)
       have q354 : x7_1 < (l0.length : Int) := of_decide_eq_true (by first | (with_reducible assumption) | assumption)
       obtain ⟨ad354, e354, hx354_0⟩ := Kd.at_int HR0.out x7_1 p354 q354
       have hw354_0 := hx354_0
       obtain rfl : ad351 = ad354 := (by injection e354)
       replace hx354_0 := (HB.out.cell (World.block_lt_of_cell? w _ hx354_0)).trans hx354_0
       replace p354 := eq_true p354
       replace q354 := eq_true q354
       have p355 : 0 ≤ (x7_1 : Int) := of_decide_eq_true (by first | (with_reducible assumption) | assumption)
       have q355 : x7_1 < (l0.length : Int) := of_decide_eq_true (by first | (with_reducible assumption) | assumption)
       obtain ⟨ad355, e355, hx355_0⟩ := Kd.at_int HR0.out x7_1 p355 q355
       have hw355_0 := hx355_0
       obtain rfl : ad351 = ad355 := (by injection e355)
       replace hx355_0 := (HB.out.cell (World.block_lt_of_cell? w _ hx355_0)).trans hx355_0
       replace p355 := eq_true p355
       replace q355 := eq_true q355
       refine start_ (n := 12) (S := fun w' => w'.cell? ⟨gb353, 0, none⟩ = some (.int .i64 x354000_1) ∧ w'.cell? ⟨gb353, 1, none⟩ = some (.int .i64 x354001_1) ∧ w'.cell? (ad351.add (x7_1).toNat) = some (.int .i64 (rd l0 x7_1)) ∧ w'.cell? (ad351.add (x7_1).toNat) = some (.int .i64 (rd l0 x7_1))) (ds := [11]) #[false, false, false, false, false, false, false, false, false, false, false, false] (by kernel_rfl) rfl rfl ⟨bc BK353 0 rfl, bc BK353 1 rfl, ((HB.out.cell (World.block_lt_of_cell? w _ hw354_0)).trans hw354_0), ((HB.out.cell (World.block_lt_of_cell? w _ hw355_0)).trans hw355_0)⟩ (fun hHeld => ?_); refine with_tabW avermentref10_hull.tab7 avermentref10_hull.bits7 (fun HT_ HW_ => ?_)
       generalize wr.drew = w13 at BK348 BK353 HB hx354_0 hx355_0 hHeld ⊢
       refine pure_ (i := 1) (N := some 25) (v := ?_) (a' := ?_) #[false, true, false, false, false, false, false, false, false, false, false, false] rfl rfl (any_of HT_.out (by kernel_rfl)) (fun _ _ _ h => h) (Or.inl ⟨by rfl, ?_⟩) ?_ ?_
       rotate_left; · (intro w'; go_simp; with_reducible rfl)
       rotate_left; · (simp only [Act.put, List.setIfInBounds_toArray, List.set_cons_zero, List.set_cons_succ, i64_w, i32_w]; rfl)
       refine pure_ (i := 2) (N := some 26) (v := ?_) (a' := ?_) #[false, true, true, false, false, false, false, false, false, false, false, false] rfl rfl (any_of HT_.out (by kernel_rfl)) (fun _ _ _ h => h) (Or.inl ⟨by rfl, ?_⟩) ?_ ?_
       rotate_left; · (intro w'; go_simp; with_reducible rfl)
       rotate_left; · (simp only [Act.put, List.setIfInBounds_toArray, List.set_cons_zero, List.set_cons_succ, i64_w, i32_w]; rfl)
       refine pure_ (i := 3) (N := some 27) (v := ?_) (a' := ?_) #[false, true, true, true, false, false, false, false, false, false, false, false] rfl rfl (any_of HT_.out (by kernel_rfl)) (fun _ _ _ h => h) (Or.inl ⟨by rfl, ?_⟩) ?_ ?_
       rotate_left; · (intro w'; go_simp; with_reducible rfl)
       rotate_left; · (simp only [Act.put, List.setIfInBounds_toArray, List.set_cons_zero, List.set_cons_succ, i64_w, i32_w]; rfl)
       refine pure_ (i := 5) (N := some 29) (v := ?_) (a' := ?_) #[false, true, true, true, false, true, false, false, false, false, false, false] rfl rfl (any_of HT_.out (by kernel_rfl)) (fun _ _ _ h => h) (Or.inl ⟨by rfl, ?_⟩) ?_ ?_
       rotate_left; · (intro w'; go_simp; with_reducible rfl)
       rotate_left; · (simp only [Act.put, List.setIfInBounds_toArray, List.set_cons_zero, List.set_cons_succ, i64_w, i32_w]; rfl)
       refine pure_ (i := 6) (N := some 30) (v := ?_) (a' := ?_) #[false, true, true, true, false, true, true, false, false, false, false, false] rfl rfl (any_of HT_.out (by kernel_rfl)) (fun _ _ _ h => h) (Or.inl ⟨by rfl, ?_⟩) ?_ ?_
       rotate_left; · (intro w'; go_simp; with_reducible rfl)
       rotate_left; · (simp only [Act.put, List.setIfInBounds_toArray, List.set_cons_zero, List.set_cons_succ, i64_w, i32_w]; rfl)
       refine pure_ (i := 7) (N := some 31) (v := ?_) (a' := ?_) #[false, true, true, true, false, true, true, true, false, false, false, false] rfl rfl (any_of HT_.out (by kernel_rfl)) (fun _ _ _ h => h) (Or.inl ⟨by rfl, ?_⟩) ?_ ?_
       rotate_left; · (intro w'; go_simp; with_reducible rfl)
       rotate_left; · (simp only [Act.put, List.setIfInBounds_toArray, List.set_cons_zero, List.set_cons_succ, i64_w, i32_w]; rfl)
       refine take_ (i := 0) (N := some 24) (v := ?_) (a' := ?_) #[true, true, true, true, false, true, true, true, false, false, false, false] rfl rfl (take_ofW HT_.out HW_.out (by kernel_rfl)) (fun _ _ _ h => h) (Or.inl ⟨by rfl, ?_⟩) hHeld ?_ ?_
       rotate_left
       ·
        rintro w' ⟨s0, s1, s2, s3⟩
        go_simp
        with_reducible rfl
       rotate_left
       ·
        simp only [Act.put, List.setIfInBounds_toArray, List.set_cons_zero, List.set_cons_succ, i64_w, i32_w]
        rfl
       refine take_ (i := 4) (N := some 28) (v := ?_) (a' := ?_) #[true, true, true, true, true, true, true, true, false, false, false, false] rfl rfl (take_ofW HT_.out HW_.out (by kernel_rfl)) (fun _ _ _ h => h) (Or.inl ⟨by rfl, ?_⟩) hHeld ?_ ?_
       rotate_left
       ·
        rintro w' ⟨s0, s1, s2, s3⟩
        go_simp
        with_reducible rfl
       rotate_left
       ·
        simp only [Act.put, List.setIfInBounds_toArray, List.set_cons_zero, List.set_cons_succ, i64_w, i32_w]
        rfl
       refine take_ (i := 8) (N := some 32) (v := ?_) (a' := ?_) #[true, true, true, true, true, true, true, true, true, false, false, false] rfl rfl (take_ofW HT_.out HW_.out (by kernel_rfl)) (fun _ _ _ h => h) (Or.inl ⟨by rfl, ?_⟩) hHeld ?_ ?_
       rotate_left
       ·
        rintro w' ⟨s0, s1, s2, s3⟩
        go_simp
        with_reducible rfl
       rotate_left
       ·
        simp only [Act.put, List.setIfInBounds_toArray, List.set_cons_zero, List.set_cons_succ, i64_w, i32_w]
        rfl
       refine pure_ (i := 9) (N := some 33) (v := ?_) (a' := ?_) #[true, true, true, true, true, true, true, true, true, true, false, false] rfl rfl (any_of HT_.out (by kernel_rfl)) (fun _ _ _ h => h) (Or.inl ⟨by rfl, ?_⟩) ?_ ?_
       rotate_left; · (intro w'; go_simp; with_reducible rfl)
       rotate_left; · (simp only [Act.put, List.setIfInBounds_toArray, List.set_cons_zero, List.set_cons_succ, i64_w, i32_w]; rfl)
       refine one_ (i := 10) (N := some 34) #[true, true, true, true, true, true, true, true, true, true, true, false] rfl rfl (one_of HT_.out (by kernel_rfl)) (by decide) (fun K hK => ?_)
       refine goes_ Try.func49 (by kernel_rfl) rfl #[.agg #[.int .i64 x354000_1, .int .i64 x354001_1], .agg #[.int .i64 (rd l0 x7_1), .int .i64 (rd l0 x7_1)]] (by rfl) rfl rfl (mapq rfl) ?_
       with_reducible refine (avermentref10_Join.calls x354000_1 x354001_1 (rd l0 x7_1) (rd l0 x7_1) t356 t357 _ A12.out).mono ?_
       rintro e w14 ⟨rfl, hb⟩
       refine ⟨_, rfl, ?_⟩
       replace BK348 := bb BK348 hb rfl; replace BK353 := bb BK353 hb rfl; replace HB := hst HB hb rfl
       (try clear hb)
       refine hK.out _ _ ⟨bc BK353 0 rfl, bc BK353 1 rfl, ((HB.out.cell (World.block_lt_of_cell? w _ hw354_0)).trans hw354_0), ((HB.out.cell (World.block_lt_of_cell? w _ hw355_0)).trans hw355_0)⟩ (fun hHeld => ?_)
       clear hK K
       refine norm_ (a' := ?_) ?_ ?_
       rotate_left; · (show Act.put _ (some 34) _ = _; simp only [Act.put, List.setIfInBounds_toArray, List.set_cons_zero, List.set_cons_succ, i64_w, i32_w]; rfl)
       refine last_ (i := 11) (N := none) #[true, true, true, true, true, true, true, true, true, true, true, true] rfl rfl (one_of HT_.out (by kernel_rfl)) (by decide) (fun K hK => ?_)
       have hs15 : w14.cell? ⟨gb353, 0, none⟩ = some (.int .i64 x354000_1) := bc BK353 0 rfl
       have hfs15 := blk_frozen BK353.out 0
       have hns15_0 := NB348_353.out
       have hms15_0 := NB353_348.out
       have hs16 : w14.cell? ⟨gb353, 1, none⟩ = some (.int .i64 x354001_1) := bc BK353 1 rfl
       have hfs16 := blk_frozen BK353.out 1
       have hns16_0 := NB348_353.out
       have hms16_0 := NB353_348.out
       refine skip_ (w1 := ?_) (by rfl) rfl ?_ ?_
       rotate_left
       ·
        go_simp
        rfl
       refine hK.out _ _ ?_
       clear hK K
       refine done_ (done_of HT_.out (by kernel_rfl)) ?_
       try go_wp2
       go_roundg k1
       case measure => have := HK1.out; omega
       case rel => exact ⟨(wrap64 (x7_1 + 1)), (t356), (t357), (by first | rfl | (simp; done) | (simp [*]; done)), H', ⟨by have := HK1.out; omega⟩, ⟨by (with_reducible repeat (first | refine blk_drewN ?_ _ | refine blk_drew ?_ | refine blk_alloc ?_ _)); refine blk_far ?_ NB348_353.out _; (with_reducible repeat (first | refine blk_drewN ?_ _ | refine blk_drew ?_ | refine blk_alloc ?_ _)); refine blk_far ?_ NB348_353.out _; (with_reducible repeat (first | refine blk_drewN ?_ _ | refine blk_drew ?_ | refine blk_alloc ?_ _)); exact BK348.out⟩, ⟨by (with_reducible repeat (first | refine blk_drewN ?_ _ | refine blk_drew ?_ | refine blk_alloc ?_ _)); refine blk_put (cs := #[.int .i64 t356, .int .i64 x354001_1]) ?_ 1 _ rfl; (with_reducible repeat (first | refine blk_drewN ?_ _ | refine blk_drew ?_ | refine blk_alloc ?_ _)); refine blk_put (cs := #[.int .i64 x354000_1, .int .i64 x354001_1]) ?_ 0 _ rfl; (with_reducible repeat (first | refine blk_drewN ?_ _ | refine blk_drew ?_ | refine blk_alloc ?_ _)); exact BK353.out⟩, ⟨by repeat (first | (with_reducible first | exact HB.out | apply below_alloc | apply pw_below_drewN | apply below_drew1 | refine below_set ?_ GE348.out | refine below_set ?_ GE353.out) | exact HB.out)⟩⟩
      ·
       rw [if_neg c11] at H
       exact absurd H (by simp)
     ·
      rw [if_neg c10] at H
      have c10b0 : decide (x7_1 < (l0.length : Int)) = false := decide_eq_false c10
      clear c10
      simp only [Option.some.injEq, Prod.mk.injEq] at H
      obtain ⟨rfl, rfl, rfl⟩ := H
      have hnb17 := NB353_348.out
      have hnc17 := NB348_353.out
      obtain ⟨hcz18_0, hcz18_1, hfz18_0, hfz18_1⟩ := c2 BK353
      obtain ⟨hcz19_0, hcz19_1, hfz19_0, hfz19_1⟩ := c2 BK348
      go_wp2
      refine bodyPost_ret (results_ct rfl _ _ gb348 56 #[.int .i64 x354000_1, .int .i64 x354001_1] (0, 0) _ rfl (by (with_reducible repeat (first | refine blk_drewN ?_ _ | refine blk_drew ?_ | refine blk_alloc ?_ _)); refine blk_put (cs := #[.int .i64 x354000_1, .int .i64 0]) ?_ 1 _ rfl; (with_reducible repeat (first | refine blk_drewN ?_ _ | refine blk_drew ?_ | refine blk_alloc ?_ _)); refine blk_put (cs := #[.int .i64 0, .int .i64 0]) ?_ 0 _ rfl; (with_reducible repeat (first | refine blk_drewN ?_ _ | refine blk_drew ?_ | refine blk_alloc ?_ _)); exact BK348.out) Try.underlying56 rfl (by kernel_rfl)) rfl ?_
      exact ⟨by first | rfl | (simp [*, errW_none, errW_some] <;> rfl), by repeat (first | (with_reducible first | exact HB.out | apply below_alloc | apply pw_below_drewN | apply below_drew1 | refine below_set ?_ GE348.out | refine below_set ?_ GE353.out) | exact HB.out)⟩
  ·
   rw [if_neg c4] at H
   exact absurd H (by simp)
 ·
  replace c3 := Bool.eq_false_iff.mpr c3
  subst c3
  rw [if_neg (show ¬ (false = true) by decide)] at H
  replace H := Option.bind_eq_some_iff.mp H
  obtain ⟨⟨t349, t350⟩, A200, H⟩ := H
  (try dsimp only at H)
  have A20 := Aside0.mk A200
  clear A200
  simp only [Option.some.injEq, Prod.mk.injEq] at H
  obtain ⟨rfl, rfl, rfl⟩ := H
  go_enter Try.func76, Try.ntmps76
  go_wp2_with (first | ((with_reducible refine gate_dst (N := 4) rfl ?_); refine box_event ?hg (N := 4) ?hd (cs := #[.int .i64 0, .int .i64 0]) (t := 56) ?hr ?_; (case hd => rfl); (case hg => rfl); (case hr => first | (go_simp; done) | (go_simp; rfl)); intro gb348 hg w21 hbox hb; have BK348 := Aside0.mk (hbox); have GW348 := geb hg HB rfl; have GE348 := geb hg HB rfl; replace HB := hst HB hb rfl; clear hb hbox hg) | ((with_reducible refine gate_callee (f := 40) rfl ?_); refine goesL_ (some 10) rfl rfl Try.func40 (by kernel_rfl) rfl #[] rfl (mapq rfl) ?_; (with_reducible refine (avermentref10_Any.calls  t349 t350 _ A20.out).mono ?_); rintro e w22 ⟨rfl, hb⟩; refine ⟨_, rfl, ?_⟩; replace BK348 := bb BK348 hb rfl; replace HB := hst HB hb rfl; (try clear hb); obtain ⟨hcz23_0, hcz23_1, hfz23_0, hfz23_1⟩ := c2 BK348))
  refine bodyPost_ret (results_ct rfl _ _ gb348 56 #[.int .i64 t349, .int .i64 t350] (0, 0) _ rfl (by (with_reducible repeat (first | refine blk_drewN ?_ _ | refine blk_drew ?_ | refine blk_alloc ?_ _)); refine blk_put (cs := #[.int .i64 t349, .int .i64 0]) ?_ 1 _ rfl; (with_reducible repeat (first | refine blk_drewN ?_ _ | refine blk_drew ?_ | refine blk_alloc ?_ _)); refine blk_put (cs := #[.int .i64 0, .int .i64 0]) ?_ 0 _ rfl; (with_reducible repeat (first | refine blk_drewN ?_ _ | refine blk_drew ?_ | refine blk_alloc ?_ _)); exact BK348.out) Try.underlying56 rfl (by kernel_rfl)) rfl ?_
  exact ⟨by first | rfl | (simp [*, errW_none, errW_some] <;> rfl), by repeat (first | (with_reducible first | exact HB.out | apply below_alloc | apply pw_below_drewN | apply below_drew1 | refine below_set ?_ GE348.out) | exact HB.out)⟩

/-! ### avermentref10_sub: function 77 -/
def avermentref10_sub.f (a0 : Int) (a1 : Int) : Option (Int × Bool) := if ((decide (a0 ≥ 0)) == (decide (a1 ≥ 0))) = true then (some (wrap64 (a0 - a1), true)) else (some (wrap64 (a0 - a1), ((decide ((wrap64 (a0 - a1)) ≥ 0)) == (decide (a0 ≥ 0)))))
set_option maxHeartbeats 8000000 in
set_option maxRecDepth 100000 in
theorem avermentref10_sub.calls (a0 : Int) (a1 : Int) (r1 : Int) (r2 : Bool) (w : World) (h : avermentref10_sub.f a0 a1 = some (r1, r2)) :
  Calls Try.prog 77 #[.int .i64 a0, .int .i64 a1] w fun e w' => e = .returned (.tuple #[.int .i64 r1, .bool r2]) ∧ Drawn0 w w' := by
 have H : (if ((decide (a0 ≥ 0)) == (decide (a1 ≥ 0))) = true then (some (wrap64 (a0 - a1), true)) else (some (wrap64 (a0 - a1), ((decide ((wrap64 (a0 - a1)) ≥ 0)) == (decide (a0 ≥ 0)))))) = some (r1, r2) := h
 clear h
 by_cases c3 : ((decide (a0 ≥ 0)) == (decide (a1 ≥ 0))) = true
 ·
  rw [if_pos c3] at H
  have c3b0 : ((decide (a0 ≥ 0)) == (decide (a1 ≥ 0))) = true := c3
  (try (have c3b1 : decide ((decide (a0 ≥ 0)) = (decide (a1 ≥ 0))) = true := by simpa using c3))
  (try (have c3b2 : ((decide (a0 ≥ 0)) == (decide (a1 ≥ 0))) = true := by simpa using c3))
  clear c3
  simp only [Option.some.injEq, Prod.mk.injEq] at H
  obtain ⟨rfl, rfl⟩ := H
  go_enter Try.func77, Try.ntmps77
  go_wp2
  go_ret2
  exact ⟨by first | rfl | (simp; done) | (simp [*]; done), by repeat (first | exact Drawn0.refl _ | apply Drawn0.step)⟩
 ·
  rw [if_neg c3] at H
  have c3b0 : ((decide (a0 ≥ 0)) == (decide (a1 ≥ 0))) = false := by simpa using c3
  (try (have c3b1 : decide ((decide (a0 ≥ 0)) = (decide (a1 ≥ 0))) = false := by simpa using c3))
  (try (have c3b2 : ((decide (a0 ≥ 0)) == (decide (a1 ≥ 0))) = false := by simpa using c3))
  (try (have c3b3 : ¬ ((decide (a0 ≥ 0)) = (decide (a1 ≥ 0))) := by simpa using c3))
  clear c3
  simp only [Option.some.injEq, Prod.mk.injEq] at H
  obtain ⟨rfl, rfl⟩ := H
  go_enter Try.func77, Try.ntmps77
  go_wp2
  go_ret2
  exact ⟨by first | rfl | (simp; done) | (simp [*]; done), by repeat (first | exact Drawn0.refl _ | apply Drawn0.step)⟩

end Go.Proofs.Ytpacmhhaabhdjaa.SM
