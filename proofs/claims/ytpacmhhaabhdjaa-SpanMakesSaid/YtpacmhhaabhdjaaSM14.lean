-- Written by a program of this session: plain functions and their walks. Lean checks it.
import Derived.Test.YtpacmhhaabhdjaaSM0
import Derived.Test.YtpacmhhaabhdjaaSM2
import Derived.Test.YtpacmhhaabhdjaaSM3
import Derived.Test.YtpacmhhaabhdjaaSM9
namespace Go.Proofs.Ytpacmhhaabhdjaa.SM
open Go.RowKit Go.Proofs.YtpacmhhaabhdjaaW.PrintWords Go.Proofs.YtpacmhhaabhdjaaW.PrintLast Go.Proofs.YtpacmhhaabhdjaaW.PrintMore
attribute [local go_sem] max2_int min2_int max_two min_two max_three min_three max_four min_four   -- for this text's walks alone
set_option linter.unusedVariables false
set_option linter.unusedSimpArgs false

attribute [local go_sem high] eqA59
/-! ### span_Branch: function 57 -/
def span_Branch.f (a0_0 : Int) (a0_1 : Int) (a1 : Bool) : Option (Int × Int × Bool) := if a1 = true then ((span_Of.f 0).bind fun bt463 => (if (a0_0 == bt463.1 && (a0_1 == bt463.2)) = true then (some (0, 0, false)) else (if a0_0 = 0 then (some (1, a0_1, true)) else (if a0_1 = 0 then (some (a0_0, (-1), true)) else (some (a0_0, a0_1, true)))))) else ((span_Has.f a0_0 a0_1 0).bind fun t465 => (some (0, 0, t465)))
set_option maxHeartbeats 8000000 in
set_option maxRecDepth 100000 in
theorem span_Branch.calls (a0_0 : Int) (a0_1 : Int) (a1 : Bool) (r1 : Int) (r2 : Int) (r3 : Bool) (w : World) (h : span_Branch.f a0_0 a0_1 a1 = some (r1, r2, r3)) :
  Calls Try.prog 57 #[.agg #[.int .i64 a0_0, .int .i64 a0_1], .bool a1] w fun e w' => e = .returned (.tuple #[.agg #[.int .i64 r1, .int .i64 r2], .bool r3]) ∧ Below w.heap.size w w' := by
 have hu59 := Try.underlying59
 have HB := Aside0.mk (Below.refl w.heap.size w)
 have H : (if a1 = true then ((span_Of.f 0).bind fun bt463 => (if (a0_0 == bt463.1 && (a0_1 == bt463.2)) = true then (some (0, 0, false)) else (if a0_0 = 0 then (some (1, a0_1, true)) else (if a0_1 = 0 then (some (a0_0, (-1), true)) else (some (a0_0, a0_1, true)))))) else ((span_Has.f a0_0 a0_1 0).bind fun t465 => (some (0, 0, t465)))) = some (r1, r2, r3) := h
 clear h
 by_cases c3 : a1 = true
 ·
  subst c3
  rw [if_pos rfl] at H
  replace H := Option.bind_eq_some_iff.mp H
  obtain ⟨⟨t463, t464⟩, A40, H⟩ := H
  (try dsimp only at H)
  have A4 := Aside0.mk A40
  clear A40
  by_cases c5 : (a0_0 == t463 && (a0_1 == t464)) = true
  ·
   rw [if_pos c5] at H
   have c5b0 : (a0_0 == t463 && (a0_1 == t464)) = true := c5
   (try (have c5b1 : decide (a0_0 = t463 && (a0_1 == t464)) = true := by simpa using c5))
   (try (have c5b2 : (a0_0 == t463 && (a0_1 == t464)) = true := by simpa using c5))
   clear c5
   simp only [Option.some.injEq, Prod.mk.injEq] at H
   obtain ⟨rfl, rfl, rfl⟩ := H
   go_enter Try.func57, Try.ntmps57
   try go_wp2_with (first | ((with_reducible refine gate_dst (N := 2) rfl ?_); refine box_event ?hg (N := 2) ?hd (cs := #[.int .i64 a0_0, .int .i64 a0_1]) (t := 59) ?hr ?_; (case hd => rfl); (case hg => rfl); (case hr => first | (go_simp; done) | (go_simp; rfl)); intro gb461 hg w6 hbox hb; have BK461 := Aside0.mk (hbox); have GW461 := geb hg HB rfl; have GE461 := geb hg HB rfl; replace HB := hst HB hb rfl; clear hb hbox hg) | ((with_reducible refine gate_dst (N := 4) rfl ?_); refine box_event ?hg (N := 4) ?hd (cs := #[.int .i64 0, .int .i64 0]) (t := 59) ?hr ?_; (case hd => rfl); (case hg => rfl); (case hr => first | (go_simp; done) | (go_simp; rfl)); intro gb462 hg w7 hbox hb; have BK462 := Aside0.mk (hbox); have GW462 := geb hg HB rfl; have GE462 := geb hg HB rfl; have NB461_462 := nbl hg BK461 rfl; have NB462_461 := nbr hg BK461 rfl; replace BK461 := bb BK461 hb rfl; replace HB := hst HB hb rfl; clear hb hbox hg))
   replace BK461 := Aside0.mk (blk_drew BK461.out); replace BK462 := Aside0.mk (blk_drew BK462.out); replace HB := Aside0.mk (below_drew1 HB.out)
   refine start_ (n := 4) (S := fun w' => w'.cell? ⟨gb461, 0, none⟩ = some (.int .i64 a0_0) ∧ w'.cell? ⟨gb461, 1, none⟩ = some (.int .i64 a0_1)) (ds := []) #[false, false, false, false] (by kernel_rfl) rfl rfl ⟨bc BK461 0 rfl, bc BK461 1 rfl⟩ (fun hHeld => ?_)
   generalize w7.drew = w8 at BK461 BK462 HB hHeld ⊢
   refine take_ (i := 0) (N := some 13) (v := ?_) (a' := ?_) #[true, false, false, false] rfl rfl (by kernel_rfl) (fun _ _ _ h => h) (Or.inl ⟨by rfl, ?_⟩) hHeld ?_ ?_
   rotate_left
   ·
    rintro w' ⟨s0, s1⟩
    go_simp
    with_reducible rfl
   rotate_left
   ·
    simp only [Act.put, List.setIfInBounds_toArray, List.set_cons_zero, List.set_cons_succ, i64_w, i32_w]
    rfl
   refine one_ (i := 1) (N := some 14) #[true, true, false, false] rfl rfl (by kernel_rfl) (by decide) (fun K hK => ?_)
   refine goes_ Try.func45 (by kernel_rfl) rfl #[.int .i64 0] (by rfl) rfl rfl (mapq rfl) ?_
   with_reducible refine (span_Of.calls 0 t463 t464 _ A4.out).mono ?_
   rintro e w9 ⟨rfl, hb⟩
   refine ⟨_, rfl, ?_⟩
   replace BK461 := bb BK461 hb rfl; replace BK462 := bb BK462 hb rfl; replace HB := hst HB hb rfl
   (try clear hb)
   refine hK.out _ _ ⟨bc BK461 0 rfl, bc BK461 1 rfl⟩ (fun hHeld => ?_)
   clear hK K
   refine norm_ (a' := ?_) ?_ ?_
   rotate_left; · (show Act.put _ (some 14) _ = _; simp only [Act.put, List.setIfInBounds_toArray, List.set_cons_zero, List.set_cons_succ, i64_w, i32_w]; rfl)
   refine pure_ (i := 2) (N := some 15) (v := ?_) (a' := ?_) #[true, true, true, false] rfl rfl (by kernel_rfl) (fun _ _ _ h => h) (Or.inl ⟨by rfl, ?_⟩) ?_ ?_
   rotate_left; · (intro w'; go_simp; with_reducible rfl)
   rotate_left; · (simp only [Act.put, List.setIfInBounds_toArray, List.set_cons_zero, List.set_cons_succ, i64_w, i32_w]; rfl)
   refine pure_ (i := 3) (N := some 12) (v := ?_) (a' := ?_) #[true, true, true, true] rfl rfl (by kernel_rfl) (fun _ _ _ h => h) (Or.inl ⟨by rfl, ?_⟩) ?_ ?_
   rotate_left; · (intro w'; go_simp; with_reducible rfl)
   rotate_left; · (simp only [Act.put, List.setIfInBounds_toArray, List.set_cons_zero, List.set_cons_succ, i64_w, i32_w]; rfl)
   refine done_ (by kernel_rfl) ?_
   have hnb10 := NB462_461.out
   have hnc10 := NB461_462.out
   obtain ⟨hcz11_0, hcz11_1, hfz11_0, hfz11_1⟩ := c2 BK462
   try go_wp2
   refine bodyPost_ret (results_ct rfl _ _ gb462 59 #[.int .i64 0, .int .i64 0] (0, 0) _ rfl (by (with_reducible repeat (first | refine blk_drewN ?_ _ | refine blk_drew ?_ | refine blk_alloc ?_ _)); refine blk_put (cs := #[.int .i64 0, .int .i64 0]) ?_ 1 _ rfl; (with_reducible repeat (first | refine blk_drewN ?_ _ | refine blk_drew ?_ | refine blk_alloc ?_ _)); refine blk_put (cs := #[.int .i64 0, .int .i64 0]) ?_ 0 _ rfl; (with_reducible repeat (first | refine blk_drewN ?_ _ | refine blk_drew ?_ | refine blk_alloc ?_ _)); exact BK462.out) Try.underlying59 rfl (by kernel_rfl)) rfl ?_
   exact ⟨by first | rfl | (simp [*, errW_none, errW_some] <;> rfl), by repeat (first | (with_reducible first | exact HB.out | apply below_alloc | apply pw_below_drewN | apply below_drew1 | refine below_set ?_ GE461.out | refine below_set ?_ GE462.out) | exact HB.out)⟩
  ·
   rw [if_neg c5] at H
   have c5b0 : (a0_0 == t463 && (a0_1 == t464)) = false := by simpa using c5
   (try (have c5b1 : decide (a0_0 = t463 && (a0_1 == t464)) = false := by simpa using c5))
   (try (have c5b2 : (a0_0 == t463 && (a0_1 == t464)) = false := by simpa using c5))
   (try (have c5b3 : ¬ (a0_0 = t463 && (a0_1 == t464)) := by simpa using c5))
   clear c5
   by_cases c12 : a0_0 = 0
   ·
    rw [if_pos c12] at H
    have c12b0 : (a0_0 == 0) = true := beq_iff_eq.mpr c12
    have c12b1 : (a0_0 != 0) = false := bne_eq_false_iff_eq.mpr c12
    clear c12
    simp only [Option.some.injEq, Prod.mk.injEq] at H
    obtain ⟨rfl, rfl, rfl⟩ := H
    go_enter Try.func57, Try.ntmps57
    try go_wp2_with (first | ((with_reducible refine gate_dst (N := 2) rfl ?_); refine box_event ?hg (N := 2) ?hd (cs := #[.int .i64 a0_0, .int .i64 a0_1]) (t := 59) ?hr ?_; (case hd => rfl); (case hg => rfl); (case hr => first | (go_simp; done) | (go_simp; rfl)); intro gb461 hg w13 hbox hb; have BK461 := Aside0.mk (hbox); have GW461 := geb hg HB rfl; have GE461 := geb hg HB rfl; replace HB := hst HB hb rfl; clear hb hbox hg) | ((with_reducible refine gate_dst (N := 4) rfl ?_); refine box_event ?hg (N := 4) ?hd (cs := #[.int .i64 0, .int .i64 0]) (t := 59) ?hr ?_; (case hd => rfl); (case hg => rfl); (case hr => first | (go_simp; done) | (go_simp; rfl)); intro gb462 hg w14 hbox hb; have BK462 := Aside0.mk (hbox); have GW462 := geb hg HB rfl; have GE462 := geb hg HB rfl; have NB461_462 := nbl hg BK461 rfl; have NB462_461 := nbr hg BK461 rfl; replace BK461 := bb BK461 hb rfl; replace HB := hst HB hb rfl; clear hb hbox hg))
    replace BK461 := Aside0.mk (blk_drew BK461.out); replace BK462 := Aside0.mk (blk_drew BK462.out); replace HB := Aside0.mk (below_drew1 HB.out)
    refine start_ (n := 4) (S := fun w' => w'.cell? ⟨gb461, 0, none⟩ = some (.int .i64 a0_0) ∧ w'.cell? ⟨gb461, 1, none⟩ = some (.int .i64 a0_1)) (ds := []) #[false, false, false, false] (by kernel_rfl) rfl rfl ⟨bc BK461 0 rfl, bc BK461 1 rfl⟩ (fun hHeld => ?_)
    generalize w14.drew = w15 at BK461 BK462 HB hHeld ⊢
    refine take_ (i := 0) (N := some 13) (v := ?_) (a' := ?_) #[true, false, false, false] rfl rfl (by kernel_rfl) (fun _ _ _ h => h) (Or.inl ⟨by rfl, ?_⟩) hHeld ?_ ?_
    rotate_left
    ·
     rintro w' ⟨s0, s1⟩
     go_simp
     with_reducible rfl
    rotate_left
    ·
     simp only [Act.put, List.setIfInBounds_toArray, List.set_cons_zero, List.set_cons_succ, i64_w, i32_w]
     rfl
    refine one_ (i := 1) (N := some 14) #[true, true, false, false] rfl rfl (by kernel_rfl) (by decide) (fun K hK => ?_)
    refine goes_ Try.func45 (by kernel_rfl) rfl #[.int .i64 0] (by rfl) rfl rfl (mapq rfl) ?_
    with_reducible refine (span_Of.calls 0 t463 t464 _ A4.out).mono ?_
    rintro e w16 ⟨rfl, hb⟩
    refine ⟨_, rfl, ?_⟩
    replace BK461 := bb BK461 hb rfl; replace BK462 := bb BK462 hb rfl; replace HB := hst HB hb rfl
    (try clear hb)
    refine hK.out _ _ ⟨bc BK461 0 rfl, bc BK461 1 rfl⟩ (fun hHeld => ?_)
    clear hK K
    refine norm_ (a' := ?_) ?_ ?_
    rotate_left; · (show Act.put _ (some 14) _ = _; simp only [Act.put, List.setIfInBounds_toArray, List.set_cons_zero, List.set_cons_succ, i64_w, i32_w]; rfl)
    refine pure_ (i := 2) (N := some 15) (v := ?_) (a' := ?_) #[true, true, true, false] rfl rfl (by kernel_rfl) (fun _ _ _ h => h) (Or.inl ⟨by rfl, ?_⟩) ?_ ?_
    rotate_left; · (intro w'; go_simp; with_reducible rfl)
    rotate_left; · (simp only [Act.put, List.setIfInBounds_toArray, List.set_cons_zero, List.set_cons_succ, i64_w, i32_w]; rfl)
    refine pure_ (i := 3) (N := some 12) (v := ?_) (a' := ?_) #[true, true, true, true] rfl rfl (by kernel_rfl) (fun _ _ _ h => h) (Or.inl ⟨by rfl, ?_⟩) ?_ ?_
    rotate_left; · (intro w'; go_simp; with_reducible rfl)
    rotate_left; · (simp only [Act.put, List.setIfInBounds_toArray, List.set_cons_zero, List.set_cons_succ, i64_w, i32_w]; rfl)
    refine done_ (by kernel_rfl) ?_
    have hnb17 := NB461_462.out
    have hnc17 := NB462_461.out
    obtain ⟨hcz18_0, hcz18_1, hfz18_0, hfz18_1⟩ := c2 BK461
    obtain ⟨hcz19_0, hcz19_1, hfz19_0, hfz19_1⟩ := c2 BK462
    try go_wp2
    refine bodyPost_ret (results_ct rfl _ _ gb462 59 #[.int .i64 1, .int .i64 a0_1] (0, 0) _ rfl (by (with_reducible repeat (first | refine blk_drewN ?_ _ | refine blk_drew ?_ | refine blk_alloc ?_ _)); refine blk_put (cs := #[.int .i64 1, .int .i64 0]) ?_ 1 _ rfl; (with_reducible repeat (first | refine blk_drewN ?_ _ | refine blk_drew ?_ | refine blk_alloc ?_ _)); refine blk_put (cs := #[.int .i64 0, .int .i64 0]) ?_ 0 _ rfl; (with_reducible repeat (first | refine blk_drewN ?_ _ | refine blk_drew ?_ | refine blk_alloc ?_ _)); refine blk_far ?_ NB462_461.out _; (with_reducible repeat (first | refine blk_drewN ?_ _ | refine blk_drew ?_ | refine blk_alloc ?_ _)); exact BK462.out) Try.underlying59 rfl (by kernel_rfl)) rfl ?_
    exact ⟨by first | rfl | (simp [*, errW_none, errW_some] <;> rfl), by repeat (first | (with_reducible first | exact HB.out | apply below_alloc | apply pw_below_drewN | apply below_drew1 | refine below_set ?_ GE461.out | refine below_set ?_ GE462.out) | exact HB.out)⟩
   ·
    rw [if_neg c12] at H
    have c12b0 : (a0_0 == 0) = false := beq_eq_false_iff_ne.mpr c12
    have c12b1 : (a0_0 != 0) = true := bne_iff_ne.mpr c12
    by_cases c20 : a0_1 = 0
    ·
     rw [if_pos c20] at H
     have c20b0 : (a0_1 == 0) = true := beq_iff_eq.mpr c20
     have c20b1 : (a0_1 != 0) = false := bne_eq_false_iff_eq.mpr c20
     clear c20
     simp only [Option.some.injEq, Prod.mk.injEq] at H
     obtain ⟨rfl, rfl, rfl⟩ := H
     go_enter Try.func57, Try.ntmps57
     try go_wp2_with (first | ((with_reducible refine gate_dst (N := 2) rfl ?_); refine box_event ?hg (N := 2) ?hd (cs := #[.int .i64 a0_0, .int .i64 a0_1]) (t := 59) ?hr ?_; (case hd => rfl); (case hg => rfl); (case hr => first | (go_simp; done) | (go_simp; rfl)); intro gb461 hg w21 hbox hb; have BK461 := Aside0.mk (hbox); have GW461 := geb hg HB rfl; have GE461 := geb hg HB rfl; replace HB := hst HB hb rfl; clear hb hbox hg) | ((with_reducible refine gate_dst (N := 4) rfl ?_); refine box_event ?hg (N := 4) ?hd (cs := #[.int .i64 0, .int .i64 0]) (t := 59) ?hr ?_; (case hd => rfl); (case hg => rfl); (case hr => first | (go_simp; done) | (go_simp; rfl)); intro gb462 hg w22 hbox hb; have BK462 := Aside0.mk (hbox); have GW462 := geb hg HB rfl; have GE462 := geb hg HB rfl; have NB461_462 := nbl hg BK461 rfl; have NB462_461 := nbr hg BK461 rfl; replace BK461 := bb BK461 hb rfl; replace HB := hst HB hb rfl; clear hb hbox hg))
     replace BK461 := Aside0.mk (blk_drew BK461.out); replace BK462 := Aside0.mk (blk_drew BK462.out); replace HB := Aside0.mk (below_drew1 HB.out)
     refine start_ (n := 4) (S := fun w' => w'.cell? ⟨gb461, 0, none⟩ = some (.int .i64 a0_0) ∧ w'.cell? ⟨gb461, 1, none⟩ = some (.int .i64 a0_1)) (ds := []) #[false, false, false, false] (by kernel_rfl) rfl rfl ⟨bc BK461 0 rfl, bc BK461 1 rfl⟩ (fun hHeld => ?_)
     generalize w22.drew = w23 at BK461 BK462 HB hHeld ⊢
     refine take_ (i := 0) (N := some 13) (v := ?_) (a' := ?_) #[true, false, false, false] rfl rfl (by kernel_rfl) (fun _ _ _ h => h) (Or.inl ⟨by rfl, ?_⟩) hHeld ?_ ?_
     rotate_left
     ·
      rintro w' ⟨s0, s1⟩
      go_simp
      with_reducible rfl
     rotate_left
     ·
      simp only [Act.put, List.setIfInBounds_toArray, List.set_cons_zero, List.set_cons_succ, i64_w, i32_w]
      rfl
     refine one_ (i := 1) (N := some 14) #[true, true, false, false] rfl rfl (by kernel_rfl) (by decide) (fun K hK => ?_)
     refine goes_ Try.func45 (by kernel_rfl) rfl #[.int .i64 0] (by rfl) rfl rfl (mapq rfl) ?_
     with_reducible refine (span_Of.calls 0 t463 t464 _ A4.out).mono ?_
     rintro e w24 ⟨rfl, hb⟩
     refine ⟨_, rfl, ?_⟩
     replace BK461 := bb BK461 hb rfl; replace BK462 := bb BK462 hb rfl; replace HB := hst HB hb rfl
     (try clear hb)
     refine hK.out _ _ ⟨bc BK461 0 rfl, bc BK461 1 rfl⟩ (fun hHeld => ?_)
     clear hK K
     refine norm_ (a' := ?_) ?_ ?_
     rotate_left; · (show Act.put _ (some 14) _ = _; simp only [Act.put, List.setIfInBounds_toArray, List.set_cons_zero, List.set_cons_succ, i64_w, i32_w]; rfl)
     refine pure_ (i := 2) (N := some 15) (v := ?_) (a' := ?_) #[true, true, true, false] rfl rfl (by kernel_rfl) (fun _ _ _ h => h) (Or.inl ⟨by rfl, ?_⟩) ?_ ?_
     rotate_left; · (intro w'; go_simp; with_reducible rfl)
     rotate_left; · (simp only [Act.put, List.setIfInBounds_toArray, List.set_cons_zero, List.set_cons_succ, i64_w, i32_w]; rfl)
     refine pure_ (i := 3) (N := some 12) (v := ?_) (a' := ?_) #[true, true, true, true] rfl rfl (by kernel_rfl) (fun _ _ _ h => h) (Or.inl ⟨by rfl, ?_⟩) ?_ ?_
     rotate_left; · (intro w'; go_simp; with_reducible rfl)
     rotate_left; · (simp only [Act.put, List.setIfInBounds_toArray, List.set_cons_zero, List.set_cons_succ, i64_w, i32_w]; rfl)
     refine done_ (by kernel_rfl) ?_
     have hnb25 := NB461_462.out
     have hnc25 := NB462_461.out
     obtain ⟨hcz26_0, hcz26_1, hfz26_0, hfz26_1⟩ := c2 BK461
     obtain ⟨hcz27_0, hcz27_1, hfz27_0, hfz27_1⟩ := c2 BK462
     try go_wp2
     refine bodyPost_ret (results_ct rfl _ _ gb462 59 #[.int .i64 a0_0, .int .i64 (-1)] (0, 0) _ rfl (by (with_reducible repeat (first | refine blk_drewN ?_ _ | refine blk_drew ?_ | refine blk_alloc ?_ _)); refine blk_put (cs := #[.int .i64 a0_0, .int .i64 0]) ?_ 1 _ rfl; (with_reducible repeat (first | refine blk_drewN ?_ _ | refine blk_drew ?_ | refine blk_alloc ?_ _)); refine blk_put (cs := #[.int .i64 0, .int .i64 0]) ?_ 0 _ rfl; (with_reducible repeat (first | refine blk_drewN ?_ _ | refine blk_drew ?_ | refine blk_alloc ?_ _)); refine blk_far ?_ NB462_461.out _; (with_reducible repeat (first | refine blk_drewN ?_ _ | refine blk_drew ?_ | refine blk_alloc ?_ _)); exact BK462.out) Try.underlying59 rfl (by kernel_rfl)) rfl ?_
     exact ⟨by first | rfl | (simp [*, errW_none, errW_some] <;> rfl), by repeat (first | (with_reducible first | exact HB.out | apply below_alloc | apply pw_below_drewN | apply below_drew1 | refine below_set ?_ GE461.out | refine below_set ?_ GE462.out) | exact HB.out)⟩
    ·
     rw [if_neg c20] at H
     have c20b0 : (a0_1 == 0) = false := beq_eq_false_iff_ne.mpr c20
     have c20b1 : (a0_1 != 0) = true := bne_iff_ne.mpr c20
     simp only [Option.some.injEq, Prod.mk.injEq] at H
     obtain ⟨rfl, rfl, rfl⟩ := H
     go_enter Try.func57, Try.ntmps57
     try go_wp2_with (first | ((with_reducible refine gate_dst (N := 2) rfl ?_); refine box_event ?hg (N := 2) ?hd (cs := #[.int .i64 a0_0, .int .i64 a0_1]) (t := 59) ?hr ?_; (case hd => rfl); (case hg => rfl); (case hr => first | (go_simp; done) | (go_simp; rfl)); intro gb461 hg w28 hbox hb; have BK461 := Aside0.mk (hbox); have GW461 := geb hg HB rfl; have GE461 := geb hg HB rfl; replace HB := hst HB hb rfl; clear hb hbox hg) | ((with_reducible refine gate_dst (N := 4) rfl ?_); refine box_event ?hg (N := 4) ?hd (cs := #[.int .i64 0, .int .i64 0]) (t := 59) ?hr ?_; (case hd => rfl); (case hg => rfl); (case hr => first | (go_simp; done) | (go_simp; rfl)); intro gb462 hg w29 hbox hb; have BK462 := Aside0.mk (hbox); have GW462 := geb hg HB rfl; have GE462 := geb hg HB rfl; have NB461_462 := nbl hg BK461 rfl; have NB462_461 := nbr hg BK461 rfl; replace BK461 := bb BK461 hb rfl; replace HB := hst HB hb rfl; clear hb hbox hg))
     replace BK461 := Aside0.mk (blk_drew BK461.out); replace BK462 := Aside0.mk (blk_drew BK462.out); replace HB := Aside0.mk (below_drew1 HB.out)
     refine start_ (n := 4) (S := fun w' => w'.cell? ⟨gb461, 0, none⟩ = some (.int .i64 a0_0) ∧ w'.cell? ⟨gb461, 1, none⟩ = some (.int .i64 a0_1)) (ds := []) #[false, false, false, false] (by kernel_rfl) rfl rfl ⟨bc BK461 0 rfl, bc BK461 1 rfl⟩ (fun hHeld => ?_)
     generalize w29.drew = w30 at BK461 BK462 HB hHeld ⊢
     refine take_ (i := 0) (N := some 13) (v := ?_) (a' := ?_) #[true, false, false, false] rfl rfl (by kernel_rfl) (fun _ _ _ h => h) (Or.inl ⟨by rfl, ?_⟩) hHeld ?_ ?_
     rotate_left
     ·
      rintro w' ⟨s0, s1⟩
      go_simp
      with_reducible rfl
     rotate_left
     ·
      simp only [Act.put, List.setIfInBounds_toArray, List.set_cons_zero, List.set_cons_succ, i64_w, i32_w]
      rfl
     refine one_ (i := 1) (N := some 14) #[true, true, false, false] rfl rfl (by kernel_rfl) (by decide) (fun K hK => ?_)
     refine goes_ Try.func45 (by kernel_rfl) rfl #[.int .i64 0] (by rfl) rfl rfl (mapq rfl) ?_
     with_reducible refine (span_Of.calls 0 t463 t464 _ A4.out).mono ?_
     rintro e w31 ⟨rfl, hb⟩
     refine ⟨_, rfl, ?_⟩
     replace BK461 := bb BK461 hb rfl; replace BK462 := bb BK462 hb rfl; replace HB := hst HB hb rfl
     (try clear hb)
     refine hK.out _ _ ⟨bc BK461 0 rfl, bc BK461 1 rfl⟩ (fun hHeld => ?_)
     clear hK K
     refine norm_ (a' := ?_) ?_ ?_
     rotate_left; · (show Act.put _ (some 14) _ = _; simp only [Act.put, List.setIfInBounds_toArray, List.set_cons_zero, List.set_cons_succ, i64_w, i32_w]; rfl)
     refine pure_ (i := 2) (N := some 15) (v := ?_) (a' := ?_) #[true, true, true, false] rfl rfl (by kernel_rfl) (fun _ _ _ h => h) (Or.inl ⟨by rfl, ?_⟩) ?_ ?_
     rotate_left; · (intro w'; go_simp; with_reducible rfl)
     rotate_left; · (simp only [Act.put, List.setIfInBounds_toArray, List.set_cons_zero, List.set_cons_succ, i64_w, i32_w]; rfl)
     refine pure_ (i := 3) (N := some 12) (v := ?_) (a' := ?_) #[true, true, true, true] rfl rfl (by kernel_rfl) (fun _ _ _ h => h) (Or.inl ⟨by rfl, ?_⟩) ?_ ?_
     rotate_left; · (intro w'; go_simp; with_reducible rfl)
     rotate_left; · (simp only [Act.put, List.setIfInBounds_toArray, List.set_cons_zero, List.set_cons_succ, i64_w, i32_w]; rfl)
     refine done_ (by kernel_rfl) ?_
     have hnb32 := NB461_462.out
     have hnc32 := NB462_461.out
     obtain ⟨hcz33_0, hcz33_1, hfz33_0, hfz33_1⟩ := c2 BK461
     obtain ⟨hcz34_0, hcz34_1, hfz34_0, hfz34_1⟩ := c2 BK462
     try go_wp2
     refine bodyPost_ret (results_ct rfl _ _ gb462 59 #[.int .i64 a0_0, .int .i64 a0_1] (0, 0) _ rfl (by (with_reducible repeat (first | refine blk_drewN ?_ _ | refine blk_drew ?_ | refine blk_alloc ?_ _)); refine blk_put (cs := #[.int .i64 a0_0, .int .i64 0]) ?_ 1 _ rfl; (with_reducible repeat (first | refine blk_drewN ?_ _ | refine blk_drew ?_ | refine blk_alloc ?_ _)); refine blk_put (cs := #[.int .i64 0, .int .i64 0]) ?_ 0 _ rfl; (with_reducible repeat (first | refine blk_drewN ?_ _ | refine blk_drew ?_ | refine blk_alloc ?_ _)); exact BK462.out) Try.underlying59 rfl (by kernel_rfl)) rfl ?_
     exact ⟨by first | rfl | (simp [*, errW_none, errW_some] <;> rfl), by repeat (first | (with_reducible first | exact HB.out | apply below_alloc | apply pw_below_drewN | apply below_drew1 | refine below_set ?_ GE461.out | refine below_set ?_ GE462.out) | exact HB.out)⟩
 ·
  replace c3 := Bool.eq_false_iff.mpr c3
  subst c3
  rw [if_neg (show ¬ (false = true) by decide)] at H
  replace H := Option.bind_eq_some_iff.mp H
  obtain ⟨t465, A350, H⟩ := H
  (try dsimp only at H)
  have A35 := Aside0.mk A350
  clear A350
  simp only [Option.some.injEq, Prod.mk.injEq] at H
  obtain ⟨rfl, rfl, rfl⟩ := H
  go_enter Try.func57, Try.ntmps57
  go_wp2_with (first | ((with_reducible refine gate_dst (N := 2) rfl ?_); refine box_event ?hg (N := 2) ?hd (cs := #[.int .i64 a0_0, .int .i64 a0_1]) (t := 59) ?hr ?_; (case hd => rfl); (case hg => rfl); (case hr => first | (go_simp; done) | (go_simp; rfl)); intro gb461 hg w36 hbox hb; have BK461 := Aside0.mk (hbox); have GW461 := geb hg HB rfl; have GE461 := geb hg HB rfl; replace HB := hst HB hb rfl; clear hb hbox hg) | ((with_reducible refine gate_dst (N := 4) rfl ?_); refine box_event ?hg (N := 4) ?hd (cs := #[.int .i64 0, .int .i64 0]) (t := 59) ?hr ?_; (case hd => rfl); (case hg => rfl); (case hr => first | (go_simp; done) | (go_simp; rfl)); intro gb462 hg w37 hbox hb; have BK462 := Aside0.mk (hbox); have GW462 := geb hg HB rfl; have GE462 := geb hg HB rfl; have NB461_462 := nbl hg BK461 rfl; have NB462_461 := nbr hg BK461 rfl; replace BK461 := bb BK461 hb rfl; replace HB := hst HB hb rfl; clear hb hbox hg; have hnb38 := NB461_462.out; have hnc38 := NB462_461.out; obtain ⟨hcz39_0, hcz39_1, hfz39_0, hfz39_1⟩ := c2 BK461) | ((with_reducible refine gate_callee (f := 47) rfl ?_); refine goesL_ (some 11) rfl rfl Try.func47 (by kernel_rfl) rfl #[.agg #[.int .i64 a0_0, .int .i64 a0_1], .int .i64 0] rfl (mapq rfl) ?_; (with_reducible refine (span_Has.calls a0_0 a0_1 0 t465 _ A35.out).mono ?_); rintro e w40 ⟨rfl, hb⟩; refine ⟨_, rfl, ?_⟩; replace BK461 := bb BK461 hb rfl; replace BK462 := bb BK462 hb rfl; replace HB := hst HB hb rfl; (try clear hb); obtain ⟨hcz41_0, hcz41_1, hfz41_0, hfz41_1⟩ := c2 BK462))
  refine bodyPost_ret (results_ct rfl _ _ gb462 59 #[.int .i64 0, .int .i64 0] (0, 0) _ rfl (by (with_reducible repeat (first | refine blk_drewN ?_ _ | refine blk_drew ?_ | refine blk_alloc ?_ _)); refine blk_put (cs := #[.int .i64 0, .int .i64 0]) ?_ 1 _ rfl; (with_reducible repeat (first | refine blk_drewN ?_ _ | refine blk_drew ?_ | refine blk_alloc ?_ _)); refine blk_put (cs := #[.int .i64 0, .int .i64 0]) ?_ 0 _ rfl; (with_reducible repeat (first | refine blk_drewN ?_ _ | refine blk_drew ?_ | refine blk_alloc ?_ _)); exact BK462.out) Try.underlying59 rfl (by kernel_rfl)) rfl ?_
  exact ⟨by first | rfl | (simp [*, errW_none, errW_some] <;> rfl), by repeat (first | (with_reducible first | exact HB.out | apply below_alloc | apply pw_below_drewN | apply below_drew1 | refine below_set ?_ GE461.out | refine below_set ?_ GE462.out) | exact HB.out)⟩

/-! ### avermentref10_Branch: function 58 -/
def avermentref10_Branch.j0 : Nat → Bool → Int → Int → Option (Int × Int × Bool)
 | 0, _, _, _ => none
 | k + 1, x18, x467000, x467001 => if x18 = true then (some (0, 0, false)) else (if x467000 = 0 then (if x467001 = 0 then (some (1, (-1), true)) else (some (1, x467001, true))) else (if x467001 = 0 then (some (x467000, (-1), true)) else (some (x467000, x467001, true))))
def avermentref10_Branch.f (k : Nat) (a0_0 : Int) (a0_1 : Int) (a1 : Bool) : Option (Int × Int × Bool) := if a1 = true then (if a0_0 = 0 then (avermentref10_Branch.j0 k (a0_1 == 0) a0_0 a0_1) else (avermentref10_Branch.j0 k false a0_0 a0_1)) else ((avermentref10_Has.f a0_0 a0_1 0).bind fun t468 => (some (0, 0, t468)))
theorem avermentref10_Branch.mono_l : ∀ k, (∀ y0 y1 y2, LeO (avermentref10_Branch.j0 k y0 y1 y2) (avermentref10_Branch.j0 (k + 1) y0 y1 y2))
 | 0 => fun _ _ _ r h => by simp [avermentref10_Branch.j0] at h
 | k + 1 => by
  have ih0 := avermentref10_Branch.mono_l k
  ·
   intro y0 y1 y2
   unfold avermentref10_Branch.j0
   repeat' first
   | (with_reducible exact ih0 _ _ _)
   | (with_reducible exact LeO.refl _)
   | (with_reducible exact LeO.none _)
   | (with_reducible refine LeO.ite ?_ ?_)
   | (with_reducible refine LeO.bind ?_ (fun _ => ?_))
   | exact ih0 _ _ _
   | exact LeO.none _
   | refine LeO.ite ?_ ?_
   | refine LeO.bind ?_ (fun _ => ?_)
theorem avermentref10_Branch.mono : ∀ a0 a1 a2 k, LeO (avermentref10_Branch.f k a0 a1 a2) (avermentref10_Branch.f (k + 1) a0 a1 a2) := by
 intro a0 a1 a2 k
 have ih0 := avermentref10_Branch.mono_l k
 unfold avermentref10_Branch.f
 repeat' first
   | (with_reducible exact ih0 _ _ _)
   | (with_reducible exact LeO.refl _)
   | (with_reducible exact LeO.none _)
   | (with_reducible refine LeO.ite ?_ ?_)
   | (with_reducible refine LeO.bind ?_ (fun _ => ?_))
   | exact ih0 _ _ _
   | exact LeO.none _
   | refine LeO.ite ?_ ?_
   | refine LeO.bind ?_ (fun _ => ?_)
set_option maxHeartbeats 8000000 in
set_option maxRecDepth 100000 in
theorem avermentref10_Branch.calls (k : Nat) (a0_0 : Int) (a0_1 : Int) (a1 : Bool) (r1 : Int) (r2 : Int) (r3 : Bool) (w : World) (h : avermentref10_Branch.f k a0_0 a0_1 a1 = some (r1, r2, r3)) :
  Calls Try.prog 58 #[.agg #[.int .i64 a0_0, .int .i64 a0_1], .bool a1] w fun e w' => e = .returned (.tuple #[.agg #[.int .i64 r1, .int .i64 r2], .bool r3]) ∧ Below w.heap.size w w' := by
 have hu56 := Try.underlying56
 have HB := Aside0.mk (Below.refl w.heap.size w)
 have H : (if a1 = true then (if a0_0 = 0 then (avermentref10_Branch.j0 k (a0_1 == 0) a0_0 a0_1) else (avermentref10_Branch.j0 k false a0_0 a0_1)) else ((avermentref10_Has.f a0_0 a0_1 0).bind fun t468 => (some (0, 0, t468)))) = some (r1, r2, r3) := h
 clear h
 by_cases c3 : a1 = true
 ·
  subst c3
  rw [if_pos rfl] at H
  have HC4 := Aside0.mk H
  clear H
  go_enter Try.func58, Try.ntmps58
  go_upto_region 3 with (first | ((with_reducible refine gate_dst (N := 2) rfl ?_); refine box_event ?hg (N := 2) ?hd (cs := #[.int .i64 a0_0, .int .i64 a0_1]) (t := 56) ?hr ?_; (case hd => rfl); (case hg => rfl); (case hr => first | (go_simp; done) | (go_simp; rfl)); intro gb466 hg w5 hbox hb; have BK466 := Aside0.mk (hbox); have GW466 := geb hg HB rfl; have GE466 := geb hg HB rfl; replace HB := hst HB hb rfl; clear hb hbox hg) | ((with_reducible refine gate_dst (N := 4) rfl ?_); refine box_event ?hg (N := 4) ?hd (cs := #[.int .i64 0, .int .i64 0]) (t := 56) ?hr ?_; (case hd => rfl); (case hg => rfl); (case hr => first | (go_simp; done) | (go_simp; rfl)); intro gb467 hg w6 hbox hb; have BK467 := Aside0.mk (hbox); have GW467 := geb hg HB rfl; have GE467 := geb hg HB rfl; have NB466_467 := nbl hg BK466 rfl; have NB467_466 := nbr hg BK466 rfl; replace BK466 := bb BK466 hb rfl; replace HB := hst HB hb rfl; clear hb hbox hg))
  (try simp only [Act.put, List.setIfInBounds_toArray, List.set_cons_zero, List.set_cons_succ])
  go_cut [18] (fun v18 wc => ∃ (kq : Nat) (x18_3 : Bool), v18 = .bool x18_3 ∧ Aside0 (avermentref10_Branch.j0 kq x18_3 a0_0 a0_1 = some (r1, r2, r3)) ∧ Aside0 (kq ≤ k) ∧ Aside0 (wc.heap[gb466]? = some (.cells #[.int .i64 a0_0, .int .i64 a0_1] 56 (0, 0))) ∧ Aside0 (wc.heap[gb467]? = some (.cells #[.int .i64 0, .int .i64 0] 56 (0, 0))) ∧ Aside0 (Below w.heap.size w wc))
  case first =>
   have H := HC4.out
   clear HC4
   by_cases c7 : a0_0 = 0
   ·
    rw [if_pos c7] at H
    have c7b0 : (a0_0 == 0) = true := beq_iff_eq.mpr c7
    have c7b1 : (a0_0 != 0) = false := bne_eq_false_iff_eq.mpr c7
    clear c7
    (first | rw [c7b0] | (simp only [i64_w, i32_w]; rw [c7b0]) | skip)
    have H' := Aside0.mk H
    clear H
    have hnb8 := NB466_467.out
    have hnc8 := NB467_466.out
    obtain ⟨hcz9_0, hcz9_1, hfz9_0, hfz9_1⟩ := c2 BK466
    go_wp2
    go_meet
    case rel => exact ⟨_, ((a0_1 == 0)), (by first | rfl | (simp; done) | (simp [*]; done)), H', ⟨by first | omega | exact Nat.le_refl _⟩, ⟨by (with_reducible repeat (first | refine blk_drewN ?_ _ | refine blk_drew ?_ | refine blk_alloc ?_ _)); exact BK466.out⟩, ⟨by (with_reducible repeat (first | refine blk_drewN ?_ _ | refine blk_drew ?_ | refine blk_alloc ?_ _)); exact BK467.out⟩, ⟨by repeat (first | (with_reducible first | exact HB.out | apply below_alloc | apply pw_below_drewN | apply below_drew1 | refine below_set ?_ GE466.out | refine below_set ?_ GE467.out) | exact HB.out)⟩⟩
   ·
    rw [if_neg c7] at H
    have c7b0 : (a0_0 == 0) = false := beq_eq_false_iff_ne.mpr c7
    have c7b1 : (a0_0 != 0) = true := bne_iff_ne.mpr c7
    (first | rw [c7b0] | (simp only [i64_w, i32_w]; rw [c7b0]) | skip)
    have H' := Aside0.mk H
    clear H
    have hnb10 := NB466_467.out
    have hnc10 := NB467_466.out
    obtain ⟨hcz11_0, hcz11_1, hfz11_0, hfz11_1⟩ := c2 BK466
    go_wp2
    go_meet
    case rel => exact ⟨_, (false), (by first | rfl | (simp; done) | (simp [*]; done)), H', ⟨by first | omega | exact Nat.le_refl _⟩, ⟨by (with_reducible repeat (first | refine blk_drewN ?_ _ | refine blk_drew ?_ | refine blk_alloc ?_ _)); exact BK466.out⟩, ⟨by (with_reducible repeat (first | refine blk_drewN ?_ _ | refine blk_drew ?_ | refine blk_alloc ?_ _)); exact BK467.out⟩, ⟨by repeat (first | (with_reducible first | exact HB.out | apply below_alloc | apply pw_below_drewN | apply below_drew1 | refine below_set ?_ GE466.out | refine below_set ?_ GE467.out) | exact HB.out)⟩⟩
  case rest =>
   clear HC4
   try clear c1
   try clear p2
   try clear c3
   try clear c5
   try clear c7
   try clear c7b0
   try clear c7b1
   try clear c8
   try clear c10
   try clear hcz11_0
   try clear hcz11_1
   try clear hcz9_0
   try clear hcz9_1
   try clear hfz11_0
   try clear hfz11_1
   try clear hfz9_0
   try clear hfz9_1
   obtain ⟨kq, x18_3, rfl, HA, HJ3, BK466, BK467, HB⟩ := hcut
   cases kq with
   | zero => exact absurd HA.out (by simp [avermentref10_Branch.j0])
   | succ kj3 =>
    have H := HA.out
    clear HA
    simp only [avermentref10_Branch.j0] at H
    by_cases c12 : x18_3 = true
    ·
     subst c12
     rw [if_pos rfl] at H
     simp only [Option.some.injEq, Prod.mk.injEq] at H
     obtain ⟨rfl, rfl, rfl⟩ := H
     have hnb13 := NB467_466.out
     have hnc13 := NB466_467.out
     obtain ⟨hcz14_0, hcz14_1, hfz14_0, hfz14_1⟩ := c2 BK467
     go_wp2
     refine bodyPost_ret (results_ct rfl _ _ gb467 56 #[.int .i64 0, .int .i64 0] (0, 0) _ rfl (by (with_reducible repeat (first | refine blk_drewN ?_ _ | refine blk_drew ?_ | refine blk_alloc ?_ _)); refine blk_put (cs := #[.int .i64 0, .int .i64 0]) ?_ 1 _ rfl; (with_reducible repeat (first | refine blk_drewN ?_ _ | refine blk_drew ?_ | refine blk_alloc ?_ _)); refine blk_put (cs := #[.int .i64 0, .int .i64 0]) ?_ 0 _ rfl; (with_reducible repeat (first | refine blk_drewN ?_ _ | refine blk_drew ?_ | refine blk_alloc ?_ _)); exact BK467.out) Try.underlying56 rfl (by kernel_rfl)) rfl ?_
     exact ⟨by first | rfl | (simp [*, errW_none, errW_some] <;> rfl), by repeat (first | (with_reducible first | exact HB.out | apply below_alloc | apply pw_below_drewN | apply below_drew1 | refine below_set ?_ GE466.out | refine below_set ?_ GE467.out) | exact HB.out)⟩
    ·
     replace c12 := Bool.eq_false_iff.mpr c12
     subst c12
     rw [if_neg (show ¬ (false = true) by decide)] at H
     by_cases c15 : a0_0 = 0
     ·
      rw [if_pos c15] at H
      have c15b0 : (a0_0 == 0) = true := beq_iff_eq.mpr c15
      have c15b1 : (a0_0 != 0) = false := bne_eq_false_iff_eq.mpr c15
      clear c15
      by_cases c16 : a0_1 = 0
      ·
       rw [if_pos c16] at H
       have c16b0 : (a0_1 == 0) = true := beq_iff_eq.mpr c16
       have c16b1 : (a0_1 != 0) = false := bne_eq_false_iff_eq.mpr c16
       clear c16
       simp only [Option.some.injEq, Prod.mk.injEq] at H
       obtain ⟨rfl, rfl, rfl⟩ := H
       have hnb17 := NB466_467.out
       have hnc17 := NB467_466.out
       obtain ⟨hcz18_0, hcz18_1, hfz18_0, hfz18_1⟩ := c2 BK466
       obtain ⟨hcz19_0, hcz19_1, hfz19_0, hfz19_1⟩ := c2 BK467
       go_wp2
       refine bodyPost_ret (results_ct rfl _ _ gb467 56 #[.int .i64 1, .int .i64 (-1)] (0, 0) _ rfl (by (with_reducible repeat (first | refine blk_drewN ?_ _ | refine blk_drew ?_ | refine blk_alloc ?_ _)); refine blk_put (cs := #[.int .i64 1, .int .i64 0]) ?_ 1 _ rfl; (with_reducible repeat (first | refine blk_drewN ?_ _ | refine blk_drew ?_ | refine blk_alloc ?_ _)); refine blk_put (cs := #[.int .i64 0, .int .i64 0]) ?_ 0 _ rfl; (with_reducible repeat (first | refine blk_drewN ?_ _ | refine blk_drew ?_ | refine blk_alloc ?_ _)); refine blk_far ?_ NB467_466.out _; (with_reducible repeat (first | refine blk_drewN ?_ _ | refine blk_drew ?_ | refine blk_alloc ?_ _)); refine blk_far ?_ NB467_466.out _; (with_reducible repeat (first | refine blk_drewN ?_ _ | refine blk_drew ?_ | refine blk_alloc ?_ _)); exact BK467.out) Try.underlying56 rfl (by kernel_rfl)) rfl ?_
       exact ⟨by first | rfl | (simp [*, errW_none, errW_some] <;> rfl), by repeat (first | (with_reducible first | exact HB.out | apply below_alloc | apply pw_below_drewN | apply below_drew1 | refine below_set ?_ GE466.out | refine below_set ?_ GE467.out) | exact HB.out)⟩
      ·
       rw [if_neg c16] at H
       have c16b0 : (a0_1 == 0) = false := beq_eq_false_iff_ne.mpr c16
       have c16b1 : (a0_1 != 0) = true := bne_iff_ne.mpr c16
       simp only [Option.some.injEq, Prod.mk.injEq] at H
       obtain ⟨rfl, rfl, rfl⟩ := H
       have hnb20 := NB466_467.out
       have hnc20 := NB467_466.out
       obtain ⟨hcz21_0, hcz21_1, hfz21_0, hfz21_1⟩ := c2 BK466
       obtain ⟨hcz22_0, hcz22_1, hfz22_0, hfz22_1⟩ := c2 BK467
       go_wp2
       refine bodyPost_ret (results_ct rfl _ _ gb467 56 #[.int .i64 1, .int .i64 a0_1] (0, 0) _ rfl (by (with_reducible repeat (first | refine blk_drewN ?_ _ | refine blk_drew ?_ | refine blk_alloc ?_ _)); refine blk_put (cs := #[.int .i64 1, .int .i64 0]) ?_ 1 _ rfl; (with_reducible repeat (first | refine blk_drewN ?_ _ | refine blk_drew ?_ | refine blk_alloc ?_ _)); refine blk_put (cs := #[.int .i64 0, .int .i64 0]) ?_ 0 _ rfl; (with_reducible repeat (first | refine blk_drewN ?_ _ | refine blk_drew ?_ | refine blk_alloc ?_ _)); refine blk_far ?_ NB467_466.out _; (with_reducible repeat (first | refine blk_drewN ?_ _ | refine blk_drew ?_ | refine blk_alloc ?_ _)); exact BK467.out) Try.underlying56 rfl (by kernel_rfl)) rfl ?_
       exact ⟨by first | rfl | (simp [*, errW_none, errW_some] <;> rfl), by repeat (first | (with_reducible first | exact HB.out | apply below_alloc | apply pw_below_drewN | apply below_drew1 | refine below_set ?_ GE466.out | refine below_set ?_ GE467.out) | exact HB.out)⟩
     ·
      rw [if_neg c15] at H
      have c15b0 : (a0_0 == 0) = false := beq_eq_false_iff_ne.mpr c15
      have c15b1 : (a0_0 != 0) = true := bne_iff_ne.mpr c15
      by_cases c23 : a0_1 = 0
      ·
       rw [if_pos c23] at H
       have c23b0 : (a0_1 == 0) = true := beq_iff_eq.mpr c23
       have c23b1 : (a0_1 != 0) = false := bne_eq_false_iff_eq.mpr c23
       clear c23
       simp only [Option.some.injEq, Prod.mk.injEq] at H
       obtain ⟨rfl, rfl, rfl⟩ := H
       have hnb24 := NB466_467.out
       have hnc24 := NB467_466.out
       obtain ⟨hcz25_0, hcz25_1, hfz25_0, hfz25_1⟩ := c2 BK466
       obtain ⟨hcz26_0, hcz26_1, hfz26_0, hfz26_1⟩ := c2 BK467
       go_wp2
       refine bodyPost_ret (results_ct rfl _ _ gb467 56 #[.int .i64 a0_0, .int .i64 (-1)] (0, 0) _ rfl (by (with_reducible repeat (first | refine blk_drewN ?_ _ | refine blk_drew ?_ | refine blk_alloc ?_ _)); refine blk_put (cs := #[.int .i64 a0_0, .int .i64 0]) ?_ 1 _ rfl; (with_reducible repeat (first | refine blk_drewN ?_ _ | refine blk_drew ?_ | refine blk_alloc ?_ _)); refine blk_put (cs := #[.int .i64 0, .int .i64 0]) ?_ 0 _ rfl; (with_reducible repeat (first | refine blk_drewN ?_ _ | refine blk_drew ?_ | refine blk_alloc ?_ _)); refine blk_far ?_ NB467_466.out _; (with_reducible repeat (first | refine blk_drewN ?_ _ | refine blk_drew ?_ | refine blk_alloc ?_ _)); exact BK467.out) Try.underlying56 rfl (by kernel_rfl)) rfl ?_
       exact ⟨by first | rfl | (simp [*, errW_none, errW_some] <;> rfl), by repeat (first | (with_reducible first | exact HB.out | apply below_alloc | apply pw_below_drewN | apply below_drew1 | refine below_set ?_ GE466.out | refine below_set ?_ GE467.out) | exact HB.out)⟩
      ·
       rw [if_neg c23] at H
       have c23b0 : (a0_1 == 0) = false := beq_eq_false_iff_ne.mpr c23
       have c23b1 : (a0_1 != 0) = true := bne_iff_ne.mpr c23
       simp only [Option.some.injEq, Prod.mk.injEq] at H
       obtain ⟨rfl, rfl, rfl⟩ := H
       have hnb27 := NB466_467.out
       have hnc27 := NB467_466.out
       obtain ⟨hcz28_0, hcz28_1, hfz28_0, hfz28_1⟩ := c2 BK466
       obtain ⟨hcz29_0, hcz29_1, hfz29_0, hfz29_1⟩ := c2 BK467
       go_wp2
       refine bodyPost_ret (results_ct rfl _ _ gb467 56 #[.int .i64 a0_0, .int .i64 a0_1] (0, 0) _ rfl (by (with_reducible repeat (first | refine blk_drewN ?_ _ | refine blk_drew ?_ | refine blk_alloc ?_ _)); refine blk_put (cs := #[.int .i64 a0_0, .int .i64 0]) ?_ 1 _ rfl; (with_reducible repeat (first | refine blk_drewN ?_ _ | refine blk_drew ?_ | refine blk_alloc ?_ _)); refine blk_put (cs := #[.int .i64 0, .int .i64 0]) ?_ 0 _ rfl; (with_reducible repeat (first | refine blk_drewN ?_ _ | refine blk_drew ?_ | refine blk_alloc ?_ _)); exact BK467.out) Try.underlying56 rfl (by kernel_rfl)) rfl ?_
       exact ⟨by first | rfl | (simp [*, errW_none, errW_some] <;> rfl), by repeat (first | (with_reducible first | exact HB.out | apply below_alloc | apply pw_below_drewN | apply below_drew1 | refine below_set ?_ GE466.out | refine below_set ?_ GE467.out) | exact HB.out)⟩
 ·
  replace c3 := Bool.eq_false_iff.mpr c3
  subst c3
  rw [if_neg (show ¬ (false = true) by decide)] at H
  replace H := Option.bind_eq_some_iff.mp H
  obtain ⟨t468, A300, H⟩ := H
  (try dsimp only at H)
  have A30 := Aside0.mk A300
  clear A300
  simp only [Option.some.injEq, Prod.mk.injEq] at H
  obtain ⟨rfl, rfl, rfl⟩ := H
  go_enter Try.func58, Try.ntmps58
  go_wp2_with (first | ((with_reducible refine gate_dst (N := 2) rfl ?_); refine box_event ?hg (N := 2) ?hd (cs := #[.int .i64 a0_0, .int .i64 a0_1]) (t := 56) ?hr ?_; (case hd => rfl); (case hg => rfl); (case hr => first | (go_simp; done) | (go_simp; rfl)); intro gb466 hg w31 hbox hb; have BK466 := Aside0.mk (hbox); have GW466 := geb hg HB rfl; have GE466 := geb hg HB rfl; replace HB := hst HB hb rfl; clear hb hbox hg) | ((with_reducible refine gate_dst (N := 4) rfl ?_); refine box_event ?hg (N := 4) ?hd (cs := #[.int .i64 0, .int .i64 0]) (t := 56) ?hr ?_; (case hd => rfl); (case hg => rfl); (case hr => first | (go_simp; done) | (go_simp; rfl)); intro gb467 hg w32 hbox hb; have BK467 := Aside0.mk (hbox); have GW467 := geb hg HB rfl; have GE467 := geb hg HB rfl; have NB466_467 := nbl hg BK466 rfl; have NB467_466 := nbr hg BK466 rfl; replace BK466 := bb BK466 hb rfl; replace HB := hst HB hb rfl; clear hb hbox hg; have hnb33 := NB466_467.out; have hnc33 := NB467_466.out; obtain ⟨hcz34_0, hcz34_1, hfz34_0, hfz34_1⟩ := c2 BK466) | ((with_reducible refine gate_callee (f := 41) rfl ?_); refine goesL_ (some 10) rfl rfl Try.func41 (by kernel_rfl) rfl #[.agg #[.int .i64 a0_0, .int .i64 a0_1], .int .i64 0] rfl (mapq rfl) ?_; (with_reducible refine (avermentref10_Has.calls a0_0 a0_1 0 t468 _ A30.out).mono ?_); rintro e w35 ⟨rfl, hb⟩; refine ⟨_, rfl, ?_⟩; replace BK466 := bb BK466 hb rfl; replace BK467 := bb BK467 hb rfl; replace HB := hst HB hb rfl; (try clear hb); obtain ⟨hcz36_0, hcz36_1, hfz36_0, hfz36_1⟩ := c2 BK467))
  refine bodyPost_ret (results_ct rfl _ _ gb467 56 #[.int .i64 0, .int .i64 0] (0, 0) _ rfl (by (with_reducible repeat (first | refine blk_drewN ?_ _ | refine blk_drew ?_ | refine blk_alloc ?_ _)); refine blk_put (cs := #[.int .i64 0, .int .i64 0]) ?_ 1 _ rfl; (with_reducible repeat (first | refine blk_drewN ?_ _ | refine blk_drew ?_ | refine blk_alloc ?_ _)); refine blk_put (cs := #[.int .i64 0, .int .i64 0]) ?_ 0 _ rfl; (with_reducible repeat (first | refine blk_drewN ?_ _ | refine blk_drew ?_ | refine blk_alloc ?_ _)); exact BK467.out) Try.underlying56 rfl (by kernel_rfl)) rfl ?_
  exact ⟨by first | rfl | (simp [*, errW_none, errW_some] <;> rfl), by repeat (first | (with_reducible first | exact HB.out | apply below_alloc | apply pw_below_drewN | apply below_drew1 | refine below_set ?_ GE466.out | refine below_set ?_ GE467.out) | exact HB.out)⟩

end Go.Proofs.Ytpacmhhaabhdjaa.SM
