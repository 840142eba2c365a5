-- Written by a program of this session: plain functions and their walks. Lean checks it.
import Derived.Test.YtpacmhhaabhdjaaKN0
import Derived.Test.YtpacmhhaabhdjaaKN3
namespace Go.Proofs.Ytpacmhhaabhdjaa.KN
open Go.RowKit Go.Proofs.YtpacmhhaabhdjaaW.PrintWords Go.Proofs.YtpacmhhaabhdjaaW.PrintLast Go.Proofs.YtpacmhhaabhdjaaW.PrintMore
attribute [local go_sem] max2_int min2_int max_two min_two max_three min_three max_four min_four   -- for this text's walks alone
set_option linter.unusedVariables false
set_option linter.unusedSimpArgs false

/-! ### known_Branch: function 31 -/
mutual
def known_Branch.j0 : Nat → Bool → Bool → Bool → Int → Option (Bool × Int × Bool)
 | 0, _, _, _, _ => none
 | k + 1, x1, x6, x314000, x314001 => if x6 = true then ((known_Known_tidy.f x314000 x314001).bind fun bt316 => (some (bt316.1, bt316.2, true))) else (if x1 = true then (known_Branch.j1 k false) else ((known_Has.f x314000 x314001 0).bind fun t318 => (known_Branch.j1 k t318)))
def known_Branch.j1 : Nat → Bool → Option (Bool × Int × Bool)
 | 0, _ => none
 | k + 1, x15 => if x15 = true then ((known_Of.f 0).bind fun bt319 => (some (bt319.1, bt319.2, true))) else ((known_Any.f).bind fun bt321 => (some (bt321.1, bt321.2, false)))
end
def known_Branch.f (k : Nat) (a0_0 : Bool) (a0_1 : Int) (a1 : Bool) : Option (Bool × Int × Bool) := if a1 = true then ((known_Known_is.f a0_0 a0_1 0).bind fun t315 => (known_Branch.j0 k a1 (!t315) a0_0 a0_1)) else (known_Branch.j0 k a1 false a0_0 a0_1)
theorem known_Branch.mono_l : ∀ k, (∀ y0 y1 y2 y3, LeO (known_Branch.j0 k y0 y1 y2 y3) (known_Branch.j0 (k + 1) y0 y1 y2 y3)) ∧ (∀ y0, LeO (known_Branch.j1 k y0) (known_Branch.j1 (k + 1) y0))
 | 0 => ⟨fun _ _ _ _ r h => by simp [known_Branch.j0] at h, fun _ r h => by simp [known_Branch.j1] at h⟩
 | k + 1 => by
  obtain ⟨ih0, ih1⟩ := known_Branch.mono_l k
  refine ⟨?_, ?_⟩
  ·
   intro y0 y1 y2 y3
   unfold known_Branch.j0
   repeat' first
   | (with_reducible exact ih0 _ _ _ _)
   | (with_reducible exact ih1 _)
   | (with_reducible exact LeO.refl _)
   | (with_reducible exact LeO.none _)
   | (with_reducible refine LeO.ite ?_ ?_)
   | (with_reducible refine LeO.bind ?_ (fun _ => ?_))
   | exact ih0 _ _ _ _
   | exact ih1 _
   | exact LeO.none _
   | refine LeO.ite ?_ ?_
   | refine LeO.bind ?_ (fun _ => ?_)
  ·
   intro y0
   unfold known_Branch.j1
   repeat' first
   | (with_reducible exact ih0 _ _ _ _)
   | (with_reducible exact ih1 _)
   | (with_reducible exact LeO.refl _)
   | (with_reducible exact LeO.none _)
   | (with_reducible refine LeO.ite ?_ ?_)
   | (with_reducible refine LeO.bind ?_ (fun _ => ?_))
   | exact ih0 _ _ _ _
   | exact ih1 _
   | exact LeO.none _
   | refine LeO.ite ?_ ?_
   | refine LeO.bind ?_ (fun _ => ?_)
theorem known_Branch.mono : ∀ a0 a1 a2 k, LeO (known_Branch.f k a0 a1 a2) (known_Branch.f (k + 1) a0 a1 a2) := by
 intro a0 a1 a2 k
 obtain ⟨ih0, ih1⟩ := known_Branch.mono_l k
 unfold known_Branch.f
 repeat' first
   | (with_reducible exact ih0 _ _ _ _)
   | (with_reducible exact ih1 _)
   | (with_reducible exact LeO.refl _)
   | (with_reducible exact LeO.none _)
   | (with_reducible refine LeO.ite ?_ ?_)
   | (with_reducible refine LeO.bind ?_ (fun _ => ?_))
   | exact ih0 _ _ _ _
   | exact ih1 _
   | exact LeO.none _
   | refine LeO.ite ?_ ?_
   | refine LeO.bind ?_ (fun _ => ?_)
set_option maxHeartbeats 8000000 in
set_option maxRecDepth 100000 in
theorem known_Branch.calls (k : Nat) (a0_0 : Bool) (a0_1 : Int) (a1 : Bool) (r1 : Bool) (r2 : Int) (r3 : Bool) (w : World) (h : known_Branch.f k a0_0 a0_1 a1 = some (r1, r2, r3)) :
  Calls Try.prog 31 #[.agg #[.bool a0_0, .int .i64 a0_1], .bool a1] w fun e w' => e = .returned (.tuple #[.agg #[.bool r1, .int .i64 r2], .bool r3]) ∧ Below w.heap.size w w' := by
 have hu24 := Try.underlying24
 have HB := Aside0.mk (Below.refl w.heap.size w)
 have H : (if a1 = true then ((known_Known_is.f a0_0 a0_1 0).bind fun t315 => (known_Branch.j0 k a1 (!t315) a0_0 a0_1)) else (known_Branch.j0 k a1 false a0_0 a0_1)) = some (r1, r2, r3) := h
 clear h
 have HC3 := Aside0.mk H
 clear H
 go_enter Try.func31, Try.ntmps31
 go_upto_region 1 with (first | ((with_reducible refine gate_dst (N := 2) rfl ?_); refine box_event ?hg (N := 2) ?hd (cs := #[.bool a0_0, .int .i64 a0_1]) (t := 24) ?hr ?_; (case hd => rfl); (case hg => rfl); (case hr => first | (go_simp; done) | (go_simp; rfl)); intro gb313 hg w4 hbox hb; have BK313 := Aside0.mk (hbox); have GW313 := geb hg HB rfl; have GE313 := geb hg HB rfl; replace HB := hst HB hb rfl; clear hb hbox hg) | ((with_reducible refine gate_dst (N := 4) rfl ?_); refine box_event ?hg (N := 4) ?hd (cs := #[.bool false, .int .i64 0]) (t := 24) ?hr ?_; (case hd => rfl); (case hg => rfl); (case hr => first | (go_simp; done) | (go_simp; rfl)); intro gb314 hg w5 hbox hb; have BK314 := Aside0.mk (hbox); have GW314 := geb hg HB rfl; have GE314 := geb hg HB rfl; have NB313_314 := nbl hg BK313 rfl; have NB314_313 := nbr hg BK313 rfl; replace BK313 := bb BK313 hb rfl; replace HB := hst HB hb rfl; clear hb hbox hg))
 (try simp only [Act.put, List.setIfInBounds_toArray, List.set_cons_zero, List.set_cons_succ])
 go_cut [6] (fun v6 wc => ∃ (kq : Nat) (x6_2 : Bool), v6 = .bool x6_2 ∧ Aside0 (known_Branch.j0 kq a1 x6_2 a0_0 a0_1 = some (r1, r2, r3)) ∧ Aside0 (kq ≤ k) ∧ Aside0 (wc.heap[gb313]? = some (.cells #[.bool a0_0, .int .i64 a0_1] 24 (0, 0))) ∧ Aside0 (wc.heap[gb314]? = some (.cells #[.bool false, .int .i64 0] 24 (0, 0))) ∧ Aside0 (Below w.heap.size w wc))
 case first =>
  have H := HC3.out
  clear HC3
  by_cases c6 : a1 = true
  ·
   subst c6
   rw [if_pos rfl] at H
   replace H := Option.bind_eq_some_iff.mp H
   obtain ⟨t315, A70, H⟩ := H
   (try dsimp only at H)
   have A7 := Aside0.mk A70
   clear A70
   have H' := Aside0.mk H
   clear H
   have hnb8 := NB313_314.out
   have hnc8 := NB314_313.out
   have hcz9_0 : w5.cell? ⟨gb313, 0, none⟩ = some (.bool a0_0) := bc BK313 0 rfl
   have hcz9_1 : w5.cell? ⟨gb313, 1, none⟩ = some (.int .i64 a0_1) := bc BK313 1 rfl
   have hfz9_0 := blk_frozen BK313.out 0
   have hfz9_1 := blk_frozen BK313.out 1
   go_wp2_with (first | (go_at_call 62; (with_reducible refine (known_Known_is.calls a0_0 a0_1 0 t315 _ A7.out).mono ?_); rintro e w10 ⟨rfl, hb⟩; replace BK313 := bb BK313 hb rfl; replace BK314 := bb BK314 hb rfl; replace HB := hst HB hb rfl; (try clear hb)))
   go_meet
   case rel => exact ⟨_, (!t315), (by first | rfl | (simp; done) | (simp [*]; done)), H', ⟨by first | omega | exact Nat.le_refl _⟩, ⟨by (with_reducible repeat (first | refine blk_drewN ?_ _ | refine blk_drew ?_ | refine blk_alloc ?_ _)); exact BK313.out⟩, ⟨by (with_reducible repeat (first | refine blk_drewN ?_ _ | refine blk_drew ?_ | refine blk_alloc ?_ _)); exact BK314.out⟩, ⟨by repeat (first | (with_reducible first | exact HB.out | apply below_alloc | apply pw_below_drewN | apply below_drew1 | refine below_set ?_ GE313.out | refine below_set ?_ GE314.out) | exact HB.out)⟩⟩
  ·
   replace c6 := Bool.eq_false_iff.mpr c6
   subst c6
   rw [if_neg (show ¬ (false = true) by decide)] at H
   have H' := Aside0.mk H
   clear H
   go_wp2
   go_meet
   case rel => exact ⟨_, (false), (by first | rfl | (simp; done) | (simp [*]; done)), H', ⟨by first | omega | exact Nat.le_refl _⟩, ⟨by (with_reducible repeat (first | refine blk_drewN ?_ _ | refine blk_drew ?_ | refine blk_alloc ?_ _)); exact BK313.out⟩, ⟨by (with_reducible repeat (first | refine blk_drewN ?_ _ | refine blk_drew ?_ | refine blk_alloc ?_ _)); exact BK314.out⟩, ⟨by repeat (first | (with_reducible first | exact HB.out | apply below_alloc | apply pw_below_drewN | apply below_drew1 | refine below_set ?_ GE313.out | refine below_set ?_ GE314.out) | exact HB.out)⟩⟩
 case rest =>
  clear HC3
  try clear p2
  try clear c3
  try clear c6
  try clear c8
  try clear hcz9_0
  try clear hcz9_1
  try clear hfz9_0
  try clear hfz9_1
  obtain ⟨kq, x6_2, rfl, HA, HJ2, BK313, BK314, HB⟩ := hcut
  cases kq with
  | zero => exact absurd HA.out (by simp [known_Branch.j0])
  | succ kj2 =>
   have H := HA.out
   clear HA
   simp only [known_Branch.j0] at H
   by_cases c11 : x6_2 = true
   ·
    subst c11
    rw [if_pos rfl] at H
    replace H := Option.bind_eq_some_iff.mp H
    obtain ⟨⟨t316, t317⟩, A120, H⟩ := H
    (try dsimp only at H)
    have A12 := Aside0.mk A120
    clear A120
    simp only [Option.some.injEq, Prod.mk.injEq] at H
    obtain ⟨rfl, rfl, rfl⟩ := H
    have hnb13 := NB313_314.out
    have hnc13 := NB314_313.out
    have hcz14_0 : wc.cell? ⟨gb313, 0, none⟩ = some (.bool a0_0) := bc BK313 0 rfl
    have hcz14_1 : wc.cell? ⟨gb313, 1, none⟩ = some (.int .i64 a0_1) := bc BK313 1 rfl
    have hfz14_0 := blk_frozen BK313.out 0
    have hfz14_1 := blk_frozen BK313.out 1
    go_wp2_with (first | ((with_reducible refine gate_callee (f := 60) rfl ?_); refine goesL_ (some 14) rfl rfl Try.func60 (by kernel_rfl) rfl #[.agg #[.bool a0_0, .int .i64 a0_1]] rfl (mapq rfl) ?_; (with_reducible refine (known_Known_tidy.calls a0_0 a0_1 t316 t317 _ A12.out).mono ?_); rintro e w15 ⟨rfl, hb⟩; refine ⟨_, rfl, ?_⟩; replace BK313 := bb BK313 hb rfl; replace BK314 := bb BK314 hb rfl; replace HB := hst HB hb rfl; (try clear hb); have hcz16_0 : w15.cell? ⟨gb314, 0, none⟩ = some (.bool false) := (blk_cell BK314.out 0).trans rfl; have hcz16_1 : w15.cell? ⟨gb314, 1, none⟩ = some (.int .i64 0) := (blk_cell BK314.out 1).trans rfl; have hfz16_0 := blk_frozen BK314.out 0; have hfz16_1 := blk_frozen BK314.out 1))
    refine bodyPost_ret (results_ct rfl _ _ gb314 24 #[.bool t316, .int .i64 t317] (0, 0) _ rfl (by (with_reducible repeat (first | refine blk_drewN ?_ _ | refine blk_drew ?_ | refine blk_alloc ?_ _)); refine blk_put (cs := #[.bool t316, .int .i64 0]) ?_ 1 _ rfl; (with_reducible repeat (first | refine blk_drewN ?_ _ | refine blk_drew ?_ | refine blk_alloc ?_ _)); refine blk_put (cs := #[.bool false, .int .i64 0]) ?_ 0 _ rfl; (with_reducible repeat (first | refine blk_drewN ?_ _ | refine blk_drew ?_ | refine blk_alloc ?_ _)); exact BK314.out) Try.underlying24 rfl (by kernel_rfl)) rfl ?_
    exact ⟨by first | rfl | (simp [errW_none, errW_some] <;> rfl) | (simp [*, errW_none, errW_some] <;> rfl), by repeat (first | (with_reducible first | exact HB.out | apply below_alloc | apply pw_below_drewN | apply below_drew1 | refine below_set ?_ GE313.out | refine below_set ?_ GE314.out) | exact HB.out)⟩
   ·
    replace c11 := Bool.eq_false_iff.mpr c11
    subst c11
    rw [if_neg (show ¬ (false = true) by decide)] at H
    have HC17 := Aside0.mk H
    clear H
    go_upto_region 3 with (fail)
    go_cut [15] (fun v15 wc => ∃ (kq : Nat) (x15_16 : Bool), v15 = .bool x15_16 ∧ Aside0 (known_Branch.j1 kq x15_16 = some (r1, r2, r3)) ∧ Aside0 (kq ≤ kj2) ∧ Aside0 (wc.heap[gb313]? = some (.cells #[.bool a0_0, .int .i64 a0_1] 24 (0, 0))) ∧ Aside0 (wc.heap[gb314]? = some (.cells #[.bool false, .int .i64 0] 24 (0, 0))) ∧ Aside0 (Below w.heap.size w wc))
    case first =>
     have H := HC17.out
     clear HC17
     by_cases c18 : a1 = true
     ·
      subst c18
      rw [if_pos rfl] at H
      have H' := Aside0.mk H
      clear H
      go_wp2
      go_meet
      case rel => exact ⟨_, (false), (by first | rfl | (simp; done) | (simp [*]; done)), H', ⟨by have := HJ2.out; first | omega | exact Nat.le_refl _⟩, ⟨by (with_reducible repeat (first | refine blk_drewN ?_ _ | refine blk_drew ?_ | refine blk_alloc ?_ _)); exact BK313.out⟩, ⟨by (with_reducible repeat (first | refine blk_drewN ?_ _ | refine blk_drew ?_ | refine blk_alloc ?_ _)); exact BK314.out⟩, ⟨by repeat (first | (with_reducible first | exact HB.out | apply below_alloc | apply pw_below_drewN | apply below_drew1 | refine below_set ?_ GE313.out | refine below_set ?_ GE314.out) | exact HB.out)⟩⟩
     ·
      replace c18 := Bool.eq_false_iff.mpr c18
      subst c18
      rw [if_neg (show ¬ (false = true) by decide)] at H
      replace H := Option.bind_eq_some_iff.mp H
      obtain ⟨t318, A190, H⟩ := H
      (try dsimp only at H)
      have A19 := Aside0.mk A190
      clear A190
      have H' := Aside0.mk H
      clear H
      have hnb20 := NB313_314.out
      have hnc20 := NB314_313.out
      have hcz21_0 : wc.cell? ⟨gb313, 0, none⟩ = some (.bool a0_0) := bc BK313 0 rfl
      have hcz21_1 : wc.cell? ⟨gb313, 1, none⟩ = some (.int .i64 a0_1) := bc BK313 1 rfl
      have hfz21_0 := blk_frozen BK313.out 0
      have hfz21_1 := blk_frozen BK313.out 1
      go_wp2_with (first | (go_at_call 21; (with_reducible refine (known_Has.calls a0_0 a0_1 0 t318 _ A19.out).mono ?_); rintro e w22 ⟨rfl, hb⟩; replace BK313 := bb BK313 hb rfl; replace BK314 := bb BK314 hb rfl; replace HB := hst HB hb rfl; (try clear hb)))
      go_meet
      case rel => exact ⟨_, (t318), (by first | rfl | (simp; done) | (simp [*]; done)), H', ⟨by have := HJ2.out; first | omega | exact Nat.le_refl _⟩, ⟨by (with_reducible repeat (first | refine blk_drewN ?_ _ | refine blk_drew ?_ | refine blk_alloc ?_ _)); exact BK313.out⟩, ⟨by (with_reducible repeat (first | refine blk_drewN ?_ _ | refine blk_drew ?_ | refine blk_alloc ?_ _)); exact BK314.out⟩, ⟨by repeat (first | (with_reducible first | exact HB.out | apply below_alloc | apply pw_below_drewN | apply below_drew1 | refine below_set ?_ GE313.out | refine below_set ?_ GE314.out) | exact HB.out)⟩⟩
    case rest =>
     clear HC17
     try clear c1
     try clear c2
     try clear p2
     try clear c3
     try clear c6
     try clear c8
     try clear c11
     try clear c13
     try clear c18
     try clear c20
     try clear hcz14_0
     try clear hcz14_1
     try clear hcz16_0
     try clear hcz16_1
     try clear hcz21_0
     try clear hcz21_1
     try clear hcz9_0
     try clear hcz9_1
     try clear hfz14_0
     try clear hfz14_1
     try clear hfz16_0
     try clear hfz16_1
     try clear hfz21_0
     try clear hfz21_1
     try clear hfz9_0
     try clear hfz9_1
     try clear p2
     obtain ⟨kq, x15_16, rfl, HA, HJ16, BK313, BK314, HB⟩ := hcut
     cases kq with
     | zero => exact absurd HA.out (by simp [known_Branch.j1])
     | succ kj16 =>
      have H := HA.out
      clear HA
      simp only [known_Branch.j1] at H
      by_cases c23 : x15_16 = true
      ·
       subst c23
       rw [if_pos rfl] at H
       replace H := Option.bind_eq_some_iff.mp H
       obtain ⟨⟨t319, t320⟩, A240, H⟩ := H
       (try dsimp only at H)
       have A24 := Aside0.mk A240
       clear A240
       simp only [Option.some.injEq, Prod.mk.injEq] at H
       obtain ⟨rfl, rfl, rfl⟩ := H
       go_wp2_with (first | ((with_reducible refine gate_callee (f := 19) rfl ?_); refine goesL_ (some 22) rfl rfl Try.func19 (by kernel_rfl) rfl #[.int .i64 0] rfl (mapq rfl) ?_; (with_reducible refine (known_Of.calls 0 t319 t320 _ A24.out).mono ?_); rintro e w25 ⟨rfl, hb⟩; refine ⟨_, rfl, ?_⟩; replace BK313 := bb BK313 hb rfl; replace BK314 := bb BK314 hb rfl; replace HB := hst HB hb rfl; (try clear hb); have hnb26 := NB314_313.out; have hnc26 := NB313_314.out; have hcz27_0 : w25.cell? ⟨gb314, 0, none⟩ = some (.bool false) := (blk_cell BK314.out 0).trans rfl; have hcz27_1 : w25.cell? ⟨gb314, 1, none⟩ = some (.int .i64 0) := (blk_cell BK314.out 1).trans rfl; have hfz27_0 := blk_frozen BK314.out 0; have hfz27_1 := blk_frozen BK314.out 1))
       refine bodyPost_ret (results_ct rfl _ _ gb314 24 #[.bool t319, .int .i64 t320] (0, 0) _ rfl (by (with_reducible repeat (first | refine blk_drewN ?_ _ | refine blk_drew ?_ | refine blk_alloc ?_ _)); refine blk_put (cs := #[.bool t319, .int .i64 0]) ?_ 1 _ rfl; (with_reducible repeat (first | refine blk_drewN ?_ _ | refine blk_drew ?_ | refine blk_alloc ?_ _)); refine blk_put (cs := #[.bool false, .int .i64 0]) ?_ 0 _ rfl; (with_reducible repeat (first | refine blk_drewN ?_ _ | refine blk_drew ?_ | refine blk_alloc ?_ _)); exact BK314.out) Try.underlying24 rfl (by kernel_rfl)) rfl ?_
       exact ⟨by first | rfl | (simp [errW_none, errW_some] <;> rfl) | (simp [*, errW_none, errW_some] <;> rfl), by repeat (first | (with_reducible first | exact HB.out | apply below_alloc | apply pw_below_drewN | apply below_drew1 | refine below_set ?_ GE313.out | refine below_set ?_ GE314.out) | exact HB.out)⟩
      ·
       replace c23 := Bool.eq_false_iff.mpr c23
       subst c23
       rw [if_neg (show ¬ (false = true) by decide)] at H
       replace H := Option.bind_eq_some_iff.mp H
       obtain ⟨⟨t321, t322⟩, A280, H⟩ := H
       (try dsimp only at H)
       have A28 := Aside0.mk A280
       clear A280
       simp only [Option.some.injEq, Prod.mk.injEq] at H
       obtain ⟨rfl, rfl, rfl⟩ := H
       go_wp2_with (first | ((with_reducible refine gate_callee (f := 20) rfl ?_); refine goesL_ (some 23) rfl rfl Try.func20 (by kernel_rfl) rfl #[] rfl (mapq rfl) ?_; (with_reducible refine (known_Any.calls  t321 t322 _ A28.out).mono ?_); rintro e w29 ⟨rfl, hb⟩; refine ⟨_, rfl, ?_⟩; replace BK313 := bb BK313 hb rfl; replace BK314 := bb BK314 hb rfl; replace HB := hst HB hb rfl; (try clear hb); have hnb30 := NB314_313.out; have hnc30 := NB313_314.out; have hcz31_0 : w29.cell? ⟨gb314, 0, none⟩ = some (.bool false) := (blk_cell BK314.out 0).trans rfl; have hcz31_1 : w29.cell? ⟨gb314, 1, none⟩ = some (.int .i64 0) := (blk_cell BK314.out 1).trans rfl; have hfz31_0 := blk_frozen BK314.out 0; have hfz31_1 := blk_frozen BK314.out 1))
       refine bodyPost_ret (results_ct rfl _ _ gb314 24 #[.bool t321, .int .i64 t322] (0, 0) _ rfl (by (with_reducible repeat (first | refine blk_drewN ?_ _ | refine blk_drew ?_ | refine blk_alloc ?_ _)); refine blk_put (cs := #[.bool t321, .int .i64 0]) ?_ 1 _ rfl; (with_reducible repeat (first | refine blk_drewN ?_ _ | refine blk_drew ?_ | refine blk_alloc ?_ _)); refine blk_put (cs := #[.bool false, .int .i64 0]) ?_ 0 _ rfl; (with_reducible repeat (first | refine blk_drewN ?_ _ | refine blk_drew ?_ | refine blk_alloc ?_ _)); exact BK314.out) Try.underlying24 rfl (by kernel_rfl)) rfl ?_
       exact ⟨by first | rfl | (simp [errW_none, errW_some] <;> rfl) | (simp [*, errW_none, errW_some] <;> rfl), by repeat (first | (with_reducible first | exact HB.out | apply below_alloc | apply pw_below_drewN | apply below_drew1 | refine below_set ?_ GE313.out | refine below_set ?_ GE314.out) | exact HB.out)⟩

/-! ### avermentref09_Branch: function 32 -/
def avermentref09_Branch.j0 : Nat → Bool → Bool → Int → Option (Bool × Int × Bool)
 | 0, _, _, _ => none
 | k + 1, x13, x324000, x324001 => if x13 = true then (some (false, 0, false)) else ((avermentref09_Clean.f x324000 x324001).bind fun bt325 => (some (bt325.1, bt325.2, true)))
def avermentref09_Branch.f (k : Nat) (a0_0 : Bool) (a0_1 : Int) (a1 : Bool) : Option (Bool × Int × Bool) := if a1 = true then (if a0_0 = true then (avermentref09_Branch.j0 k (a0_1 == 0) a0_0 a0_1) else (avermentref09_Branch.j0 k false a0_0 a0_1)) else (if a0_0 = true then (if a0_1 = 0 then (some (true, 0, true)) else (some (false, 0, false))) else (some (true, 0, true)))
theorem avermentref09_Branch.mono_l : ∀ k, (∀ y0 y1 y2, LeO (avermentref09_Branch.j0 k y0 y1 y2) (avermentref09_Branch.j0 (k + 1) y0 y1 y2))
 | 0 => fun _ _ _ r h => by simp [avermentref09_Branch.j0] at h
 | k + 1 => by
  have ih0 := avermentref09_Branch.mono_l k
  ·
   intro y0 y1 y2
   unfold avermentref09_Branch.j0
   repeat' first
   | (with_reducible exact ih0 _ _ _)
   | (with_reducible exact LeO.refl _)
   | (with_reducible exact LeO.none _)
   | (with_reducible refine LeO.ite ?_ ?_)
   | (with_reducible refine LeO.bind ?_ (fun _ => ?_))
   | exact ih0 _ _ _
   | exact LeO.none _
   | refine LeO.ite ?_ ?_
   | refine LeO.bind ?_ (fun _ => ?_)
theorem avermentref09_Branch.mono : ∀ a0 a1 a2 k, LeO (avermentref09_Branch.f k a0 a1 a2) (avermentref09_Branch.f (k + 1) a0 a1 a2) := by
 intro a0 a1 a2 k
 have ih0 := avermentref09_Branch.mono_l k
 unfold avermentref09_Branch.f
 repeat' first
   | (with_reducible exact ih0 _ _ _)
   | (with_reducible exact LeO.refl _)
   | (with_reducible exact LeO.none _)
   | (with_reducible refine LeO.ite ?_ ?_)
   | (with_reducible refine LeO.bind ?_ (fun _ => ?_))
   | exact ih0 _ _ _
   | exact LeO.none _
   | refine LeO.ite ?_ ?_
   | refine LeO.bind ?_ (fun _ => ?_)
set_option maxHeartbeats 8000000 in
set_option maxRecDepth 100000 in
theorem avermentref09_Branch.calls (k : Nat) (a0_0 : Bool) (a0_1 : Int) (a1 : Bool) (r1 : Bool) (r2 : Int) (r3 : Bool) (w : World) (h : avermentref09_Branch.f k a0_0 a0_1 a1 = some (r1, r2, r3)) :
  Calls Try.prog 32 #[.agg #[.bool a0_0, .int .i64 a0_1], .bool a1] w fun e w' => e = .returned (.tuple #[.agg #[.bool r1, .int .i64 r2], .bool r3]) ∧ Below w.heap.size w w' := by
 have hu23 := Try.underlying23
 have HB := Aside0.mk (Below.refl w.heap.size w)
 have H : (if a1 = true then (if a0_0 = true then (avermentref09_Branch.j0 k (a0_1 == 0) a0_0 a0_1) else (avermentref09_Branch.j0 k false a0_0 a0_1)) else (if a0_0 = true then (if a0_1 = 0 then (some (true, 0, true)) else (some (false, 0, false))) else (some (true, 0, true)))) = some (r1, r2, r3) := h
 clear h
 by_cases c3 : a1 = true
 ·
  subst c3
  rw [if_pos rfl] at H
  have HC4 := Aside0.mk H
  clear H
  go_enter Try.func32, Try.ntmps32
  go_upto_region 2 with (first | ((with_reducible refine gate_dst (N := 2) rfl ?_); refine box_event ?hg (N := 2) ?hd (cs := #[.bool a0_0, .int .i64 a0_1]) (t := 23) ?hr ?_; (case hd => rfl); (case hg => rfl); (case hr => first | (go_simp; done) | (go_simp; rfl)); intro gb323 hg w5 hbox hb; have BK323 := Aside0.mk (hbox); have GW323 := geb hg HB rfl; have GE323 := geb hg HB rfl; replace HB := hst HB hb rfl; clear hb hbox hg) | ((with_reducible refine gate_dst (N := 4) rfl ?_); refine box_event ?hg (N := 4) ?hd (cs := #[.bool false, .int .i64 0]) (t := 23) ?hr ?_; (case hd => rfl); (case hg => rfl); (case hr => first | (go_simp; done) | (go_simp; rfl)); intro gb324 hg w6 hbox hb; have BK324 := Aside0.mk (hbox); have GW324 := geb hg HB rfl; have GE324 := geb hg HB rfl; have NB323_324 := nbl hg BK323 rfl; have NB324_323 := nbr hg BK323 rfl; replace BK323 := bb BK323 hb rfl; replace HB := hst HB hb rfl; clear hb hbox hg))
  (try simp only [Act.put, List.setIfInBounds_toArray, List.set_cons_zero, List.set_cons_succ])
  go_cut [13] (fun v13 wc => ∃ (kq : Nat) (x13_3 : Bool), v13 = .bool x13_3 ∧ Aside0 (avermentref09_Branch.j0 kq x13_3 a0_0 a0_1 = some (r1, r2, r3)) ∧ Aside0 (kq ≤ k) ∧ Aside0 (wc.heap[gb323]? = some (.cells #[.bool a0_0, .int .i64 a0_1] 23 (0, 0))) ∧ Aside0 (wc.heap[gb324]? = some (.cells #[.bool false, .int .i64 0] 23 (0, 0))) ∧ Aside0 (Below w.heap.size w wc))
  case first =>
   have H := HC4.out
   clear HC4
   by_cases c7 : a0_0 = true
   ·
    subst c7
    rw [if_pos rfl] at H
    have H' := Aside0.mk H
    clear H
    have hnb8 := NB323_324.out
    have hnc8 := NB324_323.out
    have hcz9_0 : w6.cell? ⟨gb323, 0, none⟩ = some (.bool true) := bc BK323 0 rfl
    have hcz9_1 : w6.cell? ⟨gb323, 1, none⟩ = some (.int .i64 a0_1) := bc BK323 1 rfl
    have hfz9_0 := blk_frozen BK323.out 0
    have hfz9_1 := blk_frozen BK323.out 1
    go_wp2
    go_meet
    case rel => exact ⟨_, ((a0_1 == 0)), (by first | rfl | (simp; done) | (simp [*]; done)), H', ⟨by first | omega | exact Nat.le_refl _⟩, ⟨by (with_reducible repeat (first | refine blk_drewN ?_ _ | refine blk_drew ?_ | refine blk_alloc ?_ _)); exact BK323.out⟩, ⟨by (with_reducible repeat (first | refine blk_drewN ?_ _ | refine blk_drew ?_ | refine blk_alloc ?_ _)); exact BK324.out⟩, ⟨by repeat (first | (with_reducible first | exact HB.out | apply below_alloc | apply pw_below_drewN | apply below_drew1 | refine below_set ?_ GE323.out | refine below_set ?_ GE324.out) | exact HB.out)⟩⟩
   ·
    replace c7 := Bool.eq_false_iff.mpr c7
    subst c7
    rw [if_neg (show ¬ (false = true) by decide)] at H
    have H' := Aside0.mk H
    clear H
    have hnb10 := NB323_324.out
    have hnc10 := NB324_323.out
    have hcz11_0 : w6.cell? ⟨gb323, 0, none⟩ = some (.bool false) := bc BK323 0 rfl
    have hcz11_1 : w6.cell? ⟨gb323, 1, none⟩ = some (.int .i64 a0_1) := bc BK323 1 rfl
    have hfz11_0 := blk_frozen BK323.out 0
    have hfz11_1 := blk_frozen BK323.out 1
    go_wp2
    go_meet
    case rel => exact ⟨_, (false), (by first | rfl | (simp; done) | (simp [*]; done)), H', ⟨by first | omega | exact Nat.le_refl _⟩, ⟨by (with_reducible repeat (first | refine blk_drewN ?_ _ | refine blk_drew ?_ | refine blk_alloc ?_ _)); exact BK323.out⟩, ⟨by (with_reducible repeat (first | refine blk_drewN ?_ _ | refine blk_drew ?_ | refine blk_alloc ?_ _)); exact BK324.out⟩, ⟨by repeat (first | (with_reducible first | exact HB.out | apply below_alloc | apply pw_below_drewN | apply below_drew1 | refine below_set ?_ GE323.out | refine below_set ?_ GE324.out) | exact HB.out)⟩⟩
  case rest =>
   clear HC4
   try clear c1
   try clear p2
   try clear c3
   try clear c7
   try clear c8
   try clear c10
   try clear hcz11_0
   try clear hcz11_1
   try clear hcz9_0
   try clear hcz9_1
   try clear hfz11_0
   try clear hfz11_1
   try clear hfz9_0
   try clear hfz9_1
   obtain ⟨kq, x13_3, rfl, HA, HJ3, BK323, BK324, HB⟩ := hcut
   cases kq with
   | zero => exact absurd HA.out (by simp [avermentref09_Branch.j0])
   | succ kj3 =>
    have H := HA.out
    clear HA
    simp only [avermentref09_Branch.j0] at H
    by_cases c12 : x13_3 = true
    ·
     subst c12
     rw [if_pos rfl] at H
     simp only [Option.some.injEq, Prod.mk.injEq] at H
     obtain ⟨rfl, rfl, rfl⟩ := H
     have hnb13 := NB324_323.out
     have hnc13 := NB323_324.out
     have hcz14_0 : wc.cell? ⟨gb324, 0, none⟩ = some (.bool false) := bc BK324 0 rfl
     have hcz14_1 : wc.cell? ⟨gb324, 1, none⟩ = some (.int .i64 0) := bc BK324 1 rfl
     have hfz14_0 := blk_frozen BK324.out 0
     have hfz14_1 := blk_frozen BK324.out 1
     go_wp2
     refine bodyPost_ret (results_ct rfl _ _ gb324 23 #[.bool false, .int .i64 0] (0, 0) _ rfl (by (with_reducible repeat (first | refine blk_drewN ?_ _ | refine blk_drew ?_ | refine blk_alloc ?_ _)); refine blk_put (cs := #[.bool false, .int .i64 0]) ?_ 1 _ rfl; (with_reducible repeat (first | refine blk_drewN ?_ _ | refine blk_drew ?_ | refine blk_alloc ?_ _)); refine blk_put (cs := #[.bool false, .int .i64 0]) ?_ 0 _ rfl; (with_reducible repeat (first | refine blk_drewN ?_ _ | refine blk_drew ?_ | refine blk_alloc ?_ _)); exact BK324.out) Try.underlying23 rfl (by kernel_rfl)) rfl ?_
     exact ⟨by first | rfl | (simp [errW_none, errW_some] <;> rfl) | (simp [*, errW_none, errW_some] <;> rfl), by repeat (first | (with_reducible first | exact HB.out | apply below_alloc | apply pw_below_drewN | apply below_drew1 | refine below_set ?_ GE323.out | refine below_set ?_ GE324.out) | exact HB.out)⟩
    ·
     replace c12 := Bool.eq_false_iff.mpr c12
     subst c12
     rw [if_neg (show ¬ (false = true) by decide)] at H
     replace H := Option.bind_eq_some_iff.mp H
     obtain ⟨⟨t325, t326⟩, A150, H⟩ := H
     (try dsimp only at H)
     have A15 := Aside0.mk A150
     clear A150
     simp only [Option.some.injEq, Prod.mk.injEq] at H
     obtain ⟨rfl, rfl, rfl⟩ := H
     have hnb16 := NB323_324.out
     have hnc16 := NB324_323.out
     have hcz17_0 : wc.cell? ⟨gb323, 0, none⟩ = some (.bool a0_0) := bc BK323 0 rfl
     have hcz17_1 : wc.cell? ⟨gb323, 1, none⟩ = some (.int .i64 a0_1) := bc BK323 1 rfl
     have hfz17_0 := blk_frozen BK323.out 0
     have hfz17_1 := blk_frozen BK323.out 1
     go_wp2_with (first | ((with_reducible refine gate_callee (f := 61) rfl ?_); refine goesL_ (some 16) rfl rfl Try.func61 (by kernel_rfl) rfl #[.agg #[.bool a0_0, .int .i64 a0_1]] rfl (mapq rfl) ?_; (with_reducible refine (avermentref09_Clean.calls a0_0 a0_1 t325 t326 _ A15.out).mono ?_); rintro e w18 ⟨rfl, hb⟩; refine ⟨_, rfl, ?_⟩; replace BK323 := bb BK323 hb rfl; replace BK324 := bb BK324 hb rfl; replace HB := hst HB hb rfl; (try clear hb); have hcz19_0 : w18.cell? ⟨gb324, 0, none⟩ = some (.bool false) := (blk_cell BK324.out 0).trans rfl; have hcz19_1 : w18.cell? ⟨gb324, 1, none⟩ = some (.int .i64 0) := (blk_cell BK324.out 1).trans rfl; have hfz19_0 := blk_frozen BK324.out 0; have hfz19_1 := blk_frozen BK324.out 1))
     refine bodyPost_ret (results_ct rfl _ _ gb324 23 #[.bool t325, .int .i64 t326] (0, 0) _ rfl (by (with_reducible repeat (first | refine blk_drewN ?_ _ | refine blk_drew ?_ | refine blk_alloc ?_ _)); refine blk_put (cs := #[.bool t325, .int .i64 0]) ?_ 1 _ rfl; (with_reducible repeat (first | refine blk_drewN ?_ _ | refine blk_drew ?_ | refine blk_alloc ?_ _)); refine blk_put (cs := #[.bool false, .int .i64 0]) ?_ 0 _ rfl; (with_reducible repeat (first | refine blk_drewN ?_ _ | refine blk_drew ?_ | refine blk_alloc ?_ _)); exact BK324.out) Try.underlying23 rfl (by kernel_rfl)) rfl ?_
     exact ⟨by first | rfl | (simp [errW_none, errW_some] <;> rfl) | (simp [*, errW_none, errW_some] <;> rfl), by repeat (first | (with_reducible first | exact HB.out | apply below_alloc | apply pw_below_drewN | apply below_drew1 | refine below_set ?_ GE323.out | refine below_set ?_ GE324.out) | exact HB.out)⟩
 ·
  replace c3 := Bool.eq_false_iff.mpr c3
  subst c3
  rw [if_neg (show ¬ (false = true) by decide)] at H
  by_cases c20 : a0_0 = true
  ·
   subst c20
   rw [if_pos rfl] at H
   by_cases c21 : a0_1 = 0
   ·
    rw [if_pos c21] at H
    have c21b0 : (a0_1 == 0) = true := beq_iff_eq.mpr c21
    have c21b1 : (a0_1 != 0) = false := bne_eq_false_iff_eq.mpr c21
    clear c21
    simp only [Option.some.injEq, Prod.mk.injEq] at H
    obtain ⟨rfl, rfl, rfl⟩ := H
    go_enter Try.func32, Try.ntmps32
    go_wp2_with (first | ((with_reducible refine gate_dst (N := 2) rfl ?_); refine box_event ?hg (N := 2) ?hd (cs := #[.bool true, .int .i64 a0_1]) (t := 23) ?hr ?_; (case hd => rfl); (case hg => rfl); (case hr => first | (go_simp; done) | (go_simp; rfl)); intro gb323 hg w22 hbox hb; have BK323 := Aside0.mk (hbox); have GW323 := geb hg HB rfl; have GE323 := geb hg HB rfl; replace HB := hst HB hb rfl; clear hb hbox hg) | ((with_reducible refine gate_dst (N := 4) rfl ?_); refine box_event ?hg (N := 4) ?hd (cs := #[.bool false, .int .i64 0]) (t := 23) ?hr ?_; (case hd => rfl); (case hg => rfl); (case hr => first | (go_simp; done) | (go_simp; rfl)); intro gb324 hg w23 hbox hb; have BK324 := Aside0.mk (hbox); have GW324 := geb hg HB rfl; have GE324 := geb hg HB rfl; have NB323_324 := nbl hg BK323 rfl; have NB324_323 := nbr hg BK323 rfl; replace BK323 := bb BK323 hb rfl; replace HB := hst HB hb rfl; clear hb hbox hg; have hnb24 := NB323_324.out; have hnc24 := NB324_323.out; have hcz25_0 : w23.cell? ⟨gb323, 0, none⟩ = some (.bool true) := (blk_cell BK323.out 0).trans rfl; have hcz25_1 : w23.cell? ⟨gb323, 1, none⟩ = some (.int .i64 a0_1) := (blk_cell BK323.out 1).trans rfl; have hfz25_0 := blk_frozen BK323.out 0; have hfz25_1 := blk_frozen BK323.out 1; have hcz26_0 : w23.cell? ⟨gb324, 0, none⟩ = some (.bool false) := (blk_cell BK324.out 0).trans rfl; have hcz26_1 : w23.cell? ⟨gb324, 1, none⟩ = some (.int .i64 0) := (blk_cell BK324.out 1).trans rfl; have hfz26_0 := blk_frozen BK324.out 0; have hfz26_1 := blk_frozen BK324.out 1))
    refine bodyPost_ret (results_ct rfl _ _ gb324 23 #[.bool true, .int .i64 0] (0, 0) _ rfl (by (with_reducible repeat (first | refine blk_drewN ?_ _ | refine blk_drew ?_ | refine blk_alloc ?_ _)); refine blk_put (cs := #[.bool true, .int .i64 0]) ?_ 1 _ rfl; (with_reducible repeat (first | refine blk_drewN ?_ _ | refine blk_drew ?_ | refine blk_alloc ?_ _)); refine blk_put (cs := #[.bool false, .int .i64 0]) ?_ 0 _ rfl; (with_reducible repeat (first | refine blk_drewN ?_ _ | refine blk_drew ?_ | refine blk_alloc ?_ _)); exact BK324.out) Try.underlying23 rfl (by kernel_rfl)) rfl ?_
    exact ⟨by first | rfl | (simp [errW_none, errW_some] <;> rfl) | (simp [*, errW_none, errW_some] <;> rfl), by repeat (first | (with_reducible first | exact HB.out | apply below_alloc | apply pw_below_drewN | apply below_drew1 | refine below_set ?_ GE323.out | refine below_set ?_ GE324.out) | exact HB.out)⟩
   ·
    rw [if_neg c21] at H
    have c21b0 : (a0_1 == 0) = false := beq_eq_false_iff_ne.mpr c21
    have c21b1 : (a0_1 != 0) = true := bne_iff_ne.mpr c21
    simp only [Option.some.injEq, Prod.mk.injEq] at H
    obtain ⟨rfl, rfl, rfl⟩ := H
    go_enter Try.func32, Try.ntmps32
    go_wp2_with (first | ((with_reducible refine gate_dst (N := 2) rfl ?_); refine box_event ?hg (N := 2) ?hd (cs := #[.bool true, .int .i64 a0_1]) (t := 23) ?hr ?_; (case hd => rfl); (case hg => rfl); (case hr => first | (go_simp; done) | (go_simp; rfl)); intro gb323 hg w27 hbox hb; have BK323 := Aside0.mk (hbox); have GW323 := geb hg HB rfl; have GE323 := geb hg HB rfl; replace HB := hst HB hb rfl; clear hb hbox hg) | ((with_reducible refine gate_dst (N := 4) rfl ?_); refine box_event ?hg (N := 4) ?hd (cs := #[.bool false, .int .i64 0]) (t := 23) ?hr ?_; (case hd => rfl); (case hg => rfl); (case hr => first | (go_simp; done) | (go_simp; rfl)); intro gb324 hg w28 hbox hb; have BK324 := Aside0.mk (hbox); have GW324 := geb hg HB rfl; have GE324 := geb hg HB rfl; have NB323_324 := nbl hg BK323 rfl; have NB324_323 := nbr hg BK323 rfl; replace BK323 := bb BK323 hb rfl; replace HB := hst HB hb rfl; clear hb hbox hg; have hnb29 := NB323_324.out; have hnc29 := NB324_323.out; have hcz30_0 : w28.cell? ⟨gb323, 0, none⟩ = some (.bool true) := (blk_cell BK323.out 0).trans rfl; have hcz30_1 : w28.cell? ⟨gb323, 1, none⟩ = some (.int .i64 a0_1) := (blk_cell BK323.out 1).trans rfl; have hfz30_0 := blk_frozen BK323.out 0; have hfz30_1 := blk_frozen BK323.out 1; have hcz31_0 : w28.cell? ⟨gb324, 0, none⟩ = some (.bool false) := (blk_cell BK324.out 0).trans rfl; have hcz31_1 : w28.cell? ⟨gb324, 1, none⟩ = some (.int .i64 0) := (blk_cell BK324.out 1).trans rfl; have hfz31_0 := blk_frozen BK324.out 0; have hfz31_1 := blk_frozen BK324.out 1))
    refine bodyPost_ret (results_ct rfl _ _ gb324 23 #[.bool false, .int .i64 0] (0, 0) _ rfl (by (with_reducible repeat (first | refine blk_drewN ?_ _ | refine blk_drew ?_ | refine blk_alloc ?_ _)); refine blk_put (cs := #[.bool false, .int .i64 0]) ?_ 1 _ rfl; (with_reducible repeat (first | refine blk_drewN ?_ _ | refine blk_drew ?_ | refine blk_alloc ?_ _)); refine blk_put (cs := #[.bool false, .int .i64 0]) ?_ 0 _ rfl; (with_reducible repeat (first | refine blk_drewN ?_ _ | refine blk_drew ?_ | refine blk_alloc ?_ _)); exact BK324.out) Try.underlying23 rfl (by kernel_rfl)) rfl ?_
    exact ⟨by first | rfl | (simp [errW_none, errW_some] <;> rfl) | (simp [*, errW_none, errW_some] <;> rfl), by repeat (first | (with_reducible first | exact HB.out | apply below_alloc | apply pw_below_drewN | apply below_drew1 | refine below_set ?_ GE323.out | refine below_set ?_ GE324.out) | exact HB.out)⟩
  ·
   replace c20 := Bool.eq_false_iff.mpr c20
   subst c20
   rw [if_neg (show ¬ (false = true) by decide)] at H
   simp only [Option.some.injEq, Prod.mk.injEq] at H
   obtain ⟨rfl, rfl, rfl⟩ := H
   go_enter Try.func32, Try.ntmps32
   go_wp2_with (first | ((with_reducible refine gate_dst (N := 2) rfl ?_); refine box_event ?hg (N := 2) ?hd (cs := #[.bool false, .int .i64 a0_1]) (t := 23) ?hr ?_; (case hd => rfl); (case hg => rfl); (case hr => first | (go_simp; done) | (go_simp; rfl)); intro gb323 hg w32 hbox hb; have BK323 := Aside0.mk (hbox); have GW323 := geb hg HB rfl; have GE323 := geb hg HB rfl; replace HB := hst HB hb rfl; clear hb hbox hg) | ((with_reducible refine gate_dst (N := 4) rfl ?_); refine box_event ?hg (N := 4) ?hd (cs := #[.bool false, .int .i64 0]) (t := 23) ?hr ?_; (case hd => rfl); (case hg => rfl); (case hr => first | (go_simp; done) | (go_simp; rfl)); intro gb324 hg w33 hbox hb; have BK324 := Aside0.mk (hbox); have GW324 := geb hg HB rfl; have GE324 := geb hg HB rfl; have NB323_324 := nbl hg BK323 rfl; have NB324_323 := nbr hg BK323 rfl; replace BK323 := bb BK323 hb rfl; replace HB := hst HB hb rfl; clear hb hbox hg; have hnb34 := NB323_324.out; have hnc34 := NB324_323.out; have hcz35_0 : w33.cell? ⟨gb323, 0, none⟩ = some (.bool false) := (blk_cell BK323.out 0).trans rfl; have hcz35_1 : w33.cell? ⟨gb323, 1, none⟩ = some (.int .i64 a0_1) := (blk_cell BK323.out 1).trans rfl; have hfz35_0 := blk_frozen BK323.out 0; have hfz35_1 := blk_frozen BK323.out 1; have hcz36_0 : w33.cell? ⟨gb324, 0, none⟩ = some (.bool false) := (blk_cell BK324.out 0).trans rfl; have hcz36_1 : w33.cell? ⟨gb324, 1, none⟩ = some (.int .i64 0) := (blk_cell BK324.out 1).trans rfl; have hfz36_0 := blk_frozen BK324.out 0; have hfz36_1 := blk_frozen BK324.out 1))
   refine bodyPost_ret (results_ct rfl _ _ gb324 23 #[.bool true, .int .i64 0] (0, 0) _ rfl (by (with_reducible repeat (first | refine blk_drewN ?_ _ | refine blk_drew ?_ | refine blk_alloc ?_ _)); refine blk_put (cs := #[.bool true, .int .i64 0]) ?_ 1 _ rfl; (with_reducible repeat (first | refine blk_drewN ?_ _ | refine blk_drew ?_ | refine blk_alloc ?_ _)); refine blk_put (cs := #[.bool false, .int .i64 0]) ?_ 0 _ rfl; (with_reducible repeat (first | refine blk_drewN ?_ _ | refine blk_drew ?_ | refine blk_alloc ?_ _)); exact BK324.out) Try.underlying23 rfl (by kernel_rfl)) rfl ?_
   exact ⟨by first | rfl | (simp [errW_none, errW_some] <;> rfl) | (simp [*, errW_none, errW_some] <;> rfl), by repeat (first | (with_reducible first | exact HB.out | apply below_alloc | apply pw_below_drewN | apply below_drew1 | refine below_set ?_ GE323.out | refine below_set ?_ GE324.out) | exact HB.out)⟩

end Go.Proofs.Ytpacmhhaabhdjaa.KN
