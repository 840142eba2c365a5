-- Written by a program of this session: plain functions and their walks. Lean checks it.
import Derived.Test.YtpacmhhaabhdjaaSM0
import Derived.Test.YtpacmhhaabhdjaaSM1
import Derived.Test.YtpacmhhaabhdjaaSM8
import Derived.Test.YtpacmhhaabhdjaaSM9
import Derived.Test.YtpacmhhaabhdjaaSM10
import Derived.Test.YtpacmhhaabhdjaaSM11
import Derived.Test.YtpacmhhaabhdjaaSM12
namespace Go.Proofs.Ytpacmhhaabhdjaa.SM
open Go.RowKit Go.Proofs.YtpacmhhaabhdjaaW.PrintWords Go.Proofs.YtpacmhhaabhdjaaW.PrintLast Go.Proofs.YtpacmhhaabhdjaaW.PrintMore
attribute [local go_sem] max2_int min2_int max_two min_two max_three min_three max_four min_four   -- for this text's walks alone
set_option linter.unusedVariables false
set_option linter.unusedSimpArgs false

attribute [local go_sem high] eqA56
/-! ### avermentref10_Two: function 56 -/
mutual
def avermentref10_Two.l0 : Nat → List Int → Bool → Int → Int → Int → Int → Int → Option (Int × Int × Bool)
 | 0, _, _, _, _, _, _, _ => none
 | k + 1, x16, x17, x18, x407000, x407001, x408000, x408001 => if x18 < 4 then ((some (([x407000, x407001] : List Int) : List Int)).bind fun y435 => (if 0 ≤ (wrap64 (Int.tdiv x18 2)) then (if (wrap64 (Int.tdiv x18 2)) < (y435.length : Int) then ((some (([x408000, x408001] : List Int) : List Int)).bind fun y439 => (if 0 ≤ (Int.tmod x18 2) then (if (Int.tmod x18 2) < (y439.length : Int) then ((avermentref10_times.f k (rd y435 (wrap64 (Int.tdiv x18 2))) (rd y439 (Int.tmod x18 2))).bind fun bt443 => (if x16.length < 17592186044416 then ((some (x16 ++ [bt443.1] : List Int)).bind fun y445 => (if x17 = true then (avermentref10_Two.l0 k y445 bt443.2 (wrap64 (x18 + 1)) x407000 x407001 x408000 x408001) else (avermentref10_Two.l0 k y445 false (wrap64 (x18 + 1)) x407000 x407001 x408000 x408001))) else (none))) else (none)) else (none))) else (none)) else (none))) else ((avermentref10_hull.f k x16 x17).bind fun bt448 => (some (bt448.1, bt448.2.1, bt448.2.2)))
def avermentref10_Two.j1 : Nat → Bool → Int → Int → Int → Int → Option (Int × Int × Bool)
 | 0, _, _, _, _, _ => none
 | k + 1, x169, x407000, x407001, x408000, x408001 => if x169 = true then (some (1, 1, true)) else (if x407001 < x408000 then (some (0, 0, true)) else (if x408001 < x407000 then (some (0, 0, true)) else (some (0, 1, true))))
end
def avermentref10_Two.f (k : Nat) (a0 : Int) (a1_0 : Int) (a1_1 : Int) (a2_0 : Int) (a2_1 : Int) : Option (Int × Int × Bool) := if a0 = 4 then ((avermentref10_add.f a1_0 a2_0).bind fun bt409 => ((avermentref10_add.f a1_1 a2_1).bind fun bt411 => ((some (([bt409.1, bt411.1] : List Int) : List Int)).bind fun y413 => (if bt409.2 = true then ((avermentref10_hull.f k y413 bt411.2).bind fun bt416 => (some (bt416.1, bt416.2.1, bt416.2.2))) else ((avermentref10_hull.f k y413 false).bind fun bt419 => (some (bt419.1, bt419.2.1, bt419.2.2))))))) else (if a0 = 5 then ((avermentref10_sub.f a1_0 a2_1).bind fun bt422 => ((avermentref10_sub.f a1_1 a2_0).bind fun bt424 => ((some (([bt422.1, bt424.1] : List Int) : List Int)).bind fun y426 => (if bt422.2 = true then ((avermentref10_hull.f k y426 bt424.2).bind fun bt429 => (some (bt429.1, bt429.2.1, bt429.2.2))) else ((avermentref10_hull.f k y426 false).bind fun bt432 => (some (bt432.1, bt432.2.1, bt432.2.2))))))) else (if a0 = 6 then (avermentref10_Two.l0 k ([] : List Int) true 0 a1_0 a1_1 a2_0 a2_1) else (if a0 = 7 then ((avermentref10_div.f k a1_0 a1_1 a2_0 a2_1).bind fun bt451 => (some (bt451.1, bt451.2.1, bt451.2.2))) else (if a0 = 8 then ((avermentref10_rem.f k a1_0 a1_1 a2_0 a2_1).bind fun bt454 => (some (bt454.1, bt454.2.1, bt454.2.2))) else (if a0 = 9 then ((avermentref10_and.f k a1_0 a1_1 a2_0 a2_1).bind fun bt457 => (some (bt457.1, bt457.2, true))) else (if a0 = 10 then ((avermentref10_xor.f k a1_0 a1_1 a2_0 a2_1).bind fun bt459 => (some (bt459.1, bt459.2, true))) else (if a0 = 11 then (if a1_1 < a2_0 then (some (1, 1, true)) else (if a1_0 ≥ a2_1 then (some (0, 0, true)) else (some (0, 1, true)))) else (if a0 = 12 then (if a1_0 = a1_1 then (avermentref10_Two.j1 k (a1_0 == a2_0 && (a1_1 == a2_1)) a1_0 a1_1 a2_0 a2_1) else (avermentref10_Two.j1 k false a1_0 a1_1 a2_0 a2_1)) else (some (0, 0, false))))))))))
theorem avermentref10_Two.mono_l : ∀ k, (∀ y0 y1 y2 y3 y4 y5 y6, LeO (avermentref10_Two.l0 k y0 y1 y2 y3 y4 y5 y6) (avermentref10_Two.l0 (k + 1) y0 y1 y2 y3 y4 y5 y6)) ∧ (∀ y0 y1 y2 y3 y4, LeO (avermentref10_Two.j1 k y0 y1 y2 y3 y4) (avermentref10_Two.j1 (k + 1) y0 y1 y2 y3 y4))
 | 0 => ⟨fun _ _ _ _ _ _ _ r h => by simp [avermentref10_Two.l0] at h, fun _ _ _ _ _ r h => by simp [avermentref10_Two.j1] at h⟩
 | k + 1 => by
  obtain ⟨ih0, ih1⟩ := avermentref10_Two.mono_l k
  refine ⟨?_, ?_⟩
  ·
   intro y0 y1 y2 y3 y4 y5 y6
   unfold avermentref10_Two.l0
   repeat' first
   | (with_reducible exact ih0 _ _ _ _ _ _ _)
   | (with_reducible exact ih1 _ _ _ _ _)
   | (with_reducible exact avermentref10_and.mono _ _ _ _ _)
   | (with_reducible exact avermentref10_div.mono _ _ _ _ _)
   | (with_reducible exact avermentref10_hull.mono _ _ _)
   | (with_reducible exact avermentref10_rem.mono _ _ _ _ _)
   | (with_reducible exact avermentref10_times.mono _ _ _)
   | (with_reducible exact avermentref10_xor.mono _ _ _ _ _)
   | (with_reducible exact LeO.refl _)
   | (with_reducible exact LeO.none _)
   | (with_reducible refine LeO.ite ?_ ?_)
   | (with_reducible refine LeO.bind ?_ (fun _ => ?_))
   | exact ih0 _ _ _ _ _ _ _
   | exact ih1 _ _ _ _ _
   | exact avermentref10_and.mono _ _ _ _ _
   | exact avermentref10_div.mono _ _ _ _ _
   | exact avermentref10_hull.mono _ _ _
   | exact avermentref10_rem.mono _ _ _ _ _
   | exact avermentref10_times.mono _ _ _
   | exact avermentref10_xor.mono _ _ _ _ _
   | exact LeO.none _
   | refine LeO.ite ?_ ?_
   | refine LeO.bind ?_ (fun _ => ?_)
  ·
   intro y0 y1 y2 y3 y4
   unfold avermentref10_Two.j1
   repeat' first
   | (with_reducible exact ih0 _ _ _ _ _ _ _)
   | (with_reducible exact ih1 _ _ _ _ _)
   | (with_reducible exact avermentref10_and.mono _ _ _ _ _)
   | (with_reducible exact avermentref10_div.mono _ _ _ _ _)
   | (with_reducible exact avermentref10_hull.mono _ _ _)
   | (with_reducible exact avermentref10_rem.mono _ _ _ _ _)
   | (with_reducible exact avermentref10_times.mono _ _ _)
   | (with_reducible exact avermentref10_xor.mono _ _ _ _ _)
   | (with_reducible exact LeO.refl _)
   | (with_reducible exact LeO.none _)
   | (with_reducible refine LeO.ite ?_ ?_)
   | (with_reducible refine LeO.bind ?_ (fun _ => ?_))
   | exact ih0 _ _ _ _ _ _ _
   | exact ih1 _ _ _ _ _
   | exact avermentref10_and.mono _ _ _ _ _
   | exact avermentref10_div.mono _ _ _ _ _
   | exact avermentref10_hull.mono _ _ _
   | exact avermentref10_rem.mono _ _ _ _ _
   | exact avermentref10_times.mono _ _ _
   | exact avermentref10_xor.mono _ _ _ _ _
   | exact LeO.none _
   | refine LeO.ite ?_ ?_
   | refine LeO.bind ?_ (fun _ => ?_)
theorem avermentref10_Two.mono : ∀ a0 a1 a2 a3 a4 k, LeO (avermentref10_Two.f k a0 a1 a2 a3 a4) (avermentref10_Two.f (k + 1) a0 a1 a2 a3 a4) := by
 intro a0 a1 a2 a3 a4 k
 obtain ⟨ih0, ih1⟩ := avermentref10_Two.mono_l k
 unfold avermentref10_Two.f
 repeat' first
   | (with_reducible exact ih0 _ _ _ _ _ _ _)
   | (with_reducible exact ih1 _ _ _ _ _)
   | (with_reducible exact avermentref10_and.mono _ _ _ _ _)
   | (with_reducible exact avermentref10_div.mono _ _ _ _ _)
   | (with_reducible exact avermentref10_hull.mono _ _ _)
   | (with_reducible exact avermentref10_rem.mono _ _ _ _ _)
   | (with_reducible exact avermentref10_times.mono _ _ _)
   | (with_reducible exact avermentref10_xor.mono _ _ _ _ _)
   | (with_reducible exact LeO.refl _)
   | (with_reducible exact LeO.none _)
   | (with_reducible refine LeO.ite ?_ ?_)
   | (with_reducible refine LeO.bind ?_ (fun _ => ?_))
   | exact ih0 _ _ _ _ _ _ _
   | exact ih1 _ _ _ _ _
   | exact avermentref10_and.mono _ _ _ _ _
   | exact avermentref10_div.mono _ _ _ _ _
   | exact avermentref10_hull.mono _ _ _
   | exact avermentref10_rem.mono _ _ _ _ _
   | exact avermentref10_times.mono _ _ _
   | exact avermentref10_xor.mono _ _ _ _ _
   | exact LeO.none _
   | refine LeO.ite ?_ ?_
   | refine LeO.bind ?_ (fun _ => ?_)
def avermentref10_Two.T16 : Bool × List (List Nat × List Nat) := (true, [([], []), ([0], [0]), ([], []), ([2], [2]), ([1, 3], [1, 3]), ([], []), ([5], [5]), ([4, 6], [4, 6]), ([7], [7]), ([], []), ([9], [9]), ([], []), ([11], [11]), ([10, 12], [10, 12]), ([], []), ([14], [14]), ([13, 15], [13, 15]), ([16], [16]), ([8, 17], [8, 17]), ([18], [18]), ([19], [19]), ([19], [19]), ([20, 18, 0, 1, 2, 3, 4, 5, 6, 7, 8, 9, 10, 11, 12, 13, 14, 15, 16, 17, 18, 19, 20], [20]), ([21, 22, 0, 1, 2, 3, 4, 5, 6, 7, 8, 9, 10, 11, 12, 13, 14, 15, 16, 17, 18, 19, 20, 21, 22], [21])])
def avermentref10_Two.B16 : List Nat := [0, 1, 0, 4, 15, 0, 32, 127, 255, 0, 512, 0, 2048, 7680, 0, 16384, 65024, 130560, 262143, 524287, 1048575, 1048575, 2097151, 8388607]
theorem avermentref10_Two.tab16 : rtab .any (opsOf Try.f56 16) = avermentref10_Two.T16 := by kernel_rfl
theorem avermentref10_Two.bits16 : waitsOk avermentref10_Two.T16.2 avermentref10_Two.B16 = true := by kernel_rfl
set_option maxHeartbeats 8000000 in
set_option maxRecDepth 100000 in
theorem avermentref10_Two.calls (k : Nat) (a0 : Int) (a1_0 : Int) (a1_1 : Int) (a2_0 : Int) (a2_1 : Int) (r1 : Int) (r2 : Int) (r3 : Bool) (w : World) (h : avermentref10_Two.f k a0 a1_0 a1_1 a2_0 a2_1 = some (r1, r2, r3)) :
  Calls Try.prog 56 #[.int .i64 a0, .agg #[.int .i64 a1_0, .int .i64 a1_1], .agg #[.int .i64 a2_0, .int .i64 a2_1]] w fun e w' => e = .returned (.tuple #[.agg #[.int .i64 r1, .int .i64 r2], .bool r3]) ∧ Below w.heap.size w w' := by
 have hu56 := Try.underlying56
 have HB := Aside0.mk (Below.refl w.heap.size w)
 have H : (if a0 = 4 then ((avermentref10_add.f a1_0 a2_0).bind fun bt409 => ((avermentref10_add.f a1_1 a2_1).bind fun bt411 => ((some (([bt409.1, bt411.1] : List Int) : List Int)).bind fun y413 => (if bt409.2 = true then ((avermentref10_hull.f k y413 bt411.2).bind fun bt416 => (some (bt416.1, bt416.2.1, bt416.2.2))) else ((avermentref10_hull.f k y413 false).bind fun bt419 => (some (bt419.1, bt419.2.1, bt419.2.2))))))) else (if a0 = 5 then ((avermentref10_sub.f a1_0 a2_1).bind fun bt422 => ((avermentref10_sub.f a1_1 a2_0).bind fun bt424 => ((some (([bt422.1, bt424.1] : List Int) : List Int)).bind fun y426 => (if bt422.2 = true then ((avermentref10_hull.f k y426 bt424.2).bind fun bt429 => (some (bt429.1, bt429.2.1, bt429.2.2))) else ((avermentref10_hull.f k y426 false).bind fun bt432 => (some (bt432.1, bt432.2.1, bt432.2.2))))))) else (if a0 = 6 then (avermentref10_Two.l0 k ([] : List Int) true 0 a1_0 a1_1 a2_0 a2_1) else (if a0 = 7 then ((avermentref10_div.f k a1_0 a1_1 a2_0 a2_1).bind fun bt451 => (some (bt451.1, bt451.2.1, bt451.2.2))) else (if a0 = 8 then ((avermentref10_rem.f k a1_0 a1_1 a2_0 a2_1).bind fun bt454 => (some (bt454.1, bt454.2.1, bt454.2.2))) else (if a0 = 9 then ((avermentref10_and.f k a1_0 a1_1 a2_0 a2_1).bind fun bt457 => (some (bt457.1, bt457.2, true))) else (if a0 = 10 then ((avermentref10_xor.f k a1_0 a1_1 a2_0 a2_1).bind fun bt459 => (some (bt459.1, bt459.2, true))) else (if a0 = 11 then (if a1_1 < a2_0 then (some (1, 1, true)) else (if a1_0 ≥ a2_1 then (some (0, 0, true)) else (some (0, 1, true)))) else (if a0 = 12 then (if a1_0 = a1_1 then (avermentref10_Two.j1 k (a1_0 == a2_0 && (a1_1 == a2_1)) a1_0 a1_1 a2_0 a2_1) else (avermentref10_Two.j1 k false a1_0 a1_1 a2_0 a2_1)) else (some (0, 0, false))))))))))) = some (r1, r2, r3) := h
 clear h
 by_cases c4 : a0 = 4
 ·
  rw [if_pos c4] at H
  have c4b0 : (a0 == 4) = true := beq_iff_eq.mpr c4
  have c4b1 : (a0 != 4) = false := bne_eq_false_iff_eq.mpr c4
  clear c4
  replace H := Option.bind_eq_some_iff.mp H
  obtain ⟨⟨t409, t410⟩, A50, H⟩ := H
  (try dsimp only at H)
  have A5 := Aside0.mk A50
  clear A50
  replace H := Option.bind_eq_some_iff.mp H
  obtain ⟨⟨t411, t412⟩, A60, H⟩ := H
  (try dsimp only at H)
  have A6 := Aside0.mk A60
  clear A60
  obtain ⟨y413, hy413⟩ : ∃ y_ : List Int, y_ = (([t409, t411] : List Int)) := ⟨_, rfl⟩
  replace H : (if t410 = true then ((avermentref10_hull.f k y413 t412).bind fun bt416 => (some (bt416.1, bt416.2.1, bt416.2.2))) else ((avermentref10_hull.f k y413 false).bind fun bt419 => (some (bt419.1, bt419.2.1, bt419.2.2)))) = some (r1, r2, r3) := by first | (rw [hy413]; with_reducible exact H) | (have H2_ := (Option.bind_some _ _).symm.trans H; rw [hy413]; with_reducible exact H2_) | (have H2_ := (Option.bind_some _ _).symm.trans H; with_reducible exact H2_) | with_reducible exact H | (rw [hy413]; exact H) | exact H
  have Ny413 := Aside0.mk hy413
  clear hy413
  by_cases c7 : t410 = true
  ·
   subst c7
   rw [if_pos rfl] at H
   replace H := Option.bind_eq_some_iff.mp H
   obtain ⟨⟨t416, t417, t418⟩, A80, H⟩ := H
   (try dsimp only at H)
   have A8 := Aside0.mk A80
   clear A80
   simp only [Option.some.injEq, Prod.mk.injEq] at H
   obtain ⟨rfl, rfl, rfl⟩ := H
   go_enter Try.func56, Try.ntmps56
   go_wp2_with (first | ((with_reducible refine gate_dst (N := 4) rfl ?_); refine box_event ?hg (N := 4) ?hd (cs := #[.int .i64 a1_0, .int .i64 a1_1]) (t := 56) ?hr ?_; (case hd => rfl); (case hg => rfl); (case hr => first | (go_simp; done) | (go_simp; rfl)); intro gb406 hg w9 hbox hb; have BK406 := Aside0.mk (hbox); have GW406 := geb hg HB rfl; have GE406 := geb hg HB rfl; replace HB := hst HB hb rfl; clear hb hbox hg) | ((with_reducible refine gate_dst (N := 5) rfl ?_); refine box_event ?hg (N := 5) ?hd (cs := #[.int .i64 a2_0, .int .i64 a2_1]) (t := 56) ?hr ?_; (case hd => rfl); (case hg => rfl); (case hr => first | (go_simp; done) | (go_simp; rfl)); intro gb407 hg w10 hbox hb; have BK407 := Aside0.mk (hbox); have GW407 := geb hg HB rfl; have GE407 := geb hg HB rfl; have NB406_407 := nbl hg BK406 rfl; have NB407_406 := nbr hg BK406 rfl; replace BK406 := bb BK406 hb rfl; replace HB := hst HB hb rfl; clear hb hbox hg) | ((with_reducible refine gate_dst (N := 6) rfl ?_); refine box_event ?hg (N := 6) ?hd (cs := #[.int .i64 0, .int .i64 0]) (t := 56) ?hr ?_; (case hd => rfl); (case hg => rfl); (case hr => first | (go_simp; done) | (go_simp; rfl)); intro gb408 hg w11 hbox hb; have BK408 := Aside0.mk (hbox); have GW408 := geb hg HB rfl; have GE408 := geb hg HB rfl; have NB406_408 := nbl hg BK406 rfl; have NB408_406 := nbr hg BK406 rfl; have NB407_408 := nbl hg BK407 rfl; have NB408_407 := nbr hg BK407 rfl; replace BK406 := bb BK406 hb rfl; replace BK407 := bb BK407 hb rfl; replace HB := hst HB hb rfl; clear hb hbox hg; have hnb12 := NB406_407.out; have hnc12 := NB407_406.out; have hnb13 := NB406_408.out; have hnc13 := NB408_406.out; obtain ⟨hcz14_0, hcz14_1, hfz14_0, hfz14_1⟩ := c2 BK406; have hnb15 := NB407_408.out; have hnc15 := NB408_407.out; obtain ⟨hcz16_0, hcz16_1, hfz16_0, hfz16_1⟩ := c2 BK407) | ((with_reducible refine gate_callee (f := 75) rfl ?_); refine goesL_ (some 29) rfl rfl Try.func75 (by kernel_rfl) rfl #[.int .i64 a1_0, .int .i64 a2_0] rfl (mapq rfl) ?_; (with_reducible refine (avermentref10_add.calls a1_0 a2_0 t409 true _ A5.out).mono ?_); rintro e w' ⟨rfl, ⟨nd, rfl⟩⟩; refine ⟨_, rfl, ?_⟩; (try (rw [drewN_self w11]; generalize hq_ : World.drewN w11 _ = w11; replace BK406 := dk BK406 hq_; replace BK407 := dk BK407 hq_; replace BK408 := dk BK408 hq_; replace HB := dh HB hq_; clear hq_)); obtain ⟨hcz17_0, hcz17_1, hfz17_0, hfz17_1⟩ := c2 BK406; obtain ⟨hcz18_0, hcz18_1, hfz18_0, hfz18_1⟩ := c2 BK407) | ((with_reducible refine gate_callee (f := 75) rfl ?_); refine goesL_ (some 37) rfl rfl Try.func75 (by kernel_rfl) rfl #[.int .i64 a1_1, .int .i64 a2_1] rfl (mapq rfl) ?_; (with_reducible refine (avermentref10_add.calls a1_1 a2_1 t411 t412 _ A6.out).mono ?_); rintro e w' ⟨rfl, ⟨nd, rfl⟩⟩; refine ⟨_, rfl, ?_⟩; (try (rw [drewN_self w11]; generalize hq_ : World.drewN w11 _ = w11; replace BK406 := dk BK406 hq_; replace BK407 := dk BK407 hq_; replace BK408 := dk BK408 hq_; replace HB := dh HB hq_; clear hq_))) | ((with_reducible refine gate_dst (N := 42) rfl ?_); refine Kd.R_lit (Kd.int .i64) _ 2 ?hg (N := 42) ?hd (xs := ([t409, t411] : List Int)) (inner := [.int .i64 t409, .int .i64 t411]) (ok := fun _ => True) (okp := fun _ => True) ?hr ?hp (fun _ hk => hk) trivial (Below.refl _ _) (Nat.le_refl _) (by simp) ?_; (case hd => rfl); (case hg => rfl); (case hr => first | (go_simp; done) | (go_simp; rfl)); (case hp => exact (Reps.one (show Kd.M (Kd.int .i64) _ _ _ t409 [.int .i64 t409] from rfl) (Reps.one (show Kd.M (Kd.int .i64) _ _ _ t411 [.int .i64 t411] from rfl) (Reps.none _ _)))); intro v414 w19 ho20 hb hg_ hnew_; clear hg_ hnew_; (first | rw [← Ny413.out] at ho20 | (simp only [Int.reduceToNat] at ho20; rw [← Ny413.out] at ho20)); have HO415 := Aside0.mk (Kd.R_lower ho20 (below_size (by repeat (first | (with_reducible first | exact HB.out | apply below_alloc | apply pw_below_drewN | apply below_drew1 | refine below_set ?_ GE406.out | refine below_set ?_ GE407.out | refine below_set ?_ GE408.out) | exact HB.out)))); replace BK406 := bb BK406 hb rfl; replace BK407 := bb BK407 hb rfl; replace BK408 := bb BK408 hb rfl; replace HB := hst HB hb rfl; clear hb ho20; obtain ⟨Ao21, co21, eo21⟩ := Kd.R_slice HO415.out; subst eo21) | ((with_reducible refine gate_callee (f := 76) rfl ?_); refine goesL_ (some 47) rfl rfl Try.func76 (by kernel_rfl) rfl #[.slice Ao21 y413.length co21, .bool t412] rfl (mapq rfl) ?_; (with_reducible refine (avermentref10_hull.calls k _ _ y413 t412 t416 t417 t418 _ ?side1 ?side2 A8.out).mono ?_); (case side1 => repeat (first | exact (Kd.R_reads' HO415.out).2.2 | (with_reducible refine Kd.C_alloc ?_ _) | (with_reducible refine Kd.C_drewN ?_ _) | (with_reducible refine Kd.C_drew ?_))); (case side2 => exact (Kd.R_reads' HO415.out).2.1); rintro e w22 ⟨rfl, hb⟩; refine ⟨_, rfl, ?_⟩; replace HO415 := Aside0.mk (Kd.R_below (by (with_reducible repeat (first | apply Kd.R_alloc | apply Kd.R_drewN | apply Kd.R_drew)); exact HO415.out) hb); replace BK406 := bb BK406 hb rfl; replace BK407 := bb BK407 hb rfl; replace BK408 := bb BK408 hb rfl; replace HB := hst HB hb rfl; (try clear hb); obtain ⟨hcz23_0, hcz23_1, hfz23_0, hfz23_1⟩ := c2 BK408))
   refine bodyPost_ret (results_ct rfl _ _ gb408 56 #[.int .i64 t416, .int .i64 t417] (0, 0) _ rfl (by (with_reducible repeat (first | refine blk_drewN ?_ _ | refine blk_drew ?_ | refine blk_alloc ?_ _)); refine blk_put (cs := #[.int .i64 t416, .int .i64 0]) ?_ 1 _ rfl; (with_reducible repeat (first | refine blk_drewN ?_ _ | refine blk_drew ?_ | refine blk_alloc ?_ _)); refine blk_put (cs := #[.int .i64 0, .int .i64 0]) ?_ 0 _ rfl; (with_reducible repeat (first | refine blk_drewN ?_ _ | refine blk_drew ?_ | refine blk_alloc ?_ _)); exact BK408.out) Try.underlying56 rfl (by kernel_rfl)) rfl ?_
   exact ⟨by first | rfl | (simp [*, errW_none, errW_some] <;> rfl), by repeat (first | (with_reducible first | exact HB.out | apply below_alloc | apply pw_below_drewN | apply below_drew1 | refine below_set ?_ GE406.out | refine below_set ?_ GE407.out | refine below_set ?_ GE408.out) | exact HB.out)⟩
  ·
   replace c7 := Bool.eq_false_iff.mpr c7
   subst c7
   rw [if_neg (show ¬ (false = true) by decide)] at H
   replace H := Option.bind_eq_some_iff.mp H
   obtain ⟨⟨t419, t420, t421⟩, A240, H⟩ := H
   (try dsimp only at H)
   have A24 := Aside0.mk A240
   clear A240
   simp only [Option.some.injEq, Prod.mk.injEq] at H
   obtain ⟨rfl, rfl, rfl⟩ := H
   go_enter Try.func56, Try.ntmps56
   go_wp2_with (first | ((with_reducible refine gate_dst (N := 4) rfl ?_); refine box_event ?hg (N := 4) ?hd (cs := #[.int .i64 a1_0, .int .i64 a1_1]) (t := 56) ?hr ?_; (case hd => rfl); (case hg => rfl); (case hr => first | (go_simp; done) | (go_simp; rfl)); intro gb406 hg w25 hbox hb; have BK406 := Aside0.mk (hbox); have GW406 := geb hg HB rfl; have GE406 := geb hg HB rfl; replace HB := hst HB hb rfl; clear hb hbox hg) | ((with_reducible refine gate_dst (N := 5) rfl ?_); refine box_event ?hg (N := 5) ?hd (cs := #[.int .i64 a2_0, .int .i64 a2_1]) (t := 56) ?hr ?_; (case hd => rfl); (case hg => rfl); (case hr => first | (go_simp; done) | (go_simp; rfl)); intro gb407 hg w26 hbox hb; have BK407 := Aside0.mk (hbox); have GW407 := geb hg HB rfl; have GE407 := geb hg HB rfl; have NB406_407 := nbl hg BK406 rfl; have NB407_406 := nbr hg BK406 rfl; replace BK406 := bb BK406 hb rfl; replace HB := hst HB hb rfl; clear hb hbox hg) | ((with_reducible refine gate_dst (N := 6) rfl ?_); refine box_event ?hg (N := 6) ?hd (cs := #[.int .i64 0, .int .i64 0]) (t := 56) ?hr ?_; (case hd => rfl); (case hg => rfl); (case hr => first | (go_simp; done) | (go_simp; rfl)); intro gb408 hg w27 hbox hb; have BK408 := Aside0.mk (hbox); have GW408 := geb hg HB rfl; have GE408 := geb hg HB rfl; have NB406_408 := nbl hg BK406 rfl; have NB408_406 := nbr hg BK406 rfl; have NB407_408 := nbl hg BK407 rfl; have NB408_407 := nbr hg BK407 rfl; replace BK406 := bb BK406 hb rfl; replace BK407 := bb BK407 hb rfl; replace HB := hst HB hb rfl; clear hb hbox hg; have hnb28 := NB406_407.out; have hnc28 := NB407_406.out; have hnb29 := NB406_408.out; have hnc29 := NB408_406.out; obtain ⟨hcz30_0, hcz30_1, hfz30_0, hfz30_1⟩ := c2 BK406; have hnb31 := NB407_408.out; have hnc31 := NB408_407.out; obtain ⟨hcz32_0, hcz32_1, hfz32_0, hfz32_1⟩ := c2 BK407) | ((with_reducible refine gate_callee (f := 75) rfl ?_); refine goesL_ (some 29) rfl rfl Try.func75 (by kernel_rfl) rfl #[.int .i64 a1_0, .int .i64 a2_0] rfl (mapq rfl) ?_; (with_reducible refine (avermentref10_add.calls a1_0 a2_0 t409 false _ A5.out).mono ?_); rintro e w' ⟨rfl, ⟨nd, rfl⟩⟩; refine ⟨_, rfl, ?_⟩; (try (rw [drewN_self w27]; generalize hq_ : World.drewN w27 _ = w27; replace BK406 := dk BK406 hq_; replace BK407 := dk BK407 hq_; replace BK408 := dk BK408 hq_; replace HB := dh HB hq_; clear hq_)); obtain ⟨hcz33_0, hcz33_1, hfz33_0, hfz33_1⟩ := c2 BK406; obtain ⟨hcz34_0, hcz34_1, hfz34_0, hfz34_1⟩ := c2 BK407) | ((with_reducible refine gate_callee (f := 75) rfl ?_); refine goesL_ (some 37) rfl rfl Try.func75 (by kernel_rfl) rfl #[.int .i64 a1_1, .int .i64 a2_1] rfl (mapq rfl) ?_; (with_reducible refine (avermentref10_add.calls a1_1 a2_1 t411 t412 _ A6.out).mono ?_); rintro e w' ⟨rfl, ⟨nd, rfl⟩⟩; refine ⟨_, rfl, ?_⟩; (try (rw [drewN_self w27]; generalize hq_ : World.drewN w27 _ = w27; replace BK406 := dk BK406 hq_; replace BK407 := dk BK407 hq_; replace BK408 := dk BK408 hq_; replace HB := dh HB hq_; clear hq_))) | ((with_reducible refine gate_dst (N := 42) rfl ?_); refine Kd.R_lit (Kd.int .i64) _ 2 ?hg (N := 42) ?hd (xs := ([t409, t411] : List Int)) (inner := [.int .i64 t409, .int .i64 t411]) (ok := fun _ => True) (okp := fun _ => True) ?hr ?hp (fun _ hk => hk) trivial (Below.refl _ _) (Nat.le_refl _) (by simp) ?_; (case hd => rfl); (case hg => rfl); (case hr => first | (go_simp; done) | (go_simp; rfl)); (case hp => exact (Reps.one (show Kd.M (Kd.int .i64) _ _ _ t409 [.int .i64 t409] from rfl) (Reps.one (show Kd.M (Kd.int .i64) _ _ _ t411 [.int .i64 t411] from rfl) (Reps.none _ _)))); intro v414 w35 ho36 hb hg_ hnew_; clear hg_ hnew_; (first | rw [← Ny413.out] at ho36 | (simp only [Int.reduceToNat] at ho36; rw [← Ny413.out] at ho36)); have HO415 := Aside0.mk (Kd.R_lower ho36 (below_size (by repeat (first | (with_reducible first | exact HB.out | apply below_alloc | apply pw_below_drewN | apply below_drew1 | refine below_set ?_ GE406.out | refine below_set ?_ GE407.out | refine below_set ?_ GE408.out) | exact HB.out)))); replace BK406 := bb BK406 hb rfl; replace BK407 := bb BK407 hb rfl; replace BK408 := bb BK408 hb rfl; replace HB := hst HB hb rfl; clear hb ho36; obtain ⟨Ao37, co37, eo37⟩ := Kd.R_slice HO415.out; subst eo37) | ((with_reducible refine gate_callee (f := 76) rfl ?_); refine goesL_ (some 47) rfl rfl Try.func76 (by kernel_rfl) rfl #[.slice Ao37 y413.length co37, .bool false] rfl (mapq rfl) ?_; (with_reducible refine (avermentref10_hull.calls k _ _ y413 false t419 t420 t421 _ ?side1 ?side2 A24.out).mono ?_); (case side1 => repeat (first | exact (Kd.R_reads' HO415.out).2.2 | (with_reducible refine Kd.C_alloc ?_ _) | (with_reducible refine Kd.C_drewN ?_ _) | (with_reducible refine Kd.C_drew ?_))); (case side2 => exact (Kd.R_reads' HO415.out).2.1); rintro e w38 ⟨rfl, hb⟩; refine ⟨_, rfl, ?_⟩; replace HO415 := Aside0.mk (Kd.R_below (by (with_reducible repeat (first | apply Kd.R_alloc | apply Kd.R_drewN | apply Kd.R_drew)); exact HO415.out) hb); replace BK406 := bb BK406 hb rfl; replace BK407 := bb BK407 hb rfl; replace BK408 := bb BK408 hb rfl; replace HB := hst HB hb rfl; (try clear hb); obtain ⟨hcz39_0, hcz39_1, hfz39_0, hfz39_1⟩ := c2 BK408))
   refine bodyPost_ret (results_ct rfl _ _ gb408 56 #[.int .i64 t419, .int .i64 t420] (0, 0) _ rfl (by (with_reducible repeat (first | refine blk_drewN ?_ _ | refine blk_drew ?_ | refine blk_alloc ?_ _)); refine blk_put (cs := #[.int .i64 t419, .int .i64 0]) ?_ 1 _ rfl; (with_reducible repeat (first | refine blk_drewN ?_ _ | refine blk_drew ?_ | refine blk_alloc ?_ _)); refine blk_put (cs := #[.int .i64 0, .int .i64 0]) ?_ 0 _ rfl; (with_reducible repeat (first | refine blk_drewN ?_ _ | refine blk_drew ?_ | refine blk_alloc ?_ _)); exact BK408.out) Try.underlying56 rfl (by kernel_rfl)) rfl ?_
   exact ⟨by first | rfl | (simp [*, errW_none, errW_some] <;> rfl), by repeat (first | (with_reducible first | exact HB.out | apply below_alloc | apply pw_below_drewN | apply below_drew1 | refine below_set ?_ GE406.out | refine below_set ?_ GE407.out | refine below_set ?_ GE408.out) | exact HB.out)⟩
 ·
  rw [if_neg c4] at H
  have c4b0 : (a0 == 4) = false := beq_eq_false_iff_ne.mpr c4
  have c4b1 : (a0 != 4) = true := bne_iff_ne.mpr c4
  by_cases c40 : a0 = 5
  ·
   rw [if_pos c40] at H
   have c40b0 : (a0 == 5) = true := beq_iff_eq.mpr c40
   have c40b1 : (a0 != 5) = false := bne_eq_false_iff_eq.mpr c40
   clear c40
   replace H := Option.bind_eq_some_iff.mp H
   obtain ⟨⟨t422, t423⟩, A410, H⟩ := H
   (try dsimp only at H)
   have A41 := Aside0.mk A410
   clear A410
   replace H := Option.bind_eq_some_iff.mp H
   obtain ⟨⟨t424, t425⟩, A420, H⟩ := H
   (try dsimp only at H)
   have A42 := Aside0.mk A420
   clear A420
   obtain ⟨y426, hy426⟩ : ∃ y_ : List Int, y_ = (([t422, t424] : List Int)) := ⟨_, rfl⟩
   replace H : (if t423 = true then ((avermentref10_hull.f k y426 t425).bind fun bt429 => (some (bt429.1, bt429.2.1, bt429.2.2))) else ((avermentref10_hull.f k y426 false).bind fun bt432 => (some (bt432.1, bt432.2.1, bt432.2.2)))) = some (r1, r2, r3) := by first | (rw [hy426]; with_reducible exact H) | (have H2_ := (Option.bind_some _ _).symm.trans H; rw [hy426]; with_reducible exact H2_) | (have H2_ := (Option.bind_some _ _).symm.trans H; with_reducible exact H2_) | with_reducible exact H | (rw [hy426]; exact H) | exact H
   have Ny426 := Aside0.mk hy426
   clear hy426
   by_cases c43 : t423 = true
   ·
    subst c43
    rw [if_pos rfl] at H
    replace H := Option.bind_eq_some_iff.mp H
    obtain ⟨⟨t429, t430, t431⟩, A440, H⟩ := H
    (try dsimp only at H)
    have A44 := Aside0.mk A440
    clear A440
    simp only [Option.some.injEq, Prod.mk.injEq] at H
    obtain ⟨rfl, rfl, rfl⟩ := H
    go_enter Try.func56, Try.ntmps56
    go_wp2_with (first | ((with_reducible refine gate_dst (N := 4) rfl ?_); refine box_event ?hg (N := 4) ?hd (cs := #[.int .i64 a1_0, .int .i64 a1_1]) (t := 56) ?hr ?_; (case hd => rfl); (case hg => rfl); (case hr => first | (go_simp; done) | (go_simp; rfl)); intro gb406 hg w45 hbox hb; have BK406 := Aside0.mk (hbox); have GW406 := geb hg HB rfl; have GE406 := geb hg HB rfl; replace HB := hst HB hb rfl; clear hb hbox hg) | ((with_reducible refine gate_dst (N := 5) rfl ?_); refine box_event ?hg (N := 5) ?hd (cs := #[.int .i64 a2_0, .int .i64 a2_1]) (t := 56) ?hr ?_; (case hd => rfl); (case hg => rfl); (case hr => first | (go_simp; done) | (go_simp; rfl)); intro gb407 hg w46 hbox hb; have BK407 := Aside0.mk (hbox); have GW407 := geb hg HB rfl; have GE407 := geb hg HB rfl; have NB406_407 := nbl hg BK406 rfl; have NB407_406 := nbr hg BK406 rfl; replace BK406 := bb BK406 hb rfl; replace HB := hst HB hb rfl; clear hb hbox hg) | ((with_reducible refine gate_dst (N := 6) rfl ?_); refine box_event ?hg (N := 6) ?hd (cs := #[.int .i64 0, .int .i64 0]) (t := 56) ?hr ?_; (case hd => rfl); (case hg => rfl); (case hr => first | (go_simp; done) | (go_simp; rfl)); intro gb408 hg w47 hbox hb; have BK408 := Aside0.mk (hbox); have GW408 := geb hg HB rfl; have GE408 := geb hg HB rfl; have NB406_408 := nbl hg BK406 rfl; have NB408_406 := nbr hg BK406 rfl; have NB407_408 := nbl hg BK407 rfl; have NB408_407 := nbr hg BK407 rfl; replace BK406 := bb BK406 hb rfl; replace BK407 := bb BK407 hb rfl; replace HB := hst HB hb rfl; clear hb hbox hg; have hnb48 := NB406_407.out; have hnc48 := NB407_406.out; have hnb49 := NB406_408.out; have hnc49 := NB408_406.out; obtain ⟨hcz50_0, hcz50_1, hfz50_0, hfz50_1⟩ := c2 BK406; have hnb51 := NB407_408.out; have hnc51 := NB408_407.out; obtain ⟨hcz52_0, hcz52_1, hfz52_0, hfz52_1⟩ := c2 BK407) | ((with_reducible refine gate_callee (f := 77) rfl ?_); refine goesL_ (some 57) rfl rfl Try.func77 (by kernel_rfl) rfl #[.int .i64 a1_0, .int .i64 a2_1] rfl (mapq rfl) ?_; (with_reducible refine (avermentref10_sub.calls a1_0 a2_1 t422 true _ A41.out).mono ?_); rintro e w' ⟨rfl, ⟨nd, rfl⟩⟩; refine ⟨_, rfl, ?_⟩; (try (rw [drewN_self w47]; generalize hq_ : World.drewN w47 _ = w47; replace BK406 := dk BK406 hq_; replace BK407 := dk BK407 hq_; replace BK408 := dk BK408 hq_; replace HB := dh HB hq_; clear hq_)); obtain ⟨hcz53_0, hcz53_1, hfz53_0, hfz53_1⟩ := c2 BK406; obtain ⟨hcz54_0, hcz54_1, hfz54_0, hfz54_1⟩ := c2 BK407) | ((with_reducible refine gate_callee (f := 77) rfl ?_); refine goesL_ (some 65) rfl rfl Try.func77 (by kernel_rfl) rfl #[.int .i64 a1_1, .int .i64 a2_0] rfl (mapq rfl) ?_; (with_reducible refine (avermentref10_sub.calls a1_1 a2_0 t424 t425 _ A42.out).mono ?_); rintro e w' ⟨rfl, ⟨nd, rfl⟩⟩; refine ⟨_, rfl, ?_⟩; (try (rw [drewN_self w47]; generalize hq_ : World.drewN w47 _ = w47; replace BK406 := dk BK406 hq_; replace BK407 := dk BK407 hq_; replace BK408 := dk BK408 hq_; replace HB := dh HB hq_; clear hq_))) | ((with_reducible refine gate_dst (N := 70) rfl ?_); refine Kd.R_lit (Kd.int .i64) _ 2 ?hg (N := 70) ?hd (xs := ([t422, t424] : List Int)) (inner := [.int .i64 t422, .int .i64 t424]) (ok := fun _ => True) (okp := fun _ => True) ?hr ?hp (fun _ hk => hk) trivial (Below.refl _ _) (Nat.le_refl _) (by simp) ?_; (case hd => rfl); (case hg => rfl); (case hr => first | (go_simp; done) | (go_simp; rfl)); (case hp => exact (Reps.one (show Kd.M (Kd.int .i64) _ _ _ t422 [.int .i64 t422] from rfl) (Reps.one (show Kd.M (Kd.int .i64) _ _ _ t424 [.int .i64 t424] from rfl) (Reps.none _ _)))); intro v427 w55 ho56 hb hg_ hnew_; clear hg_ hnew_; (first | rw [← Ny426.out] at ho56 | (simp only [Int.reduceToNat] at ho56; rw [← Ny426.out] at ho56)); have HO428 := Aside0.mk (Kd.R_lower ho56 (below_size (by repeat (first | (with_reducible first | exact HB.out | apply below_alloc | apply pw_below_drewN | apply below_drew1 | refine below_set ?_ GE406.out | refine below_set ?_ GE407.out | refine below_set ?_ GE408.out) | exact HB.out)))); replace BK406 := bb BK406 hb rfl; replace BK407 := bb BK407 hb rfl; replace BK408 := bb BK408 hb rfl; replace HB := hst HB hb rfl; clear hb ho56; obtain ⟨Ao57, co57, eo57⟩ := Kd.R_slice HO428.out; subst eo57) | ((with_reducible refine gate_callee (f := 76) rfl ?_); refine goesL_ (some 75) rfl rfl Try.func76 (by kernel_rfl) rfl #[.slice Ao57 y426.length co57, .bool t425] rfl (mapq rfl) ?_; (with_reducible refine (avermentref10_hull.calls k _ _ y426 t425 t429 t430 t431 _ ?side1 ?side2 A44.out).mono ?_); (case side1 => repeat (first | exact (Kd.R_reads' HO428.out).2.2 | (with_reducible refine Kd.C_alloc ?_ _) | (with_reducible refine Kd.C_drewN ?_ _) | (with_reducible refine Kd.C_drew ?_))); (case side2 => exact (Kd.R_reads' HO428.out).2.1); rintro e w58 ⟨rfl, hb⟩; refine ⟨_, rfl, ?_⟩; replace HO428 := Aside0.mk (Kd.R_below (by (with_reducible repeat (first | apply Kd.R_alloc | apply Kd.R_drewN | apply Kd.R_drew)); exact HO428.out) hb); replace BK406 := bb BK406 hb rfl; replace BK407 := bb BK407 hb rfl; replace BK408 := bb BK408 hb rfl; replace HB := hst HB hb rfl; (try clear hb); obtain ⟨hcz59_0, hcz59_1, hfz59_0, hfz59_1⟩ := c2 BK408))
    refine bodyPost_ret (results_ct rfl _ _ gb408 56 #[.int .i64 t429, .int .i64 t430] (0, 0) _ rfl (by (with_reducible repeat (first | refine blk_drewN ?_ _ | refine blk_drew ?_ | refine blk_alloc ?_ _)); refine blk_put (cs := #[.int .i64 t429, .int .i64 0]) ?_ 1 _ rfl; (with_reducible repeat (first | refine blk_drewN ?_ _ | refine blk_drew ?_ | refine blk_alloc ?_ _)); refine blk_put (cs := #[.int .i64 0, .int .i64 0]) ?_ 0 _ rfl; (with_reducible repeat (first | refine blk_drewN ?_ _ | refine blk_drew ?_ | refine blk_alloc ?_ _)); exact BK408.out) Try.underlying56 rfl (by kernel_rfl)) rfl ?_
    exact ⟨by first | rfl | (simp [*, errW_none, errW_some] <;> rfl), by repeat (first | (with_reducible first | exact HB.out | apply below_alloc | apply pw_below_drewN | apply below_drew1 | refine below_set ?_ GE406.out | refine below_set ?_ GE407.out | refine below_set ?_ GE408.out) | exact HB.out)⟩
   ·
    replace c43 := Bool.eq_false_iff.mpr c43
    subst c43
    rw [if_neg (show ¬ (false = true) by decide)] at H
    replace H := Option.bind_eq_some_iff.mp H
    obtain ⟨⟨t432, t433, t434⟩, A600, H⟩ := H
    (try dsimp only at H)
    have A60 := Aside0.mk A600
    clear A600
    simp only [Option.some.injEq, Prod.mk.injEq] at H
    obtain ⟨rfl, rfl, rfl⟩ := H
    go_enter Try.func56, Try.ntmps56
    go_wp2_with (first | ((with_reducible refine gate_dst (N := 4) rfl ?_); refine box_event ?hg (N := 4) ?hd (cs := #[.int .i64 a1_0, .int .i64 a1_1]) (t := 56) ?hr ?_; (case hd => rfl); (case hg => rfl); (case hr => first | (go_simp; done) | (go_simp; rfl)); intro gb406 hg w61 hbox hb; have BK406 := Aside0.mk (hbox); have GW406 := geb hg HB rfl; have GE406 := geb hg HB rfl; replace HB := hst HB hb rfl; clear hb hbox hg) | ((with_reducible refine gate_dst (N := 5) rfl ?_); refine box_event ?hg (N := 5) ?hd (cs := #[.int .i64 a2_0, .int .i64 a2_1]) (t := 56) ?hr ?_; (case hd => rfl); (case hg => rfl); (case hr => first | (go_simp; done) | (go_simp; rfl)); intro gb407 hg w62 hbox hb; have BK407 := Aside0.mk (hbox); have GW407 := geb hg HB rfl; have GE407 := geb hg HB rfl; have NB406_407 := nbl hg BK406 rfl; have NB407_406 := nbr hg BK406 rfl; replace BK406 := bb BK406 hb rfl; replace HB := hst HB hb rfl; clear hb hbox hg) | ((with_reducible refine gate_dst (N := 6) rfl ?_); refine box_event ?hg (N := 6) ?hd (cs := #[.int .i64 0, .int .i64 0]) (t := 56) ?hr ?_; (case hd => rfl); (case hg => rfl); (case hr => first | (go_simp; done) | (go_simp; rfl)); intro gb408 hg w63 hbox hb; have BK408 := Aside0.mk (hbox); have GW408 := geb hg HB rfl; have GE408 := geb hg HB rfl; have NB406_408 := nbl hg BK406 rfl; have NB408_406 := nbr hg BK406 rfl; have NB407_408 := nbl hg BK407 rfl; have NB408_407 := nbr hg BK407 rfl; replace BK406 := bb BK406 hb rfl; replace BK407 := bb BK407 hb rfl; replace HB := hst HB hb rfl; clear hb hbox hg; have hnb64 := NB406_407.out; have hnc64 := NB407_406.out; have hnb65 := NB406_408.out; have hnc65 := NB408_406.out; obtain ⟨hcz66_0, hcz66_1, hfz66_0, hfz66_1⟩ := c2 BK406; have hnb67 := NB407_408.out; have hnc67 := NB408_407.out; obtain ⟨hcz68_0, hcz68_1, hfz68_0, hfz68_1⟩ := c2 BK407) | ((with_reducible refine gate_callee (f := 77) rfl ?_); refine goesL_ (some 57) rfl rfl Try.func77 (by kernel_rfl) rfl #[.int .i64 a1_0, .int .i64 a2_1] rfl (mapq rfl) ?_; (with_reducible refine (avermentref10_sub.calls a1_0 a2_1 t422 false _ A41.out).mono ?_); rintro e w' ⟨rfl, ⟨nd, rfl⟩⟩; refine ⟨_, rfl, ?_⟩; (try (rw [drewN_self w63]; generalize hq_ : World.drewN w63 _ = w63; replace BK406 := dk BK406 hq_; replace BK407 := dk BK407 hq_; replace BK408 := dk BK408 hq_; replace HB := dh HB hq_; clear hq_)); obtain ⟨hcz69_0, hcz69_1, hfz69_0, hfz69_1⟩ := c2 BK406; obtain ⟨hcz70_0, hcz70_1, hfz70_0, hfz70_1⟩ := c2 BK407) | ((with_reducible refine gate_callee (f := 77) rfl ?_); refine goesL_ (some 65) rfl rfl Try.func77 (by kernel_rfl) rfl #[.int .i64 a1_1, .int .i64 a2_0] rfl (mapq rfl) ?_; (with_reducible refine (avermentref10_sub.calls a1_1 a2_0 t424 t425 _ A42.out).mono ?_); rintro e w' ⟨rfl, ⟨nd, rfl⟩⟩; refine ⟨_, rfl, ?_⟩; (try (rw [drewN_self w63]; generalize hq_ : World.drewN w63 _ = w63; replace BK406 := dk BK406 hq_; replace BK407 := dk BK407 hq_; replace BK408 := dk BK408 hq_; replace HB := dh HB hq_; clear hq_))) | ((with_reducible refine gate_dst (N := 70) rfl ?_); refine Kd.R_lit (Kd.int .i64) _ 2 ?hg (N := 70) ?hd (xs := ([t422, t424] : List Int)) (inner := [.int .i64 t422, .int .i64 t424]) (ok := fun _ => True) (okp := fun _ => True) ?hr ?hp (fun _ hk => hk) trivial (Below.refl _ _) (Nat.le_refl _) (by simp) ?_; (case hd => rfl); (case hg => rfl); (case hr => first | (go_simp; done) | (go_simp; rfl)); (case hp => exact (Reps.one (show Kd.M (Kd.int .i64) _ _ _ t422 [.int .i64 t422] from rfl) (Reps.one (show Kd.M (Kd.int .i64) _ _ _ t424 [.int .i64 t424] from rfl) (Reps.none _ _)))); intro v427 w71 ho72 hb hg_ hnew_; clear hg_ hnew_; (first | rw [← Ny426.out] at ho72 | (simp only [Int.reduceToNat] at ho72; rw [← Ny426.out] at ho72)); have HO428 := Aside0.mk (Kd.R_lower ho72 (below_size (by repeat (first | (with_reducible first | exact HB.out | apply below_alloc | apply pw_below_drewN | apply below_drew1 | refine below_set ?_ GE406.out | refine below_set ?_ GE407.out | refine below_set ?_ GE408.out) | exact HB.out)))); replace BK406 := bb BK406 hb rfl; replace BK407 := bb BK407 hb rfl; replace BK408 := bb BK408 hb rfl; replace HB := hst HB hb rfl; clear hb ho72; obtain ⟨Ao73, co73, eo73⟩ := Kd.R_slice HO428.out; subst eo73) | ((with_reducible refine gate_callee (f := 76) rfl ?_); refine goesL_ (some 75) rfl rfl Try.func76 (by kernel_rfl) rfl #[.slice Ao73 y426.length co73, .bool false] rfl (mapq rfl) ?_; (with_reducible refine (avermentref10_hull.calls k _ _ y426 false t432 t433 t434 _ ?side1 ?side2 A60.out).mono ?_); (case side1 => repeat (first | exact (Kd.R_reads' HO428.out).2.2 | (with_reducible refine Kd.C_alloc ?_ _) | (with_reducible refine Kd.C_drewN ?_ _) | (with_reducible refine Kd.C_drew ?_))); (case side2 => exact (Kd.R_reads' HO428.out).2.1); rintro e w74 ⟨rfl, hb⟩; refine ⟨_, rfl, ?_⟩; replace HO428 := Aside0.mk (Kd.R_below (by (with_reducible repeat (first | apply Kd.R_alloc | apply Kd.R_drewN | apply Kd.R_drew)); exact HO428.out) hb); replace BK406 := bb BK406 hb rfl; replace BK407 := bb BK407 hb rfl; replace BK408 := bb BK408 hb rfl; replace HB := hst HB hb rfl; (try clear hb); obtain ⟨hcz75_0, hcz75_1, hfz75_0, hfz75_1⟩ := c2 BK408))
    refine bodyPost_ret (results_ct rfl _ _ gb408 56 #[.int .i64 t432, .int .i64 t433] (0, 0) _ rfl (by (with_reducible repeat (first | refine blk_drewN ?_ _ | refine blk_drew ?_ | refine blk_alloc ?_ _)); refine blk_put (cs := #[.int .i64 t432, .int .i64 0]) ?_ 1 _ rfl; (with_reducible repeat (first | refine blk_drewN ?_ _ | refine blk_drew ?_ | refine blk_alloc ?_ _)); refine blk_put (cs := #[.int .i64 0, .int .i64 0]) ?_ 0 _ rfl; (with_reducible repeat (first | refine blk_drewN ?_ _ | refine blk_drew ?_ | refine blk_alloc ?_ _)); exact BK408.out) Try.underlying56 rfl (by kernel_rfl)) rfl ?_
    exact ⟨by first | rfl | (simp [*, errW_none, errW_some] <;> rfl), by repeat (first | (with_reducible first | exact HB.out | apply below_alloc | apply pw_below_drewN | apply below_drew1 | refine below_set ?_ GE406.out | refine below_set ?_ GE407.out | refine below_set ?_ GE408.out) | exact HB.out)⟩
  ·
   rw [if_neg c40] at H
   have c40b0 : (a0 == 5) = false := beq_eq_false_iff_ne.mpr c40
   have c40b1 : (a0 != 5) = true := bne_iff_ne.mpr c40
   by_cases c76 : a0 = 6
   ·
    rw [if_pos c76] at H
    have c76b0 : (a0 == 6) = true := beq_iff_eq.mpr c76
    have c76b1 : (a0 != 6) = false := bne_eq_false_iff_eq.mpr c76
    clear c76
    have H' := Aside0.mk H
    clear H
    go_enter Try.func56, Try.ntmps56
    go_wp2_with (first | ((with_reducible refine gate_dst (N := 4) rfl ?_); refine box_event ?hg (N := 4) ?hd (cs := #[.int .i64 a1_0, .int .i64 a1_1]) (t := 56) ?hr ?_; (case hd => rfl); (case hg => rfl); (case hr => first | (go_simp; done) | (go_simp; rfl)); intro gb406 hg w77 hbox hb; have BK406 := Aside0.mk (hbox); have GW406 := geb hg HB rfl; have GE406 := geb hg HB rfl; replace HB := hst HB hb rfl; clear hb hbox hg) | ((with_reducible refine gate_dst (N := 5) rfl ?_); refine box_event ?hg (N := 5) ?hd (cs := #[.int .i64 a2_0, .int .i64 a2_1]) (t := 56) ?hr ?_; (case hd => rfl); (case hg => rfl); (case hr => first | (go_simp; done) | (go_simp; rfl)); intro gb407 hg w78 hbox hb; have BK407 := Aside0.mk (hbox); have GW407 := geb hg HB rfl; have GE407 := geb hg HB rfl; have NB406_407 := nbl hg BK406 rfl; have NB407_406 := nbr hg BK406 rfl; replace BK406 := bb BK406 hb rfl; replace HB := hst HB hb rfl; clear hb hbox hg) | ((with_reducible refine gate_dst (N := 6) rfl ?_); refine box_event ?hg (N := 6) ?hd (cs := #[.int .i64 0, .int .i64 0]) (t := 56) ?hr ?_; (case hd => rfl); (case hg => rfl); (case hr => first | (go_simp; done) | (go_simp; rfl)); intro gb408 hg w79 hbox hb; have BK408 := Aside0.mk (hbox); have GW408 := geb hg HB rfl; have GE408 := geb hg HB rfl; have NB406_408 := nbl hg BK406 rfl; have NB408_406 := nbr hg BK406 rfl; have NB407_408 := nbl hg BK407 rfl; have NB408_407 := nbr hg BK407 rfl; replace BK406 := bb BK406 hb rfl; replace BK407 := bb BK407 hb rfl; replace HB := hst HB hb rfl; clear hb hbox hg))
    go_loopg [16, 17, 18] k (fun kq v16 v17 v18 w' => ∃ (x16_1 : List Int) (x17_1 : Bool) (x18_1 : Int), v17 = .bool x17_1 ∧ v18 = .int .i64 x18_1 ∧ Aside0 (avermentref10_Two.l0 kq x16_1 x17_1 x18_1 a1_0 a1_1 a2_0 a2_1 = some (r1, r2, r3)) ∧ Aside0 (kq ≤ k) ∧ Aside0 (Kd.R (Kd.int .i64) 2 w' w.heap.size (fun _ => True) v16 x16_1) ∧ Aside0 (w'.heap[gb406]? = some (.cells #[.int .i64 a1_0, .int .i64 a1_1] 56 (0, 0))) ∧ Aside0 (w'.heap[gb407]? = some (.cells #[.int .i64 a2_0, .int .i64 a2_1] 56 (0, 0))) ∧ Aside0 (w'.heap[gb408]? = some (.cells #[.int .i64 0, .int .i64 0] 56 (0, 0))) ∧ Aside0 (Below w.heap.size w w'))
    case atStart => exact ⟨(([] : List Int)), (true), (0), (by first | rfl | (simp; done) | (simp [*]; done)), (by first | rfl | (simp; done) | (simp [*]; done)), H', ⟨Nat.le_refl _⟩, ⟨by first | exact Kd.R_nil _ _ _ _ _ | exact Kd.N_nil _ _ _ _ _ | exact Kd.V_nil _ _ _ _ _ | exact Kd.Q_nil _ _ _ _ _ | exact Kd.S_nil _ _ _ _ _⟩, ⟨by (with_reducible repeat (first | refine blk_drewN ?_ _ | refine blk_drew ?_ | refine blk_alloc ?_ _)); exact BK406.out⟩, ⟨by (with_reducible repeat (first | refine blk_drewN ?_ _ | refine blk_drew ?_ | refine blk_alloc ?_ _)); exact BK407.out⟩, ⟨by (with_reducible repeat (first | refine blk_drewN ?_ _ | refine blk_drew ?_ | refine blk_alloc ?_ _)); exact BK408.out⟩, ⟨by repeat (first | (with_reducible first | exact HB.out | apply below_alloc | apply pw_below_drewN | apply below_drew1 | refine below_set ?_ GE406.out | refine below_set ?_ GE407.out | refine below_set ?_ GE408.out) | exact HB.out)⟩⟩
    case round =>
     clear H'
     try clear c1
     try clear c2
     try clear p2
     try clear c3
     try clear c4
     try clear c4b0
     try clear c4b1
     try clear c5
     try clear c6
     try clear c7
     try clear c12
     try clear c13
     try clear c15
     try clear c28
     try clear c29
     try clear c31
     try clear c40
     try clear c40b0
     try clear c40b1
     try clear c43
     try clear c48
     try clear c49
     try clear c51
     try clear c56
     try clear c64
     try clear c65
     try clear c67
     try clear c75
     try clear c76
     try clear c76b0
     try clear c76b1
     try clear c77
     try clear hcz14_0
     try clear hcz14_1
     try clear hcz16_0
     try clear hcz16_1
     try clear hcz17_0
     try clear hcz17_1
     try clear hcz18_0
     try clear hcz18_1
     try clear hcz23_0
     try clear hcz23_1
     try clear hcz30_0
     try clear hcz30_1
     try clear hcz32_0
     try clear hcz32_1
     try clear hcz33_0
     try clear hcz33_1
     try clear hcz34_0
     try clear hcz34_1
     try clear hcz39_0
     try clear hcz39_1
     try clear hcz50_0
     try clear hcz50_1
     try clear hcz52_0
     try clear hcz52_1
     try clear hcz53_0
     try clear hcz53_1
     try clear hcz54_0
     try clear hcz54_1
     try clear hcz59_0
     try clear hcz59_1
     try clear hcz66_0
     try clear hcz66_1
     try clear hcz68_0
     try clear hcz68_1
     try clear hcz69_0
     try clear hcz69_1
     try clear hcz70_0
     try clear hcz70_1
     try clear hcz75_0
     try clear hcz75_1
     try clear hfz14_0
     try clear hfz14_1
     try clear hfz16_0
     try clear hfz16_1
     try clear hfz17_0
     try clear hfz17_1
     try clear hfz18_0
     try clear hfz18_1
     try clear hfz23_0
     try clear hfz23_1
     try clear hfz30_0
     try clear hfz30_1
     try clear hfz32_0
     try clear hfz32_1
     try clear hfz33_0
     try clear hfz33_1
     try clear hfz34_0
     try clear hfz34_1
     try clear hfz39_0
     try clear hfz39_1
     try clear hfz50_0
     try clear hfz50_1
     try clear hfz52_0
     try clear hfz52_1
     try clear hfz53_0
     try clear hfz53_1
     try clear hfz54_0
     try clear hfz54_1
     try clear hfz59_0
     try clear hfz59_1
     try clear hfz66_0
     try clear hfz66_1
     try clear hfz68_0
     try clear hfz68_1
     try clear hfz69_0
     try clear hfz69_1
     try clear hfz70_0
     try clear hfz70_1
     try clear hfz75_0
     try clear hfz75_1
     obtain ⟨x16_1, x17_1, x18_1, rfl, rfl, HA, HK1, HO_16, BK406, BK407, BK408, HB⟩ := hrel
     cases gk with
     | zero => exact absurd HA.out (by simp [avermentref10_Two.l0])
     | succ k1 =>
      have H := HA.out
      clear HA
      simp only [avermentref10_Two.l0] at H
      by_cases c80 : x18_1 < 4
      ·
       rw [if_pos c80] at H
       have c80b0 : decide (x18_1 < 4) = true := decide_eq_true c80
       clear c80
       obtain ⟨y435, hy435⟩ : ∃ y_ : List Int, y_ = (([a1_0, a1_1] : List Int)) := ⟨_, rfl⟩
       replace H : (if 0 ≤ (wrap64 (Int.tdiv x18_1 2)) then (if (wrap64 (Int.tdiv x18_1 2)) < (y435.length : Int) then ((some (([a2_0, a2_1] : List Int) : List Int)).bind fun y439 => (if 0 ≤ (Int.tmod x18_1 2) then (if (Int.tmod x18_1 2) < (y439.length : Int) then ((avermentref10_times.f k1 (rd y435 (wrap64 (Int.tdiv x18_1 2))) (rd y439 (Int.tmod x18_1 2))).bind fun bt443 => (if x16_1.length < 17592186044416 then ((some (x16_1 ++ [bt443.1] : List Int)).bind fun y445 => (if x17_1 = true then (avermentref10_Two.l0 k1 y445 bt443.2 (wrap64 (x18_1 + 1)) a1_0 a1_1 a2_0 a2_1) else (avermentref10_Two.l0 k1 y445 false (wrap64 (x18_1 + 1)) a1_0 a1_1 a2_0 a2_1))) else (none))) else (none)) else (none))) else (none)) else (none)) = some (r1, r2, r3) := by first | (rw [hy435]; with_reducible exact H) | (have H2_ := (Option.bind_some _ _).symm.trans H; rw [hy435]; with_reducible exact H2_) | (have H2_ := (Option.bind_some _ _).symm.trans H; with_reducible exact H2_) | with_reducible exact H | (rw [hy435]; exact H) | exact H
       have Ny435 := Aside0.mk hy435
       clear hy435
       obtain ⟨ji81, hji81⟩ : ∃ j_ : Int, (wrap64 (Int.tdiv x18_1 2)) = j_ := ⟨_, rfl⟩
       replace H : (if 0 ≤ (ji81) then (if (ji81) < (y435.length : Int) then ((some (([a2_0, a2_1] : List Int) : List Int)).bind fun y439 => (if 0 ≤ (Int.tmod x18_1 2) then (if (Int.tmod x18_1 2) < (y439.length : Int) then ((avermentref10_times.f k1 (rd y435 (ji81)) (rd y439 (Int.tmod x18_1 2))).bind fun bt443 => (if x16_1.length < 17592186044416 then ((some (x16_1 ++ [bt443.1] : List Int)).bind fun y445 => (if x17_1 = true then (avermentref10_Two.l0 k1 y445 bt443.2 (wrap64 (x18_1 + 1)) a1_0 a1_1 a2_0 a2_1) else (avermentref10_Two.l0 k1 y445 false (wrap64 (x18_1 + 1)) a1_0 a1_1 a2_0 a2_1))) else (none))) else (none)) else (none))) else (none)) else (none)) = some (r1, r2, r3) := by first | (rw [hji81] at H; exact H) | (simp only [hji81] at H ⊢; exact H)
       have hji81w : (IntKind.i64.wrap (Int.tdiv x18_1 2)) = ji81 := (i64_w _).trans hji81
       by_cases c82 : 0 ≤ (ji81)
       ·
        rw [if_pos c82] at H
        have c82b0 : decide (0 ≤ (ji81)) = true := decide_eq_true c82
        clear c82
        by_cases c83 : (ji81) < (y435.length : Int)
        ·
         rw [if_pos c83] at H
         have c83b0 : decide ((ji81) < (y435.length : Int)) = true := decide_eq_true c83
         clear c83
         obtain ⟨y439, hy439⟩ : ∃ y_ : List Int, y_ = (([a2_0, a2_1] : List Int)) := ⟨_, rfl⟩
         replace H : (if 0 ≤ (Int.tmod x18_1 2) then (if (Int.tmod x18_1 2) < (y439.length : Int) then ((avermentref10_times.f k1 (rd y435 (ji81)) (rd y439 (Int.tmod x18_1 2))).bind fun bt443 => (if x16_1.length < 17592186044416 then ((some (x16_1 ++ [bt443.1] : List Int)).bind fun y445 => (if x17_1 = true then (avermentref10_Two.l0 k1 y445 bt443.2 (wrap64 (x18_1 + 1)) a1_0 a1_1 a2_0 a2_1) else (avermentref10_Two.l0 k1 y445 false (wrap64 (x18_1 + 1)) a1_0 a1_1 a2_0 a2_1))) else (none))) else (none)) else (none)) = some (r1, r2, r3) := by first | (rw [hy439]; with_reducible exact H) | (have H2_ := (Option.bind_some _ _).symm.trans H; rw [hy439]; with_reducible exact H2_) | (have H2_ := (Option.bind_some _ _).symm.trans H; with_reducible exact H2_) | with_reducible exact H | (rw [hy439]; exact H) | exact H
         have Ny439 := Aside0.mk hy439
         clear hy439
         obtain ⟨ji84, hji84⟩ : ∃ j_ : Int, (Int.tmod x18_1 2) = j_ := ⟨_, rfl⟩
         replace H : (if 0 ≤ (ji84) then (if (ji84) < (y439.length : Int) then ((avermentref10_times.f k1 (rd y435 (ji81)) (rd y439 (ji84))).bind fun bt443 => (if x16_1.length < 17592186044416 then ((some (x16_1 ++ [bt443.1] : List Int)).bind fun y445 => (if x17_1 = true then (avermentref10_Two.l0 k1 y445 bt443.2 (wrap64 (x18_1 + 1)) a1_0 a1_1 a2_0 a2_1) else (avermentref10_Two.l0 k1 y445 false (wrap64 (x18_1 + 1)) a1_0 a1_1 a2_0 a2_1))) else (none))) else (none)) else (none)) = some (r1, r2, r3) := by first | (rw [hji84] at H; exact H) | (simp only [hji84] at H ⊢; exact H)
         by_cases c85 : 0 ≤ (ji84)
         ·
          rw [if_pos c85] at H
          have c85b0 : decide (0 ≤ (ji84)) = true := decide_eq_true c85
          clear c85
          by_cases c86 : (ji84) < (y439.length : Int)
          ·
           rw [if_pos c86] at H
           have c86b0 : decide ((ji84) < (y439.length : Int)) = true := decide_eq_true c86
           clear c86
           replace H := Option.bind_eq_some_iff.mp H
           obtain ⟨⟨t443, t444⟩, A870, H⟩ := H
           (try dsimp only at H)
           have A87 := Aside0.mk A870
           clear A870
           by_cases c88 : x16_1.length < 17592186044416
           ·
            rw [if_pos c88] at H
            have LMc88 := Aside0.mk c88
            clear c88
            obtain ⟨y445, hy445⟩ : ∃ y_ : List Int, y_ = (x16_1 ++ [t443]) := ⟨_, rfl⟩
            replace H : (if x17_1 = true then (avermentref10_Two.l0 k1 y445 t444 (wrap64 (x18_1 + 1)) a1_0 a1_1 a2_0 a2_1) else (avermentref10_Two.l0 k1 y445 false (wrap64 (x18_1 + 1)) a1_0 a1_1 a2_0 a2_1)) = some (r1, r2, r3) := by first | (rw [hy445]; with_reducible exact H) | (have H2_ := (Option.bind_some _ _).symm.trans H; rw [hy445]; with_reducible exact H2_) | (have H2_ := (Option.bind_some _ _).symm.trans H; with_reducible exact H2_) | with_reducible exact H | (rw [hy445]; exact H) | exact H
            have Ny445 := Aside0.mk hy445
            clear hy445
            by_cases c89 : x17_1 = true
            ·
             subst c89
             rw [if_pos rfl] at H
             have H' := Aside0.mk H
             clear H
             try go_wp2
             have pi438 : (0 ≤ ((ji81) : Int)) = True := eq_true (of_decide_eq_true (by first | (with_reducible assumption) | assumption))
             have qi438 : ((ji81) < (y435.length : Int)) = True := eq_true (of_decide_eq_true (by first | (with_reducible assumption) | assumption))
             have pi442 : (0 ≤ ((ji84) : Int)) = True := eq_true (of_decide_eq_true (by first | (with_reducible assumption) | assumption))
             have qi442 : ((ji84) < (y439.length : Int)) = True := eq_true (of_decide_eq_true (by first | (with_reducible assumption) | assumption))
             replace HO_16 := Aside0.mk (Kd.R_drew HO_16.out); replace BK406 := Aside0.mk (blk_drew BK406.out); replace BK407 := Aside0.mk (blk_drew BK407.out); replace BK408 := Aside0.mk (blk_drew BK408.out); replace HB := Aside0.mk (below_drew1 HB.out)
             refine start_ (n := 24) (S := fun w' => w'.cell? ⟨gb406, 0, none⟩ = some (.int .i64 a1_0) ∧ w'.cell? ⟨gb406, 1, none⟩ = some (.int .i64 a1_1) ∧ w'.cell? ⟨gb407, 0, none⟩ = some (.int .i64 a2_0) ∧ w'.cell? ⟨gb407, 1, none⟩ = some (.int .i64 a2_1)) (ds := []) #[false, false, false, false, false, false, false, false, false, false, false, false, false, false, false, false, false, false, false, false, false, false, false, false] (by kernel_rfl) rfl rfl ⟨bc BK406 0 rfl, bc BK406 1 rfl, bc BK407 0 rfl, bc BK407 1 rfl⟩ (fun hHeld => ?_); refine with_tabW avermentref10_Two.tab16 avermentref10_Two.bits16 (fun HT_ HW_ => ?_)
             generalize wr.drew = w90 at HO_16 BK406 BK407 BK408 HB hHeld ⊢
             refine pure_ (i := 0) (N := some 85) (v := ?_) (a' := ?_) #[true, false, false, false, false, false, false, false, false, false, false, false, false, false, false, false, false, false, false, false, false, false, false, false] rfl rfl (any_of HT_.out (by kernel_rfl)) (fun _ _ _ h => h) (Or.inl ⟨by rfl, ?_⟩) ?_ ?_
             rotate_left; · (intro w'; go_simp; with_reducible rfl)
             rotate_left; · (simp only [Act.put, List.setIfInBounds_toArray, List.set_cons_zero, List.set_cons_succ, i64_w, i32_w]; rfl)
             refine pure_ (i := 2) (N := some 87) (v := ?_) (a' := ?_) #[true, false, true, false, false, false, false, false, false, false, false, false, false, false, false, false, false, false, false, false, false, false, false, false] rfl rfl (any_of HT_.out (by kernel_rfl)) (fun _ _ _ h => h) (Or.inl ⟨by rfl, ?_⟩) ?_ ?_
             rotate_left; · (intro w'; go_simp; with_reducible rfl)
             rotate_left; · (simp only [Act.put, List.setIfInBounds_toArray, List.set_cons_zero, List.set_cons_succ, i64_w, i32_w]; rfl)
             refine pure_ (i := 5) (N := some 90) (v := ?_) (a' := ?_) #[true, false, true, false, false, true, false, false, false, false, false, false, false, false, false, false, false, false, false, false, false, false, false, false] rfl rfl (any_of HT_.out (by kernel_rfl)) (fun _ _ _ h => h) (Or.inl ⟨by rfl, ?_⟩) ?_ ?_
             rotate_left; · (intro w'; go_simp; with_reducible rfl)
             rotate_left; · (simp only [Act.put, List.setIfInBounds_toArray, List.set_cons_zero, List.set_cons_succ, i64_w, i32_w]; rfl)
             refine pure_ (i := 6) (N := some 91) (v := ?_) (a' := ?_) #[true, false, true, false, false, true, true, false, false, false, false, false, false, false, false, false, false, false, false, false, false, false, false, false] rfl rfl (any_of HT_.out (by kernel_rfl)) (fun _ _ _ h => h) (Or.inl ⟨by rfl, ?_⟩) ?_ ?_
             rotate_left; · (intro w'; go_simp; with_reducible rfl)
             rotate_left; · (simp only [Act.put, List.setIfInBounds_toArray, List.set_cons_zero, List.set_cons_succ, i64_w, i32_w]; rfl)
             refine pure_ (i := 9) (N := some 94) (v := ?_) (a' := ?_) #[true, false, true, false, false, true, true, false, false, true, false, false, false, false, false, false, false, false, false, false, false, false, false, false] rfl rfl (any_of HT_.out (by kernel_rfl)) (fun _ _ _ h => h) (Or.inl ⟨by rfl, ?_⟩) ?_ ?_
             rotate_left; · (intro w'; go_simp; with_reducible rfl)
             rotate_left; · (simp only [Act.put, List.setIfInBounds_toArray, List.set_cons_zero, List.set_cons_succ, i64_w, i32_w]; rfl)
             refine pure_ (i := 11) (N := some 96) (v := ?_) (a' := ?_) #[true, false, true, false, false, true, true, false, false, true, false, true, false, false, false, false, false, false, false, false, false, false, false, false] rfl rfl (any_of HT_.out (by kernel_rfl)) (fun _ _ _ h => h) (Or.inl ⟨by rfl, ?_⟩) ?_ ?_
             rotate_left; · (intro w'; go_simp; with_reducible rfl)
             rotate_left; · (simp only [Act.put, List.setIfInBounds_toArray, List.set_cons_zero, List.set_cons_succ, i64_w, i32_w]; rfl)
             refine pure_ (i := 14) (N := some 99) (v := ?_) (a' := ?_) #[true, false, true, false, false, true, true, false, false, true, false, true, false, false, true, false, false, false, false, false, false, false, false, false] rfl rfl (any_of HT_.out (by kernel_rfl)) (fun _ _ _ h => h) (Or.inl ⟨by rfl, ?_⟩) ?_ ?_
             rotate_left; · (intro w'; go_simp; with_reducible rfl)
             rotate_left; · (simp only [Act.put, List.setIfInBounds_toArray, List.set_cons_zero, List.set_cons_succ, i64_w, i32_w]; rfl)
             refine pure_ (i := 15) (N := some 100) (v := ?_) (a' := ?_) #[true, false, true, false, false, true, true, false, false, true, false, true, false, false, true, true, false, false, false, false, false, false, false, false] rfl rfl (any_of HT_.out (by kernel_rfl)) (fun _ _ _ h => h) (Or.inl ⟨by rfl, ?_⟩) ?_ ?_
             rotate_left; · (intro w'; go_simp; with_reducible rfl)
             rotate_left; · (simp only [Act.put, List.setIfInBounds_toArray, List.set_cons_zero, List.set_cons_succ, i64_w, i32_w]; rfl)
             refine take_ (i := 1) (N := some 86) (v := ?_) (a' := ?_) #[true, true, true, false, false, true, true, false, false, true, false, true, false, false, true, true, false, false, false, false, false, false, false, false] rfl rfl (take_ofW HT_.out HW_.out (by kernel_rfl)) (fun _ _ _ h => h) (Or.inl ⟨by rfl, ?_⟩) hHeld ?_ ?_
             rotate_left
             ·
              rintro w' ⟨s0, s1, s2, s3⟩
              go_simp
              with_reducible rfl
             rotate_left
             ·
              simp only [Act.put, List.setIfInBounds_toArray, List.set_cons_zero, List.set_cons_succ, i64_w, i32_w]
              rfl
             refine take_ (i := 3) (N := some 88) (v := ?_) (a' := ?_) #[true, true, true, true, false, true, true, false, false, true, false, true, false, false, true, true, false, false, false, false, false, false, false, false] rfl rfl (take_ofW HT_.out HW_.out (by kernel_rfl)) (fun _ _ _ h => h) (Or.inl ⟨by rfl, ?_⟩) hHeld ?_ ?_
             rotate_left
             ·
              rintro w' ⟨s0, s1, s2, s3⟩
              go_simp
              with_reducible rfl
             rotate_left
             ·
              simp only [Act.put, List.setIfInBounds_toArray, List.set_cons_zero, List.set_cons_succ, i64_w, i32_w]
              rfl
             refine take_ (i := 10) (N := some 95) (v := ?_) (a' := ?_) #[true, true, true, true, false, true, true, false, false, true, true, true, false, false, true, true, false, false, false, false, false, false, false, false] rfl rfl (take_ofW HT_.out HW_.out (by kernel_rfl)) (fun _ _ _ h => h) (Or.inl ⟨by rfl, ?_⟩) hHeld ?_ ?_
             rotate_left
             ·
              rintro w' ⟨s0, s1, s2, s3⟩
              go_simp
              with_reducible rfl
             rotate_left
             ·
              simp only [Act.put, List.setIfInBounds_toArray, List.set_cons_zero, List.set_cons_succ, i64_w, i32_w]
              rfl
             refine take_ (i := 12) (N := some 97) (v := ?_) (a' := ?_) #[true, true, true, true, false, true, true, false, false, true, true, true, true, false, true, true, false, false, false, false, false, false, false, false] rfl rfl (take_ofW HT_.out HW_.out (by kernel_rfl)) (fun _ _ _ h => h) (Or.inl ⟨by rfl, ?_⟩) hHeld ?_ ?_
             rotate_left
             ·
              rintro w' ⟨s0, s1, s2, s3⟩
              go_simp
              with_reducible rfl
             rotate_left
             ·
              simp only [Act.put, List.setIfInBounds_toArray, List.set_cons_zero, List.set_cons_succ, i64_w, i32_w]
              rfl
             refine join_ (σ := Value × Addr × Value × Addr) 6 #[true, true, true, true, true, true, true, true, true, true, true, true, true, true, true, true, true, true, false, false, false, false, false, false] (fun s_ => [(89, s_.1), (93, .int .i64 (rd y435 (ji81))), (98, s_.2.2.1), (102, .int .i64 (rd y439 (ji84))), (92, .pointer (some (s_.2.1.add ((ji81)).toNat))), (101, .pointer (some (s_.2.2.2.add ((ji84)).toNat)))]) (fun s_ w' => (w'.cell? ⟨gb406, 0, none⟩ = some (.int .i64 a1_0) ∧ w'.cell? ⟨gb406, 1, none⟩ = some (.int .i64 a1_1) ∧ w'.cell? ⟨gb407, 0, none⟩ = some (.int .i64 a2_0) ∧ w'.cell? ⟨gb407, 1, none⟩ = some (.int .i64 a2_1)) ∧ (Kd.R (Kd.int .i64) 2 w' w.heap.size (fun k_ => some k_ ≠ (s_.2.2.1 : Value).ownBlock ∧ some k_ ≠ (u16 : Value).ownBlock) s_.1 y435) ∧ (Kd.R (Kd.int .i64) 2 w' w.heap.size (fun k_ => some k_ ≠ (s_.1 : Value).ownBlock ∧ some k_ ≠ (u16 : Value).ownBlock) s_.2.2.1 y439) ∧ (Kd.R (Kd.int .i64) 2 w' w.heap.size (fun k_ => some k_ ≠ (s_.1 : Value).ownBlock ∧ some k_ ≠ (s_.2.2.1 : Value).ownBlock) u16 x16_1) ∧ (∃ c_, (s_.1 : Value) = .slice (some s_.2.1) y435.length c_) ∧ (∃ c_, (s_.2.2.1 : Value) = .slice (some s_.2.2.2) y439.length c_) ∧ (w'.heap[gb406]? = some (.cells #[.int .i64 a1_0, .int .i64 a1_1] 56 (0, 0))) ∧ (w'.heap[gb407]? = some (.cells #[.int .i64 a2_0, .int .i64 a2_1] 56 (0, 0))) ∧ (w'.heap[gb408]? = some (.cells #[.int .i64 0, .int .i64 0] 56 (0, 0))) ∧ (Below w.heap.size w w')) ?_ ?_
             rotate_left
             ·
              intro hJ4_8_13_17
              refine join_ (σ := Value × Addr × Value × Addr) 7 #[true, true, true, true, true, true, true, true, true, true, true, true, true, true, true, true, true, false, false, false, false, false, false, false] (fun s_ => [(89, s_.1), (93, .int .i64 (rd y435 (ji81))), (98, s_.2.2.1), (92, .pointer (some (s_.2.1.add ((ji81)).toNat))), (101, .pointer (some (s_.2.2.2.add ((ji84)).toNat)))]) (fun s_ w' => (w'.cell? ⟨gb406, 0, none⟩ = some (.int .i64 a1_0) ∧ w'.cell? ⟨gb406, 1, none⟩ = some (.int .i64 a1_1) ∧ w'.cell? ⟨gb407, 0, none⟩ = some (.int .i64 a2_0) ∧ w'.cell? ⟨gb407, 1, none⟩ = some (.int .i64 a2_1)) ∧ (Kd.R (Kd.int .i64) 2 w' w.heap.size (fun k_ => some k_ ≠ (s_.2.2.1 : Value).ownBlock ∧ some k_ ≠ (u16 : Value).ownBlock) s_.1 y435) ∧ (Kd.R (Kd.int .i64) 2 w' w.heap.size (fun k_ => some k_ ≠ (s_.1 : Value).ownBlock ∧ some k_ ≠ (u16 : Value).ownBlock) s_.2.2.1 y439) ∧ (Kd.R (Kd.int .i64) 2 w' w.heap.size (fun k_ => some k_ ≠ (s_.1 : Value).ownBlock ∧ some k_ ≠ (s_.2.2.1 : Value).ownBlock) u16 x16_1) ∧ (∃ c_, (s_.1 : Value) = .slice (some s_.2.1) y435.length c_) ∧ (∃ c_, (s_.2.2.1 : Value) = .slice (some s_.2.2.2) y439.length c_) ∧ (w'.heap[gb406]? = some (.cells #[.int .i64 a1_0, .int .i64 a1_1] 56 (0, 0))) ∧ (w'.heap[gb407]? = some (.cells #[.int .i64 a2_0, .int .i64 a2_1] 56 (0, 0))) ∧ (w'.heap[gb408]? = some (.cells #[.int .i64 0, .int .i64 0] 56 (0, 0))) ∧ (Below w.heap.size w w')) ?_ ?_
              rotate_left
              ·
               intro hJ4_8_13
               refine join_ (σ := Value × Addr × Value × Addr) 7 #[true, true, true, true, true, true, true, true, false, true, true, true, true, true, true, true, true, true, false, false, false, false, false, false] (fun s_ => [(89, s_.1), (98, s_.2.2.1), (102, .int .i64 (rd y439 (ji84))), (92, .pointer (some (s_.2.1.add ((ji81)).toNat))), (101, .pointer (some (s_.2.2.2.add ((ji84)).toNat)))]) (fun s_ w' => (w'.cell? ⟨gb406, 0, none⟩ = some (.int .i64 a1_0) ∧ w'.cell? ⟨gb406, 1, none⟩ = some (.int .i64 a1_1) ∧ w'.cell? ⟨gb407, 0, none⟩ = some (.int .i64 a2_0) ∧ w'.cell? ⟨gb407, 1, none⟩ = some (.int .i64 a2_1)) ∧ (Kd.R (Kd.int .i64) 2 w' w.heap.size (fun k_ => some k_ ≠ (s_.2.2.1 : Value).ownBlock ∧ some k_ ≠ (u16 : Value).ownBlock) s_.1 y435) ∧ (Kd.R (Kd.int .i64) 2 w' w.heap.size (fun k_ => some k_ ≠ (s_.1 : Value).ownBlock ∧ some k_ ≠ (u16 : Value).ownBlock) s_.2.2.1 y439) ∧ (Kd.R (Kd.int .i64) 2 w' w.heap.size (fun k_ => some k_ ≠ (s_.1 : Value).ownBlock ∧ some k_ ≠ (s_.2.2.1 : Value).ownBlock) u16 x16_1) ∧ (∃ c_, (s_.1 : Value) = .slice (some s_.2.1) y435.length c_) ∧ (∃ c_, (s_.2.2.1 : Value) = .slice (some s_.2.2.2) y439.length c_) ∧ (w'.heap[gb406]? = some (.cells #[.int .i64 a1_0, .int .i64 a1_1] 56 (0, 0))) ∧ (w'.heap[gb407]? = some (.cells #[.int .i64 a2_0, .int .i64 a2_1] 56 (0, 0))) ∧ (w'.heap[gb408]? = some (.cells #[.int .i64 0, .int .i64 0] 56 (0, 0))) ∧ (Below w.heap.size w w')) ?_ ?_
               rotate_left
               ·
                intro hJ4_13_17
                refine join_ (σ := Value × Addr) 9 #[true, true, true, true, true, true, true, true, true, true, true, true, true, false, true, true, false, false, false, false, false, false, false, false] (fun s_ => [(89, s_.1), (93, .int .i64 (rd y435 (ji81))), (92, .pointer (some (s_.2.add ((ji81)).toNat)))]) (fun s_ w' => (w'.cell? ⟨gb406, 0, none⟩ = some (.int .i64 a1_0) ∧ w'.cell? ⟨gb406, 1, none⟩ = some (.int .i64 a1_1) ∧ w'.cell? ⟨gb407, 0, none⟩ = some (.int .i64 a2_0) ∧ w'.cell? ⟨gb407, 1, none⟩ = some (.int .i64 a2_1)) ∧ (Kd.R (Kd.int .i64) 2 w' w.heap.size (fun k_ => some k_ ≠ (u16 : Value).ownBlock) s_.1 y435) ∧ (Kd.R (Kd.int .i64) 2 w' w.heap.size (fun k_ => some k_ ≠ (s_.1 : Value).ownBlock) u16 x16_1) ∧ (∃ c_, (s_.1 : Value) = .slice (some s_.2) y435.length c_) ∧ (w'.heap[gb406]? = some (.cells #[.int .i64 a1_0, .int .i64 a1_1] 56 (0, 0))) ∧ (w'.heap[gb407]? = some (.cells #[.int .i64 a2_0, .int .i64 a2_1] 56 (0, 0))) ∧ (w'.heap[gb408]? = some (.cells #[.int .i64 0, .int .i64 0] 56 (0, 0))) ∧ (Below w.heap.size w w')) ?_ ?_
                rotate_left
                ·
                 intro hJ4_8
                 refine join_ (σ := Value × Addr × Value × Addr) 8 #[true, true, true, true, true, true, true, true, false, true, true, true, true, true, true, true, true, false, false, false, false, false, false, false] (fun s_ => [(89, s_.1), (98, s_.2.2.1), (92, .pointer (some (s_.2.1.add ((ji81)).toNat))), (101, .pointer (some (s_.2.2.2.add ((ji84)).toNat)))]) (fun s_ w' => (w'.cell? ⟨gb406, 0, none⟩ = some (.int .i64 a1_0) ∧ w'.cell? ⟨gb406, 1, none⟩ = some (.int .i64 a1_1) ∧ w'.cell? ⟨gb407, 0, none⟩ = some (.int .i64 a2_0) ∧ w'.cell? ⟨gb407, 1, none⟩ = some (.int .i64 a2_1)) ∧ (Kd.R (Kd.int .i64) 2 w' w.heap.size (fun k_ => some k_ ≠ (s_.2.2.1 : Value).ownBlock ∧ some k_ ≠ (u16 : Value).ownBlock) s_.1 y435) ∧ (Kd.R (Kd.int .i64) 2 w' w.heap.size (fun k_ => some k_ ≠ (s_.1 : Value).ownBlock ∧ some k_ ≠ (u16 : Value).ownBlock) s_.2.2.1 y439) ∧ (Kd.R (Kd.int .i64) 2 w' w.heap.size (fun k_ => some k_ ≠ (s_.1 : Value).ownBlock ∧ some k_ ≠ (s_.2.2.1 : Value).ownBlock) u16 x16_1) ∧ (∃ c_, (s_.1 : Value) = .slice (some s_.2.1) y435.length c_) ∧ (∃ c_, (s_.2.2.1 : Value) = .slice (some s_.2.2.2) y439.length c_) ∧ (w'.heap[gb406]? = some (.cells #[.int .i64 a1_0, .int .i64 a1_1] 56 (0, 0))) ∧ (w'.heap[gb407]? = some (.cells #[.int .i64 a2_0, .int .i64 a2_1] 56 (0, 0))) ∧ (w'.heap[gb408]? = some (.cells #[.int .i64 0, .int .i64 0] 56 (0, 0))) ∧ (Below w.heap.size w w')) ?_ ?_
                 rotate_left
                 ·
                  intro hJ4_13
                  refine join_ (σ := Value × Addr) 9 #[true, true, true, true, false, true, true, false, false, true, true, true, true, true, true, true, true, true, false, false, false, false, false, false] (fun s_ => [(98, s_.1), (102, .int .i64 (rd y439 (ji84))), (101, .pointer (some (s_.2.add ((ji84)).toNat)))]) (fun s_ w' => (w'.cell? ⟨gb406, 0, none⟩ = some (.int .i64 a1_0) ∧ w'.cell? ⟨gb406, 1, none⟩ = some (.int .i64 a1_1) ∧ w'.cell? ⟨gb407, 0, none⟩ = some (.int .i64 a2_0) ∧ w'.cell? ⟨gb407, 1, none⟩ = some (.int .i64 a2_1)) ∧ (Kd.R (Kd.int .i64) 2 w' w.heap.size (fun k_ => some k_ ≠ (u16 : Value).ownBlock) s_.1 y439) ∧ (Kd.R (Kd.int .i64) 2 w' w.heap.size (fun k_ => some k_ ≠ (s_.1 : Value).ownBlock) u16 x16_1) ∧ (∃ c_, (s_.1 : Value) = .slice (some s_.2) y439.length c_) ∧ (w'.heap[gb406]? = some (.cells #[.int .i64 a1_0, .int .i64 a1_1] 56 (0, 0))) ∧ (w'.heap[gb407]? = some (.cells #[.int .i64 a2_0, .int .i64 a2_1] 56 (0, 0))) ∧ (w'.heap[gb408]? = some (.cells #[.int .i64 0, .int .i64 0] 56 (0, 0))) ∧ (Below w.heap.size w w')) ?_ ?_
                  rotate_left
                  ·
                   intro hJ13_17
                   refine join_ (σ := Value × Addr) 10 #[true, true, true, true, true, true, true, true, false, true, true, true, true, false, true, true, false, false, false, false, false, false, false, false] (fun s_ => [(89, s_.1), (92, .pointer (some (s_.2.add ((ji81)).toNat)))]) (fun s_ w' => (w'.cell? ⟨gb406, 0, none⟩ = some (.int .i64 a1_0) ∧ w'.cell? ⟨gb406, 1, none⟩ = some (.int .i64 a1_1) ∧ w'.cell? ⟨gb407, 0, none⟩ = some (.int .i64 a2_0) ∧ w'.cell? ⟨gb407, 1, none⟩ = some (.int .i64 a2_1)) ∧ (Kd.R (Kd.int .i64) 2 w' w.heap.size (fun k_ => some k_ ≠ (u16 : Value).ownBlock) s_.1 y435) ∧ (Kd.R (Kd.int .i64) 2 w' w.heap.size (fun k_ => some k_ ≠ (s_.1 : Value).ownBlock) u16 x16_1) ∧ (∃ c_, (s_.1 : Value) = .slice (some s_.2) y435.length c_) ∧ (w'.heap[gb406]? = some (.cells #[.int .i64 a1_0, .int .i64 a1_1] 56 (0, 0))) ∧ (w'.heap[gb407]? = some (.cells #[.int .i64 a2_0, .int .i64 a2_1] 56 (0, 0))) ∧ (w'.heap[gb408]? = some (.cells #[.int .i64 0, .int .i64 0] 56 (0, 0))) ∧ (Below w.heap.size w w')) ?_ ?_
                   rotate_left
                   ·
                    intro hJ4
                    refine join_ (σ := Value × Addr) 10 #[true, true, true, true, false, true, true, false, false, true, true, true, true, true, true, true, true, false, false, false, false, false, false, false] (fun s_ => [(98, s_.1), (101, .pointer (some (s_.2.add ((ji84)).toNat)))]) (fun s_ w' => (w'.cell? ⟨gb406, 0, none⟩ = some (.int .i64 a1_0) ∧ w'.cell? ⟨gb406, 1, none⟩ = some (.int .i64 a1_1) ∧ w'.cell? ⟨gb407, 0, none⟩ = some (.int .i64 a2_0) ∧ w'.cell? ⟨gb407, 1, none⟩ = some (.int .i64 a2_1)) ∧ (Kd.R (Kd.int .i64) 2 w' w.heap.size (fun k_ => some k_ ≠ (u16 : Value).ownBlock) s_.1 y439) ∧ (Kd.R (Kd.int .i64) 2 w' w.heap.size (fun k_ => some k_ ≠ (s_.1 : Value).ownBlock) u16 x16_1) ∧ (∃ c_, (s_.1 : Value) = .slice (some s_.2) y439.length c_) ∧ (w'.heap[gb406]? = some (.cells #[.int .i64 a1_0, .int .i64 a1_1] 56 (0, 0))) ∧ (w'.heap[gb407]? = some (.cells #[.int .i64 a2_0, .int .i64 a2_1] 56 (0, 0))) ∧ (w'.heap[gb408]? = some (.cells #[.int .i64 0, .int .i64 0] 56 (0, 0))) ∧ (Below w.heap.size w w')) ?_ ?_
                    rotate_left
                    ·
                     intro hJ13
                     refine two_ (i := 4) (j := 13) (Ni := some 89) (Nj := some 98) #[true, true, true, true, true, true, true, false, false, true, true, true, true, false, true, true, false, false, false, false, false, false, false, false] #[true, true, true, true, false, true, true, false, false, true, true, true, true, true, true, true, false, false, false, false, false, false, false, false] rfl rfl rfl rfl (two_of HT_.out (by kernel_rfl)) (by decide) (by decide) (fun K hK => ?_) (fun K hK => ?_)
                     ·
                      skip
                      refine Kd.R_lit_step (Kd.int .i64) _ 2 ?hg (N := 89) ?hd (xs := ([a1_0, a1_1] : List Int)) (inner := [.int .i64 a1_0, .int .i64 a1_1]) (ok := fun _ => True) (okp := fun _ => True) ?hr ?hp (fun _ hk => hk) trivial (Below.refl _ _) (Nat.le_refl _) (by simp) ?_; (case hd => rfl); (case hg => rfl); (case hr => first | (go_simp; done) | (go_simp; rfl)); (case hp => exact (Reps.one (show Kd.M (Kd.int .i64) _ _ _ a1_0 [.int .i64 a1_0] from rfl) (Reps.one (show Kd.M (Kd.int .i64) _ _ _ a1_1 [.int .i64 a1_1] from rfl) (Reps.none _ _))))
                      intro v436 w91 ho92 hb hg_ hnew_
                      clear hg_ hnew_
                      (first | rw [← Ny435.out] at ho92 | (simp only [Int.reduceToNat] at ho92; rw [← Ny435.out] at ho92))
                      have HO437 := Aside0.mk (Kd.R_lower (Kd.R_new' ho92 (Kd.R_lt (by (with_reducible repeat (first | apply Kd.R_alloc | apply Kd.R_drewN | apply Kd.R_drew)); exact HO_16.out))) (below_size HB.out))
                      replace HO_16 := Aside0.mk (Kd.R_elder' (by (with_reducible repeat (first | apply Kd.R_alloc | apply Kd.R_drewN | apply Kd.R_drew)); exact HO_16.out) (Kd.R_base ho92) hb); replace BK406 := bb BK406 hb rfl; replace BK407 := bb BK407 hb rfl; replace BK408 := bb BK408 hb rfl; replace HB := hst HB hb rfl
                      clear hb ho92
                      obtain ⟨Ao93, co93, eo93⟩ := Kd.R_slice HO437.out
                      subst eo93
                      obtain ⟨ado93, fo93, _⟩ := Kd.at_int (Kd.R_reads' HO437.out).2.2 0 (by decide) (by rw [Ny435.out]; simp)
                      cases fo93
                      refine hK.out _ _ ⟨bc BK406 0 rfl, bc BK406 1 rfl, bc BK407 0 rfl, bc BK407 1 rfl⟩ (fun hHeld => ?_)
                      clear hK K
                      refine norm_ (a' := ?_) ?_ ?_
                      rotate_left; · (show Act.put _ (some 89) _ = _; simp only [Act.put, List.setIfInBounds_toArray, List.set_cons_zero, List.set_cons_succ, i64_w, i32_w]; rfl)
                      refine pure_ (i := 7) (N := some 92) (v := ?_) (a' := ?_) #[true, true, true, true, true, true, true, true, false, true, true, true, true, false, true, true, false, false, false, false, false, false, false, false] rfl rfl (any_of HT_.out (by kernel_rfl)) (fun _ _ _ h => h) (Or.inl ⟨by rfl, ?_⟩) ?_ ?_
                      rotate_left; · (intro w'; go_simp; with_reducible rfl)
                      rotate_left; · (simp only [Act.put, List.setIfInBounds_toArray, List.set_cons_zero, List.set_cons_succ, i64_w, i32_w]; rfl)
                      exact norm_ (by simp only [putAll, Act.put, List.setIfInBounds_toArray, List.set_cons_zero, List.set_cons_succ] <;> rfl) (hJ4 (.slice (some ado93) y435.length co93, ado93) _ ⟨hHeld, (by (with_reducible repeat (first | apply Kd.R_alloc | apply Kd.R_drewN | apply Kd.R_drew)); exact Kd.R_mono HO437.out (fun _ hk => hk.2)), (by (with_reducible repeat (first | apply Kd.R_alloc | apply Kd.R_drewN | apply Kd.R_drew)); exact Kd.R_mono HO_16.out (fun _ hk => hk.2)), ⟨_, rfl⟩, BK406.out, BK407.out, BK408.out, (by repeat (first | (with_reducible first | exact HB.out | apply below_alloc | apply pw_below_drewN | apply below_drew1 | refine below_set ?_ GE406.out | refine below_set ?_ GE407.out | refine below_set ?_ GE408.out) | exact HB.out))⟩)
                     ·
                      skip
                      refine Kd.R_lit_step (Kd.int .i64) _ 2 ?hg (N := 98) ?hd (xs := ([a2_0, a2_1] : List Int)) (inner := [.int .i64 a2_0, .int .i64 a2_1]) (ok := fun _ => True) (okp := fun _ => True) ?hr ?hp (fun _ hk => hk) trivial (Below.refl _ _) (Nat.le_refl _) (by simp) ?_; (case hd => rfl); (case hg => rfl); (case hr => first | (go_simp; done) | (go_simp; rfl)); (case hp => exact (Reps.one (show Kd.M (Kd.int .i64) _ _ _ a2_0 [.int .i64 a2_0] from rfl) (Reps.one (show Kd.M (Kd.int .i64) _ _ _ a2_1 [.int .i64 a2_1] from rfl) (Reps.none _ _))))
                      intro v440 w91 ho92 hb hg_ hnew_
                      clear hg_ hnew_
                      (first | rw [← Ny439.out] at ho92 | (simp only [Int.reduceToNat] at ho92; rw [← Ny439.out] at ho92))
                      have HO441 := Aside0.mk (Kd.R_lower (Kd.R_new' ho92 (Kd.R_lt (by (with_reducible repeat (first | apply Kd.R_alloc | apply Kd.R_drewN | apply Kd.R_drew)); exact HO_16.out))) (below_size HB.out))
                      replace HO_16 := Aside0.mk (Kd.R_elder' (by (with_reducible repeat (first | apply Kd.R_alloc | apply Kd.R_drewN | apply Kd.R_drew)); exact HO_16.out) (Kd.R_base ho92) hb); replace BK406 := bb BK406 hb rfl; replace BK407 := bb BK407 hb rfl; replace BK408 := bb BK408 hb rfl; replace HB := hst HB hb rfl
                      clear hb ho92
                      obtain ⟨Ao93, co93, eo93⟩ := Kd.R_slice HO441.out
                      subst eo93
                      obtain ⟨ado93, fo93, _⟩ := Kd.at_int (Kd.R_reads' HO441.out).2.2 0 (by decide) (by rw [Ny439.out]; simp)
                      cases fo93
                      refine hK.out _ _ ⟨bc BK406 0 rfl, bc BK406 1 rfl, bc BK407 0 rfl, bc BK407 1 rfl⟩ (fun hHeld => ?_)
                      clear hK K
                      refine norm_ (a' := ?_) ?_ ?_
                      rotate_left; · (show Act.put _ (some 98) _ = _; simp only [Act.put, List.setIfInBounds_toArray, List.set_cons_zero, List.set_cons_succ, i64_w, i32_w]; rfl)
                      refine pure_ (i := 16) (N := some 101) (v := ?_) (a' := ?_) #[true, true, true, true, false, true, true, false, false, true, true, true, true, true, true, true, true, false, false, false, false, false, false, false] rfl rfl (any_of HT_.out (by kernel_rfl)) (fun _ _ _ h => h) (Or.inl ⟨by rfl, ?_⟩) ?_ ?_
                      rotate_left; · (intro w'; go_simp; with_reducible rfl)
                      rotate_left; · (simp only [Act.put, List.setIfInBounds_toArray, List.set_cons_zero, List.set_cons_succ, i64_w, i32_w]; rfl)
                      exact norm_ (by simp only [putAll, Act.put, List.setIfInBounds_toArray, List.set_cons_zero, List.set_cons_succ] <;> rfl) (hJ13 (.slice (some ado93) y439.length co93, ado93) _ ⟨hHeld, (by (with_reducible repeat (first | apply Kd.R_alloc | apply Kd.R_drewN | apply Kd.R_drew)); exact Kd.R_mono HO441.out (fun _ hk => hk.2)), (by (with_reducible repeat (first | apply Kd.R_alloc | apply Kd.R_drewN | apply Kd.R_drew)); exact Kd.R_mono HO_16.out (fun _ hk => hk.2)), ⟨_, rfl⟩, BK406.out, BK407.out, BK408.out, (by repeat (first | (with_reducible first | exact HB.out | apply below_alloc | apply pw_below_drewN | apply below_drew1 | refine below_set ?_ GE406.out | refine below_set ?_ GE407.out | refine below_set ?_ GE408.out) | exact HB.out))⟩)
                    ·
                     skip
                     rintro ⟨v440, adz_v440⟩ w94 ⟨hS_, h0_, h1_, h2_, h3_, h4_, h5_, h6_⟩
                     have n0_ : Aside0 (Kd.R (Kd.int .i64) 2 w94 w.heap.size (fun k_ => some k_ ≠ (u16 : Value).ownBlock) v440 y439) := ⟨h0_⟩
                     have n1_ : Aside0 (Kd.R (Kd.int .i64) 2 w94 w.heap.size (fun k_ => some k_ ≠ (v440 : Value).ownBlock) u16 x16_1) := ⟨h1_⟩
                     have n2_ : Aside0 (∃ c_, (v440 : Value) = .slice (some adz_v440) y439.length c_) := ⟨h2_⟩
                     have n3_ : Aside0 (w94.heap[gb406]? = some (.cells #[.int .i64 a1_0, .int .i64 a1_1] 56 (0, 0))) := ⟨h3_⟩
                     have n4_ : Aside0 (w94.heap[gb407]? = some (.cells #[.int .i64 a2_0, .int .i64 a2_1] 56 (0, 0))) := ⟨h4_⟩
                     have n5_ : Aside0 (w94.heap[gb408]? = some (.cells #[.int .i64 0, .int .i64 0] 56 (0, 0))) := ⟨h5_⟩
                     have n6_ : Aside0 (Below w.heap.size w w94) := ⟨h6_⟩
                     clear HO_16
                     clear BK406
                     clear BK407
                     clear BK408
                     clear HB
                     clear h0_ h1_ h2_ h3_ h4_ h5_ h6_
                     have HO441 := n0_
                     have HO_16 := n1_
                     have HA_HO441 := n2_
                     have BK406 := n3_
                     have BK407 := n4_
                     have BK408 := n5_
                     have HB := n6_
                     clear n0_ n1_ n2_ n3_ n4_ n5_ n6_
                     have hHeld : w94.cell? ⟨gb406, 0, none⟩ = some (.int .i64 a1_0) ∧ w94.cell? ⟨gb406, 1, none⟩ = some (.int .i64 a1_1) ∧ w94.cell? ⟨gb407, 0, none⟩ = some (.int .i64 a2_0) ∧ w94.cell? ⟨gb407, 1, none⟩ = some (.int .i64 a2_1) := hS_
                     obtain ⟨co95, eo95⟩ := HA_HO441.out
                     clear HA_HO441
                     subst eo95
                     refine norm_ (a' := ?_) ?_ ?_
                     rotate_left
                     ·
                      simp only [putAll, Act.put, List.setIfInBounds_toArray, List.set_cons_zero, List.set_cons_succ]
                      rfl
                     refine two_ (i := 4) (j := 17) (Ni := some 89) (Nj := some 102) #[true, true, true, true, true, true, true, false, false, true, true, true, true, true, true, true, true, false, false, false, false, false, false, false] #[true, true, true, true, false, true, true, false, false, true, true, true, true, true, true, true, true, true, false, false, false, false, false, false] rfl rfl rfl rfl (two_of HT_.out (by kernel_rfl)) (by decide) (by decide) (fun K hK => ?_) (fun K hK => ?_)
                     ·
                      skip
                      refine Kd.R_lit_step (Kd.int .i64) _ 2 ?hg (N := 89) ?hd (xs := ([a1_0, a1_1] : List Int)) (inner := [.int .i64 a1_0, .int .i64 a1_1]) (ok := fun _ => True) (okp := fun _ => True) ?hr ?hp (fun _ hk => hk) trivial (Below.refl _ _) (Nat.le_refl _) (by simp) ?_; (case hd => rfl); (case hg => rfl); (case hr => first | (go_simp; done) | (go_simp; rfl)); (case hp => exact (Reps.one (show Kd.M (Kd.int .i64) _ _ _ a1_0 [.int .i64 a1_0] from rfl) (Reps.one (show Kd.M (Kd.int .i64) _ _ _ a1_1 [.int .i64 a1_1] from rfl) (Reps.none _ _))))
                      intro v436 w96 ho97 hb hg_ hnew_
                      clear hg_ hnew_
                      (first | rw [← Ny435.out] at ho97 | (simp only [Int.reduceToNat] at ho97; rw [← Ny435.out] at ho97))
                      have HO437 := Aside0.mk (Kd.R_lower (Kd.R_new' (Kd.R_new' ho97 (Kd.R_lt (by (with_reducible repeat (first | apply Kd.R_alloc | apply Kd.R_drewN | apply Kd.R_drew)); exact HO_16.out))) (Kd.R_lt (by (with_reducible repeat (first | apply Kd.R_alloc | apply Kd.R_drewN | apply Kd.R_drew)); exact HO441.out))) (below_size HB.out))
                      replace HO_16 := Aside0.mk (Kd.R_elder' (by (with_reducible repeat (first | apply Kd.R_alloc | apply Kd.R_drewN | apply Kd.R_drew)); exact HO_16.out) (Kd.R_base ho97) hb); replace HO441 := Aside0.mk (Kd.R_elder' (by (with_reducible repeat (first | apply Kd.R_alloc | apply Kd.R_drewN | apply Kd.R_drew)); exact HO441.out) (Kd.R_base ho97) hb); replace BK406 := bb BK406 hb rfl; replace BK407 := bb BK407 hb rfl; replace BK408 := bb BK408 hb rfl; replace HB := hst HB hb rfl
                      clear hb ho97
                      obtain ⟨Ao98, co98, eo98⟩ := Kd.R_slice HO437.out
                      subst eo98
                      obtain ⟨ado98, fo98, _⟩ := Kd.at_int (Kd.R_reads' HO437.out).2.2 0 (by decide) (by rw [Ny435.out]; simp)
                      cases fo98
                      refine hK.out _ _ ⟨bc BK406 0 rfl, bc BK406 1 rfl, bc BK407 0 rfl, bc BK407 1 rfl⟩ (fun hHeld => ?_)
                      clear hK K
                      refine norm_ (a' := ?_) ?_ ?_
                      rotate_left; · (show Act.put _ (some 89) _ = _; simp only [Act.put, List.setIfInBounds_toArray, List.set_cons_zero, List.set_cons_succ, i64_w, i32_w]; rfl)
                      refine pure_ (i := 7) (N := some 92) (v := ?_) (a' := ?_) #[true, true, true, true, true, true, true, true, false, true, true, true, true, true, true, true, true, false, false, false, false, false, false, false] rfl rfl (any_of HT_.out (by kernel_rfl)) (fun _ _ _ h => h) (Or.inl ⟨by rfl, ?_⟩) ?_ ?_
                      rotate_left; · (intro w'; go_simp; with_reducible rfl)
                      rotate_left; · (simp only [Act.put, List.setIfInBounds_toArray, List.set_cons_zero, List.set_cons_succ, i64_w, i32_w]; rfl)
                      exact norm_ (by simp only [putAll, Act.put, List.setIfInBounds_toArray, List.set_cons_zero, List.set_cons_succ] <;> rfl) (hJ4_13 (.slice (some ado98) y435.length co98, ado98, .slice (some adz_v440) y439.length co95, adz_v440) _ ⟨hHeld, (by (with_reducible repeat (first | apply Kd.R_alloc | apply Kd.R_drewN | apply Kd.R_drew)); exact Kd.R_mono HO437.out (fun _ hk => ⟨hk.2, hk.1.2⟩)), (by (with_reducible repeat (first | apply Kd.R_alloc | apply Kd.R_drewN | apply Kd.R_drew)); exact Kd.R_mono HO441.out (fun _ hk => ⟨hk.2, hk.1⟩)), (by (with_reducible repeat (first | apply Kd.R_alloc | apply Kd.R_drewN | apply Kd.R_drew)); exact Kd.R_mono HO_16.out (fun _ hk => ⟨hk.2, hk.1⟩)), ⟨_, rfl⟩, ⟨_, rfl⟩, BK406.out, BK407.out, BK408.out, (by repeat (first | (with_reducible first | exact HB.out | apply below_alloc | apply pw_below_drewN | apply below_drew1 | refine below_set ?_ GE406.out | refine below_set ?_ GE407.out | refine below_set ?_ GE408.out) | exact HB.out))⟩)
                     ·
                      skip
                      (have p442 : 0 ≤ ((ji84) : Int) := of_decide_eq_true (by first | (with_reducible assumption) | assumption); have q442 : (ji84) < (y439.length : Int) := of_decide_eq_true (by first | (with_reducible assumption) | assumption); obtain ⟨ad442, e442, hx442_0⟩ := Kd.at_int (Kd.R_reads' HO441.out).2.2 (ji84) p442 q442; obtain rfl : adz_v440 = ad442 := (by injection e442))
                      refine value_ (w1 := ?_) (v := ?_) (by rfl) rfl ?_ ?_
                      rotate_left 2
                      ·
                       go_simp
                       constructor
                       ·
                        rfl
                       ·
                        rfl
                      clear hx442_0
                      refine hK.out _ _ ⟨bc BK406 0 rfl, bc BK406 1 rfl, bc BK407 0 rfl, bc BK407 1 rfl⟩ (fun hHeld => ?_)
                      clear hK K
                      refine norm_ (a' := ?_) ?_ ?_
                      rotate_left; · (show Act.put _ (some 102) _ = _; simp only [Act.put, List.setIfInBounds_toArray, List.set_cons_zero, List.set_cons_succ, i64_w, i32_w]; rfl)
                      exact norm_ (by simp only [putAll, Act.put, List.setIfInBounds_toArray, List.set_cons_zero, List.set_cons_succ] <;> rfl) (hJ13_17 (.slice (some adz_v440) y439.length co95, adz_v440) _ ⟨hHeld, (by (with_reducible repeat (first | apply Kd.R_alloc | apply Kd.R_drewN | apply Kd.R_drew)); exact HO441.out), (by (with_reducible repeat (first | apply Kd.R_alloc | apply Kd.R_drewN | apply Kd.R_drew)); exact HO_16.out), ⟨_, rfl⟩, BK406.out, BK407.out, BK408.out, (by repeat (first | (with_reducible first | exact HB.out | apply below_alloc | apply pw_below_drewN | apply below_drew1 | refine below_set ?_ GE406.out | refine below_set ?_ GE407.out | refine below_set ?_ GE408.out) | exact HB.out))⟩)
                   ·
                    skip
                    rintro ⟨v436, adz_v436⟩ w94 ⟨hS_, h0_, h1_, h2_, h3_, h4_, h5_, h6_⟩
                    have n0_ : Aside0 (Kd.R (Kd.int .i64) 2 w94 w.heap.size (fun k_ => some k_ ≠ (u16 : Value).ownBlock) v436 y435) := ⟨h0_⟩
                    have n1_ : Aside0 (Kd.R (Kd.int .i64) 2 w94 w.heap.size (fun k_ => some k_ ≠ (v436 : Value).ownBlock) u16 x16_1) := ⟨h1_⟩
                    have n2_ : Aside0 (∃ c_, (v436 : Value) = .slice (some adz_v436) y435.length c_) := ⟨h2_⟩
                    have n3_ : Aside0 (w94.heap[gb406]? = some (.cells #[.int .i64 a1_0, .int .i64 a1_1] 56 (0, 0))) := ⟨h3_⟩
                    have n4_ : Aside0 (w94.heap[gb407]? = some (.cells #[.int .i64 a2_0, .int .i64 a2_1] 56 (0, 0))) := ⟨h4_⟩
                    have n5_ : Aside0 (w94.heap[gb408]? = some (.cells #[.int .i64 0, .int .i64 0] 56 (0, 0))) := ⟨h5_⟩
                    have n6_ : Aside0 (Below w.heap.size w w94) := ⟨h6_⟩
                    clear HO_16
                    clear BK406
                    clear BK407
                    clear BK408
                    clear HB
                    clear h0_ h1_ h2_ h3_ h4_ h5_ h6_
                    have HO437 := n0_
                    have HO_16 := n1_
                    have HA_HO437 := n2_
                    have BK406 := n3_
                    have BK407 := n4_
                    have BK408 := n5_
                    have HB := n6_
                    clear n0_ n1_ n2_ n3_ n4_ n5_ n6_
                    have hHeld : w94.cell? ⟨gb406, 0, none⟩ = some (.int .i64 a1_0) ∧ w94.cell? ⟨gb406, 1, none⟩ = some (.int .i64 a1_1) ∧ w94.cell? ⟨gb407, 0, none⟩ = some (.int .i64 a2_0) ∧ w94.cell? ⟨gb407, 1, none⟩ = some (.int .i64 a2_1) := hS_
                    obtain ⟨co95, eo95⟩ := HA_HO437.out
                    clear HA_HO437
                    subst eo95
                    refine norm_ (a' := ?_) ?_ ?_
                    rotate_left
                    ·
                     simp only [putAll, Act.put, List.setIfInBounds_toArray, List.set_cons_zero, List.set_cons_succ]
                     rfl
                    refine two_ (i := 8) (j := 13) (Ni := some 93) (Nj := some 98) #[true, true, true, true, true, true, true, true, true, true, true, true, true, false, true, true, false, false, false, false, false, false, false, false] #[true, true, true, true, true, true, true, true, false, true, true, true, true, true, true, true, false, false, false, false, false, false, false, false] rfl rfl rfl rfl (two_of HT_.out (by kernel_rfl)) (by decide) (by decide) (fun K hK => ?_) (fun K hK => ?_)
                    ·
                     skip
                     (have p438 : 0 ≤ ((ji81) : Int) := of_decide_eq_true (by first | (with_reducible assumption) | assumption); have q438 : (ji81) < (y435.length : Int) := of_decide_eq_true (by first | (with_reducible assumption) | assumption); obtain ⟨ad438, e438, hx438_0⟩ := Kd.at_int (Kd.R_reads' HO437.out).2.2 (ji81) p438 q438; obtain rfl : adz_v436 = ad438 := (by injection e438))
                     refine value_ (w1 := ?_) (v := ?_) (by rfl) rfl ?_ ?_
                     rotate_left 2
                     ·
                      go_simp
                      constructor
                      ·
                       rfl
                      ·
                       rfl
                     clear hx438_0
                     refine hK.out _ _ ⟨bc BK406 0 rfl, bc BK406 1 rfl, bc BK407 0 rfl, bc BK407 1 rfl⟩ (fun hHeld => ?_)
                     clear hK K
                     refine norm_ (a' := ?_) ?_ ?_
                     rotate_left; · (show Act.put _ (some 93) _ = _; simp only [Act.put, List.setIfInBounds_toArray, List.set_cons_zero, List.set_cons_succ, i64_w, i32_w]; rfl)
                     exact norm_ (by simp only [putAll, Act.put, List.setIfInBounds_toArray, List.set_cons_zero, List.set_cons_succ] <;> rfl) (hJ4_8 (.slice (some adz_v436) y435.length co95, adz_v436) _ ⟨hHeld, (by (with_reducible repeat (first | apply Kd.R_alloc | apply Kd.R_drewN | apply Kd.R_drew)); exact HO437.out), (by (with_reducible repeat (first | apply Kd.R_alloc | apply Kd.R_drewN | apply Kd.R_drew)); exact HO_16.out), ⟨_, rfl⟩, BK406.out, BK407.out, BK408.out, (by repeat (first | (with_reducible first | exact HB.out | apply below_alloc | apply pw_below_drewN | apply below_drew1 | refine below_set ?_ GE406.out | refine below_set ?_ GE407.out | refine below_set ?_ GE408.out) | exact HB.out))⟩)
                    ·
                     skip
                     refine Kd.R_lit_step (Kd.int .i64) _ 2 ?hg (N := 98) ?hd (xs := ([a2_0, a2_1] : List Int)) (inner := [.int .i64 a2_0, .int .i64 a2_1]) (ok := fun _ => True) (okp := fun _ => True) ?hr ?hp (fun _ hk => hk) trivial (Below.refl _ _) (Nat.le_refl _) (by simp) ?_; (case hd => rfl); (case hg => rfl); (case hr => first | (go_simp; done) | (go_simp; rfl)); (case hp => exact (Reps.one (show Kd.M (Kd.int .i64) _ _ _ a2_0 [.int .i64 a2_0] from rfl) (Reps.one (show Kd.M (Kd.int .i64) _ _ _ a2_1 [.int .i64 a2_1] from rfl) (Reps.none _ _))))
                     intro v440 w96 ho97 hb hg_ hnew_
                     clear hg_ hnew_
                     (first | rw [← Ny439.out] at ho97 | (simp only [Int.reduceToNat] at ho97; rw [← Ny439.out] at ho97))
                     have HO441 := Aside0.mk (Kd.R_lower (Kd.R_new' (Kd.R_new' ho97 (Kd.R_lt (by (with_reducible repeat (first | apply Kd.R_alloc | apply Kd.R_drewN | apply Kd.R_drew)); exact HO_16.out))) (Kd.R_lt (by (with_reducible repeat (first | apply Kd.R_alloc | apply Kd.R_drewN | apply Kd.R_drew)); exact HO437.out))) (below_size HB.out))
                     replace HO_16 := Aside0.mk (Kd.R_elder' (by (with_reducible repeat (first | apply Kd.R_alloc | apply Kd.R_drewN | apply Kd.R_drew)); exact HO_16.out) (Kd.R_base ho97) hb); replace HO437 := Aside0.mk (Kd.R_elder' (by (with_reducible repeat (first | apply Kd.R_alloc | apply Kd.R_drewN | apply Kd.R_drew)); exact HO437.out) (Kd.R_base ho97) hb); replace BK406 := bb BK406 hb rfl; replace BK407 := bb BK407 hb rfl; replace BK408 := bb BK408 hb rfl; replace HB := hst HB hb rfl
                     clear hb ho97
                     obtain ⟨Ao98, co98, eo98⟩ := Kd.R_slice HO441.out
                     subst eo98
                     obtain ⟨ado98, fo98, _⟩ := Kd.at_int (Kd.R_reads' HO441.out).2.2 0 (by decide) (by rw [Ny439.out]; simp)
                     cases fo98
                     refine hK.out _ _ ⟨bc BK406 0 rfl, bc BK406 1 rfl, bc BK407 0 rfl, bc BK407 1 rfl⟩ (fun hHeld => ?_)
                     clear hK K
                     refine norm_ (a' := ?_) ?_ ?_
                     rotate_left; · (show Act.put _ (some 98) _ = _; simp only [Act.put, List.setIfInBounds_toArray, List.set_cons_zero, List.set_cons_succ, i64_w, i32_w]; rfl)
                     refine pure_ (i := 16) (N := some 101) (v := ?_) (a' := ?_) #[true, true, true, true, true, true, true, true, false, true, true, true, true, true, true, true, true, false, false, false, false, false, false, false] rfl rfl (any_of HT_.out (by kernel_rfl)) (fun _ _ _ h => h) (Or.inl ⟨by rfl, ?_⟩) ?_ ?_
                     rotate_left; · (intro w'; go_simp; with_reducible rfl)
                     rotate_left; · (simp only [Act.put, List.setIfInBounds_toArray, List.set_cons_zero, List.set_cons_succ, i64_w, i32_w]; rfl)
                     exact norm_ (by simp only [putAll, Act.put, List.setIfInBounds_toArray, List.set_cons_zero, List.set_cons_succ] <;> rfl) (hJ4_13 (.slice (some adz_v436) y435.length co95, adz_v436, .slice (some ado98) y439.length co98, ado98) _ ⟨hHeld, (by (with_reducible repeat (first | apply Kd.R_alloc | apply Kd.R_drewN | apply Kd.R_drew)); exact Kd.R_mono HO437.out (fun _ hk => ⟨hk.2, hk.1⟩)), (by (with_reducible repeat (first | apply Kd.R_alloc | apply Kd.R_drewN | apply Kd.R_drew)); exact Kd.R_mono HO441.out (fun _ hk => ⟨hk.2, hk.1.2⟩)), (by (with_reducible repeat (first | apply Kd.R_alloc | apply Kd.R_drewN | apply Kd.R_drew)); exact HO_16.out), ⟨_, rfl⟩, ⟨_, rfl⟩, BK406.out, BK407.out, BK408.out, (by repeat (first | (with_reducible first | exact HB.out | apply below_alloc | apply pw_below_drewN | apply below_drew1 | refine below_set ?_ GE406.out | refine below_set ?_ GE407.out | refine below_set ?_ GE408.out) | exact HB.out))⟩)
                  ·
                   skip
                   rintro ⟨v440, adz_v440⟩ w94 ⟨hS_, h0_, h1_, h2_, h3_, h4_, h5_, h6_⟩
                   have n0_ : Aside0 (Kd.R (Kd.int .i64) 2 w94 w.heap.size (fun k_ => some k_ ≠ (u16 : Value).ownBlock) v440 y439) := ⟨h0_⟩
                   have n1_ : Aside0 (Kd.R (Kd.int .i64) 2 w94 w.heap.size (fun k_ => some k_ ≠ (v440 : Value).ownBlock) u16 x16_1) := ⟨h1_⟩
                   have n2_ : Aside0 (∃ c_, (v440 : Value) = .slice (some adz_v440) y439.length c_) := ⟨h2_⟩
                   have n3_ : Aside0 (w94.heap[gb406]? = some (.cells #[.int .i64 a1_0, .int .i64 a1_1] 56 (0, 0))) := ⟨h3_⟩
                   have n4_ : Aside0 (w94.heap[gb407]? = some (.cells #[.int .i64 a2_0, .int .i64 a2_1] 56 (0, 0))) := ⟨h4_⟩
                   have n5_ : Aside0 (w94.heap[gb408]? = some (.cells #[.int .i64 0, .int .i64 0] 56 (0, 0))) := ⟨h5_⟩
                   have n6_ : Aside0 (Below w.heap.size w w94) := ⟨h6_⟩
                   clear HO_16
                   clear BK406
                   clear BK407
                   clear BK408
                   clear HB
                   clear h0_ h1_ h2_ h3_ h4_ h5_ h6_
                   have HO441 := n0_
                   have HO_16 := n1_
                   have HA_HO441 := n2_
                   have BK406 := n3_
                   have BK407 := n4_
                   have BK408 := n5_
                   have HB := n6_
                   clear n0_ n1_ n2_ n3_ n4_ n5_ n6_
                   have hHeld : w94.cell? ⟨gb406, 0, none⟩ = some (.int .i64 a1_0) ∧ w94.cell? ⟨gb406, 1, none⟩ = some (.int .i64 a1_1) ∧ w94.cell? ⟨gb407, 0, none⟩ = some (.int .i64 a2_0) ∧ w94.cell? ⟨gb407, 1, none⟩ = some (.int .i64 a2_1) := hS_
                   obtain ⟨co95, eo95⟩ := HA_HO441.out
                   clear HA_HO441
                   subst eo95
                   refine norm_ (a' := ?_) ?_ ?_
                   rotate_left
                   ·
                    simp only [putAll, Act.put, List.setIfInBounds_toArray, List.set_cons_zero, List.set_cons_succ]
                    rfl
                   refine one_ (i := 4) (N := some 89) #[true, true, true, true, true, true, true, false, false, true, true, true, true, true, true, true, true, true, false, false, false, false, false, false] rfl rfl (one_of HT_.out (by kernel_rfl)) (by decide) (fun K hK => ?_)
                   refine Kd.R_lit_step (Kd.int .i64) _ 2 ?hg (N := 89) ?hd (xs := ([a1_0, a1_1] : List Int)) (inner := [.int .i64 a1_0, .int .i64 a1_1]) (ok := fun _ => True) (okp := fun _ => True) ?hr ?hp (fun _ hk => hk) trivial (Below.refl _ _) (Nat.le_refl _) (by simp) ?_; (case hd => rfl); (case hg => rfl); (case hr => first | (go_simp; done) | (go_simp; rfl)); (case hp => exact (Reps.one (show Kd.M (Kd.int .i64) _ _ _ a1_0 [.int .i64 a1_0] from rfl) (Reps.one (show Kd.M (Kd.int .i64) _ _ _ a1_1 [.int .i64 a1_1] from rfl) (Reps.none _ _))))
                   intro v436 w96 ho97 hb hg_ hnew_
                   clear hg_ hnew_
                   (first | rw [← Ny435.out] at ho97 | (simp only [Int.reduceToNat] at ho97; rw [← Ny435.out] at ho97))
                   have HO437 := Aside0.mk (Kd.R_lower (Kd.R_new' (Kd.R_new' ho97 (Kd.R_lt (by (with_reducible repeat (first | apply Kd.R_alloc | apply Kd.R_drewN | apply Kd.R_drew)); exact HO_16.out))) (Kd.R_lt (by (with_reducible repeat (first | apply Kd.R_alloc | apply Kd.R_drewN | apply Kd.R_drew)); exact HO441.out))) (below_size HB.out))
                   replace HO_16 := Aside0.mk (Kd.R_elder' (by (with_reducible repeat (first | apply Kd.R_alloc | apply Kd.R_drewN | apply Kd.R_drew)); exact HO_16.out) (Kd.R_base ho97) hb); replace HO441 := Aside0.mk (Kd.R_elder' (by (with_reducible repeat (first | apply Kd.R_alloc | apply Kd.R_drewN | apply Kd.R_drew)); exact HO441.out) (Kd.R_base ho97) hb); replace BK406 := bb BK406 hb rfl; replace BK407 := bb BK407 hb rfl; replace BK408 := bb BK408 hb rfl; replace HB := hst HB hb rfl
                   clear hb ho97
                   obtain ⟨Ao98, co98, eo98⟩ := Kd.R_slice HO437.out
                   subst eo98
                   obtain ⟨ado98, fo98, _⟩ := Kd.at_int (Kd.R_reads' HO437.out).2.2 0 (by decide) (by rw [Ny435.out]; simp)
                   cases fo98
                   refine hK.out _ _ ⟨bc BK406 0 rfl, bc BK406 1 rfl, bc BK407 0 rfl, bc BK407 1 rfl⟩ (fun hHeld => ?_)
                   clear hK K
                   refine norm_ (a' := ?_) ?_ ?_
                   rotate_left; · (show Act.put _ (some 89) _ = _; simp only [Act.put, List.setIfInBounds_toArray, List.set_cons_zero, List.set_cons_succ, i64_w, i32_w]; rfl)
                   refine pure_ (i := 7) (N := some 92) (v := ?_) (a' := ?_) #[true, true, true, true, true, true, true, true, false, true, true, true, true, true, true, true, true, true, false, false, false, false, false, false] rfl rfl (any_of HT_.out (by kernel_rfl)) (fun _ _ _ h => h) (Or.inl ⟨by rfl, ?_⟩) ?_ ?_
                   rotate_left; · (intro w'; go_simp; with_reducible rfl)
                   rotate_left; · (simp only [Act.put, List.setIfInBounds_toArray, List.set_cons_zero, List.set_cons_succ, i64_w, i32_w]; rfl)
                   exact norm_ (by simp only [putAll, Act.put, List.setIfInBounds_toArray, List.set_cons_zero, List.set_cons_succ] <;> rfl) (hJ4_13_17 (.slice (some ado98) y435.length co98, ado98, .slice (some adz_v440) y439.length co95, adz_v440) _ ⟨hHeld, (by (with_reducible repeat (first | apply Kd.R_alloc | apply Kd.R_drewN | apply Kd.R_drew)); exact Kd.R_mono HO437.out (fun _ hk => ⟨hk.2, hk.1.2⟩)), (by (with_reducible repeat (first | apply Kd.R_alloc | apply Kd.R_drewN | apply Kd.R_drew)); exact Kd.R_mono HO441.out (fun _ hk => ⟨hk.2, hk.1⟩)), (by (with_reducible repeat (first | apply Kd.R_alloc | apply Kd.R_drewN | apply Kd.R_drew)); exact Kd.R_mono HO_16.out (fun _ hk => ⟨hk.2, hk.1⟩)), ⟨_, rfl⟩, ⟨_, rfl⟩, BK406.out, BK407.out, BK408.out, (by repeat (first | (with_reducible first | exact HB.out | apply below_alloc | apply pw_below_drewN | apply below_drew1 | refine below_set ?_ GE406.out | refine below_set ?_ GE407.out | refine below_set ?_ GE408.out) | exact HB.out))⟩)
                 ·
                  skip
                  rintro ⟨v436, adz_v436, v440, adz_v440⟩ w97 ⟨hS_, h0_, h1_, h2_, h3_, h4_, h5_, h6_, h7_, h8_⟩
                  have n0_ : Aside0 (Kd.R (Kd.int .i64) 2 w97 w.heap.size (fun k_ => some k_ ≠ (v440 : Value).ownBlock ∧ some k_ ≠ (u16 : Value).ownBlock) v436 y435) := ⟨h0_⟩
                  have n1_ : Aside0 (Kd.R (Kd.int .i64) 2 w97 w.heap.size (fun k_ => some k_ ≠ (v436 : Value).ownBlock ∧ some k_ ≠ (u16 : Value).ownBlock) v440 y439) := ⟨h1_⟩
                  have n2_ : Aside0 (Kd.R (Kd.int .i64) 2 w97 w.heap.size (fun k_ => some k_ ≠ (v436 : Value).ownBlock ∧ some k_ ≠ (v440 : Value).ownBlock) u16 x16_1) := ⟨h2_⟩
                  have n3_ : Aside0 (∃ c_, (v436 : Value) = .slice (some adz_v436) y435.length c_) := ⟨h3_⟩
                  have n4_ : Aside0 (∃ c_, (v440 : Value) = .slice (some adz_v440) y439.length c_) := ⟨h4_⟩
                  have n5_ : Aside0 (w97.heap[gb406]? = some (.cells #[.int .i64 a1_0, .int .i64 a1_1] 56 (0, 0))) := ⟨h5_⟩
                  have n6_ : Aside0 (w97.heap[gb407]? = some (.cells #[.int .i64 a2_0, .int .i64 a2_1] 56 (0, 0))) := ⟨h6_⟩
                  have n7_ : Aside0 (w97.heap[gb408]? = some (.cells #[.int .i64 0, .int .i64 0] 56 (0, 0))) := ⟨h7_⟩
                  have n8_ : Aside0 (Below w.heap.size w w97) := ⟨h8_⟩
                  clear HO_16
                  clear BK406
                  clear BK407
                  clear BK408
                  clear HB
                  clear h0_ h1_ h2_ h3_ h4_ h5_ h6_ h7_ h8_
                  have HO437 := n0_
                  have HO441 := n1_
                  have HO_16 := n2_
                  have HA_HO437 := n3_
                  have HA_HO441 := n4_
                  have BK406 := n5_
                  have BK407 := n6_
                  have BK408 := n7_
                  have HB := n8_
                  clear n0_ n1_ n2_ n3_ n4_ n5_ n6_ n7_ n8_
                  have hHeld : w97.cell? ⟨gb406, 0, none⟩ = some (.int .i64 a1_0) ∧ w97.cell? ⟨gb406, 1, none⟩ = some (.int .i64 a1_1) ∧ w97.cell? ⟨gb407, 0, none⟩ = some (.int .i64 a2_0) ∧ w97.cell? ⟨gb407, 1, none⟩ = some (.int .i64 a2_1) := hS_
                  obtain ⟨co98, eo98⟩ := HA_HO437.out
                  clear HA_HO437
                  subst eo98
                  obtain ⟨co99, eo99⟩ := HA_HO441.out
                  clear HA_HO441
                  subst eo99
                  refine norm_ (a' := ?_) ?_ ?_
                  rotate_left
                  ·
                   simp only [putAll, Act.put, List.setIfInBounds_toArray, List.set_cons_zero, List.set_cons_succ]
                   rfl
                  refine two_ (i := 8) (j := 17) (Ni := some 93) (Nj := some 102) #[true, true, true, true, true, true, true, true, true, true, true, true, true, true, true, true, true, false, false, false, false, false, false, false] #[true, true, true, true, true, true, true, true, false, true, true, true, true, true, true, true, true, true, false, false, false, false, false, false] rfl rfl rfl rfl (two_of HT_.out (by kernel_rfl)) (by decide) (by decide) (fun K hK => ?_) (fun K hK => ?_)
                  ·
                   skip
                   (have p438 : 0 ≤ ((ji81) : Int) := of_decide_eq_true (by first | (with_reducible assumption) | assumption); have q438 : (ji81) < (y435.length : Int) := of_decide_eq_true (by first | (with_reducible assumption) | assumption); obtain ⟨ad438, e438, hx438_0⟩ := Kd.at_int (Kd.R_reads' HO437.out).2.2 (ji81) p438 q438; obtain rfl : adz_v436 = ad438 := (by injection e438))
                   refine value_ (w1 := ?_) (v := ?_) (by rfl) rfl ?_ ?_
                   rotate_left 2
                   ·
                    go_simp
                    constructor
                    ·
                     rfl
                    ·
                     rfl
                   clear hx438_0
                   refine hK.out _ _ ⟨bc BK406 0 rfl, bc BK406 1 rfl, bc BK407 0 rfl, bc BK407 1 rfl⟩ (fun hHeld => ?_)
                   clear hK K
                   refine norm_ (a' := ?_) ?_ ?_
                   rotate_left; · (show Act.put _ (some 93) _ = _; simp only [Act.put, List.setIfInBounds_toArray, List.set_cons_zero, List.set_cons_succ, i64_w, i32_w]; rfl)
                   exact norm_ (by simp only [putAll, Act.put, List.setIfInBounds_toArray, List.set_cons_zero, List.set_cons_succ] <;> rfl) (hJ4_8_13 (.slice (some adz_v436) y435.length co98, adz_v436, .slice (some adz_v440) y439.length co99, adz_v440) _ ⟨hHeld, (by (with_reducible repeat (first | apply Kd.R_alloc | apply Kd.R_drewN | apply Kd.R_drew)); exact HO437.out), (by (with_reducible repeat (first | apply Kd.R_alloc | apply Kd.R_drewN | apply Kd.R_drew)); exact HO441.out), (by (with_reducible repeat (first | apply Kd.R_alloc | apply Kd.R_drewN | apply Kd.R_drew)); exact HO_16.out), ⟨_, rfl⟩, ⟨_, rfl⟩, BK406.out, BK407.out, BK408.out, (by repeat (first | (with_reducible first | exact HB.out | apply below_alloc | apply pw_below_drewN | apply below_drew1 | refine below_set ?_ GE406.out | refine below_set ?_ GE407.out | refine below_set ?_ GE408.out) | exact HB.out))⟩)
                  ·
                   skip
                   (have p442 : 0 ≤ ((ji84) : Int) := of_decide_eq_true (by first | (with_reducible assumption) | assumption); have q442 : (ji84) < (y439.length : Int) := of_decide_eq_true (by first | (with_reducible assumption) | assumption); obtain ⟨ad442, e442, hx442_0⟩ := Kd.at_int (Kd.R_reads' HO441.out).2.2 (ji84) p442 q442; obtain rfl : adz_v440 = ad442 := (by injection e442))
                   refine value_ (w1 := ?_) (v := ?_) (by rfl) rfl ?_ ?_
                   rotate_left 2
                   ·
                    go_simp
                    constructor
                    ·
                     rfl
                    ·
                     rfl
                   clear hx442_0
                   refine hK.out _ _ ⟨bc BK406 0 rfl, bc BK406 1 rfl, bc BK407 0 rfl, bc BK407 1 rfl⟩ (fun hHeld => ?_)
                   clear hK K
                   refine norm_ (a' := ?_) ?_ ?_
                   rotate_left; · (show Act.put _ (some 102) _ = _; simp only [Act.put, List.setIfInBounds_toArray, List.set_cons_zero, List.set_cons_succ, i64_w, i32_w]; rfl)
                   exact norm_ (by simp only [putAll, Act.put, List.setIfInBounds_toArray, List.set_cons_zero, List.set_cons_succ] <;> rfl) (hJ4_13_17 (.slice (some adz_v436) y435.length co98, adz_v436, .slice (some adz_v440) y439.length co99, adz_v440) _ ⟨hHeld, (by (with_reducible repeat (first | apply Kd.R_alloc | apply Kd.R_drewN | apply Kd.R_drew)); exact HO437.out), (by (with_reducible repeat (first | apply Kd.R_alloc | apply Kd.R_drewN | apply Kd.R_drew)); exact HO441.out), (by (with_reducible repeat (first | apply Kd.R_alloc | apply Kd.R_drewN | apply Kd.R_drew)); exact HO_16.out), ⟨_, rfl⟩, ⟨_, rfl⟩, BK406.out, BK407.out, BK408.out, (by repeat (first | (with_reducible first | exact HB.out | apply below_alloc | apply pw_below_drewN | apply below_drew1 | refine below_set ?_ GE406.out | refine below_set ?_ GE407.out | refine below_set ?_ GE408.out) | exact HB.out))⟩)
                ·
                 skip
                 rintro ⟨v436, adz_v436⟩ w94 ⟨hS_, h0_, h1_, h2_, h3_, h4_, h5_, h6_⟩
                 have n0_ : Aside0 (Kd.R (Kd.int .i64) 2 w94 w.heap.size (fun k_ => some k_ ≠ (u16 : Value).ownBlock) v436 y435) := ⟨h0_⟩
                 have n1_ : Aside0 (Kd.R (Kd.int .i64) 2 w94 w.heap.size (fun k_ => some k_ ≠ (v436 : Value).ownBlock) u16 x16_1) := ⟨h1_⟩
                 have n2_ : Aside0 (∃ c_, (v436 : Value) = .slice (some adz_v436) y435.length c_) := ⟨h2_⟩
                 have n3_ : Aside0 (w94.heap[gb406]? = some (.cells #[.int .i64 a1_0, .int .i64 a1_1] 56 (0, 0))) := ⟨h3_⟩
                 have n4_ : Aside0 (w94.heap[gb407]? = some (.cells #[.int .i64 a2_0, .int .i64 a2_1] 56 (0, 0))) := ⟨h4_⟩
                 have n5_ : Aside0 (w94.heap[gb408]? = some (.cells #[.int .i64 0, .int .i64 0] 56 (0, 0))) := ⟨h5_⟩
                 have n6_ : Aside0 (Below w.heap.size w w94) := ⟨h6_⟩
                 clear HO_16
                 clear BK406
                 clear BK407
                 clear BK408
                 clear HB
                 clear h0_ h1_ h2_ h3_ h4_ h5_ h6_
                 have HO437 := n0_
                 have HO_16 := n1_
                 have HA_HO437 := n2_
                 have BK406 := n3_
                 have BK407 := n4_
                 have BK408 := n5_
                 have HB := n6_
                 clear n0_ n1_ n2_ n3_ n4_ n5_ n6_
                 have hHeld : w94.cell? ⟨gb406, 0, none⟩ = some (.int .i64 a1_0) ∧ w94.cell? ⟨gb406, 1, none⟩ = some (.int .i64 a1_1) ∧ w94.cell? ⟨gb407, 0, none⟩ = some (.int .i64 a2_0) ∧ w94.cell? ⟨gb407, 1, none⟩ = some (.int .i64 a2_1) := hS_
                 obtain ⟨co95, eo95⟩ := HA_HO437.out
                 clear HA_HO437
                 subst eo95
                 refine norm_ (a' := ?_) ?_ ?_
                 rotate_left
                 ·
                  simp only [putAll, Act.put, List.setIfInBounds_toArray, List.set_cons_zero, List.set_cons_succ]
                  rfl
                 refine one_ (i := 13) (N := some 98) #[true, true, true, true, true, true, true, true, true, true, true, true, true, true, true, true, false, false, false, false, false, false, false, false] rfl rfl (one_of HT_.out (by kernel_rfl)) (by decide) (fun K hK => ?_)
                 refine Kd.R_lit_step (Kd.int .i64) _ 2 ?hg (N := 98) ?hd (xs := ([a2_0, a2_1] : List Int)) (inner := [.int .i64 a2_0, .int .i64 a2_1]) (ok := fun _ => True) (okp := fun _ => True) ?hr ?hp (fun _ hk => hk) trivial (Below.refl _ _) (Nat.le_refl _) (by simp) ?_; (case hd => rfl); (case hg => rfl); (case hr => first | (go_simp; done) | (go_simp; rfl)); (case hp => exact (Reps.one (show Kd.M (Kd.int .i64) _ _ _ a2_0 [.int .i64 a2_0] from rfl) (Reps.one (show Kd.M (Kd.int .i64) _ _ _ a2_1 [.int .i64 a2_1] from rfl) (Reps.none _ _))))
                 intro v440 w96 ho97 hb hg_ hnew_
                 clear hg_ hnew_
                 (first | rw [← Ny439.out] at ho97 | (simp only [Int.reduceToNat] at ho97; rw [← Ny439.out] at ho97))
                 have HO441 := Aside0.mk (Kd.R_lower (Kd.R_new' (Kd.R_new' ho97 (Kd.R_lt (by (with_reducible repeat (first | apply Kd.R_alloc | apply Kd.R_drewN | apply Kd.R_drew)); exact HO_16.out))) (Kd.R_lt (by (with_reducible repeat (first | apply Kd.R_alloc | apply Kd.R_drewN | apply Kd.R_drew)); exact HO437.out))) (below_size HB.out))
                 replace HO_16 := Aside0.mk (Kd.R_elder' (by (with_reducible repeat (first | apply Kd.R_alloc | apply Kd.R_drewN | apply Kd.R_drew)); exact HO_16.out) (Kd.R_base ho97) hb); replace HO437 := Aside0.mk (Kd.R_elder' (by (with_reducible repeat (first | apply Kd.R_alloc | apply Kd.R_drewN | apply Kd.R_drew)); exact HO437.out) (Kd.R_base ho97) hb); replace BK406 := bb BK406 hb rfl; replace BK407 := bb BK407 hb rfl; replace BK408 := bb BK408 hb rfl; replace HB := hst HB hb rfl
                 clear hb ho97
                 obtain ⟨Ao98, co98, eo98⟩ := Kd.R_slice HO441.out
                 subst eo98
                 obtain ⟨ado98, fo98, _⟩ := Kd.at_int (Kd.R_reads' HO441.out).2.2 0 (by decide) (by rw [Ny439.out]; simp)
                 cases fo98
                 refine hK.out _ _ ⟨bc BK406 0 rfl, bc BK406 1 rfl, bc BK407 0 rfl, bc BK407 1 rfl⟩ (fun hHeld => ?_)
                 clear hK K
                 refine norm_ (a' := ?_) ?_ ?_
                 rotate_left; · (show Act.put _ (some 98) _ = _; simp only [Act.put, List.setIfInBounds_toArray, List.set_cons_zero, List.set_cons_succ, i64_w, i32_w]; rfl)
                 refine pure_ (i := 16) (N := some 101) (v := ?_) (a' := ?_) #[true, true, true, true, true, true, true, true, true, true, true, true, true, true, true, true, true, false, false, false, false, false, false, false] rfl rfl (any_of HT_.out (by kernel_rfl)) (fun _ _ _ h => h) (Or.inl ⟨by rfl, ?_⟩) ?_ ?_
                 rotate_left; · (intro w'; go_simp; with_reducible rfl)
                 rotate_left; · (simp only [Act.put, List.setIfInBounds_toArray, List.set_cons_zero, List.set_cons_succ, i64_w, i32_w]; rfl)
                 exact norm_ (by simp only [putAll, Act.put, List.setIfInBounds_toArray, List.set_cons_zero, List.set_cons_succ] <;> rfl) (hJ4_8_13 (.slice (some adz_v436) y435.length co95, adz_v436, .slice (some ado98) y439.length co98, ado98) _ ⟨hHeld, (by (with_reducible repeat (first | apply Kd.R_alloc | apply Kd.R_drewN | apply Kd.R_drew)); exact Kd.R_mono HO437.out (fun _ hk => ⟨hk.2, hk.1⟩)), (by (with_reducible repeat (first | apply Kd.R_alloc | apply Kd.R_drewN | apply Kd.R_drew)); exact Kd.R_mono HO441.out (fun _ hk => ⟨hk.2, hk.1.2⟩)), (by (with_reducible repeat (first | apply Kd.R_alloc | apply Kd.R_drewN | apply Kd.R_drew)); exact HO_16.out), ⟨_, rfl⟩, ⟨_, rfl⟩, BK406.out, BK407.out, BK408.out, (by repeat (first | (with_reducible first | exact HB.out | apply below_alloc | apply pw_below_drewN | apply below_drew1 | refine below_set ?_ GE406.out | refine below_set ?_ GE407.out | refine below_set ?_ GE408.out) | exact HB.out))⟩)
               ·
                skip
                rintro ⟨v436, adz_v436, v440, adz_v440⟩ w97 ⟨hS_, h0_, h1_, h2_, h3_, h4_, h5_, h6_, h7_, h8_⟩
                have n0_ : Aside0 (Kd.R (Kd.int .i64) 2 w97 w.heap.size (fun k_ => some k_ ≠ (v440 : Value).ownBlock ∧ some k_ ≠ (u16 : Value).ownBlock) v436 y435) := ⟨h0_⟩
                have n1_ : Aside0 (Kd.R (Kd.int .i64) 2 w97 w.heap.size (fun k_ => some k_ ≠ (v436 : Value).ownBlock ∧ some k_ ≠ (u16 : Value).ownBlock) v440 y439) := ⟨h1_⟩
                have n2_ : Aside0 (Kd.R (Kd.int .i64) 2 w97 w.heap.size (fun k_ => some k_ ≠ (v436 : Value).ownBlock ∧ some k_ ≠ (v440 : Value).ownBlock) u16 x16_1) := ⟨h2_⟩
                have n3_ : Aside0 (∃ c_, (v436 : Value) = .slice (some adz_v436) y435.length c_) := ⟨h3_⟩
                have n4_ : Aside0 (∃ c_, (v440 : Value) = .slice (some adz_v440) y439.length c_) := ⟨h4_⟩
                have n5_ : Aside0 (w97.heap[gb406]? = some (.cells #[.int .i64 a1_0, .int .i64 a1_1] 56 (0, 0))) := ⟨h5_⟩
                have n6_ : Aside0 (w97.heap[gb407]? = some (.cells #[.int .i64 a2_0, .int .i64 a2_1] 56 (0, 0))) := ⟨h6_⟩
                have n7_ : Aside0 (w97.heap[gb408]? = some (.cells #[.int .i64 0, .int .i64 0] 56 (0, 0))) := ⟨h7_⟩
                have n8_ : Aside0 (Below w.heap.size w w97) := ⟨h8_⟩
                clear HO_16
                clear BK406
                clear BK407
                clear BK408
                clear HB
                clear h0_ h1_ h2_ h3_ h4_ h5_ h6_ h7_ h8_
                have HO437 := n0_
                have HO441 := n1_
                have HO_16 := n2_
                have HA_HO437 := n3_
                have HA_HO441 := n4_
                have BK406 := n5_
                have BK407 := n6_
                have BK408 := n7_
                have HB := n8_
                clear n0_ n1_ n2_ n3_ n4_ n5_ n6_ n7_ n8_
                have hHeld : w97.cell? ⟨gb406, 0, none⟩ = some (.int .i64 a1_0) ∧ w97.cell? ⟨gb406, 1, none⟩ = some (.int .i64 a1_1) ∧ w97.cell? ⟨gb407, 0, none⟩ = some (.int .i64 a2_0) ∧ w97.cell? ⟨gb407, 1, none⟩ = some (.int .i64 a2_1) := hS_
                obtain ⟨co98, eo98⟩ := HA_HO437.out
                clear HA_HO437
                subst eo98
                obtain ⟨co99, eo99⟩ := HA_HO441.out
                clear HA_HO441
                subst eo99
                refine norm_ (a' := ?_) ?_ ?_
                rotate_left
                ·
                 simp only [putAll, Act.put, List.setIfInBounds_toArray, List.set_cons_zero, List.set_cons_succ]
                 rfl
                refine one_ (i := 8) (N := some 93) #[true, true, true, true, true, true, true, true, true, true, true, true, true, true, true, true, true, true, false, false, false, false, false, false] rfl rfl (one_of HT_.out (by kernel_rfl)) (by decide) (fun K hK => ?_)
                (have p438 : 0 ≤ ((ji81) : Int) := of_decide_eq_true (by first | (with_reducible assumption) | assumption); have q438 : (ji81) < (y435.length : Int) := of_decide_eq_true (by first | (with_reducible assumption) | assumption); obtain ⟨ad438, e438, hx438_0⟩ := Kd.at_int (Kd.R_reads' HO437.out).2.2 (ji81) p438 q438; obtain rfl : adz_v436 = ad438 := (by injection e438))
                refine value_ (w1 := ?_) (v := ?_) (by rfl) rfl ?_ ?_
                rotate_left 2
                ·
                 go_simp
                 constructor
                 ·
                  rfl
                 ·
                  rfl
                clear hx438_0
                refine hK.out _ _ ⟨bc BK406 0 rfl, bc BK406 1 rfl, bc BK407 0 rfl, bc BK407 1 rfl⟩ (fun hHeld => ?_)
                clear hK K
                refine norm_ (a' := ?_) ?_ ?_
                rotate_left; · (show Act.put _ (some 93) _ = _; simp only [Act.put, List.setIfInBounds_toArray, List.set_cons_zero, List.set_cons_succ, i64_w, i32_w]; rfl)
                exact norm_ (by simp only [putAll, Act.put, List.setIfInBounds_toArray, List.set_cons_zero, List.set_cons_succ] <;> rfl) (hJ4_8_13_17 (.slice (some adz_v436) y435.length co98, adz_v436, .slice (some adz_v440) y439.length co99, adz_v440) _ ⟨hHeld, (by (with_reducible repeat (first | apply Kd.R_alloc | apply Kd.R_drewN | apply Kd.R_drew)); exact HO437.out), (by (with_reducible repeat (first | apply Kd.R_alloc | apply Kd.R_drewN | apply Kd.R_drew)); exact HO441.out), (by (with_reducible repeat (first | apply Kd.R_alloc | apply Kd.R_drewN | apply Kd.R_drew)); exact HO_16.out), ⟨_, rfl⟩, ⟨_, rfl⟩, BK406.out, BK407.out, BK408.out, (by repeat (first | (with_reducible first | exact HB.out | apply below_alloc | apply pw_below_drewN | apply below_drew1 | refine below_set ?_ GE406.out | refine below_set ?_ GE407.out | refine below_set ?_ GE408.out) | exact HB.out))⟩)
              ·
               skip
               rintro ⟨v436, adz_v436, v440, adz_v440⟩ w97 ⟨hS_, h0_, h1_, h2_, h3_, h4_, h5_, h6_, h7_, h8_⟩
               have n0_ : Aside0 (Kd.R (Kd.int .i64) 2 w97 w.heap.size (fun k_ => some k_ ≠ (v440 : Value).ownBlock ∧ some k_ ≠ (u16 : Value).ownBlock) v436 y435) := ⟨h0_⟩
               have n1_ : Aside0 (Kd.R (Kd.int .i64) 2 w97 w.heap.size (fun k_ => some k_ ≠ (v436 : Value).ownBlock ∧ some k_ ≠ (u16 : Value).ownBlock) v440 y439) := ⟨h1_⟩
               have n2_ : Aside0 (Kd.R (Kd.int .i64) 2 w97 w.heap.size (fun k_ => some k_ ≠ (v436 : Value).ownBlock ∧ some k_ ≠ (v440 : Value).ownBlock) u16 x16_1) := ⟨h2_⟩
               have n3_ : Aside0 (∃ c_, (v436 : Value) = .slice (some adz_v436) y435.length c_) := ⟨h3_⟩
               have n4_ : Aside0 (∃ c_, (v440 : Value) = .slice (some adz_v440) y439.length c_) := ⟨h4_⟩
               have n5_ : Aside0 (w97.heap[gb406]? = some (.cells #[.int .i64 a1_0, .int .i64 a1_1] 56 (0, 0))) := ⟨h5_⟩
               have n6_ : Aside0 (w97.heap[gb407]? = some (.cells #[.int .i64 a2_0, .int .i64 a2_1] 56 (0, 0))) := ⟨h6_⟩
               have n7_ : Aside0 (w97.heap[gb408]? = some (.cells #[.int .i64 0, .int .i64 0] 56 (0, 0))) := ⟨h7_⟩
               have n8_ : Aside0 (Below w.heap.size w w97) := ⟨h8_⟩
               clear HO_16
               clear BK406
               clear BK407
               clear BK408
               clear HB
               clear h0_ h1_ h2_ h3_ h4_ h5_ h6_ h7_ h8_
               have HO437 := n0_
               have HO441 := n1_
               have HO_16 := n2_
               have HA_HO437 := n3_
               have HA_HO441 := n4_
               have BK406 := n5_
               have BK407 := n6_
               have BK408 := n7_
               have HB := n8_
               clear n0_ n1_ n2_ n3_ n4_ n5_ n6_ n7_ n8_
               have hHeld : w97.cell? ⟨gb406, 0, none⟩ = some (.int .i64 a1_0) ∧ w97.cell? ⟨gb406, 1, none⟩ = some (.int .i64 a1_1) ∧ w97.cell? ⟨gb407, 0, none⟩ = some (.int .i64 a2_0) ∧ w97.cell? ⟨gb407, 1, none⟩ = some (.int .i64 a2_1) := hS_
               obtain ⟨co98, eo98⟩ := HA_HO437.out
               clear HA_HO437
               subst eo98
               obtain ⟨co99, eo99⟩ := HA_HO441.out
               clear HA_HO441
               subst eo99
               refine norm_ (a' := ?_) ?_ ?_
               rotate_left
               ·
                simp only [putAll, Act.put, List.setIfInBounds_toArray, List.set_cons_zero, List.set_cons_succ]
                rfl
               refine one_ (i := 17) (N := some 102) #[true, true, true, true, true, true, true, true, true, true, true, true, true, true, true, true, true, true, false, false, false, false, false, false] rfl rfl (one_of HT_.out (by kernel_rfl)) (by decide) (fun K hK => ?_)
               (have p442 : 0 ≤ ((ji84) : Int) := of_decide_eq_true (by first | (with_reducible assumption) | assumption); have q442 : (ji84) < (y439.length : Int) := of_decide_eq_true (by first | (with_reducible assumption) | assumption); obtain ⟨ad442, e442, hx442_0⟩ := Kd.at_int (Kd.R_reads' HO441.out).2.2 (ji84) p442 q442; obtain rfl : adz_v440 = ad442 := (by injection e442))
               refine value_ (w1 := ?_) (v := ?_) (by rfl) rfl ?_ ?_
               rotate_left 2
               ·
                go_simp
                constructor
                ·
                 rfl
                ·
                 rfl
               clear hx442_0
               refine hK.out _ _ ⟨bc BK406 0 rfl, bc BK406 1 rfl, bc BK407 0 rfl, bc BK407 1 rfl⟩ (fun hHeld => ?_)
               clear hK K
               refine norm_ (a' := ?_) ?_ ?_
               rotate_left; · (show Act.put _ (some 102) _ = _; simp only [Act.put, List.setIfInBounds_toArray, List.set_cons_zero, List.set_cons_succ, i64_w, i32_w]; rfl)
               exact norm_ (by simp only [putAll, Act.put, List.setIfInBounds_toArray, List.set_cons_zero, List.set_cons_succ] <;> rfl) (hJ4_8_13_17 (.slice (some adz_v436) y435.length co98, adz_v436, .slice (some adz_v440) y439.length co99, adz_v440) _ ⟨hHeld, (by (with_reducible repeat (first | apply Kd.R_alloc | apply Kd.R_drewN | apply Kd.R_drew)); exact HO437.out), (by (with_reducible repeat (first | apply Kd.R_alloc | apply Kd.R_drewN | apply Kd.R_drew)); exact HO441.out), (by (with_reducible repeat (first | apply Kd.R_alloc | apply Kd.R_drewN | apply Kd.R_drew)); exact HO_16.out), ⟨_, rfl⟩, ⟨_, rfl⟩, BK406.out, BK407.out, BK408.out, (by repeat (first | (with_reducible first | exact HB.out | apply below_alloc | apply pw_below_drewN | apply below_drew1 | refine below_set ?_ GE406.out | refine below_set ?_ GE407.out | refine below_set ?_ GE408.out) | exact HB.out))⟩)
             rintro ⟨v436, adz_v436, v440, adz_v440⟩ w97 ⟨hS_, h0_, h1_, h2_, h3_, h4_, h5_, h6_, h7_, h8_⟩
             have n0_ : Aside0 (Kd.R (Kd.int .i64) 2 w97 w.heap.size (fun k_ => some k_ ≠ (v440 : Value).ownBlock ∧ some k_ ≠ (u16 : Value).ownBlock) v436 y435) := ⟨h0_⟩
             have n1_ : Aside0 (Kd.R (Kd.int .i64) 2 w97 w.heap.size (fun k_ => some k_ ≠ (v436 : Value).ownBlock ∧ some k_ ≠ (u16 : Value).ownBlock) v440 y439) := ⟨h1_⟩
             have n2_ : Aside0 (Kd.R (Kd.int .i64) 2 w97 w.heap.size (fun k_ => some k_ ≠ (v436 : Value).ownBlock ∧ some k_ ≠ (v440 : Value).ownBlock) u16 x16_1) := ⟨h2_⟩
             have n3_ : Aside0 (∃ c_, (v436 : Value) = .slice (some adz_v436) y435.length c_) := ⟨h3_⟩
             have n4_ : Aside0 (∃ c_, (v440 : Value) = .slice (some adz_v440) y439.length c_) := ⟨h4_⟩
             have n5_ : Aside0 (w97.heap[gb406]? = some (.cells #[.int .i64 a1_0, .int .i64 a1_1] 56 (0, 0))) := ⟨h5_⟩
             have n6_ : Aside0 (w97.heap[gb407]? = some (.cells #[.int .i64 a2_0, .int .i64 a2_1] 56 (0, 0))) := ⟨h6_⟩
             have n7_ : Aside0 (w97.heap[gb408]? = some (.cells #[.int .i64 0, .int .i64 0] 56 (0, 0))) := ⟨h7_⟩
             have n8_ : Aside0 (Below w.heap.size w w97) := ⟨h8_⟩
             clear HO_16
             clear BK406
             clear BK407
             clear BK408
             clear HB
             clear h0_ h1_ h2_ h3_ h4_ h5_ h6_ h7_ h8_
             have HO437 := n0_
             have HO441 := n1_
             have HO_16 := n2_
             have HA_HO437 := n3_
             have HA_HO441 := n4_
             have BK406 := n5_
             have BK407 := n6_
             have BK408 := n7_
             have HB := n8_
             clear n0_ n1_ n2_ n3_ n4_ n5_ n6_ n7_ n8_
             have hHeld : w97.cell? ⟨gb406, 0, none⟩ = some (.int .i64 a1_0) ∧ w97.cell? ⟨gb406, 1, none⟩ = some (.int .i64 a1_1) ∧ w97.cell? ⟨gb407, 0, none⟩ = some (.int .i64 a2_0) ∧ w97.cell? ⟨gb407, 1, none⟩ = some (.int .i64 a2_1) := hS_
             obtain ⟨co98, eo98⟩ := HA_HO437.out
             clear HA_HO437
             subst eo98
             obtain ⟨co99, eo99⟩ := HA_HO441.out
             clear HA_HO441
             subst eo99
             refine norm_ (a' := ?_) ?_ ?_
             rotate_left
             ·
              simp only [putAll, Act.put, List.setIfInBounds_toArray, List.set_cons_zero, List.set_cons_succ]
              rfl
             refine one_ (i := 18) (N := some 103) #[true, true, true, true, true, true, true, true, true, true, true, true, true, true, true, true, true, true, true, false, false, false, false, false] rfl rfl (one_of HT_.out (by kernel_rfl)) (by decide) (fun K hK => ?_)
             refine goes_ Try.func78 (by kernel_rfl) rfl #[.int .i64 (rd y435 (ji81)), .int .i64 (rd y439 (ji84))] (by rfl) rfl rfl (by (try simp only [List.map_toArray, List.map_cons, List.map_nil]); first | done | (simp only [hji81, hji84]; rfl) | rfl | (simp only [List.length_drop, List.length_take]; rfl)) ?_
             with_reducible refine (avermentref10_times.calls k1 (rd y435 (ji81)) (rd y439 (ji84)) t443 t444 _ A87.out).mono ?_
             rintro e w' ⟨rfl, ⟨nd, rfl⟩⟩
             refine ⟨_, rfl, ?_⟩
             refine hK.out _ _ ⟨bc BK406 0 rfl, bc BK406 1 rfl, bc BK407 0 rfl, bc BK407 1 rfl⟩ (fun hHeld => ?_)
             clear hK K
             refine norm_ (a' := ?_) ?_ ?_
             rotate_left; · (show Act.put _ (some 103) _ = _; simp only [Act.put, List.setIfInBounds_toArray, List.set_cons_zero, List.set_cons_succ, i64_w, i32_w]; rfl)
             refine pure_ (i := 19) (N := some 84) (v := ?_) (a' := ?_) #[true, true, true, true, true, true, true, true, true, true, true, true, true, true, true, true, true, true, true, true, false, false, false, false] rfl rfl (any_of HT_.out (by kernel_rfl)) (fun _ _ _ h => h) (Or.inl ⟨by rfl, ?_⟩) ?_ ?_
             rotate_left; · (intro w'; go_simp; with_reducible rfl)
             rotate_left; · (simp only [Act.put, List.setIfInBounds_toArray, List.set_cons_zero, List.set_cons_succ, i64_w, i32_w]; rfl)
             refine pure_ (i := 20) (N := some 104) (v := ?_) (a' := ?_) #[true, true, true, true, true, true, true, true, true, true, true, true, true, true, true, true, true, true, true, true, true, false, false, false] rfl rfl (any_of HT_.out (by kernel_rfl)) (fun _ _ _ h => h) (Or.inl ⟨by rfl, ?_⟩) ?_ ?_
             rotate_left; · (intro w'; go_simp; with_reducible rfl)
             rotate_left; · (simp only [Act.put, List.setIfInBounds_toArray, List.set_cons_zero, List.set_cons_succ, i64_w, i32_w]; rfl)
             refine pure_ (i := 21) (N := some 105) (v := ?_) (a' := ?_) #[true, true, true, true, true, true, true, true, true, true, true, true, true, true, true, true, true, true, true, true, true, true, false, false] rfl rfl (any_of HT_.out (by kernel_rfl)) (fun _ _ _ h => h) (Or.inl ⟨by rfl, ?_⟩) ?_ ?_
             rotate_left; · (intro w'; go_simp; with_reducible rfl)
             rotate_left; · (simp only [Act.put, List.setIfInBounds_toArray, List.set_cons_zero, List.set_cons_succ, i64_w, i32_w]; rfl)
             refine pure_ (i := 22) (N := some 19) (v := ?_) (a' := ?_) #[true, true, true, true, true, true, true, true, true, true, true, true, true, true, true, true, true, true, true, true, true, true, true, false] rfl rfl (any_of HT_.out (by kernel_rfl)) (fun _ _ _ h => h) (Or.inl ⟨by rfl, ?_⟩) ?_ ?_
             rotate_left; · (intro w'; go_simp; with_reducible rfl)
             rotate_left; · (simp only [Act.put, List.setIfInBounds_toArray, List.set_cons_zero, List.set_cons_succ, i64_w, i32_w]; rfl)
             refine pure_ (i := 23) (N := some 20) (v := ?_) (a' := ?_) #[true, true, true, true, true, true, true, true, true, true, true, true, true, true, true, true, true, true, true, true, true, true, true, true] rfl rfl (any_of HT_.out (by kernel_rfl)) (fun _ _ _ h => h) (Or.inl ⟨by rfl, ?_⟩) ?_ ?_
             rotate_left; · (intro w'; go_simp; with_reducible rfl)
             rotate_left; · (simp only [Act.put, List.setIfInBounds_toArray, List.set_cons_zero, List.set_cons_succ, i64_w, i32_w]; rfl)
             refine done_ (done_of HT_.out (by kernel_rfl)) ?_
             try go_wp2_with (first | ((with_reducible refine gate_builtin (b := .append) (xs := #[.tmp 106, .tmp 108]) rfl ?_); at_builtin; refine Kd.R_append (Kd.int .i64) (w0 := w) w.heap.size rfl (.tmp 106) (.tmp 108) 65 2 (.int .i64 0) 8 rfl Try.underlying65 info2 rfl (by decide) (by omega) u16 x16_1 t443 [.int .i64 t443] (fun k_ => some k_ ≠ (.slice (some adz_v436) y435.length co98 : Value).ownBlock ∧ some k_ ≠ (.slice (some adz_v440) y439.length co99 : Value).ownBlock) (fun _ => False) rfl rfl ?aP (fun _ hk => hk.elim) ?aF ?aO ?aB ?aS ?aL ?_; (case aP => exact rfl); (case aB => exact (by repeat (first | (with_reducible first | exact HB.out | apply below_alloc | apply pw_below_drewN | apply below_drew1 | refine below_set ?_ GE406.out | refine below_set ?_ GE407.out | refine below_set ?_ GE408.out) | exact HB.out))); (case aF => exact (fun k_ hk => ⟨Kd.fresh' (Kd.R_lt (by (with_reducible repeat (first | apply Kd.R_alloc | apply Kd.R_drewN | apply Kd.R_drew)); exact HO437.out)) k_ hk, Kd.fresh' (Kd.R_lt (by (with_reducible repeat (first | apply Kd.R_alloc | apply Kd.R_drewN | apply Kd.R_drew)); exact HO441.out)) k_ hk⟩)); (case aO => exact (by (with_reducible repeat (first | apply Kd.R_alloc | apply Kd.R_drewN | apply Kd.R_drew)); exact HO_16.out)); (case aS => exact (below_size (by repeat (first | (with_reducible first | exact HB.out | apply below_alloc | apply pw_below_drewN | apply below_drew1 | refine below_set ?_ GE406.out | refine below_set ?_ GE407.out | refine below_set ?_ GE408.out) | exact HB.out)))); (case aL => have := LMc88.out; omega); intro v446 w100 ho hb hg hat; rw [← Ny445.out] at ho; have HO447 := Aside0.mk (ho); replace BK406 := Aside0.mk (blk_grown (g := gb406) (o := .cells #[.int .i64 a1_0, .int .i64 a1_1] 56 (0, 0)) (by (with_reducible repeat (first | refine blk_drewN ?_ _ | refine blk_drew ?_ | refine blk_alloc ?_ _)); exact BK406.out) hg (Kd.R_ne HO_16.out BK406.out (by decide))); replace BK407 := Aside0.mk (blk_grown (g := gb407) (o := .cells #[.int .i64 a2_0, .int .i64 a2_1] 56 (0, 0)) (by (with_reducible repeat (first | refine blk_drewN ?_ _ | refine blk_drew ?_ | refine blk_alloc ?_ _)); exact BK407.out) hg (Kd.R_ne HO_16.out BK407.out (by decide))); replace BK408 := Aside0.mk (blk_grown (g := gb408) (o := .cells #[.int .i64 0, .int .i64 0] 56 (0, 0)) (by (with_reducible repeat (first | refine blk_drewN ?_ _ | refine blk_drew ?_ | refine blk_alloc ?_ _)); exact BK408.out) hg (Kd.R_ne HO_16.out BK408.out (by decide))); replace HO437 := Aside0.mk (Kd.R_after (ok := (fun k_ => some k_ ≠ (.slice (some adz_v440) y439.length co99 : Value).ownBlock)) (by (with_reducible repeat (first | apply Kd.R_alloc | apply Kd.R_drewN | apply Kd.R_drew)); exact HO437.out) hg hat); replace HO441 := Aside0.mk (Kd.R_after (ok := (fun k_ => some k_ ≠ (.slice (some adz_v436) y435.length co98 : Value).ownBlock)) (by (with_reducible repeat (first | apply Kd.R_alloc | apply Kd.R_drewN | apply Kd.R_drew)); exact HO441.out) hg hat); replace HB := Aside0.mk (hb); clear HO_16; clear ho hb hg hat))
             go_roundg k1
             case measure => have := HK1.out; omega
             case rel => exact ⟨(y445), (t444), (wrap64 (x18_1 + 1)), (by first | rfl | (simp; done) | (simp [*]; done)), (by first | rfl | (simp; done) | (simp [*]; done)), H', ⟨by have := HK1.out; omega⟩, ⟨by (with_reducible repeat (first | apply Kd.R_alloc | apply Kd.R_drewN | apply Kd.R_drew)); exact Kd.R_mono HO447.out (fun _ hk => trivial)⟩, ⟨by (with_reducible repeat (first | refine blk_drewN ?_ _ | refine blk_drew ?_ | refine blk_alloc ?_ _)); exact BK406.out⟩, ⟨by (with_reducible repeat (first | refine blk_drewN ?_ _ | refine blk_drew ?_ | refine blk_alloc ?_ _)); exact BK407.out⟩, ⟨by (with_reducible repeat (first | refine blk_drewN ?_ _ | refine blk_drew ?_ | refine blk_alloc ?_ _)); exact BK408.out⟩, ⟨by repeat (first | (with_reducible first | exact HB.out | apply below_alloc | apply pw_below_drewN | apply below_drew1 | refine below_set ?_ GE406.out | refine below_set ?_ GE407.out | refine below_set ?_ GE408.out) | exact HB.out)⟩⟩
            ·
             replace c89 := Bool.eq_false_iff.mpr c89
             subst c89
             rw [if_neg (show ¬ (false = true) by decide)] at H
             have H' := Aside0.mk H
             clear H
             try go_wp2
             have pi438 : (0 ≤ ((ji81) : Int)) = True := eq_true (of_decide_eq_true (by first | (with_reducible assumption) | assumption))
             have qi438 : ((ji81) < (y435.length : Int)) = True := eq_true (of_decide_eq_true (by first | (with_reducible assumption) | assumption))
             have pi442 : (0 ≤ ((ji84) : Int)) = True := eq_true (of_decide_eq_true (by first | (with_reducible assumption) | assumption))
             have qi442 : ((ji84) < (y439.length : Int)) = True := eq_true (of_decide_eq_true (by first | (with_reducible assumption) | assumption))
             replace HO_16 := Aside0.mk (Kd.R_drew HO_16.out); replace BK406 := Aside0.mk (blk_drew BK406.out); replace BK407 := Aside0.mk (blk_drew BK407.out); replace BK408 := Aside0.mk (blk_drew BK408.out); replace HB := Aside0.mk (below_drew1 HB.out)
             refine start_ (n := 24) (S := fun w' => w'.cell? ⟨gb406, 0, none⟩ = some (.int .i64 a1_0) ∧ w'.cell? ⟨gb406, 1, none⟩ = some (.int .i64 a1_1) ∧ w'.cell? ⟨gb407, 0, none⟩ = some (.int .i64 a2_0) ∧ w'.cell? ⟨gb407, 1, none⟩ = some (.int .i64 a2_1)) (ds := []) #[false, false, false, false, false, false, false, false, false, false, false, false, false, false, false, false, false, false, false, false, false, false, false, false] (by kernel_rfl) rfl rfl ⟨bc BK406 0 rfl, bc BK406 1 rfl, bc BK407 0 rfl, bc BK407 1 rfl⟩ (fun hHeld => ?_); refine with_tabW avermentref10_Two.tab16 avermentref10_Two.bits16 (fun HT_ HW_ => ?_)
             generalize wr.drew = w101 at HO_16 BK406 BK407 BK408 HB hHeld ⊢
             refine pure_ (i := 0) (N := some 85) (v := ?_) (a' := ?_) #[true, false, false, false, false, false, false, false, false, false, false, false, false, false, false, false, false, false, false, false, false, false, false, false] rfl rfl (any_of HT_.out (by kernel_rfl)) (fun _ _ _ h => h) (Or.inl ⟨by rfl, ?_⟩) ?_ ?_
             rotate_left; · (intro w'; go_simp; with_reducible rfl)
             rotate_left; · (simp only [Act.put, List.setIfInBounds_toArray, List.set_cons_zero, List.set_cons_succ, i64_w, i32_w]; rfl)
             refine pure_ (i := 2) (N := some 87) (v := ?_) (a' := ?_) #[true, false, true, false, false, false, false, false, false, false, false, false, false, false, false, false, false, false, false, false, false, false, false, false] rfl rfl (any_of HT_.out (by kernel_rfl)) (fun _ _ _ h => h) (Or.inl ⟨by rfl, ?_⟩) ?_ ?_
             rotate_left; · (intro w'; go_simp; with_reducible rfl)
             rotate_left; · (simp only [Act.put, List.setIfInBounds_toArray, List.set_cons_zero, List.set_cons_succ, i64_w, i32_w]; rfl)
             refine pure_ (i := 5) (N := some 90) (v := ?_) (a' := ?_) #[true, false, true, false, false, true, false, false, false, false, false, false, false, false, false, false, false, false, false, false, false, false, false, false] rfl rfl (any_of HT_.out (by kernel_rfl)) (fun _ _ _ h => h) (Or.inl ⟨by rfl, ?_⟩) ?_ ?_
             rotate_left; · (intro w'; go_simp; with_reducible rfl)
             rotate_left; · (simp only [Act.put, List.setIfInBounds_toArray, List.set_cons_zero, List.set_cons_succ, i64_w, i32_w]; rfl)
             refine pure_ (i := 6) (N := some 91) (v := ?_) (a' := ?_) #[true, false, true, false, false, true, true, false, false, false, false, false, false, false, false, false, false, false, false, false, false, false, false, false] rfl rfl (any_of HT_.out (by kernel_rfl)) (fun _ _ _ h => h) (Or.inl ⟨by rfl, ?_⟩) ?_ ?_
             rotate_left; · (intro w'; go_simp; with_reducible rfl)
             rotate_left; · (simp only [Act.put, List.setIfInBounds_toArray, List.set_cons_zero, List.set_cons_succ, i64_w, i32_w]; rfl)
             refine pure_ (i := 9) (N := some 94) (v := ?_) (a' := ?_) #[true, false, true, false, false, true, true, false, false, true, false, false, false, false, false, false, false, false, false, false, false, false, false, false] rfl rfl (any_of HT_.out (by kernel_rfl)) (fun _ _ _ h => h) (Or.inl ⟨by rfl, ?_⟩) ?_ ?_
             rotate_left; · (intro w'; go_simp; with_reducible rfl)
             rotate_left; · (simp only [Act.put, List.setIfInBounds_toArray, List.set_cons_zero, List.set_cons_succ, i64_w, i32_w]; rfl)
             refine pure_ (i := 11) (N := some 96) (v := ?_) (a' := ?_) #[true, false, true, false, false, true, true, false, false, true, false, true, false, false, false, false, false, false, false, false, false, false, false, false] rfl rfl (any_of HT_.out (by kernel_rfl)) (fun _ _ _ h => h) (Or.inl ⟨by rfl, ?_⟩) ?_ ?_
             rotate_left; · (intro w'; go_simp; with_reducible rfl)
             rotate_left; · (simp only [Act.put, List.setIfInBounds_toArray, List.set_cons_zero, List.set_cons_succ, i64_w, i32_w]; rfl)
             refine pure_ (i := 14) (N := some 99) (v := ?_) (a' := ?_) #[true, false, true, false, false, true, true, false, false, true, false, true, false, false, true, false, false, false, false, false, false, false, false, false] rfl rfl (any_of HT_.out (by kernel_rfl)) (fun _ _ _ h => h) (Or.inl ⟨by rfl, ?_⟩) ?_ ?_
             rotate_left; · (intro w'; go_simp; with_reducible rfl)
             rotate_left; · (simp only [Act.put, List.setIfInBounds_toArray, List.set_cons_zero, List.set_cons_succ, i64_w, i32_w]; rfl)
             refine pure_ (i := 15) (N := some 100) (v := ?_) (a' := ?_) #[true, false, true, false, false, true, true, false, false, true, false, true, false, false, true, true, false, false, false, false, false, false, false, false] rfl rfl (any_of HT_.out (by kernel_rfl)) (fun _ _ _ h => h) (Or.inl ⟨by rfl, ?_⟩) ?_ ?_
             rotate_left; · (intro w'; go_simp; with_reducible rfl)
             rotate_left; · (simp only [Act.put, List.setIfInBounds_toArray, List.set_cons_zero, List.set_cons_succ, i64_w, i32_w]; rfl)
             refine take_ (i := 1) (N := some 86) (v := ?_) (a' := ?_) #[true, true, true, false, false, true, true, false, false, true, false, true, false, false, true, true, false, false, false, false, false, false, false, false] rfl rfl (take_ofW HT_.out HW_.out (by kernel_rfl)) (fun _ _ _ h => h) (Or.inl ⟨by rfl, ?_⟩) hHeld ?_ ?_
             rotate_left
             ·
              rintro w' ⟨s0, s1, s2, s3⟩
              go_simp
              with_reducible rfl
             rotate_left
             ·
              simp only [Act.put, List.setIfInBounds_toArray, List.set_cons_zero, List.set_cons_succ, i64_w, i32_w]
              rfl
             refine take_ (i := 3) (N := some 88) (v := ?_) (a' := ?_) #[true, true, true, true, false, true, true, false, false, true, false, true, false, false, true, true, false, false, false, false, false, false, false, false] rfl rfl (take_ofW HT_.out HW_.out (by kernel_rfl)) (fun _ _ _ h => h) (Or.inl ⟨by rfl, ?_⟩) hHeld ?_ ?_
             rotate_left
             ·
              rintro w' ⟨s0, s1, s2, s3⟩
              go_simp
              with_reducible rfl
             rotate_left
             ·
              simp only [Act.put, List.setIfInBounds_toArray, List.set_cons_zero, List.set_cons_succ, i64_w, i32_w]
              rfl
             refine take_ (i := 10) (N := some 95) (v := ?_) (a' := ?_) #[true, true, true, true, false, true, true, false, false, true, true, true, false, false, true, true, false, false, false, false, false, false, false, false] rfl rfl (take_ofW HT_.out HW_.out (by kernel_rfl)) (fun _ _ _ h => h) (Or.inl ⟨by rfl, ?_⟩) hHeld ?_ ?_
             rotate_left
             ·
              rintro w' ⟨s0, s1, s2, s3⟩
              go_simp
              with_reducible rfl
             rotate_left
             ·
              simp only [Act.put, List.setIfInBounds_toArray, List.set_cons_zero, List.set_cons_succ, i64_w, i32_w]
              rfl
             refine take_ (i := 12) (N := some 97) (v := ?_) (a' := ?_) #[true, true, true, true, false, true, true, false, false, true, true, true, true, false, true, true, false, false, false, false, false, false, false, false] rfl rfl (take_ofW HT_.out HW_.out (by kernel_rfl)) (fun _ _ _ h => h) (Or.inl ⟨by rfl, ?_⟩) hHeld ?_ ?_
             rotate_left
             ·
              rintro w' ⟨s0, s1, s2, s3⟩
              go_simp
              with_reducible rfl
             rotate_left
             ·
              simp only [Act.put, List.setIfInBounds_toArray, List.set_cons_zero, List.set_cons_succ, i64_w, i32_w]
              rfl
             refine join_ (σ := Value × Addr × Value × Addr) 6 #[true, true, true, true, true, true, true, true, true, true, true, true, true, true, true, true, true, true, false, false, false, false, false, false] (fun s_ => [(89, s_.1), (93, .int .i64 (rd y435 (ji81))), (98, s_.2.2.1), (102, .int .i64 (rd y439 (ji84))), (92, .pointer (some (s_.2.1.add ((ji81)).toNat))), (101, .pointer (some (s_.2.2.2.add ((ji84)).toNat)))]) (fun s_ w' => (w'.cell? ⟨gb406, 0, none⟩ = some (.int .i64 a1_0) ∧ w'.cell? ⟨gb406, 1, none⟩ = some (.int .i64 a1_1) ∧ w'.cell? ⟨gb407, 0, none⟩ = some (.int .i64 a2_0) ∧ w'.cell? ⟨gb407, 1, none⟩ = some (.int .i64 a2_1)) ∧ (Kd.R (Kd.int .i64) 2 w' w.heap.size (fun k_ => some k_ ≠ (s_.2.2.1 : Value).ownBlock ∧ some k_ ≠ (u16 : Value).ownBlock) s_.1 y435) ∧ (Kd.R (Kd.int .i64) 2 w' w.heap.size (fun k_ => some k_ ≠ (s_.1 : Value).ownBlock ∧ some k_ ≠ (u16 : Value).ownBlock) s_.2.2.1 y439) ∧ (Kd.R (Kd.int .i64) 2 w' w.heap.size (fun k_ => some k_ ≠ (s_.1 : Value).ownBlock ∧ some k_ ≠ (s_.2.2.1 : Value).ownBlock) u16 x16_1) ∧ (∃ c_, (s_.1 : Value) = .slice (some s_.2.1) y435.length c_) ∧ (∃ c_, (s_.2.2.1 : Value) = .slice (some s_.2.2.2) y439.length c_) ∧ (w'.heap[gb406]? = some (.cells #[.int .i64 a1_0, .int .i64 a1_1] 56 (0, 0))) ∧ (w'.heap[gb407]? = some (.cells #[.int .i64 a2_0, .int .i64 a2_1] 56 (0, 0))) ∧ (w'.heap[gb408]? = some (.cells #[.int .i64 0, .int .i64 0] 56 (0, 0))) ∧ (Below w.heap.size w w')) ?_ ?_
             rotate_left
             ·
              intro hJ4_8_13_17
              refine join_ (σ := Value × Addr × Value × Addr) 7 #[true, true, true, true, true, true, true, true, true, true, true, true, true, true, true, true, true, false, false, false, false, false, false, false] (fun s_ => [(89, s_.1), (93, .int .i64 (rd y435 (ji81))), (98, s_.2.2.1), (92, .pointer (some (s_.2.1.add ((ji81)).toNat))), (101, .pointer (some (s_.2.2.2.add ((ji84)).toNat)))]) (fun s_ w' => (w'.cell? ⟨gb406, 0, none⟩ = some (.int .i64 a1_0) ∧ w'.cell? ⟨gb406, 1, none⟩ = some (.int .i64 a1_1) ∧ w'.cell? ⟨gb407, 0, none⟩ = some (.int .i64 a2_0) ∧ w'.cell? ⟨gb407, 1, none⟩ = some (.int .i64 a2_1)) ∧ (Kd.R (Kd.int .i64) 2 w' w.heap.size (fun k_ => some k_ ≠ (s_.2.2.1 : Value).ownBlock ∧ some k_ ≠ (u16 : Value).ownBlock) s_.1 y435) ∧ (Kd.R (Kd.int .i64) 2 w' w.heap.size (fun k_ => some k_ ≠ (s_.1 : Value).ownBlock ∧ some k_ ≠ (u16 : Value).ownBlock) s_.2.2.1 y439) ∧ (Kd.R (Kd.int .i64) 2 w' w.heap.size (fun k_ => some k_ ≠ (s_.1 : Value).ownBlock ∧ some k_ ≠ (s_.2.2.1 : Value).ownBlock) u16 x16_1) ∧ (∃ c_, (s_.1 : Value) = .slice (some s_.2.1) y435.length c_) ∧ (∃ c_, (s_.2.2.1 : Value) = .slice (some s_.2.2.2) y439.length c_) ∧ (w'.heap[gb406]? = some (.cells #[.int .i64 a1_0, .int .i64 a1_1] 56 (0, 0))) ∧ (w'.heap[gb407]? = some (.cells #[.int .i64 a2_0, .int .i64 a2_1] 56 (0, 0))) ∧ (w'.heap[gb408]? = some (.cells #[.int .i64 0, .int .i64 0] 56 (0, 0))) ∧ (Below w.heap.size w w')) ?_ ?_
              rotate_left
              ·
               intro hJ4_8_13
               refine join_ (σ := Value × Addr × Value × Addr) 7 #[true, true, true, true, true, true, true, true, false, true, true, true, true, true, true, true, true, true, false, false, false, false, false, false] (fun s_ => [(89, s_.1), (98, s_.2.2.1), (102, .int .i64 (rd y439 (ji84))), (92, .pointer (some (s_.2.1.add ((ji81)).toNat))), (101, .pointer (some (s_.2.2.2.add ((ji84)).toNat)))]) (fun s_ w' => (w'.cell? ⟨gb406, 0, none⟩ = some (.int .i64 a1_0) ∧ w'.cell? ⟨gb406, 1, none⟩ = some (.int .i64 a1_1) ∧ w'.cell? ⟨gb407, 0, none⟩ = some (.int .i64 a2_0) ∧ w'.cell? ⟨gb407, 1, none⟩ = some (.int .i64 a2_1)) ∧ (Kd.R (Kd.int .i64) 2 w' w.heap.size (fun k_ => some k_ ≠ (s_.2.2.1 : Value).ownBlock ∧ some k_ ≠ (u16 : Value).ownBlock) s_.1 y435) ∧ (Kd.R (Kd.int .i64) 2 w' w.heap.size (fun k_ => some k_ ≠ (s_.1 : Value).ownBlock ∧ some k_ ≠ (u16 : Value).ownBlock) s_.2.2.1 y439) ∧ (Kd.R (Kd.int .i64) 2 w' w.heap.size (fun k_ => some k_ ≠ (s_.1 : Value).ownBlock ∧ some k_ ≠ (s_.2.2.1 : Value).ownBlock) u16 x16_1) ∧ (∃ c_, (s_.1 : Value) = .slice (some s_.2.1) y435.length c_) ∧ (∃ c_, (s_.2.2.1 : Value) = .slice (some s_.2.2.2) y439.length c_) ∧ (w'.heap[gb406]? = some (.cells #[.int .i64 a1_0, .int .i64 a1_1] 56 (0, 0))) ∧ (w'.heap[gb407]? = some (.cells #[.int .i64 a2_0, .int .i64 a2_1] 56 (0, 0))) ∧ (w'.heap[gb408]? = some (.cells #[.int .i64 0, .int .i64 0] 56 (0, 0))) ∧ (Below w.heap.size w w')) ?_ ?_
               rotate_left
               ·
                intro hJ4_13_17
                refine join_ (σ := Value × Addr) 9 #[true, true, true, true, true, true, true, true, true, true, true, true, true, false, true, true, false, false, false, false, false, false, false, false] (fun s_ => [(89, s_.1), (93, .int .i64 (rd y435 (ji81))), (92, .pointer (some (s_.2.add ((ji81)).toNat)))]) (fun s_ w' => (w'.cell? ⟨gb406, 0, none⟩ = some (.int .i64 a1_0) ∧ w'.cell? ⟨gb406, 1, none⟩ = some (.int .i64 a1_1) ∧ w'.cell? ⟨gb407, 0, none⟩ = some (.int .i64 a2_0) ∧ w'.cell? ⟨gb407, 1, none⟩ = some (.int .i64 a2_1)) ∧ (Kd.R (Kd.int .i64) 2 w' w.heap.size (fun k_ => some k_ ≠ (u16 : Value).ownBlock) s_.1 y435) ∧ (Kd.R (Kd.int .i64) 2 w' w.heap.size (fun k_ => some k_ ≠ (s_.1 : Value).ownBlock) u16 x16_1) ∧ (∃ c_, (s_.1 : Value) = .slice (some s_.2) y435.length c_) ∧ (w'.heap[gb406]? = some (.cells #[.int .i64 a1_0, .int .i64 a1_1] 56 (0, 0))) ∧ (w'.heap[gb407]? = some (.cells #[.int .i64 a2_0, .int .i64 a2_1] 56 (0, 0))) ∧ (w'.heap[gb408]? = some (.cells #[.int .i64 0, .int .i64 0] 56 (0, 0))) ∧ (Below w.heap.size w w')) ?_ ?_
                rotate_left
                ·
                 intro hJ4_8
                 refine join_ (σ := Value × Addr × Value × Addr) 8 #[true, true, true, true, true, true, true, true, false, true, true, true, true, true, true, true, true, false, false, false, false, false, false, false] (fun s_ => [(89, s_.1), (98, s_.2.2.1), (92, .pointer (some (s_.2.1.add ((ji81)).toNat))), (101, .pointer (some (s_.2.2.2.add ((ji84)).toNat)))]) (fun s_ w' => (w'.cell? ⟨gb406, 0, none⟩ = some (.int .i64 a1_0) ∧ w'.cell? ⟨gb406, 1, none⟩ = some (.int .i64 a1_1) ∧ w'.cell? ⟨gb407, 0, none⟩ = some (.int .i64 a2_0) ∧ w'.cell? ⟨gb407, 1, none⟩ = some (.int .i64 a2_1)) ∧ (Kd.R (Kd.int .i64) 2 w' w.heap.size (fun k_ => some k_ ≠ (s_.2.2.1 : Value).ownBlock ∧ some k_ ≠ (u16 : Value).ownBlock) s_.1 y435) ∧ (Kd.R (Kd.int .i64) 2 w' w.heap.size (fun k_ => some k_ ≠ (s_.1 : Value).ownBlock ∧ some k_ ≠ (u16 : Value).ownBlock) s_.2.2.1 y439) ∧ (Kd.R (Kd.int .i64) 2 w' w.heap.size (fun k_ => some k_ ≠ (s_.1 : Value).ownBlock ∧ some k_ ≠ (s_.2.2.1 : Value).ownBlock) u16 x16_1) ∧ (∃ c_, (s_.1 : Value) = .slice (some s_.2.1) y435.length c_) ∧ (∃ c_, (s_.2.2.1 : Value) = .slice (some s_.2.2.2) y439.length c_) ∧ (w'.heap[gb406]? = some (.cells #[.int .i64 a1_0, .int .i64 a1_1] 56 (0, 0))) ∧ (w'.heap[gb407]? = some (.cells #[.int .i64 a2_0, .int .i64 a2_1] 56 (0, 0))) ∧ (w'.heap[gb408]? = some (.cells #[.int .i64 0, .int .i64 0] 56 (0, 0))) ∧ (Below w.heap.size w w')) ?_ ?_
                 rotate_left
                 ·
                  intro hJ4_13
                  refine join_ (σ := Value × Addr) 9 #[true, true, true, true, false, true, true, false, false, true, true, true, true, true, true, true, true, true, false, false, false, false, false, false] (fun s_ => [(98, s_.1), (102, .int .i64 (rd y439 (ji84))), (101, .pointer (some (s_.2.add ((ji84)).toNat)))]) (fun s_ w' => (w'.cell? ⟨gb406, 0, none⟩ = some (.int .i64 a1_0) ∧ w'.cell? ⟨gb406, 1, none⟩ = some (.int .i64 a1_1) ∧ w'.cell? ⟨gb407, 0, none⟩ = some (.int .i64 a2_0) ∧ w'.cell? ⟨gb407, 1, none⟩ = some (.int .i64 a2_1)) ∧ (Kd.R (Kd.int .i64) 2 w' w.heap.size (fun k_ => some k_ ≠ (u16 : Value).ownBlock) s_.1 y439) ∧ (Kd.R (Kd.int .i64) 2 w' w.heap.size (fun k_ => some k_ ≠ (s_.1 : Value).ownBlock) u16 x16_1) ∧ (∃ c_, (s_.1 : Value) = .slice (some s_.2) y439.length c_) ∧ (w'.heap[gb406]? = some (.cells #[.int .i64 a1_0, .int .i64 a1_1] 56 (0, 0))) ∧ (w'.heap[gb407]? = some (.cells #[.int .i64 a2_0, .int .i64 a2_1] 56 (0, 0))) ∧ (w'.heap[gb408]? = some (.cells #[.int .i64 0, .int .i64 0] 56 (0, 0))) ∧ (Below w.heap.size w w')) ?_ ?_
                  rotate_left
                  ·
                   intro hJ13_17
                   refine join_ (σ := Value × Addr) 10 #[true, true, true, true, true, true, true, true, false, true, true, true, true, false, true, true, false, false, false, false, false, false, false, false] (fun s_ => [(89, s_.1), (92, .pointer (some (s_.2.add ((ji81)).toNat)))]) (fun s_ w' => (w'.cell? ⟨gb406, 0, none⟩ = some (.int .i64 a1_0) ∧ w'.cell? ⟨gb406, 1, none⟩ = some (.int .i64 a1_1) ∧ w'.cell? ⟨gb407, 0, none⟩ = some (.int .i64 a2_0) ∧ w'.cell? ⟨gb407, 1, none⟩ = some (.int .i64 a2_1)) ∧ (Kd.R (Kd.int .i64) 2 w' w.heap.size (fun k_ => some k_ ≠ (u16 : Value).ownBlock) s_.1 y435) ∧ (Kd.R (Kd.int .i64) 2 w' w.heap.size (fun k_ => some k_ ≠ (s_.1 : Value).ownBlock) u16 x16_1) ∧ (∃ c_, (s_.1 : Value) = .slice (some s_.2) y435.length c_) ∧ (w'.heap[gb406]? = some (.cells #[.int .i64 a1_0, .int .i64 a1_1] 56 (0, 0))) ∧ (w'.heap[gb407]? = some (.cells #[.int .i64 a2_0, .int .i64 a2_1] 56 (0, 0))) ∧ (w'.heap[gb408]? = some (.cells #[.int .i64 0, .int .i64 0] 56 (0, 0))) ∧ (Below w.heap.size w w')) ?_ ?_
                   rotate_left
                   ·
                    intro hJ4
                    refine join_ (σ := Value × Addr) 10 #[true, true, true, true, false, true, true, false, false, true, true, true, true, true, true, true, true, false, false, false, false, false, false, false] (fun s_ => [(98, s_.1), (101, .pointer (some (s_.2.add ((ji84)).toNat)))]) (fun s_ w' => (w'.cell? ⟨gb406, 0, none⟩ = some (.int .i64 a1_0) ∧ w'.cell? ⟨gb406, 1, none⟩ = some (.int .i64 a1_1) ∧ w'.cell? ⟨gb407, 0, none⟩ = some (.int .i64 a2_0) ∧ w'.cell? ⟨gb407, 1, none⟩ = some (.int .i64 a2_1)) ∧ (Kd.R (Kd.int .i64) 2 w' w.heap.size (fun k_ => some k_ ≠ (u16 : Value).ownBlock) s_.1 y439) ∧ (Kd.R (Kd.int .i64) 2 w' w.heap.size (fun k_ => some k_ ≠ (s_.1 : Value).ownBlock) u16 x16_1) ∧ (∃ c_, (s_.1 : Value) = .slice (some s_.2) y439.length c_) ∧ (w'.heap[gb406]? = some (.cells #[.int .i64 a1_0, .int .i64 a1_1] 56 (0, 0))) ∧ (w'.heap[gb407]? = some (.cells #[.int .i64 a2_0, .int .i64 a2_1] 56 (0, 0))) ∧ (w'.heap[gb408]? = some (.cells #[.int .i64 0, .int .i64 0] 56 (0, 0))) ∧ (Below w.heap.size w w')) ?_ ?_
                    rotate_left
                    ·
                     intro hJ13
                     refine two_ (i := 4) (j := 13) (Ni := some 89) (Nj := some 98) #[true, true, true, true, true, true, true, false, false, true, true, true, true, false, true, true, false, false, false, false, false, false, false, false] #[true, true, true, true, false, true, true, false, false, true, true, true, true, true, true, true, false, false, false, false, false, false, false, false] rfl rfl rfl rfl (two_of HT_.out (by kernel_rfl)) (by decide) (by decide) (fun K hK => ?_) (fun K hK => ?_)
                     ·
                      skip
                      refine Kd.R_lit_step (Kd.int .i64) _ 2 ?hg (N := 89) ?hd (xs := ([a1_0, a1_1] : List Int)) (inner := [.int .i64 a1_0, .int .i64 a1_1]) (ok := fun _ => True) (okp := fun _ => True) ?hr ?hp (fun _ hk => hk) trivial (Below.refl _ _) (Nat.le_refl _) (by simp) ?_; (case hd => rfl); (case hg => rfl); (case hr => first | (go_simp; done) | (go_simp; rfl)); (case hp => exact (Reps.one (show Kd.M (Kd.int .i64) _ _ _ a1_0 [.int .i64 a1_0] from rfl) (Reps.one (show Kd.M (Kd.int .i64) _ _ _ a1_1 [.int .i64 a1_1] from rfl) (Reps.none _ _))))
                      intro v436 w102 ho103 hb hg_ hnew_
                      clear hg_ hnew_
                      (first | rw [← Ny435.out] at ho103 | (simp only [Int.reduceToNat] at ho103; rw [← Ny435.out] at ho103))
                      have HO437 := Aside0.mk (Kd.R_lower (Kd.R_new' ho103 (Kd.R_lt (by (with_reducible repeat (first | apply Kd.R_alloc | apply Kd.R_drewN | apply Kd.R_drew)); exact HO_16.out))) (below_size HB.out))
                      replace HO_16 := Aside0.mk (Kd.R_elder' (by (with_reducible repeat (first | apply Kd.R_alloc | apply Kd.R_drewN | apply Kd.R_drew)); exact HO_16.out) (Kd.R_base ho103) hb); replace BK406 := bb BK406 hb rfl; replace BK407 := bb BK407 hb rfl; replace BK408 := bb BK408 hb rfl; replace HB := hst HB hb rfl
                      clear hb ho103
                      obtain ⟨Ao104, co104, eo104⟩ := Kd.R_slice HO437.out
                      subst eo104
                      obtain ⟨ado104, fo104, _⟩ := Kd.at_int (Kd.R_reads' HO437.out).2.2 0 (by decide) (by rw [Ny435.out]; simp)
                      cases fo104
                      refine hK.out _ _ ⟨bc BK406 0 rfl, bc BK406 1 rfl, bc BK407 0 rfl, bc BK407 1 rfl⟩ (fun hHeld => ?_)
                      clear hK K
                      refine norm_ (a' := ?_) ?_ ?_
                      rotate_left; · (show Act.put _ (some 89) _ = _; simp only [Act.put, List.setIfInBounds_toArray, List.set_cons_zero, List.set_cons_succ, i64_w, i32_w]; rfl)
                      refine pure_ (i := 7) (N := some 92) (v := ?_) (a' := ?_) #[true, true, true, true, true, true, true, true, false, true, true, true, true, false, true, true, false, false, false, false, false, false, false, false] rfl rfl (any_of HT_.out (by kernel_rfl)) (fun _ _ _ h => h) (Or.inl ⟨by rfl, ?_⟩) ?_ ?_
                      rotate_left; · (intro w'; go_simp; with_reducible rfl)
                      rotate_left; · (simp only [Act.put, List.setIfInBounds_toArray, List.set_cons_zero, List.set_cons_succ, i64_w, i32_w]; rfl)
                      exact norm_ (by simp only [putAll, Act.put, List.setIfInBounds_toArray, List.set_cons_zero, List.set_cons_succ] <;> rfl) (hJ4 (.slice (some ado104) y435.length co104, ado104) _ ⟨hHeld, (by (with_reducible repeat (first | apply Kd.R_alloc | apply Kd.R_drewN | apply Kd.R_drew)); exact Kd.R_mono HO437.out (fun _ hk => hk.2)), (by (with_reducible repeat (first | apply Kd.R_alloc | apply Kd.R_drewN | apply Kd.R_drew)); exact Kd.R_mono HO_16.out (fun _ hk => hk.2)), ⟨_, rfl⟩, BK406.out, BK407.out, BK408.out, (by repeat (first | (with_reducible first | exact HB.out | apply below_alloc | apply pw_below_drewN | apply below_drew1 | refine below_set ?_ GE406.out | refine below_set ?_ GE407.out | refine below_set ?_ GE408.out) | exact HB.out))⟩)
                     ·
                      skip
                      refine Kd.R_lit_step (Kd.int .i64) _ 2 ?hg (N := 98) ?hd (xs := ([a2_0, a2_1] : List Int)) (inner := [.int .i64 a2_0, .int .i64 a2_1]) (ok := fun _ => True) (okp := fun _ => True) ?hr ?hp (fun _ hk => hk) trivial (Below.refl _ _) (Nat.le_refl _) (by simp) ?_; (case hd => rfl); (case hg => rfl); (case hr => first | (go_simp; done) | (go_simp; rfl)); (case hp => exact (Reps.one (show Kd.M (Kd.int .i64) _ _ _ a2_0 [.int .i64 a2_0] from rfl) (Reps.one (show Kd.M (Kd.int .i64) _ _ _ a2_1 [.int .i64 a2_1] from rfl) (Reps.none _ _))))
                      intro v440 w102 ho103 hb hg_ hnew_
                      clear hg_ hnew_
                      (first | rw [← Ny439.out] at ho103 | (simp only [Int.reduceToNat] at ho103; rw [← Ny439.out] at ho103))
                      have HO441 := Aside0.mk (Kd.R_lower (Kd.R_new' ho103 (Kd.R_lt (by (with_reducible repeat (first | apply Kd.R_alloc | apply Kd.R_drewN | apply Kd.R_drew)); exact HO_16.out))) (below_size HB.out))
                      replace HO_16 := Aside0.mk (Kd.R_elder' (by (with_reducible repeat (first | apply Kd.R_alloc | apply Kd.R_drewN | apply Kd.R_drew)); exact HO_16.out) (Kd.R_base ho103) hb); replace BK406 := bb BK406 hb rfl; replace BK407 := bb BK407 hb rfl; replace BK408 := bb BK408 hb rfl; replace HB := hst HB hb rfl
                      clear hb ho103
                      obtain ⟨Ao104, co104, eo104⟩ := Kd.R_slice HO441.out
                      subst eo104
                      obtain ⟨ado104, fo104, _⟩ := Kd.at_int (Kd.R_reads' HO441.out).2.2 0 (by decide) (by rw [Ny439.out]; simp)
                      cases fo104
                      refine hK.out _ _ ⟨bc BK406 0 rfl, bc BK406 1 rfl, bc BK407 0 rfl, bc BK407 1 rfl⟩ (fun hHeld => ?_)
                      clear hK K
                      refine norm_ (a' := ?_) ?_ ?_
                      rotate_left; · (show Act.put _ (some 98) _ = _; simp only [Act.put, List.setIfInBounds_toArray, List.set_cons_zero, List.set_cons_succ, i64_w, i32_w]; rfl)
                      refine pure_ (i := 16) (N := some 101) (v := ?_) (a' := ?_) #[true, true, true, true, false, true, true, false, false, true, true, true, true, true, true, true, true, false, false, false, false, false, false, false] rfl rfl (any_of HT_.out (by kernel_rfl)) (fun _ _ _ h => h) (Or.inl ⟨by rfl, ?_⟩) ?_ ?_
                      rotate_left; · (intro w'; go_simp; with_reducible rfl)
                      rotate_left; · (simp only [Act.put, List.setIfInBounds_toArray, List.set_cons_zero, List.set_cons_succ, i64_w, i32_w]; rfl)
                      exact norm_ (by simp only [putAll, Act.put, List.setIfInBounds_toArray, List.set_cons_zero, List.set_cons_succ] <;> rfl) (hJ13 (.slice (some ado104) y439.length co104, ado104) _ ⟨hHeld, (by (with_reducible repeat (first | apply Kd.R_alloc | apply Kd.R_drewN | apply Kd.R_drew)); exact Kd.R_mono HO441.out (fun _ hk => hk.2)), (by (with_reducible repeat (first | apply Kd.R_alloc | apply Kd.R_drewN | apply Kd.R_drew)); exact Kd.R_mono HO_16.out (fun _ hk => hk.2)), ⟨_, rfl⟩, BK406.out, BK407.out, BK408.out, (by repeat (first | (with_reducible first | exact HB.out | apply below_alloc | apply pw_below_drewN | apply below_drew1 | refine below_set ?_ GE406.out | refine below_set ?_ GE407.out | refine below_set ?_ GE408.out) | exact HB.out))⟩)
                    ·
                     skip
                     rintro ⟨v440, adz_v440⟩ w105 ⟨hS_, h0_, h1_, h2_, h3_, h4_, h5_, h6_⟩
                     have n0_ : Aside0 (Kd.R (Kd.int .i64) 2 w105 w.heap.size (fun k_ => some k_ ≠ (u16 : Value).ownBlock) v440 y439) := ⟨h0_⟩
                     have n1_ : Aside0 (Kd.R (Kd.int .i64) 2 w105 w.heap.size (fun k_ => some k_ ≠ (v440 : Value).ownBlock) u16 x16_1) := ⟨h1_⟩
                     have n2_ : Aside0 (∃ c_, (v440 : Value) = .slice (some adz_v440) y439.length c_) := ⟨h2_⟩
                     have n3_ : Aside0 (w105.heap[gb406]? = some (.cells #[.int .i64 a1_0, .int .i64 a1_1] 56 (0, 0))) := ⟨h3_⟩
                     have n4_ : Aside0 (w105.heap[gb407]? = some (.cells #[.int .i64 a2_0, .int .i64 a2_1] 56 (0, 0))) := ⟨h4_⟩
                     have n5_ : Aside0 (w105.heap[gb408]? = some (.cells #[.int .i64 0, .int .i64 0] 56 (0, 0))) := ⟨h5_⟩
                     have n6_ : Aside0 (Below w.heap.size w w105) := ⟨h6_⟩
                     clear HO_16
                     clear BK406
                     clear BK407
                     clear BK408
                     clear HB
                     clear h0_ h1_ h2_ h3_ h4_ h5_ h6_
                     have HO441 := n0_
                     have HO_16 := n1_
                     have HA_HO441 := n2_
                     have BK406 := n3_
                     have BK407 := n4_
                     have BK408 := n5_
                     have HB := n6_
                     clear n0_ n1_ n2_ n3_ n4_ n5_ n6_
                     have hHeld : w105.cell? ⟨gb406, 0, none⟩ = some (.int .i64 a1_0) ∧ w105.cell? ⟨gb406, 1, none⟩ = some (.int .i64 a1_1) ∧ w105.cell? ⟨gb407, 0, none⟩ = some (.int .i64 a2_0) ∧ w105.cell? ⟨gb407, 1, none⟩ = some (.int .i64 a2_1) := hS_
                     obtain ⟨co106, eo106⟩ := HA_HO441.out
                     clear HA_HO441
                     subst eo106
                     refine norm_ (a' := ?_) ?_ ?_
                     rotate_left
                     ·
                      simp only [putAll, Act.put, List.setIfInBounds_toArray, List.set_cons_zero, List.set_cons_succ]
                      rfl
                     refine two_ (i := 4) (j := 17) (Ni := some 89) (Nj := some 102) #[true, true, true, true, true, true, true, false, false, true, true, true, true, true, true, true, true, false, false, false, false, false, false, false] #[true, true, true, true, false, true, true, false, false, true, true, true, true, true, true, true, true, true, false, false, false, false, false, false] rfl rfl rfl rfl (two_of HT_.out (by kernel_rfl)) (by decide) (by decide) (fun K hK => ?_) (fun K hK => ?_)
                     ·
                      skip
                      refine Kd.R_lit_step (Kd.int .i64) _ 2 ?hg (N := 89) ?hd (xs := ([a1_0, a1_1] : List Int)) (inner := [.int .i64 a1_0, .int .i64 a1_1]) (ok := fun _ => True) (okp := fun _ => True) ?hr ?hp (fun _ hk => hk) trivial (Below.refl _ _) (Nat.le_refl _) (by simp) ?_; (case hd => rfl); (case hg => rfl); (case hr => first | (go_simp; done) | (go_simp; rfl)); (case hp => exact (Reps.one (show Kd.M (Kd.int .i64) _ _ _ a1_0 [.int .i64 a1_0] from rfl) (Reps.one (show Kd.M (Kd.int .i64) _ _ _ a1_1 [.int .i64 a1_1] from rfl) (Reps.none _ _))))
                      intro v436 w107 ho108 hb hg_ hnew_
                      clear hg_ hnew_
                      (first | rw [← Ny435.out] at ho108 | (simp only [Int.reduceToNat] at ho108; rw [← Ny435.out] at ho108))
                      have HO437 := Aside0.mk (Kd.R_lower (Kd.R_new' (Kd.R_new' ho108 (Kd.R_lt (by (with_reducible repeat (first | apply Kd.R_alloc | apply Kd.R_drewN | apply Kd.R_drew)); exact HO_16.out))) (Kd.R_lt (by (with_reducible repeat (first | apply Kd.R_alloc | apply Kd.R_drewN | apply Kd.R_drew)); exact HO441.out))) (below_size HB.out))
                      replace HO_16 := Aside0.mk (Kd.R_elder' (by (with_reducible repeat (first | apply Kd.R_alloc | apply Kd.R_drewN | apply Kd.R_drew)); exact HO_16.out) (Kd.R_base ho108) hb); replace HO441 := Aside0.mk (Kd.R_elder' (by (with_reducible repeat (first | apply Kd.R_alloc | apply Kd.R_drewN | apply Kd.R_drew)); exact HO441.out) (Kd.R_base ho108) hb); replace BK406 := bb BK406 hb rfl; replace BK407 := bb BK407 hb rfl; replace BK408 := bb BK408 hb rfl; replace HB := hst HB hb rfl
                      clear hb ho108
                      obtain ⟨Ao109, co109, eo109⟩ := Kd.R_slice HO437.out
                      subst eo109
                      obtain ⟨ado109, fo109, _⟩ := Kd.at_int (Kd.R_reads' HO437.out).2.2 0 (by decide) (by rw [Ny435.out]; simp)
                      cases fo109
                      refine hK.out _ _ ⟨bc BK406 0 rfl, bc BK406 1 rfl, bc BK407 0 rfl, bc BK407 1 rfl⟩ (fun hHeld => ?_)
                      clear hK K
                      refine norm_ (a' := ?_) ?_ ?_
                      rotate_left; · (show Act.put _ (some 89) _ = _; simp only [Act.put, List.setIfInBounds_toArray, List.set_cons_zero, List.set_cons_succ, i64_w, i32_w]; rfl)
                      refine pure_ (i := 7) (N := some 92) (v := ?_) (a' := ?_) #[true, true, true, true, true, true, true, true, false, true, true, true, true, true, true, true, true, false, false, false, false, false, false, false] rfl rfl (any_of HT_.out (by kernel_rfl)) (fun _ _ _ h => h) (Or.inl ⟨by rfl, ?_⟩) ?_ ?_
                      rotate_left; · (intro w'; go_simp; with_reducible rfl)
                      rotate_left; · (simp only [Act.put, List.setIfInBounds_toArray, List.set_cons_zero, List.set_cons_succ, i64_w, i32_w]; rfl)
                      exact norm_ (by simp only [putAll, Act.put, List.setIfInBounds_toArray, List.set_cons_zero, List.set_cons_succ] <;> rfl) (hJ4_13 (.slice (some ado109) y435.length co109, ado109, .slice (some adz_v440) y439.length co106, adz_v440) _ ⟨hHeld, (by (with_reducible repeat (first | apply Kd.R_alloc | apply Kd.R_drewN | apply Kd.R_drew)); exact Kd.R_mono HO437.out (fun _ hk => ⟨hk.2, hk.1.2⟩)), (by (with_reducible repeat (first | apply Kd.R_alloc | apply Kd.R_drewN | apply Kd.R_drew)); exact Kd.R_mono HO441.out (fun _ hk => ⟨hk.2, hk.1⟩)), (by (with_reducible repeat (first | apply Kd.R_alloc | apply Kd.R_drewN | apply Kd.R_drew)); exact Kd.R_mono HO_16.out (fun _ hk => ⟨hk.2, hk.1⟩)), ⟨_, rfl⟩, ⟨_, rfl⟩, BK406.out, BK407.out, BK408.out, (by repeat (first | (with_reducible first | exact HB.out | apply below_alloc | apply pw_below_drewN | apply below_drew1 | refine below_set ?_ GE406.out | refine below_set ?_ GE407.out | refine below_set ?_ GE408.out) | exact HB.out))⟩)
                     ·
                      skip
                      (have p442 : 0 ≤ ((ji84) : Int) := of_decide_eq_true (by first | (with_reducible assumption) | assumption); have q442 : (ji84) < (y439.length : Int) := of_decide_eq_true (by first | (with_reducible assumption) | assumption); obtain ⟨ad442, e442, hx442_0⟩ := Kd.at_int (Kd.R_reads' HO441.out).2.2 (ji84) p442 q442; obtain rfl : adz_v440 = ad442 := (by injection e442))
                      refine value_ (w1 := ?_) (v := ?_) (by rfl) rfl ?_ ?_
                      rotate_left 2
                      ·
                       go_simp
                       constructor
                       ·
                        rfl
                       ·
                        rfl
                      clear hx442_0
                      refine hK.out _ _ ⟨bc BK406 0 rfl, bc BK406 1 rfl, bc BK407 0 rfl, bc BK407 1 rfl⟩ (fun hHeld => ?_)
                      clear hK K
                      refine norm_ (a' := ?_) ?_ ?_
                      rotate_left; · (show Act.put _ (some 102) _ = _; simp only [Act.put, List.setIfInBounds_toArray, List.set_cons_zero, List.set_cons_succ, i64_w, i32_w]; rfl)
                      exact norm_ (by simp only [putAll, Act.put, List.setIfInBounds_toArray, List.set_cons_zero, List.set_cons_succ] <;> rfl) (hJ13_17 (.slice (some adz_v440) y439.length co106, adz_v440) _ ⟨hHeld, (by (with_reducible repeat (first | apply Kd.R_alloc | apply Kd.R_drewN | apply Kd.R_drew)); exact HO441.out), (by (with_reducible repeat (first | apply Kd.R_alloc | apply Kd.R_drewN | apply Kd.R_drew)); exact HO_16.out), ⟨_, rfl⟩, BK406.out, BK407.out, BK408.out, (by repeat (first | (with_reducible first | exact HB.out | apply below_alloc | apply pw_below_drewN | apply below_drew1 | refine below_set ?_ GE406.out | refine below_set ?_ GE407.out | refine below_set ?_ GE408.out) | exact HB.out))⟩)
                   ·
                    skip
                    rintro ⟨v436, adz_v436⟩ w105 ⟨hS_, h0_, h1_, h2_, h3_, h4_, h5_, h6_⟩
                    have n0_ : Aside0 (Kd.R (Kd.int .i64) 2 w105 w.heap.size (fun k_ => some k_ ≠ (u16 : Value).ownBlock) v436 y435) := ⟨h0_⟩
                    have n1_ : Aside0 (Kd.R (Kd.int .i64) 2 w105 w.heap.size (fun k_ => some k_ ≠ (v436 : Value).ownBlock) u16 x16_1) := ⟨h1_⟩
                    have n2_ : Aside0 (∃ c_, (v436 : Value) = .slice (some adz_v436) y435.length c_) := ⟨h2_⟩
                    have n3_ : Aside0 (w105.heap[gb406]? = some (.cells #[.int .i64 a1_0, .int .i64 a1_1] 56 (0, 0))) := ⟨h3_⟩
                    have n4_ : Aside0 (w105.heap[gb407]? = some (.cells #[.int .i64 a2_0, .int .i64 a2_1] 56 (0, 0))) := ⟨h4_⟩
                    have n5_ : Aside0 (w105.heap[gb408]? = some (.cells #[.int .i64 0, .int .i64 0] 56 (0, 0))) := ⟨h5_⟩
                    have n6_ : Aside0 (Below w.heap.size w w105) := ⟨h6_⟩
                    clear HO_16
                    clear BK406
                    clear BK407
                    clear BK408
                    clear HB
                    clear h0_ h1_ h2_ h3_ h4_ h5_ h6_
                    have HO437 := n0_
                    have HO_16 := n1_
                    have HA_HO437 := n2_
                    have BK406 := n3_
                    have BK407 := n4_
                    have BK408 := n5_
                    have HB := n6_
                    clear n0_ n1_ n2_ n3_ n4_ n5_ n6_
                    have hHeld : w105.cell? ⟨gb406, 0, none⟩ = some (.int .i64 a1_0) ∧ w105.cell? ⟨gb406, 1, none⟩ = some (.int .i64 a1_1) ∧ w105.cell? ⟨gb407, 0, none⟩ = some (.int .i64 a2_0) ∧ w105.cell? ⟨gb407, 1, none⟩ = some (.int .i64 a2_1) := hS_
                    obtain ⟨co106, eo106⟩ := HA_HO437.out
                    clear HA_HO437
                    subst eo106
                    refine norm_ (a' := ?_) ?_ ?_
                    rotate_left
                    ·
                     simp only [putAll, Act.put, List.setIfInBounds_toArray, List.set_cons_zero, List.set_cons_succ]
                     rfl
                    refine two_ (i := 8) (j := 13) (Ni := some 93) (Nj := some 98) #[true, true, true, true, true, true, true, true, true, true, true, true, true, false, true, true, false, false, false, false, false, false, false, false] #[true, true, true, true, true, true, true, true, false, true, true, true, true, true, true, true, false, false, false, false, false, false, false, false] rfl rfl rfl rfl (two_of HT_.out (by kernel_rfl)) (by decide) (by decide) (fun K hK => ?_) (fun K hK => ?_)
                    ·
                     skip
                     (have p438 : 0 ≤ ((ji81) : Int) := of_decide_eq_true (by first | (with_reducible assumption) | assumption); have q438 : (ji81) < (y435.length : Int) := of_decide_eq_true (by first | (with_reducible assumption) | assumption); obtain ⟨ad438, e438, hx438_0⟩ := Kd.at_int (Kd.R_reads' HO437.out).2.2 (ji81) p438 q438; obtain rfl : adz_v436 = ad438 := (by injection e438))
                     refine value_ (w1 := ?_) (v := ?_) (by rfl) rfl ?_ ?_
                     rotate_left 2
                     ·
                      go_simp
                      constructor
                      ·
                       rfl
                      ·
                       rfl
                     clear hx438_0
                     refine hK.out _ _ ⟨bc BK406 0 rfl, bc BK406 1 rfl, bc BK407 0 rfl, bc BK407 1 rfl⟩ (fun hHeld => ?_)
                     clear hK K
                     refine norm_ (a' := ?_) ?_ ?_
                     rotate_left; · (show Act.put _ (some 93) _ = _; simp only [Act.put, List.setIfInBounds_toArray, List.set_cons_zero, List.set_cons_succ, i64_w, i32_w]; rfl)
                     exact norm_ (by simp only [putAll, Act.put, List.setIfInBounds_toArray, List.set_cons_zero, List.set_cons_succ] <;> rfl) (hJ4_8 (.slice (some adz_v436) y435.length co106, adz_v436) _ ⟨hHeld, (by (with_reducible repeat (first | apply Kd.R_alloc | apply Kd.R_drewN | apply Kd.R_drew)); exact HO437.out), (by (with_reducible repeat (first | apply Kd.R_alloc | apply Kd.R_drewN | apply Kd.R_drew)); exact HO_16.out), ⟨_, rfl⟩, BK406.out, BK407.out, BK408.out, (by repeat (first | (with_reducible first | exact HB.out | apply below_alloc | apply pw_below_drewN | apply below_drew1 | refine below_set ?_ GE406.out | refine below_set ?_ GE407.out | refine below_set ?_ GE408.out) | exact HB.out))⟩)
                    ·
                     skip
                     refine Kd.R_lit_step (Kd.int .i64) _ 2 ?hg (N := 98) ?hd (xs := ([a2_0, a2_1] : List Int)) (inner := [.int .i64 a2_0, .int .i64 a2_1]) (ok := fun _ => True) (okp := fun _ => True) ?hr ?hp (fun _ hk => hk) trivial (Below.refl _ _) (Nat.le_refl _) (by simp) ?_; (case hd => rfl); (case hg => rfl); (case hr => first | (go_simp; done) | (go_simp; rfl)); (case hp => exact (Reps.one (show Kd.M (Kd.int .i64) _ _ _ a2_0 [.int .i64 a2_0] from rfl) (Reps.one (show Kd.M (Kd.int .i64) _ _ _ a2_1 [.int .i64 a2_1] from rfl) (Reps.none _ _))))
                     intro v440 w107 ho108 hb hg_ hnew_
                     clear hg_ hnew_
                     (first | rw [← Ny439.out] at ho108 | (simp only [Int.reduceToNat] at ho108; rw [← Ny439.out] at ho108))
                     have HO441 := Aside0.mk (Kd.R_lower (Kd.R_new' (Kd.R_new' ho108 (Kd.R_lt (by (with_reducible repeat (first | apply Kd.R_alloc | apply Kd.R_drewN | apply Kd.R_drew)); exact HO_16.out))) (Kd.R_lt (by (with_reducible repeat (first | apply Kd.R_alloc | apply Kd.R_drewN | apply Kd.R_drew)); exact HO437.out))) (below_size HB.out))
                     replace HO_16 := Aside0.mk (Kd.R_elder' (by (with_reducible repeat (first | apply Kd.R_alloc | apply Kd.R_drewN | apply Kd.R_drew)); exact HO_16.out) (Kd.R_base ho108) hb); replace HO437 := Aside0.mk (Kd.R_elder' (by (with_reducible repeat (first | apply Kd.R_alloc | apply Kd.R_drewN | apply Kd.R_drew)); exact HO437.out) (Kd.R_base ho108) hb); replace BK406 := bb BK406 hb rfl; replace BK407 := bb BK407 hb rfl; replace BK408 := bb BK408 hb rfl; replace HB := hst HB hb rfl
                     clear hb ho108
                     obtain ⟨Ao109, co109, eo109⟩ := Kd.R_slice HO441.out
                     subst eo109
                     obtain ⟨ado109, fo109, _⟩ := Kd.at_int (Kd.R_reads' HO441.out).2.2 0 (by decide) (by rw [Ny439.out]; simp)
                     cases fo109
                     refine hK.out _ _ ⟨bc BK406 0 rfl, bc BK406 1 rfl, bc BK407 0 rfl, bc BK407 1 rfl⟩ (fun hHeld => ?_)
                     clear hK K
                     refine norm_ (a' := ?_) ?_ ?_
                     rotate_left; · (show Act.put _ (some 98) _ = _; simp only [Act.put, List.setIfInBounds_toArray, List.set_cons_zero, List.set_cons_succ, i64_w, i32_w]; rfl)
                     refine pure_ (i := 16) (N := some 101) (v := ?_) (a' := ?_) #[true, true, true, true, true, true, true, true, false, true, true, true, true, true, true, true, true, false, false, false, false, false, false, false] rfl rfl (any_of HT_.out (by kernel_rfl)) (fun _ _ _ h => h) (Or.inl ⟨by rfl, ?_⟩) ?_ ?_
                     rotate_left; · (intro w'; go_simp; with_reducible rfl)
                     rotate_left; · (simp only [Act.put, List.setIfInBounds_toArray, List.set_cons_zero, List.set_cons_succ, i64_w, i32_w]; rfl)
                     exact norm_ (by simp only [putAll, Act.put, List.setIfInBounds_toArray, List.set_cons_zero, List.set_cons_succ] <;> rfl) (hJ4_13 (.slice (some adz_v436) y435.length co106, adz_v436, .slice (some ado109) y439.length co109, ado109) _ ⟨hHeld, (by (with_reducible repeat (first | apply Kd.R_alloc | apply Kd.R_drewN | apply Kd.R_drew)); exact Kd.R_mono HO437.out (fun _ hk => ⟨hk.2, hk.1⟩)), (by (with_reducible repeat (first | apply Kd.R_alloc | apply Kd.R_drewN | apply Kd.R_drew)); exact Kd.R_mono HO441.out (fun _ hk => ⟨hk.2, hk.1.2⟩)), (by (with_reducible repeat (first | apply Kd.R_alloc | apply Kd.R_drewN | apply Kd.R_drew)); exact HO_16.out), ⟨_, rfl⟩, ⟨_, rfl⟩, BK406.out, BK407.out, BK408.out, (by repeat (first | (with_reducible first | exact HB.out | apply below_alloc | apply pw_below_drewN | apply below_drew1 | refine below_set ?_ GE406.out | refine below_set ?_ GE407.out | refine below_set ?_ GE408.out) | exact HB.out))⟩)
                  ·
                   skip
                   rintro ⟨v440, adz_v440⟩ w105 ⟨hS_, h0_, h1_, h2_, h3_, h4_, h5_, h6_⟩
                   have n0_ : Aside0 (Kd.R (Kd.int .i64) 2 w105 w.heap.size (fun k_ => some k_ ≠ (u16 : Value).ownBlock) v440 y439) := ⟨h0_⟩
                   have n1_ : Aside0 (Kd.R (Kd.int .i64) 2 w105 w.heap.size (fun k_ => some k_ ≠ (v440 : Value).ownBlock) u16 x16_1) := ⟨h1_⟩
                   have n2_ : Aside0 (∃ c_, (v440 : Value) = .slice (some adz_v440) y439.length c_) := ⟨h2_⟩
                   have n3_ : Aside0 (w105.heap[gb406]? = some (.cells #[.int .i64 a1_0, .int .i64 a1_1] 56 (0, 0))) := ⟨h3_⟩
                   have n4_ : Aside0 (w105.heap[gb407]? = some (.cells #[.int .i64 a2_0, .int .i64 a2_1] 56 (0, 0))) := ⟨h4_⟩
                   have n5_ : Aside0 (w105.heap[gb408]? = some (.cells #[.int .i64 0, .int .i64 0] 56 (0, 0))) := ⟨h5_⟩
                   have n6_ : Aside0 (Below w.heap.size w w105) := ⟨h6_⟩
                   clear HO_16
                   clear BK406
                   clear BK407
                   clear BK408
                   clear HB
                   clear h0_ h1_ h2_ h3_ h4_ h5_ h6_
                   have HO441 := n0_
                   have HO_16 := n1_
                   have HA_HO441 := n2_
                   have BK406 := n3_
                   have BK407 := n4_
                   have BK408 := n5_
                   have HB := n6_
                   clear n0_ n1_ n2_ n3_ n4_ n5_ n6_
                   have hHeld : w105.cell? ⟨gb406, 0, none⟩ = some (.int .i64 a1_0) ∧ w105.cell? ⟨gb406, 1, none⟩ = some (.int .i64 a1_1) ∧ w105.cell? ⟨gb407, 0, none⟩ = some (.int .i64 a2_0) ∧ w105.cell? ⟨gb407, 1, none⟩ = some (.int .i64 a2_1) := hS_
                   obtain ⟨co106, eo106⟩ := HA_HO441.out
                   clear HA_HO441
                   subst eo106
                   refine norm_ (a' := ?_) ?_ ?_
                   rotate_left
                   ·
                    simp only [putAll, Act.put, List.setIfInBounds_toArray, List.set_cons_zero, List.set_cons_succ]
                    rfl
                   refine one_ (i := 4) (N := some 89) #[true, true, true, true, true, true, true, false, false, true, true, true, true, true, true, true, true, true, false, false, false, false, false, false] rfl rfl (one_of HT_.out (by kernel_rfl)) (by decide) (fun K hK => ?_)
                   refine Kd.R_lit_step (Kd.int .i64) _ 2 ?hg (N := 89) ?hd (xs := ([a1_0, a1_1] : List Int)) (inner := [.int .i64 a1_0, .int .i64 a1_1]) (ok := fun _ => True) (okp := fun _ => True) ?hr ?hp (fun _ hk => hk) trivial (Below.refl _ _) (Nat.le_refl _) (by simp) ?_; (case hd => rfl); (case hg => rfl); (case hr => first | (go_simp; done) | (go_simp; rfl)); (case hp => exact (Reps.one (show Kd.M (Kd.int .i64) _ _ _ a1_0 [.int .i64 a1_0] from rfl) (Reps.one (show Kd.M (Kd.int .i64) _ _ _ a1_1 [.int .i64 a1_1] from rfl) (Reps.none _ _))))
                   intro v436 w107 ho108 hb hg_ hnew_
                   clear hg_ hnew_
                   (first | rw [← Ny435.out] at ho108 | (simp only [Int.reduceToNat] at ho108; rw [← Ny435.out] at ho108))
                   have HO437 := Aside0.mk (Kd.R_lower (Kd.R_new' (Kd.R_new' ho108 (Kd.R_lt (by (with_reducible repeat (first | apply Kd.R_alloc | apply Kd.R_drewN | apply Kd.R_drew)); exact HO_16.out))) (Kd.R_lt (by (with_reducible repeat (first | apply Kd.R_alloc | apply Kd.R_drewN | apply Kd.R_drew)); exact HO441.out))) (below_size HB.out))
                   replace HO_16 := Aside0.mk (Kd.R_elder' (by (with_reducible repeat (first | apply Kd.R_alloc | apply Kd.R_drewN | apply Kd.R_drew)); exact HO_16.out) (Kd.R_base ho108) hb); replace HO441 := Aside0.mk (Kd.R_elder' (by (with_reducible repeat (first | apply Kd.R_alloc | apply Kd.R_drewN | apply Kd.R_drew)); exact HO441.out) (Kd.R_base ho108) hb); replace BK406 := bb BK406 hb rfl; replace BK407 := bb BK407 hb rfl; replace BK408 := bb BK408 hb rfl; replace HB := hst HB hb rfl
                   clear hb ho108
                   obtain ⟨Ao109, co109, eo109⟩ := Kd.R_slice HO437.out
                   subst eo109
                   obtain ⟨ado109, fo109, _⟩ := Kd.at_int (Kd.R_reads' HO437.out).2.2 0 (by decide) (by rw [Ny435.out]; simp)
                   cases fo109
                   refine hK.out _ _ ⟨bc BK406 0 rfl, bc BK406 1 rfl, bc BK407 0 rfl, bc BK407 1 rfl⟩ (fun hHeld => ?_)
                   clear hK K
                   refine norm_ (a' := ?_) ?_ ?_
                   rotate_left; · (show Act.put _ (some 89) _ = _; simp only [Act.put, List.setIfInBounds_toArray, List.set_cons_zero, List.set_cons_succ, i64_w, i32_w]; rfl)
                   refine pure_ (i := 7) (N := some 92) (v := ?_) (a' := ?_) #[true, true, true, true, true, true, true, true, false, true, true, true, true, true, true, true, true, true, false, false, false, false, false, false] rfl rfl (any_of HT_.out (by kernel_rfl)) (fun _ _ _ h => h) (Or.inl ⟨by rfl, ?_⟩) ?_ ?_
                   rotate_left; · (intro w'; go_simp; with_reducible rfl)
                   rotate_left; · (simp only [Act.put, List.setIfInBounds_toArray, List.set_cons_zero, List.set_cons_succ, i64_w, i32_w]; rfl)
                   exact norm_ (by simp only [putAll, Act.put, List.setIfInBounds_toArray, List.set_cons_zero, List.set_cons_succ] <;> rfl) (hJ4_13_17 (.slice (some ado109) y435.length co109, ado109, .slice (some adz_v440) y439.length co106, adz_v440) _ ⟨hHeld, (by (with_reducible repeat (first | apply Kd.R_alloc | apply Kd.R_drewN | apply Kd.R_drew)); exact Kd.R_mono HO437.out (fun _ hk => ⟨hk.2, hk.1.2⟩)), (by (with_reducible repeat (first | apply Kd.R_alloc | apply Kd.R_drewN | apply Kd.R_drew)); exact Kd.R_mono HO441.out (fun _ hk => ⟨hk.2, hk.1⟩)), (by (with_reducible repeat (first | apply Kd.R_alloc | apply Kd.R_drewN | apply Kd.R_drew)); exact Kd.R_mono HO_16.out (fun _ hk => ⟨hk.2, hk.1⟩)), ⟨_, rfl⟩, ⟨_, rfl⟩, BK406.out, BK407.out, BK408.out, (by repeat (first | (with_reducible first | exact HB.out | apply below_alloc | apply pw_below_drewN | apply below_drew1 | refine below_set ?_ GE406.out | refine below_set ?_ GE407.out | refine below_set ?_ GE408.out) | exact HB.out))⟩)
                 ·
                  skip
                  rintro ⟨v436, adz_v436, v440, adz_v440⟩ w108 ⟨hS_, h0_, h1_, h2_, h3_, h4_, h5_, h6_, h7_, h8_⟩
                  have n0_ : Aside0 (Kd.R (Kd.int .i64) 2 w108 w.heap.size (fun k_ => some k_ ≠ (v440 : Value).ownBlock ∧ some k_ ≠ (u16 : Value).ownBlock) v436 y435) := ⟨h0_⟩
                  have n1_ : Aside0 (Kd.R (Kd.int .i64) 2 w108 w.heap.size (fun k_ => some k_ ≠ (v436 : Value).ownBlock ∧ some k_ ≠ (u16 : Value).ownBlock) v440 y439) := ⟨h1_⟩
                  have n2_ : Aside0 (Kd.R (Kd.int .i64) 2 w108 w.heap.size (fun k_ => some k_ ≠ (v436 : Value).ownBlock ∧ some k_ ≠ (v440 : Value).ownBlock) u16 x16_1) := ⟨h2_⟩
                  have n3_ : Aside0 (∃ c_, (v436 : Value) = .slice (some adz_v436) y435.length c_) := ⟨h3_⟩
                  have n4_ : Aside0 (∃ c_, (v440 : Value) = .slice (some adz_v440) y439.length c_) := ⟨h4_⟩
                  have n5_ : Aside0 (w108.heap[gb406]? = some (.cells #[.int .i64 a1_0, .int .i64 a1_1] 56 (0, 0))) := ⟨h5_⟩
                  have n6_ : Aside0 (w108.heap[gb407]? = some (.cells #[.int .i64 a2_0, .int .i64 a2_1] 56 (0, 0))) := ⟨h6_⟩
                  have n7_ : Aside0 (w108.heap[gb408]? = some (.cells #[.int .i64 0, .int .i64 0] 56 (0, 0))) := ⟨h7_⟩
                  have n8_ : Aside0 (Below w.heap.size w w108) := ⟨h8_⟩
                  clear HO_16
                  clear BK406
                  clear BK407
                  clear BK408
                  clear HB
                  clear h0_ h1_ h2_ h3_ h4_ h5_ h6_ h7_ h8_
                  have HO437 := n0_
                  have HO441 := n1_
                  have HO_16 := n2_
                  have HA_HO437 := n3_
                  have HA_HO441 := n4_
                  have BK406 := n5_
                  have BK407 := n6_
                  have BK408 := n7_
                  have HB := n8_
                  clear n0_ n1_ n2_ n3_ n4_ n5_ n6_ n7_ n8_
                  have hHeld : w108.cell? ⟨gb406, 0, none⟩ = some (.int .i64 a1_0) ∧ w108.cell? ⟨gb406, 1, none⟩ = some (.int .i64 a1_1) ∧ w108.cell? ⟨gb407, 0, none⟩ = some (.int .i64 a2_0) ∧ w108.cell? ⟨gb407, 1, none⟩ = some (.int .i64 a2_1) := hS_
                  obtain ⟨co109, eo109⟩ := HA_HO437.out
                  clear HA_HO437
                  subst eo109
                  obtain ⟨co110, eo110⟩ := HA_HO441.out
                  clear HA_HO441
                  subst eo110
                  refine norm_ (a' := ?_) ?_ ?_
                  rotate_left
                  ·
                   simp only [putAll, Act.put, List.setIfInBounds_toArray, List.set_cons_zero, List.set_cons_succ]
                   rfl
                  refine two_ (i := 8) (j := 17) (Ni := some 93) (Nj := some 102) #[true, true, true, true, true, true, true, true, true, true, true, true, true, true, true, true, true, false, false, false, false, false, false, false] #[true, true, true, true, true, true, true, true, false, true, true, true, true, true, true, true, true, true, false, false, false, false, false, false] rfl rfl rfl rfl (two_of HT_.out (by kernel_rfl)) (by decide) (by decide) (fun K hK => ?_) (fun K hK => ?_)
                  ·
                   skip
                   (have p438 : 0 ≤ ((ji81) : Int) := of_decide_eq_true (by first | (with_reducible assumption) | assumption); have q438 : (ji81) < (y435.length : Int) := of_decide_eq_true (by first | (with_reducible assumption) | assumption); obtain ⟨ad438, e438, hx438_0⟩ := Kd.at_int (Kd.R_reads' HO437.out).2.2 (ji81) p438 q438; obtain rfl : adz_v436 = ad438 := (by injection e438))
                   refine value_ (w1 := ?_) (v := ?_) (by rfl) rfl ?_ ?_
                   rotate_left 2
                   ·
                    go_simp
                    constructor
                    ·
                     rfl
                    ·
                     rfl
                   clear hx438_0
                   refine hK.out _ _ ⟨bc BK406 0 rfl, bc BK406 1 rfl, bc BK407 0 rfl, bc BK407 1 rfl⟩ (fun hHeld => ?_)
                   clear hK K
                   refine norm_ (a' := ?_) ?_ ?_
                   rotate_left; · (show Act.put _ (some 93) _ = _; simp only [Act.put, List.setIfInBounds_toArray, List.set_cons_zero, List.set_cons_succ, i64_w, i32_w]; rfl)
                   exact norm_ (by simp only [putAll, Act.put, List.setIfInBounds_toArray, List.set_cons_zero, List.set_cons_succ] <;> rfl) (hJ4_8_13 (.slice (some adz_v436) y435.length co109, adz_v436, .slice (some adz_v440) y439.length co110, adz_v440) _ ⟨hHeld, (by (with_reducible repeat (first | apply Kd.R_alloc | apply Kd.R_drewN | apply Kd.R_drew)); exact HO437.out), (by (with_reducible repeat (first | apply Kd.R_alloc | apply Kd.R_drewN | apply Kd.R_drew)); exact HO441.out), (by (with_reducible repeat (first | apply Kd.R_alloc | apply Kd.R_drewN | apply Kd.R_drew)); exact HO_16.out), ⟨_, rfl⟩, ⟨_, rfl⟩, BK406.out, BK407.out, BK408.out, (by repeat (first | (with_reducible first | exact HB.out | apply below_alloc | apply pw_below_drewN | apply below_drew1 | refine below_set ?_ GE406.out | refine below_set ?_ GE407.out | refine below_set ?_ GE408.out) | exact HB.out))⟩)
                  ·
                   skip
                   (have p442 : 0 ≤ ((ji84) : Int) := of_decide_eq_true (by first | (with_reducible assumption) | assumption); have q442 : (ji84) < (y439.length : Int) := of_decide_eq_true (by first | (with_reducible assumption) | assumption); obtain ⟨ad442, e442, hx442_0⟩ := Kd.at_int (Kd.R_reads' HO441.out).2.2 (ji84) p442 q442; obtain rfl : adz_v440 = ad442 := (by injection e442))
                   refine value_ (w1 := ?_) (v := ?_) (by rfl) rfl ?_ ?_
                   rotate_left 2
                   ·
                    go_simp
                    constructor
                    ·
                     rfl
                    ·
                     rfl
                   clear hx442_0
                   refine hK.out _ _ ⟨bc BK406 0 rfl, bc BK406 1 rfl, bc BK407 0 rfl, bc BK407 1 rfl⟩ (fun hHeld => ?_)
                   clear hK K
                   refine norm_ (a' := ?_) ?_ ?_
                   rotate_left; · (show Act.put _ (some 102) _ = _; simp only [Act.put, List.setIfInBounds_toArray, List.set_cons_zero, List.set_cons_succ, i64_w, i32_w]; rfl)
                   exact norm_ (by simp only [putAll, Act.put, List.setIfInBounds_toArray, List.set_cons_zero, List.set_cons_succ] <;> rfl) (hJ4_13_17 (.slice (some adz_v436) y435.length co109, adz_v436, .slice (some adz_v440) y439.length co110, adz_v440) _ ⟨hHeld, (by (with_reducible repeat (first | apply Kd.R_alloc | apply Kd.R_drewN | apply Kd.R_drew)); exact HO437.out), (by (with_reducible repeat (first | apply Kd.R_alloc | apply Kd.R_drewN | apply Kd.R_drew)); exact HO441.out), (by (with_reducible repeat (first | apply Kd.R_alloc | apply Kd.R_drewN | apply Kd.R_drew)); exact HO_16.out), ⟨_, rfl⟩, ⟨_, rfl⟩, BK406.out, BK407.out, BK408.out, (by repeat (first | (with_reducible first | exact HB.out | apply below_alloc | apply pw_below_drewN | apply below_drew1 | refine below_set ?_ GE406.out | refine below_set ?_ GE407.out | refine below_set ?_ GE408.out) | exact HB.out))⟩)
                ·
                 skip
                 rintro ⟨v436, adz_v436⟩ w105 ⟨hS_, h0_, h1_, h2_, h3_, h4_, h5_, h6_⟩
                 have n0_ : Aside0 (Kd.R (Kd.int .i64) 2 w105 w.heap.size (fun k_ => some k_ ≠ (u16 : Value).ownBlock) v436 y435) := ⟨h0_⟩
                 have n1_ : Aside0 (Kd.R (Kd.int .i64) 2 w105 w.heap.size (fun k_ => some k_ ≠ (v436 : Value).ownBlock) u16 x16_1) := ⟨h1_⟩
                 have n2_ : Aside0 (∃ c_, (v436 : Value) = .slice (some adz_v436) y435.length c_) := ⟨h2_⟩
                 have n3_ : Aside0 (w105.heap[gb406]? = some (.cells #[.int .i64 a1_0, .int .i64 a1_1] 56 (0, 0))) := ⟨h3_⟩
                 have n4_ : Aside0 (w105.heap[gb407]? = some (.cells #[.int .i64 a2_0, .int .i64 a2_1] 56 (0, 0))) := ⟨h4_⟩
                 have n5_ : Aside0 (w105.heap[gb408]? = some (.cells #[.int .i64 0, .int .i64 0] 56 (0, 0))) := ⟨h5_⟩
                 have n6_ : Aside0 (Below w.heap.size w w105) := ⟨h6_⟩
                 clear HO_16
                 clear BK406
                 clear BK407
                 clear BK408
                 clear HB
                 clear h0_ h1_ h2_ h3_ h4_ h5_ h6_
                 have HO437 := n0_
                 have HO_16 := n1_
                 have HA_HO437 := n2_
                 have BK406 := n3_
                 have BK407 := n4_
                 have BK408 := n5_
                 have HB := n6_
                 clear n0_ n1_ n2_ n3_ n4_ n5_ n6_
                 have hHeld : w105.cell? ⟨gb406, 0, none⟩ = some (.int .i64 a1_0) ∧ w105.cell? ⟨gb406, 1, none⟩ = some (.int .i64 a1_1) ∧ w105.cell? ⟨gb407, 0, none⟩ = some (.int .i64 a2_0) ∧ w105.cell? ⟨gb407, 1, none⟩ = some (.int .i64 a2_1) := hS_
                 obtain ⟨co106, eo106⟩ := HA_HO437.out
                 clear HA_HO437
                 subst eo106
                 refine norm_ (a' := ?_) ?_ ?_
                 rotate_left
                 ·
                  simp only [putAll, Act.put, List.setIfInBounds_toArray, List.set_cons_zero, List.set_cons_succ]
                  rfl
                 refine one_ (i := 13) (N := some 98) #[true, true, true, true, true, true, true, true, true, true, true, true, true, true, true, true, false, false, false, false, false, false, false, false] rfl rfl (one_of HT_.out (by kernel_rfl)) (by decide) (fun K hK => ?_)
                 refine Kd.R_lit_step (Kd.int .i64) _ 2 ?hg (N := 98) ?hd (xs := ([a2_0, a2_1] : List Int)) (inner := [.int .i64 a2_0, .int .i64 a2_1]) (ok := fun _ => True) (okp := fun _ => True) ?hr ?hp (fun _ hk => hk) trivial (Below.refl _ _) (Nat.le_refl _) (by simp) ?_; (case hd => rfl); (case hg => rfl); (case hr => first | (go_simp; done) | (go_simp; rfl)); (case hp => exact (Reps.one (show Kd.M (Kd.int .i64) _ _ _ a2_0 [.int .i64 a2_0] from rfl) (Reps.one (show Kd.M (Kd.int .i64) _ _ _ a2_1 [.int .i64 a2_1] from rfl) (Reps.none _ _))))
                 intro v440 w107 ho108 hb hg_ hnew_
                 clear hg_ hnew_
                 (first | rw [← Ny439.out] at ho108 | (simp only [Int.reduceToNat] at ho108; rw [← Ny439.out] at ho108))
                 have HO441 := Aside0.mk (Kd.R_lower (Kd.R_new' (Kd.R_new' ho108 (Kd.R_lt (by (with_reducible repeat (first | apply Kd.R_alloc | apply Kd.R_drewN | apply Kd.R_drew)); exact HO_16.out))) (Kd.R_lt (by (with_reducible repeat (first | apply Kd.R_alloc | apply Kd.R_drewN | apply Kd.R_drew)); exact HO437.out))) (below_size HB.out))
                 replace HO_16 := Aside0.mk (Kd.R_elder' (by (with_reducible repeat (first | apply Kd.R_alloc | apply Kd.R_drewN | apply Kd.R_drew)); exact HO_16.out) (Kd.R_base ho108) hb); replace HO437 := Aside0.mk (Kd.R_elder' (by (with_reducible repeat (first | apply Kd.R_alloc | apply Kd.R_drewN | apply Kd.R_drew)); exact HO437.out) (Kd.R_base ho108) hb); replace BK406 := bb BK406 hb rfl; replace BK407 := bb BK407 hb rfl; replace BK408 := bb BK408 hb rfl; replace HB := hst HB hb rfl
                 clear hb ho108
                 obtain ⟨Ao109, co109, eo109⟩ := Kd.R_slice HO441.out
                 subst eo109
                 obtain ⟨ado109, fo109, _⟩ := Kd.at_int (Kd.R_reads' HO441.out).2.2 0 (by decide) (by rw [Ny439.out]; simp)
                 cases fo109
                 refine hK.out _ _ ⟨bc BK406 0 rfl, bc BK406 1 rfl, bc BK407 0 rfl, bc BK407 1 rfl⟩ (fun hHeld => ?_)
                 clear hK K
                 refine norm_ (a' := ?_) ?_ ?_
                 rotate_left; · (show Act.put _ (some 98) _ = _; simp only [Act.put, List.setIfInBounds_toArray, List.set_cons_zero, List.set_cons_succ, i64_w, i32_w]; rfl)
                 refine pure_ (i := 16) (N := some 101) (v := ?_) (a' := ?_) #[true, true, true, true, true, true, true, true, true, true, true, true, true, true, true, true, true, false, false, false, false, false, false, false] rfl rfl (any_of HT_.out (by kernel_rfl)) (fun _ _ _ h => h) (Or.inl ⟨by rfl, ?_⟩) ?_ ?_
                 rotate_left; · (intro w'; go_simp; with_reducible rfl)
                 rotate_left; · (simp only [Act.put, List.setIfInBounds_toArray, List.set_cons_zero, List.set_cons_succ, i64_w, i32_w]; rfl)
                 exact norm_ (by simp only [putAll, Act.put, List.setIfInBounds_toArray, List.set_cons_zero, List.set_cons_succ] <;> rfl) (hJ4_8_13 (.slice (some adz_v436) y435.length co106, adz_v436, .slice (some ado109) y439.length co109, ado109) _ ⟨hHeld, (by (with_reducible repeat (first | apply Kd.R_alloc | apply Kd.R_drewN | apply Kd.R_drew)); exact Kd.R_mono HO437.out (fun _ hk => ⟨hk.2, hk.1⟩)), (by (with_reducible repeat (first | apply Kd.R_alloc | apply Kd.R_drewN | apply Kd.R_drew)); exact Kd.R_mono HO441.out (fun _ hk => ⟨hk.2, hk.1.2⟩)), (by (with_reducible repeat (first | apply Kd.R_alloc | apply Kd.R_drewN | apply Kd.R_drew)); exact HO_16.out), ⟨_, rfl⟩, ⟨_, rfl⟩, BK406.out, BK407.out, BK408.out, (by repeat (first | (with_reducible first | exact HB.out | apply below_alloc | apply pw_below_drewN | apply below_drew1 | refine below_set ?_ GE406.out | refine below_set ?_ GE407.out | refine below_set ?_ GE408.out) | exact HB.out))⟩)
               ·
                skip
                rintro ⟨v436, adz_v436, v440, adz_v440⟩ w108 ⟨hS_, h0_, h1_, h2_, h3_, h4_, h5_, h6_, h7_, h8_⟩
                have n0_ : Aside0 (Kd.R (Kd.int .i64) 2 w108 w.heap.size (fun k_ => some k_ ≠ (v440 : Value).ownBlock ∧ some k_ ≠ (u16 : Value).ownBlock) v436 y435) := ⟨h0_⟩
                have n1_ : Aside0 (Kd.R (Kd.int .i64) 2 w108 w.heap.size (fun k_ => some k_ ≠ (v436 : Value).ownBlock ∧ some k_ ≠ (u16 : Value).ownBlock) v440 y439) := ⟨h1_⟩
                have n2_ : Aside0 (Kd.R (Kd.int .i64) 2 w108 w.heap.size (fun k_ => some k_ ≠ (v436 : Value).ownBlock ∧ some k_ ≠ (v440 : Value).ownBlock) u16 x16_1) := ⟨h2_⟩
                have n3_ : Aside0 (∃ c_, (v436 : Value) = .slice (some adz_v436) y435.length c_) := ⟨h3_⟩
                have n4_ : Aside0 (∃ c_, (v440 : Value) = .slice (some adz_v440) y439.length c_) := ⟨h4_⟩
                have n5_ : Aside0 (w108.heap[gb406]? = some (.cells #[.int .i64 a1_0, .int .i64 a1_1] 56 (0, 0))) := ⟨h5_⟩
                have n6_ : Aside0 (w108.heap[gb407]? = some (.cells #[.int .i64 a2_0, .int .i64 a2_1] 56 (0, 0))) := ⟨h6_⟩
                have n7_ : Aside0 (w108.heap[gb408]? = some (.cells #[.int .i64 0, .int .i64 0] 56 (0, 0))) := ⟨h7_⟩
                have n8_ : Aside0 (Below w.heap.size w w108) := ⟨h8_⟩
                clear HO_16
                clear BK406
                clear BK407
                clear BK408
                clear HB
                clear h0_ h1_ h2_ h3_ h4_ h5_ h6_ h7_ h8_
                have HO437 := n0_
                have HO441 := n1_
                have HO_16 := n2_
                have HA_HO437 := n3_
                have HA_HO441 := n4_
                have BK406 := n5_
                have BK407 := n6_
                have BK408 := n7_
                have HB := n8_
                clear n0_ n1_ n2_ n3_ n4_ n5_ n6_ n7_ n8_
                have hHeld : w108.cell? ⟨gb406, 0, none⟩ = some (.int .i64 a1_0) ∧ w108.cell? ⟨gb406, 1, none⟩ = some (.int .i64 a1_1) ∧ w108.cell? ⟨gb407, 0, none⟩ = some (.int .i64 a2_0) ∧ w108.cell? ⟨gb407, 1, none⟩ = some (.int .i64 a2_1) := hS_
                obtain ⟨co109, eo109⟩ := HA_HO437.out
                clear HA_HO437
                subst eo109
                obtain ⟨co110, eo110⟩ := HA_HO441.out
                clear HA_HO441
                subst eo110
                refine norm_ (a' := ?_) ?_ ?_
                rotate_left
                ·
                 simp only [putAll, Act.put, List.setIfInBounds_toArray, List.set_cons_zero, List.set_cons_succ]
                 rfl
                refine one_ (i := 8) (N := some 93) #[true, true, true, true, true, true, true, true, true, true, true, true, true, true, true, true, true, true, false, false, false, false, false, false] rfl rfl (one_of HT_.out (by kernel_rfl)) (by decide) (fun K hK => ?_)
                (have p438 : 0 ≤ ((ji81) : Int) := of_decide_eq_true (by first | (with_reducible assumption) | assumption); have q438 : (ji81) < (y435.length : Int) := of_decide_eq_true (by first | (with_reducible assumption) | assumption); obtain ⟨ad438, e438, hx438_0⟩ := Kd.at_int (Kd.R_reads' HO437.out).2.2 (ji81) p438 q438; obtain rfl : adz_v436 = ad438 := (by injection e438))
                refine value_ (w1 := ?_) (v := ?_) (by rfl) rfl ?_ ?_
                rotate_left 2
                ·
                 go_simp
                 constructor
                 ·
                  rfl
                 ·
                  rfl
                clear hx438_0
                refine hK.out _ _ ⟨bc BK406 0 rfl, bc BK406 1 rfl, bc BK407 0 rfl, bc BK407 1 rfl⟩ (fun hHeld => ?_)
                clear hK K
                refine norm_ (a' := ?_) ?_ ?_
                rotate_left; · (show Act.put _ (some 93) _ = _; simp only [Act.put, List.setIfInBounds_toArray, List.set_cons_zero, List.set_cons_succ, i64_w, i32_w]; rfl)
                exact norm_ (by simp only [putAll, Act.put, List.setIfInBounds_toArray, List.set_cons_zero, List.set_cons_succ] <;> rfl) (hJ4_8_13_17 (.slice (some adz_v436) y435.length co109, adz_v436, .slice (some adz_v440) y439.length co110, adz_v440) _ ⟨hHeld, (by (with_reducible repeat (first | apply Kd.R_alloc | apply Kd.R_drewN | apply Kd.R_drew)); exact HO437.out), (by (with_reducible repeat (first | apply Kd.R_alloc | apply Kd.R_drewN | apply Kd.R_drew)); exact HO441.out), (by (with_reducible repeat (first | apply Kd.R_alloc | apply Kd.R_drewN | apply Kd.R_drew)); exact HO_16.out), ⟨_, rfl⟩, ⟨_, rfl⟩, BK406.out, BK407.out, BK408.out, (by repeat (first | (with_reducible first | exact HB.out | apply below_alloc | apply pw_below_drewN | apply below_drew1 | refine below_set ?_ GE406.out | refine below_set ?_ GE407.out | refine below_set ?_ GE408.out) | exact HB.out))⟩)
              ·
               skip
               rintro ⟨v436, adz_v436, v440, adz_v440⟩ w108 ⟨hS_, h0_, h1_, h2_, h3_, h4_, h5_, h6_, h7_, h8_⟩
               have n0_ : Aside0 (Kd.R (Kd.int .i64) 2 w108 w.heap.size (fun k_ => some k_ ≠ (v440 : Value).ownBlock ∧ some k_ ≠ (u16 : Value).ownBlock) v436 y435) := ⟨h0_⟩
               have n1_ : Aside0 (Kd.R (Kd.int .i64) 2 w108 w.heap.size (fun k_ => some k_ ≠ (v436 : Value).ownBlock ∧ some k_ ≠ (u16 : Value).ownBlock) v440 y439) := ⟨h1_⟩
               have n2_ : Aside0 (Kd.R (Kd.int .i64) 2 w108 w.heap.size (fun k_ => some k_ ≠ (v436 : Value).ownBlock ∧ some k_ ≠ (v440 : Value).ownBlock) u16 x16_1) := ⟨h2_⟩
               have n3_ : Aside0 (∃ c_, (v436 : Value) = .slice (some adz_v436) y435.length c_) := ⟨h3_⟩
               have n4_ : Aside0 (∃ c_, (v440 : Value) = .slice (some adz_v440) y439.length c_) := ⟨h4_⟩
               have n5_ : Aside0 (w108.heap[gb406]? = some (.cells #[.int .i64 a1_0, .int .i64 a1_1] 56 (0, 0))) := ⟨h5_⟩
               have n6_ : Aside0 (w108.heap[gb407]? = some (.cells #[.int .i64 a2_0, .int .i64 a2_1] 56 (0, 0))) := ⟨h6_⟩
               have n7_ : Aside0 (w108.heap[gb408]? = some (.cells #[.int .i64 0, .int .i64 0] 56 (0, 0))) := ⟨h7_⟩
               have n8_ : Aside0 (Below w.heap.size w w108) := ⟨h8_⟩
               clear HO_16
               clear BK406
               clear BK407
               clear BK408
               clear HB
               clear h0_ h1_ h2_ h3_ h4_ h5_ h6_ h7_ h8_
               have HO437 := n0_
               have HO441 := n1_
               have HO_16 := n2_
               have HA_HO437 := n3_
               have HA_HO441 := n4_
               have BK406 := n5_
               have BK407 := n6_
               have BK408 := n7_
               have HB := n8_
               clear n0_ n1_ n2_ n3_ n4_ n5_ n6_ n7_ n8_
               have hHeld : w108.cell? ⟨gb406, 0, none⟩ = some (.int .i64 a1_0) ∧ w108.cell? ⟨gb406, 1, none⟩ = some (.int .i64 a1_1) ∧ w108.cell? ⟨gb407, 0, none⟩ = some (.int .i64 a2_0) ∧ w108.cell? ⟨gb407, 1, none⟩ = some (.int .i64 a2_1) := hS_
               obtain ⟨co109, eo109⟩ := HA_HO437.out
               clear HA_HO437
               subst eo109
               obtain ⟨co110, eo110⟩ := HA_HO441.out
               clear HA_HO441
               subst eo110
               refine norm_ (a' := ?_) ?_ ?_
               rotate_left
               ·
                simp only [putAll, Act.put, List.setIfInBounds_toArray, List.set_cons_zero, List.set_cons_succ]
                rfl
               refine one_ (i := 17) (N := some 102) #[true, true, true, true, true, true, true, true, true, true, true, true, true, true, true, true, true, true, false, false, false, false, false, false] rfl rfl (one_of HT_.out (by kernel_rfl)) (by decide) (fun K hK => ?_)
               (have p442 : 0 ≤ ((ji84) : Int) := of_decide_eq_true (by first | (with_reducible assumption) | assumption); have q442 : (ji84) < (y439.length : Int) := of_decide_eq_true (by first | (with_reducible assumption) | assumption); obtain ⟨ad442, e442, hx442_0⟩ := Kd.at_int (Kd.R_reads' HO441.out).2.2 (ji84) p442 q442; obtain rfl : adz_v440 = ad442 := (by injection e442))
               refine value_ (w1 := ?_) (v := ?_) (by rfl) rfl ?_ ?_
               rotate_left 2
               ·
                go_simp
                constructor
                ·
                 rfl
                ·
                 rfl
               clear hx442_0
               refine hK.out _ _ ⟨bc BK406 0 rfl, bc BK406 1 rfl, bc BK407 0 rfl, bc BK407 1 rfl⟩ (fun hHeld => ?_)
               clear hK K
               refine norm_ (a' := ?_) ?_ ?_
               rotate_left; · (show Act.put _ (some 102) _ = _; simp only [Act.put, List.setIfInBounds_toArray, List.set_cons_zero, List.set_cons_succ, i64_w, i32_w]; rfl)
               exact norm_ (by simp only [putAll, Act.put, List.setIfInBounds_toArray, List.set_cons_zero, List.set_cons_succ] <;> rfl) (hJ4_8_13_17 (.slice (some adz_v436) y435.length co109, adz_v436, .slice (some adz_v440) y439.length co110, adz_v440) _ ⟨hHeld, (by (with_reducible repeat (first | apply Kd.R_alloc | apply Kd.R_drewN | apply Kd.R_drew)); exact HO437.out), (by (with_reducible repeat (first | apply Kd.R_alloc | apply Kd.R_drewN | apply Kd.R_drew)); exact HO441.out), (by (with_reducible repeat (first | apply Kd.R_alloc | apply Kd.R_drewN | apply Kd.R_drew)); exact HO_16.out), ⟨_, rfl⟩, ⟨_, rfl⟩, BK406.out, BK407.out, BK408.out, (by repeat (first | (with_reducible first | exact HB.out | apply below_alloc | apply pw_below_drewN | apply below_drew1 | refine below_set ?_ GE406.out | refine below_set ?_ GE407.out | refine below_set ?_ GE408.out) | exact HB.out))⟩)
             rintro ⟨v436, adz_v436, v440, adz_v440⟩ w108 ⟨hS_, h0_, h1_, h2_, h3_, h4_, h5_, h6_, h7_, h8_⟩
             have n0_ : Aside0 (Kd.R (Kd.int .i64) 2 w108 w.heap.size (fun k_ => some k_ ≠ (v440 : Value).ownBlock ∧ some k_ ≠ (u16 : Value).ownBlock) v436 y435) := ⟨h0_⟩
             have n1_ : Aside0 (Kd.R (Kd.int .i64) 2 w108 w.heap.size (fun k_ => some k_ ≠ (v436 : Value).ownBlock ∧ some k_ ≠ (u16 : Value).ownBlock) v440 y439) := ⟨h1_⟩
             have n2_ : Aside0 (Kd.R (Kd.int .i64) 2 w108 w.heap.size (fun k_ => some k_ ≠ (v436 : Value).ownBlock ∧ some k_ ≠ (v440 : Value).ownBlock) u16 x16_1) := ⟨h2_⟩
             have n3_ : Aside0 (∃ c_, (v436 : Value) = .slice (some adz_v436) y435.length c_) := ⟨h3_⟩
             have n4_ : Aside0 (∃ c_, (v440 : Value) = .slice (some adz_v440) y439.length c_) := ⟨h4_⟩
             have n5_ : Aside0 (w108.heap[gb406]? = some (.cells #[.int .i64 a1_0, .int .i64 a1_1] 56 (0, 0))) := ⟨h5_⟩
             have n6_ : Aside0 (w108.heap[gb407]? = some (.cells #[.int .i64 a2_0, .int .i64 a2_1] 56 (0, 0))) := ⟨h6_⟩
             have n7_ : Aside0 (w108.heap[gb408]? = some (.cells #[.int .i64 0, .int .i64 0] 56 (0, 0))) := ⟨h7_⟩
             have n8_ : Aside0 (Below w.heap.size w w108) := ⟨h8_⟩
             clear HO_16
             clear BK406
             clear BK407
             clear BK408
             clear HB
             clear h0_ h1_ h2_ h3_ h4_ h5_ h6_ h7_ h8_
             have HO437 := n0_
             have HO441 := n1_
             have HO_16 := n2_
             have HA_HO437 := n3_
             have HA_HO441 := n4_
             have BK406 := n5_
             have BK407 := n6_
             have BK408 := n7_
             have HB := n8_
             clear n0_ n1_ n2_ n3_ n4_ n5_ n6_ n7_ n8_
             have hHeld : w108.cell? ⟨gb406, 0, none⟩ = some (.int .i64 a1_0) ∧ w108.cell? ⟨gb406, 1, none⟩ = some (.int .i64 a1_1) ∧ w108.cell? ⟨gb407, 0, none⟩ = some (.int .i64 a2_0) ∧ w108.cell? ⟨gb407, 1, none⟩ = some (.int .i64 a2_1) := hS_
             obtain ⟨co109, eo109⟩ := HA_HO437.out
             clear HA_HO437
             subst eo109
             obtain ⟨co110, eo110⟩ := HA_HO441.out
             clear HA_HO441
             subst eo110
             refine norm_ (a' := ?_) ?_ ?_
             rotate_left
             ·
              simp only [putAll, Act.put, List.setIfInBounds_toArray, List.set_cons_zero, List.set_cons_succ]
              rfl
             refine one_ (i := 18) (N := some 103) #[true, true, true, true, true, true, true, true, true, true, true, true, true, true, true, true, true, true, true, false, false, false, false, false] rfl rfl (one_of HT_.out (by kernel_rfl)) (by decide) (fun K hK => ?_)
             refine goes_ Try.func78 (by kernel_rfl) rfl #[.int .i64 (rd y435 (ji81)), .int .i64 (rd y439 (ji84))] (by rfl) rfl rfl (by (try simp only [List.map_toArray, List.map_cons, List.map_nil]); first | done | (simp only [hji81, hji84]; rfl) | rfl | (simp only [List.length_drop, List.length_take]; rfl)) ?_
             with_reducible refine (avermentref10_times.calls k1 (rd y435 (ji81)) (rd y439 (ji84)) t443 t444 _ A87.out).mono ?_
             rintro e w' ⟨rfl, ⟨nd, rfl⟩⟩
             refine ⟨_, rfl, ?_⟩
             refine hK.out _ _ ⟨bc BK406 0 rfl, bc BK406 1 rfl, bc BK407 0 rfl, bc BK407 1 rfl⟩ (fun hHeld => ?_)
             clear hK K
             refine norm_ (a' := ?_) ?_ ?_
             rotate_left; · (show Act.put _ (some 103) _ = _; simp only [Act.put, List.setIfInBounds_toArray, List.set_cons_zero, List.set_cons_succ, i64_w, i32_w]; rfl)
             refine pure_ (i := 19) (N := some 84) (v := ?_) (a' := ?_) #[true, true, true, true, true, true, true, true, true, true, true, true, true, true, true, true, true, true, true, true, false, false, false, false] rfl rfl (any_of HT_.out (by kernel_rfl)) (fun _ _ _ h => h) (Or.inl ⟨by rfl, ?_⟩) ?_ ?_
             rotate_left; · (intro w'; go_simp; with_reducible rfl)
             rotate_left; · (simp only [Act.put, List.setIfInBounds_toArray, List.set_cons_zero, List.set_cons_succ, i64_w, i32_w]; rfl)
             refine pure_ (i := 20) (N := some 104) (v := ?_) (a' := ?_) #[true, true, true, true, true, true, true, true, true, true, true, true, true, true, true, true, true, true, true, true, true, false, false, false] rfl rfl (any_of HT_.out (by kernel_rfl)) (fun _ _ _ h => h) (Or.inl ⟨by rfl, ?_⟩) ?_ ?_
             rotate_left; · (intro w'; go_simp; with_reducible rfl)
             rotate_left; · (simp only [Act.put, List.setIfInBounds_toArray, List.set_cons_zero, List.set_cons_succ, i64_w, i32_w]; rfl)
             refine pure_ (i := 21) (N := some 105) (v := ?_) (a' := ?_) #[true, true, true, true, true, true, true, true, true, true, true, true, true, true, true, true, true, true, true, true, true, true, false, false] rfl rfl (any_of HT_.out (by kernel_rfl)) (fun _ _ _ h => h) (Or.inl ⟨by rfl, ?_⟩) ?_ ?_
             rotate_left; · (intro w'; go_simp; with_reducible rfl)
             rotate_left; · (simp only [Act.put, List.setIfInBounds_toArray, List.set_cons_zero, List.set_cons_succ, i64_w, i32_w]; rfl)
             refine pure_ (i := 22) (N := some 19) (v := ?_) (a' := ?_) #[true, true, true, true, true, true, true, true, true, true, true, true, true, true, true, true, true, true, true, true, true, true, true, false] rfl rfl (any_of HT_.out (by kernel_rfl)) (fun _ _ _ h => h) (Or.inl ⟨by rfl, ?_⟩) ?_ ?_
             rotate_left; · (intro w'; go_simp; with_reducible rfl)
             rotate_left; · (simp only [Act.put, List.setIfInBounds_toArray, List.set_cons_zero, List.set_cons_succ, i64_w, i32_w]; rfl)
             refine pure_ (i := 23) (N := some 20) (v := ?_) (a' := ?_) #[true, true, true, true, true, true, true, true, true, true, true, true, true, true, true, true, true, true, true, true, true, true, true, true] rfl rfl (any_of HT_.out (by kernel_rfl)) (fun _ _ _ h => h) (Or.inl ⟨by rfl, ?_⟩) ?_ ?_
             rotate_left; · (intro w'; go_simp; with_reducible rfl)
             rotate_left; · (simp only [Act.put, List.setIfInBounds_toArray, List.set_cons_zero, List.set_cons_succ, i64_w, i32_w]; rfl)
             refine done_ (done_of HT_.out (by kernel_rfl)) ?_
             try go_wp2_with (first | ((with_reducible refine gate_builtin (b := .append) (xs := #[.tmp 106, .tmp 108]) rfl ?_); at_builtin; refine Kd.R_append (Kd.int .i64) (w0 := w) w.heap.size rfl (.tmp 106) (.tmp 108) 65 2 (.int .i64 0) 8 rfl Try.underlying65 info2 rfl (by decide) (by omega) u16 x16_1 t443 [.int .i64 t443] (fun k_ => some k_ ≠ (.slice (some adz_v436) y435.length co109 : Value).ownBlock ∧ some k_ ≠ (.slice (some adz_v440) y439.length co110 : Value).ownBlock) (fun _ => False) rfl rfl ?aP (fun _ hk => hk.elim) ?aF ?aO ?aB ?aS ?aL ?_; (case aP => exact rfl); (case aB => exact (by repeat (first | (with_reducible first | exact HB.out | apply below_alloc | apply pw_below_drewN | apply below_drew1 | refine below_set ?_ GE406.out | refine below_set ?_ GE407.out | refine below_set ?_ GE408.out) | exact HB.out))); (case aF => exact (fun k_ hk => ⟨Kd.fresh' (Kd.R_lt (by (with_reducible repeat (first | apply Kd.R_alloc | apply Kd.R_drewN | apply Kd.R_drew)); exact HO437.out)) k_ hk, Kd.fresh' (Kd.R_lt (by (with_reducible repeat (first | apply Kd.R_alloc | apply Kd.R_drewN | apply Kd.R_drew)); exact HO441.out)) k_ hk⟩)); (case aO => exact (by (with_reducible repeat (first | apply Kd.R_alloc | apply Kd.R_drewN | apply Kd.R_drew)); exact HO_16.out)); (case aS => exact (below_size (by repeat (first | (with_reducible first | exact HB.out | apply below_alloc | apply pw_below_drewN | apply below_drew1 | refine below_set ?_ GE406.out | refine below_set ?_ GE407.out | refine below_set ?_ GE408.out) | exact HB.out)))); (case aL => have := LMc88.out; omega); intro v446 w111 ho hb hg hat; rw [← Ny445.out] at ho; have HO447 := Aside0.mk (ho); replace BK406 := Aside0.mk (blk_grown (g := gb406) (o := .cells #[.int .i64 a1_0, .int .i64 a1_1] 56 (0, 0)) (by (with_reducible repeat (first | refine blk_drewN ?_ _ | refine blk_drew ?_ | refine blk_alloc ?_ _)); exact BK406.out) hg (Kd.R_ne HO_16.out BK406.out (by decide))); replace BK407 := Aside0.mk (blk_grown (g := gb407) (o := .cells #[.int .i64 a2_0, .int .i64 a2_1] 56 (0, 0)) (by (with_reducible repeat (first | refine blk_drewN ?_ _ | refine blk_drew ?_ | refine blk_alloc ?_ _)); exact BK407.out) hg (Kd.R_ne HO_16.out BK407.out (by decide))); replace BK408 := Aside0.mk (blk_grown (g := gb408) (o := .cells #[.int .i64 0, .int .i64 0] 56 (0, 0)) (by (with_reducible repeat (first | refine blk_drewN ?_ _ | refine blk_drew ?_ | refine blk_alloc ?_ _)); exact BK408.out) hg (Kd.R_ne HO_16.out BK408.out (by decide))); replace HO437 := Aside0.mk (Kd.R_after (ok := (fun k_ => some k_ ≠ (.slice (some adz_v440) y439.length co110 : Value).ownBlock)) (by (with_reducible repeat (first | apply Kd.R_alloc | apply Kd.R_drewN | apply Kd.R_drew)); exact HO437.out) hg hat); replace HO441 := Aside0.mk (Kd.R_after (ok := (fun k_ => some k_ ≠ (.slice (some adz_v436) y435.length co109 : Value).ownBlock)) (by (with_reducible repeat (first | apply Kd.R_alloc | apply Kd.R_drewN | apply Kd.R_drew)); exact HO441.out) hg hat); replace HB := Aside0.mk (hb); clear HO_16; clear ho hb hg hat))
             go_roundg k1
             case measure => have := HK1.out; omega
             case rel => exact ⟨(y445), (false), (wrap64 (x18_1 + 1)), (by first | rfl | (simp; done) | (simp [*]; done)), (by first | rfl | (simp; done) | (simp [*]; done)), H', ⟨by have := HK1.out; omega⟩, ⟨by (with_reducible repeat (first | apply Kd.R_alloc | apply Kd.R_drewN | apply Kd.R_drew)); exact Kd.R_mono HO447.out (fun _ hk => trivial)⟩, ⟨by (with_reducible repeat (first | refine blk_drewN ?_ _ | refine blk_drew ?_ | refine blk_alloc ?_ _)); exact BK406.out⟩, ⟨by (with_reducible repeat (first | refine blk_drewN ?_ _ | refine blk_drew ?_ | refine blk_alloc ?_ _)); exact BK407.out⟩, ⟨by (with_reducible repeat (first | refine blk_drewN ?_ _ | refine blk_drew ?_ | refine blk_alloc ?_ _)); exact BK408.out⟩, ⟨by repeat (first | (with_reducible first | exact HB.out | apply below_alloc | apply pw_below_drewN | apply below_drew1 | refine below_set ?_ GE406.out | refine below_set ?_ GE407.out | refine below_set ?_ GE408.out) | exact HB.out)⟩⟩
           ·
            rw [if_neg c88] at H
            exact absurd H (by simp)
          ·
           rw [if_neg c86] at H
           exact absurd H (by simp)
         ·
          rw [if_neg c85] at H
          exact absurd H (by simp)
        ·
         rw [if_neg c83] at H
         exact absurd H (by simp)
       ·
        rw [if_neg c82] at H
        exact absurd H (by simp)
      ·
       rw [if_neg c80] at H
       have c80b0 : decide (x18_1 < 4) = false := decide_eq_false c80
       clear c80
       replace H := Option.bind_eq_some_iff.mp H
       obtain ⟨⟨t448, t449, t450⟩, A1120, H⟩ := H
       (try dsimp only at H)
       have A112 := Aside0.mk A1120
       clear A1120
       simp only [Option.some.injEq, Prod.mk.injEq] at H
       obtain ⟨rfl, rfl, rfl⟩ := H
       obtain ⟨Ao113, co113, eo113⟩ := Kd.R_slice HO_16.out
       subst eo113
       go_wp2_with (first | ((with_reducible refine gate_callee (f := 76) rfl ?_); refine goesL_ (some 116) rfl rfl Try.func76 (by kernel_rfl) rfl #[.slice Ao113 x16_1.length co113, .bool x17_1] rfl (mapq rfl) ?_; (with_reducible refine (avermentref10_hull.calls k1 _ _ x16_1 x17_1 t448 t449 t450 _ ?side1 ?side2 A112.out).mono ?_); (case side1 => repeat (first | exact (Kd.R_reads' HO_16.out).2.2 | (with_reducible refine Kd.C_alloc ?_ _) | (with_reducible refine Kd.C_drewN ?_ _) | (with_reducible refine Kd.C_drew ?_))); (case side2 => exact (Kd.R_reads' HO_16.out).2.1); rintro e w114 ⟨rfl, hb⟩; refine ⟨_, rfl, ?_⟩; replace HO_16 := Aside0.mk (Kd.R_below (by (with_reducible repeat (first | apply Kd.R_alloc | apply Kd.R_drewN | apply Kd.R_drew)); exact HO_16.out) hb); replace BK406 := bb BK406 hb rfl; replace BK407 := bb BK407 hb rfl; replace BK408 := bb BK408 hb rfl; replace HB := hst HB hb rfl; (try clear hb); have hnb115 := NB408_406.out; have hnc115 := NB406_408.out; have hnb116 := NB408_407.out; have hnc116 := NB407_408.out; obtain ⟨hcz117_0, hcz117_1, hfz117_0, hfz117_1⟩ := c2 BK408))
       refine bodyPost_ret (results_ct rfl _ _ gb408 56 #[.int .i64 t448, .int .i64 t449] (0, 0) _ rfl (by (with_reducible repeat (first | refine blk_drewN ?_ _ | refine blk_drew ?_ | refine blk_alloc ?_ _)); refine blk_put (cs := #[.int .i64 t448, .int .i64 0]) ?_ 1 _ rfl; (with_reducible repeat (first | refine blk_drewN ?_ _ | refine blk_drew ?_ | refine blk_alloc ?_ _)); refine blk_put (cs := #[.int .i64 0, .int .i64 0]) ?_ 0 _ rfl; (with_reducible repeat (first | refine blk_drewN ?_ _ | refine blk_drew ?_ | refine blk_alloc ?_ _)); exact BK408.out) Try.underlying56 rfl (by kernel_rfl)) rfl ?_
       exact ⟨by first | rfl | (simp [*, errW_none, errW_some] <;> rfl), by repeat (first | (with_reducible first | exact HB.out | apply below_alloc | apply pw_below_drewN | apply below_drew1 | refine below_set ?_ GE406.out | refine below_set ?_ GE407.out | refine below_set ?_ GE408.out) | exact HB.out)⟩
   ·
    rw [if_neg c76] at H
    have c76b0 : (a0 == 6) = false := beq_eq_false_iff_ne.mpr c76
    have c76b1 : (a0 != 6) = true := bne_iff_ne.mpr c76
    by_cases c118 : a0 = 7
    ·
     rw [if_pos c118] at H
     have c118b0 : (a0 == 7) = true := beq_iff_eq.mpr c118
     have c118b1 : (a0 != 7) = false := bne_eq_false_iff_eq.mpr c118
     clear c118
     replace H := Option.bind_eq_some_iff.mp H
     obtain ⟨⟨t451, t452, t453⟩, A1190, H⟩ := H
     (try dsimp only at H)
     have A119 := Aside0.mk A1190
     clear A1190
     simp only [Option.some.injEq, Prod.mk.injEq] at H
     obtain ⟨rfl, rfl, rfl⟩ := H
     go_enter Try.func56, Try.ntmps56
     go_wp2_with (first | ((with_reducible refine gate_dst (N := 4) rfl ?_); refine box_event ?hg (N := 4) ?hd (cs := #[.int .i64 a1_0, .int .i64 a1_1]) (t := 56) ?hr ?_; (case hd => rfl); (case hg => rfl); (case hr => first | (go_simp; done) | (go_simp; rfl)); intro gb406 hg w120 hbox hb; have BK406 := Aside0.mk (hbox); have GW406 := geb hg HB rfl; have GE406 := geb hg HB rfl; replace HB := hst HB hb rfl; clear hb hbox hg) | ((with_reducible refine gate_dst (N := 5) rfl ?_); refine box_event ?hg (N := 5) ?hd (cs := #[.int .i64 a2_0, .int .i64 a2_1]) (t := 56) ?hr ?_; (case hd => rfl); (case hg => rfl); (case hr => first | (go_simp; done) | (go_simp; rfl)); intro gb407 hg w121 hbox hb; have BK407 := Aside0.mk (hbox); have GW407 := geb hg HB rfl; have GE407 := geb hg HB rfl; have NB406_407 := nbl hg BK406 rfl; have NB407_406 := nbr hg BK406 rfl; replace BK406 := bb BK406 hb rfl; replace HB := hst HB hb rfl; clear hb hbox hg) | ((with_reducible refine gate_dst (N := 6) rfl ?_); refine box_event ?hg (N := 6) ?hd (cs := #[.int .i64 0, .int .i64 0]) (t := 56) ?hr ?_; (case hd => rfl); (case hg => rfl); (case hr => first | (go_simp; done) | (go_simp; rfl)); intro gb408 hg w122 hbox hb; have BK408 := Aside0.mk (hbox); have GW408 := geb hg HB rfl; have GE408 := geb hg HB rfl; have NB406_408 := nbl hg BK406 rfl; have NB408_406 := nbr hg BK406 rfl; have NB407_408 := nbl hg BK407 rfl; have NB408_407 := nbr hg BK407 rfl; replace BK406 := bb BK406 hb rfl; replace BK407 := bb BK407 hb rfl; replace HB := hst HB hb rfl; clear hb hbox hg; have hnb123 := NB406_407.out; have hnc123 := NB407_406.out; have hnb124 := NB406_408.out; have hnc124 := NB408_406.out; obtain ⟨hcz125_0, hcz125_1, hfz125_0, hfz125_1⟩ := c2 BK406; have hnb126 := NB407_408.out; have hnc126 := NB408_407.out; obtain ⟨hcz127_0, hcz127_1, hfz127_0, hfz127_1⟩ := c2 BK407) | ((with_reducible refine gate_callee (f := 79) rfl ?_); refine goesL_ (some 123) rfl rfl Try.func79 (by kernel_rfl) rfl #[.agg #[.int .i64 a1_0, .int .i64 a1_1], .agg #[.int .i64 a2_0, .int .i64 a2_1]] rfl (mapq rfl) ?_; (with_reducible refine (avermentref10_div.calls k a1_0 a1_1 a2_0 a2_1 t451 t452 t453 _ A119.out).mono ?_); rintro e w128 ⟨rfl, hb⟩; refine ⟨_, rfl, ?_⟩; replace BK406 := bb BK406 hb rfl; replace BK407 := bb BK407 hb rfl; replace BK408 := bb BK408 hb rfl; replace HB := hst HB hb rfl; (try clear hb); obtain ⟨hcz129_0, hcz129_1, hfz129_0, hfz129_1⟩ := c2 BK408))
     refine bodyPost_ret (results_ct rfl _ _ gb408 56 #[.int .i64 t451, .int .i64 t452] (0, 0) _ rfl (by (with_reducible repeat (first | refine blk_drewN ?_ _ | refine blk_drew ?_ | refine blk_alloc ?_ _)); refine blk_put (cs := #[.int .i64 t451, .int .i64 0]) ?_ 1 _ rfl; (with_reducible repeat (first | refine blk_drewN ?_ _ | refine blk_drew ?_ | refine blk_alloc ?_ _)); refine blk_put (cs := #[.int .i64 0, .int .i64 0]) ?_ 0 _ rfl; (with_reducible repeat (first | refine blk_drewN ?_ _ | refine blk_drew ?_ | refine blk_alloc ?_ _)); exact BK408.out) Try.underlying56 rfl (by kernel_rfl)) rfl ?_
     exact ⟨by first | rfl | (simp [*, errW_none, errW_some] <;> rfl), by repeat (first | (with_reducible first | exact HB.out | apply below_alloc | apply pw_below_drewN | apply below_drew1 | refine below_set ?_ GE406.out | refine below_set ?_ GE407.out | refine below_set ?_ GE408.out) | exact HB.out)⟩
    ·
     rw [if_neg c118] at H
     have c118b0 : (a0 == 7) = false := beq_eq_false_iff_ne.mpr c118
     have c118b1 : (a0 != 7) = true := bne_iff_ne.mpr c118
     by_cases c130 : a0 = 8
     ·
      rw [if_pos c130] at H
      have c130b0 : (a0 == 8) = true := beq_iff_eq.mpr c130
      have c130b1 : (a0 != 8) = false := bne_eq_false_iff_eq.mpr c130
      clear c130
      replace H := Option.bind_eq_some_iff.mp H
      obtain ⟨⟨t454, t455, t456⟩, A1310, H⟩ := H
      (try dsimp only at H)
      have A131 := Aside0.mk A1310
      clear A1310
      simp only [Option.some.injEq, Prod.mk.injEq] at H
      obtain ⟨rfl, rfl, rfl⟩ := H
      go_enter Try.func56, Try.ntmps56
      go_wp2_with (first | ((with_reducible refine gate_dst (N := 4) rfl ?_); refine box_event ?hg (N := 4) ?hd (cs := #[.int .i64 a1_0, .int .i64 a1_1]) (t := 56) ?hr ?_; (case hd => rfl); (case hg => rfl); (case hr => first | (go_simp; done) | (go_simp; rfl)); intro gb406 hg w132 hbox hb; have BK406 := Aside0.mk (hbox); have GW406 := geb hg HB rfl; have GE406 := geb hg HB rfl; replace HB := hst HB hb rfl; clear hb hbox hg) | ((with_reducible refine gate_dst (N := 5) rfl ?_); refine box_event ?hg (N := 5) ?hd (cs := #[.int .i64 a2_0, .int .i64 a2_1]) (t := 56) ?hr ?_; (case hd => rfl); (case hg => rfl); (case hr => first | (go_simp; done) | (go_simp; rfl)); intro gb407 hg w133 hbox hb; have BK407 := Aside0.mk (hbox); have GW407 := geb hg HB rfl; have GE407 := geb hg HB rfl; have NB406_407 := nbl hg BK406 rfl; have NB407_406 := nbr hg BK406 rfl; replace BK406 := bb BK406 hb rfl; replace HB := hst HB hb rfl; clear hb hbox hg) | ((with_reducible refine gate_dst (N := 6) rfl ?_); refine box_event ?hg (N := 6) ?hd (cs := #[.int .i64 0, .int .i64 0]) (t := 56) ?hr ?_; (case hd => rfl); (case hg => rfl); (case hr => first | (go_simp; done) | (go_simp; rfl)); intro gb408 hg w134 hbox hb; have BK408 := Aside0.mk (hbox); have GW408 := geb hg HB rfl; have GE408 := geb hg HB rfl; have NB406_408 := nbl hg BK406 rfl; have NB408_406 := nbr hg BK406 rfl; have NB407_408 := nbl hg BK407 rfl; have NB408_407 := nbr hg BK407 rfl; replace BK406 := bb BK406 hb rfl; replace BK407 := bb BK407 hb rfl; replace HB := hst HB hb rfl; clear hb hbox hg; have hnb135 := NB406_407.out; have hnc135 := NB407_406.out; have hnb136 := NB406_408.out; have hnc136 := NB408_406.out; obtain ⟨hcz137_0, hcz137_1, hfz137_0, hfz137_1⟩ := c2 BK406; have hnb138 := NB407_408.out; have hnc138 := NB408_407.out; obtain ⟨hcz139_0, hcz139_1, hfz139_0, hfz139_1⟩ := c2 BK407) | ((with_reducible refine gate_callee (f := 80) rfl ?_); refine goesL_ (some 130) rfl rfl Try.func80 (by kernel_rfl) rfl #[.agg #[.int .i64 a1_0, .int .i64 a1_1], .agg #[.int .i64 a2_0, .int .i64 a2_1]] rfl (mapq rfl) ?_; (with_reducible refine (avermentref10_rem.calls k a1_0 a1_1 a2_0 a2_1 t454 t455 t456 _ A131.out).mono ?_); rintro e w140 ⟨rfl, hb⟩; refine ⟨_, rfl, ?_⟩; replace BK406 := bb BK406 hb rfl; replace BK407 := bb BK407 hb rfl; replace BK408 := bb BK408 hb rfl; replace HB := hst HB hb rfl; (try clear hb); obtain ⟨hcz141_0, hcz141_1, hfz141_0, hfz141_1⟩ := c2 BK408))
      refine bodyPost_ret (results_ct rfl _ _ gb408 56 #[.int .i64 t454, .int .i64 t455] (0, 0) _ rfl (by (with_reducible repeat (first | refine blk_drewN ?_ _ | refine blk_drew ?_ | refine blk_alloc ?_ _)); refine blk_put (cs := #[.int .i64 t454, .int .i64 0]) ?_ 1 _ rfl; (with_reducible repeat (first | refine blk_drewN ?_ _ | refine blk_drew ?_ | refine blk_alloc ?_ _)); refine blk_put (cs := #[.int .i64 0, .int .i64 0]) ?_ 0 _ rfl; (with_reducible repeat (first | refine blk_drewN ?_ _ | refine blk_drew ?_ | refine blk_alloc ?_ _)); exact BK408.out) Try.underlying56 rfl (by kernel_rfl)) rfl ?_
      exact ⟨by first | rfl | (simp [*, errW_none, errW_some] <;> rfl), by repeat (first | (with_reducible first | exact HB.out | apply below_alloc | apply pw_below_drewN | apply below_drew1 | refine below_set ?_ GE406.out | refine below_set ?_ GE407.out | refine below_set ?_ GE408.out) | exact HB.out)⟩
     ·
      rw [if_neg c130] at H
      have c130b0 : (a0 == 8) = false := beq_eq_false_iff_ne.mpr c130
      have c130b1 : (a0 != 8) = true := bne_iff_ne.mpr c130
      by_cases c142 : a0 = 9
      ·
       rw [if_pos c142] at H
       have c142b0 : (a0 == 9) = true := beq_iff_eq.mpr c142
       have c142b1 : (a0 != 9) = false := bne_eq_false_iff_eq.mpr c142
       clear c142
       replace H := Option.bind_eq_some_iff.mp H
       obtain ⟨⟨t457, t458⟩, A1430, H⟩ := H
       (try dsimp only at H)
       have A143 := Aside0.mk A1430
       clear A1430
       simp only [Option.some.injEq, Prod.mk.injEq] at H
       obtain ⟨rfl, rfl, rfl⟩ := H
       go_enter Try.func56, Try.ntmps56
       go_wp2_with (first | ((with_reducible refine gate_dst (N := 4) rfl ?_); refine box_event ?hg (N := 4) ?hd (cs := #[.int .i64 a1_0, .int .i64 a1_1]) (t := 56) ?hr ?_; (case hd => rfl); (case hg => rfl); (case hr => first | (go_simp; done) | (go_simp; rfl)); intro gb406 hg w144 hbox hb; have BK406 := Aside0.mk (hbox); have GW406 := geb hg HB rfl; have GE406 := geb hg HB rfl; replace HB := hst HB hb rfl; clear hb hbox hg) | ((with_reducible refine gate_dst (N := 5) rfl ?_); refine box_event ?hg (N := 5) ?hd (cs := #[.int .i64 a2_0, .int .i64 a2_1]) (t := 56) ?hr ?_; (case hd => rfl); (case hg => rfl); (case hr => first | (go_simp; done) | (go_simp; rfl)); intro gb407 hg w145 hbox hb; have BK407 := Aside0.mk (hbox); have GW407 := geb hg HB rfl; have GE407 := geb hg HB rfl; have NB406_407 := nbl hg BK406 rfl; have NB407_406 := nbr hg BK406 rfl; replace BK406 := bb BK406 hb rfl; replace HB := hst HB hb rfl; clear hb hbox hg) | ((with_reducible refine gate_dst (N := 6) rfl ?_); refine box_event ?hg (N := 6) ?hd (cs := #[.int .i64 0, .int .i64 0]) (t := 56) ?hr ?_; (case hd => rfl); (case hg => rfl); (case hr => first | (go_simp; done) | (go_simp; rfl)); intro gb408 hg w146 hbox hb; have BK408 := Aside0.mk (hbox); have GW408 := geb hg HB rfl; have GE408 := geb hg HB rfl; have NB406_408 := nbl hg BK406 rfl; have NB408_406 := nbr hg BK406 rfl; have NB407_408 := nbl hg BK407 rfl; have NB408_407 := nbr hg BK407 rfl; replace BK406 := bb BK406 hb rfl; replace BK407 := bb BK407 hb rfl; replace HB := hst HB hb rfl; clear hb hbox hg; have hnb147 := NB406_407.out; have hnc147 := NB407_406.out; have hnb148 := NB406_408.out; have hnc148 := NB408_406.out; obtain ⟨hcz149_0, hcz149_1, hfz149_0, hfz149_1⟩ := c2 BK406; have hnb150 := NB407_408.out; have hnc150 := NB408_407.out; obtain ⟨hcz151_0, hcz151_1, hfz151_0, hfz151_1⟩ := c2 BK407) | ((with_reducible refine gate_callee (f := 81) rfl ?_); refine goesL_ (some 137) rfl rfl Try.func81 (by kernel_rfl) rfl #[.agg #[.int .i64 a1_0, .int .i64 a1_1], .agg #[.int .i64 a2_0, .int .i64 a2_1]] rfl (mapq rfl) ?_; (with_reducible refine (avermentref10_and.calls k a1_0 a1_1 a2_0 a2_1 t457 t458 _ A143.out).mono ?_); rintro e w152 ⟨rfl, hb⟩; refine ⟨_, rfl, ?_⟩; replace BK406 := bb BK406 hb rfl; replace BK407 := bb BK407 hb rfl; replace BK408 := bb BK408 hb rfl; replace HB := hst HB hb rfl; (try clear hb); obtain ⟨hcz153_0, hcz153_1, hfz153_0, hfz153_1⟩ := c2 BK408))
       refine bodyPost_ret (results_ct rfl _ _ gb408 56 #[.int .i64 t457, .int .i64 t458] (0, 0) _ rfl (by (with_reducible repeat (first | refine blk_drewN ?_ _ | refine blk_drew ?_ | refine blk_alloc ?_ _)); refine blk_put (cs := #[.int .i64 t457, .int .i64 0]) ?_ 1 _ rfl; (with_reducible repeat (first | refine blk_drewN ?_ _ | refine blk_drew ?_ | refine blk_alloc ?_ _)); refine blk_put (cs := #[.int .i64 0, .int .i64 0]) ?_ 0 _ rfl; (with_reducible repeat (first | refine blk_drewN ?_ _ | refine blk_drew ?_ | refine blk_alloc ?_ _)); exact BK408.out) Try.underlying56 rfl (by kernel_rfl)) rfl ?_
       exact ⟨by first | rfl | (simp [*, errW_none, errW_some] <;> rfl), by repeat (first | (with_reducible first | exact HB.out | apply below_alloc | apply pw_below_drewN | apply below_drew1 | refine below_set ?_ GE406.out | refine below_set ?_ GE407.out | refine below_set ?_ GE408.out) | exact HB.out)⟩
      ·
       rw [if_neg c142] at H
       have c142b0 : (a0 == 9) = false := beq_eq_false_iff_ne.mpr c142
       have c142b1 : (a0 != 9) = true := bne_iff_ne.mpr c142
       by_cases c154 : a0 = 10
       ·
        rw [if_pos c154] at H
        have c154b0 : (a0 == 10) = true := beq_iff_eq.mpr c154
        have c154b1 : (a0 != 10) = false := bne_eq_false_iff_eq.mpr c154
        clear c154
        replace H := Option.bind_eq_some_iff.mp H
        obtain ⟨⟨t459, t460⟩, A1550, H⟩ := H
        (try dsimp only at H)
        have A155 := Aside0.mk A1550
        clear A1550
        simp only [Option.some.injEq, Prod.mk.injEq] at H
        obtain ⟨rfl, rfl, rfl⟩ := H
        go_enter Try.func56, Try.ntmps56
        go_wp2_with (first | ((with_reducible refine gate_dst (N := 4) rfl ?_); refine box_event ?hg (N := 4) ?hd (cs := #[.int .i64 a1_0, .int .i64 a1_1]) (t := 56) ?hr ?_; (case hd => rfl); (case hg => rfl); (case hr => first | (go_simp; done) | (go_simp; rfl)); intro gb406 hg w156 hbox hb; have BK406 := Aside0.mk (hbox); have GW406 := geb hg HB rfl; have GE406 := geb hg HB rfl; replace HB := hst HB hb rfl; clear hb hbox hg) | ((with_reducible refine gate_dst (N := 5) rfl ?_); refine box_event ?hg (N := 5) ?hd (cs := #[.int .i64 a2_0, .int .i64 a2_1]) (t := 56) ?hr ?_; (case hd => rfl); (case hg => rfl); (case hr => first | (go_simp; done) | (go_simp; rfl)); intro gb407 hg w157 hbox hb; have BK407 := Aside0.mk (hbox); have GW407 := geb hg HB rfl; have GE407 := geb hg HB rfl; have NB406_407 := nbl hg BK406 rfl; have NB407_406 := nbr hg BK406 rfl; replace BK406 := bb BK406 hb rfl; replace HB := hst HB hb rfl; clear hb hbox hg) | ((with_reducible refine gate_dst (N := 6) rfl ?_); refine box_event ?hg (N := 6) ?hd (cs := #[.int .i64 0, .int .i64 0]) (t := 56) ?hr ?_; (case hd => rfl); (case hg => rfl); (case hr => first | (go_simp; done) | (go_simp; rfl)); intro gb408 hg w158 hbox hb; have BK408 := Aside0.mk (hbox); have GW408 := geb hg HB rfl; have GE408 := geb hg HB rfl; have NB406_408 := nbl hg BK406 rfl; have NB408_406 := nbr hg BK406 rfl; have NB407_408 := nbl hg BK407 rfl; have NB408_407 := nbr hg BK407 rfl; replace BK406 := bb BK406 hb rfl; replace BK407 := bb BK407 hb rfl; replace HB := hst HB hb rfl; clear hb hbox hg; have hnb159 := NB406_407.out; have hnc159 := NB407_406.out; have hnb160 := NB406_408.out; have hnc160 := NB408_406.out; obtain ⟨hcz161_0, hcz161_1, hfz161_0, hfz161_1⟩ := c2 BK406; have hnb162 := NB407_408.out; have hnc162 := NB408_407.out; obtain ⟨hcz163_0, hcz163_1, hfz163_0, hfz163_1⟩ := c2 BK407) | ((with_reducible refine gate_callee (f := 82) rfl ?_); refine goesL_ (some 142) rfl rfl Try.func82 (by kernel_rfl) rfl #[.agg #[.int .i64 a1_0, .int .i64 a1_1], .agg #[.int .i64 a2_0, .int .i64 a2_1]] rfl (mapq rfl) ?_; (with_reducible refine (avermentref10_xor.calls k a1_0 a1_1 a2_0 a2_1 t459 t460 _ A155.out).mono ?_); rintro e w164 ⟨rfl, hb⟩; refine ⟨_, rfl, ?_⟩; replace BK406 := bb BK406 hb rfl; replace BK407 := bb BK407 hb rfl; replace BK408 := bb BK408 hb rfl; replace HB := hst HB hb rfl; (try clear hb); obtain ⟨hcz165_0, hcz165_1, hfz165_0, hfz165_1⟩ := c2 BK408))
        refine bodyPost_ret (results_ct rfl _ _ gb408 56 #[.int .i64 t459, .int .i64 t460] (0, 0) _ rfl (by (with_reducible repeat (first | refine blk_drewN ?_ _ | refine blk_drew ?_ | refine blk_alloc ?_ _)); refine blk_put (cs := #[.int .i64 t459, .int .i64 0]) ?_ 1 _ rfl; (with_reducible repeat (first | refine blk_drewN ?_ _ | refine blk_drew ?_ | refine blk_alloc ?_ _)); refine blk_put (cs := #[.int .i64 0, .int .i64 0]) ?_ 0 _ rfl; (with_reducible repeat (first | refine blk_drewN ?_ _ | refine blk_drew ?_ | refine blk_alloc ?_ _)); exact BK408.out) Try.underlying56 rfl (by kernel_rfl)) rfl ?_
        exact ⟨by first | rfl | (simp [*, errW_none, errW_some] <;> rfl), by repeat (first | (with_reducible first | exact HB.out | apply below_alloc | apply pw_below_drewN | apply below_drew1 | refine below_set ?_ GE406.out | refine below_set ?_ GE407.out | refine below_set ?_ GE408.out) | exact HB.out)⟩
       ·
        rw [if_neg c154] at H
        have c154b0 : (a0 == 10) = false := beq_eq_false_iff_ne.mpr c154
        have c154b1 : (a0 != 10) = true := bne_iff_ne.mpr c154
        by_cases c166 : a0 = 11
        ·
         rw [if_pos c166] at H
         have c166b0 : (a0 == 11) = true := beq_iff_eq.mpr c166
         have c166b1 : (a0 != 11) = false := bne_eq_false_iff_eq.mpr c166
         clear c166
         by_cases c167 : a1_1 < a2_0
         ·
          rw [if_pos c167] at H
          have c167b0 : decide (a1_1 < a2_0) = true := decide_eq_true c167
          clear c167
          simp only [Option.some.injEq, Prod.mk.injEq] at H
          obtain ⟨rfl, rfl, rfl⟩ := H
          go_enter Try.func56, Try.ntmps56
          go_wp2_with (first | ((with_reducible refine gate_dst (N := 4) rfl ?_); refine box_event ?hg (N := 4) ?hd (cs := #[.int .i64 a1_0, .int .i64 a1_1]) (t := 56) ?hr ?_; (case hd => rfl); (case hg => rfl); (case hr => first | (go_simp; done) | (go_simp; rfl)); intro gb406 hg w168 hbox hb; have BK406 := Aside0.mk (hbox); have GW406 := geb hg HB rfl; have GE406 := geb hg HB rfl; replace HB := hst HB hb rfl; clear hb hbox hg) | ((with_reducible refine gate_dst (N := 5) rfl ?_); refine box_event ?hg (N := 5) ?hd (cs := #[.int .i64 a2_0, .int .i64 a2_1]) (t := 56) ?hr ?_; (case hd => rfl); (case hg => rfl); (case hr => first | (go_simp; done) | (go_simp; rfl)); intro gb407 hg w169 hbox hb; have BK407 := Aside0.mk (hbox); have GW407 := geb hg HB rfl; have GE407 := geb hg HB rfl; have NB406_407 := nbl hg BK406 rfl; have NB407_406 := nbr hg BK406 rfl; replace BK406 := bb BK406 hb rfl; replace HB := hst HB hb rfl; clear hb hbox hg) | ((with_reducible refine gate_dst (N := 6) rfl ?_); refine box_event ?hg (N := 6) ?hd (cs := #[.int .i64 0, .int .i64 0]) (t := 56) ?hr ?_; (case hd => rfl); (case hg => rfl); (case hr => first | (go_simp; done) | (go_simp; rfl)); intro gb408 hg w170 hbox hb; have BK408 := Aside0.mk (hbox); have GW408 := geb hg HB rfl; have GE408 := geb hg HB rfl; have NB406_408 := nbl hg BK406 rfl; have NB408_406 := nbr hg BK406 rfl; have NB407_408 := nbl hg BK407 rfl; have NB408_407 := nbr hg BK407 rfl; replace BK406 := bb BK406 hb rfl; replace BK407 := bb BK407 hb rfl; replace HB := hst HB hb rfl; clear hb hbox hg; have hnb171 := NB406_407.out; have hnc171 := NB407_406.out; have hnb172 := NB406_408.out; have hnc172 := NB408_406.out; obtain ⟨hcz173_0, hcz173_1, hfz173_0, hfz173_1⟩ := c2 BK406; have hnb174 := NB407_408.out; have hnc174 := NB408_407.out; obtain ⟨hcz175_0, hcz175_1, hfz175_0, hfz175_1⟩ := c2 BK407; obtain ⟨hcz176_0, hcz176_1, hfz176_0, hfz176_1⟩ := c2 BK408))
          refine bodyPost_ret (results_ct rfl _ _ gb408 56 #[.int .i64 1, .int .i64 1] (0, 0) _ rfl (by (with_reducible repeat (first | refine blk_drewN ?_ _ | refine blk_drew ?_ | refine blk_alloc ?_ _)); refine blk_put (cs := #[.int .i64 1, .int .i64 0]) ?_ 1 _ rfl; (with_reducible repeat (first | refine blk_drewN ?_ _ | refine blk_drew ?_ | refine blk_alloc ?_ _)); refine blk_put (cs := #[.int .i64 0, .int .i64 0]) ?_ 0 _ rfl; (with_reducible repeat (first | refine blk_drewN ?_ _ | refine blk_drew ?_ | refine blk_alloc ?_ _)); exact BK408.out) Try.underlying56 rfl (by kernel_rfl)) rfl ?_
          exact ⟨by first | rfl | (simp [*, errW_none, errW_some] <;> rfl), by repeat (first | (with_reducible first | exact HB.out | apply below_alloc | apply pw_below_drewN | apply below_drew1 | refine below_set ?_ GE406.out | refine below_set ?_ GE407.out | refine below_set ?_ GE408.out) | exact HB.out)⟩
         ·
          rw [if_neg c167] at H
          have c167b0 : decide (a1_1 < a2_0) = false := decide_eq_false c167
          clear c167
          by_cases c177 : a1_0 ≥ a2_1
          ·
           rw [if_pos c177] at H
           have c177b0 : decide (a2_1 ≤ a1_0) = true := decide_eq_true c177
           clear c177
           simp only [Option.some.injEq, Prod.mk.injEq] at H
           obtain ⟨rfl, rfl, rfl⟩ := H
           go_enter Try.func56, Try.ntmps56
           go_wp2_with (first | ((with_reducible refine gate_dst (N := 4) rfl ?_); refine box_event ?hg (N := 4) ?hd (cs := #[.int .i64 a1_0, .int .i64 a1_1]) (t := 56) ?hr ?_; (case hd => rfl); (case hg => rfl); (case hr => first | (go_simp; done) | (go_simp; rfl)); intro gb406 hg w178 hbox hb; have BK406 := Aside0.mk (hbox); have GW406 := geb hg HB rfl; have GE406 := geb hg HB rfl; replace HB := hst HB hb rfl; clear hb hbox hg) | ((with_reducible refine gate_dst (N := 5) rfl ?_); refine box_event ?hg (N := 5) ?hd (cs := #[.int .i64 a2_0, .int .i64 a2_1]) (t := 56) ?hr ?_; (case hd => rfl); (case hg => rfl); (case hr => first | (go_simp; done) | (go_simp; rfl)); intro gb407 hg w179 hbox hb; have BK407 := Aside0.mk (hbox); have GW407 := geb hg HB rfl; have GE407 := geb hg HB rfl; have NB406_407 := nbl hg BK406 rfl; have NB407_406 := nbr hg BK406 rfl; replace BK406 := bb BK406 hb rfl; replace HB := hst HB hb rfl; clear hb hbox hg) | ((with_reducible refine gate_dst (N := 6) rfl ?_); refine box_event ?hg (N := 6) ?hd (cs := #[.int .i64 0, .int .i64 0]) (t := 56) ?hr ?_; (case hd => rfl); (case hg => rfl); (case hr => first | (go_simp; done) | (go_simp; rfl)); intro gb408 hg w180 hbox hb; have BK408 := Aside0.mk (hbox); have GW408 := geb hg HB rfl; have GE408 := geb hg HB rfl; have NB406_408 := nbl hg BK406 rfl; have NB408_406 := nbr hg BK406 rfl; have NB407_408 := nbl hg BK407 rfl; have NB408_407 := nbr hg BK407 rfl; replace BK406 := bb BK406 hb rfl; replace BK407 := bb BK407 hb rfl; replace HB := hst HB hb rfl; clear hb hbox hg; have hnb181 := NB406_407.out; have hnc181 := NB407_406.out; have hnb182 := NB406_408.out; have hnc182 := NB408_406.out; obtain ⟨hcz183_0, hcz183_1, hfz183_0, hfz183_1⟩ := c2 BK406; have hnb184 := NB407_408.out; have hnc184 := NB408_407.out; obtain ⟨hcz185_0, hcz185_1, hfz185_0, hfz185_1⟩ := c2 BK407; obtain ⟨hcz186_0, hcz186_1, hfz186_0, hfz186_1⟩ := c2 BK408))
           refine bodyPost_ret (results_ct rfl _ _ gb408 56 #[.int .i64 0, .int .i64 0] (0, 0) _ rfl (by (with_reducible repeat (first | refine blk_drewN ?_ _ | refine blk_drew ?_ | refine blk_alloc ?_ _)); refine blk_put (cs := #[.int .i64 0, .int .i64 0]) ?_ 1 _ rfl; (with_reducible repeat (first | refine blk_drewN ?_ _ | refine blk_drew ?_ | refine blk_alloc ?_ _)); refine blk_put (cs := #[.int .i64 0, .int .i64 0]) ?_ 0 _ rfl; (with_reducible repeat (first | refine blk_drewN ?_ _ | refine blk_drew ?_ | refine blk_alloc ?_ _)); exact BK408.out) Try.underlying56 rfl (by kernel_rfl)) rfl ?_
           exact ⟨by first | rfl | (simp [*, errW_none, errW_some] <;> rfl), by repeat (first | (with_reducible first | exact HB.out | apply below_alloc | apply pw_below_drewN | apply below_drew1 | refine below_set ?_ GE406.out | refine below_set ?_ GE407.out | refine below_set ?_ GE408.out) | exact HB.out)⟩
          ·
           rw [if_neg c177] at H
           have c177b0 : decide (a2_1 ≤ a1_0) = false := decide_eq_false c177
           clear c177
           simp only [Option.some.injEq, Prod.mk.injEq] at H
           obtain ⟨rfl, rfl, rfl⟩ := H
           go_enter Try.func56, Try.ntmps56
           go_wp2_with (first | ((with_reducible refine gate_dst (N := 4) rfl ?_); refine box_event ?hg (N := 4) ?hd (cs := #[.int .i64 a1_0, .int .i64 a1_1]) (t := 56) ?hr ?_; (case hd => rfl); (case hg => rfl); (case hr => first | (go_simp; done) | (go_simp; rfl)); intro gb406 hg w187 hbox hb; have BK406 := Aside0.mk (hbox); have GW406 := geb hg HB rfl; have GE406 := geb hg HB rfl; replace HB := hst HB hb rfl; clear hb hbox hg) | ((with_reducible refine gate_dst (N := 5) rfl ?_); refine box_event ?hg (N := 5) ?hd (cs := #[.int .i64 a2_0, .int .i64 a2_1]) (t := 56) ?hr ?_; (case hd => rfl); (case hg => rfl); (case hr => first | (go_simp; done) | (go_simp; rfl)); intro gb407 hg w188 hbox hb; have BK407 := Aside0.mk (hbox); have GW407 := geb hg HB rfl; have GE407 := geb hg HB rfl; have NB406_407 := nbl hg BK406 rfl; have NB407_406 := nbr hg BK406 rfl; replace BK406 := bb BK406 hb rfl; replace HB := hst HB hb rfl; clear hb hbox hg) | ((with_reducible refine gate_dst (N := 6) rfl ?_); refine box_event ?hg (N := 6) ?hd (cs := #[.int .i64 0, .int .i64 0]) (t := 56) ?hr ?_; (case hd => rfl); (case hg => rfl); (case hr => first | (go_simp; done) | (go_simp; rfl)); intro gb408 hg w189 hbox hb; have BK408 := Aside0.mk (hbox); have GW408 := geb hg HB rfl; have GE408 := geb hg HB rfl; have NB406_408 := nbl hg BK406 rfl; have NB408_406 := nbr hg BK406 rfl; have NB407_408 := nbl hg BK407 rfl; have NB408_407 := nbr hg BK407 rfl; replace BK406 := bb BK406 hb rfl; replace BK407 := bb BK407 hb rfl; replace HB := hst HB hb rfl; clear hb hbox hg; have hnb190 := NB406_407.out; have hnc190 := NB407_406.out; have hnb191 := NB406_408.out; have hnc191 := NB408_406.out; obtain ⟨hcz192_0, hcz192_1, hfz192_0, hfz192_1⟩ := c2 BK406; have hnb193 := NB407_408.out; have hnc193 := NB408_407.out; obtain ⟨hcz194_0, hcz194_1, hfz194_0, hfz194_1⟩ := c2 BK407; obtain ⟨hcz195_0, hcz195_1, hfz195_0, hfz195_1⟩ := c2 BK408))
           refine bodyPost_ret (results_ct rfl _ _ gb408 56 #[.int .i64 0, .int .i64 1] (0, 0) _ rfl (by (with_reducible repeat (first | refine blk_drewN ?_ _ | refine blk_drew ?_ | refine blk_alloc ?_ _)); refine blk_put (cs := #[.int .i64 0, .int .i64 0]) ?_ 1 _ rfl; (with_reducible repeat (first | refine blk_drewN ?_ _ | refine blk_drew ?_ | refine blk_alloc ?_ _)); refine blk_put (cs := #[.int .i64 0, .int .i64 0]) ?_ 0 _ rfl; (with_reducible repeat (first | refine blk_drewN ?_ _ | refine blk_drew ?_ | refine blk_alloc ?_ _)); exact BK408.out) Try.underlying56 rfl (by kernel_rfl)) rfl ?_
           exact ⟨by first | rfl | (simp [*, errW_none, errW_some] <;> rfl), by repeat (first | (with_reducible first | exact HB.out | apply below_alloc | apply pw_below_drewN | apply below_drew1 | refine below_set ?_ GE406.out | refine below_set ?_ GE407.out | refine below_set ?_ GE408.out) | exact HB.out)⟩
        ·
         rw [if_neg c166] at H
         have c166b0 : (a0 == 11) = false := beq_eq_false_iff_ne.mpr c166
         have c166b1 : (a0 != 11) = true := bne_iff_ne.mpr c166
         by_cases c196 : a0 = 12
         ·
          rw [if_pos c196] at H
          have c196b0 : (a0 == 12) = true := beq_iff_eq.mpr c196
          have c196b1 : (a0 != 12) = false := bne_eq_false_iff_eq.mpr c196
          clear c196
          have HC197 := Aside0.mk H
          clear H
          go_enter Try.func56, Try.ntmps56
          go_upto_region 35 with (first | ((with_reducible refine gate_dst (N := 4) rfl ?_); refine box_event ?hg (N := 4) ?hd (cs := #[.int .i64 a1_0, .int .i64 a1_1]) (t := 56) ?hr ?_; (case hd => rfl); (case hg => rfl); (case hr => first | (go_simp; done) | (go_simp; rfl)); intro gb406 hg w198 hbox hb; have BK406 := Aside0.mk (hbox); have GW406 := geb hg HB rfl; have GE406 := geb hg HB rfl; replace HB := hst HB hb rfl; clear hb hbox hg) | ((with_reducible refine gate_dst (N := 5) rfl ?_); refine box_event ?hg (N := 5) ?hd (cs := #[.int .i64 a2_0, .int .i64 a2_1]) (t := 56) ?hr ?_; (case hd => rfl); (case hg => rfl); (case hr => first | (go_simp; done) | (go_simp; rfl)); intro gb407 hg w199 hbox hb; have BK407 := Aside0.mk (hbox); have GW407 := geb hg HB rfl; have GE407 := geb hg HB rfl; have NB406_407 := nbl hg BK406 rfl; have NB407_406 := nbr hg BK406 rfl; replace BK406 := bb BK406 hb rfl; replace HB := hst HB hb rfl; clear hb hbox hg) | ((with_reducible refine gate_dst (N := 6) rfl ?_); refine box_event ?hg (N := 6) ?hd (cs := #[.int .i64 0, .int .i64 0]) (t := 56) ?hr ?_; (case hd => rfl); (case hg => rfl); (case hr => first | (go_simp; done) | (go_simp; rfl)); intro gb408 hg w200 hbox hb; have BK408 := Aside0.mk (hbox); have GW408 := geb hg HB rfl; have GE408 := geb hg HB rfl; have NB406_408 := nbl hg BK406 rfl; have NB408_406 := nbr hg BK406 rfl; have NB407_408 := nbl hg BK407 rfl; have NB408_407 := nbr hg BK407 rfl; replace BK406 := bb BK406 hb rfl; replace BK407 := bb BK407 hb rfl; replace HB := hst HB hb rfl; clear hb hbox hg))
          (try simp only [Act.put, List.setIfInBounds_toArray, List.set_cons_zero, List.set_cons_succ])
          go_cut [169] (fun v169 wc => ∃ (kq : Nat) (x169_196 : Bool), v169 = .bool x169_196 ∧ Aside0 (avermentref10_Two.j1 kq x169_196 a1_0 a1_1 a2_0 a2_1 = some (r1, r2, r3)) ∧ Aside0 (kq ≤ k) ∧ Aside0 (wc.heap[gb406]? = some (.cells #[.int .i64 a1_0, .int .i64 a1_1] 56 (0, 0))) ∧ Aside0 (wc.heap[gb407]? = some (.cells #[.int .i64 a2_0, .int .i64 a2_1] 56 (0, 0))) ∧ Aside0 (wc.heap[gb408]? = some (.cells #[.int .i64 0, .int .i64 0] 56 (0, 0))) ∧ Aside0 (Below w.heap.size w wc))
          case first =>
           have H := HC197.out
           clear HC197
           by_cases c201 : a1_0 = a1_1
           ·
            rw [if_pos c201] at H
            have c201b0 : (a1_0 == a1_1) = true := beq_iff_eq.mpr c201
            have c201b1 : (a1_0 != a1_1) = false := bne_eq_false_iff_eq.mpr c201
            clear c201
            (first | rw [c201b0] | (simp only [i64_w, i32_w]; rw [c201b0]) | skip)
            have H' := Aside0.mk H
            clear H
            have hnb202 := NB406_407.out
            have hnc202 := NB407_406.out
            have hnb203 := NB406_408.out
            have hnc203 := NB408_406.out
            obtain ⟨hcz204_0, hcz204_1, hfz204_0, hfz204_1⟩ := c2 BK406
            have hnb205 := NB407_408.out
            have hnc205 := NB408_407.out
            obtain ⟨hcz206_0, hcz206_1, hfz206_0, hfz206_1⟩ := c2 BK407
            go_wp2
            go_meet
            case rel => exact ⟨_, ((a1_0 == a2_0 && (a1_1 == a2_1))), (by first | rfl | (simp; done) | (simp [*]; done)), H', ⟨by first | omega | exact Nat.le_refl _⟩, ⟨by (with_reducible repeat (first | refine blk_drewN ?_ _ | refine blk_drew ?_ | refine blk_alloc ?_ _)); exact BK406.out⟩, ⟨by (with_reducible repeat (first | refine blk_drewN ?_ _ | refine blk_drew ?_ | refine blk_alloc ?_ _)); exact BK407.out⟩, ⟨by (with_reducible repeat (first | refine blk_drewN ?_ _ | refine blk_drew ?_ | refine blk_alloc ?_ _)); exact BK408.out⟩, ⟨by repeat (first | (with_reducible first | exact HB.out | apply below_alloc | apply pw_below_drewN | apply below_drew1 | refine below_set ?_ GE406.out | refine below_set ?_ GE407.out | refine below_set ?_ GE408.out) | exact HB.out)⟩⟩
           ·
            rw [if_neg c201] at H
            have c201b0 : (a1_0 == a1_1) = false := beq_eq_false_iff_ne.mpr c201
            have c201b1 : (a1_0 != a1_1) = true := bne_iff_ne.mpr c201
            (first | rw [c201b0] | (simp only [i64_w, i32_w]; rw [c201b0]) | skip)
            have H' := Aside0.mk H
            clear H
            have hnb207 := NB406_407.out
            have hnc207 := NB407_406.out
            have hnb208 := NB406_408.out
            have hnc208 := NB408_406.out
            obtain ⟨hcz209_0, hcz209_1, hfz209_0, hfz209_1⟩ := c2 BK406
            go_wp2
            go_meet
            case rel => exact ⟨_, (false), (by first | rfl | (simp; done) | (simp [*]; done)), H', ⟨by first | omega | exact Nat.le_refl _⟩, ⟨by (with_reducible repeat (first | refine blk_drewN ?_ _ | refine blk_drew ?_ | refine blk_alloc ?_ _)); exact BK406.out⟩, ⟨by (with_reducible repeat (first | refine blk_drewN ?_ _ | refine blk_drew ?_ | refine blk_alloc ?_ _)); exact BK407.out⟩, ⟨by (with_reducible repeat (first | refine blk_drewN ?_ _ | refine blk_drew ?_ | refine blk_alloc ?_ _)); exact BK408.out⟩, ⟨by repeat (first | (with_reducible first | exact HB.out | apply below_alloc | apply pw_below_drewN | apply below_drew1 | refine below_set ?_ GE406.out | refine below_set ?_ GE407.out | refine below_set ?_ GE408.out) | exact HB.out)⟩⟩
          case rest =>
           clear HC197
           try clear c1
           try clear c2
           try clear p2
           try clear p4
           try clear q4
           try clear hx4
           try clear c5
           try clear p6
           try clear c7
           try clear c8
           try clear c11
           try clear c12
           try clear c13
           try clear c14
           try clear c15
           try clear c16
           try clear c17
           try clear c18
           try clear c19
           try clear c20
           try clear p43
           try clear q43
           try clear hx43
           try clear p44
           try clear q44
           try clear hx44
           try clear c56
           try clear p64
           try clear c76
           try clear c76b0
           try clear c76b1
           try clear c78
           try clear c79
           try clear c80
           try clear c80b0
           try clear c81
           try clear c82
           try clear c83
           try clear c85
           try clear c86
           try clear c88
           try clear c115
           try clear c116
           try clear c118
           try clear c118b0
           try clear c118b1
           try clear c123
           try clear c124
           try clear c126
           try clear c130
           try clear c130b0
           try clear c130b1
           try clear c135
           try clear c136
           try clear c138
           try clear c142
           try clear c142b0
           try clear c142b1
           try clear c147
           try clear c148
           try clear c150
           try clear c154
           try clear c154b0
           try clear c154b1
           try clear c159
           try clear c160
           try clear c162
           try clear c166
           try clear c166b0
           try clear c166b1
           try clear c167
           try clear c167b0
           try clear c171
           try clear c172
           try clear c174
           try clear c177
           try clear c177b0
           try clear c181
           try clear c182
           try clear c184
           try clear c190
           try clear c191
           try clear c193
           try clear c196
           try clear c196b0
           try clear c196b1
           try clear c201
           try clear c201b0
           try clear c201b1
           try clear c202
           try clear c203
           try clear c205
           try clear c207
           try clear c208
           try clear hcz117_0
           try clear hcz117_1
           try clear hcz125_0
           try clear hcz125_1
           try clear hcz127_0
           try clear hcz127_1
           try clear hcz129_0
           try clear hcz129_1
           try clear hcz137_0
           try clear hcz137_1
           try clear hcz139_0
           try clear hcz139_1
           try clear hcz141_0
           try clear hcz141_1
           try clear hcz149_0
           try clear hcz149_1
           try clear hcz151_0
           try clear hcz151_1
           try clear hcz153_0
           try clear hcz153_1
           try clear hcz161_0
           try clear hcz161_1
           try clear hcz163_0
           try clear hcz163_1
           try clear hcz165_0
           try clear hcz165_1
           try clear hcz173_0
           try clear hcz173_1
           try clear hcz175_0
           try clear hcz175_1
           try clear hcz176_0
           try clear hcz176_1
           try clear hcz183_0
           try clear hcz183_1
           try clear hcz185_0
           try clear hcz185_1
           try clear hcz186_0
           try clear hcz186_1
           try clear hcz192_0
           try clear hcz192_1
           try clear hcz194_0
           try clear hcz194_1
           try clear hcz195_0
           try clear hcz195_1
           try clear hcz204_0
           try clear hcz204_1
           try clear hcz206_0
           try clear hcz206_1
           try clear hcz209_0
           try clear hcz209_1
           try clear hfz117_0
           try clear hfz117_1
           try clear hfz125_0
           try clear hfz125_1
           try clear hfz127_0
           try clear hfz127_1
           try clear hfz129_0
           try clear hfz129_1
           try clear hfz137_0
           try clear hfz137_1
           try clear hfz139_0
           try clear hfz139_1
           try clear hfz141_0
           try clear hfz141_1
           try clear hfz149_0
           try clear hfz149_1
           try clear hfz151_0
           try clear hfz151_1
           try clear hfz153_0
           try clear hfz153_1
           try clear hfz161_0
           try clear hfz161_1
           try clear hfz163_0
           try clear hfz163_1
           try clear hfz165_0
           try clear hfz165_1
           try clear hfz173_0
           try clear hfz173_1
           try clear hfz175_0
           try clear hfz175_1
           try clear hfz176_0
           try clear hfz176_1
           try clear hfz183_0
           try clear hfz183_1
           try clear hfz185_0
           try clear hfz185_1
           try clear hfz186_0
           try clear hfz186_1
           try clear hfz192_0
           try clear hfz192_1
           try clear hfz194_0
           try clear hfz194_1
           try clear hfz195_0
           try clear hfz195_1
           try clear hfz204_0
           try clear hfz204_1
           try clear hfz206_0
           try clear hfz206_1
           try clear hfz209_0
           try clear hfz209_1
           try clear hx438_0
           try clear hx442_0
           try clear p438
           try clear p442
           try clear q438
           try clear q442
           obtain ⟨kq, x169_196, rfl, HA, HJ196, BK406, BK407, BK408, HB⟩ := hcut
           cases kq with
           | zero => exact absurd HA.out (by simp [avermentref10_Two.j1])
           | succ kj196 =>
            have H := HA.out
            clear HA
            simp only [avermentref10_Two.j1] at H
            by_cases c210 : x169_196 = true
            ·
             subst c210
             rw [if_pos rfl] at H
             simp only [Option.some.injEq, Prod.mk.injEq] at H
             obtain ⟨rfl, rfl, rfl⟩ := H
             have hnb211 := NB408_406.out
             have hnc211 := NB406_408.out
             have hnb212 := NB408_407.out
             have hnc212 := NB407_408.out
             obtain ⟨hcz213_0, hcz213_1, hfz213_0, hfz213_1⟩ := c2 BK408
             go_wp2
             refine bodyPost_ret (results_ct rfl _ _ gb408 56 #[.int .i64 1, .int .i64 1] (0, 0) _ rfl (by (with_reducible repeat (first | refine blk_drewN ?_ _ | refine blk_drew ?_ | refine blk_alloc ?_ _)); refine blk_put (cs := #[.int .i64 1, .int .i64 0]) ?_ 1 _ rfl; (with_reducible repeat (first | refine blk_drewN ?_ _ | refine blk_drew ?_ | refine blk_alloc ?_ _)); refine blk_put (cs := #[.int .i64 0, .int .i64 0]) ?_ 0 _ rfl; (with_reducible repeat (first | refine blk_drewN ?_ _ | refine blk_drew ?_ | refine blk_alloc ?_ _)); exact BK408.out) Try.underlying56 rfl (by kernel_rfl)) rfl ?_
             exact ⟨by first | rfl | (simp [*, errW_none, errW_some] <;> rfl), by repeat (first | (with_reducible first | exact HB.out | apply below_alloc | apply pw_below_drewN | apply below_drew1 | refine below_set ?_ GE406.out | refine below_set ?_ GE407.out | refine below_set ?_ GE408.out) | exact HB.out)⟩
            ·
             replace c210 := Bool.eq_false_iff.mpr c210
             subst c210
             rw [if_neg (show ¬ (false = true) by decide)] at H
             by_cases c214 : a1_1 < a2_0
             ·
              rw [if_pos c214] at H
              have c214b0 : decide (a1_1 < a2_0) = true := decide_eq_true c214
              clear c214
              simp only [Option.some.injEq, Prod.mk.injEq] at H
              obtain ⟨rfl, rfl, rfl⟩ := H
              have hnb215 := NB406_407.out
              have hnc215 := NB407_406.out
              have hnb216 := NB406_408.out
              have hnc216 := NB408_406.out
              obtain ⟨hcz217_0, hcz217_1, hfz217_0, hfz217_1⟩ := c2 BK406
              have hnb218 := NB407_408.out
              have hnc218 := NB408_407.out
              obtain ⟨hcz219_0, hcz219_1, hfz219_0, hfz219_1⟩ := c2 BK407
              obtain ⟨hcz220_0, hcz220_1, hfz220_0, hfz220_1⟩ := c2 BK408
              go_wp2
              refine bodyPost_ret (results_ct rfl _ _ gb408 56 #[.int .i64 0, .int .i64 0] (0, 0) _ rfl (by (with_reducible repeat (first | refine blk_drewN ?_ _ | refine blk_drew ?_ | refine blk_alloc ?_ _)); refine blk_put (cs := #[.int .i64 0, .int .i64 0]) ?_ 1 _ rfl; (with_reducible repeat (first | refine blk_drewN ?_ _ | refine blk_drew ?_ | refine blk_alloc ?_ _)); refine blk_put (cs := #[.int .i64 0, .int .i64 0]) ?_ 0 _ rfl; (with_reducible repeat (first | refine blk_drewN ?_ _ | refine blk_drew ?_ | refine blk_alloc ?_ _)); exact BK408.out) Try.underlying56 rfl (by kernel_rfl)) rfl ?_
              exact ⟨by first | rfl | (simp [*, errW_none, errW_some] <;> rfl), by repeat (first | (with_reducible first | exact HB.out | apply below_alloc | apply pw_below_drewN | apply below_drew1 | refine below_set ?_ GE406.out | refine below_set ?_ GE407.out | refine below_set ?_ GE408.out) | exact HB.out)⟩
             ·
              rw [if_neg c214] at H
              have c214b0 : decide (a1_1 < a2_0) = false := decide_eq_false c214
              clear c214
              by_cases c221 : a2_1 < a1_0
              ·
               rw [if_pos c221] at H
               have c221b0 : decide (a2_1 < a1_0) = true := decide_eq_true c221
               clear c221
               simp only [Option.some.injEq, Prod.mk.injEq] at H
               obtain ⟨rfl, rfl, rfl⟩ := H
               have hnb222 := NB406_407.out
               have hnc222 := NB407_406.out
               have hnb223 := NB406_408.out
               have hnc223 := NB408_406.out
               obtain ⟨hcz224_0, hcz224_1, hfz224_0, hfz224_1⟩ := c2 BK406
               have hnb225 := NB407_408.out
               have hnc225 := NB408_407.out
               obtain ⟨hcz226_0, hcz226_1, hfz226_0, hfz226_1⟩ := c2 BK407
               obtain ⟨hcz227_0, hcz227_1, hfz227_0, hfz227_1⟩ := c2 BK408
               go_wp2
               refine bodyPost_ret (results_ct rfl _ _ gb408 56 #[.int .i64 0, .int .i64 0] (0, 0) _ rfl (by (with_reducible repeat (first | refine blk_drewN ?_ _ | refine blk_drew ?_ | refine blk_alloc ?_ _)); refine blk_put (cs := #[.int .i64 0, .int .i64 0]) ?_ 1 _ rfl; (with_reducible repeat (first | refine blk_drewN ?_ _ | refine blk_drew ?_ | refine blk_alloc ?_ _)); refine blk_put (cs := #[.int .i64 0, .int .i64 0]) ?_ 0 _ rfl; (with_reducible repeat (first | refine blk_drewN ?_ _ | refine blk_drew ?_ | refine blk_alloc ?_ _)); exact BK408.out) Try.underlying56 rfl (by kernel_rfl)) rfl ?_
               exact ⟨by first | rfl | (simp [*, errW_none, errW_some] <;> rfl), by repeat (first | (with_reducible first | exact HB.out | apply below_alloc | apply pw_below_drewN | apply below_drew1 | refine below_set ?_ GE406.out | refine below_set ?_ GE407.out | refine below_set ?_ GE408.out) | exact HB.out)⟩
              ·
               rw [if_neg c221] at H
               have c221b0 : decide (a2_1 < a1_0) = false := decide_eq_false c221
               clear c221
               simp only [Option.some.injEq, Prod.mk.injEq] at H
               obtain ⟨rfl, rfl, rfl⟩ := H
               have hnb228 := NB406_407.out
               have hnc228 := NB407_406.out
               have hnb229 := NB406_408.out
               have hnc229 := NB408_406.out
               obtain ⟨hcz230_0, hcz230_1, hfz230_0, hfz230_1⟩ := c2 BK406
               have hnb231 := NB407_408.out
               have hnc231 := NB408_407.out
               obtain ⟨hcz232_0, hcz232_1, hfz232_0, hfz232_1⟩ := c2 BK407
               obtain ⟨hcz233_0, hcz233_1, hfz233_0, hfz233_1⟩ := c2 BK408
               go_wp2
               refine bodyPost_ret (results_ct rfl _ _ gb408 56 #[.int .i64 0, .int .i64 1] (0, 0) _ rfl (by (with_reducible repeat (first | refine blk_drewN ?_ _ | refine blk_drew ?_ | refine blk_alloc ?_ _)); refine blk_put (cs := #[.int .i64 0, .int .i64 0]) ?_ 1 _ rfl; (with_reducible repeat (first | refine blk_drewN ?_ _ | refine blk_drew ?_ | refine blk_alloc ?_ _)); refine blk_put (cs := #[.int .i64 0, .int .i64 0]) ?_ 0 _ rfl; (with_reducible repeat (first | refine blk_drewN ?_ _ | refine blk_drew ?_ | refine blk_alloc ?_ _)); exact BK408.out) Try.underlying56 rfl (by kernel_rfl)) rfl ?_
               exact ⟨by first | rfl | (simp [*, errW_none, errW_some] <;> rfl), by repeat (first | (with_reducible first | exact HB.out | apply below_alloc | apply pw_below_drewN | apply below_drew1 | refine below_set ?_ GE406.out | refine below_set ?_ GE407.out | refine below_set ?_ GE408.out) | exact HB.out)⟩
         ·
          rw [if_neg c196] at H
          have c196b0 : (a0 == 12) = false := beq_eq_false_iff_ne.mpr c196
          have c196b1 : (a0 != 12) = true := bne_iff_ne.mpr c196
          simp only [Option.some.injEq, Prod.mk.injEq] at H
          obtain ⟨rfl, rfl, rfl⟩ := H
          go_enter Try.func56, Try.ntmps56
          go_wp2_with (first | ((with_reducible refine gate_dst (N := 4) rfl ?_); refine box_event ?hg (N := 4) ?hd (cs := #[.int .i64 a1_0, .int .i64 a1_1]) (t := 56) ?hr ?_; (case hd => rfl); (case hg => rfl); (case hr => first | (go_simp; done) | (go_simp; rfl)); intro gb406 hg w234 hbox hb; have BK406 := Aside0.mk (hbox); have GW406 := geb hg HB rfl; have GE406 := geb hg HB rfl; replace HB := hst HB hb rfl; clear hb hbox hg) | ((with_reducible refine gate_dst (N := 5) rfl ?_); refine box_event ?hg (N := 5) ?hd (cs := #[.int .i64 a2_0, .int .i64 a2_1]) (t := 56) ?hr ?_; (case hd => rfl); (case hg => rfl); (case hr => first | (go_simp; done) | (go_simp; rfl)); intro gb407 hg w235 hbox hb; have BK407 := Aside0.mk (hbox); have GW407 := geb hg HB rfl; have GE407 := geb hg HB rfl; have NB406_407 := nbl hg BK406 rfl; have NB407_406 := nbr hg BK406 rfl; replace BK406 := bb BK406 hb rfl; replace HB := hst HB hb rfl; clear hb hbox hg) | ((with_reducible refine gate_dst (N := 6) rfl ?_); refine box_event ?hg (N := 6) ?hd (cs := #[.int .i64 0, .int .i64 0]) (t := 56) ?hr ?_; (case hd => rfl); (case hg => rfl); (case hr => first | (go_simp; done) | (go_simp; rfl)); intro gb408 hg w236 hbox hb; have BK408 := Aside0.mk (hbox); have GW408 := geb hg HB rfl; have GE408 := geb hg HB rfl; have NB406_408 := nbl hg BK406 rfl; have NB408_406 := nbr hg BK406 rfl; have NB407_408 := nbl hg BK407 rfl; have NB408_407 := nbr hg BK407 rfl; replace BK406 := bb BK406 hb rfl; replace BK407 := bb BK407 hb rfl; replace HB := hst HB hb rfl; clear hb hbox hg; have hnb237 := NB408_406.out; have hnc237 := NB406_408.out; have hnb238 := NB408_407.out; have hnc238 := NB407_408.out; obtain ⟨hcz239_0, hcz239_1, hfz239_0, hfz239_1⟩ := c2 BK408))
          refine bodyPost_ret (results_ct rfl _ _ gb408 56 #[.int .i64 0, .int .i64 0] (0, 0) _ rfl (by (with_reducible repeat (first | refine blk_drewN ?_ _ | refine blk_drew ?_ | refine blk_alloc ?_ _)); refine blk_put (cs := #[.int .i64 0, .int .i64 0]) ?_ 1 _ rfl; (with_reducible repeat (first | refine blk_drewN ?_ _ | refine blk_drew ?_ | refine blk_alloc ?_ _)); refine blk_put (cs := #[.int .i64 0, .int .i64 0]) ?_ 0 _ rfl; (with_reducible repeat (first | refine blk_drewN ?_ _ | refine blk_drew ?_ | refine blk_alloc ?_ _)); exact BK408.out) Try.underlying56 rfl (by kernel_rfl)) rfl ?_
          exact ⟨by first | rfl | (simp [*, errW_none, errW_some] <;> rfl), by repeat (first | (with_reducible first | exact HB.out | apply below_alloc | apply pw_below_drewN | apply below_drew1 | refine below_set ?_ GE406.out | refine below_set ?_ GE407.out | refine below_set ?_ GE408.out) | exact HB.out)⟩

end Go.Proofs.Ytpacmhhaabhdjaa.SM
