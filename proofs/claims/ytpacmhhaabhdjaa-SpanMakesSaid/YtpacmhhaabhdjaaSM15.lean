-- Written by a program of this session: plain functions and their walks. Lean checks it.
import Derived.Test.YtpacmhhaabhdjaaSM0
import Derived.Test.YtpacmhhaabhdjaaSM1
import Derived.Test.YtpacmhhaabhdjaaSM3
import Derived.Test.YtpacmhhaabhdjaaSM7
import Derived.Test.YtpacmhhaabhdjaaSM8
import Derived.Test.YtpacmhhaabhdjaaSM13
import Derived.Test.YtpacmhhaabhdjaaSM14
namespace Go.Proofs.Ytpacmhhaabhdjaa.SM
open Go.RowKit Go.Proofs.YtpacmhhaabhdjaaW.PrintWords Go.Proofs.YtpacmhhaabhdjaaW.PrintLast Go.Proofs.YtpacmhhaabhdjaaW.PrintMore
attribute [local go_sem] max2_int min2_int max_two min_two max_three min_three max_four min_four   -- for this text's walks alone
set_option linter.unusedVariables false
set_option linter.unusedSimpArgs false

attribute [local go_sem high] eqA56
/-! ### avermentlaw10_SpanMakes: function 10 -/
mutual
def avermentlaw10_SpanMakes.j0 : Nat → Int → Bool → Int → Int → Int → Int → Option (Bool)
 | 0, _, _, _, _, _, _ => none
 | k + 1, x0, x41, x470000, x470001, x471000, x471001 => if x41 = true then (some false) else ((avermentlaw10_To.f x470000 x470001).bind fun bt488 => ((avermentlaw10_To.f x471000 x471001).bind fun bt490 => ((span_Two.f k x0 bt488.1 bt488.2 bt490.1 bt490.2).bind fun bt492 => ((avermentref10_Two.f k x0 x470000 x470001 x471000 x471001).bind fun bt495 => ((avermentlaw10_From.f bt492.1 bt492.2.1).bind fun bt498 => (if (!(bt498.1 == bt495.1) || (!(bt498.2 == bt495.2.1))) = true then (avermentlaw10_SpanMakes.j1 k true x470000 x470001) else (avermentlaw10_SpanMakes.j1 k (bt492.2.2 != bt495.2.2) x470000 x470001)))))))
def avermentlaw10_SpanMakes.j1 : Nat → Bool → Int → Int → Option (Bool)
 | 0, _, _, _ => none
 | k + 1, x66, x470000, x470001 => if x66 = true then (some false) else (avermentlaw10_SpanMakes.l0 k 0 x470000 x470001)
def avermentlaw10_SpanMakes.l0 : Nat → Int → Int → Int → Option (Bool)
 | 0, _, _, _ => none
 | k + 1, x11, x470000, x470001 => if x11 < 2 then ((avermentlaw10_To.f x470000 x470001).bind fun bt500 => ((span_Branch.f bt500.1 bt500.2 (x11 == 1)).bind fun bt502 => ((avermentref10_Branch.f k x470000 x470001 (x11 == 1)).bind fun bt505 => ((avermentlaw10_From.f bt502.1 bt502.2.1).bind fun bt508 => (if (!(bt508.1 == bt505.1) || (!(bt508.2 == bt505.2.1))) = true then (some false) else (if (bt502.2.2 != bt505.2.2) = true then (some false) else (avermentlaw10_SpanMakes.l0 k (wrap64 (x11 + 1)) x470000 x470001))))))) else (some true)
end
def avermentlaw10_SpanMakes.f (k : Nat) (a0 : Int) (a1_0 : Int) (a1_1 : Int) (a2_0 : Int) (a2_1 : Int) : Option (Bool) := (avermentref10_Fix.f a1_0 a1_1).bind fun bt471 => ((avermentref10_Fix.f a2_0 a2_1).bind fun bt473 => ((avermentlaw10_To.f bt471.1 bt471.2).bind fun bt475 => ((span_One.f k a0 bt475.1 bt475.2).bind fun bt477 => ((avermentref10_One.f a0 bt471.1 bt471.2).bind fun bt481 => ((avermentlaw10_told.f k).bind fun t485 => (if t485 = true then ((avermentlaw10_From.f bt477.1 bt477.2.1).bind fun bt486 => (if (!(bt486.1 == bt481.1) || (!(bt486.2 == bt481.2.1))) = true then (avermentlaw10_SpanMakes.j0 k a0 true bt471.1 bt471.2 bt473.1 bt473.2) else (avermentlaw10_SpanMakes.j0 k a0 (bt477.2.2 != bt481.2.2) bt471.1 bt471.2 bt473.1 bt473.2))) else (avermentlaw10_SpanMakes.j0 k a0 true bt471.1 bt471.2 bt473.1 bt473.2)))))))
theorem avermentlaw10_SpanMakes.mono_l : ∀ k, (∀ y0 y1 y2 y3 y4 y5, LeO (avermentlaw10_SpanMakes.j0 k y0 y1 y2 y3 y4 y5) (avermentlaw10_SpanMakes.j0 (k + 1) y0 y1 y2 y3 y4 y5)) ∧ (∀ y0 y1 y2, LeO (avermentlaw10_SpanMakes.j1 k y0 y1 y2) (avermentlaw10_SpanMakes.j1 (k + 1) y0 y1 y2)) ∧ (∀ y0 y1 y2, LeO (avermentlaw10_SpanMakes.l0 k y0 y1 y2) (avermentlaw10_SpanMakes.l0 (k + 1) y0 y1 y2))
 | 0 => ⟨fun _ _ _ _ _ _ r h => by simp [avermentlaw10_SpanMakes.j0] at h, fun _ _ _ r h => by simp [avermentlaw10_SpanMakes.j1] at h, fun _ _ _ r h => by simp [avermentlaw10_SpanMakes.l0] at h⟩
 | k + 1 => by
  obtain ⟨ih0, ih1, ih2⟩ := avermentlaw10_SpanMakes.mono_l k
  refine ⟨?_, ?_, ?_⟩
  ·
   intro y0 y1 y2 y3 y4 y5
   unfold avermentlaw10_SpanMakes.j0
   repeat' first
   | (with_reducible exact ih0 _ _ _ _ _ _)
   | (with_reducible exact ih1 _ _ _)
   | (with_reducible exact ih2 _ _ _)
   | (with_reducible exact avermentlaw10_told.mono _)
   | (with_reducible exact avermentref10_Branch.mono _ _ _ _)
   | (with_reducible exact avermentref10_Two.mono _ _ _ _ _ _)
   | (with_reducible exact span_One.mono _ _ _ _)
   | (with_reducible exact span_Two.mono _ _ _ _ _ _)
   | (with_reducible exact LeO.refl _)
   | (with_reducible exact LeO.none _)
   | (with_reducible refine LeO.ite ?_ ?_)
   | (with_reducible refine LeO.bind ?_ (fun _ => ?_))
   | exact ih0 _ _ _ _ _ _
   | exact ih1 _ _ _
   | exact ih2 _ _ _
   | exact avermentlaw10_told.mono _
   | exact avermentref10_Branch.mono _ _ _ _
   | exact avermentref10_Two.mono _ _ _ _ _ _
   | exact span_One.mono _ _ _ _
   | exact span_Two.mono _ _ _ _ _ _
   | exact LeO.none _
   | refine LeO.ite ?_ ?_
   | refine LeO.bind ?_ (fun _ => ?_)
  ·
   intro y0 y1 y2
   unfold avermentlaw10_SpanMakes.j1
   repeat' first
   | (with_reducible exact ih0 _ _ _ _ _ _)
   | (with_reducible exact ih1 _ _ _)
   | (with_reducible exact ih2 _ _ _)
   | (with_reducible exact avermentlaw10_told.mono _)
   | (with_reducible exact avermentref10_Branch.mono _ _ _ _)
   | (with_reducible exact avermentref10_Two.mono _ _ _ _ _ _)
   | (with_reducible exact span_One.mono _ _ _ _)
   | (with_reducible exact span_Two.mono _ _ _ _ _ _)
   | (with_reducible exact LeO.refl _)
   | (with_reducible exact LeO.none _)
   | (with_reducible refine LeO.ite ?_ ?_)
   | (with_reducible refine LeO.bind ?_ (fun _ => ?_))
   | exact ih0 _ _ _ _ _ _
   | exact ih1 _ _ _
   | exact ih2 _ _ _
   | exact avermentlaw10_told.mono _
   | exact avermentref10_Branch.mono _ _ _ _
   | exact avermentref10_Two.mono _ _ _ _ _ _
   | exact span_One.mono _ _ _ _
   | exact span_Two.mono _ _ _ _ _ _
   | exact LeO.none _
   | refine LeO.ite ?_ ?_
   | refine LeO.bind ?_ (fun _ => ?_)
  ·
   intro y0 y1 y2
   unfold avermentlaw10_SpanMakes.l0
   repeat' first
   | (with_reducible exact ih0 _ _ _ _ _ _)
   | (with_reducible exact ih1 _ _ _)
   | (with_reducible exact ih2 _ _ _)
   | (with_reducible exact avermentlaw10_told.mono _)
   | (with_reducible exact avermentref10_Branch.mono _ _ _ _)
   | (with_reducible exact avermentref10_Two.mono _ _ _ _ _ _)
   | (with_reducible exact span_One.mono _ _ _ _)
   | (with_reducible exact span_Two.mono _ _ _ _ _ _)
   | (with_reducible exact LeO.refl _)
   | (with_reducible exact LeO.none _)
   | (with_reducible refine LeO.ite ?_ ?_)
   | (with_reducible refine LeO.bind ?_ (fun _ => ?_))
   | exact ih0 _ _ _ _ _ _
   | exact ih1 _ _ _
   | exact ih2 _ _ _
   | exact avermentlaw10_told.mono _
   | exact avermentref10_Branch.mono _ _ _ _
   | exact avermentref10_Two.mono _ _ _ _ _ _
   | exact span_One.mono _ _ _ _
   | exact span_Two.mono _ _ _ _ _ _
   | exact LeO.none _
   | refine LeO.ite ?_ ?_
   | refine LeO.bind ?_ (fun _ => ?_)
theorem avermentlaw10_SpanMakes.mono : ∀ a0 a1 a2 a3 a4 k, LeO (avermentlaw10_SpanMakes.f k a0 a1 a2 a3 a4) (avermentlaw10_SpanMakes.f (k + 1) a0 a1 a2 a3 a4) := by
 intro a0 a1 a2 a3 a4 k
 obtain ⟨ih0, ih1, ih2⟩ := avermentlaw10_SpanMakes.mono_l k
 unfold avermentlaw10_SpanMakes.f
 repeat' first
   | (with_reducible exact ih0 _ _ _ _ _ _)
   | (with_reducible exact ih1 _ _ _)
   | (with_reducible exact ih2 _ _ _)
   | (with_reducible exact avermentlaw10_told.mono _)
   | (with_reducible exact avermentref10_Branch.mono _ _ _ _)
   | (with_reducible exact avermentref10_Two.mono _ _ _ _ _ _)
   | (with_reducible exact span_One.mono _ _ _ _)
   | (with_reducible exact span_Two.mono _ _ _ _ _ _)
   | (with_reducible exact LeO.refl _)
   | (with_reducible exact LeO.none _)
   | (with_reducible refine LeO.ite ?_ ?_)
   | (with_reducible refine LeO.bind ?_ (fun _ => ?_))
   | exact ih0 _ _ _ _ _ _
   | exact ih1 _ _ _
   | exact ih2 _ _ _
   | exact avermentlaw10_told.mono _
   | exact avermentref10_Branch.mono _ _ _ _
   | exact avermentref10_Two.mono _ _ _ _ _ _
   | exact span_One.mono _ _ _ _
   | exact span_Two.mono _ _ _ _ _ _
   | exact LeO.none _
   | refine LeO.ite ?_ ?_
   | refine LeO.bind ?_ (fun _ => ?_)
def avermentlaw10_SpanMakes.T4 : Bool × List (List Nat × List Nat) := (true, [([], []), ([0], [0]), ([1, 0], [1]), ([2], [2]), ([3, 2, 2], [2, 3]), ([2], [2]), ([4, 5, 2], [2, 4, 5]), ([2, 6], [2, 6]), ([7, 4], [7]), ([8], [8]), ([8], [8]), ([9, 10, 8], [8, 9, 10]), ([8, 11], [8, 11])])
def avermentlaw10_SpanMakes.B4 : List Nat := [0, 1, 3, 7, 15, 7, 63, 127, 255, 511, 511, 2047, 4095]
theorem avermentlaw10_SpanMakes.tab4 : rtab .any (opsOf Try.f10 4) = avermentlaw10_SpanMakes.T4 := by kernel_rfl
theorem avermentlaw10_SpanMakes.bits4 : waitsOk avermentlaw10_SpanMakes.T4.2 avermentlaw10_SpanMakes.B4 = true := by kernel_rfl
def avermentlaw10_SpanMakes.T6 : Bool × List (List Nat × List Nat) := (true, [([], []), ([], []), ([1], [1]), ([], []), ([3, 2], [3]), ([0, 2, 4, 4], [0, 2, 4]), ([5], [5]), ([6], [6]), ([6], [6]), ([7, 5, 0, 1, 2, 3, 4, 5, 6, 7], [7]), ([8, 9, 0, 1, 2, 3, 4, 5, 6, 7, 8, 9], [8])])
def avermentlaw10_SpanMakes.B6 : List Nat := [0, 0, 2, 0, 14, 31, 63, 127, 127, 255, 1023]
theorem avermentlaw10_SpanMakes.tab6 : rtab .any (opsOf Try.f10 6) = avermentlaw10_SpanMakes.T6 := by kernel_rfl
theorem avermentlaw10_SpanMakes.bits6 : waitsOk avermentlaw10_SpanMakes.T6.2 avermentlaw10_SpanMakes.B6 = true := by kernel_rfl
def avermentlaw10_SpanMakes.T8 : Bool × List (List Nat × List Nat) := (true, [([], []), ([0], [0]), ([], []), ([1, 2], [1, 2]), ([3, 1], [3]), ([4], [4]), ([4], [4]), ([5, 6, 4], [4, 5, 6]), ([4, 7], [4, 7])])
def avermentlaw10_SpanMakes.B8 : List Nat := [0, 1, 0, 7, 15, 31, 31, 127, 255]
theorem avermentlaw10_SpanMakes.tab8 : rtab .any (opsOf Try.f10 8) = avermentlaw10_SpanMakes.T8 := by kernel_rfl
theorem avermentlaw10_SpanMakes.bits8 : waitsOk avermentlaw10_SpanMakes.T8.2 avermentlaw10_SpanMakes.B8 = true := by kernel_rfl
def avermentlaw10_SpanMakes.T15 : Bool × List (List Nat × List Nat) := (true, [([], []), ([0], [0]), ([], []), ([1, 2], [1, 2]), ([3, 1], [3]), ([4], [4]), ([4], [4]), ([5, 6, 4], [4, 5, 6]), ([4, 7], [4, 7])])
def avermentlaw10_SpanMakes.B15 : List Nat := [0, 1, 0, 7, 15, 31, 31, 127, 255]
theorem avermentlaw10_SpanMakes.tab15 : rtab .any (opsOf Try.f10 15) = avermentlaw10_SpanMakes.T15 := by kernel_rfl
theorem avermentlaw10_SpanMakes.bits15 : waitsOk avermentlaw10_SpanMakes.T15.2 avermentlaw10_SpanMakes.B15 = true := by kernel_rfl
set_option maxHeartbeats 8000000 in
set_option maxRecDepth 100000 in
theorem avermentlaw10_SpanMakes.calls (k : Nat) (a0 : Int) (a1_0 : Int) (a1_1 : Int) (a2_0 : Int) (a2_1 : Int) (r : Bool) (w : World) (hr_ : Aside0 (r = true)) (h : avermentlaw10_SpanMakes.f k a0 a1_0 a1_1 a2_0 a2_1 = some r) :
  Calls Try.prog 10 #[.int .i64 a0, .agg #[.int .i64 a1_0, .int .i64 a1_1], .agg #[.int .i64 a2_0, .int .i64 a2_1]] w fun e w' => e = .returned (.bool r) ∧ Below w.heap.size w w' := by
 have hu56 := Try.underlying56
 have hu59 := Try.underlying59
 have HB := Aside0.mk (Below.refl w.heap.size w)
 have H : ((avermentref10_Fix.f a1_0 a1_1).bind fun bt471 => ((avermentref10_Fix.f a2_0 a2_1).bind fun bt473 => ((avermentlaw10_To.f bt471.1 bt471.2).bind fun bt475 => ((span_One.f k a0 bt475.1 bt475.2).bind fun bt477 => ((avermentref10_One.f a0 bt471.1 bt471.2).bind fun bt481 => ((avermentlaw10_told.f k).bind fun t485 => (if t485 = true then ((avermentlaw10_From.f bt477.1 bt477.2.1).bind fun bt486 => (if (!(bt486.1 == bt481.1) || (!(bt486.2 == bt481.2.1))) = true then (avermentlaw10_SpanMakes.j0 k a0 true bt471.1 bt471.2 bt473.1 bt473.2) else (avermentlaw10_SpanMakes.j0 k a0 (bt477.2.2 != bt481.2.2) bt471.1 bt471.2 bt473.1 bt473.2))) else (avermentlaw10_SpanMakes.j0 k a0 true bt471.1 bt471.2 bt473.1 bt473.2)))))))) = some r := h
 clear h
 replace H := Option.bind_eq_some_iff.mp H
 obtain ⟨⟨t471, t472⟩, A40, H⟩ := H
 (try dsimp only at H)
 have A4 := Aside0.mk A40
 clear A40
 replace H := Option.bind_eq_some_iff.mp H
 obtain ⟨⟨t473, t474⟩, A50, H⟩ := H
 (try dsimp only at H)
 have A5 := Aside0.mk A50
 clear A50
 replace H := Option.bind_eq_some_iff.mp H
 obtain ⟨⟨t475, t476⟩, A60, H⟩ := H
 (try dsimp only at H)
 have A6 := Aside0.mk A60
 clear A60
 replace H := Option.bind_eq_some_iff.mp H
 obtain ⟨⟨t477, t478, t479⟩, A70, H⟩ := H
 (try dsimp only at H)
 have A7 := Aside0.mk A70
 clear A70
 replace H := Option.bind_eq_some_iff.mp H
 obtain ⟨⟨t481, t482, t483⟩, A80, H⟩ := H
 (try dsimp only at H)
 have A8 := Aside0.mk A80
 clear A80
 have HC9 := Aside0.mk H
 clear H
 go_enter Try.func10, Try.ntmps10
 try go_wp2_with (first | ((with_reducible refine gate_dst (N := 4) rfl ?_); refine box_event ?hg (N := 4) ?hd (cs := #[.int .i64 a1_0, .int .i64 a1_1]) (t := 56) ?hr ?_; (case hd => rfl); (case hg => rfl); (case hr => first | (go_simp; done) | (go_simp; rfl)); intro gb469 hg w10 hbox hb; have BK469 := Aside0.mk (hbox); have GW469 := geb hg HB rfl; have GE469 := geb hg HB rfl; replace HB := hst HB hb rfl; clear hb hbox hg) | ((with_reducible refine gate_dst (N := 5) rfl ?_); refine box_event ?hg (N := 5) ?hd (cs := #[.int .i64 a2_0, .int .i64 a2_1]) (t := 56) ?hr ?_; (case hd => rfl); (case hg => rfl); (case hr => first | (go_simp; done) | (go_simp; rfl)); intro gb470 hg w11 hbox hb; have BK470 := Aside0.mk (hbox); have GW470 := geb hg HB rfl; have GE470 := geb hg HB rfl; have NB469_470 := nbl hg BK469 rfl; have NB470_469 := nbr hg BK469 rfl; replace BK469 := bb BK469 hb rfl; replace HB := hst HB hb rfl; clear hb hbox hg))
 replace BK469 := Aside0.mk (blk_drew BK469.out); replace BK470 := Aside0.mk (blk_drew BK470.out); replace HB := Aside0.mk (below_drew1 HB.out)
 refine start_ (n := 6) (S := fun w' => w'.cell? ⟨gb469, 0, none⟩ = some (.int .i64 a1_0) ∧ w'.cell? ⟨gb469, 1, none⟩ = some (.int .i64 a1_1) ∧ w'.cell? ⟨gb470, 0, none⟩ = some (.int .i64 a2_0) ∧ w'.cell? ⟨gb470, 1, none⟩ = some (.int .i64 a2_1)) (ds := [4, 5]) #[false, false, false, false, false, false] (by kernel_rfl) rfl rfl ⟨bc BK469 0 rfl, bc BK469 1 rfl, bc BK470 0 rfl, bc BK470 1 rfl⟩ (fun hHeld => ?_)
 generalize w11.drew = w12 at BK469 BK470 HB hHeld ⊢
 refine take_ (i := 0) (N := some 12) (v := ?_) (a' := ?_) #[true, false, false, false, false, false] rfl rfl (by kernel_rfl) (fun _ _ _ h => h) (Or.inl ⟨by rfl, ?_⟩) hHeld ?_ ?_
 rotate_left
 ·
  rintro w' ⟨s0, s1, s2, s3⟩
  go_simp
  with_reducible rfl
 rotate_left
 ·
  simp only [Act.put, List.setIfInBounds_toArray, List.set_cons_zero, List.set_cons_succ, i64_w, i32_w]
  rfl
 refine take_ (i := 2) (N := some 14) (v := ?_) (a' := ?_) #[true, false, true, false, false, false] rfl rfl (by kernel_rfl) (fun _ _ _ h => h) (Or.inl ⟨by rfl, ?_⟩) hHeld ?_ ?_
 rotate_left
 ·
  rintro w' ⟨s0, s1, s2, s3⟩
  go_simp
  with_reducible rfl
 rotate_left
 ·
  simp only [Act.put, List.setIfInBounds_toArray, List.set_cons_zero, List.set_cons_succ, i64_w, i32_w]
  rfl
 refine one_ (i := 1) (N := some 13) #[true, true, true, false, false, false] rfl rfl (by kernel_rfl) (by decide) (fun K hK => ?_)
 refine goes_ Try.func35 (by kernel_rfl) rfl #[.agg #[.int .i64 a1_0, .int .i64 a1_1]] (by rfl) rfl rfl (mapq rfl) ?_
 with_reducible refine (avermentref10_Fix.calls a1_0 a1_1 t471 t472 _ A4.out).mono ?_
 rintro e w13 ⟨rfl, hb⟩
 refine ⟨_, rfl, ?_⟩
 replace BK469 := bb BK469 hb rfl; replace BK470 := bb BK470 hb rfl; replace HB := hst HB hb rfl
 (try clear hb)
 refine hK.out _ _ ⟨bc BK469 0 rfl, bc BK469 1 rfl, bc BK470 0 rfl, bc BK470 1 rfl⟩ (fun hHeld => ?_)
 clear hK K
 refine norm_ (a' := ?_) ?_ ?_
 rotate_left; · (show Act.put _ (some 13) _ = _; simp only [Act.put, List.setIfInBounds_toArray, List.set_cons_zero, List.set_cons_succ, i64_w, i32_w]; rfl)
 refine one_ (i := 3) (N := some 15) #[true, true, true, true, false, false] rfl rfl (by kernel_rfl) (by decide) (fun K hK => ?_)
 refine goes_ Try.func35 (by kernel_rfl) rfl #[.agg #[.int .i64 a2_0, .int .i64 a2_1]] (by rfl) rfl rfl (mapq rfl) ?_
 with_reducible refine (avermentref10_Fix.calls a2_0 a2_1 t473 t474 _ A5.out).mono ?_
 rintro e w14 ⟨rfl, hb⟩
 refine ⟨_, rfl, ?_⟩
 replace BK469 := bb BK469 hb rfl; replace BK470 := bb BK470 hb rfl; replace HB := hst HB hb rfl
 (try clear hb)
 refine hK.out _ _ ⟨bc BK469 0 rfl, bc BK469 1 rfl, bc BK470 0 rfl, bc BK470 1 rfl⟩ (fun hHeld => ?_)
 clear hK K
 refine norm_ (a' := ?_) ?_ ?_
 rotate_left; · (show Act.put _ (some 15) _ = _; simp only [Act.put, List.setIfInBounds_toArray, List.set_cons_zero, List.set_cons_succ, i64_w, i32_w]; rfl)
 refine last_ (i := 4) (N := none) #[true, true, true, true, true, false] rfl rfl (by kernel_rfl) (by decide) (fun K hK => ?_)
 have hs15 : w14.cell? ⟨gb469, 0, none⟩ = some (.int .i64 a1_0) := bc BK469 0 rfl
 have hfs15 := blk_frozen BK469.out 0
 have hns15_1 := NB470_469.out
 have hms15_1 := NB469_470.out
 have hs16 : w14.cell? ⟨gb469, 1, none⟩ = some (.int .i64 a1_1) := bc BK469 1 rfl
 have hfs16 := blk_frozen BK469.out 1
 have hns16_1 := NB470_469.out
 have hms16_1 := NB469_470.out
 refine skip_ (w1 := ?_) (by rfl) rfl ?_ ?_
 rotate_left
 ·
  go_simp
  rfl
 refine hK.out _ _ ?_
 clear hK K
 refine last_ (i := 5) (N := none) #[true, true, true, true, true, true] rfl rfl (by kernel_rfl) (by decide) (fun K hK => ?_)
 have hs17 : w14.cell? ⟨gb470, 0, none⟩ = some (.int .i64 a2_0) := bc BK470 0 rfl
 have hfs17 := blk_frozen BK470.out 0
 have hns17_0 := NB469_470.out
 have hms17_0 := NB470_469.out
 have hs18 : w14.cell? ⟨gb470, 1, none⟩ = some (.int .i64 a2_1) := bc BK470 1 rfl
 have hfs18 := blk_frozen BK470.out 1
 have hns18_0 := NB469_470.out
 have hms18_0 := NB470_469.out
 refine skip_ (w1 := ?_) (by rfl) rfl ?_ ?_
 rotate_left
 ·
  go_simp
  rfl
 refine hK.out _ _ ?_
 clear hK K
 refine done_ (by kernel_rfl) ?_
 have hnb19 := NB469_470.out
 have hnc19 := NB470_469.out
 obtain ⟨hcz20_0, hcz20_1, hfz20_0, hfz20_1⟩ := c2 BK469
 go_upto_region 4 with (first | ((with_reducible refine gate_callee (f := 37) rfl ?_); refine goesL_ (some 19) rfl rfl Try.func37 (by kernel_rfl) rfl #[.agg #[.int .i64 t471, .int .i64 t472]] rfl (mapq rfl) ?_; (with_reducible refine (avermentlaw10_To.calls t471 t472 t475 t476 _ A6.out).mono ?_); rintro e w21 ⟨rfl, hb⟩; refine ⟨_, rfl, ?_⟩; replace BK469 := Aside0.mk (blk_below (g := gb469) (o := .cells #[.int .i64 t471, .int .i64 t472] 56 (0, 0)) (by (with_reducible repeat (first | refine blk_drewN ?_ _ | refine blk_drew ?_ | refine blk_alloc ?_ _)); refine blk_far ?_ NB469_470.out _; (with_reducible repeat (first | refine blk_drewN ?_ _ | refine blk_drew ?_ | refine blk_alloc ?_ _)); refine blk_far ?_ NB469_470.out _; (with_reducible repeat (first | refine blk_drewN ?_ _ | refine blk_drew ?_ | refine blk_alloc ?_ _)); refine blk_put (cs := #[.int .i64 t471, .int .i64 a1_1]) ?_ 1 _ rfl; (with_reducible repeat (first | refine blk_drewN ?_ _ | refine blk_drew ?_ | refine blk_alloc ?_ _)); refine blk_put (cs := #[.int .i64 a1_0, .int .i64 a1_1]) ?_ 0 _ rfl; (with_reducible repeat (first | refine blk_drewN ?_ _ | refine blk_drew ?_ | refine blk_alloc ?_ _)); exact BK469.out) hb); replace BK470 := Aside0.mk (blk_below (g := gb470) (o := .cells #[.int .i64 t473, .int .i64 t474] 56 (0, 0)) (by (with_reducible repeat (first | refine blk_drewN ?_ _ | refine blk_drew ?_ | refine blk_alloc ?_ _)); refine blk_put (cs := #[.int .i64 t473, .int .i64 a2_1]) ?_ 1 _ rfl; (with_reducible repeat (first | refine blk_drewN ?_ _ | refine blk_drew ?_ | refine blk_alloc ?_ _)); refine blk_put (cs := #[.int .i64 a2_0, .int .i64 a2_1]) ?_ 0 _ rfl; (with_reducible repeat (first | refine blk_drewN ?_ _ | refine blk_drew ?_ | refine blk_alloc ?_ _)); refine blk_far ?_ NB470_469.out _; (with_reducible repeat (first | refine blk_drewN ?_ _ | refine blk_drew ?_ | refine blk_alloc ?_ _)); refine blk_far ?_ NB470_469.out _; (with_reducible repeat (first | refine blk_drewN ?_ _ | refine blk_drew ?_ | refine blk_alloc ?_ _)); exact BK470.out) hb); replace HB := Aside0.mk (below_step (by repeat (first | (with_reducible first | exact HB.out | apply below_alloc | apply pw_below_drewN | apply below_drew1 | refine below_set ?_ GE469.out | refine below_set ?_ GE470.out) | exact HB.out)) hb); (try clear hb)) | ((with_reducible refine gate_callee (f := 54) rfl ?_); refine goesL_ (some 20) rfl rfl Try.func54 (by kernel_rfl) rfl #[.int .i64 a0, .agg #[.int .i64 t475, .int .i64 t476]] rfl (mapq rfl) ?_; (with_reducible refine (span_One.calls k a0 t475 t476 t477 t478 t479 _ A7.out).mono ?_); rintro e w22 ⟨rfl, hb⟩; refine ⟨_, rfl, ?_⟩; replace BK469 := bb BK469 hb rfl; replace BK470 := bb BK470 hb rfl; replace HB := hst HB hb rfl; (try clear hb)) | ((with_reducible refine gate_dst (N := 7) rfl ?_); refine box_event ?hg (N := 7) ?hd (cs := #[.int .i64 0, .int .i64 0]) (t := 59) ?hr ?_; (case hd => rfl); (case hg => rfl); (case hr => first | (go_simp; done) | (go_simp; rfl)); intro gb480 hg w23 hbox hb; have BK480 := Aside0.mk (hbox); have GW480 := geb hg HB rfl; have GE480 := geb hg HB rfl; have NB469_480 := nbl hg BK469 rfl; have NB480_469 := nbr hg BK469 rfl; have NB470_480 := nbl hg BK470 rfl; have NB480_470 := nbr hg BK470 rfl; replace BK469 := bb BK469 hb rfl; replace BK470 := bb BK470 hb rfl; replace HB := hst HB hb rfl; clear hb hbox hg; have hnb24 := NB480_469.out; have hnc24 := NB469_480.out; have hnb25 := NB480_470.out; have hnc25 := NB470_480.out; obtain ⟨hcz26_0, hcz26_1, hfz26_0, hfz26_1⟩ := c2 BK480; obtain ⟨hcz27_0, hcz27_1, hfz27_0, hfz27_1⟩ := c2 BK469) | ((with_reducible refine gate_callee (f := 55) rfl ?_); refine goesL_ (some 26) rfl rfl Try.func55 (by kernel_rfl) rfl #[.int .i64 a0, .agg #[.int .i64 t471, .int .i64 t472]] rfl (mapq rfl) ?_; (with_reducible refine (avermentref10_One.calls a0 t471 t472 t481 t482 t483 _ A8.out).mono ?_); rintro e w28 ⟨rfl, hb⟩; refine ⟨_, rfl, ?_⟩; replace BK469 := Aside0.mk (blk_below (g := gb469) (o := .cells #[.int .i64 t471, .int .i64 t472] 56 (0, 0)) (by (with_reducible repeat (first | refine blk_drewN ?_ _ | refine blk_drew ?_ | refine blk_alloc ?_ _)); refine blk_far ?_ NB469_480.out _; (with_reducible repeat (first | refine blk_drewN ?_ _ | refine blk_drew ?_ | refine blk_alloc ?_ _)); refine blk_far ?_ NB469_480.out _; (with_reducible repeat (first | refine blk_drewN ?_ _ | refine blk_drew ?_ | refine blk_alloc ?_ _)); exact BK469.out) hb); replace BK470 := Aside0.mk (blk_below (g := gb470) (o := .cells #[.int .i64 t473, .int .i64 t474] 56 (0, 0)) (by (with_reducible repeat (first | refine blk_drewN ?_ _ | refine blk_drew ?_ | refine blk_alloc ?_ _)); refine blk_far ?_ NB470_480.out _; (with_reducible repeat (first | refine blk_drewN ?_ _ | refine blk_drew ?_ | refine blk_alloc ?_ _)); refine blk_far ?_ NB470_480.out _; (with_reducible repeat (first | refine blk_drewN ?_ _ | refine blk_drew ?_ | refine blk_alloc ?_ _)); exact BK470.out) hb); replace BK480 := Aside0.mk (blk_below (g := gb480) (o := .cells #[.int .i64 t477, .int .i64 t478] 59 (0, 0)) (by (with_reducible repeat (first | refine blk_drewN ?_ _ | refine blk_drew ?_ | refine blk_alloc ?_ _)); refine blk_put (cs := #[.int .i64 t477, .int .i64 0]) ?_ 1 _ rfl; (with_reducible repeat (first | refine blk_drewN ?_ _ | refine blk_drew ?_ | refine blk_alloc ?_ _)); refine blk_put (cs := #[.int .i64 0, .int .i64 0]) ?_ 0 _ rfl; (with_reducible repeat (first | refine blk_drewN ?_ _ | refine blk_drew ?_ | refine blk_alloc ?_ _)); exact BK480.out) hb); replace HB := Aside0.mk (below_step (by repeat (first | (with_reducible first | exact HB.out | apply below_alloc | apply pw_below_drewN | apply below_drew1 | refine below_set ?_ GE469.out | refine below_set ?_ GE470.out | refine below_set ?_ GE480.out) | exact HB.out)) hb); (try clear hb)) | ((with_reducible refine gate_dst (N := 9) rfl ?_); refine box_event ?hg (N := 9) ?hd (cs := #[.int .i64 0, .int .i64 0]) (t := 56) ?hr ?_; (case hd => rfl); (case hg => rfl); (case hr => first | (go_simp; done) | (go_simp; rfl)); intro gb484 hg w29 hbox hb; have BK484 := Aside0.mk (hbox); have GW484 := geb hg HB rfl; have GE484 := geb hg HB rfl; have NB469_484 := nbl hg BK469 rfl; have NB484_469 := nbr hg BK469 rfl; have NB470_484 := nbl hg BK470 rfl; have NB484_470 := nbr hg BK470 rfl; have NB480_484 := nbl hg BK480 rfl; have NB484_480 := nbr hg BK480 rfl; replace BK469 := bb BK469 hb rfl; replace BK470 := bb BK470 hb rfl; replace BK480 := bb BK480 hb rfl; replace HB := hst HB hb rfl; clear hb hbox hg; have hnb30 := NB484_469.out; have hnc30 := NB469_484.out; have hnb31 := NB484_470.out; have hnc31 := NB470_484.out; have hnb32 := NB484_480.out; have hnc32 := NB480_484.out; obtain ⟨hcz33_0, hcz33_1, hfz33_0, hfz33_1⟩ := c2 BK484))
 (try simp only [Act.put, List.setIfInBounds_toArray, List.set_cons_zero, List.set_cons_succ])
 go_cut [41] (fun v41 wc => ∃ (kq : Nat) (x41_8 : Bool), v41 = .bool x41_8 ∧ Aside0 (avermentlaw10_SpanMakes.j0 kq a0 x41_8 t471 t472 t473 t474 = some r) ∧ Aside0 (kq ≤ k) ∧ Aside0 (wc.heap[gb469]? = some (.cells #[.int .i64 t471, .int .i64 t472] 56 (0, 0))) ∧ Aside0 (wc.heap[gb470]? = some (.cells #[.int .i64 t473, .int .i64 t474] 56 (0, 0))) ∧ Aside0 (wc.heap[gb480]? = some (.cells #[.int .i64 t477, .int .i64 t478] 59 (0, 0))) ∧ Aside0 (wc.heap[gb484]? = some (.cells #[.int .i64 t481, .int .i64 t482] 56 (0, 0))) ∧ Aside0 (Below w.heap.size w wc))
 case first =>
  have H := HC9.out
  clear HC9
  replace H := Option.bind_eq_some_iff.mp H
  obtain ⟨t485, A340, H⟩ := H
  (try dsimp only at H)
  have A34 := Aside0.mk A340
  clear A340
  by_cases c35 : t485 = true
  ·
   subst c35
   rw [if_pos rfl] at H
   replace H := Option.bind_eq_some_iff.mp H
   obtain ⟨⟨t486, t487⟩, A360, H⟩ := H
   (try dsimp only at H)
   have A36 := Aside0.mk A360
   clear A360
   by_cases c37 : (!(t486 == t481) || (!(t487 == t482))) = true
   ·
    rw [if_pos c37] at H
    have c37b0 : (!(t486 == t481) || (!(t487 == t482))) = true := c37
    clear c37
    (first | rw [c37b0] | (simp only [i64_w, i32_w]; rw [c37b0]) | skip)
    have H' := Aside0.mk H
    clear H
    try go_wp2
    have n0_ : Aside0 (((w29.setCell ⟨gb484, 0, none⟩ (.int .i64 t481)).setCell ⟨gb484, 1, none⟩ (.int .i64 t482)).heap[gb469]? = some (.cells #[.int .i64 t471, .int .i64 t472] 56 (0, 0))) := ⟨by (with_reducible repeat (first | refine blk_drewN ?_ _ | refine blk_drew ?_ | refine blk_alloc ?_ _)); refine blk_far ?_ NB469_484.out _; (with_reducible repeat (first | refine blk_drewN ?_ _ | refine blk_drew ?_ | refine blk_alloc ?_ _)); refine blk_far ?_ NB469_484.out _; (with_reducible repeat (first | refine blk_drewN ?_ _ | refine blk_drew ?_ | refine blk_alloc ?_ _)); exact BK469.out⟩
    have n1_ : Aside0 (((w29.setCell ⟨gb484, 0, none⟩ (.int .i64 t481)).setCell ⟨gb484, 1, none⟩ (.int .i64 t482)).heap[gb470]? = some (.cells #[.int .i64 t473, .int .i64 t474] 56 (0, 0))) := ⟨by (with_reducible repeat (first | refine blk_drewN ?_ _ | refine blk_drew ?_ | refine blk_alloc ?_ _)); refine blk_far ?_ NB470_484.out _; (with_reducible repeat (first | refine blk_drewN ?_ _ | refine blk_drew ?_ | refine blk_alloc ?_ _)); refine blk_far ?_ NB470_484.out _; (with_reducible repeat (first | refine blk_drewN ?_ _ | refine blk_drew ?_ | refine blk_alloc ?_ _)); exact BK470.out⟩
    have n2_ : Aside0 (((w29.setCell ⟨gb484, 0, none⟩ (.int .i64 t481)).setCell ⟨gb484, 1, none⟩ (.int .i64 t482)).heap[gb480]? = some (.cells #[.int .i64 t477, .int .i64 t478] 59 (0, 0))) := ⟨by (with_reducible repeat (first | refine blk_drewN ?_ _ | refine blk_drew ?_ | refine blk_alloc ?_ _)); refine blk_far ?_ NB480_484.out _; (with_reducible repeat (first | refine blk_drewN ?_ _ | refine blk_drew ?_ | refine blk_alloc ?_ _)); refine blk_far ?_ NB480_484.out _; (with_reducible repeat (first | refine blk_drewN ?_ _ | refine blk_drew ?_ | refine blk_alloc ?_ _)); exact BK480.out⟩
    have n3_ : Aside0 (((w29.setCell ⟨gb484, 0, none⟩ (.int .i64 t481)).setCell ⟨gb484, 1, none⟩ (.int .i64 t482)).heap[gb484]? = some (.cells #[.int .i64 t481, .int .i64 t482] 56 (0, 0))) := ⟨by (with_reducible repeat (first | refine blk_drewN ?_ _ | refine blk_drew ?_ | refine blk_alloc ?_ _)); refine blk_put (cs := #[.int .i64 t481, .int .i64 0]) ?_ 1 _ rfl; (with_reducible repeat (first | refine blk_drewN ?_ _ | refine blk_drew ?_ | refine blk_alloc ?_ _)); refine blk_put (cs := #[.int .i64 0, .int .i64 0]) ?_ 0 _ rfl; (with_reducible repeat (first | refine blk_drewN ?_ _ | refine blk_drew ?_ | refine blk_alloc ?_ _)); exact BK484.out⟩
    have n4_ : Aside0 (Below w.heap.size w ((w29.setCell ⟨gb484, 0, none⟩ (.int .i64 t481)).setCell ⟨gb484, 1, none⟩ (.int .i64 t482))) := ⟨by repeat (first | (with_reducible first | exact HB.out | apply below_alloc | apply pw_below_drewN | apply below_drew1 | refine below_set ?_ GE469.out | refine below_set ?_ GE470.out | refine below_set ?_ GE480.out | refine below_set ?_ GE484.out) | exact HB.out)⟩
    (try clear BK469)
    (try clear BK470)
    (try clear BK480)
    (try clear BK484)
    (try clear HB)
    generalize ((w29.setCell ⟨gb484, 0, none⟩ (.int .i64 t481)).setCell ⟨gb484, 1, none⟩ (.int .i64 t482)) = w38 at n0_ n1_ n2_ n3_ n4_ ⊢
    have BK469 := n0_
    have BK470 := n1_
    have BK480 := n2_
    have BK484 := n3_
    have HB := n4_
    clear n0_ n1_ n2_ n3_ n4_
    replace BK469 := Aside0.mk (blk_drew BK469.out); replace BK470 := Aside0.mk (blk_drew BK470.out); replace BK480 := Aside0.mk (blk_drew BK480.out); replace BK484 := Aside0.mk (blk_drew BK484.out); replace HB := Aside0.mk (below_drew1 HB.out)
    refine start_ (n := 13) (S := fun w' => w'.cell? ⟨gb480, 0, none⟩ = some (.int .i64 t477) ∧ w'.cell? ⟨gb480, 1, none⟩ = some (.int .i64 t478) ∧ w'.cell? ⟨gb484, 0, none⟩ = some (.int .i64 t481) ∧ w'.cell? ⟨gb484, 1, none⟩ = some (.int .i64 t482)) (ds := []) #[false, false, false, false, false, false, false, false, false, false, false, false, false] (by kernel_rfl) rfl rfl ⟨bc BK480 0 rfl, bc BK480 1 rfl, bc BK484 0 rfl, bc BK484 1 rfl⟩ (fun hHeld => ?_); refine with_tabW avermentlaw10_SpanMakes.tab4 avermentlaw10_SpanMakes.bits4 (fun HT_ HW_ => ?_)
    generalize w38.drew = w39 at BK469 BK470 BK480 BK484 HB hHeld ⊢
    refine one_ (i := 0) (N := some 29) #[true, false, false, false, false, false, false, false, false, false, false, false, false] rfl rfl (one_of HT_.out (by kernel_rfl)) (by decide) (fun K hK => ?_)
    refine goes_ Try.func38 (by kernel_rfl) rfl #[] (by rfl) rfl rfl (mapq rfl) ?_
    with_reducible refine (avermentlaw10_told.calls k  true _ A34.out).mono ?_
    rintro e w40 ⟨rfl, hb⟩
    refine ⟨_, rfl, ?_⟩
    replace BK469 := bb BK469 hb rfl; replace BK470 := bb BK470 hb rfl; replace BK480 := bb BK480 hb rfl; replace BK484 := bb BK484 hb rfl; replace HB := hst HB hb rfl
    (try clear hb)
    refine hK.out _ _ ⟨bc BK480 0 rfl, bc BK480 1 rfl, bc BK484 0 rfl, bc BK484 1 rfl⟩ (fun hHeld => ?_)
    clear hK K
    refine norm_ (a' := ?_) ?_ ?_
    rotate_left; · (show Act.put _ (some 29) _ = _; simp only [Act.put, List.setIfInBounds_toArray, List.set_cons_zero, List.set_cons_succ, i64_w, i32_w]; rfl)
    refine pure_ (i := 1) (N := some 30) (v := ?_) (a' := ?_) #[true, true, false, false, false, false, false, false, false, false, false, false, false] rfl rfl (any_of HT_.out (by kernel_rfl)) (fun _ _ _ h => h) (Or.inl ⟨by rfl, ?_⟩) ?_ ?_
    rotate_left; · (intro w'; go_simp; with_reducible rfl)
    rotate_left; · (simp only [Act.put, List.setIfInBounds_toArray, List.set_cons_zero, List.set_cons_succ, i64_w, i32_w]; rfl)
    refine pure_ (i := 2) (N := some 31) (v := ?_) (a' := ?_) #[true, true, true, false, false, false, false, false, false, false, false, false, false] rfl rfl (any_of HT_.out (by kernel_rfl)) (fun _ _ _ h => h) (Or.inl ⟨by rfl, ?_⟩) ?_ ?_
    rotate_left; · (intro w'; go_simp; with_reducible rfl)
    rotate_left; · (simp only [Act.put, List.setIfInBounds_toArray, List.set_cons_zero, List.set_cons_succ, i64_w, i32_w]; rfl)
    refine take_ (i := 3) (N := some 32) (v := ?_) (a' := ?_) #[true, true, true, true, false, false, false, false, false, false, false, false, false] rfl rfl (take_ofW HT_.out HW_.out (by kernel_rfl)) (fun _ _ _ h => h) (Or.inl ⟨by rfl, ?_⟩) hHeld ?_ ?_
    rotate_left
    ·
     rintro w' ⟨s0, s1, s2, s3⟩
     go_simp
     with_reducible rfl
    rotate_left
    ·
     simp only [Act.put, List.setIfInBounds_toArray, List.set_cons_zero, List.set_cons_succ, i64_w, i32_w]
     rfl
    refine take_ (i := 5) (N := some 34) (v := ?_) (a' := ?_) #[true, true, true, true, false, true, false, false, false, false, false, false, false] rfl rfl (take_ofW HT_.out HW_.out (by kernel_rfl)) (fun _ _ _ h => h) (Or.inl ⟨by rfl, ?_⟩) hHeld ?_ ?_
    rotate_left
    ·
     rintro w' ⟨s0, s1, s2, s3⟩
     go_simp
     with_reducible rfl
    rotate_left
    ·
     simp only [Act.put, List.setIfInBounds_toArray, List.set_cons_zero, List.set_cons_succ, i64_w, i32_w]
     rfl
    refine one_ (i := 4) (N := some 33) #[true, true, true, true, true, true, false, false, false, false, false, false, false] rfl rfl (one_of HT_.out (by kernel_rfl)) (by decide) (fun K hK => ?_)
    refine goes_ Try.func39 (by kernel_rfl) rfl #[.agg #[.int .i64 t477, .int .i64 t478]] (by rfl) rfl rfl (mapq rfl) ?_
    with_reducible refine (avermentlaw10_From.calls t477 t478 t486 t487 _ A36.out).mono ?_
    rintro e w41 ⟨rfl, hb⟩
    refine ⟨_, rfl, ?_⟩
    replace BK469 := bb BK469 hb rfl; replace BK470 := bb BK470 hb rfl; replace BK480 := bb BK480 hb rfl; replace BK484 := bb BK484 hb rfl; replace HB := hst HB hb rfl
    (try clear hb)
    refine hK.out _ _ ⟨bc BK480 0 rfl, bc BK480 1 rfl, bc BK484 0 rfl, bc BK484 1 rfl⟩ (fun hHeld => ?_)
    clear hK K
    refine norm_ (a' := ?_) ?_ ?_
    rotate_left; · (show Act.put _ (some 33) _ = _; simp only [Act.put, List.setIfInBounds_toArray, List.set_cons_zero, List.set_cons_succ, i64_w, i32_w]; rfl)
    refine pure_ (i := 6) (N := some 35) (v := ?_) (a' := ?_) #[true, true, true, true, true, true, true, false, false, false, false, false, false] rfl rfl (any_of HT_.out (by kernel_rfl)) (fun _ _ _ h => h) (Or.inl ⟨by rfl, ?_⟩) ?_ ?_
    rotate_left; · (intro w'; go_simp; with_reducible rfl)
    rotate_left; · (simp only [Act.put, List.setIfInBounds_toArray, List.set_cons_zero, List.set_cons_succ, i64_w, i32_w]; rfl)
    refine pure_ (i := 7) (N := some 36) (v := ?_) (a' := ?_) #[true, true, true, true, true, true, true, true, false, false, false, false, false] rfl rfl (any_of HT_.out (by kernel_rfl)) (fun _ _ _ h => h) (Or.inl ⟨by rfl, ?_⟩) ?_ ?_
    rotate_left; · (intro w'; go_simp; with_reducible rfl)
    rotate_left; · (simp only [Act.put, List.setIfInBounds_toArray, List.set_cons_zero, List.set_cons_succ, i64_w, i32_w]; rfl)
    refine pure_ (i := 8) (N := some 37) (v := ?_) (a' := ?_) #[true, true, true, true, true, true, true, true, true, false, false, false, false] rfl rfl (any_of HT_.out (by kernel_rfl)) (fun _ _ _ h => h) (Or.inl ⟨by rfl, ?_⟩) ?_ ?_
    rotate_left; · (intro w'; go_simp; with_reducible rfl)
    rotate_left; · (simp only [Act.put, List.setIfInBounds_toArray, List.set_cons_zero, List.set_cons_succ, i64_w, i32_w]; rfl)
    refine pure_ (i := 9) (N := some 38) (v := undef) (a' := ?_) #[true, true, true, true, true, true, true, true, true, true, false, false, false] rfl rfl (any_of HT_.out (by kernel_rfl)) (fun _ _ _ h => h) (Or.inr ⟨by rfl, rfl⟩) ?_ ?_
    rotate_left
    ·
     simp only [Act.put, List.setIfInBounds_toArray, List.set_cons_zero, List.set_cons_succ, i64_w, i32_w]
     rfl
    refine pure_ (i := 10) (N := some 39) (v := undef) (a' := ?_) #[true, true, true, true, true, true, true, true, true, true, true, false, false] rfl rfl (any_of HT_.out (by kernel_rfl)) (fun _ _ _ h => h) (Or.inr ⟨by rfl, rfl⟩) ?_ ?_
    rotate_left
    ·
     simp only [Act.put, List.setIfInBounds_toArray, List.set_cons_zero, List.set_cons_succ, i64_w, i32_w]
     rfl
    refine pure_ (i := 11) (N := some 40) (v := undef) (a' := ?_) #[true, true, true, true, true, true, true, true, true, true, true, true, false] rfl rfl (any_of HT_.out (by kernel_rfl)) (fun _ _ _ h => h) (Or.inr ⟨by rfl, rfl⟩) ?_ ?_
    rotate_left
    ·
     simp only [Act.put, List.setIfInBounds_toArray, List.set_cons_zero, List.set_cons_succ, i64_w, i32_w]
     rfl
    refine pure_ (i := 12) (N := some 41) (v := ?_) (a' := ?_) #[true, true, true, true, true, true, true, true, true, true, true, true, true] rfl rfl (any_of HT_.out (by kernel_rfl)) (fun _ _ _ h => h) (Or.inl ⟨by rfl, ?_⟩) ?_ ?_
    rotate_left; · (intro w'; go_simp; with_reducible rfl)
    rotate_left; · (simp only [Act.put, List.setIfInBounds_toArray, List.set_cons_zero, List.set_cons_succ, i64_w, i32_w]; rfl)
    refine done_ (done_of HT_.out (by kernel_rfl)) ?_
    try go_wp2
    go_meet
    case rel => exact ⟨_, (true), (by first | rfl | (simp; done) | (simp [*]; done)), H', ⟨by first | omega | exact Nat.le_refl _⟩, ⟨by (with_reducible repeat (first | refine blk_drewN ?_ _ | refine blk_drew ?_ | refine blk_alloc ?_ _)); exact BK469.out⟩, ⟨by (with_reducible repeat (first | refine blk_drewN ?_ _ | refine blk_drew ?_ | refine blk_alloc ?_ _)); exact BK470.out⟩, ⟨by (with_reducible repeat (first | refine blk_drewN ?_ _ | refine blk_drew ?_ | refine blk_alloc ?_ _)); exact BK480.out⟩, ⟨by (with_reducible repeat (first | refine blk_drewN ?_ _ | refine blk_drew ?_ | refine blk_alloc ?_ _)); exact BK484.out⟩, ⟨by repeat (first | (with_reducible first | exact HB.out | apply below_alloc | apply pw_below_drewN | apply below_drew1 | refine below_set ?_ GE469.out | refine below_set ?_ GE470.out | refine below_set ?_ GE480.out | refine below_set ?_ GE484.out) | exact HB.out)⟩⟩
   ·
    rw [if_neg c37] at H
    have c37b0 : (!(t486 == t481) || (!(t487 == t482))) = false := by simpa using c37
    clear c37
    (first | rw [c37b0] | (simp only [i64_w, i32_w]; rw [c37b0]) | skip)
    have H' := Aside0.mk H
    clear H
    try go_wp2
    have n0_ : Aside0 (((w29.setCell ⟨gb484, 0, none⟩ (.int .i64 t481)).setCell ⟨gb484, 1, none⟩ (.int .i64 t482)).heap[gb469]? = some (.cells #[.int .i64 t471, .int .i64 t472] 56 (0, 0))) := ⟨by (with_reducible repeat (first | refine blk_drewN ?_ _ | refine blk_drew ?_ | refine blk_alloc ?_ _)); refine blk_far ?_ NB469_484.out _; (with_reducible repeat (first | refine blk_drewN ?_ _ | refine blk_drew ?_ | refine blk_alloc ?_ _)); refine blk_far ?_ NB469_484.out _; (with_reducible repeat (first | refine blk_drewN ?_ _ | refine blk_drew ?_ | refine blk_alloc ?_ _)); exact BK469.out⟩
    have n1_ : Aside0 (((w29.setCell ⟨gb484, 0, none⟩ (.int .i64 t481)).setCell ⟨gb484, 1, none⟩ (.int .i64 t482)).heap[gb470]? = some (.cells #[.int .i64 t473, .int .i64 t474] 56 (0, 0))) := ⟨by (with_reducible repeat (first | refine blk_drewN ?_ _ | refine blk_drew ?_ | refine blk_alloc ?_ _)); refine blk_far ?_ NB470_484.out _; (with_reducible repeat (first | refine blk_drewN ?_ _ | refine blk_drew ?_ | refine blk_alloc ?_ _)); refine blk_far ?_ NB470_484.out _; (with_reducible repeat (first | refine blk_drewN ?_ _ | refine blk_drew ?_ | refine blk_alloc ?_ _)); exact BK470.out⟩
    have n2_ : Aside0 (((w29.setCell ⟨gb484, 0, none⟩ (.int .i64 t481)).setCell ⟨gb484, 1, none⟩ (.int .i64 t482)).heap[gb480]? = some (.cells #[.int .i64 t477, .int .i64 t478] 59 (0, 0))) := ⟨by (with_reducible repeat (first | refine blk_drewN ?_ _ | refine blk_drew ?_ | refine blk_alloc ?_ _)); refine blk_far ?_ NB480_484.out _; (with_reducible repeat (first | refine blk_drewN ?_ _ | refine blk_drew ?_ | refine blk_alloc ?_ _)); refine blk_far ?_ NB480_484.out _; (with_reducible repeat (first | refine blk_drewN ?_ _ | refine blk_drew ?_ | refine blk_alloc ?_ _)); exact BK480.out⟩
    have n3_ : Aside0 (((w29.setCell ⟨gb484, 0, none⟩ (.int .i64 t481)).setCell ⟨gb484, 1, none⟩ (.int .i64 t482)).heap[gb484]? = some (.cells #[.int .i64 t481, .int .i64 t482] 56 (0, 0))) := ⟨by (with_reducible repeat (first | refine blk_drewN ?_ _ | refine blk_drew ?_ | refine blk_alloc ?_ _)); refine blk_put (cs := #[.int .i64 t481, .int .i64 0]) ?_ 1 _ rfl; (with_reducible repeat (first | refine blk_drewN ?_ _ | refine blk_drew ?_ | refine blk_alloc ?_ _)); refine blk_put (cs := #[.int .i64 0, .int .i64 0]) ?_ 0 _ rfl; (with_reducible repeat (first | refine blk_drewN ?_ _ | refine blk_drew ?_ | refine blk_alloc ?_ _)); exact BK484.out⟩
    have n4_ : Aside0 (Below w.heap.size w ((w29.setCell ⟨gb484, 0, none⟩ (.int .i64 t481)).setCell ⟨gb484, 1, none⟩ (.int .i64 t482))) := ⟨by repeat (first | (with_reducible first | exact HB.out | apply below_alloc | apply pw_below_drewN | apply below_drew1 | refine below_set ?_ GE469.out | refine below_set ?_ GE470.out | refine below_set ?_ GE480.out | refine below_set ?_ GE484.out) | exact HB.out)⟩
    (try clear BK469)
    (try clear BK470)
    (try clear BK480)
    (try clear BK484)
    (try clear HB)
    generalize ((w29.setCell ⟨gb484, 0, none⟩ (.int .i64 t481)).setCell ⟨gb484, 1, none⟩ (.int .i64 t482)) = w42 at n0_ n1_ n2_ n3_ n4_ ⊢
    have BK469 := n0_
    have BK470 := n1_
    have BK480 := n2_
    have BK484 := n3_
    have HB := n4_
    clear n0_ n1_ n2_ n3_ n4_
    replace BK469 := Aside0.mk (blk_drew BK469.out); replace BK470 := Aside0.mk (blk_drew BK470.out); replace BK480 := Aside0.mk (blk_drew BK480.out); replace BK484 := Aside0.mk (blk_drew BK484.out); replace HB := Aside0.mk (below_drew1 HB.out)
    refine start_ (n := 13) (S := fun w' => w'.cell? ⟨gb480, 0, none⟩ = some (.int .i64 t477) ∧ w'.cell? ⟨gb480, 1, none⟩ = some (.int .i64 t478) ∧ w'.cell? ⟨gb484, 0, none⟩ = some (.int .i64 t481) ∧ w'.cell? ⟨gb484, 1, none⟩ = some (.int .i64 t482)) (ds := []) #[false, false, false, false, false, false, false, false, false, false, false, false, false] (by kernel_rfl) rfl rfl ⟨bc BK480 0 rfl, bc BK480 1 rfl, bc BK484 0 rfl, bc BK484 1 rfl⟩ (fun hHeld => ?_); refine with_tabW avermentlaw10_SpanMakes.tab4 avermentlaw10_SpanMakes.bits4 (fun HT_ HW_ => ?_)
    generalize w42.drew = w43 at BK469 BK470 BK480 BK484 HB hHeld ⊢
    refine one_ (i := 0) (N := some 29) #[true, false, false, false, false, false, false, false, false, false, false, false, false] rfl rfl (one_of HT_.out (by kernel_rfl)) (by decide) (fun K hK => ?_)
    refine goes_ Try.func38 (by kernel_rfl) rfl #[] (by rfl) rfl rfl (mapq rfl) ?_
    with_reducible refine (avermentlaw10_told.calls k  true _ A34.out).mono ?_
    rintro e w44 ⟨rfl, hb⟩
    refine ⟨_, rfl, ?_⟩
    replace BK469 := bb BK469 hb rfl; replace BK470 := bb BK470 hb rfl; replace BK480 := bb BK480 hb rfl; replace BK484 := bb BK484 hb rfl; replace HB := hst HB hb rfl
    (try clear hb)
    refine hK.out _ _ ⟨bc BK480 0 rfl, bc BK480 1 rfl, bc BK484 0 rfl, bc BK484 1 rfl⟩ (fun hHeld => ?_)
    clear hK K
    refine norm_ (a' := ?_) ?_ ?_
    rotate_left; · (show Act.put _ (some 29) _ = _; simp only [Act.put, List.setIfInBounds_toArray, List.set_cons_zero, List.set_cons_succ, i64_w, i32_w]; rfl)
    refine pure_ (i := 1) (N := some 30) (v := ?_) (a' := ?_) #[true, true, false, false, false, false, false, false, false, false, false, false, false] rfl rfl (any_of HT_.out (by kernel_rfl)) (fun _ _ _ h => h) (Or.inl ⟨by rfl, ?_⟩) ?_ ?_
    rotate_left; · (intro w'; go_simp; with_reducible rfl)
    rotate_left; · (simp only [Act.put, List.setIfInBounds_toArray, List.set_cons_zero, List.set_cons_succ, i64_w, i32_w]; rfl)
    refine pure_ (i := 2) (N := some 31) (v := ?_) (a' := ?_) #[true, true, true, false, false, false, false, false, false, false, false, false, false] rfl rfl (any_of HT_.out (by kernel_rfl)) (fun _ _ _ h => h) (Or.inl ⟨by rfl, ?_⟩) ?_ ?_
    rotate_left; · (intro w'; go_simp; with_reducible rfl)
    rotate_left; · (simp only [Act.put, List.setIfInBounds_toArray, List.set_cons_zero, List.set_cons_succ, i64_w, i32_w]; rfl)
    refine take_ (i := 3) (N := some 32) (v := ?_) (a' := ?_) #[true, true, true, true, false, false, false, false, false, false, false, false, false] rfl rfl (take_ofW HT_.out HW_.out (by kernel_rfl)) (fun _ _ _ h => h) (Or.inl ⟨by rfl, ?_⟩) hHeld ?_ ?_
    rotate_left
    ·
     rintro w' ⟨s0, s1, s2, s3⟩
     go_simp
     with_reducible rfl
    rotate_left
    ·
     simp only [Act.put, List.setIfInBounds_toArray, List.set_cons_zero, List.set_cons_succ, i64_w, i32_w]
     rfl
    refine take_ (i := 5) (N := some 34) (v := ?_) (a' := ?_) #[true, true, true, true, false, true, false, false, false, false, false, false, false] rfl rfl (take_ofW HT_.out HW_.out (by kernel_rfl)) (fun _ _ _ h => h) (Or.inl ⟨by rfl, ?_⟩) hHeld ?_ ?_
    rotate_left
    ·
     rintro w' ⟨s0, s1, s2, s3⟩
     go_simp
     with_reducible rfl
    rotate_left
    ·
     simp only [Act.put, List.setIfInBounds_toArray, List.set_cons_zero, List.set_cons_succ, i64_w, i32_w]
     rfl
    refine one_ (i := 4) (N := some 33) #[true, true, true, true, true, true, false, false, false, false, false, false, false] rfl rfl (one_of HT_.out (by kernel_rfl)) (by decide) (fun K hK => ?_)
    refine goes_ Try.func39 (by kernel_rfl) rfl #[.agg #[.int .i64 t477, .int .i64 t478]] (by rfl) rfl rfl (mapq rfl) ?_
    with_reducible refine (avermentlaw10_From.calls t477 t478 t486 t487 _ A36.out).mono ?_
    rintro e w45 ⟨rfl, hb⟩
    refine ⟨_, rfl, ?_⟩
    replace BK469 := bb BK469 hb rfl; replace BK470 := bb BK470 hb rfl; replace BK480 := bb BK480 hb rfl; replace BK484 := bb BK484 hb rfl; replace HB := hst HB hb rfl
    (try clear hb)
    refine hK.out _ _ ⟨bc BK480 0 rfl, bc BK480 1 rfl, bc BK484 0 rfl, bc BK484 1 rfl⟩ (fun hHeld => ?_)
    clear hK K
    refine norm_ (a' := ?_) ?_ ?_
    rotate_left; · (show Act.put _ (some 33) _ = _; simp only [Act.put, List.setIfInBounds_toArray, List.set_cons_zero, List.set_cons_succ, i64_w, i32_w]; rfl)
    refine pure_ (i := 6) (N := some 35) (v := ?_) (a' := ?_) #[true, true, true, true, true, true, true, false, false, false, false, false, false] rfl rfl (any_of HT_.out (by kernel_rfl)) (fun _ _ _ h => h) (Or.inl ⟨by rfl, ?_⟩) ?_ ?_
    rotate_left; · (intro w'; go_simp; with_reducible rfl)
    rotate_left; · (simp only [Act.put, List.setIfInBounds_toArray, List.set_cons_zero, List.set_cons_succ, i64_w, i32_w]; rfl)
    refine pure_ (i := 7) (N := some 36) (v := ?_) (a' := ?_) #[true, true, true, true, true, true, true, true, false, false, false, false, false] rfl rfl (any_of HT_.out (by kernel_rfl)) (fun _ _ _ h => h) (Or.inl ⟨by rfl, ?_⟩) ?_ ?_
    rotate_left; · (intro w'; go_simp; with_reducible rfl)
    rotate_left; · (simp only [Act.put, List.setIfInBounds_toArray, List.set_cons_zero, List.set_cons_succ, i64_w, i32_w]; rfl)
    refine pure_ (i := 8) (N := some 37) (v := ?_) (a' := ?_) #[true, true, true, true, true, true, true, true, true, false, false, false, false] rfl rfl (any_of HT_.out (by kernel_rfl)) (fun _ _ _ h => h) (Or.inl ⟨by rfl, ?_⟩) ?_ ?_
    rotate_left; · (intro w'; go_simp; with_reducible rfl)
    rotate_left; · (simp only [Act.put, List.setIfInBounds_toArray, List.set_cons_zero, List.set_cons_succ, i64_w, i32_w]; rfl)
    refine pure_ (i := 9) (N := some 38) (v := ?_) (a' := ?_) #[true, true, true, true, true, true, true, true, true, true, false, false, false] rfl rfl (any_of HT_.out (by kernel_rfl)) (fun _ _ _ h => h) (Or.inl ⟨by rfl, ?_⟩) ?_ ?_
    rotate_left; · (intro w'; go_simp; with_reducible rfl)
    rotate_left; · (simp only [Act.put, List.setIfInBounds_toArray, List.set_cons_zero, List.set_cons_succ, i64_w, i32_w]; rfl)
    refine pure_ (i := 10) (N := some 39) (v := ?_) (a' := ?_) #[true, true, true, true, true, true, true, true, true, true, true, false, false] rfl rfl (any_of HT_.out (by kernel_rfl)) (fun _ _ _ h => h) (Or.inl ⟨by rfl, ?_⟩) ?_ ?_
    rotate_left; · (intro w'; go_simp; with_reducible rfl)
    rotate_left; · (simp only [Act.put, List.setIfInBounds_toArray, List.set_cons_zero, List.set_cons_succ, i64_w, i32_w]; rfl)
    refine pure_ (i := 11) (N := some 40) (v := ?_) (a' := ?_) #[true, true, true, true, true, true, true, true, true, true, true, true, false] rfl rfl (any_of HT_.out (by kernel_rfl)) (fun _ _ _ h => h) (Or.inl ⟨by rfl, ?_⟩) ?_ ?_
    rotate_left; · (intro w'; go_simp; with_reducible rfl)
    rotate_left; · (simp only [Act.put, List.setIfInBounds_toArray, List.set_cons_zero, List.set_cons_succ, i64_w, i32_w]; rfl)
    refine pure_ (i := 12) (N := some 41) (v := ?_) (a' := ?_) #[true, true, true, true, true, true, true, true, true, true, true, true, true] rfl rfl (any_of HT_.out (by kernel_rfl)) (fun _ _ _ h => h) (Or.inl ⟨by rfl, ?_⟩) ?_ ?_
    rotate_left; · (intro w'; go_simp; with_reducible rfl)
    rotate_left; · (simp only [Act.put, List.setIfInBounds_toArray, List.set_cons_zero, List.set_cons_succ, i64_w, i32_w]; rfl)
    refine done_ (done_of HT_.out (by kernel_rfl)) ?_
    try go_wp2
    go_meet
    case rel => exact ⟨_, ((t479 != t483)), (by first | rfl | (simp; done) | (simp [*]; done)), H', ⟨by first | omega | exact Nat.le_refl _⟩, ⟨by (with_reducible repeat (first | refine blk_drewN ?_ _ | refine blk_drew ?_ | refine blk_alloc ?_ _)); exact BK469.out⟩, ⟨by (with_reducible repeat (first | refine blk_drewN ?_ _ | refine blk_drew ?_ | refine blk_alloc ?_ _)); exact BK470.out⟩, ⟨by (with_reducible repeat (first | refine blk_drewN ?_ _ | refine blk_drew ?_ | refine blk_alloc ?_ _)); exact BK480.out⟩, ⟨by (with_reducible repeat (first | refine blk_drewN ?_ _ | refine blk_drew ?_ | refine blk_alloc ?_ _)); exact BK484.out⟩, ⟨by repeat (first | (with_reducible first | exact HB.out | apply below_alloc | apply pw_below_drewN | apply below_drew1 | refine below_set ?_ GE469.out | refine below_set ?_ GE470.out | refine below_set ?_ GE480.out | refine below_set ?_ GE484.out) | exact HB.out)⟩⟩
  ·
   replace c35 := Bool.eq_false_iff.mpr c35
   subst c35
   rw [if_neg (show ¬ (false = true) by decide)] at H
   have H' := Aside0.mk H
   clear H
   try go_wp2
   have n0_ : Aside0 (((w29.setCell ⟨gb484, 0, none⟩ (.int .i64 t481)).setCell ⟨gb484, 1, none⟩ (.int .i64 t482)).heap[gb469]? = some (.cells #[.int .i64 t471, .int .i64 t472] 56 (0, 0))) := ⟨by (with_reducible repeat (first | refine blk_drewN ?_ _ | refine blk_drew ?_ | refine blk_alloc ?_ _)); refine blk_far ?_ NB469_484.out _; (with_reducible repeat (first | refine blk_drewN ?_ _ | refine blk_drew ?_ | refine blk_alloc ?_ _)); refine blk_far ?_ NB469_484.out _; (with_reducible repeat (first | refine blk_drewN ?_ _ | refine blk_drew ?_ | refine blk_alloc ?_ _)); exact BK469.out⟩
   have n1_ : Aside0 (((w29.setCell ⟨gb484, 0, none⟩ (.int .i64 t481)).setCell ⟨gb484, 1, none⟩ (.int .i64 t482)).heap[gb470]? = some (.cells #[.int .i64 t473, .int .i64 t474] 56 (0, 0))) := ⟨by (with_reducible repeat (first | refine blk_drewN ?_ _ | refine blk_drew ?_ | refine blk_alloc ?_ _)); refine blk_far ?_ NB470_484.out _; (with_reducible repeat (first | refine blk_drewN ?_ _ | refine blk_drew ?_ | refine blk_alloc ?_ _)); refine blk_far ?_ NB470_484.out _; (with_reducible repeat (first | refine blk_drewN ?_ _ | refine blk_drew ?_ | refine blk_alloc ?_ _)); exact BK470.out⟩
   have n2_ : Aside0 (((w29.setCell ⟨gb484, 0, none⟩ (.int .i64 t481)).setCell ⟨gb484, 1, none⟩ (.int .i64 t482)).heap[gb480]? = some (.cells #[.int .i64 t477, .int .i64 t478] 59 (0, 0))) := ⟨by (with_reducible repeat (first | refine blk_drewN ?_ _ | refine blk_drew ?_ | refine blk_alloc ?_ _)); refine blk_far ?_ NB480_484.out _; (with_reducible repeat (first | refine blk_drewN ?_ _ | refine blk_drew ?_ | refine blk_alloc ?_ _)); refine blk_far ?_ NB480_484.out _; (with_reducible repeat (first | refine blk_drewN ?_ _ | refine blk_drew ?_ | refine blk_alloc ?_ _)); exact BK480.out⟩
   have n3_ : Aside0 (((w29.setCell ⟨gb484, 0, none⟩ (.int .i64 t481)).setCell ⟨gb484, 1, none⟩ (.int .i64 t482)).heap[gb484]? = some (.cells #[.int .i64 t481, .int .i64 t482] 56 (0, 0))) := ⟨by (with_reducible repeat (first | refine blk_drewN ?_ _ | refine blk_drew ?_ | refine blk_alloc ?_ _)); refine blk_put (cs := #[.int .i64 t481, .int .i64 0]) ?_ 1 _ rfl; (with_reducible repeat (first | refine blk_drewN ?_ _ | refine blk_drew ?_ | refine blk_alloc ?_ _)); refine blk_put (cs := #[.int .i64 0, .int .i64 0]) ?_ 0 _ rfl; (with_reducible repeat (first | refine blk_drewN ?_ _ | refine blk_drew ?_ | refine blk_alloc ?_ _)); exact BK484.out⟩
   have n4_ : Aside0 (Below w.heap.size w ((w29.setCell ⟨gb484, 0, none⟩ (.int .i64 t481)).setCell ⟨gb484, 1, none⟩ (.int .i64 t482))) := ⟨by repeat (first | (with_reducible first | exact HB.out | apply below_alloc | apply pw_below_drewN | apply below_drew1 | refine below_set ?_ GE469.out | refine below_set ?_ GE470.out | refine below_set ?_ GE480.out | refine below_set ?_ GE484.out) | exact HB.out)⟩
   (try clear BK469)
   (try clear BK470)
   (try clear BK480)
   (try clear BK484)
   (try clear HB)
   generalize ((w29.setCell ⟨gb484, 0, none⟩ (.int .i64 t481)).setCell ⟨gb484, 1, none⟩ (.int .i64 t482)) = w46 at n0_ n1_ n2_ n3_ n4_ ⊢
   have BK469 := n0_
   have BK470 := n1_
   have BK480 := n2_
   have BK484 := n3_
   have HB := n4_
   clear n0_ n1_ n2_ n3_ n4_
   replace BK469 := Aside0.mk (blk_drew BK469.out); replace BK470 := Aside0.mk (blk_drew BK470.out); replace BK480 := Aside0.mk (blk_drew BK480.out); replace BK484 := Aside0.mk (blk_drew BK484.out); replace HB := Aside0.mk (below_drew1 HB.out)
   refine start_ (n := 13) (S := fun w' => True) (ds := []) #[false, false, false, false, false, false, false, false, false, false, false, false, false] (by kernel_rfl) rfl rfl trivial (fun hHeld => ?_); refine with_tabW avermentlaw10_SpanMakes.tab4 avermentlaw10_SpanMakes.bits4 (fun HT_ HW_ => ?_)
   generalize w46.drew = w47 at BK469 BK470 BK480 BK484 HB hHeld ⊢
   refine one_ (i := 0) (N := some 29) #[true, false, false, false, false, false, false, false, false, false, false, false, false] rfl rfl (one_of HT_.out (by kernel_rfl)) (by decide) (fun K hK => ?_)
   refine goes_ Try.func38 (by kernel_rfl) rfl #[] (by rfl) rfl rfl (mapq rfl) ?_
   with_reducible refine (avermentlaw10_told.calls k  false _ A34.out).mono ?_
   rintro e w48 ⟨rfl, hb⟩
   refine ⟨_, rfl, ?_⟩
   replace BK469 := bb BK469 hb rfl; replace BK470 := bb BK470 hb rfl; replace BK480 := bb BK480 hb rfl; replace BK484 := bb BK484 hb rfl; replace HB := hst HB hb rfl
   (try clear hb)
   refine hK.out _ _ trivial (fun hHeld => ?_)
   clear hK K
   refine norm_ (a' := ?_) ?_ ?_
   rotate_left; · (show Act.put _ (some 29) _ = _; simp only [Act.put, List.setIfInBounds_toArray, List.set_cons_zero, List.set_cons_succ, i64_w, i32_w]; rfl)
   refine pure_ (i := 1) (N := some 30) (v := ?_) (a' := ?_) #[true, true, false, false, false, false, false, false, false, false, false, false, false] rfl rfl (any_of HT_.out (by kernel_rfl)) (fun _ _ _ h => h) (Or.inl ⟨by rfl, ?_⟩) ?_ ?_
   rotate_left; · (intro w'; go_simp; with_reducible rfl)
   rotate_left; · (simp only [Act.put, List.setIfInBounds_toArray, List.set_cons_zero, List.set_cons_succ, i64_w, i32_w]; rfl)
   refine pure_ (i := 2) (N := some 31) (v := ?_) (a' := ?_) #[true, true, true, false, false, false, false, false, false, false, false, false, false] rfl rfl (any_of HT_.out (by kernel_rfl)) (fun _ _ _ h => h) (Or.inl ⟨by rfl, ?_⟩) ?_ ?_
   rotate_left; · (intro w'; go_simp; with_reducible rfl)
   rotate_left; · (simp only [Act.put, List.setIfInBounds_toArray, List.set_cons_zero, List.set_cons_succ, i64_w, i32_w]; rfl)
   refine pure_ (i := 3) (N := some 32) (v := undef) (a' := ?_) #[true, true, true, true, false, false, false, false, false, false, false, false, false] rfl rfl (any_of HT_.out (by kernel_rfl)) (fun _ _ _ h => h) (Or.inr ⟨by rfl, rfl⟩) ?_ ?_
   rotate_left
   ·
    simp only [Act.put, List.setIfInBounds_toArray, List.set_cons_zero, List.set_cons_succ, i64_w, i32_w]
    rfl
   refine pure_ (i := 4) (N := some 33) (v := undef) (a' := ?_) #[true, true, true, true, true, false, false, false, false, false, false, false, false] rfl rfl (any_of HT_.out (by kernel_rfl)) (fun _ _ _ h => h) (Or.inr ⟨by rfl, rfl⟩) ?_ ?_
   rotate_left
   ·
    simp only [Act.put, List.setIfInBounds_toArray, List.set_cons_zero, List.set_cons_succ, i64_w, i32_w]
    rfl
   refine pure_ (i := 5) (N := some 34) (v := undef) (a' := ?_) #[true, true, true, true, true, true, false, false, false, false, false, false, false] rfl rfl (any_of HT_.out (by kernel_rfl)) (fun _ _ _ h => h) (Or.inr ⟨by rfl, rfl⟩) ?_ ?_
   rotate_left
   ·
    simp only [Act.put, List.setIfInBounds_toArray, List.set_cons_zero, List.set_cons_succ, i64_w, i32_w]
    rfl
   refine pure_ (i := 6) (N := some 35) (v := undef) (a' := ?_) #[true, true, true, true, true, true, true, false, false, false, false, false, false] rfl rfl (any_of HT_.out (by kernel_rfl)) (fun _ _ _ h => h) (Or.inr ⟨by rfl, rfl⟩) ?_ ?_
   rotate_left
   ·
    simp only [Act.put, List.setIfInBounds_toArray, List.set_cons_zero, List.set_cons_succ, i64_w, i32_w]
    rfl
   refine pure_ (i := 7) (N := some 36) (v := ?_) (a' := ?_) #[true, true, true, true, true, true, true, true, false, false, false, false, false] rfl rfl (any_of HT_.out (by kernel_rfl)) (fun _ _ _ h => h) (Or.inl ⟨by rfl, ?_⟩) ?_ ?_
   rotate_left; · (intro w'; go_simp; with_reducible rfl)
   rotate_left; · (simp only [Act.put, List.setIfInBounds_toArray, List.set_cons_zero, List.set_cons_succ, i64_w, i32_w]; rfl)
   refine pure_ (i := 8) (N := some 37) (v := ?_) (a' := ?_) #[true, true, true, true, true, true, true, true, true, false, false, false, false] rfl rfl (any_of HT_.out (by kernel_rfl)) (fun _ _ _ h => h) (Or.inl ⟨by rfl, ?_⟩) ?_ ?_
   rotate_left; · (intro w'; go_simp; with_reducible rfl)
   rotate_left; · (simp only [Act.put, List.setIfInBounds_toArray, List.set_cons_zero, List.set_cons_succ, i64_w, i32_w]; rfl)
   refine pure_ (i := 9) (N := some 38) (v := undef) (a' := ?_) #[true, true, true, true, true, true, true, true, true, true, false, false, false] rfl rfl (any_of HT_.out (by kernel_rfl)) (fun _ _ _ h => h) (Or.inr ⟨by rfl, rfl⟩) ?_ ?_
   rotate_left
   ·
    simp only [Act.put, List.setIfInBounds_toArray, List.set_cons_zero, List.set_cons_succ, i64_w, i32_w]
    rfl
   refine pure_ (i := 10) (N := some 39) (v := undef) (a' := ?_) #[true, true, true, true, true, true, true, true, true, true, true, false, false] rfl rfl (any_of HT_.out (by kernel_rfl)) (fun _ _ _ h => h) (Or.inr ⟨by rfl, rfl⟩) ?_ ?_
   rotate_left
   ·
    simp only [Act.put, List.setIfInBounds_toArray, List.set_cons_zero, List.set_cons_succ, i64_w, i32_w]
    rfl
   refine pure_ (i := 11) (N := some 40) (v := undef) (a' := ?_) #[true, true, true, true, true, true, true, true, true, true, true, true, false] rfl rfl (any_of HT_.out (by kernel_rfl)) (fun _ _ _ h => h) (Or.inr ⟨by rfl, rfl⟩) ?_ ?_
   rotate_left
   ·
    simp only [Act.put, List.setIfInBounds_toArray, List.set_cons_zero, List.set_cons_succ, i64_w, i32_w]
    rfl
   refine pure_ (i := 12) (N := some 41) (v := ?_) (a' := ?_) #[true, true, true, true, true, true, true, true, true, true, true, true, true] rfl rfl (any_of HT_.out (by kernel_rfl)) (fun _ _ _ h => h) (Or.inl ⟨by rfl, ?_⟩) ?_ ?_
   rotate_left; · (intro w'; go_simp; with_reducible rfl)
   rotate_left; · (simp only [Act.put, List.setIfInBounds_toArray, List.set_cons_zero, List.set_cons_succ, i64_w, i32_w]; rfl)
   refine done_ (done_of HT_.out (by kernel_rfl)) ?_
   try go_wp2
   go_meet
   case rel => exact ⟨_, (true), (by first | rfl | (simp; done) | (simp [*]; done)), H', ⟨by first | omega | exact Nat.le_refl _⟩, ⟨by (with_reducible repeat (first | refine blk_drewN ?_ _ | refine blk_drew ?_ | refine blk_alloc ?_ _)); exact BK469.out⟩, ⟨by (with_reducible repeat (first | refine blk_drewN ?_ _ | refine blk_drew ?_ | refine blk_alloc ?_ _)); exact BK470.out⟩, ⟨by (with_reducible repeat (first | refine blk_drewN ?_ _ | refine blk_drew ?_ | refine blk_alloc ?_ _)); exact BK480.out⟩, ⟨by (with_reducible repeat (first | refine blk_drewN ?_ _ | refine blk_drew ?_ | refine blk_alloc ?_ _)); exact BK484.out⟩, ⟨by repeat (first | (with_reducible first | exact HB.out | apply below_alloc | apply pw_below_drewN | apply below_drew1 | refine below_set ?_ GE469.out | refine below_set ?_ GE470.out | refine below_set ?_ GE480.out | refine below_set ?_ GE484.out) | exact HB.out)⟩⟩
 case rest =>
  clear HC9
  try clear c1
  try clear c2
  try clear p2
  try clear c3
  try clear c5
  try clear c19
  try clear c24
  try clear c25
  try clear c30
  try clear c31
  try clear c32
  try clear c35
  try clear c37
  try clear c37b0
  try clear c38
  try clear c39
  try clear hcz20_0
  try clear hcz20_1
  try clear hcz26_0
  try clear hcz26_1
  try clear hcz27_0
  try clear hcz27_1
  try clear hcz33_0
  try clear hcz33_1
  try clear hfz20_0
  try clear hfz20_1
  try clear hfz26_0
  try clear hfz26_1
  try clear hfz27_0
  try clear hfz27_1
  try clear hfz33_0
  try clear hfz33_1
  obtain ⟨kq, x41_8, rfl, HA, HJ8, BK469, BK470, BK480, BK484, HB⟩ := hcut
  cases kq with
  | zero => exact absurd HA.out (by simp [avermentlaw10_SpanMakes.j0])
  | succ kj8 =>
   have H := HA.out
   clear HA
   simp only [avermentlaw10_SpanMakes.j0] at H
   by_cases c49 : x41_8 = true
   ·
    subst c49
    rw [if_pos rfl] at H
    exact absurd ((Option.some.inj H).trans hr_.out) (by decide)
   ·
    replace c49 := Bool.eq_false_iff.mpr c49
    subst c49
    rw [if_neg (show ¬ (false = true) by decide)] at H
    replace H := Option.bind_eq_some_iff.mp H
    obtain ⟨⟨t488, t489⟩, A500, H⟩ := H
    (try dsimp only at H)
    have A50 := Aside0.mk A500
    clear A500
    replace H := Option.bind_eq_some_iff.mp H
    obtain ⟨⟨t490, t491⟩, A510, H⟩ := H
    (try dsimp only at H)
    have A51 := Aside0.mk A510
    clear A510
    replace H := Option.bind_eq_some_iff.mp H
    obtain ⟨⟨t492, t493, t494⟩, A520, H⟩ := H
    (try dsimp only at H)
    have A52 := Aside0.mk A520
    clear A520
    replace H := Option.bind_eq_some_iff.mp H
    obtain ⟨⟨t495, t496, t497⟩, A530, H⟩ := H
    (try dsimp only at H)
    have A53 := Aside0.mk A530
    clear A530
    have HC54 := Aside0.mk H
    clear H
    try go_wp2
    replace BK469 := Aside0.mk (blk_drew BK469.out); replace BK470 := Aside0.mk (blk_drew BK470.out); replace BK480 := Aside0.mk (blk_drew BK480.out); replace BK484 := Aside0.mk (blk_drew BK484.out); replace HB := Aside0.mk (below_drew1 HB.out)
    refine start_ (n := 11) (S := fun w' => w'.cell? ⟨gb469, 0, none⟩ = some (.int .i64 t471) ∧ w'.cell? ⟨gb469, 1, none⟩ = some (.int .i64 t472) ∧ w'.cell? ⟨gb470, 0, none⟩ = some (.int .i64 t473) ∧ w'.cell? ⟨gb470, 1, none⟩ = some (.int .i64 t474)) (ds := []) #[false, false, false, false, false, false, false, false, false, false, false] (by kernel_rfl) rfl rfl ⟨bc BK469 0 rfl, bc BK469 1 rfl, bc BK470 0 rfl, bc BK470 1 rfl⟩ (fun hHeld => ?_); refine with_tabW avermentlaw10_SpanMakes.tab6 avermentlaw10_SpanMakes.bits6 (fun HT_ HW_ => ?_)
    generalize wc.drew = w55 at BK469 BK470 BK480 BK484 HB hHeld ⊢
    refine pure_ (i := 0) (N := some 43) (v := ?_) (a' := ?_) #[true, false, false, false, false, false, false, false, false, false, false] rfl rfl (any_of HT_.out (by kernel_rfl)) (fun _ _ _ h => h) (Or.inl ⟨by rfl, ?_⟩) ?_ ?_
    rotate_left; · (intro w'; go_simp; with_reducible rfl)
    rotate_left; · (simp only [Act.put, List.setIfInBounds_toArray, List.set_cons_zero, List.set_cons_succ, i64_w, i32_w]; rfl)
    refine take_ (i := 1) (N := some 44) (v := ?_) (a' := ?_) #[true, true, false, false, false, false, false, false, false, false, false] rfl rfl (take_ofW HT_.out HW_.out (by kernel_rfl)) (fun _ _ _ h => h) (Or.inl ⟨by rfl, ?_⟩) hHeld ?_ ?_
    rotate_left
    ·
     rintro w' ⟨s0, s1, s2, s3⟩
     go_simp
     with_reducible rfl
    rotate_left
    ·
     simp only [Act.put, List.setIfInBounds_toArray, List.set_cons_zero, List.set_cons_succ, i64_w, i32_w]
     rfl
    refine take_ (i := 3) (N := some 46) (v := ?_) (a' := ?_) #[true, true, false, true, false, false, false, false, false, false, false] rfl rfl (take_ofW HT_.out HW_.out (by kernel_rfl)) (fun _ _ _ h => h) (Or.inl ⟨by rfl, ?_⟩) hHeld ?_ ?_
    rotate_left
    ·
     rintro w' ⟨s0, s1, s2, s3⟩
     go_simp
     with_reducible rfl
    rotate_left
    ·
     simp only [Act.put, List.setIfInBounds_toArray, List.set_cons_zero, List.set_cons_succ, i64_w, i32_w]
     rfl
    refine one_ (i := 2) (N := some 45) #[true, true, true, true, false, false, false, false, false, false, false] rfl rfl (one_of HT_.out (by kernel_rfl)) (by decide) (fun K hK => ?_)
    refine goes_ Try.func37 (by kernel_rfl) rfl #[.agg #[.int .i64 t471, .int .i64 t472]] (by rfl) rfl rfl (mapq rfl) ?_
    with_reducible refine (avermentlaw10_To.calls t471 t472 t488 t489 _ A50.out).mono ?_
    rintro e w56 ⟨rfl, hb⟩
    refine ⟨_, rfl, ?_⟩
    replace BK469 := bb BK469 hb rfl; replace BK470 := bb BK470 hb rfl; replace BK480 := bb BK480 hb rfl; replace BK484 := bb BK484 hb rfl; replace HB := hst HB hb rfl
    (try clear hb)
    refine hK.out _ _ ⟨bc BK469 0 rfl, bc BK469 1 rfl, bc BK470 0 rfl, bc BK470 1 rfl⟩ (fun hHeld => ?_)
    clear hK K
    refine norm_ (a' := ?_) ?_ ?_
    rotate_left; · (show Act.put _ (some 45) _ = _; simp only [Act.put, List.setIfInBounds_toArray, List.set_cons_zero, List.set_cons_succ, i64_w, i32_w]; rfl)
    refine one_ (i := 4) (N := some 47) #[true, true, true, true, true, false, false, false, false, false, false] rfl rfl (one_of HT_.out (by kernel_rfl)) (by decide) (fun K hK => ?_)
    refine goes_ Try.func37 (by kernel_rfl) rfl #[.agg #[.int .i64 t473, .int .i64 t474]] (by rfl) rfl rfl (mapq rfl) ?_
    with_reducible refine (avermentlaw10_To.calls t473 t474 t490 t491 _ A51.out).mono ?_
    rintro e w57 ⟨rfl, hb⟩
    refine ⟨_, rfl, ?_⟩
    replace BK469 := bb BK469 hb rfl; replace BK470 := bb BK470 hb rfl; replace BK480 := bb BK480 hb rfl; replace BK484 := bb BK484 hb rfl; replace HB := hst HB hb rfl
    (try clear hb)
    refine hK.out _ _ ⟨bc BK469 0 rfl, bc BK469 1 rfl, bc BK470 0 rfl, bc BK470 1 rfl⟩ (fun hHeld => ?_)
    clear hK K
    refine norm_ (a' := ?_) ?_ ?_
    rotate_left; · (show Act.put _ (some 47) _ = _; simp only [Act.put, List.setIfInBounds_toArray, List.set_cons_zero, List.set_cons_succ, i64_w, i32_w]; rfl)
    refine one_ (i := 5) (N := some 48) #[true, true, true, true, true, true, false, false, false, false, false] rfl rfl (one_of HT_.out (by kernel_rfl)) (by decide) (fun K hK => ?_)
    refine goes_ Try.func36 (by kernel_rfl) rfl #[.int .i64 a0, .agg #[.int .i64 t488, .int .i64 t489], .agg #[.int .i64 t490, .int .i64 t491]] (by rfl) rfl rfl (mapq rfl) ?_
    with_reducible refine (span_Two.calls kj8 a0 t488 t489 t490 t491 t492 t493 t494 _ A52.out).mono ?_
    rintro e w58 ⟨rfl, hb⟩
    refine ⟨_, rfl, ?_⟩
    replace BK469 := bb BK469 hb rfl; replace BK470 := bb BK470 hb rfl; replace BK480 := bb BK480 hb rfl; replace BK484 := bb BK484 hb rfl; replace HB := hst HB hb rfl
    (try clear hb)
    refine hK.out _ _ ⟨bc BK469 0 rfl, bc BK469 1 rfl, bc BK470 0 rfl, bc BK470 1 rfl⟩ (fun hHeld => ?_)
    clear hK K
    refine norm_ (a' := ?_) ?_ ?_
    rotate_left; · (show Act.put _ (some 48) _ = _; simp only [Act.put, List.setIfInBounds_toArray, List.set_cons_zero, List.set_cons_succ, i64_w, i32_w]; rfl)
    refine pure_ (i := 6) (N := some 42) (v := ?_) (a' := ?_) #[true, true, true, true, true, true, true, false, false, false, false] rfl rfl (any_of HT_.out (by kernel_rfl)) (fun _ _ _ h => h) (Or.inl ⟨by rfl, ?_⟩) ?_ ?_
    rotate_left; · (intro w'; go_simp; with_reducible rfl)
    rotate_left; · (simp only [Act.put, List.setIfInBounds_toArray, List.set_cons_zero, List.set_cons_succ, i64_w, i32_w]; rfl)
    refine pure_ (i := 7) (N := some 49) (v := ?_) (a' := ?_) #[true, true, true, true, true, true, true, true, false, false, false] rfl rfl (any_of HT_.out (by kernel_rfl)) (fun _ _ _ h => h) (Or.inl ⟨by rfl, ?_⟩) ?_ ?_
    rotate_left; · (intro w'; go_simp; with_reducible rfl)
    rotate_left; · (simp only [Act.put, List.setIfInBounds_toArray, List.set_cons_zero, List.set_cons_succ, i64_w, i32_w]; rfl)
    refine pure_ (i := 8) (N := some 50) (v := ?_) (a' := ?_) #[true, true, true, true, true, true, true, true, true, false, false] rfl rfl (any_of HT_.out (by kernel_rfl)) (fun _ _ _ h => h) (Or.inl ⟨by rfl, ?_⟩) ?_ ?_
    rotate_left; · (intro w'; go_simp; with_reducible rfl)
    rotate_left; · (simp only [Act.put, List.setIfInBounds_toArray, List.set_cons_zero, List.set_cons_succ, i64_w, i32_w]; rfl)
    refine one_ (i := 9) (N := none) #[true, true, true, true, true, true, true, true, true, true, false] rfl rfl (one_of HT_.out (by kernel_rfl)) (by decide) (fun K hK => ?_)
    have hs59 : w58.cell? ⟨gb480, 0, none⟩ = some (.int .i64 t477) := bc BK480 0 rfl
    have hfs59 := blk_frozen BK480.out 0
    have hns59_0 := NB469_480.out
    have hns59_1 := NB470_480.out
    have hns59_3 := NB484_480.out
    have hms59_0 := NB480_469.out
    have hms59_1 := NB480_470.out
    have hms59_3 := NB480_484.out
    have hs60 : w58.cell? ⟨gb480, 1, none⟩ = some (.int .i64 t478) := bc BK480 1 rfl
    have hfs60 := blk_frozen BK480.out 1
    have hns60_0 := NB469_480.out
    have hns60_1 := NB470_480.out
    have hns60_3 := NB484_480.out
    have hms60_0 := NB480_469.out
    have hms60_1 := NB480_470.out
    have hms60_3 := NB480_484.out
    refine skip_ (w1 := ?_) (by rfl) rfl ?_ ?_
    rotate_left
    ·
     go_simp
     rfl
    refine hK.out _ _ ⟨((cell_far (p := ⟨gb480, _, none⟩) NB469_480.out _).trans (((cell_far (p := ⟨gb480, _, none⟩) NB469_480.out _).trans (hHeld.1)))), ((cell_far (p := ⟨gb480, _, none⟩) NB469_480.out _).trans (((cell_far (p := ⟨gb480, _, none⟩) NB469_480.out _).trans (hHeld.2.1)))), ((cell_far (p := ⟨gb480, _, none⟩) NB470_480.out _).trans (((cell_far (p := ⟨gb480, _, none⟩) NB470_480.out _).trans (hHeld.2.2.1)))), ((cell_far (p := ⟨gb480, _, none⟩) NB470_480.out _).trans (((cell_far (p := ⟨gb480, _, none⟩) NB470_480.out _).trans (hHeld.2.2.2))))⟩ (fun hHeld => ?_)
    clear hK K
    refine pure_ (i := 10) (N := some 8) (v := ?_) (a' := ?_) #[true, true, true, true, true, true, true, true, true, true, true] rfl rfl (any_of HT_.out (by kernel_rfl)) (fun _ _ _ h => h) (Or.inl ⟨by rfl, ?_⟩) ?_ ?_
    rotate_left; · (intro w'; go_simp; with_reducible rfl)
    rotate_left; · (simp only [Act.put, List.setIfInBounds_toArray, List.set_cons_zero, List.set_cons_succ, i64_w, i32_w]; rfl)
    refine done_ (done_of HT_.out (by kernel_rfl)) ?_
    have hnb61 := NB469_470.out
    have hnc61 := NB470_469.out
    have hnb62 := NB469_480.out
    have hnc62 := NB480_469.out
    have hnb63 := NB469_484.out
    have hnc63 := NB484_469.out
    obtain ⟨hcz64_0, hcz64_1, hfz64_0, hfz64_1⟩ := c2 BK469
    have hnb65 := NB470_480.out
    have hnc65 := NB480_470.out
    have hnb66 := NB470_484.out
    have hnc66 := NB484_470.out
    obtain ⟨hcz67_0, hcz67_1, hfz67_0, hfz67_1⟩ := c2 BK470
    go_upto_region 8 with (first | ((with_reducible refine gate_callee (f := 56) rfl ?_); refine goesL_ (some 55) rfl rfl Try.func56 (by kernel_rfl) rfl #[.int .i64 a0, .agg #[.int .i64 t471, .int .i64 t472], .agg #[.int .i64 t473, .int .i64 t474]] rfl (mapq rfl) ?_; (with_reducible refine (avermentref10_Two.calls kj8 a0 t471 t472 t473 t474 t495 t496 t497 _ A53.out).mono ?_); rintro e w68 ⟨rfl, hb⟩; refine ⟨_, rfl, ?_⟩; replace BK469 := Aside0.mk (blk_below (g := gb469) (o := .cells #[.int .i64 t471, .int .i64 t472] 56 (0, 0)) (by (with_reducible repeat (first | refine blk_drewN ?_ _ | refine blk_drew ?_ | refine blk_alloc ?_ _)); refine blk_far ?_ NB469_480.out _; (with_reducible repeat (first | refine blk_drewN ?_ _ | refine blk_drew ?_ | refine blk_alloc ?_ _)); refine blk_far ?_ NB469_480.out _; (with_reducible repeat (first | refine blk_drewN ?_ _ | refine blk_drew ?_ | refine blk_alloc ?_ _)); exact BK469.out) hb); replace BK470 := Aside0.mk (blk_below (g := gb470) (o := .cells #[.int .i64 t473, .int .i64 t474] 56 (0, 0)) (by (with_reducible repeat (first | refine blk_drewN ?_ _ | refine blk_drew ?_ | refine blk_alloc ?_ _)); refine blk_far ?_ NB470_480.out _; (with_reducible repeat (first | refine blk_drewN ?_ _ | refine blk_drew ?_ | refine blk_alloc ?_ _)); refine blk_far ?_ NB470_480.out _; (with_reducible repeat (first | refine blk_drewN ?_ _ | refine blk_drew ?_ | refine blk_alloc ?_ _)); exact BK470.out) hb); replace BK480 := Aside0.mk (blk_below (g := gb480) (o := .cells #[.int .i64 t492, .int .i64 t493] 59 (0, 0)) (by (with_reducible repeat (first | refine blk_drewN ?_ _ | refine blk_drew ?_ | refine blk_alloc ?_ _)); refine blk_put (cs := #[.int .i64 t492, .int .i64 t478]) ?_ 1 _ rfl; (with_reducible repeat (first | refine blk_drewN ?_ _ | refine blk_drew ?_ | refine blk_alloc ?_ _)); refine blk_put (cs := #[.int .i64 t477, .int .i64 t478]) ?_ 0 _ rfl; (with_reducible repeat (first | refine blk_drewN ?_ _ | refine blk_drew ?_ | refine blk_alloc ?_ _)); exact BK480.out) hb); replace BK484 := Aside0.mk (blk_below (g := gb484) (o := .cells #[.int .i64 t481, .int .i64 t482] 56 (0, 0)) (by (with_reducible repeat (first | refine blk_drewN ?_ _ | refine blk_drew ?_ | refine blk_alloc ?_ _)); refine blk_far ?_ NB484_480.out _; (with_reducible repeat (first | refine blk_drewN ?_ _ | refine blk_drew ?_ | refine blk_alloc ?_ _)); refine blk_far ?_ NB484_480.out _; (with_reducible repeat (first | refine blk_drewN ?_ _ | refine blk_drew ?_ | refine blk_alloc ?_ _)); exact BK484.out) hb); replace HB := Aside0.mk (below_step (by repeat (first | (with_reducible first | exact HB.out | apply below_alloc | apply pw_below_drewN | apply below_drew1 | refine below_set ?_ GE469.out | refine below_set ?_ GE470.out | refine below_set ?_ GE480.out | refine below_set ?_ GE484.out) | exact HB.out)) hb); (try clear hb); have hnb69 := NB484_480.out; have hnc69 := NB480_484.out; obtain ⟨hcz70_0, hcz70_1, hfz70_0, hfz70_1⟩ := c2 BK484))
    (try simp only [Act.put, List.setIfInBounds_toArray, List.set_cons_zero, List.set_cons_succ])
    go_cut [66] (fun v66 wc => ∃ (kq : Nat) (x66_53 : Bool), v66 = .bool x66_53 ∧ Aside0 (avermentlaw10_SpanMakes.j1 kq x66_53 t471 t472 = some r) ∧ Aside0 (kq ≤ kj8) ∧ Aside0 (wc.heap[gb469]? = some (.cells #[.int .i64 t471, .int .i64 t472] 56 (0, 0))) ∧ Aside0 (wc.heap[gb470]? = some (.cells #[.int .i64 t473, .int .i64 t474] 56 (0, 0))) ∧ Aside0 (wc.heap[gb480]? = some (.cells #[.int .i64 t492, .int .i64 t493] 59 (0, 0))) ∧ Aside0 (wc.heap[gb484]? = some (.cells #[.int .i64 t495, .int .i64 t496] 56 (0, 0))) ∧ Aside0 (Below w.heap.size w wc))
    case first =>
     have H := HC54.out
     clear HC54
     replace H := Option.bind_eq_some_iff.mp H
     obtain ⟨⟨t498, t499⟩, A710, H⟩ := H
     (try dsimp only at H)
     have A71 := Aside0.mk A710
     clear A710
     by_cases c72 : (!(t498 == t495) || (!(t499 == t496))) = true
     ·
      rw [if_pos c72] at H
      have c72b0 : (!(t498 == t495) || (!(t499 == t496))) = true := c72
      clear c72
      (first | rw [c72b0] | (simp only [i64_w, i32_w]; rw [c72b0]) | skip)
      have H' := Aside0.mk H
      clear H
      try go_wp2
      have n0_ : Aside0 (((w68.setCell ⟨gb484, 0, none⟩ (.int .i64 t495)).setCell ⟨gb484, 1, none⟩ (.int .i64 t496)).heap[gb469]? = some (.cells #[.int .i64 t471, .int .i64 t472] 56 (0, 0))) := ⟨by (with_reducible repeat (first | refine blk_drewN ?_ _ | refine blk_drew ?_ | refine blk_alloc ?_ _)); refine blk_far ?_ NB469_484.out _; (with_reducible repeat (first | refine blk_drewN ?_ _ | refine blk_drew ?_ | refine blk_alloc ?_ _)); refine blk_far ?_ NB469_484.out _; (with_reducible repeat (first | refine blk_drewN ?_ _ | refine blk_drew ?_ | refine blk_alloc ?_ _)); exact BK469.out⟩
      have n1_ : Aside0 (((w68.setCell ⟨gb484, 0, none⟩ (.int .i64 t495)).setCell ⟨gb484, 1, none⟩ (.int .i64 t496)).heap[gb470]? = some (.cells #[.int .i64 t473, .int .i64 t474] 56 (0, 0))) := ⟨by (with_reducible repeat (first | refine blk_drewN ?_ _ | refine blk_drew ?_ | refine blk_alloc ?_ _)); refine blk_far ?_ NB470_484.out _; (with_reducible repeat (first | refine blk_drewN ?_ _ | refine blk_drew ?_ | refine blk_alloc ?_ _)); refine blk_far ?_ NB470_484.out _; (with_reducible repeat (first | refine blk_drewN ?_ _ | refine blk_drew ?_ | refine blk_alloc ?_ _)); exact BK470.out⟩
      have n2_ : Aside0 (((w68.setCell ⟨gb484, 0, none⟩ (.int .i64 t495)).setCell ⟨gb484, 1, none⟩ (.int .i64 t496)).heap[gb480]? = some (.cells #[.int .i64 t492, .int .i64 t493] 59 (0, 0))) := ⟨by (with_reducible repeat (first | refine blk_drewN ?_ _ | refine blk_drew ?_ | refine blk_alloc ?_ _)); refine blk_far ?_ NB480_484.out _; (with_reducible repeat (first | refine blk_drewN ?_ _ | refine blk_drew ?_ | refine blk_alloc ?_ _)); refine blk_far ?_ NB480_484.out _; (with_reducible repeat (first | refine blk_drewN ?_ _ | refine blk_drew ?_ | refine blk_alloc ?_ _)); exact BK480.out⟩
      have n3_ : Aside0 (((w68.setCell ⟨gb484, 0, none⟩ (.int .i64 t495)).setCell ⟨gb484, 1, none⟩ (.int .i64 t496)).heap[gb484]? = some (.cells #[.int .i64 t495, .int .i64 t496] 56 (0, 0))) := ⟨by (with_reducible repeat (first | refine blk_drewN ?_ _ | refine blk_drew ?_ | refine blk_alloc ?_ _)); refine blk_put (cs := #[.int .i64 t495, .int .i64 t482]) ?_ 1 _ rfl; (with_reducible repeat (first | refine blk_drewN ?_ _ | refine blk_drew ?_ | refine blk_alloc ?_ _)); refine blk_put (cs := #[.int .i64 t481, .int .i64 t482]) ?_ 0 _ rfl; (with_reducible repeat (first | refine blk_drewN ?_ _ | refine blk_drew ?_ | refine blk_alloc ?_ _)); exact BK484.out⟩
      have n4_ : Aside0 (Below w.heap.size w ((w68.setCell ⟨gb484, 0, none⟩ (.int .i64 t495)).setCell ⟨gb484, 1, none⟩ (.int .i64 t496))) := ⟨by repeat (first | (with_reducible first | exact HB.out | apply below_alloc | apply pw_below_drewN | apply below_drew1 | refine below_set ?_ GE469.out | refine below_set ?_ GE470.out | refine below_set ?_ GE480.out | refine below_set ?_ GE484.out) | exact HB.out)⟩
      (try clear BK469)
      (try clear BK470)
      (try clear BK480)
      (try clear BK484)
      (try clear HB)
      generalize ((w68.setCell ⟨gb484, 0, none⟩ (.int .i64 t495)).setCell ⟨gb484, 1, none⟩ (.int .i64 t496)) = w73 at n0_ n1_ n2_ n3_ n4_ ⊢
      have BK469 := n0_
      have BK470 := n1_
      have BK480 := n2_
      have BK484 := n3_
      have HB := n4_
      clear n0_ n1_ n2_ n3_ n4_
      replace BK469 := Aside0.mk (blk_drew BK469.out); replace BK470 := Aside0.mk (blk_drew BK470.out); replace BK480 := Aside0.mk (blk_drew BK480.out); replace BK484 := Aside0.mk (blk_drew BK484.out); replace HB := Aside0.mk (below_drew1 HB.out)
      refine start_ (n := 9) (S := fun w' => w'.cell? ⟨gb480, 0, none⟩ = some (.int .i64 t492) ∧ w'.cell? ⟨gb480, 1, none⟩ = some (.int .i64 t493) ∧ w'.cell? ⟨gb484, 0, none⟩ = some (.int .i64 t495) ∧ w'.cell? ⟨gb484, 1, none⟩ = some (.int .i64 t496)) (ds := []) #[false, false, false, false, false, false, false, false, false] (by kernel_rfl) rfl rfl ⟨bc BK480 0 rfl, bc BK480 1 rfl, bc BK484 0 rfl, bc BK484 1 rfl⟩ (fun hHeld => ?_); refine with_tabW avermentlaw10_SpanMakes.tab8 avermentlaw10_SpanMakes.bits8 (fun HT_ HW_ => ?_)
      generalize w73.drew = w74 at BK469 BK470 BK480 BK484 HB hHeld ⊢
      refine take_ (i := 0) (N := some 58) (v := ?_) (a' := ?_) #[true, false, false, false, false, false, false, false, false] rfl rfl (take_ofW HT_.out HW_.out (by kernel_rfl)) (fun _ _ _ h => h) (Or.inl ⟨by rfl, ?_⟩) hHeld ?_ ?_
      rotate_left
      ·
       rintro w' ⟨s0, s1, s2, s3⟩
       go_simp
       with_reducible rfl
      rotate_left
      ·
       simp only [Act.put, List.setIfInBounds_toArray, List.set_cons_zero, List.set_cons_succ, i64_w, i32_w]
       rfl
      refine take_ (i := 2) (N := some 60) (v := ?_) (a' := ?_) #[true, false, true, false, false, false, false, false, false] rfl rfl (take_ofW HT_.out HW_.out (by kernel_rfl)) (fun _ _ _ h => h) (Or.inl ⟨by rfl, ?_⟩) hHeld ?_ ?_
      rotate_left
      ·
       rintro w' ⟨s0, s1, s2, s3⟩
       go_simp
       with_reducible rfl
      rotate_left
      ·
       simp only [Act.put, List.setIfInBounds_toArray, List.set_cons_zero, List.set_cons_succ, i64_w, i32_w]
       rfl
      refine one_ (i := 1) (N := some 59) #[true, true, true, false, false, false, false, false, false] rfl rfl (one_of HT_.out (by kernel_rfl)) (by decide) (fun K hK => ?_)
      refine goes_ Try.func39 (by kernel_rfl) rfl #[.agg #[.int .i64 t492, .int .i64 t493]] (by rfl) rfl rfl (mapq rfl) ?_
      with_reducible refine (avermentlaw10_From.calls t492 t493 t498 t499 _ A71.out).mono ?_
      rintro e w75 ⟨rfl, hb⟩
      refine ⟨_, rfl, ?_⟩
      replace BK469 := bb BK469 hb rfl; replace BK470 := bb BK470 hb rfl; replace BK480 := bb BK480 hb rfl; replace BK484 := bb BK484 hb rfl; replace HB := hst HB hb rfl
      (try clear hb)
      refine hK.out _ _ ⟨bc BK480 0 rfl, bc BK480 1 rfl, bc BK484 0 rfl, bc BK484 1 rfl⟩ (fun hHeld => ?_)
      clear hK K
      refine norm_ (a' := ?_) ?_ ?_
      rotate_left; · (show Act.put _ (some 59) _ = _; simp only [Act.put, List.setIfInBounds_toArray, List.set_cons_zero, List.set_cons_succ, i64_w, i32_w]; rfl)
      refine pure_ (i := 3) (N := some 61) (v := ?_) (a' := ?_) #[true, true, true, true, false, false, false, false, false] rfl rfl (any_of HT_.out (by kernel_rfl)) (fun _ _ _ h => h) (Or.inl ⟨by rfl, ?_⟩) ?_ ?_
      rotate_left; · (intro w'; go_simp; with_reducible rfl)
      rotate_left; · (simp only [Act.put, List.setIfInBounds_toArray, List.set_cons_zero, List.set_cons_succ, i64_w, i32_w]; rfl)
      refine pure_ (i := 4) (N := some 62) (v := ?_) (a' := ?_) #[true, true, true, true, true, false, false, false, false] rfl rfl (any_of HT_.out (by kernel_rfl)) (fun _ _ _ h => h) (Or.inl ⟨by rfl, ?_⟩) ?_ ?_
      rotate_left; · (intro w'; go_simp; with_reducible rfl)
      rotate_left; · (simp only [Act.put, List.setIfInBounds_toArray, List.set_cons_zero, List.set_cons_succ, i64_w, i32_w]; rfl)
      refine pure_ (i := 5) (N := some 63) (v := undef) (a' := ?_) #[true, true, true, true, true, true, false, false, false] rfl rfl (any_of HT_.out (by kernel_rfl)) (fun _ _ _ h => h) (Or.inr ⟨by rfl, rfl⟩) ?_ ?_
      rotate_left
      ·
       simp only [Act.put, List.setIfInBounds_toArray, List.set_cons_zero, List.set_cons_succ, i64_w, i32_w]
       rfl
      refine pure_ (i := 6) (N := some 64) (v := undef) (a' := ?_) #[true, true, true, true, true, true, true, false, false] rfl rfl (any_of HT_.out (by kernel_rfl)) (fun _ _ _ h => h) (Or.inr ⟨by rfl, rfl⟩) ?_ ?_
      rotate_left
      ·
       simp only [Act.put, List.setIfInBounds_toArray, List.set_cons_zero, List.set_cons_succ, i64_w, i32_w]
       rfl
      refine pure_ (i := 7) (N := some 65) (v := undef) (a' := ?_) #[true, true, true, true, true, true, true, true, false] rfl rfl (any_of HT_.out (by kernel_rfl)) (fun _ _ _ h => h) (Or.inr ⟨by rfl, rfl⟩) ?_ ?_
      rotate_left
      ·
       simp only [Act.put, List.setIfInBounds_toArray, List.set_cons_zero, List.set_cons_succ, i64_w, i32_w]
       rfl
      refine pure_ (i := 8) (N := some 66) (v := ?_) (a' := ?_) #[true, true, true, true, true, true, true, true, true] rfl rfl (any_of HT_.out (by kernel_rfl)) (fun _ _ _ h => h) (Or.inl ⟨by rfl, ?_⟩) ?_ ?_
      rotate_left; · (intro w'; go_simp; with_reducible rfl)
      rotate_left; · (simp only [Act.put, List.setIfInBounds_toArray, List.set_cons_zero, List.set_cons_succ, i64_w, i32_w]; rfl)
      refine done_ (done_of HT_.out (by kernel_rfl)) ?_
      try go_wp2
      go_meet
      case rel => exact ⟨_, (true), (by first | rfl | (simp; done) | (simp [*]; done)), H', ⟨by have := HJ8.out; first | omega | exact Nat.le_refl _⟩, ⟨by (with_reducible repeat (first | refine blk_drewN ?_ _ | refine blk_drew ?_ | refine blk_alloc ?_ _)); exact BK469.out⟩, ⟨by (with_reducible repeat (first | refine blk_drewN ?_ _ | refine blk_drew ?_ | refine blk_alloc ?_ _)); exact BK470.out⟩, ⟨by (with_reducible repeat (first | refine blk_drewN ?_ _ | refine blk_drew ?_ | refine blk_alloc ?_ _)); exact BK480.out⟩, ⟨by (with_reducible repeat (first | refine blk_drewN ?_ _ | refine blk_drew ?_ | refine blk_alloc ?_ _)); exact BK484.out⟩, ⟨by repeat (first | (with_reducible first | exact HB.out | apply below_alloc | apply pw_below_drewN | apply below_drew1 | refine below_set ?_ GE469.out | refine below_set ?_ GE470.out | refine below_set ?_ GE480.out | refine below_set ?_ GE484.out) | exact HB.out)⟩⟩
     ·
      rw [if_neg c72] at H
      have c72b0 : (!(t498 == t495) || (!(t499 == t496))) = false := by simpa using c72
      clear c72
      (first | rw [c72b0] | (simp only [i64_w, i32_w]; rw [c72b0]) | skip)
      have H' := Aside0.mk H
      clear H
      try go_wp2
      have n0_ : Aside0 (((w68.setCell ⟨gb484, 0, none⟩ (.int .i64 t495)).setCell ⟨gb484, 1, none⟩ (.int .i64 t496)).heap[gb469]? = some (.cells #[.int .i64 t471, .int .i64 t472] 56 (0, 0))) := ⟨by (with_reducible repeat (first | refine blk_drewN ?_ _ | refine blk_drew ?_ | refine blk_alloc ?_ _)); refine blk_far ?_ NB469_484.out _; (with_reducible repeat (first | refine blk_drewN ?_ _ | refine blk_drew ?_ | refine blk_alloc ?_ _)); refine blk_far ?_ NB469_484.out _; (with_reducible repeat (first | refine blk_drewN ?_ _ | refine blk_drew ?_ | refine blk_alloc ?_ _)); exact BK469.out⟩
      have n1_ : Aside0 (((w68.setCell ⟨gb484, 0, none⟩ (.int .i64 t495)).setCell ⟨gb484, 1, none⟩ (.int .i64 t496)).heap[gb470]? = some (.cells #[.int .i64 t473, .int .i64 t474] 56 (0, 0))) := ⟨by (with_reducible repeat (first | refine blk_drewN ?_ _ | refine blk_drew ?_ | refine blk_alloc ?_ _)); refine blk_far ?_ NB470_484.out _; (with_reducible repeat (first | refine blk_drewN ?_ _ | refine blk_drew ?_ | refine blk_alloc ?_ _)); refine blk_far ?_ NB470_484.out _; (with_reducible repeat (first | refine blk_drewN ?_ _ | refine blk_drew ?_ | refine blk_alloc ?_ _)); exact BK470.out⟩
      have n2_ : Aside0 (((w68.setCell ⟨gb484, 0, none⟩ (.int .i64 t495)).setCell ⟨gb484, 1, none⟩ (.int .i64 t496)).heap[gb480]? = some (.cells #[.int .i64 t492, .int .i64 t493] 59 (0, 0))) := ⟨by (with_reducible repeat (first | refine blk_drewN ?_ _ | refine blk_drew ?_ | refine blk_alloc ?_ _)); refine blk_far ?_ NB480_484.out _; (with_reducible repeat (first | refine blk_drewN ?_ _ | refine blk_drew ?_ | refine blk_alloc ?_ _)); refine blk_far ?_ NB480_484.out _; (with_reducible repeat (first | refine blk_drewN ?_ _ | refine blk_drew ?_ | refine blk_alloc ?_ _)); exact BK480.out⟩
      have n3_ : Aside0 (((w68.setCell ⟨gb484, 0, none⟩ (.int .i64 t495)).setCell ⟨gb484, 1, none⟩ (.int .i64 t496)).heap[gb484]? = some (.cells #[.int .i64 t495, .int .i64 t496] 56 (0, 0))) := ⟨by (with_reducible repeat (first | refine blk_drewN ?_ _ | refine blk_drew ?_ | refine blk_alloc ?_ _)); refine blk_put (cs := #[.int .i64 t495, .int .i64 t482]) ?_ 1 _ rfl; (with_reducible repeat (first | refine blk_drewN ?_ _ | refine blk_drew ?_ | refine blk_alloc ?_ _)); refine blk_put (cs := #[.int .i64 t481, .int .i64 t482]) ?_ 0 _ rfl; (with_reducible repeat (first | refine blk_drewN ?_ _ | refine blk_drew ?_ | refine blk_alloc ?_ _)); exact BK484.out⟩
      have n4_ : Aside0 (Below w.heap.size w ((w68.setCell ⟨gb484, 0, none⟩ (.int .i64 t495)).setCell ⟨gb484, 1, none⟩ (.int .i64 t496))) := ⟨by repeat (first | (with_reducible first | exact HB.out | apply below_alloc | apply pw_below_drewN | apply below_drew1 | refine below_set ?_ GE469.out | refine below_set ?_ GE470.out | refine below_set ?_ GE480.out | refine below_set ?_ GE484.out) | exact HB.out)⟩
      (try clear BK469)
      (try clear BK470)
      (try clear BK480)
      (try clear BK484)
      (try clear HB)
      generalize ((w68.setCell ⟨gb484, 0, none⟩ (.int .i64 t495)).setCell ⟨gb484, 1, none⟩ (.int .i64 t496)) = w76 at n0_ n1_ n2_ n3_ n4_ ⊢
      have BK469 := n0_
      have BK470 := n1_
      have BK480 := n2_
      have BK484 := n3_
      have HB := n4_
      clear n0_ n1_ n2_ n3_ n4_
      replace BK469 := Aside0.mk (blk_drew BK469.out); replace BK470 := Aside0.mk (blk_drew BK470.out); replace BK480 := Aside0.mk (blk_drew BK480.out); replace BK484 := Aside0.mk (blk_drew BK484.out); replace HB := Aside0.mk (below_drew1 HB.out)
      refine start_ (n := 9) (S := fun w' => w'.cell? ⟨gb480, 0, none⟩ = some (.int .i64 t492) ∧ w'.cell? ⟨gb480, 1, none⟩ = some (.int .i64 t493) ∧ w'.cell? ⟨gb484, 0, none⟩ = some (.int .i64 t495) ∧ w'.cell? ⟨gb484, 1, none⟩ = some (.int .i64 t496)) (ds := []) #[false, false, false, false, false, false, false, false, false] (by kernel_rfl) rfl rfl ⟨bc BK480 0 rfl, bc BK480 1 rfl, bc BK484 0 rfl, bc BK484 1 rfl⟩ (fun hHeld => ?_); refine with_tabW avermentlaw10_SpanMakes.tab8 avermentlaw10_SpanMakes.bits8 (fun HT_ HW_ => ?_)
      generalize w76.drew = w77 at BK469 BK470 BK480 BK484 HB hHeld ⊢
      refine take_ (i := 0) (N := some 58) (v := ?_) (a' := ?_) #[true, false, false, false, false, false, false, false, false] rfl rfl (take_ofW HT_.out HW_.out (by kernel_rfl)) (fun _ _ _ h => h) (Or.inl ⟨by rfl, ?_⟩) hHeld ?_ ?_
      rotate_left
      ·
       rintro w' ⟨s0, s1, s2, s3⟩
       go_simp
       with_reducible rfl
      rotate_left
      ·
       simp only [Act.put, List.setIfInBounds_toArray, List.set_cons_zero, List.set_cons_succ, i64_w, i32_w]
       rfl
      refine take_ (i := 2) (N := some 60) (v := ?_) (a' := ?_) #[true, false, true, false, false, false, false, false, false] rfl rfl (take_ofW HT_.out HW_.out (by kernel_rfl)) (fun _ _ _ h => h) (Or.inl ⟨by rfl, ?_⟩) hHeld ?_ ?_
      rotate_left
      ·
       rintro w' ⟨s0, s1, s2, s3⟩
       go_simp
       with_reducible rfl
      rotate_left
      ·
       simp only [Act.put, List.setIfInBounds_toArray, List.set_cons_zero, List.set_cons_succ, i64_w, i32_w]
       rfl
      refine one_ (i := 1) (N := some 59) #[true, true, true, false, false, false, false, false, false] rfl rfl (one_of HT_.out (by kernel_rfl)) (by decide) (fun K hK => ?_)
      refine goes_ Try.func39 (by kernel_rfl) rfl #[.agg #[.int .i64 t492, .int .i64 t493]] (by rfl) rfl rfl (mapq rfl) ?_
      with_reducible refine (avermentlaw10_From.calls t492 t493 t498 t499 _ A71.out).mono ?_
      rintro e w78 ⟨rfl, hb⟩
      refine ⟨_, rfl, ?_⟩
      replace BK469 := bb BK469 hb rfl; replace BK470 := bb BK470 hb rfl; replace BK480 := bb BK480 hb rfl; replace BK484 := bb BK484 hb rfl; replace HB := hst HB hb rfl
      (try clear hb)
      refine hK.out _ _ ⟨bc BK480 0 rfl, bc BK480 1 rfl, bc BK484 0 rfl, bc BK484 1 rfl⟩ (fun hHeld => ?_)
      clear hK K
      refine norm_ (a' := ?_) ?_ ?_
      rotate_left; · (show Act.put _ (some 59) _ = _; simp only [Act.put, List.setIfInBounds_toArray, List.set_cons_zero, List.set_cons_succ, i64_w, i32_w]; rfl)
      refine pure_ (i := 3) (N := some 61) (v := ?_) (a' := ?_) #[true, true, true, true, false, false, false, false, false] rfl rfl (any_of HT_.out (by kernel_rfl)) (fun _ _ _ h => h) (Or.inl ⟨by rfl, ?_⟩) ?_ ?_
      rotate_left; · (intro w'; go_simp; with_reducible rfl)
      rotate_left; · (simp only [Act.put, List.setIfInBounds_toArray, List.set_cons_zero, List.set_cons_succ, i64_w, i32_w]; rfl)
      refine pure_ (i := 4) (N := some 62) (v := ?_) (a' := ?_) #[true, true, true, true, true, false, false, false, false] rfl rfl (any_of HT_.out (by kernel_rfl)) (fun _ _ _ h => h) (Or.inl ⟨by rfl, ?_⟩) ?_ ?_
      rotate_left; · (intro w'; go_simp; with_reducible rfl)
      rotate_left; · (simp only [Act.put, List.setIfInBounds_toArray, List.set_cons_zero, List.set_cons_succ, i64_w, i32_w]; rfl)
      refine pure_ (i := 5) (N := some 63) (v := ?_) (a' := ?_) #[true, true, true, true, true, true, false, false, false] rfl rfl (any_of HT_.out (by kernel_rfl)) (fun _ _ _ h => h) (Or.inl ⟨by rfl, ?_⟩) ?_ ?_
      rotate_left; · (intro w'; go_simp; with_reducible rfl)
      rotate_left; · (simp only [Act.put, List.setIfInBounds_toArray, List.set_cons_zero, List.set_cons_succ, i64_w, i32_w]; rfl)
      refine pure_ (i := 6) (N := some 64) (v := ?_) (a' := ?_) #[true, true, true, true, true, true, true, false, false] rfl rfl (any_of HT_.out (by kernel_rfl)) (fun _ _ _ h => h) (Or.inl ⟨by rfl, ?_⟩) ?_ ?_
      rotate_left; · (intro w'; go_simp; with_reducible rfl)
      rotate_left; · (simp only [Act.put, List.setIfInBounds_toArray, List.set_cons_zero, List.set_cons_succ, i64_w, i32_w]; rfl)
      refine pure_ (i := 7) (N := some 65) (v := ?_) (a' := ?_) #[true, true, true, true, true, true, true, true, false] rfl rfl (any_of HT_.out (by kernel_rfl)) (fun _ _ _ h => h) (Or.inl ⟨by rfl, ?_⟩) ?_ ?_
      rotate_left; · (intro w'; go_simp; with_reducible rfl)
      rotate_left; · (simp only [Act.put, List.setIfInBounds_toArray, List.set_cons_zero, List.set_cons_succ, i64_w, i32_w]; rfl)
      refine pure_ (i := 8) (N := some 66) (v := ?_) (a' := ?_) #[true, true, true, true, true, true, true, true, true] rfl rfl (any_of HT_.out (by kernel_rfl)) (fun _ _ _ h => h) (Or.inl ⟨by rfl, ?_⟩) ?_ ?_
      rotate_left; · (intro w'; go_simp; with_reducible rfl)
      rotate_left; · (simp only [Act.put, List.setIfInBounds_toArray, List.set_cons_zero, List.set_cons_succ, i64_w, i32_w]; rfl)
      refine done_ (done_of HT_.out (by kernel_rfl)) ?_
      try go_wp2
      go_meet
      case rel => exact ⟨_, ((t494 != t497)), (by first | rfl | (simp; done) | (simp [*]; done)), H', ⟨by have := HJ8.out; first | omega | exact Nat.le_refl _⟩, ⟨by (with_reducible repeat (first | refine blk_drewN ?_ _ | refine blk_drew ?_ | refine blk_alloc ?_ _)); exact BK469.out⟩, ⟨by (with_reducible repeat (first | refine blk_drewN ?_ _ | refine blk_drew ?_ | refine blk_alloc ?_ _)); exact BK470.out⟩, ⟨by (with_reducible repeat (first | refine blk_drewN ?_ _ | refine blk_drew ?_ | refine blk_alloc ?_ _)); exact BK480.out⟩, ⟨by (with_reducible repeat (first | refine blk_drewN ?_ _ | refine blk_drew ?_ | refine blk_alloc ?_ _)); exact BK484.out⟩, ⟨by repeat (first | (with_reducible first | exact HB.out | apply below_alloc | apply pw_below_drewN | apply below_drew1 | refine below_set ?_ GE469.out | refine below_set ?_ GE470.out | refine below_set ?_ GE480.out | refine below_set ?_ GE484.out) | exact HB.out)⟩⟩
    case rest =>
     clear HC54
     try clear c1
     try clear c2
     try clear p2
     try clear c3
     try clear c4
     try clear c5
     try clear c6
     try clear c7
     try clear c19
     try clear c24
     try clear c25
     try clear c30
     try clear c31
     try clear c32
     try clear c35
     try clear c36
     try clear c37
     try clear c37b0
     try clear c38
     try clear c39
     try clear c49
     try clear c56
     try clear c61
     try clear c62
     try clear c63
     try clear c65
     try clear c66
     try clear c69
     try clear c72
     try clear c72b0
     try clear hcz20_0
     try clear hcz20_1
     try clear hcz26_0
     try clear hcz26_1
     try clear hcz27_0
     try clear hcz27_1
     try clear hcz33_0
     try clear hcz33_1
     try clear hcz64_0
     try clear hcz64_1
     try clear hcz67_0
     try clear hcz67_1
     try clear hcz70_0
     try clear hcz70_1
     try clear hfz20_0
     try clear hfz20_1
     try clear hfz26_0
     try clear hfz26_1
     try clear hfz27_0
     try clear hfz27_1
     try clear hfz33_0
     try clear hfz33_1
     try clear hfz64_0
     try clear hfz64_1
     try clear hfz67_0
     try clear hfz67_1
     try clear hfz70_0
     try clear hfz70_1
     try clear p2
     obtain ⟨kq, x66_53, rfl, HA, HJ53, BK469, BK470, BK480, BK484, HB⟩ := hcut
     cases kq with
     | zero => exact absurd HA.out (by simp [avermentlaw10_SpanMakes.j1])
     | succ kj53 =>
      have H := HA.out
      clear HA
      simp only [avermentlaw10_SpanMakes.j1] at H
      by_cases c79 : x66_53 = true
      ·
       subst c79
       rw [if_pos rfl] at H
       exact absurd ((Option.some.inj H).trans hr_.out) (by decide)
      ·
       replace c79 := Bool.eq_false_iff.mpr c79
       subst c79
       rw [if_neg (show ¬ (false = true) by decide)] at H
       have H' := Aside0.mk H
       clear H
       go_wp2
       go_loopg [11] kj53 (fun kq v11 w' => ∃ (x11_3 : Int) (x481000_3 : Int) (x481001_3 : Int) (x485000_3 : Int) (x485001_3 : Int), v11 = .int .i64 x11_3 ∧ Aside0 (avermentlaw10_SpanMakes.l0 kq x11_3 t471 t472 = some r) ∧ Aside0 (kq ≤ kj53) ∧ Aside0 (w'.heap[gb469]? = some (.cells #[.int .i64 t471, .int .i64 t472] 56 (0, 0))) ∧ Aside0 (w'.heap[gb470]? = some (.cells #[.int .i64 t473, .int .i64 t474] 56 (0, 0))) ∧ Aside0 (w'.heap[gb480]? = some (.cells #[.int .i64 x481000_3, .int .i64 x481001_3] 59 (0, 0))) ∧ Aside0 (w'.heap[gb484]? = some (.cells #[.int .i64 x485000_3, .int .i64 x485001_3] 56 (0, 0))) ∧ Aside0 (Below w.heap.size w w'))
       case atStart => exact ⟨(0), (t492), (t493), (t495), (t496), (by first | rfl | (simp; done) | (simp [*]; done)), H', ⟨Nat.le_refl _⟩, ⟨by (with_reducible repeat (first | refine blk_drewN ?_ _ | refine blk_drew ?_ | refine blk_alloc ?_ _)); exact BK469.out⟩, ⟨by (with_reducible repeat (first | refine blk_drewN ?_ _ | refine blk_drew ?_ | refine blk_alloc ?_ _)); exact BK470.out⟩, ⟨by (with_reducible repeat (first | refine blk_drewN ?_ _ | refine blk_drew ?_ | refine blk_alloc ?_ _)); exact BK480.out⟩, ⟨by (with_reducible repeat (first | refine blk_drewN ?_ _ | refine blk_drew ?_ | refine blk_alloc ?_ _)); exact BK484.out⟩, ⟨by repeat (first | (with_reducible first | exact HB.out | apply below_alloc | apply pw_below_drewN | apply below_drew1 | refine below_set ?_ GE469.out | refine below_set ?_ GE470.out | refine below_set ?_ GE480.out | refine below_set ?_ GE484.out) | exact HB.out)⟩⟩
       case round =>
        clear H'
        try clear c1
        try clear c2
        try clear p2
        try clear c3
        try clear c4
        try clear c5
        try clear c6
        try clear c7
        try clear c19
        try clear c24
        try clear c25
        try clear c30
        try clear c31
        try clear c32
        try clear c35
        try clear c36
        try clear c37
        try clear c37b0
        try clear c38
        try clear c39
        try clear c49
        try clear c56
        try clear c61
        try clear c62
        try clear c63
        try clear c65
        try clear c66
        try clear c69
        try clear c72
        try clear c72b0
        try clear c79
        try clear hcz20_0
        try clear hcz20_1
        try clear hcz26_0
        try clear hcz26_1
        try clear hcz27_0
        try clear hcz27_1
        try clear hcz33_0
        try clear hcz33_1
        try clear hcz64_0
        try clear hcz64_1
        try clear hcz67_0
        try clear hcz67_1
        try clear hcz70_0
        try clear hcz70_1
        try clear hfz20_0
        try clear hfz20_1
        try clear hfz26_0
        try clear hfz26_1
        try clear hfz27_0
        try clear hfz27_1
        try clear hfz33_0
        try clear hfz33_1
        try clear hfz64_0
        try clear hfz64_1
        try clear hfz67_0
        try clear hfz67_1
        try clear hfz70_0
        try clear hfz70_1
        try clear p2
        obtain ⟨x11_3, x481000_3, x481001_3, x485000_3, x485001_3, rfl, HA, HK3, BK469, BK470, BK480, BK484, HB⟩ := hrel
        cases gk with
        | zero => exact absurd HA.out (by simp [avermentlaw10_SpanMakes.l0])
        | succ k3 =>
         have H := HA.out
         clear HA
         simp only [avermentlaw10_SpanMakes.l0] at H
         by_cases c80 : x11_3 < 2
         ·
          rw [if_pos c80] at H
          have c80b0 : decide (x11_3 < 2) = true := decide_eq_true c80
          clear c80
          replace H := Option.bind_eq_some_iff.mp H
          obtain ⟨⟨t500, t501⟩, A810, H⟩ := H
          (try dsimp only at H)
          have A81 := Aside0.mk A810
          clear A810
          replace H := Option.bind_eq_some_iff.mp H
          obtain ⟨⟨t502, t503, t504⟩, A820, H⟩ := H
          (try dsimp only at H)
          have A82 := Aside0.mk A820
          clear A820
          replace H := Option.bind_eq_some_iff.mp H
          obtain ⟨⟨t505, t506, t507⟩, A830, H⟩ := H
          (try dsimp only at H)
          have A83 := Aside0.mk A830
          clear A830
          replace H := Option.bind_eq_some_iff.mp H
          obtain ⟨⟨t508, t509⟩, A840, H⟩ := H
          (try dsimp only at H)
          have A84 := Aside0.mk A840
          clear A840
          by_cases c85 : (!(t508 == t505) || (!(t509 == t506))) = true
          ·
           rw [if_pos c85] at H
           have c85b0 : (!(t508 == t505) || (!(t509 == t506))) = true := c85
           clear c85
           exact absurd ((Option.some.inj H).trans hr_.out) (by decide)
          ·
           rw [if_neg c85] at H
           have c85b0 : (!(t508 == t505) || (!(t509 == t506))) = false := by simpa using c85
           clear c85
           by_cases c86 : (t504 != t507) = true
           ·
            rw [if_pos c86] at H
            have c86b0 : (t504 != t507) = true := c86
            (try (have c86b1 : decide (t504 = t507) = false := by simpa using c86))
            (try (have c86b2 : (t504 == t507) = false := by simpa using c86))
            (try (have c86b3 : ¬ (t504 = t507) := by simpa using c86))
            clear c86
            exact absurd ((Option.some.inj H).trans hr_.out) (by decide)
           ·
            rw [if_neg c86] at H
            have c86b0 : (t504 != t507) = false := by simpa using c86
            (try (have c86b1 : decide (t504 = t507) = true := by simpa using c86))
            (try (have c86b2 : (t504 == t507) = true := by simpa using c86))
            clear c86
            have H' := Aside0.mk H
            clear H
            have hnb87 := NB469_470.out
            have hnc87 := NB470_469.out
            have hnb88 := NB469_480.out
            have hnc88 := NB480_469.out
            have hnb89 := NB469_484.out
            have hnc89 := NB484_469.out
            obtain ⟨hcz90_0, hcz90_1, hfz90_0, hfz90_1⟩ := c2 BK469
            try go_wp2_with (first | ((with_reducible refine gate_callee (f := 37) rfl ?_); refine goesL_ (some 73) rfl rfl Try.func37 (by kernel_rfl) rfl #[.agg #[.int .i64 t471, .int .i64 t472]] rfl (mapq rfl) ?_; (with_reducible refine (avermentlaw10_To.calls t471 t472 t500 t501 _ A81.out).mono ?_); rintro e w91 ⟨rfl, hb⟩; refine ⟨_, rfl, ?_⟩; replace BK469 := bb BK469 hb rfl; replace BK470 := bb BK470 hb rfl; replace BK480 := bb BK480 hb rfl; replace BK484 := bb BK484 hb rfl; replace HB := hst HB hb rfl; (try clear hb)) | ((with_reducible refine gate_callee (f := 57) rfl ?_); refine goesL_ (some 76) rfl rfl Try.func57 (by kernel_rfl) rfl #[.agg #[.int .i64 t500, .int .i64 t501], .bool (x11_3 == 1)] rfl (mapq rfl) ?_; (with_reducible refine (span_Branch.calls t500 t501 (x11_3 == 1) t502 t503 t504 _ A82.out).mono ?_); rintro e w92 ⟨rfl, hb⟩; refine ⟨_, rfl, ?_⟩; replace BK469 := bb BK469 hb rfl; replace BK470 := bb BK470 hb rfl; replace BK480 := bb BK480 hb rfl; replace BK484 := bb BK484 hb rfl; replace HB := hst HB hb rfl; (try clear hb); have hnb93 := NB480_470.out; have hnc93 := NB470_480.out; have hnb94 := NB480_484.out; have hnc94 := NB484_480.out; obtain ⟨hcz95_0, hcz95_1, hfz95_0, hfz95_1⟩ := c2 BK480; obtain ⟨hcz96_0, hcz96_1, hfz96_0, hfz96_1⟩ := c2 BK469) | ((with_reducible refine gate_callee (f := 58) rfl ?_); refine goesL_ (some 83) rfl rfl Try.func58 (by kernel_rfl) rfl #[.agg #[.int .i64 t471, .int .i64 t472], .bool (x11_3 == 1)] rfl (mapq rfl) ?_; (with_reducible refine (avermentref10_Branch.calls k3 t471 t472 (x11_3 == 1) t505 t506 t507 _ A83.out).mono ?_); rintro e w97 ⟨rfl, hb⟩; refine ⟨_, rfl, ?_⟩; replace BK469 := Aside0.mk (blk_below (g := gb469) (o := .cells #[.int .i64 t471, .int .i64 t472] 56 (0, 0)) (by (with_reducible repeat (first | refine blk_drewN ?_ _ | refine blk_drew ?_ | refine blk_alloc ?_ _)); refine blk_far ?_ NB469_480.out _; (with_reducible repeat (first | refine blk_drewN ?_ _ | refine blk_drew ?_ | refine blk_alloc ?_ _)); refine blk_far ?_ NB469_480.out _; (with_reducible repeat (first | refine blk_drewN ?_ _ | refine blk_drew ?_ | refine blk_alloc ?_ _)); exact BK469.out) hb); replace BK470 := Aside0.mk (blk_below (g := gb470) (o := .cells #[.int .i64 t473, .int .i64 t474] 56 (0, 0)) (by (with_reducible repeat (first | refine blk_drewN ?_ _ | refine blk_drew ?_ | refine blk_alloc ?_ _)); refine blk_far ?_ NB470_480.out _; (with_reducible repeat (first | refine blk_drewN ?_ _ | refine blk_drew ?_ | refine blk_alloc ?_ _)); refine blk_far ?_ NB470_480.out _; (with_reducible repeat (first | refine blk_drewN ?_ _ | refine blk_drew ?_ | refine blk_alloc ?_ _)); exact BK470.out) hb); replace BK480 := Aside0.mk (blk_below (g := gb480) (o := .cells #[.int .i64 t502, .int .i64 t503] 59 (0, 0)) (by (with_reducible repeat (first | refine blk_drewN ?_ _ | refine blk_drew ?_ | refine blk_alloc ?_ _)); refine blk_put (cs := #[.int .i64 t502, .int .i64 x481001_3]) ?_ 1 _ rfl; (with_reducible repeat (first | refine blk_drewN ?_ _ | refine blk_drew ?_ | refine blk_alloc ?_ _)); refine blk_put (cs := #[.int .i64 x481000_3, .int .i64 x481001_3]) ?_ 0 _ rfl; (with_reducible repeat (first | refine blk_drewN ?_ _ | refine blk_drew ?_ | refine blk_alloc ?_ _)); exact BK480.out) hb); replace BK484 := Aside0.mk (blk_below (g := gb484) (o := .cells #[.int .i64 x485000_3, .int .i64 x485001_3] 56 (0, 0)) (by (with_reducible repeat (first | refine blk_drewN ?_ _ | refine blk_drew ?_ | refine blk_alloc ?_ _)); refine blk_far ?_ NB484_480.out _; (with_reducible repeat (first | refine blk_drewN ?_ _ | refine blk_drew ?_ | refine blk_alloc ?_ _)); refine blk_far ?_ NB484_480.out _; (with_reducible repeat (first | refine blk_drewN ?_ _ | refine blk_drew ?_ | refine blk_alloc ?_ _)); exact BK484.out) hb); replace HB := Aside0.mk (below_step (by repeat (first | (with_reducible first | exact HB.out | apply below_alloc | apply pw_below_drewN | apply below_drew1 | refine below_set ?_ GE469.out | refine below_set ?_ GE470.out | refine below_set ?_ GE480.out | refine below_set ?_ GE484.out) | exact HB.out)) hb); (try clear hb); have hnb98 := NB484_470.out; have hnc98 := NB470_484.out; obtain ⟨hcz99_0, hcz99_1, hfz99_0, hfz99_1⟩ := c2 BK484))
            have n0_ : Aside0 (((w97.setCell ⟨gb484, 0, none⟩ (.int .i64 t505)).setCell ⟨gb484, 1, none⟩ (.int .i64 t506)).heap[gb469]? = some (.cells #[.int .i64 t471, .int .i64 t472] 56 (0, 0))) := ⟨by (with_reducible repeat (first | refine blk_drewN ?_ _ | refine blk_drew ?_ | refine blk_alloc ?_ _)); refine blk_far ?_ NB469_484.out _; (with_reducible repeat (first | refine blk_drewN ?_ _ | refine blk_drew ?_ | refine blk_alloc ?_ _)); refine blk_far ?_ NB469_484.out _; (with_reducible repeat (first | refine blk_drewN ?_ _ | refine blk_drew ?_ | refine blk_alloc ?_ _)); exact BK469.out⟩
            have n1_ : Aside0 (((w97.setCell ⟨gb484, 0, none⟩ (.int .i64 t505)).setCell ⟨gb484, 1, none⟩ (.int .i64 t506)).heap[gb470]? = some (.cells #[.int .i64 t473, .int .i64 t474] 56 (0, 0))) := ⟨by (with_reducible repeat (first | refine blk_drewN ?_ _ | refine blk_drew ?_ | refine blk_alloc ?_ _)); refine blk_far ?_ NB470_484.out _; (with_reducible repeat (first | refine blk_drewN ?_ _ | refine blk_drew ?_ | refine blk_alloc ?_ _)); refine blk_far ?_ NB470_484.out _; (with_reducible repeat (first | refine blk_drewN ?_ _ | refine blk_drew ?_ | refine blk_alloc ?_ _)); exact BK470.out⟩
            have n2_ : Aside0 (((w97.setCell ⟨gb484, 0, none⟩ (.int .i64 t505)).setCell ⟨gb484, 1, none⟩ (.int .i64 t506)).heap[gb480]? = some (.cells #[.int .i64 t502, .int .i64 t503] 59 (0, 0))) := ⟨by (with_reducible repeat (first | refine blk_drewN ?_ _ | refine blk_drew ?_ | refine blk_alloc ?_ _)); refine blk_far ?_ NB480_484.out _; (with_reducible repeat (first | refine blk_drewN ?_ _ | refine blk_drew ?_ | refine blk_alloc ?_ _)); refine blk_far ?_ NB480_484.out _; (with_reducible repeat (first | refine blk_drewN ?_ _ | refine blk_drew ?_ | refine blk_alloc ?_ _)); exact BK480.out⟩
            have n3_ : Aside0 (((w97.setCell ⟨gb484, 0, none⟩ (.int .i64 t505)).setCell ⟨gb484, 1, none⟩ (.int .i64 t506)).heap[gb484]? = some (.cells #[.int .i64 t505, .int .i64 t506] 56 (0, 0))) := ⟨by (with_reducible repeat (first | refine blk_drewN ?_ _ | refine blk_drew ?_ | refine blk_alloc ?_ _)); refine blk_put (cs := #[.int .i64 t505, .int .i64 x485001_3]) ?_ 1 _ rfl; (with_reducible repeat (first | refine blk_drewN ?_ _ | refine blk_drew ?_ | refine blk_alloc ?_ _)); refine blk_put (cs := #[.int .i64 x485000_3, .int .i64 x485001_3]) ?_ 0 _ rfl; (with_reducible repeat (first | refine blk_drewN ?_ _ | refine blk_drew ?_ | refine blk_alloc ?_ _)); exact BK484.out⟩
            have n4_ : Aside0 (Below w.heap.size w ((w97.setCell ⟨gb484, 0, none⟩ (.int .i64 t505)).setCell ⟨gb484, 1, none⟩ (.int .i64 t506))) := ⟨by repeat (first | (with_reducible first | exact HB.out | apply below_alloc | apply pw_below_drewN | apply below_drew1 | refine below_set ?_ GE469.out | refine below_set ?_ GE470.out | refine below_set ?_ GE480.out | refine below_set ?_ GE484.out) | exact HB.out)⟩
            (try clear BK469)
            (try clear BK470)
            (try clear BK480)
            (try clear BK484)
            (try clear HB)
            generalize ((w97.setCell ⟨gb484, 0, none⟩ (.int .i64 t505)).setCell ⟨gb484, 1, none⟩ (.int .i64 t506)) = w100 at n0_ n1_ n2_ n3_ n4_ ⊢
            have BK469 := n0_
            have BK470 := n1_
            have BK480 := n2_
            have BK484 := n3_
            have HB := n4_
            clear n0_ n1_ n2_ n3_ n4_
            replace BK469 := Aside0.mk (blk_drew BK469.out); replace BK470 := Aside0.mk (blk_drew BK470.out); replace BK480 := Aside0.mk (blk_drew BK480.out); replace BK484 := Aside0.mk (blk_drew BK484.out); replace HB := Aside0.mk (below_drew1 HB.out)
            refine start_ (n := 9) (S := fun w' => w'.cell? ⟨gb480, 0, none⟩ = some (.int .i64 t502) ∧ w'.cell? ⟨gb480, 1, none⟩ = some (.int .i64 t503) ∧ w'.cell? ⟨gb484, 0, none⟩ = some (.int .i64 t505) ∧ w'.cell? ⟨gb484, 1, none⟩ = some (.int .i64 t506)) (ds := []) #[false, false, false, false, false, false, false, false, false] (by kernel_rfl) rfl rfl ⟨bc BK480 0 rfl, bc BK480 1 rfl, bc BK484 0 rfl, bc BK484 1 rfl⟩ (fun hHeld => ?_); refine with_tabW avermentlaw10_SpanMakes.tab15 avermentlaw10_SpanMakes.bits15 (fun HT_ HW_ => ?_)
            generalize w100.drew = w101 at BK469 BK470 BK480 BK484 HB hHeld ⊢
            refine take_ (i := 0) (N := some 86) (v := ?_) (a' := ?_) #[true, false, false, false, false, false, false, false, false] rfl rfl (take_ofW HT_.out HW_.out (by kernel_rfl)) (fun _ _ _ h => h) (Or.inl ⟨by rfl, ?_⟩) hHeld ?_ ?_
            rotate_left
            ·
             rintro w' ⟨s0, s1, s2, s3⟩
             go_simp
             with_reducible rfl
            rotate_left
            ·
             simp only [Act.put, List.setIfInBounds_toArray, List.set_cons_zero, List.set_cons_succ, i64_w, i32_w]
             rfl
            refine take_ (i := 2) (N := some 88) (v := ?_) (a' := ?_) #[true, false, true, false, false, false, false, false, false] rfl rfl (take_ofW HT_.out HW_.out (by kernel_rfl)) (fun _ _ _ h => h) (Or.inl ⟨by rfl, ?_⟩) hHeld ?_ ?_
            rotate_left
            ·
             rintro w' ⟨s0, s1, s2, s3⟩
             go_simp
             with_reducible rfl
            rotate_left
            ·
             simp only [Act.put, List.setIfInBounds_toArray, List.set_cons_zero, List.set_cons_succ, i64_w, i32_w]
             rfl
            refine one_ (i := 1) (N := some 87) #[true, true, true, false, false, false, false, false, false] rfl rfl (one_of HT_.out (by kernel_rfl)) (by decide) (fun K hK => ?_)
            refine goes_ Try.func39 (by kernel_rfl) rfl #[.agg #[.int .i64 t502, .int .i64 t503]] (by rfl) rfl rfl (mapq rfl) ?_
            with_reducible refine (avermentlaw10_From.calls t502 t503 t508 t509 _ A84.out).mono ?_
            rintro e w102 ⟨rfl, hb⟩
            refine ⟨_, rfl, ?_⟩
            replace BK469 := bb BK469 hb rfl; replace BK470 := bb BK470 hb rfl; replace BK480 := bb BK480 hb rfl; replace BK484 := bb BK484 hb rfl; replace HB := hst HB hb rfl
            (try clear hb)
            refine hK.out _ _ ⟨bc BK480 0 rfl, bc BK480 1 rfl, bc BK484 0 rfl, bc BK484 1 rfl⟩ (fun hHeld => ?_)
            clear hK K
            refine norm_ (a' := ?_) ?_ ?_
            rotate_left; · (show Act.put _ (some 87) _ = _; simp only [Act.put, List.setIfInBounds_toArray, List.set_cons_zero, List.set_cons_succ, i64_w, i32_w]; rfl)
            refine pure_ (i := 3) (N := some 89) (v := ?_) (a' := ?_) #[true, true, true, true, false, false, false, false, false] rfl rfl (any_of HT_.out (by kernel_rfl)) (fun _ _ _ h => h) (Or.inl ⟨by rfl, ?_⟩) ?_ ?_
            rotate_left; · (intro w'; go_simp; with_reducible rfl)
            rotate_left; · (simp only [Act.put, List.setIfInBounds_toArray, List.set_cons_zero, List.set_cons_succ, i64_w, i32_w]; rfl)
            refine pure_ (i := 4) (N := some 90) (v := ?_) (a' := ?_) #[true, true, true, true, true, false, false, false, false] rfl rfl (any_of HT_.out (by kernel_rfl)) (fun _ _ _ h => h) (Or.inl ⟨by rfl, ?_⟩) ?_ ?_
            rotate_left; · (intro w'; go_simp; with_reducible rfl)
            rotate_left; · (simp only [Act.put, List.setIfInBounds_toArray, List.set_cons_zero, List.set_cons_succ, i64_w, i32_w]; rfl)
            refine pure_ (i := 5) (N := some 91) (v := ?_) (a' := ?_) #[true, true, true, true, true, true, false, false, false] rfl rfl (any_of HT_.out (by kernel_rfl)) (fun _ _ _ h => h) (Or.inl ⟨by rfl, ?_⟩) ?_ ?_
            rotate_left; · (intro w'; go_simp; with_reducible rfl)
            rotate_left; · (simp only [Act.put, List.setIfInBounds_toArray, List.set_cons_zero, List.set_cons_succ, i64_w, i32_w]; rfl)
            refine pure_ (i := 6) (N := some 92) (v := ?_) (a' := ?_) #[true, true, true, true, true, true, true, false, false] rfl rfl (any_of HT_.out (by kernel_rfl)) (fun _ _ _ h => h) (Or.inl ⟨by rfl, ?_⟩) ?_ ?_
            rotate_left; · (intro w'; go_simp; with_reducible rfl)
            rotate_left; · (simp only [Act.put, List.setIfInBounds_toArray, List.set_cons_zero, List.set_cons_succ, i64_w, i32_w]; rfl)
            refine pure_ (i := 7) (N := some 93) (v := ?_) (a' := ?_) #[true, true, true, true, true, true, true, true, false] rfl rfl (any_of HT_.out (by kernel_rfl)) (fun _ _ _ h => h) (Or.inl ⟨by rfl, ?_⟩) ?_ ?_
            rotate_left; · (intro w'; go_simp; with_reducible rfl)
            rotate_left; · (simp only [Act.put, List.setIfInBounds_toArray, List.set_cons_zero, List.set_cons_succ, i64_w, i32_w]; rfl)
            refine pure_ (i := 8) (N := some 94) (v := ?_) (a' := ?_) #[true, true, true, true, true, true, true, true, true] rfl rfl (any_of HT_.out (by kernel_rfl)) (fun _ _ _ h => h) (Or.inl ⟨by rfl, ?_⟩) ?_ ?_
            rotate_left; · (intro w'; go_simp; with_reducible rfl)
            rotate_left; · (simp only [Act.put, List.setIfInBounds_toArray, List.set_cons_zero, List.set_cons_succ, i64_w, i32_w]; rfl)
            refine done_ (done_of HT_.out (by kernel_rfl)) ?_
            try go_wp2
            go_roundg k3
            case measure => have := HJ8.out; have := HJ53.out; have := HK3.out; omega
            case rel => exact ⟨(wrap64 (x11_3 + 1)), (t502), (t503), (t505), (t506), (by first | rfl | (simp; done) | (simp [*]; done)), H', ⟨by have := HJ8.out; have := HJ53.out; have := HK3.out; omega⟩, ⟨by (with_reducible repeat (first | refine blk_drewN ?_ _ | refine blk_drew ?_ | refine blk_alloc ?_ _)); exact BK469.out⟩, ⟨by (with_reducible repeat (first | refine blk_drewN ?_ _ | refine blk_drew ?_ | refine blk_alloc ?_ _)); exact BK470.out⟩, ⟨by (with_reducible repeat (first | refine blk_drewN ?_ _ | refine blk_drew ?_ | refine blk_alloc ?_ _)); exact BK480.out⟩, ⟨by (with_reducible repeat (first | refine blk_drewN ?_ _ | refine blk_drew ?_ | refine blk_alloc ?_ _)); exact BK484.out⟩, ⟨by repeat (first | (with_reducible first | exact HB.out | apply below_alloc | apply pw_below_drewN | apply below_drew1 | refine below_set ?_ GE469.out | refine below_set ?_ GE470.out | refine below_set ?_ GE480.out | refine below_set ?_ GE484.out) | exact HB.out)⟩⟩
         ·
          rw [if_neg c80] at H
          have c80b0 : decide (x11_3 < 2) = false := decide_eq_false c80
          clear c80
          obtain rfl := Option.some.inj H
          go_wp2
          go_ret
          exact ⟨by first | rfl | (simp [*, errW_none, errW_some] <;> rfl), by repeat (first | (with_reducible first | exact HB.out | apply below_alloc | apply pw_below_drewN | apply below_drew1 | refine below_set ?_ GE469.out | refine below_set ?_ GE470.out | refine below_set ?_ GE480.out | refine below_set ?_ GE484.out) | exact HB.out)⟩

end Go.Proofs.Ytpacmhhaabhdjaa.SM
