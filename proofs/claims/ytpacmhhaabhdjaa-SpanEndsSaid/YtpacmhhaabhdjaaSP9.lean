-- Written by a program of this session: plain functions and their walks. Lean checks it.
import Derived.Test.YtpacmhhaabhdjaaSP0
import Derived.Test.YtpacmhhaabhdjaaSP1
import Derived.Test.YtpacmhhaabhdjaaSP3
import Derived.Test.YtpacmhhaabhdjaaSP8
namespace Go.Proofs.Ytpacmhhaabhdjaa.SP
open Go.RowKit Go.Proofs.YtpacmhhaabhdjaaW.PrintWords Go.Proofs.YtpacmhhaabhdjaaW.PrintLast Go.Proofs.YtpacmhhaabhdjaaW.PrintMore
attribute [local go_sem] max2_int min2_int max_two min_two max_three min_three max_four min_four   -- for this text's walks alone
set_option linter.unusedVariables false
set_option linter.unusedSimpArgs false

attribute [local go_sem high] eqA56
/-! ### avermentlaw10_SpanEnds: function 7 -/
mutual
def avermentlaw10_SpanEnds.j0 : Nat → Int → Bool → Int → Int → Int → Int → Int → Int → Option (Bool)
 | 0, _, _, _, _, _, _, _, _ => none
 | k + 1, x7, x47, x337000, x337001, x338000, x338001, x350000, x350001 => if x47 = true then ((avermentlaw10_told.f k).bind fun t355 => (some t355)) else (avermentlaw10_SpanEnds.l0 k x7 (([x337000, x337001] : List Int)) (([x338000, x338001, 1, (-1)] : List Int)) false false 0 x338000 x338001 x350000 x350001)
def avermentlaw10_SpanEnds.l0 : Nat → Int → List Int → List Int → Bool → Bool → Int → Int → Int → Int → Int → Option (Bool)
 | 0, _, _, _, _, _, _, _, _, _, _ => none
 | k + 1, x7, x10, x11, x12, x13, x14, x338000, x338001, x350000, x350001 => if x14 < (x10.length : Int) then (avermentlaw10_SpanEnds.l1 k x7 x10 x11 x12 x13 x14 0 x338000 x338001 x350000 x350001) else (if x12 = true then (some x13) else (some false))
def avermentlaw10_SpanEnds.l1 : Nat → Int → List Int → List Int → Bool → Bool → Int → Int → Int → Int → Int → Int → Option (Bool)
 | 0, _, _, _, _, _, _, _, _, _, _, _ => none
 | k + 1, x7, x10, x11, x12, x13, x14, x15, x338000, x338001, x350000, x350001 => if x15 < (x11.length : Int) then (if 0 ≤ x14 then (if x14 < (x10.length : Int) then (if 0 ≤ x15 then ((avermentref07_Arith.f x7 (rd x10 x14) (rd x11 x15)).bind fun bt364 => (if bt364.2 = true then ((avermentref10_Has.f x338000 x338001 (rd x11 x15)).bind fun t367 => (if t367 = true then (if x12 = true then (if x13 = true then (avermentlaw10_SpanEnds.l1 k x7 x10 x11 true true x14 (wrap64 (x15 + 1)) x338000 x338001 x350000 x350001) else (avermentlaw10_SpanEnds.l1 k x7 x10 x11 true (bt364.1 == x350001) x14 (wrap64 (x15 + 1)) x338000 x338001 x350000 x350001)) else (if x13 = true then (avermentlaw10_SpanEnds.l1 k x7 x10 x11 (bt364.1 == x350000) true x14 (wrap64 (x15 + 1)) x338000 x338001 x350000 x350001) else (avermentlaw10_SpanEnds.l1 k x7 x10 x11 (bt364.1 == x350000) (bt364.1 == x350001) x14 (wrap64 (x15 + 1)) x338000 x338001 x350000 x350001))) else (avermentlaw10_SpanEnds.l1 k x7 x10 x11 x12 x13 x14 (wrap64 (x15 + 1)) x338000 x338001 x350000 x350001))) else (avermentlaw10_SpanEnds.l1 k x7 x10 x11 x12 x13 x14 (wrap64 (x15 + 1)) x338000 x338001 x350000 x350001))) else (none)) else (none)) else (none)) else (avermentlaw10_SpanEnds.l0 k x7 x10 x11 x12 x13 (wrap64 (x14 + 1)) x338000 x338001 x350000 x350001)
end
def avermentlaw10_SpanEnds.f (k : Nat) (a0 : Int) (a1_0 : Int) (a1_1 : Int) (a2_0 : Int) (a2_1 : Int) : Option (Bool) := (avermentref10_Fix.f a1_0 a1_1).bind fun bt338 => ((avermentref10_Fix.f a2_0 a2_1).bind fun bt340 => ((avermentlaw10_To.f bt338.1 bt338.2).bind fun bt342 => ((avermentlaw10_To.f bt340.1 bt340.2).bind fun bt344 => ((span_Two.f k (wrap64 (4 + (wrap64 (Int.tmod (IntKind.u64.wrap (a0)) 4)))) bt342.1 bt342.2 bt344.1 bt344.2).bind fun bt346 => ((avermentlaw10_told.f k).bind fun t350 => (if t350 = true then (if bt346.2.2 = true then ((avermentlaw10_From.f bt346.1 bt346.2.1).bind fun bt351 => ((avermentref10_Any.f).bind fun bt353 => (avermentlaw10_SpanEnds.j0 k (wrap64 (4 + (wrap64 (Int.tmod (IntKind.u64.wrap (a0)) 4)))) (bt351.1 == bt353.1 && (bt351.2 == bt353.2)) bt338.1 bt338.2 bt340.1 bt340.2 bt346.1 bt346.2.1))) else (avermentlaw10_SpanEnds.j0 k (wrap64 (4 + (wrap64 (Int.tmod (IntKind.u64.wrap (a0)) 4)))) true bt338.1 bt338.2 bt340.1 bt340.2 bt346.1 bt346.2.1)) else (avermentlaw10_SpanEnds.j0 k (wrap64 (4 + (wrap64 (Int.tmod (IntKind.u64.wrap (a0)) 4)))) true bt338.1 bt338.2 bt340.1 bt340.2 bt346.1 bt346.2.1)))))))
theorem avermentlaw10_SpanEnds.mono_l : ∀ k, (∀ y0 y1 y2 y3 y4 y5 y6 y7, LeO (avermentlaw10_SpanEnds.j0 k y0 y1 y2 y3 y4 y5 y6 y7) (avermentlaw10_SpanEnds.j0 (k + 1) y0 y1 y2 y3 y4 y5 y6 y7)) ∧ (∀ y0 y1 y2 y3 y4 y5 y6 y7 y8 y9, LeO (avermentlaw10_SpanEnds.l0 k y0 y1 y2 y3 y4 y5 y6 y7 y8 y9) (avermentlaw10_SpanEnds.l0 (k + 1) y0 y1 y2 y3 y4 y5 y6 y7 y8 y9)) ∧ (∀ y0 y1 y2 y3 y4 y5 y6 y7 y8 y9 y10, LeO (avermentlaw10_SpanEnds.l1 k y0 y1 y2 y3 y4 y5 y6 y7 y8 y9 y10) (avermentlaw10_SpanEnds.l1 (k + 1) y0 y1 y2 y3 y4 y5 y6 y7 y8 y9 y10))
 | 0 => ⟨fun _ _ _ _ _ _ _ _ r h => by simp [avermentlaw10_SpanEnds.j0] at h, fun _ _ _ _ _ _ _ _ _ _ r h => by simp [avermentlaw10_SpanEnds.l0] at h, fun _ _ _ _ _ _ _ _ _ _ _ r h => by simp [avermentlaw10_SpanEnds.l1] at h⟩
 | k + 1 => by
  obtain ⟨ih0, ih1, ih2⟩ := avermentlaw10_SpanEnds.mono_l k
  refine ⟨?_, ?_, ?_⟩
  ·
   intro y0 y1 y2 y3 y4 y5 y6 y7
   unfold avermentlaw10_SpanEnds.j0
   repeat' first
   | (with_reducible exact ih0 _ _ _ _ _ _ _ _)
   | (with_reducible exact ih1 _ _ _ _ _ _ _ _ _ _)
   | (with_reducible exact ih2 _ _ _ _ _ _ _ _ _ _ _)
   | (with_reducible exact avermentlaw10_told.mono _)
   | (with_reducible exact span_Two.mono _ _ _ _ _ _)
   | (with_reducible exact LeO.refl _)
   | (with_reducible exact LeO.none _)
   | (with_reducible refine LeO.ite ?_ ?_)
   | (with_reducible refine LeO.bind ?_ (fun _ => ?_))
   | exact ih0 _ _ _ _ _ _ _ _
   | exact ih1 _ _ _ _ _ _ _ _ _ _
   | exact ih2 _ _ _ _ _ _ _ _ _ _ _
   | exact avermentlaw10_told.mono _
   | exact span_Two.mono _ _ _ _ _ _
   | exact LeO.none _
   | refine LeO.ite ?_ ?_
   | refine LeO.bind ?_ (fun _ => ?_)
  ·
   intro y0 y1 y2 y3 y4 y5 y6 y7 y8 y9
   unfold avermentlaw10_SpanEnds.l0
   repeat' first
   | (with_reducible exact ih0 _ _ _ _ _ _ _ _)
   | (with_reducible exact ih1 _ _ _ _ _ _ _ _ _ _)
   | (with_reducible exact ih2 _ _ _ _ _ _ _ _ _ _ _)
   | (with_reducible exact avermentlaw10_told.mono _)
   | (with_reducible exact span_Two.mono _ _ _ _ _ _)
   | (with_reducible exact LeO.refl _)
   | (with_reducible exact LeO.none _)
   | (with_reducible refine LeO.ite ?_ ?_)
   | (with_reducible refine LeO.bind ?_ (fun _ => ?_))
   | exact ih0 _ _ _ _ _ _ _ _
   | exact ih1 _ _ _ _ _ _ _ _ _ _
   | exact ih2 _ _ _ _ _ _ _ _ _ _ _
   | exact avermentlaw10_told.mono _
   | exact span_Two.mono _ _ _ _ _ _
   | exact LeO.none _
   | refine LeO.ite ?_ ?_
   | refine LeO.bind ?_ (fun _ => ?_)
  ·
   intro y0 y1 y2 y3 y4 y5 y6 y7 y8 y9 y10
   unfold avermentlaw10_SpanEnds.l1
   repeat' first
   | (with_reducible exact ih0 _ _ _ _ _ _ _ _)
   | (with_reducible exact ih1 _ _ _ _ _ _ _ _ _ _)
   | (with_reducible exact ih2 _ _ _ _ _ _ _ _ _ _ _)
   | (with_reducible exact avermentlaw10_told.mono _)
   | (with_reducible exact span_Two.mono _ _ _ _ _ _)
   | (with_reducible exact LeO.refl _)
   | (with_reducible exact LeO.none _)
   | (with_reducible refine LeO.ite ?_ ?_)
   | (with_reducible refine LeO.bind ?_ (fun _ => ?_))
   | exact ih0 _ _ _ _ _ _ _ _
   | exact ih1 _ _ _ _ _ _ _ _ _ _
   | exact ih2 _ _ _ _ _ _ _ _ _ _ _
   | exact avermentlaw10_told.mono _
   | exact span_Two.mono _ _ _ _ _ _
   | exact LeO.none _
   | refine LeO.ite ?_ ?_
   | refine LeO.bind ?_ (fun _ => ?_)
theorem avermentlaw10_SpanEnds.mono : ∀ a0 a1 a2 a3 a4 k, LeO (avermentlaw10_SpanEnds.f k a0 a1 a2 a3 a4) (avermentlaw10_SpanEnds.f (k + 1) a0 a1 a2 a3 a4) := by
 intro a0 a1 a2 a3 a4 k
 obtain ⟨ih0, ih1, ih2⟩ := avermentlaw10_SpanEnds.mono_l k
 unfold avermentlaw10_SpanEnds.f
 repeat' first
   | (with_reducible exact ih0 _ _ _ _ _ _ _ _)
   | (with_reducible exact ih1 _ _ _ _ _ _ _ _ _ _)
   | (with_reducible exact ih2 _ _ _ _ _ _ _ _ _ _ _)
   | (with_reducible exact avermentlaw10_told.mono _)
   | (with_reducible exact span_Two.mono _ _ _ _ _ _)
   | (with_reducible exact LeO.refl _)
   | (with_reducible exact LeO.none _)
   | (with_reducible refine LeO.ite ?_ ?_)
   | (with_reducible refine LeO.bind ?_ (fun _ => ?_))
   | exact ih0 _ _ _ _ _ _ _ _
   | exact ih1 _ _ _ _ _ _ _ _ _ _
   | exact ih2 _ _ _ _ _ _ _ _ _ _ _
   | exact avermentlaw10_told.mono _
   | exact span_Two.mono _ _ _ _ _ _
   | exact LeO.none _
   | refine LeO.ite ?_ ?_
   | refine LeO.bind ?_ (fun _ => ?_)
def avermentlaw10_SpanEnds.T3 : Bool × List (List Nat × List Nat) := (true, [([], []), ([], []), ([1], [1]), ([], []), ([3, 2], [3]), ([0, 2, 4, 4], [0, 2, 4]), ([5], [5]), ([6], [6]), ([6], [6]), ([], []), ([9, 7, 5, 0, 1, 2, 3, 4, 5, 6, 7, 9], [7, 9]), ([8, 10, 0, 1, 2, 3, 4, 5, 6, 7, 8, 9, 10], [8])])
def avermentlaw10_SpanEnds.B3 : List Nat := [0, 0, 2, 0, 14, 31, 63, 127, 127, 0, 767, 2047]
theorem avermentlaw10_SpanEnds.tab3 : rtab .any (opsOf Try.f7 3) = avermentlaw10_SpanEnds.T3 := by kernel_rfl
theorem avermentlaw10_SpanEnds.bits3 : waitsOk avermentlaw10_SpanEnds.T3.2 avermentlaw10_SpanEnds.B3 = true := by kernel_rfl
def avermentlaw10_SpanEnds.T15 : Bool × List (List Nat × List Nat) := (true, [([], []), ([], []), ([], []), ([1, 2], [1, 2]), ([3], [3]), ([], []), ([], []), ([5, 6], [5, 6]), ([7], [7]), ([0, 4, 8], [0, 4, 8]), ([9], [9]), ([10], [10]), ([10], [10]), ([11, 9, 0, 1, 2, 3, 4, 5, 6, 7, 8, 9, 10, 11], [11]), ([12, 13, 0, 1, 2, 3, 4, 5, 6, 7, 8, 9, 10, 11, 12, 13], [12])])
def avermentlaw10_SpanEnds.B15 : List Nat := [0, 0, 0, 6, 14, 0, 0, 96, 224, 511, 1023, 2047, 2047, 4095, 16383]
theorem avermentlaw10_SpanEnds.tab15 : rtab .any (opsOf Try.f7 15) = avermentlaw10_SpanEnds.T15 := by kernel_rfl
theorem avermentlaw10_SpanEnds.bits15 : waitsOk avermentlaw10_SpanEnds.T15.2 avermentlaw10_SpanEnds.B15 = true := by kernel_rfl
def avermentlaw10_SpanEnds.T16 : Bool × List (List Nat × List Nat) := (true, [([], []), ([0], [0]), ([1], [1]), ([1], [1]), ([1], [1]), ([3, 4, 1], [1, 3, 4]), ([5, 1], [1, 5]), ([2, 6, 1, 1], [1, 2, 6]), ([1, 7], [1, 7])])
def avermentlaw10_SpanEnds.B16 : List Nat := [0, 1, 3, 3, 3, 27, 59, 127, 255]
theorem avermentlaw10_SpanEnds.tab16 : rtab .any (opsOf Try.f7 16) = avermentlaw10_SpanEnds.T16 := by kernel_rfl
theorem avermentlaw10_SpanEnds.bits16 : waitsOk avermentlaw10_SpanEnds.T16.2 avermentlaw10_SpanEnds.B16 = true := by kernel_rfl
def avermentlaw10_SpanEnds.T17 : Bool × List (List Nat × List Nat) := (true, [([], []), ([0], [0]), ([1], [1]), ([1], [1]), ([3, 1], [1, 3]), ([2, 4, 1], [1, 2, 4]), ([1, 5], [1, 5]), ([], []), ([7, 1], [7]), ([8], [8]), ([8], [8]), ([10, 8], [8, 10]), ([9, 11, 8], [8, 9, 11]), ([8, 12], [8, 12]), ([6, 8, 0, 1, 2, 3, 4, 5, 6], [0, 6]), ([13, 14, 0, 1, 2, 3, 4, 5, 6, 7, 8, 9, 10, 11, 12, 13, 14], [7, 13])])
def avermentlaw10_SpanEnds.B17 : List Nat := [0, 1, 3, 3, 11, 31, 63, 0, 131, 387, 387, 1411, 3971, 8067, 511, 32767]
theorem avermentlaw10_SpanEnds.tab17 : rtab .any (opsOf Try.f7 17) = avermentlaw10_SpanEnds.T17 := by kernel_rfl
theorem avermentlaw10_SpanEnds.bits17 : waitsOk avermentlaw10_SpanEnds.T17.2 avermentlaw10_SpanEnds.B17 = true := by kernel_rfl
set_option maxHeartbeats 8000000 in
set_option maxRecDepth 100000 in
theorem avermentlaw10_SpanEnds.calls (k : Nat) (a0 : Int) (a1_0 : Int) (a1_1 : Int) (a2_0 : Int) (a2_1 : Int) (r : Bool) (w : World) (hr_ : Aside0 (r = true)) (h : avermentlaw10_SpanEnds.f k a0 a1_0 a1_1 a2_0 a2_1 = some r) :
  Calls Try.prog 7 #[.int .i64 a0, .agg #[.int .i64 a1_0, .int .i64 a1_1], .agg #[.int .i64 a2_0, .int .i64 a2_1]] w fun e w' => e = .returned (.bool r) ∧ Below w.heap.size w w' := by
 have hu56 := Try.underlying56
 have hu59 := Try.underlying59
 have HB := Aside0.mk (Below.refl w.heap.size w)
 have H : ((avermentref10_Fix.f a1_0 a1_1).bind fun bt338 => ((avermentref10_Fix.f a2_0 a2_1).bind fun bt340 => ((avermentlaw10_To.f bt338.1 bt338.2).bind fun bt342 => ((avermentlaw10_To.f bt340.1 bt340.2).bind fun bt344 => ((span_Two.f k (wrap64 (4 + (wrap64 (Int.tmod (IntKind.u64.wrap (a0)) 4)))) bt342.1 bt342.2 bt344.1 bt344.2).bind fun bt346 => ((avermentlaw10_told.f k).bind fun t350 => (if t350 = true then (if bt346.2.2 = true then ((avermentlaw10_From.f bt346.1 bt346.2.1).bind fun bt351 => ((avermentref10_Any.f).bind fun bt353 => (avermentlaw10_SpanEnds.j0 k (wrap64 (4 + (wrap64 (Int.tmod (IntKind.u64.wrap (a0)) 4)))) (bt351.1 == bt353.1 && (bt351.2 == bt353.2)) bt338.1 bt338.2 bt340.1 bt340.2 bt346.1 bt346.2.1))) else (avermentlaw10_SpanEnds.j0 k (wrap64 (4 + (wrap64 (Int.tmod (IntKind.u64.wrap (a0)) 4)))) true bt338.1 bt338.2 bt340.1 bt340.2 bt346.1 bt346.2.1)) else (avermentlaw10_SpanEnds.j0 k (wrap64 (4 + (wrap64 (Int.tmod (IntKind.u64.wrap (a0)) 4)))) true bt338.1 bt338.2 bt340.1 bt340.2 bt346.1 bt346.2.1)))))))) = some r := h
 clear h
 replace H := Option.bind_eq_some_iff.mp H
 obtain ⟨⟨t338, t339⟩, A40, H⟩ := H
 (try dsimp only at H)
 have A4 := Aside0.mk A40
 clear A40
 replace H := Option.bind_eq_some_iff.mp H
 obtain ⟨⟨t340, t341⟩, A50, H⟩ := H
 (try dsimp only at H)
 have A5 := Aside0.mk A50
 clear A50
 replace H := Option.bind_eq_some_iff.mp H
 obtain ⟨⟨t342, t343⟩, A60, H⟩ := H
 (try dsimp only at H)
 have A6 := Aside0.mk A60
 clear A60
 replace H := Option.bind_eq_some_iff.mp H
 obtain ⟨⟨t344, t345⟩, A70, H⟩ := H
 (try dsimp only at H)
 have A7 := Aside0.mk A70
 clear A70
 replace H := Option.bind_eq_some_iff.mp H
 obtain ⟨⟨t346, t347, t348⟩, A80, H⟩ := H
 (try dsimp only at H)
 have A8 := Aside0.mk A80
 clear A80
 have HC9 := Aside0.mk H
 clear H
 go_enter Try.func7, Try.ntmps7
 try go_wp2_with (first | ((with_reducible refine gate_dst (N := 4) rfl ?_); refine box_event ?hg (N := 4) ?hd (cs := #[.int .i64 a1_0, .int .i64 a1_1]) (t := 56) ?hr ?_; (case hd => rfl); (case hg => rfl); (case hr => first | (go_simp; done) | (go_simp; rfl)); intro gb336 hg w10 hbox hb; have BK336 := Aside0.mk (hbox); have GW336 := geb hg HB rfl; have GE336 := geb hg HB rfl; replace HB := hst HB hb rfl; clear hb hbox hg) | ((with_reducible refine gate_dst (N := 5) rfl ?_); refine box_event ?hg (N := 5) ?hd (cs := #[.int .i64 a2_0, .int .i64 a2_1]) (t := 56) ?hr ?_; (case hd => rfl); (case hg => rfl); (case hr => first | (go_simp; done) | (go_simp; rfl)); intro gb337 hg w11 hbox hb; have BK337 := Aside0.mk (hbox); have GW337 := geb hg HB rfl; have GE337 := geb hg HB rfl; have NB336_337 := nbl hg BK336 rfl; have NB337_336 := nbr hg BK336 rfl; replace BK336 := bb BK336 hb rfl; replace HB := hst HB hb rfl; clear hb hbox hg))
 replace BK336 := Aside0.mk (blk_drew BK336.out); replace BK337 := Aside0.mk (blk_drew BK337.out); replace HB := Aside0.mk (below_drew1 HB.out)
 refine start_ (n := 6) (S := fun w' => w'.cell? ⟨gb336, 0, none⟩ = some (.int .i64 a1_0) ∧ w'.cell? ⟨gb336, 1, none⟩ = some (.int .i64 a1_1) ∧ w'.cell? ⟨gb337, 0, none⟩ = some (.int .i64 a2_0) ∧ w'.cell? ⟨gb337, 1, none⟩ = some (.int .i64 a2_1)) (ds := [4, 5]) #[false, false, false, false, false, false] (by kernel_rfl) rfl rfl ⟨bc BK336 0 rfl, bc BK336 1 rfl, bc BK337 0 rfl, bc BK337 1 rfl⟩ (fun hHeld => ?_)
 generalize w11.drew = w12 at BK336 BK337 HB hHeld ⊢
 refine take_ (i := 0) (N := some 18) (v := ?_) (a' := ?_) #[true, false, false, false, false, false] rfl rfl (by kernel_rfl) (fun _ _ _ h => h) (Or.inl ⟨by rfl, ?_⟩) hHeld ?_ ?_
 rotate_left
 ·
  rintro w' ⟨s0, s1, s2, s3⟩
  go_simp
  with_reducible rfl
 rotate_left
 ·
  simp only [Act.put, List.setIfInBounds_toArray, List.set_cons_zero, List.set_cons_succ, i64_w, i32_w]
  rfl
 refine take_ (i := 2) (N := some 20) (v := ?_) (a' := ?_) #[true, false, true, false, false, false] rfl rfl (by kernel_rfl) (fun _ _ _ h => h) (Or.inl ⟨by rfl, ?_⟩) hHeld ?_ ?_
 rotate_left
 ·
  rintro w' ⟨s0, s1, s2, s3⟩
  go_simp
  with_reducible rfl
 rotate_left
 ·
  simp only [Act.put, List.setIfInBounds_toArray, List.set_cons_zero, List.set_cons_succ, i64_w, i32_w]
  rfl
 refine one_ (i := 1) (N := some 19) #[true, true, true, false, false, false] rfl rfl (by kernel_rfl) (by decide) (fun K hK => ?_)
 refine goes_ Try.func35 (by kernel_rfl) rfl #[.agg #[.int .i64 a1_0, .int .i64 a1_1]] (by rfl) rfl rfl (mapq rfl) ?_
 with_reducible refine (avermentref10_Fix.calls a1_0 a1_1 t338 t339 _ A4.out).mono ?_
 rintro e w13 ⟨rfl, hb⟩
 refine ⟨_, rfl, ?_⟩
 replace BK336 := bb BK336 hb rfl; replace BK337 := bb BK337 hb rfl; replace HB := hst HB hb rfl
 (try clear hb)
 refine hK.out _ _ ⟨bc BK336 0 rfl, bc BK336 1 rfl, bc BK337 0 rfl, bc BK337 1 rfl⟩ (fun hHeld => ?_)
 clear hK K
 refine norm_ (a' := ?_) ?_ ?_
 rotate_left; · (show Act.put _ (some 19) _ = _; simp only [Act.put, List.setIfInBounds_toArray, List.set_cons_zero, List.set_cons_succ, i64_w, i32_w]; rfl)
 refine one_ (i := 3) (N := some 21) #[true, true, true, true, false, false] rfl rfl (by kernel_rfl) (by decide) (fun K hK => ?_)
 refine goes_ Try.func35 (by kernel_rfl) rfl #[.agg #[.int .i64 a2_0, .int .i64 a2_1]] (by rfl) rfl rfl (mapq rfl) ?_
 with_reducible refine (avermentref10_Fix.calls a2_0 a2_1 t340 t341 _ A5.out).mono ?_
 rintro e w14 ⟨rfl, hb⟩
 refine ⟨_, rfl, ?_⟩
 replace BK336 := bb BK336 hb rfl; replace BK337 := bb BK337 hb rfl; replace HB := hst HB hb rfl
 (try clear hb)
 refine hK.out _ _ ⟨bc BK336 0 rfl, bc BK336 1 rfl, bc BK337 0 rfl, bc BK337 1 rfl⟩ (fun hHeld => ?_)
 clear hK K
 refine norm_ (a' := ?_) ?_ ?_
 rotate_left; · (show Act.put _ (some 21) _ = _; simp only [Act.put, List.setIfInBounds_toArray, List.set_cons_zero, List.set_cons_succ, i64_w, i32_w]; rfl)
 refine last_ (i := 4) (N := none) #[true, true, true, true, true, false] rfl rfl (by kernel_rfl) (by decide) (fun K hK => ?_)
 have hs15 : w14.cell? ⟨gb336, 0, none⟩ = some (.int .i64 a1_0) := bc BK336 0 rfl
 have hfs15 := blk_frozen BK336.out 0
 have hns15_1 := NB337_336.out
 have hms15_1 := NB336_337.out
 have hs16 : w14.cell? ⟨gb336, 1, none⟩ = some (.int .i64 a1_1) := bc BK336 1 rfl
 have hfs16 := blk_frozen BK336.out 1
 have hns16_1 := NB337_336.out
 have hms16_1 := NB336_337.out
 refine skip_ (w1 := ?_) (by rfl) rfl ?_ ?_
 rotate_left
 ·
  go_simp
  rfl
 refine hK.out _ _ ?_
 clear hK K
 refine last_ (i := 5) (N := none) #[true, true, true, true, true, true] rfl rfl (by kernel_rfl) (by decide) (fun K hK => ?_)
 have hs17 : w14.cell? ⟨gb337, 0, none⟩ = some (.int .i64 a2_0) := bc BK337 0 rfl
 have hfs17 := blk_frozen BK337.out 0
 have hns17_0 := NB336_337.out
 have hms17_0 := NB337_336.out
 have hs18 : w14.cell? ⟨gb337, 1, none⟩ = some (.int .i64 a2_1) := bc BK337 1 rfl
 have hfs18 := blk_frozen BK337.out 1
 have hns18_0 := NB336_337.out
 have hms18_0 := NB337_336.out
 refine skip_ (w1 := ?_) (by rfl) rfl ?_ ?_
 rotate_left
 ·
  go_simp
  rfl
 refine hK.out _ _ ?_
 clear hK K
 refine done_ (by kernel_rfl) ?_
 try go_wp2
 have n0_ : Aside0 (((((w14.setCell ⟨gb336, 0, none⟩ (.int .i64 t338)).setCell ⟨gb336, 1, none⟩ (.int .i64 t339)).setCell ⟨gb337, 0, none⟩ (.int .i64 t340)).setCell ⟨gb337, 1, none⟩ (.int .i64 t341)).heap[gb336]? = some (.cells #[.int .i64 t338, .int .i64 t339] 56 (0, 0))) := ⟨by (with_reducible repeat (first | refine blk_drewN ?_ _ | refine blk_drew ?_ | refine blk_alloc ?_ _)); refine blk_far ?_ NB336_337.out _; (with_reducible repeat (first | refine blk_drewN ?_ _ | refine blk_drew ?_ | refine blk_alloc ?_ _)); refine blk_far ?_ NB336_337.out _; (with_reducible repeat (first | refine blk_drewN ?_ _ | refine blk_drew ?_ | refine blk_alloc ?_ _)); refine blk_put (cs := #[.int .i64 t338, .int .i64 a1_1]) ?_ 1 _ rfl; (with_reducible repeat (first | refine blk_drewN ?_ _ | refine blk_drew ?_ | refine blk_alloc ?_ _)); refine blk_put (cs := #[.int .i64 a1_0, .int .i64 a1_1]) ?_ 0 _ rfl; (with_reducible repeat (first | refine blk_drewN ?_ _ | refine blk_drew ?_ | refine blk_alloc ?_ _)); exact BK336.out⟩
 have n1_ : Aside0 (((((w14.setCell ⟨gb336, 0, none⟩ (.int .i64 t338)).setCell ⟨gb336, 1, none⟩ (.int .i64 t339)).setCell ⟨gb337, 0, none⟩ (.int .i64 t340)).setCell ⟨gb337, 1, none⟩ (.int .i64 t341)).heap[gb337]? = some (.cells #[.int .i64 t340, .int .i64 t341] 56 (0, 0))) := ⟨by (with_reducible repeat (first | refine blk_drewN ?_ _ | refine blk_drew ?_ | refine blk_alloc ?_ _)); refine blk_put (cs := #[.int .i64 t340, .int .i64 a2_1]) ?_ 1 _ rfl; (with_reducible repeat (first | refine blk_drewN ?_ _ | refine blk_drew ?_ | refine blk_alloc ?_ _)); refine blk_put (cs := #[.int .i64 a2_0, .int .i64 a2_1]) ?_ 0 _ rfl; (with_reducible repeat (first | refine blk_drewN ?_ _ | refine blk_drew ?_ | refine blk_alloc ?_ _)); refine blk_far ?_ NB337_336.out _; (with_reducible repeat (first | refine blk_drewN ?_ _ | refine blk_drew ?_ | refine blk_alloc ?_ _)); refine blk_far ?_ NB337_336.out _; (with_reducible repeat (first | refine blk_drewN ?_ _ | refine blk_drew ?_ | refine blk_alloc ?_ _)); exact BK337.out⟩
 have n2_ : Aside0 (Below w.heap.size w ((((w14.setCell ⟨gb336, 0, none⟩ (.int .i64 t338)).setCell ⟨gb336, 1, none⟩ (.int .i64 t339)).setCell ⟨gb337, 0, none⟩ (.int .i64 t340)).setCell ⟨gb337, 1, none⟩ (.int .i64 t341))) := ⟨by repeat (first | (with_reducible first | exact HB.out | apply below_alloc | apply pw_below_drewN | apply below_drew1 | refine below_set ?_ GE336.out | refine below_set ?_ GE337.out) | exact HB.out)⟩
 (try clear BK336)
 (try clear BK337)
 (try clear HB)
 generalize ((((w14.setCell ⟨gb336, 0, none⟩ (.int .i64 t338)).setCell ⟨gb336, 1, none⟩ (.int .i64 t339)).setCell ⟨gb337, 0, none⟩ (.int .i64 t340)).setCell ⟨gb337, 1, none⟩ (.int .i64 t341)) = w19 at n0_ n1_ n2_ ⊢
 have BK336 := n0_
 have BK337 := n1_
 have HB := n2_
 clear n0_ n1_ n2_
 replace BK336 := Aside0.mk (blk_drew BK336.out); replace BK337 := Aside0.mk (blk_drew BK337.out); replace HB := Aside0.mk (below_drew1 HB.out)
 refine start_ (n := 12) (S := fun w' => w'.cell? ⟨gb336, 0, none⟩ = some (.int .i64 t338) ∧ w'.cell? ⟨gb336, 1, none⟩ = some (.int .i64 t339) ∧ w'.cell? ⟨gb337, 0, none⟩ = some (.int .i64 t340) ∧ w'.cell? ⟨gb337, 1, none⟩ = some (.int .i64 t341)) (ds := []) #[false, false, false, false, false, false, false, false, false, false, false, false] (by kernel_rfl) rfl rfl ⟨bc BK336 0 rfl, bc BK336 1 rfl, bc BK337 0 rfl, bc BK337 1 rfl⟩ (fun hHeld => ?_); refine with_tabW avermentlaw10_SpanEnds.tab3 avermentlaw10_SpanEnds.bits3 (fun HT_ HW_ => ?_)
 generalize w19.drew = w20 at BK336 BK337 HB hHeld ⊢
 refine pure_ (i := 0) (N := some 28) (v := ?_) (a' := ?_) #[true, false, false, false, false, false, false, false, false, false, false, false] rfl rfl (any_of HT_.out (by kernel_rfl)) (fun _ _ _ h => h) (Or.inl ⟨by rfl, ?_⟩) ?_ ?_
 rotate_left; · (intro w'; go_simp; with_reducible rfl)
 rotate_left; · (simp only [Act.put, List.setIfInBounds_toArray, List.set_cons_zero, List.set_cons_succ, i64_w, i32_w]; rfl)
 refine take_ (i := 1) (N := some 29) (v := ?_) (a' := ?_) #[true, true, false, false, false, false, false, false, false, false, false, false] rfl rfl (take_ofW HT_.out HW_.out (by kernel_rfl)) (fun _ _ _ h => h) (Or.inl ⟨by rfl, ?_⟩) hHeld ?_ ?_
 rotate_left
 ·
  rintro w' ⟨s0, s1, s2, s3⟩
  go_simp
  with_reducible rfl
 rotate_left
 ·
  simp only [Act.put, List.setIfInBounds_toArray, List.set_cons_zero, List.set_cons_succ, i64_w, i32_w]
  rfl
 refine take_ (i := 3) (N := some 31) (v := ?_) (a' := ?_) #[true, true, false, true, false, false, false, false, false, false, false, false] rfl rfl (take_ofW HT_.out HW_.out (by kernel_rfl)) (fun _ _ _ h => h) (Or.inl ⟨by rfl, ?_⟩) hHeld ?_ ?_
 rotate_left
 ·
  rintro w' ⟨s0, s1, s2, s3⟩
  go_simp
  with_reducible rfl
 rotate_left
 ·
  simp only [Act.put, List.setIfInBounds_toArray, List.set_cons_zero, List.set_cons_succ, i64_w, i32_w]
  rfl
 refine join_ (σ := Nat) 2 #[true, true, true, true, true, true, true, true, true, true, false, false] (fun s_ => [(30, .agg #[.int .i64 t342, .int .i64 t343]), (32, .agg #[.int .i64 t344, .int .i64 t345]), (33, .tuple #[.agg #[.int .i64 t346, .int .i64 t347], .bool t348]), (8, .pointer (some ⟨s_, 0, none⟩)), (27, .tuple #[.agg #[.int .i64 t346, .int .i64 t347], .bool t348]), (34, .agg #[.int .i64 t346, .int .i64 t347]), (35, .bool t348)]) (fun s_ w' => (w'.cell? ⟨gb336, 0, none⟩ = some (.int .i64 t338) ∧ w'.cell? ⟨gb336, 1, none⟩ = some (.int .i64 t339) ∧ w'.cell? ⟨gb337, 0, none⟩ = some (.int .i64 t340) ∧ w'.cell? ⟨gb337, 1, none⟩ = some (.int .i64 t341)) ∧ (w'.heap[gb336]? = some (.cells #[.int .i64 t338, .int .i64 t339] 56 (0, 0))) ∧ (w'.heap[gb337]? = some (.cells #[.int .i64 t340, .int .i64 t341] 56 (0, 0))) ∧ (w'.heap[s_]? = some (.cells #[.int .i64 0, .int .i64 0] 59 (0, 0))) ∧ (w.heap.size ≤ s_) ∧ (w.heap.size ≤ s_) ∧ (gb336 ≠ s_) ∧ (s_ ≠ gb336) ∧ (gb337 ≠ s_) ∧ (s_ ≠ gb337) ∧ (Below w.heap.size w w')) ?_ ?_
 rotate_left
 ·
  intro hCont
  refine two_ (i := 2) (j := 9) (Ni := some 30) (Nj := some 8) #[true, true, true, true, false, false, false, false, false, false, false, false] #[true, true, false, true, false, false, false, false, false, true, false, false] rfl rfl rfl rfl (two_of HT_.out (by kernel_rfl)) (by decide) (by decide) (fun K hK => ?_) (fun K hK => ?_)
  ·
   skip
   refine goes_ Try.func37 (by kernel_rfl) rfl #[.agg #[.int .i64 t338, .int .i64 t339]] (by rfl) rfl rfl (mapq rfl) ?_
   with_reducible refine (avermentlaw10_To.calls t338 t339 t342 t343 _ A6.out).mono ?_
   rintro e w21 ⟨rfl, hb⟩
   refine ⟨_, rfl, ?_⟩
   replace BK336 := bb BK336 hb rfl; replace BK337 := bb BK337 hb rfl; replace HB := hst HB hb rfl
   (try clear hb)
   refine hK.out _ _ ⟨bc BK336 0 rfl, bc BK336 1 rfl, bc BK337 0 rfl, bc BK337 1 rfl⟩ (fun hHeld => ?_)
   clear hK K
   refine norm_ (a' := ?_) ?_ ?_
   rotate_left; · (show Act.put _ (some 30) _ = _; simp only [Act.put, List.setIfInBounds_toArray, List.set_cons_zero, List.set_cons_succ, i64_w, i32_w]; rfl)
   refine two_ (i := 4) (j := 9) (Ni := some 32) (Nj := some 8) #[true, true, true, true, true, false, false, false, false, false, false, false] #[true, true, true, true, false, false, false, false, false, true, false, false] rfl rfl rfl rfl (two_of HT_.out (by kernel_rfl)) (by decide) (by decide) (fun K hK => ?_) (fun K hK => ?_)
   ·
    skip
    refine goes_ Try.func37 (by kernel_rfl) rfl #[.agg #[.int .i64 t340, .int .i64 t341]] (by rfl) rfl rfl (mapq rfl) ?_
    with_reducible refine (avermentlaw10_To.calls t340 t341 t344 t345 _ A7.out).mono ?_
    rintro e w22 ⟨rfl, hb⟩
    refine ⟨_, rfl, ?_⟩
    replace BK336 := bb BK336 hb rfl; replace BK337 := bb BK337 hb rfl; replace HB := hst HB hb rfl
    (try clear hb)
    refine hK.out _ _ ⟨bc BK336 0 rfl, bc BK336 1 rfl, bc BK337 0 rfl, bc BK337 1 rfl⟩ (fun hHeld => ?_)
    clear hK K
    refine norm_ (a' := ?_) ?_ ?_
    rotate_left; · (show Act.put _ (some 32) _ = _; simp only [Act.put, List.setIfInBounds_toArray, List.set_cons_zero, List.set_cons_succ, i64_w, i32_w]; rfl)
    refine two_ (i := 5) (j := 9) (Ni := some 33) (Nj := some 8) #[true, true, true, true, true, true, false, false, false, false, false, false] #[true, true, true, true, true, false, false, false, false, true, false, false] rfl rfl rfl rfl (two_of HT_.out (by kernel_rfl)) (by decide) (by decide) (fun K hK => ?_) (fun K hK => ?_)
    ·
     skip
     refine goes_ Try.func36 (by kernel_rfl) rfl #[.int .i64 (wrap64 (4 + (wrap64 (Int.tmod (IntKind.u64.wrap (a0)) 4)))), .agg #[.int .i64 t342, .int .i64 t343], .agg #[.int .i64 t344, .int .i64 t345]] (by rfl) rfl rfl (mapq rfl) ?_
     with_reducible refine (span_Two.calls k (wrap64 (4 + (wrap64 (Int.tmod (IntKind.u64.wrap (a0)) 4)))) t342 t343 t344 t345 t346 t347 t348 _ A8.out).mono ?_
     rintro e w23 ⟨rfl, hb⟩
     refine ⟨_, rfl, ?_⟩
     replace BK336 := bb BK336 hb rfl; replace BK337 := bb BK337 hb rfl; replace HB := hst HB hb rfl
     (try clear hb)
     refine hK.out _ _ ⟨bc BK336 0 rfl, bc BK336 1 rfl, bc BK337 0 rfl, bc BK337 1 rfl⟩ (fun hHeld => ?_)
     clear hK K
     refine norm_ (a' := ?_) ?_ ?_
     rotate_left; · (show Act.put _ (some 33) _ = _; simp only [Act.put, List.setIfInBounds_toArray, List.set_cons_zero, List.set_cons_succ, i64_w, i32_w]; rfl)
     refine pure_ (i := 6) (N := some 27) (v := ?_) (a' := ?_) #[true, true, true, true, true, true, true, false, false, false, false, false] rfl rfl (any_of HT_.out (by kernel_rfl)) (fun _ _ _ h => h) (Or.inl ⟨by rfl, ?_⟩) ?_ ?_
     rotate_left; · (intro w'; go_simp; with_reducible rfl)
     rotate_left; · (simp only [Act.put, List.setIfInBounds_toArray, List.set_cons_zero, List.set_cons_succ, i64_w, i32_w]; rfl)
     refine pure_ (i := 7) (N := some 34) (v := ?_) (a' := ?_) #[true, true, true, true, true, true, true, true, false, false, false, false] rfl rfl (any_of HT_.out (by kernel_rfl)) (fun _ _ _ h => h) (Or.inl ⟨by rfl, ?_⟩) ?_ ?_
     rotate_left; · (intro w'; go_simp; with_reducible rfl)
     rotate_left; · (simp only [Act.put, List.setIfInBounds_toArray, List.set_cons_zero, List.set_cons_succ, i64_w, i32_w]; rfl)
     refine pure_ (i := 8) (N := some 35) (v := ?_) (a' := ?_) #[true, true, true, true, true, true, true, true, true, false, false, false] rfl rfl (any_of HT_.out (by kernel_rfl)) (fun _ _ _ h => h) (Or.inl ⟨by rfl, ?_⟩) ?_ ?_
     rotate_left; · (intro w'; go_simp; with_reducible rfl)
     rotate_left; · (simp only [Act.put, List.setIfInBounds_toArray, List.set_cons_zero, List.set_cons_succ, i64_w, i32_w]; rfl)
     refine one_ (i := 9) (N := some 8) #[true, true, true, true, true, true, true, true, true, true, false, false] rfl rfl (one_of HT_.out (by kernel_rfl)) (by decide) (fun K hK => ?_)
     refine box_step ?hg (N := 8) ?hd (cs := #[.int .i64 0, .int .i64 0]) (t := 59) ?hr ?_; (case hd => rfl); (case hg => rfl); (case hr => first | (go_simp; done) | (go_simp; rfl))
     intro gb349 hg w24 hbox hb
     have BK349 := Aside0.mk (hbox)
     have GW349 := geb hg HB rfl
     have GE349 := geb hg HB rfl
     have NB336_349 := nbl hg BK336 rfl
     have NB349_336 := nbr hg BK336 rfl
     have NB337_349 := nbl hg BK337 rfl
     have NB349_337 := nbr hg BK337 rfl
     replace BK336 := bb BK336 hb rfl; replace BK337 := bb BK337 hb rfl; replace HB := hst HB hb rfl
     clear hb hbox hg
     refine hK.out _ _ ⟨bc BK336 0 rfl, bc BK336 1 rfl, bc BK337 0 rfl, bc BK337 1 rfl⟩ (fun hHeld => ?_)
     clear hK K
     refine norm_ (a' := ?_) ?_ ?_
     rotate_left; · (show Act.put _ (some 8) _ = _; simp only [Act.put, List.setIfInBounds_toArray, List.set_cons_zero, List.set_cons_succ, i64_w, i32_w]; rfl)
     exact norm_ (by simp only [putAll, Act.put, List.setIfInBounds_toArray, List.set_cons_zero, List.set_cons_succ]) (hCont (gb349) _ ⟨hHeld, BK336.out, BK337.out, BK349.out, GW349.out, GE349.out, NB336_349.out, NB349_336.out, NB337_349.out, NB349_337.out, (by repeat (first | (with_reducible first | exact HB.out | apply below_alloc | apply pw_below_drewN | apply below_drew1 | refine below_set ?_ GE336.out | refine below_set ?_ GE337.out | refine below_set ?_ GE349.out) | exact HB.out))⟩)
    ·
     skip
     refine box_step ?hg (N := 8) ?hd (cs := #[.int .i64 0, .int .i64 0]) (t := 59) ?hr ?_; (case hd => rfl); (case hg => rfl); (case hr => first | (go_simp; done) | (go_simp; rfl))
     intro gb349 hg w23 hbox hb
     have BK349 := Aside0.mk (hbox)
     have GW349 := geb hg HB rfl
     have GE349 := geb hg HB rfl
     have NB336_349 := nbl hg BK336 rfl
     have NB349_336 := nbr hg BK336 rfl
     have NB337_349 := nbl hg BK337 rfl
     have NB349_337 := nbr hg BK337 rfl
     replace BK336 := bb BK336 hb rfl; replace BK337 := bb BK337 hb rfl; replace HB := hst HB hb rfl
     clear hb hbox hg
     refine hK.out _ _ ⟨bc BK336 0 rfl, bc BK336 1 rfl, bc BK337 0 rfl, bc BK337 1 rfl⟩ (fun hHeld => ?_)
     clear hK K
     refine norm_ (a' := ?_) ?_ ?_
     rotate_left; · (show Act.put _ (some 8) _ = _; simp only [Act.put, List.setIfInBounds_toArray, List.set_cons_zero, List.set_cons_succ, i64_w, i32_w]; rfl)
     refine one_ (i := 5) (N := some 33) #[true, true, true, true, true, true, false, false, false, true, false, false] rfl rfl (one_of HT_.out (by kernel_rfl)) (by decide) (fun K hK => ?_)
     refine goes_ Try.func36 (by kernel_rfl) rfl #[.int .i64 (wrap64 (4 + (wrap64 (Int.tmod (IntKind.u64.wrap (a0)) 4)))), .agg #[.int .i64 t342, .int .i64 t343], .agg #[.int .i64 t344, .int .i64 t345]] (by rfl) rfl rfl (mapq rfl) ?_
     with_reducible refine (span_Two.calls k (wrap64 (4 + (wrap64 (Int.tmod (IntKind.u64.wrap (a0)) 4)))) t342 t343 t344 t345 t346 t347 t348 _ A8.out).mono ?_
     rintro e w24 ⟨rfl, hb⟩
     refine ⟨_, rfl, ?_⟩
     replace BK336 := bb BK336 hb rfl; replace BK337 := bb BK337 hb rfl; replace BK349 := bb BK349 hb rfl; replace HB := hst HB hb rfl
     (try clear hb)
     refine hK.out _ _ ⟨bc BK336 0 rfl, bc BK336 1 rfl, bc BK337 0 rfl, bc BK337 1 rfl⟩ (fun hHeld => ?_)
     clear hK K
     refine norm_ (a' := ?_) ?_ ?_
     rotate_left; · (show Act.put _ (some 33) _ = _; simp only [Act.put, List.setIfInBounds_toArray, List.set_cons_zero, List.set_cons_succ, i64_w, i32_w]; rfl)
     refine pure_ (i := 6) (N := some 27) (v := ?_) (a' := ?_) #[true, true, true, true, true, true, true, false, false, true, false, false] rfl rfl (any_of HT_.out (by kernel_rfl)) (fun _ _ _ h => h) (Or.inl ⟨by rfl, ?_⟩) ?_ ?_
     rotate_left; · (intro w'; go_simp; with_reducible rfl)
     rotate_left; · (simp only [Act.put, List.setIfInBounds_toArray, List.set_cons_zero, List.set_cons_succ, i64_w, i32_w]; rfl)
     refine pure_ (i := 7) (N := some 34) (v := ?_) (a' := ?_) #[true, true, true, true, true, true, true, true, false, true, false, false] rfl rfl (any_of HT_.out (by kernel_rfl)) (fun _ _ _ h => h) (Or.inl ⟨by rfl, ?_⟩) ?_ ?_
     rotate_left; · (intro w'; go_simp; with_reducible rfl)
     rotate_left; · (simp only [Act.put, List.setIfInBounds_toArray, List.set_cons_zero, List.set_cons_succ, i64_w, i32_w]; rfl)
     refine pure_ (i := 8) (N := some 35) (v := ?_) (a' := ?_) #[true, true, true, true, true, true, true, true, true, true, false, false] rfl rfl (any_of HT_.out (by kernel_rfl)) (fun _ _ _ h => h) (Or.inl ⟨by rfl, ?_⟩) ?_ ?_
     rotate_left; · (intro w'; go_simp; with_reducible rfl)
     rotate_left; · (simp only [Act.put, List.setIfInBounds_toArray, List.set_cons_zero, List.set_cons_succ, i64_w, i32_w]; rfl)
     exact norm_ (by simp only [putAll, Act.put, List.setIfInBounds_toArray, List.set_cons_zero, List.set_cons_succ]) (hCont (gb349) _ ⟨hHeld, BK336.out, BK337.out, BK349.out, GW349.out, GE349.out, NB336_349.out, NB349_336.out, NB337_349.out, NB349_337.out, (by repeat (first | (with_reducible first | exact HB.out | apply below_alloc | apply pw_below_drewN | apply below_drew1 | refine below_set ?_ GE336.out | refine below_set ?_ GE337.out | refine below_set ?_ GE349.out) | exact HB.out))⟩)
   ·
    skip
    refine box_step ?hg (N := 8) ?hd (cs := #[.int .i64 0, .int .i64 0]) (t := 59) ?hr ?_; (case hd => rfl); (case hg => rfl); (case hr => first | (go_simp; done) | (go_simp; rfl))
    intro gb349 hg w22 hbox hb
    have BK349 := Aside0.mk (hbox)
    have GW349 := geb hg HB rfl
    have GE349 := geb hg HB rfl
    have NB336_349 := nbl hg BK336 rfl
    have NB349_336 := nbr hg BK336 rfl
    have NB337_349 := nbl hg BK337 rfl
    have NB349_337 := nbr hg BK337 rfl
    replace BK336 := bb BK336 hb rfl; replace BK337 := bb BK337 hb rfl; replace HB := hst HB hb rfl
    clear hb hbox hg
    refine hK.out _ _ ⟨bc BK336 0 rfl, bc BK336 1 rfl, bc BK337 0 rfl, bc BK337 1 rfl⟩ (fun hHeld => ?_)
    clear hK K
    refine norm_ (a' := ?_) ?_ ?_
    rotate_left; · (show Act.put _ (some 8) _ = _; simp only [Act.put, List.setIfInBounds_toArray, List.set_cons_zero, List.set_cons_succ, i64_w, i32_w]; rfl)
    refine one_ (i := 4) (N := some 32) #[true, true, true, true, true, false, false, false, false, true, false, false] rfl rfl (one_of HT_.out (by kernel_rfl)) (by decide) (fun K hK => ?_)
    refine goes_ Try.func37 (by kernel_rfl) rfl #[.agg #[.int .i64 t340, .int .i64 t341]] (by rfl) rfl rfl (mapq rfl) ?_
    with_reducible refine (avermentlaw10_To.calls t340 t341 t344 t345 _ A7.out).mono ?_
    rintro e w23 ⟨rfl, hb⟩
    refine ⟨_, rfl, ?_⟩
    replace BK336 := bb BK336 hb rfl; replace BK337 := bb BK337 hb rfl; replace BK349 := bb BK349 hb rfl; replace HB := hst HB hb rfl
    (try clear hb)
    refine hK.out _ _ ⟨bc BK336 0 rfl, bc BK336 1 rfl, bc BK337 0 rfl, bc BK337 1 rfl⟩ (fun hHeld => ?_)
    clear hK K
    refine norm_ (a' := ?_) ?_ ?_
    rotate_left; · (show Act.put _ (some 32) _ = _; simp only [Act.put, List.setIfInBounds_toArray, List.set_cons_zero, List.set_cons_succ, i64_w, i32_w]; rfl)
    refine one_ (i := 5) (N := some 33) #[true, true, true, true, true, true, false, false, false, true, false, false] rfl rfl (one_of HT_.out (by kernel_rfl)) (by decide) (fun K hK => ?_)
    refine goes_ Try.func36 (by kernel_rfl) rfl #[.int .i64 (wrap64 (4 + (wrap64 (Int.tmod (IntKind.u64.wrap (a0)) 4)))), .agg #[.int .i64 t342, .int .i64 t343], .agg #[.int .i64 t344, .int .i64 t345]] (by rfl) rfl rfl (mapq rfl) ?_
    with_reducible refine (span_Two.calls k (wrap64 (4 + (wrap64 (Int.tmod (IntKind.u64.wrap (a0)) 4)))) t342 t343 t344 t345 t346 t347 t348 _ A8.out).mono ?_
    rintro e w24 ⟨rfl, hb⟩
    refine ⟨_, rfl, ?_⟩
    replace BK336 := bb BK336 hb rfl; replace BK337 := bb BK337 hb rfl; replace BK349 := bb BK349 hb rfl; replace HB := hst HB hb rfl
    (try clear hb)
    refine hK.out _ _ ⟨bc BK336 0 rfl, bc BK336 1 rfl, bc BK337 0 rfl, bc BK337 1 rfl⟩ (fun hHeld => ?_)
    clear hK K
    refine norm_ (a' := ?_) ?_ ?_
    rotate_left; · (show Act.put _ (some 33) _ = _; simp only [Act.put, List.setIfInBounds_toArray, List.set_cons_zero, List.set_cons_succ, i64_w, i32_w]; rfl)
    refine pure_ (i := 6) (N := some 27) (v := ?_) (a' := ?_) #[true, true, true, true, true, true, true, false, false, true, false, false] rfl rfl (any_of HT_.out (by kernel_rfl)) (fun _ _ _ h => h) (Or.inl ⟨by rfl, ?_⟩) ?_ ?_
    rotate_left; · (intro w'; go_simp; with_reducible rfl)
    rotate_left; · (simp only [Act.put, List.setIfInBounds_toArray, List.set_cons_zero, List.set_cons_succ, i64_w, i32_w]; rfl)
    refine pure_ (i := 7) (N := some 34) (v := ?_) (a' := ?_) #[true, true, true, true, true, true, true, true, false, true, false, false] rfl rfl (any_of HT_.out (by kernel_rfl)) (fun _ _ _ h => h) (Or.inl ⟨by rfl, ?_⟩) ?_ ?_
    rotate_left; · (intro w'; go_simp; with_reducible rfl)
    rotate_left; · (simp only [Act.put, List.setIfInBounds_toArray, List.set_cons_zero, List.set_cons_succ, i64_w, i32_w]; rfl)
    refine pure_ (i := 8) (N := some 35) (v := ?_) (a' := ?_) #[true, true, true, true, true, true, true, true, true, true, false, false] rfl rfl (any_of HT_.out (by kernel_rfl)) (fun _ _ _ h => h) (Or.inl ⟨by rfl, ?_⟩) ?_ ?_
    rotate_left; · (intro w'; go_simp; with_reducible rfl)
    rotate_left; · (simp only [Act.put, List.setIfInBounds_toArray, List.set_cons_zero, List.set_cons_succ, i64_w, i32_w]; rfl)
    exact norm_ (by simp only [putAll, Act.put, List.setIfInBounds_toArray, List.set_cons_zero, List.set_cons_succ]) (hCont (gb349) _ ⟨hHeld, BK336.out, BK337.out, BK349.out, GW349.out, GE349.out, NB336_349.out, NB349_336.out, NB337_349.out, NB349_337.out, (by repeat (first | (with_reducible first | exact HB.out | apply below_alloc | apply pw_below_drewN | apply below_drew1 | refine below_set ?_ GE336.out | refine below_set ?_ GE337.out | refine below_set ?_ GE349.out) | exact HB.out))⟩)
  ·
   skip
   refine box_step ?hg (N := 8) ?hd (cs := #[.int .i64 0, .int .i64 0]) (t := 59) ?hr ?_; (case hd => rfl); (case hg => rfl); (case hr => first | (go_simp; done) | (go_simp; rfl))
   intro gb349 hg w21 hbox hb
   have BK349 := Aside0.mk (hbox)
   have GW349 := geb hg HB rfl
   have GE349 := geb hg HB rfl
   have NB336_349 := nbl hg BK336 rfl
   have NB349_336 := nbr hg BK336 rfl
   have NB337_349 := nbl hg BK337 rfl
   have NB349_337 := nbr hg BK337 rfl
   replace BK336 := bb BK336 hb rfl; replace BK337 := bb BK337 hb rfl; replace HB := hst HB hb rfl
   clear hb hbox hg
   refine hK.out _ _ ⟨bc BK336 0 rfl, bc BK336 1 rfl, bc BK337 0 rfl, bc BK337 1 rfl⟩ (fun hHeld => ?_)
   clear hK K
   refine norm_ (a' := ?_) ?_ ?_
   rotate_left; · (show Act.put _ (some 8) _ = _; simp only [Act.put, List.setIfInBounds_toArray, List.set_cons_zero, List.set_cons_succ, i64_w, i32_w]; rfl)
   refine one_ (i := 2) (N := some 30) #[true, true, true, true, false, false, false, false, false, true, false, false] rfl rfl (one_of HT_.out (by kernel_rfl)) (by decide) (fun K hK => ?_)
   refine goes_ Try.func37 (by kernel_rfl) rfl #[.agg #[.int .i64 t338, .int .i64 t339]] (by rfl) rfl rfl (mapq rfl) ?_
   with_reducible refine (avermentlaw10_To.calls t338 t339 t342 t343 _ A6.out).mono ?_
   rintro e w22 ⟨rfl, hb⟩
   refine ⟨_, rfl, ?_⟩
   replace BK336 := bb BK336 hb rfl; replace BK337 := bb BK337 hb rfl; replace BK349 := bb BK349 hb rfl; replace HB := hst HB hb rfl
   (try clear hb)
   refine hK.out _ _ ⟨bc BK336 0 rfl, bc BK336 1 rfl, bc BK337 0 rfl, bc BK337 1 rfl⟩ (fun hHeld => ?_)
   clear hK K
   refine norm_ (a' := ?_) ?_ ?_
   rotate_left; · (show Act.put _ (some 30) _ = _; simp only [Act.put, List.setIfInBounds_toArray, List.set_cons_zero, List.set_cons_succ, i64_w, i32_w]; rfl)
   refine one_ (i := 4) (N := some 32) #[true, true, true, true, true, false, false, false, false, true, false, false] rfl rfl (one_of HT_.out (by kernel_rfl)) (by decide) (fun K hK => ?_)
   refine goes_ Try.func37 (by kernel_rfl) rfl #[.agg #[.int .i64 t340, .int .i64 t341]] (by rfl) rfl rfl (mapq rfl) ?_
   with_reducible refine (avermentlaw10_To.calls t340 t341 t344 t345 _ A7.out).mono ?_
   rintro e w23 ⟨rfl, hb⟩
   refine ⟨_, rfl, ?_⟩
   replace BK336 := bb BK336 hb rfl; replace BK337 := bb BK337 hb rfl; replace BK349 := bb BK349 hb rfl; replace HB := hst HB hb rfl
   (try clear hb)
   refine hK.out _ _ ⟨bc BK336 0 rfl, bc BK336 1 rfl, bc BK337 0 rfl, bc BK337 1 rfl⟩ (fun hHeld => ?_)
   clear hK K
   refine norm_ (a' := ?_) ?_ ?_
   rotate_left; · (show Act.put _ (some 32) _ = _; simp only [Act.put, List.setIfInBounds_toArray, List.set_cons_zero, List.set_cons_succ, i64_w, i32_w]; rfl)
   refine one_ (i := 5) (N := some 33) #[true, true, true, true, true, true, false, false, false, true, false, false] rfl rfl (one_of HT_.out (by kernel_rfl)) (by decide) (fun K hK => ?_)
   refine goes_ Try.func36 (by kernel_rfl) rfl #[.int .i64 (wrap64 (4 + (wrap64 (Int.tmod (IntKind.u64.wrap (a0)) 4)))), .agg #[.int .i64 t342, .int .i64 t343], .agg #[.int .i64 t344, .int .i64 t345]] (by rfl) rfl rfl (mapq rfl) ?_
   with_reducible refine (span_Two.calls k (wrap64 (4 + (wrap64 (Int.tmod (IntKind.u64.wrap (a0)) 4)))) t342 t343 t344 t345 t346 t347 t348 _ A8.out).mono ?_
   rintro e w24 ⟨rfl, hb⟩
   refine ⟨_, rfl, ?_⟩
   replace BK336 := bb BK336 hb rfl; replace BK337 := bb BK337 hb rfl; replace BK349 := bb BK349 hb rfl; replace HB := hst HB hb rfl
   (try clear hb)
   refine hK.out _ _ ⟨bc BK336 0 rfl, bc BK336 1 rfl, bc BK337 0 rfl, bc BK337 1 rfl⟩ (fun hHeld => ?_)
   clear hK K
   refine norm_ (a' := ?_) ?_ ?_
   rotate_left; · (show Act.put _ (some 33) _ = _; simp only [Act.put, List.setIfInBounds_toArray, List.set_cons_zero, List.set_cons_succ, i64_w, i32_w]; rfl)
   refine pure_ (i := 6) (N := some 27) (v := ?_) (a' := ?_) #[true, true, true, true, true, true, true, false, false, true, false, false] rfl rfl (any_of HT_.out (by kernel_rfl)) (fun _ _ _ h => h) (Or.inl ⟨by rfl, ?_⟩) ?_ ?_
   rotate_left; · (intro w'; go_simp; with_reducible rfl)
   rotate_left; · (simp only [Act.put, List.setIfInBounds_toArray, List.set_cons_zero, List.set_cons_succ, i64_w, i32_w]; rfl)
   refine pure_ (i := 7) (N := some 34) (v := ?_) (a' := ?_) #[true, true, true, true, true, true, true, true, false, true, false, false] rfl rfl (any_of HT_.out (by kernel_rfl)) (fun _ _ _ h => h) (Or.inl ⟨by rfl, ?_⟩) ?_ ?_
   rotate_left; · (intro w'; go_simp; with_reducible rfl)
   rotate_left; · (simp only [Act.put, List.setIfInBounds_toArray, List.set_cons_zero, List.set_cons_succ, i64_w, i32_w]; rfl)
   refine pure_ (i := 8) (N := some 35) (v := ?_) (a' := ?_) #[true, true, true, true, true, true, true, true, true, true, false, false] rfl rfl (any_of HT_.out (by kernel_rfl)) (fun _ _ _ h => h) (Or.inl ⟨by rfl, ?_⟩) ?_ ?_
   rotate_left; · (intro w'; go_simp; with_reducible rfl)
   rotate_left; · (simp only [Act.put, List.setIfInBounds_toArray, List.set_cons_zero, List.set_cons_succ, i64_w, i32_w]; rfl)
   exact norm_ (by simp only [putAll, Act.put, List.setIfInBounds_toArray, List.set_cons_zero, List.set_cons_succ]) (hCont (gb349) _ ⟨hHeld, BK336.out, BK337.out, BK349.out, GW349.out, GE349.out, NB336_349.out, NB349_336.out, NB337_349.out, NB349_337.out, (by repeat (first | (with_reducible first | exact HB.out | apply below_alloc | apply pw_below_drewN | apply below_drew1 | refine below_set ?_ GE336.out | refine below_set ?_ GE337.out | refine below_set ?_ GE349.out) | exact HB.out))⟩)
 rintro gb349 w25 ⟨hS_, h0_, h1_, h2_, h3_, h4_, h5_, h6_, h7_, h8_, h9_⟩
 have n0_ : Aside0 (w25.heap[gb336]? = some (.cells #[.int .i64 t338, .int .i64 t339] 56 (0, 0))) := ⟨h0_⟩
 have n1_ : Aside0 (w25.heap[gb337]? = some (.cells #[.int .i64 t340, .int .i64 t341] 56 (0, 0))) := ⟨h1_⟩
 have n2_ : Aside0 (w25.heap[gb349]? = some (.cells #[.int .i64 0, .int .i64 0] 59 (0, 0))) := ⟨h2_⟩
 have n3_ : Aside0 (w.heap.size ≤ gb349) := ⟨h3_⟩
 have n4_ : Aside0 (w.heap.size ≤ gb349) := ⟨h4_⟩
 have n5_ : Aside0 (gb336 ≠ gb349) := ⟨h5_⟩
 have n6_ : Aside0 (gb349 ≠ gb336) := ⟨h6_⟩
 have n7_ : Aside0 (gb337 ≠ gb349) := ⟨h7_⟩
 have n8_ : Aside0 (gb349 ≠ gb337) := ⟨h8_⟩
 have n9_ : Aside0 (Below w.heap.size w w25) := ⟨h9_⟩
 clear BK336
 clear BK337
 clear HB
 clear h0_ h1_ h2_ h3_ h4_ h5_ h6_ h7_ h8_ h9_
 have BK336 := n0_
 have BK337 := n1_
 have BK349 := n2_
 have GW349 := n3_
 have GE349 := n4_
 have NB336_349 := n5_
 have NB349_336 := n6_
 have NB337_349 := n7_
 have NB349_337 := n8_
 have HB := n9_
 clear n0_ n1_ n2_ n3_ n4_ n5_ n6_ n7_ n8_ n9_
 have hHeld : w25.cell? ⟨gb336, 0, none⟩ = some (.int .i64 t338) ∧ w25.cell? ⟨gb336, 1, none⟩ = some (.int .i64 t339) ∧ w25.cell? ⟨gb337, 0, none⟩ = some (.int .i64 t340) ∧ w25.cell? ⟨gb337, 1, none⟩ = some (.int .i64 t341) := hS_
 refine norm_ (a' := ?_) ?_ ?_
 rotate_left
 ·
  simp only [putAll, Act.put, List.setIfInBounds_toArray, List.set_cons_zero, List.set_cons_succ]
  rfl
 refine one_ (i := 10) (N := none) #[true, true, true, true, true, true, true, true, true, true, true, false] rfl rfl (one_of HT_.out (by kernel_rfl)) (by decide) (fun K hK => ?_)
 have hs26 : w25.cell? ⟨gb349, 0, none⟩ = some (.int .i64 0) := bc BK349 0 rfl
 have hfs26 := blk_frozen BK349.out 0
 have hns26_0 := NB336_349.out
 have hns26_1 := NB337_349.out
 have hms26_0 := NB349_336.out
 have hms26_1 := NB349_337.out
 have hs27 : w25.cell? ⟨gb349, 1, none⟩ = some (.int .i64 0) := bc BK349 1 rfl
 have hfs27 := blk_frozen BK349.out 1
 have hns27_0 := NB336_349.out
 have hns27_1 := NB337_349.out
 have hms27_0 := NB349_336.out
 have hms27_1 := NB349_337.out
 refine skip_ (w1 := ?_) (by rfl) rfl ?_ ?_
 rotate_left
 ·
  go_simp
  rfl
 refine hK.out _ _ ⟨((cell_far (p := ⟨gb349, _, none⟩) NB336_349.out _).trans (((cell_far (p := ⟨gb349, _, none⟩) NB336_349.out _).trans (hHeld.1)))), ((cell_far (p := ⟨gb349, _, none⟩) NB336_349.out _).trans (((cell_far (p := ⟨gb349, _, none⟩) NB336_349.out _).trans (hHeld.2.1)))), ((cell_far (p := ⟨gb349, _, none⟩) NB337_349.out _).trans (((cell_far (p := ⟨gb349, _, none⟩) NB337_349.out _).trans (hHeld.2.2.1)))), ((cell_far (p := ⟨gb349, _, none⟩) NB337_349.out _).trans (((cell_far (p := ⟨gb349, _, none⟩) NB337_349.out _).trans (hHeld.2.2.2))))⟩ (fun hHeld => ?_)
 clear hK K
 refine pure_ (i := 11) (N := some 9) (v := ?_) (a' := ?_) #[true, true, true, true, true, true, true, true, true, true, true, true] rfl rfl (any_of HT_.out (by kernel_rfl)) (fun _ _ _ h => h) (Or.inl ⟨by rfl, ?_⟩) ?_ ?_
 rotate_left; · (intro w'; go_simp; with_reducible rfl)
 rotate_left; · (simp only [Act.put, List.setIfInBounds_toArray, List.set_cons_zero, List.set_cons_succ, i64_w, i32_w]; rfl)
 refine done_ (done_of HT_.out (by kernel_rfl)) ?_
 go_upto_region 4 with (fail)
 go_cut [47] (fun v47 wc => ∃ (kq : Nat) (x47_8 : Bool), v47 = .bool x47_8 ∧ Aside0 (avermentlaw10_SpanEnds.j0 kq (wrap64 (4 + (wrap64 (Int.tmod (IntKind.u64.wrap (a0)) 4)))) x47_8 t338 t339 t340 t341 t346 t347 = some r) ∧ Aside0 (kq ≤ k) ∧ Aside0 (wc.heap[gb336]? = some (.cells #[.int .i64 t338, .int .i64 t339] 56 (0, 0))) ∧ Aside0 (wc.heap[gb337]? = some (.cells #[.int .i64 t340, .int .i64 t341] 56 (0, 0))) ∧ Aside0 (wc.heap[gb349]? = some (.cells #[.int .i64 t346, .int .i64 t347] 59 (0, 0))) ∧ Aside0 (Below w.heap.size w wc))
 case first =>
  have H := HC9.out
  clear HC9
  replace H := Option.bind_eq_some_iff.mp H
  obtain ⟨t350, A280, H⟩ := H
  (try dsimp only at H)
  have A28 := Aside0.mk A280
  clear A280
  by_cases c29 : t350 = true
  ·
   subst c29
   rw [if_pos rfl] at H
   by_cases c30 : t348 = true
   ·
    subst c30
    rw [if_pos rfl] at H
    replace H := Option.bind_eq_some_iff.mp H
    obtain ⟨⟨t351, t352⟩, A310, H⟩ := H
    (try dsimp only at H)
    have A31 := Aside0.mk A310
    clear A310
    replace H := Option.bind_eq_some_iff.mp H
    obtain ⟨⟨t353, t354⟩, A320, H⟩ := H
    (try dsimp only at H)
    have A32 := Aside0.mk A320
    clear A320
    have H' := Aside0.mk H
    clear H
    go_wp2_with (first | ((with_reducible refine gate_callee (f := 38) rfl ?_); refine goesL_ (some 36) rfl rfl Try.func38 (by kernel_rfl) rfl #[] rfl (mapq rfl) ?_; (with_reducible refine (avermentlaw10_told.calls k  true _ A28.out).mono ?_); rintro e w33 ⟨rfl, hb⟩; refine ⟨_, rfl, ?_⟩; replace BK336 := Aside0.mk (blk_below (g := gb336) (o := .cells #[.int .i64 t338, .int .i64 t339] 56 (0, 0)) (by (with_reducible repeat (first | refine blk_drewN ?_ _ | refine blk_drew ?_ | refine blk_alloc ?_ _)); refine blk_far ?_ NB336_349.out _; (with_reducible repeat (first | refine blk_drewN ?_ _ | refine blk_drew ?_ | refine blk_alloc ?_ _)); refine blk_far ?_ NB336_349.out _; (with_reducible repeat (first | refine blk_drewN ?_ _ | refine blk_drew ?_ | refine blk_alloc ?_ _)); exact BK336.out) hb); replace BK337 := Aside0.mk (blk_below (g := gb337) (o := .cells #[.int .i64 t340, .int .i64 t341] 56 (0, 0)) (by (with_reducible repeat (first | refine blk_drewN ?_ _ | refine blk_drew ?_ | refine blk_alloc ?_ _)); refine blk_far ?_ NB337_349.out _; (with_reducible repeat (first | refine blk_drewN ?_ _ | refine blk_drew ?_ | refine blk_alloc ?_ _)); refine blk_far ?_ NB337_349.out _; (with_reducible repeat (first | refine blk_drewN ?_ _ | refine blk_drew ?_ | refine blk_alloc ?_ _)); exact BK337.out) hb); replace BK349 := Aside0.mk (blk_below (g := gb349) (o := .cells #[.int .i64 t346, .int .i64 t347] 59 (0, 0)) (by (with_reducible repeat (first | refine blk_drewN ?_ _ | refine blk_drew ?_ | refine blk_alloc ?_ _)); refine blk_put (cs := #[.int .i64 t346, .int .i64 0]) ?_ 1 _ rfl; (with_reducible repeat (first | refine blk_drewN ?_ _ | refine blk_drew ?_ | refine blk_alloc ?_ _)); refine blk_put (cs := #[.int .i64 0, .int .i64 0]) ?_ 0 _ rfl; (with_reducible repeat (first | refine blk_drewN ?_ _ | refine blk_drew ?_ | refine blk_alloc ?_ _)); exact BK349.out) hb); replace HB := Aside0.mk (below_step (by repeat (first | (with_reducible first | exact HB.out | apply below_alloc | apply pw_below_drewN | apply below_drew1 | refine below_set ?_ GE336.out | refine below_set ?_ GE337.out | refine below_set ?_ GE349.out) | exact HB.out)) hb); (try clear hb); have hnb34 := NB349_336.out; have hnc34 := NB336_349.out; have hnb35 := NB349_337.out; have hnc35 := NB337_349.out; have hcz36_0 : w33.cell? ⟨gb349, 0, none⟩ = some (.int .i64 t346) := (blk_cell BK349.out 0).trans rfl; have hcz36_1 : w33.cell? ⟨gb349, 1, none⟩ = some (.int .i64 t347) := (blk_cell BK349.out 1).trans rfl; have hfz36_0 := blk_frozen BK349.out 0; have hfz36_1 := blk_frozen BK349.out 1) | (go_at_call 39; (with_reducible refine (avermentlaw10_From.calls t346 t347 t351 t352 _ A31.out).mono ?_); rintro e w37 ⟨rfl, hb⟩; replace BK336 := bb BK336 hb rfl; replace BK337 := bb BK337 hb rfl; replace BK349 := bb BK349 hb rfl; replace HB := hst HB hb rfl; (try clear hb)) | (go_at_call 40; (with_reducible refine (avermentref10_Any.calls  t353 t354 _ A32.out).mono ?_); rintro e w38 ⟨rfl, hb⟩; replace BK336 := bb BK336 hb rfl; replace BK337 := bb BK337 hb rfl; replace BK349 := bb BK349 hb rfl; replace HB := hst HB hb rfl; (try clear hb)))
    go_meet
    case rel => exact ⟨_, ((t351 == t353 && (t352 == t354))), (by first | rfl | (simp; done) | (simp [*]; done)), H', ⟨by first | omega | exact Nat.le_refl _⟩, ⟨by (with_reducible repeat (first | refine blk_drewN ?_ _ | refine blk_drew ?_ | refine blk_alloc ?_ _)); exact BK336.out⟩, ⟨by (with_reducible repeat (first | refine blk_drewN ?_ _ | refine blk_drew ?_ | refine blk_alloc ?_ _)); exact BK337.out⟩, ⟨by (with_reducible repeat (first | refine blk_drewN ?_ _ | refine blk_drew ?_ | refine blk_alloc ?_ _)); exact BK349.out⟩, ⟨by repeat (first | (with_reducible first | exact HB.out | apply below_alloc | apply pw_below_drewN | apply below_drew1 | refine below_set ?_ GE336.out | refine below_set ?_ GE337.out | refine below_set ?_ GE349.out) | exact HB.out)⟩⟩
   ·
    replace c30 := Bool.eq_false_iff.mpr c30
    subst c30
    rw [if_neg (show ¬ (false = true) by decide)] at H
    have H' := Aside0.mk H
    clear H
    go_wp2_with (first | ((with_reducible refine gate_callee (f := 38) rfl ?_); refine goesL_ (some 36) rfl rfl Try.func38 (by kernel_rfl) rfl #[] rfl (mapq rfl) ?_; (with_reducible refine (avermentlaw10_told.calls k  true _ A28.out).mono ?_); rintro e w39 ⟨rfl, hb⟩; refine ⟨_, rfl, ?_⟩; replace BK336 := Aside0.mk (blk_below (g := gb336) (o := .cells #[.int .i64 t338, .int .i64 t339] 56 (0, 0)) (by (with_reducible repeat (first | refine blk_drewN ?_ _ | refine blk_drew ?_ | refine blk_alloc ?_ _)); refine blk_far ?_ NB336_349.out _; (with_reducible repeat (first | refine blk_drewN ?_ _ | refine blk_drew ?_ | refine blk_alloc ?_ _)); refine blk_far ?_ NB336_349.out _; (with_reducible repeat (first | refine blk_drewN ?_ _ | refine blk_drew ?_ | refine blk_alloc ?_ _)); exact BK336.out) hb); replace BK337 := Aside0.mk (blk_below (g := gb337) (o := .cells #[.int .i64 t340, .int .i64 t341] 56 (0, 0)) (by (with_reducible repeat (first | refine blk_drewN ?_ _ | refine blk_drew ?_ | refine blk_alloc ?_ _)); refine blk_far ?_ NB337_349.out _; (with_reducible repeat (first | refine blk_drewN ?_ _ | refine blk_drew ?_ | refine blk_alloc ?_ _)); refine blk_far ?_ NB337_349.out _; (with_reducible repeat (first | refine blk_drewN ?_ _ | refine blk_drew ?_ | refine blk_alloc ?_ _)); exact BK337.out) hb); replace BK349 := Aside0.mk (blk_below (g := gb349) (o := .cells #[.int .i64 t346, .int .i64 t347] 59 (0, 0)) (by (with_reducible repeat (first | refine blk_drewN ?_ _ | refine blk_drew ?_ | refine blk_alloc ?_ _)); refine blk_put (cs := #[.int .i64 t346, .int .i64 0]) ?_ 1 _ rfl; (with_reducible repeat (first | refine blk_drewN ?_ _ | refine blk_drew ?_ | refine blk_alloc ?_ _)); refine blk_put (cs := #[.int .i64 0, .int .i64 0]) ?_ 0 _ rfl; (with_reducible repeat (first | refine blk_drewN ?_ _ | refine blk_drew ?_ | refine blk_alloc ?_ _)); exact BK349.out) hb); replace HB := Aside0.mk (below_step (by repeat (first | (with_reducible first | exact HB.out | apply below_alloc | apply pw_below_drewN | apply below_drew1 | refine below_set ?_ GE336.out | refine below_set ?_ GE337.out | refine below_set ?_ GE349.out) | exact HB.out)) hb); (try clear hb)))
    go_meet
    case rel => exact ⟨_, (true), (by first | rfl | (simp; done) | (simp [*]; done)), H', ⟨by first | omega | exact Nat.le_refl _⟩, ⟨by (with_reducible repeat (first | refine blk_drewN ?_ _ | refine blk_drew ?_ | refine blk_alloc ?_ _)); exact BK336.out⟩, ⟨by (with_reducible repeat (first | refine blk_drewN ?_ _ | refine blk_drew ?_ | refine blk_alloc ?_ _)); exact BK337.out⟩, ⟨by (with_reducible repeat (first | refine blk_drewN ?_ _ | refine blk_drew ?_ | refine blk_alloc ?_ _)); exact BK349.out⟩, ⟨by repeat (first | (with_reducible first | exact HB.out | apply below_alloc | apply pw_below_drewN | apply below_drew1 | refine below_set ?_ GE336.out | refine below_set ?_ GE337.out | refine below_set ?_ GE349.out) | exact HB.out)⟩⟩
  ·
   replace c29 := Bool.eq_false_iff.mpr c29
   subst c29
   rw [if_neg (show ¬ (false = true) by decide)] at H
   have H' := Aside0.mk H
   clear H
   go_wp2_with (first | ((with_reducible refine gate_callee (f := 38) rfl ?_); refine goesL_ (some 36) rfl rfl Try.func38 (by kernel_rfl) rfl #[] rfl (mapq rfl) ?_; (with_reducible refine (avermentlaw10_told.calls k  false _ A28.out).mono ?_); rintro e w40 ⟨rfl, hb⟩; refine ⟨_, rfl, ?_⟩; replace BK336 := Aside0.mk (blk_below (g := gb336) (o := .cells #[.int .i64 t338, .int .i64 t339] 56 (0, 0)) (by (with_reducible repeat (first | refine blk_drewN ?_ _ | refine blk_drew ?_ | refine blk_alloc ?_ _)); refine blk_far ?_ NB336_349.out _; (with_reducible repeat (first | refine blk_drewN ?_ _ | refine blk_drew ?_ | refine blk_alloc ?_ _)); refine blk_far ?_ NB336_349.out _; (with_reducible repeat (first | refine blk_drewN ?_ _ | refine blk_drew ?_ | refine blk_alloc ?_ _)); exact BK336.out) hb); replace BK337 := Aside0.mk (blk_below (g := gb337) (o := .cells #[.int .i64 t340, .int .i64 t341] 56 (0, 0)) (by (with_reducible repeat (first | refine blk_drewN ?_ _ | refine blk_drew ?_ | refine blk_alloc ?_ _)); refine blk_far ?_ NB337_349.out _; (with_reducible repeat (first | refine blk_drewN ?_ _ | refine blk_drew ?_ | refine blk_alloc ?_ _)); refine blk_far ?_ NB337_349.out _; (with_reducible repeat (first | refine blk_drewN ?_ _ | refine blk_drew ?_ | refine blk_alloc ?_ _)); exact BK337.out) hb); replace BK349 := Aside0.mk (blk_below (g := gb349) (o := .cells #[.int .i64 t346, .int .i64 t347] 59 (0, 0)) (by (with_reducible repeat (first | refine blk_drewN ?_ _ | refine blk_drew ?_ | refine blk_alloc ?_ _)); refine blk_put (cs := #[.int .i64 t346, .int .i64 0]) ?_ 1 _ rfl; (with_reducible repeat (first | refine blk_drewN ?_ _ | refine blk_drew ?_ | refine blk_alloc ?_ _)); refine blk_put (cs := #[.int .i64 0, .int .i64 0]) ?_ 0 _ rfl; (with_reducible repeat (first | refine blk_drewN ?_ _ | refine blk_drew ?_ | refine blk_alloc ?_ _)); exact BK349.out) hb); replace HB := Aside0.mk (below_step (by repeat (first | (with_reducible first | exact HB.out | apply below_alloc | apply pw_below_drewN | apply below_drew1 | refine below_set ?_ GE336.out | refine below_set ?_ GE337.out | refine below_set ?_ GE349.out) | exact HB.out)) hb); (try clear hb)))
   go_meet
   case rel => exact ⟨_, (true), (by first | rfl | (simp; done) | (simp [*]; done)), H', ⟨by first | omega | exact Nat.le_refl _⟩, ⟨by (with_reducible repeat (first | refine blk_drewN ?_ _ | refine blk_drew ?_ | refine blk_alloc ?_ _)); exact BK336.out⟩, ⟨by (with_reducible repeat (first | refine blk_drewN ?_ _ | refine blk_drew ?_ | refine blk_alloc ?_ _)); exact BK337.out⟩, ⟨by (with_reducible repeat (first | refine blk_drewN ?_ _ | refine blk_drew ?_ | refine blk_alloc ?_ _)); exact BK349.out⟩, ⟨by repeat (first | (with_reducible first | exact HB.out | apply below_alloc | apply pw_below_drewN | apply below_drew1 | refine below_set ?_ GE336.out | refine below_set ?_ GE337.out | refine below_set ?_ GE349.out) | exact HB.out)⟩⟩
 case rest =>
  clear HC9
  try clear c2
  try clear p2
  try clear c3
  try clear p6
  try clear c29
  try clear c30
  try clear c34
  try clear c35
  try clear c36
  try clear c37
  try clear c38
  try clear hcz36_0
  try clear hcz36_1
  try clear hfz36_0
  try clear hfz36_1
  obtain ⟨kq, x47_8, rfl, HA, HJ8, BK336, BK337, BK349, HB⟩ := hcut
  cases kq with
  | zero => exact absurd HA.out (by simp [avermentlaw10_SpanEnds.j0])
  | succ kj8 =>
   have H := HA.out
   clear HA
   simp only [avermentlaw10_SpanEnds.j0] at H
   by_cases c41 : x47_8 = true
   ·
    subst c41
    rw [if_pos rfl] at H
    replace H := Option.bind_eq_some_iff.mp H
    obtain ⟨t355, A420, H⟩ := H
    (try dsimp only at H)
    have A42 := Aside0.mk A420
    clear A420
    obtain rfl := Option.some.inj H
    go_wp2_with (first | ((with_reducible refine gate_callee (f := 38) rfl ?_); refine goesL_ (some 48) rfl rfl Try.func38 (by kernel_rfl) rfl #[] rfl (mapq rfl) ?_; (with_reducible refine (avermentlaw10_told.calls kj8  t355 _ A42.out).mono ?_); rintro e w43 ⟨rfl, hb⟩; refine ⟨_, rfl, ?_⟩; replace BK336 := bb BK336 hb rfl; replace BK337 := bb BK337 hb rfl; replace BK349 := bb BK349 hb rfl; replace HB := hst HB hb rfl; (try clear hb)))
    go_ret
    exact ⟨by first | rfl | (simp [errW_none, errW_some] <;> rfl) | (simp [*, errW_none, errW_some] <;> rfl), by repeat (first | (with_reducible first | exact HB.out | apply below_alloc | apply pw_below_drewN | apply below_drew1 | refine below_set ?_ GE336.out | refine below_set ?_ GE337.out | refine below_set ?_ GE349.out) | exact HB.out)⟩
   ·
    replace c41 := Bool.eq_false_iff.mpr c41
    subst c41
    rw [if_neg (show ¬ (false = true) by decide)] at H
    obtain ⟨y356, hy356⟩ : ∃ y_ : List Int, y_ = (([t338, t339] : List Int)) := ⟨_, rfl⟩
    replace H : (avermentlaw10_SpanEnds.l0 kj8 (wrap64 (4 + (wrap64 (Int.tmod (IntKind.u64.wrap (a0)) 4)))) y356 (([t340, t341, 1, (-1)] : List Int)) false false 0 t340 t341 t346 t347) = some r := by first | (rw [hy356]; with_reducible exact H) | (have H2_ := (Option.bind_some _ _).symm.trans H; rw [hy356]; with_reducible exact H2_) | (have H2_ := (Option.bind_some _ _).symm.trans H; with_reducible exact H2_) | with_reducible exact H | (rw [hy356]; exact H) | exact H
    have Ny356 := Aside0.mk hy356
    clear hy356
    obtain ⟨y359, hy359⟩ : ∃ y_ : List Int, y_ = (([t340, t341, 1, (-1)] : List Int)) := ⟨_, rfl⟩
    replace H : (avermentlaw10_SpanEnds.l0 kj8 (wrap64 (4 + (wrap64 (Int.tmod (IntKind.u64.wrap (a0)) 4)))) y356 y359 false false 0 t340 t341 t346 t347) = some r := by first | (rw [hy359]; with_reducible exact H) | (have H2_ := (Option.bind_some _ _).symm.trans H; rw [hy359]; with_reducible exact H2_) | (have H2_ := (Option.bind_some _ _).symm.trans H; with_reducible exact H2_) | with_reducible exact H | (rw [hy359]; exact H) | exact H
    have Ny359 := Aside0.mk hy359
    clear hy359
    have H' := Aside0.mk H
    clear H
    have hnb44 := NB336_337.out
    have hnc44 := NB337_336.out
    have hnb45 := NB336_349.out
    have hnc45 := NB349_336.out
    have hcz46_0 : wc.cell? ⟨gb336, 0, none⟩ = some (.int .i64 t338) := bc BK336 0 rfl
    have hcz46_1 : wc.cell? ⟨gb336, 1, none⟩ = some (.int .i64 t339) := bc BK336 1 rfl
    have hfz46_0 := blk_frozen BK336.out 0
    have hfz46_1 := blk_frozen BK336.out 1
    go_wp2_with (first | ((with_reducible refine gate_dst (N := 53) rfl ?_); refine Kd.R_lit (Kd.int .i64) _ 2 ?hg (N := 53) ?hd (xs := ([t338, t339] : List Int)) (inner := [.int .i64 t338, .int .i64 t339]) (ok := fun _ => True) (okp := fun _ => True) ?hr ?hp (fun _ hk => hk) trivial (Below.refl _ _) (Nat.le_refl _) (by simp) ?_; (case hd => rfl); (case hg => rfl); (case hr => first | (go_simp; done) | (go_simp; rfl)); (case hp => exact (Reps.one (show Kd.M (Kd.int .i64) _ _ _ t338 [.int .i64 t338] from rfl) (Reps.one (show Kd.M (Kd.int .i64) _ _ _ t339 [.int .i64 t339] from rfl) (Reps.none _ _)))); intro v357 w47 ho48 hb hg_ hnew_; clear hg_ hnew_; (first | rw [← Ny356.out] at ho48 | (simp only [Int.reduceToNat] at ho48; rw [← Ny356.out] at ho48)); have HO358 := Aside0.mk (Kd.R_lower ho48 (below_size (by repeat (first | (with_reducible first | exact HB.out | apply below_alloc | apply pw_below_drewN | apply below_drew1 | refine below_set ?_ GE336.out | refine below_set ?_ GE337.out | refine below_set ?_ GE349.out) | exact HB.out)))); replace BK336 := bb BK336 hb rfl; replace BK337 := bb BK337 hb rfl; replace BK349 := bb BK349 hb rfl; replace HB := hst HB hb rfl; clear hb ho48; have hnb49 := NB337_349.out; have hnc49 := NB349_337.out; have hcz50_0 : w47.cell? ⟨gb337, 0, none⟩ = some (.int .i64 t340) := (blk_cell BK337.out 0).trans rfl; have hcz50_1 : w47.cell? ⟨gb337, 1, none⟩ = some (.int .i64 t341) := (blk_cell BK337.out 1).trans rfl; have hfz50_0 := blk_frozen BK337.out 0; have hfz50_1 := blk_frozen BK337.out 1) | ((with_reducible refine gate_dst (N := 58) rfl ?_); refine Kd.R_lit (Kd.int .i64) _ 2 ?hg (N := 58) ?hd (xs := ([t340, t341, 1, (-1)] : List Int)) (inner := [.int .i64 t340, .int .i64 t341, .int .i64 1, .int .i64 (-1)]) (ok := fun _ => True) (okp := fun _ => True) ?hr ?hp (fun _ hk => hk) trivial (Below.refl _ _) (Nat.le_refl _) (by simp) ?_; (case hd => rfl); (case hg => rfl); (case hr => first | (go_simp; done) | (go_simp; rfl)); (case hp => exact (Reps.one (show Kd.M (Kd.int .i64) _ _ _ t340 [.int .i64 t340] from rfl) (Reps.one (show Kd.M (Kd.int .i64) _ _ _ t341 [.int .i64 t341] from rfl) (Reps.one (show Kd.M (Kd.int .i64) _ _ _ 1 [.int .i64 1] from rfl) (Reps.one (show Kd.M (Kd.int .i64) _ _ _ (-1) [.int .i64 (-1)] from rfl) (Reps.none _ _)))))); intro v360 w51 ho52 hb hg_ hnew_; clear hg_ hnew_; (first | rw [← Ny359.out] at ho52 | (simp only [Int.reduceToNat] at ho52; rw [← Ny359.out] at ho52)); have HO361 := Aside0.mk (Kd.R_lower (Kd.R_new' ho52 (Kd.R_lt (by (with_reducible repeat (first | apply Kd.R_alloc | apply Kd.R_drewN | apply Kd.R_drew)); exact HO358.out))) (below_size (by repeat (first | (with_reducible first | exact HB.out | apply below_alloc | apply pw_below_drewN | apply below_drew1 | refine below_set ?_ GE336.out | refine below_set ?_ GE337.out | refine below_set ?_ GE349.out) | exact HB.out)))); replace HO358 := Aside0.mk (Kd.R_elder' (by (with_reducible repeat (first | apply Kd.R_alloc | apply Kd.R_drewN | apply Kd.R_drew)); exact HO358.out) (Kd.R_base ho52) hb); replace BK336 := bb BK336 hb rfl; replace BK337 := bb BK337 hb rfl; replace BK349 := bb BK349 hb rfl; replace HB := hst HB hb rfl; clear hb ho52))
    go_loopg [12, 13, 14] kj8 (fun kq v12 v13 v14 w' => ∃ (x12_2 : Bool) (x13_2 : Bool) (x14_2 : Int), v12 = .bool x12_2 ∧ v13 = .bool x13_2 ∧ v14 = .int .i64 x14_2 ∧ Aside0 (avermentlaw10_SpanEnds.l0 kq (wrap64 (4 + (wrap64 (Int.tmod (IntKind.u64.wrap (a0)) 4)))) y356 y359 x12_2 x13_2 x14_2 t340 t341 t346 t347 = some r) ∧ Aside0 (kq ≤ kj8) ∧ Aside0 (Kd.R (Kd.int .i64) 2 w' w.heap.size (fun k_ => some k_ ≠ (v360 : Value).ownBlock) v357 y356) ∧ Aside0 (Kd.R (Kd.int .i64) 2 w' w.heap.size (fun k_ => some k_ ≠ (v357 : Value).ownBlock) v360 y359) ∧ Aside0 (w'.heap[gb336]? = some (.cells #[.int .i64 t338, .int .i64 t339] 56 (0, 0))) ∧ Aside0 (w'.heap[gb337]? = some (.cells #[.int .i64 t340, .int .i64 t341] 56 (0, 0))) ∧ Aside0 (w'.heap[gb349]? = some (.cells #[.int .i64 t346, .int .i64 t347] 59 (0, 0))) ∧ Aside0 (Below w.heap.size w w'))
    case atStart => exact ⟨(false), (false), (0), (by first | rfl | (simp; done) | (simp [*]; done)), (by first | rfl | (simp; done) | (simp [*]; done)), (by first | rfl | (simp; done) | (simp [*]; done)), H', ⟨Nat.le_refl _⟩, ⟨by (with_reducible repeat (first | apply Kd.R_alloc | apply Kd.R_drewN | apply Kd.R_drew)); exact Kd.R_mono HO358.out (fun _ hk => hk.2)⟩, ⟨by (with_reducible repeat (first | apply Kd.R_alloc | apply Kd.R_drewN | apply Kd.R_drew)); exact Kd.R_mono HO361.out (fun _ hk => hk.2)⟩, ⟨by (with_reducible repeat (first | refine blk_drewN ?_ _ | refine blk_drew ?_ | refine blk_alloc ?_ _)); exact BK336.out⟩, ⟨by (with_reducible repeat (first | refine blk_drewN ?_ _ | refine blk_drew ?_ | refine blk_alloc ?_ _)); exact BK337.out⟩, ⟨by (with_reducible repeat (first | refine blk_drewN ?_ _ | refine blk_drew ?_ | refine blk_alloc ?_ _)); exact BK349.out⟩, ⟨by repeat (first | (with_reducible first | exact HB.out | apply below_alloc | apply pw_below_drewN | apply below_drew1 | refine below_set ?_ GE336.out | refine below_set ?_ GE337.out | refine below_set ?_ GE349.out) | exact HB.out)⟩⟩
    case round =>
     clear H'
     try clear c2
     try clear p2
     try clear c3
     try clear c4
     try clear p6
     try clear c29
     try clear c30
     try clear c34
     try clear c35
     try clear c36
     try clear c37
     try clear c38
     try clear c41
     try clear c44
     try clear c45
     try clear c49
     try clear hcz36_0
     try clear hcz36_1
     try clear hcz46_0
     try clear hcz46_1
     try clear hcz50_0
     try clear hcz50_1
     try clear hfz36_0
     try clear hfz36_1
     try clear hfz46_0
     try clear hfz46_1
     try clear hfz50_0
     try clear hfz50_1
     try clear p2
     try clear p6
     obtain ⟨x12_2, x13_2, x14_2, rfl, rfl, rfl, HA, HK2, HO_10, HO_11, BK336, BK337, BK349, HB⟩ := hrel
     cases gk with
     | zero => exact absurd HA.out (by simp [avermentlaw10_SpanEnds.l0])
     | succ k2 =>
      have H := HA.out
      clear HA
      simp only [avermentlaw10_SpanEnds.l0] at H
      by_cases c53 : x14_2 < (y356.length : Int)
      ·
       rw [if_pos c53] at H
       have c53b0 : decide (x14_2 < (y356.length : Int)) = true := decide_eq_true c53
       clear c53
       have H' := Aside0.mk H
       clear H
       obtain ⟨Ao54, co54, eo54⟩ := Kd.R_slice HO_10.out
       subst eo54
       go_wp2
       go_loopg [12, 13, 15] k2 (fun kq v12 v13 v15 w' => ∃ (x12_3 : Bool) (x13_3 : Bool) (x15_3 : Int), v12 = .bool x12_3 ∧ v13 = .bool x13_3 ∧ v15 = .int .i64 x15_3 ∧ Aside0 (avermentlaw10_SpanEnds.l1 kq (wrap64 (4 + (wrap64 (Int.tmod (IntKind.u64.wrap (a0)) 4)))) y356 y359 x12_3 x13_3 x14_2 x15_3 t340 t341 t346 t347 = some r) ∧ Aside0 (kq ≤ k2) ∧ Aside0 (Kd.R (Kd.int .i64) 2 w' w.heap.size (fun k_ => some k_ ≠ (v360 : Value).ownBlock) (.slice Ao54 y356.length co54) y356) ∧ Aside0 (Kd.R (Kd.int .i64) 2 w' w.heap.size (fun k_ => some k_ ≠ ((.slice Ao54 y356.length co54) : Value).ownBlock) v360 y359) ∧ Aside0 (w'.heap[gb336]? = some (.cells #[.int .i64 t338, .int .i64 t339] 56 (0, 0))) ∧ Aside0 (w'.heap[gb337]? = some (.cells #[.int .i64 t340, .int .i64 t341] 56 (0, 0))) ∧ Aside0 (w'.heap[gb349]? = some (.cells #[.int .i64 t346, .int .i64 t347] 59 (0, 0))) ∧ Aside0 (Below w.heap.size w w'))
       case atStart => exact ⟨(x12_2), (x13_2), (0), (by first | rfl | (simp; done) | (simp [*]; done)), (by first | rfl | (simp; done) | (simp [*]; done)), (by first | rfl | (simp; done) | (simp [*]; done)), H', ⟨Nat.le_refl _⟩, ⟨by (with_reducible repeat (first | apply Kd.R_alloc | apply Kd.R_drewN | apply Kd.R_drew)); exact HO_10.out⟩, ⟨by (with_reducible repeat (first | apply Kd.R_alloc | apply Kd.R_drewN | apply Kd.R_drew)); exact HO_11.out⟩, ⟨by (with_reducible repeat (first | refine blk_drewN ?_ _ | refine blk_drew ?_ | refine blk_alloc ?_ _)); exact BK336.out⟩, ⟨by (with_reducible repeat (first | refine blk_drewN ?_ _ | refine blk_drew ?_ | refine blk_alloc ?_ _)); exact BK337.out⟩, ⟨by (with_reducible repeat (first | refine blk_drewN ?_ _ | refine blk_drew ?_ | refine blk_alloc ?_ _)); exact BK349.out⟩, ⟨by repeat (first | (with_reducible first | exact HB.out | apply below_alloc | apply pw_below_drewN | apply below_drew1 | refine below_set ?_ GE336.out | refine below_set ?_ GE337.out | refine below_set ?_ GE349.out) | exact HB.out)⟩⟩
       case round =>
        clear H'
        try clear c2
        try clear p2
        try clear c3
        try clear c4
        try clear c5
        try clear p6
        try clear c29
        try clear c30
        try clear c34
        try clear c35
        try clear c36
        try clear c37
        try clear c38
        try clear c41
        try clear c44
        try clear c45
        try clear c49
        try clear c53
        try clear c53b0
        try clear hcz36_0
        try clear hcz36_1
        try clear hcz46_0
        try clear hcz46_1
        try clear hcz50_0
        try clear hcz50_1
        try clear hfz36_0
        try clear hfz36_1
        try clear hfz46_0
        try clear hfz46_1
        try clear hfz50_0
        try clear hfz50_1
        try clear p2
        try clear p6
        obtain ⟨x12_3, x13_3, x15_3, rfl, rfl, rfl, HA, HK3, HO_10, HO_11, BK336, BK337, BK349, HB⟩ := hrel
        cases gk with
        | zero => exact absurd HA.out (by simp [avermentlaw10_SpanEnds.l1])
        | succ k3 =>
         have H := HA.out
         clear HA
         simp only [avermentlaw10_SpanEnds.l1] at H
         by_cases c55 : x15_3 < (y359.length : Int)
         ·
          rw [if_pos c55] at H
          have c55b0 : decide (x15_3 < (y359.length : Int)) = true := decide_eq_true c55
          clear c55
          by_cases c56 : 0 ≤ x14_2
          ·
           rw [if_pos c56] at H
           have c56b0 : decide (0 ≤ x14_2) = true := decide_eq_true c56
           clear c56
           by_cases c57 : x14_2 < (y356.length : Int)
           ·
            rw [if_pos c57] at H
            have c57b0 : decide (x14_2 < (y356.length : Int)) = true := decide_eq_true c57
            clear c57
            by_cases c58 : 0 ≤ x15_3
            ·
             rw [if_pos c58] at H
             have c58b0 : decide (0 ≤ x15_3) = true := decide_eq_true c58
             clear c58
             replace H := Option.bind_eq_some_iff.mp H
             obtain ⟨⟨t364, t365⟩, A590, H⟩ := H
             (try dsimp only at H)
             have A59 := Aside0.mk A590
             clear A590
             by_cases c60 : t365 = true
             ·
              subst c60
              rw [if_pos rfl] at H
              replace H := Option.bind_eq_some_iff.mp H
              obtain ⟨t367, A610, H⟩ := H
              (try dsimp only at H)
              have A61 := Aside0.mk A610
              clear A610
              by_cases c62 : t367 = true
              ·
               subst c62
               rw [if_pos rfl] at H
               by_cases c63 : x12_3 = true
               ·
                subst c63
                rw [if_pos rfl] at H
                by_cases c64 : x13_3 = true
                ·
                 subst c64
                 rw [if_pos rfl] at H
                 have H' := Aside0.mk H
                 clear H
                 obtain ⟨Ao65, co65, eo65⟩ := Kd.R_slice HO_11.out
                 subst eo65
                 try go_wp2
                 replace HO_10 := Aside0.mk (Kd.R_drew HO_10.out); replace HO_11 := Aside0.mk (Kd.R_drew HO_11.out); replace BK336 := Aside0.mk (blk_drew BK336.out); replace BK337 := Aside0.mk (blk_drew BK337.out); replace BK349 := Aside0.mk (blk_drew BK349.out); replace HB := Aside0.mk (below_drew1 HB.out)
                 have p362 : 0 ≤ (x14_2 : Int) := of_decide_eq_true (by first | (with_reducible assumption) | assumption)
                 have q362 : x14_2 < (y356.length : Int) := of_decide_eq_true (by first | (with_reducible assumption) | assumption)
                 obtain ⟨ad362, e362, hx362_0⟩ := Kd.at_int (Kd.R_reads' HO_10.out).2.2 x14_2 p362 q362
                 cases e362
                 replace p362 := eq_true p362
                 replace q362 := eq_true q362
                 have p363 : 0 ≤ (x15_3 : Int) := of_decide_eq_true (by first | (with_reducible assumption) | assumption)
                 have q363 : x15_3 < (y359.length : Int) := of_decide_eq_true (by first | (with_reducible assumption) | assumption)
                 obtain ⟨ad363, e363, hx363_0⟩ := Kd.at_int (Kd.R_reads' HO_11.out).2.2 x15_3 p363 q363
                 cases e363
                 replace p363 := eq_true p363
                 replace q363 := eq_true q363
                 refine start_ (n := 15) (S := fun w' => w'.cell? (ad362.add (x14_2).toNat) = some (.int .i64 (rd y356 x14_2)) ∧ w'.cell? (ad363.add (x15_3).toNat) = some (.int .i64 (rd y359 x15_3))) (ds := []) #[false, false, false, false, false, false, false, false, false, false, false, false, false, false, false] (by kernel_rfl) rfl rfl ⟨hx362_0, hx363_0⟩ (fun hHeld => ?_); refine with_tabW avermentlaw10_SpanEnds.tab15 avermentlaw10_SpanEnds.bits15 (fun HT_ HW_ => ?_)
                 generalize wr.drew = w66 at HO_10 HO_11 BK336 BK337 BK349 HB hx362_0 hx363_0 hHeld ⊢
                 refine pure_ (i := 0) (N := some 72) (v := ?_) (a' := ?_) #[true, false, false, false, false, false, false, false, false, false, false, false, false, false, false] rfl rfl (any_of HT_.out (by kernel_rfl)) (fun _ _ _ h => h) (Or.inl ⟨by rfl, ?_⟩) ?_ ?_
                 rotate_left; · (intro w'; go_simp; with_reducible rfl)
                 rotate_left; · (simp only [Act.put, List.setIfInBounds_toArray, List.set_cons_zero, List.set_cons_succ, i64_w, i32_w]; rfl)
                 refine pure_ (i := 1) (N := some 73) (v := ?_) (a' := ?_) #[true, true, false, false, false, false, false, false, false, false, false, false, false, false, false] rfl rfl (any_of HT_.out (by kernel_rfl)) (fun _ _ _ h => h) (Or.inl ⟨by rfl, ?_⟩) ?_ ?_
                 rotate_left; · (intro w'; go_simp; with_reducible rfl)
                 rotate_left; · (simp only [Act.put, List.setIfInBounds_toArray, List.set_cons_zero, List.set_cons_succ, i64_w, i32_w]; rfl)
                 refine pure_ (i := 2) (N := some 74) (v := ?_) (a' := ?_) #[true, true, true, false, false, false, false, false, false, false, false, false, false, false, false] rfl rfl (any_of HT_.out (by kernel_rfl)) (fun _ _ _ h => h) (Or.inl ⟨by rfl, ?_⟩) ?_ ?_
                 rotate_left; · (intro w'; go_simp; with_reducible rfl)
                 rotate_left; · (simp only [Act.put, List.setIfInBounds_toArray, List.set_cons_zero, List.set_cons_succ, i64_w, i32_w]; rfl)
                 refine pure_ (i := 3) (N := some 75) (v := ?_) (a' := ?_) #[true, true, true, true, false, false, false, false, false, false, false, false, false, false, false] rfl rfl (any_of HT_.out (by kernel_rfl)) (fun _ _ _ h => h) (Or.inl ⟨by rfl, ?_⟩) ?_ ?_
                 rotate_left; · (intro w'; go_simp; with_reducible rfl)
                 rotate_left; · (simp only [Act.put, List.setIfInBounds_toArray, List.set_cons_zero, List.set_cons_succ, i64_w, i32_w]; rfl)
                 refine pure_ (i := 5) (N := some 77) (v := ?_) (a' := ?_) #[true, true, true, true, false, true, false, false, false, false, false, false, false, false, false] rfl rfl (any_of HT_.out (by kernel_rfl)) (fun _ _ _ h => h) (Or.inl ⟨by rfl, ?_⟩) ?_ ?_
                 rotate_left; · (intro w'; go_simp; with_reducible rfl)
                 rotate_left; · (simp only [Act.put, List.setIfInBounds_toArray, List.set_cons_zero, List.set_cons_succ, i64_w, i32_w]; rfl)
                 refine pure_ (i := 6) (N := some 78) (v := ?_) (a' := ?_) #[true, true, true, true, false, true, true, false, false, false, false, false, false, false, false] rfl rfl (any_of HT_.out (by kernel_rfl)) (fun _ _ _ h => h) (Or.inl ⟨by rfl, ?_⟩) ?_ ?_
                 rotate_left; · (intro w'; go_simp; with_reducible rfl)
                 rotate_left; · (simp only [Act.put, List.setIfInBounds_toArray, List.set_cons_zero, List.set_cons_succ, i64_w, i32_w]; rfl)
                 refine pure_ (i := 7) (N := some 79) (v := ?_) (a' := ?_) #[true, true, true, true, false, true, true, true, false, false, false, false, false, false, false] rfl rfl (any_of HT_.out (by kernel_rfl)) (fun _ _ _ h => h) (Or.inl ⟨by rfl, ?_⟩) ?_ ?_
                 rotate_left; · (intro w'; go_simp; with_reducible rfl)
                 rotate_left; · (simp only [Act.put, List.setIfInBounds_toArray, List.set_cons_zero, List.set_cons_succ, i64_w, i32_w]; rfl)
                 refine take_ (i := 4) (N := some 76) (v := ?_) (a' := ?_) #[true, true, true, true, true, true, true, true, false, false, false, false, false, false, false] rfl rfl (take_ofW HT_.out HW_.out (by kernel_rfl)) (fun _ _ _ h => h) (Or.inl ⟨by rfl, ?_⟩) hHeld ?_ ?_
                 rotate_left
                 ·
                  rintro w' ⟨s0, s1⟩
                  go_simp
                  with_reducible rfl
                 rotate_left
                 ·
                  simp only [Act.put, List.setIfInBounds_toArray, List.set_cons_zero, List.set_cons_succ, i64_w, i32_w]
                  rfl
                 refine take_ (i := 8) (N := some 80) (v := ?_) (a' := ?_) #[true, true, true, true, true, true, true, true, true, false, false, false, false, false, false] rfl rfl (take_ofW HT_.out HW_.out (by kernel_rfl)) (fun _ _ _ h => h) (Or.inl ⟨by rfl, ?_⟩) hHeld ?_ ?_
                 rotate_left
                 ·
                  rintro w' ⟨s0, s1⟩
                  go_simp
                  with_reducible rfl
                 rotate_left
                 ·
                  simp only [Act.put, List.setIfInBounds_toArray, List.set_cons_zero, List.set_cons_succ, i64_w, i32_w]
                  rfl
                 refine one_ (i := 9) (N := some 81) #[true, true, true, true, true, true, true, true, true, true, false, false, false, false, false] rfl rfl (one_of HT_.out (by kernel_rfl)) (by decide) (fun K hK => ?_)
                 refine goes_ Try.func34 (by kernel_rfl) rfl #[.int .i64 (wrap64 (4 + (wrap64 (Int.tmod (IntKind.u64.wrap (a0)) 4)))), .int .i64 (rd y356 x14_2), .int .i64 (rd y359 x15_3)] (by rfl) rfl rfl (mapq rfl) ?_
                 with_reducible refine (avermentref07_Arith.calls (wrap64 (4 + (wrap64 (Int.tmod (IntKind.u64.wrap (a0)) 4)))) (rd y356 x14_2) (rd y359 x15_3) t364 true _ A59.out).mono ?_
                 rintro e w' ⟨rfl, ⟨nd, rfl⟩⟩
                 refine ⟨_, rfl, ?_⟩
                 refine hK.out _ _ ⟨hHeld.1, hHeld.2⟩ (fun hHeld => ?_)
                 clear hK K
                 refine norm_ (a' := ?_) ?_ ?_
                 rotate_left; · (show Act.put _ (some 81) _ = _; simp only [Act.put, List.setIfInBounds_toArray, List.set_cons_zero, List.set_cons_succ, i64_w, i32_w]; rfl)
                 refine pure_ (i := 10) (N := some 71) (v := ?_) (a' := ?_) #[true, true, true, true, true, true, true, true, true, true, true, false, false, false, false] rfl rfl (any_of HT_.out (by kernel_rfl)) (fun _ _ _ h => h) (Or.inl ⟨by rfl, ?_⟩) ?_ ?_
                 rotate_left; · (intro w'; go_simp; with_reducible rfl)
                 rotate_left; · (simp only [Act.put, List.setIfInBounds_toArray, List.set_cons_zero, List.set_cons_succ, i64_w, i32_w]; rfl)
                 refine pure_ (i := 11) (N := some 82) (v := ?_) (a' := ?_) #[true, true, true, true, true, true, true, true, true, true, true, true, false, false, false] rfl rfl (any_of HT_.out (by kernel_rfl)) (fun _ _ _ h => h) (Or.inl ⟨by rfl, ?_⟩) ?_ ?_
                 rotate_left; · (intro w'; go_simp; with_reducible rfl)
                 rotate_left; · (simp only [Act.put, List.setIfInBounds_toArray, List.set_cons_zero, List.set_cons_succ, i64_w, i32_w]; rfl)
                 refine pure_ (i := 12) (N := some 83) (v := ?_) (a' := ?_) #[true, true, true, true, true, true, true, true, true, true, true, true, true, false, false] rfl rfl (any_of HT_.out (by kernel_rfl)) (fun _ _ _ h => h) (Or.inl ⟨by rfl, ?_⟩) ?_ ?_
                 rotate_left; · (intro w'; go_simp; with_reducible rfl)
                 rotate_left; · (simp only [Act.put, List.setIfInBounds_toArray, List.set_cons_zero, List.set_cons_succ, i64_w, i32_w]; rfl)
                 refine pure_ (i := 13) (N := some 16) (v := ?_) (a' := ?_) #[true, true, true, true, true, true, true, true, true, true, true, true, true, true, false] rfl rfl (any_of HT_.out (by kernel_rfl)) (fun _ _ _ h => h) (Or.inl ⟨by rfl, ?_⟩) ?_ ?_
                 rotate_left; · (intro w'; go_simp; with_reducible rfl)
                 rotate_left; · (simp only [Act.put, List.setIfInBounds_toArray, List.set_cons_zero, List.set_cons_succ, i64_w, i32_w]; rfl)
                 refine pure_ (i := 14) (N := some 17) (v := ?_) (a' := ?_) #[true, true, true, true, true, true, true, true, true, true, true, true, true, true, true] rfl rfl (any_of HT_.out (by kernel_rfl)) (fun _ _ _ h => h) (Or.inl ⟨by rfl, ?_⟩) ?_ ?_
                 rotate_left; · (intro w'; go_simp; with_reducible rfl)
                 rotate_left; · (simp only [Act.put, List.setIfInBounds_toArray, List.set_cons_zero, List.set_cons_succ, i64_w, i32_w]; rfl)
                 refine done_ (done_of HT_.out (by kernel_rfl)) ?_
                 try go_wp2
                 (try (rw [drewN_self w66]; generalize hq_ : World.drewN w66 _ = w66; have n0_ : Aside0 (Kd.R (Kd.int .i64) 2 w66 w.heap.size (fun k_ => some k_ ≠ (.slice (some ad363) y359.length co65 : Value).ownBlock) (.slice (some ad362) y356.length co54) y356) := ⟨by rw [← hq_]; exact (by (with_reducible repeat (first | apply Kd.R_alloc | apply Kd.R_drewN | apply Kd.R_drew)); exact HO_10.out)⟩; have n1_ : Aside0 (Kd.R (Kd.int .i64) 2 w66 w.heap.size (fun k_ => some k_ ≠ (.slice (some ad362) y356.length co54 : Value).ownBlock) (.slice (some ad363) y359.length co65) y359) := ⟨by rw [← hq_]; exact (by (with_reducible repeat (first | apply Kd.R_alloc | apply Kd.R_drewN | apply Kd.R_drew)); exact HO_11.out)⟩; have n2_ : Aside0 (w66.heap[gb336]? = some (.cells #[.int .i64 t338, .int .i64 t339] 56 (0, 0))) := ⟨by rw [← hq_]; exact BK336.out⟩; have n3_ : Aside0 (w66.heap[gb337]? = some (.cells #[.int .i64 t340, .int .i64 t341] 56 (0, 0))) := ⟨by rw [← hq_]; exact BK337.out⟩; have n4_ : Aside0 (w66.heap[gb349]? = some (.cells #[.int .i64 t346, .int .i64 t347] 59 (0, 0))) := ⟨by rw [← hq_]; exact BK349.out⟩; have n5_ : Aside0 (Below w.heap.size w w66) := ⟨by rw [← hq_]; exact (by repeat (first | (with_reducible first | exact HB.out | apply below_alloc | apply pw_below_drewN | apply below_drew1 | refine below_set ?_ GE336.out | refine below_set ?_ GE337.out | refine below_set ?_ GE349.out) | exact HB.out))⟩; clear HO_10 HO_11 BK336 BK337 BK349 HB hq_; have HO_10 := n0_; have HO_11 := n1_; have BK336 := n2_; have BK337 := n3_; have BK349 := n4_; have HB := n5_; clear n0_ n1_ n2_ n3_ n4_ n5_))
                 replace HO_10 := Aside0.mk (Kd.R_drew HO_10.out); replace HO_11 := Aside0.mk (Kd.R_drew HO_11.out); replace BK336 := Aside0.mk (blk_drew BK336.out); replace BK337 := Aside0.mk (blk_drew BK337.out); replace BK349 := Aside0.mk (blk_drew BK349.out); replace HB := Aside0.mk (below_drew1 HB.out)
                 have p366 : 0 ≤ (x15_3 : Int) := of_decide_eq_true (by first | (with_reducible assumption) | assumption)
                 have q366 : x15_3 < (y359.length : Int) := of_decide_eq_true (by first | (with_reducible assumption) | assumption)
                 obtain ⟨ad366, e366, hx366_0⟩ := Kd.at_int (Kd.R_reads' HO_11.out).2.2 x15_3 p366 q366
                 obtain rfl : ad363 = ad366 := (by injection e366)
                 replace p366 := eq_true p366
                 replace q366 := eq_true q366
                 refine start_ (n := 9) (S := fun w' => w'.cell? ⟨gb337, 0, none⟩ = some (.int .i64 t340) ∧ w'.cell? ⟨gb337, 1, none⟩ = some (.int .i64 t341) ∧ w'.cell? (ad363.add (x15_3).toNat) = some (.int .i64 (rd y359 x15_3))) (ds := []) #[false, false, false, false, false, false, false, false, false] (by kernel_rfl) rfl rfl ⟨bc BK337 0 rfl, bc BK337 1 rfl, hx366_0⟩ (fun hHeld => ?_); refine with_tabW avermentlaw10_SpanEnds.tab16 avermentlaw10_SpanEnds.bits16 (fun HT_ HW_ => ?_)
                 generalize w66.drew = w67 at HO_10 HO_11 BK336 BK337 BK349 HB hx366_0 hHeld ⊢
                 refine pure_ (i := 0) (N := some 84) (v := ?_) (a' := ?_) #[true, false, false, false, false, false, false, false, false] rfl rfl (any_of HT_.out (by kernel_rfl)) (fun _ _ _ h => h) (Or.inl ⟨by rfl, ?_⟩) ?_ ?_
                 rotate_left; · (intro w'; go_simp; with_reducible rfl)
                 rotate_left; · (simp only [Act.put, List.setIfInBounds_toArray, List.set_cons_zero, List.set_cons_succ, i64_w, i32_w]; rfl)
                 refine pure_ (i := 1) (N := some 85) (v := ?_) (a' := ?_) #[true, true, false, false, false, false, false, false, false] rfl rfl (any_of HT_.out (by kernel_rfl)) (fun _ _ _ h => h) (Or.inl ⟨by rfl, ?_⟩) ?_ ?_
                 rotate_left; · (intro w'; go_simp; with_reducible rfl)
                 rotate_left; · (simp only [Act.put, List.setIfInBounds_toArray, List.set_cons_zero, List.set_cons_succ, i64_w, i32_w]; rfl)
                 refine pure_ (i := 3) (N := some 87) (v := ?_) (a' := ?_) #[true, true, false, true, false, false, false, false, false] rfl rfl (any_of HT_.out (by kernel_rfl)) (fun _ _ _ h => h) (Or.inl ⟨by rfl, ?_⟩) ?_ ?_
                 rotate_left; · (intro w'; go_simp; with_reducible rfl)
                 rotate_left; · (simp only [Act.put, List.setIfInBounds_toArray, List.set_cons_zero, List.set_cons_succ, i64_w, i32_w]; rfl)
                 refine pure_ (i := 4) (N := some 88) (v := ?_) (a' := ?_) #[true, true, false, true, true, false, false, false, false] rfl rfl (any_of HT_.out (by kernel_rfl)) (fun _ _ _ h => h) (Or.inl ⟨by rfl, ?_⟩) ?_ ?_
                 rotate_left; · (intro w'; go_simp; with_reducible rfl)
                 rotate_left; · (simp only [Act.put, List.setIfInBounds_toArray, List.set_cons_zero, List.set_cons_succ, i64_w, i32_w]; rfl)
                 refine pure_ (i := 5) (N := some 89) (v := ?_) (a' := ?_) #[true, true, false, true, true, true, false, false, false] rfl rfl (any_of HT_.out (by kernel_rfl)) (fun _ _ _ h => h) (Or.inl ⟨by rfl, ?_⟩) ?_ ?_
                 rotate_left; · (intro w'; go_simp; with_reducible rfl)
                 rotate_left; · (simp only [Act.put, List.setIfInBounds_toArray, List.set_cons_zero, List.set_cons_succ, i64_w, i32_w]; rfl)
                 refine take_ (i := 2) (N := some 86) (v := ?_) (a' := ?_) #[true, true, true, true, true, true, false, false, false] rfl rfl (take_ofW HT_.out HW_.out (by kernel_rfl)) (fun _ _ _ h => h) (Or.inl ⟨by rfl, ?_⟩) hHeld ?_ ?_
                 rotate_left
                 ·
                  rintro w' ⟨s0, s1, s2⟩
                  go_simp
                  with_reducible rfl
                 rotate_left
                 ·
                  simp only [Act.put, List.setIfInBounds_toArray, List.set_cons_zero, List.set_cons_succ, i64_w, i32_w]
                  rfl
                 refine take_ (i := 6) (N := some 90) (v := ?_) (a' := ?_) #[true, true, true, true, true, true, true, false, false] rfl rfl (take_ofW HT_.out HW_.out (by kernel_rfl)) (fun _ _ _ h => h) (Or.inl ⟨by rfl, ?_⟩) hHeld ?_ ?_
                 rotate_left
                 ·
                  rintro w' ⟨s0, s1, s2⟩
                  go_simp
                  with_reducible rfl
                 rotate_left
                 ·
                  simp only [Act.put, List.setIfInBounds_toArray, List.set_cons_zero, List.set_cons_succ, i64_w, i32_w]
                  rfl
                 refine one_ (i := 7) (N := some 91) #[true, true, true, true, true, true, true, true, false] rfl rfl (one_of HT_.out (by kernel_rfl)) (by decide) (fun K hK => ?_)
                 refine goes_ Try.func41 (by kernel_rfl) rfl #[.agg #[.int .i64 t340, .int .i64 t341], .int .i64 (rd y359 x15_3)] (by rfl) rfl rfl (mapq rfl) ?_
                 with_reducible refine (avermentref10_Has.calls t340 t341 (rd y359 x15_3) true _ A61.out).mono ?_
                 rintro e w68 ⟨rfl, hb⟩
                 have HS2_ := (hb.cell (World.block_lt_of_cell? _ _ (hHeld.2.2))).trans (hHeld.2.2)
                 refine ⟨_, rfl, ?_⟩
                 replace HO_10 := Aside0.mk (Kd.R_below (by (with_reducible repeat (first | apply Kd.R_alloc | apply Kd.R_drewN | apply Kd.R_drew)); exact HO_10.out) hb); replace HO_11 := Aside0.mk (Kd.R_below (by (with_reducible repeat (first | apply Kd.R_alloc | apply Kd.R_drewN | apply Kd.R_drew)); exact HO_11.out) hb); replace BK336 := bb BK336 hb rfl; replace BK337 := bb BK337 hb rfl; replace BK349 := bb BK349 hb rfl; replace HB := hst HB hb rfl
                 (try clear hb)
                 refine hK.out _ _ ⟨bc BK337 0 rfl, bc BK337 1 rfl, HS2_⟩ (fun hHeld => ?_)
                 clear hK K
                 refine norm_ (a' := ?_) ?_ ?_
                 rotate_left; · (show Act.put _ (some 91) _ = _; simp only [Act.put, List.setIfInBounds_toArray, List.set_cons_zero, List.set_cons_succ, i64_w, i32_w]; rfl)
                 refine pure_ (i := 8) (N := some 92) (v := ?_) (a' := ?_) #[true, true, true, true, true, true, true, true, true] rfl rfl (any_of HT_.out (by kernel_rfl)) (fun _ _ _ h => h) (Or.inl ⟨by rfl, ?_⟩) ?_ ?_
                 rotate_left; · (intro w'; go_simp; with_reducible rfl)
                 rotate_left; · (simp only [Act.put, List.setIfInBounds_toArray, List.set_cons_zero, List.set_cons_succ, i64_w, i32_w]; rfl)
                 refine done_ (done_of HT_.out (by kernel_rfl)) ?_
                 try go_wp2
                 replace HO_10 := Aside0.mk (Kd.R_drew HO_10.out); replace HO_11 := Aside0.mk (Kd.R_drew HO_11.out); replace BK336 := Aside0.mk (blk_drew BK336.out); replace BK337 := Aside0.mk (blk_drew BK337.out); replace BK349 := Aside0.mk (blk_drew BK349.out); replace HB := Aside0.mk (below_drew1 HB.out)
                 refine start_ (n := 16) (S := fun w' => True) (ds := []) #[false, false, false, false, false, false, false, false, false, false, false, false, false, false, false, false] (by kernel_rfl) rfl rfl trivial (fun hHeld => ?_); refine with_tabW avermentlaw10_SpanEnds.tab17 avermentlaw10_SpanEnds.bits17 (fun HT_ HW_ => ?_)
                 generalize w68.drew = w69 at HO_10 HO_11 BK336 BK337 BK349 HB hHeld ⊢
                 refine pure_ (i := 0) (N := some 93) (v := ?_) (a' := ?_) #[true, false, false, false, false, false, false, false, false, false, false, false, false, false, false, false] rfl rfl (any_of HT_.out (by kernel_rfl)) (fun _ _ _ h => h) (Or.inl ⟨by rfl, ?_⟩) ?_ ?_
                 rotate_left; · (intro w'; go_simp; with_reducible rfl)
                 rotate_left; · (simp only [Act.put, List.setIfInBounds_toArray, List.set_cons_zero, List.set_cons_succ, i64_w, i32_w]; rfl)
                 refine pure_ (i := 1) (N := some 94) (v := ?_) (a' := ?_) #[true, true, false, false, false, false, false, false, false, false, false, false, false, false, false, false] rfl rfl (any_of HT_.out (by kernel_rfl)) (fun _ _ _ h => h) (Or.inl ⟨by rfl, ?_⟩) ?_ ?_
                 rotate_left; · (intro w'; go_simp; with_reducible rfl)
                 rotate_left; · (simp only [Act.put, List.setIfInBounds_toArray, List.set_cons_zero, List.set_cons_succ, i64_w, i32_w]; rfl)
                 refine pure_ (i := 2) (N := some 95) (v := undef) (a' := ?_) #[true, true, true, false, false, false, false, false, false, false, false, false, false, false, false, false] rfl rfl (any_of HT_.out (by kernel_rfl)) (fun _ _ _ h => h) (Or.inr ⟨by rfl, rfl⟩) ?_ ?_
                 rotate_left
                 ·
                  simp only [Act.put, List.setIfInBounds_toArray, List.set_cons_zero, List.set_cons_succ, i64_w, i32_w]
                  rfl
                 refine pure_ (i := 3) (N := some 96) (v := undef) (a' := ?_) #[true, true, true, true, false, false, false, false, false, false, false, false, false, false, false, false] rfl rfl (any_of HT_.out (by kernel_rfl)) (fun _ _ _ h => h) (Or.inr ⟨by rfl, rfl⟩) ?_ ?_
                 rotate_left
                 ·
                  simp only [Act.put, List.setIfInBounds_toArray, List.set_cons_zero, List.set_cons_succ, i64_w, i32_w]
                  rfl
                 refine pure_ (i := 4) (N := some 97) (v := undef) (a' := ?_) #[true, true, true, true, true, false, false, false, false, false, false, false, false, false, false, false] rfl rfl (any_of HT_.out (by kernel_rfl)) (fun _ _ _ h => h) (Or.inr ⟨by rfl, rfl⟩) ?_ ?_
                 rotate_left
                 ·
                  simp only [Act.put, List.setIfInBounds_toArray, List.set_cons_zero, List.set_cons_succ, i64_w, i32_w]
                  rfl
                 refine pure_ (i := 5) (N := some 98) (v := undef) (a' := ?_) #[true, true, true, true, true, true, false, false, false, false, false, false, false, false, false, false] rfl rfl (any_of HT_.out (by kernel_rfl)) (fun _ _ _ h => h) (Or.inr ⟨by rfl, rfl⟩) ?_ ?_
                 rotate_left
                 ·
                  simp only [Act.put, List.setIfInBounds_toArray, List.set_cons_zero, List.set_cons_succ, i64_w, i32_w]
                  rfl
                 refine pure_ (i := 6) (N := some 99) (v := ?_) (a' := ?_) #[true, true, true, true, true, true, true, false, false, false, false, false, false, false, false, false] rfl rfl (any_of HT_.out (by kernel_rfl)) (fun _ _ _ h => h) (Or.inl ⟨by rfl, ?_⟩) ?_ ?_
                 rotate_left; · (intro w'; go_simp; with_reducible rfl)
                 rotate_left; · (simp only [Act.put, List.setIfInBounds_toArray, List.set_cons_zero, List.set_cons_succ, i64_w, i32_w]; rfl)
                 refine pure_ (i := 7) (N := some 100) (v := ?_) (a' := ?_) #[true, true, true, true, true, true, true, true, false, false, false, false, false, false, false, false] rfl rfl (any_of HT_.out (by kernel_rfl)) (fun _ _ _ h => h) (Or.inl ⟨by rfl, ?_⟩) ?_ ?_
                 rotate_left; · (intro w'; go_simp; with_reducible rfl)
                 rotate_left; · (simp only [Act.put, List.setIfInBounds_toArray, List.set_cons_zero, List.set_cons_succ, i64_w, i32_w]; rfl)
                 refine pure_ (i := 8) (N := some 101) (v := ?_) (a' := ?_) #[true, true, true, true, true, true, true, true, true, false, false, false, false, false, false, false] rfl rfl (any_of HT_.out (by kernel_rfl)) (fun _ _ _ h => h) (Or.inl ⟨by rfl, ?_⟩) ?_ ?_
                 rotate_left; · (intro w'; go_simp; with_reducible rfl)
                 rotate_left; · (simp only [Act.put, List.setIfInBounds_toArray, List.set_cons_zero, List.set_cons_succ, i64_w, i32_w]; rfl)
                 refine pure_ (i := 9) (N := some 102) (v := undef) (a' := ?_) #[true, true, true, true, true, true, true, true, true, true, false, false, false, false, false, false] rfl rfl (any_of HT_.out (by kernel_rfl)) (fun _ _ _ h => h) (Or.inr ⟨by rfl, rfl⟩) ?_ ?_
                 rotate_left
                 ·
                  simp only [Act.put, List.setIfInBounds_toArray, List.set_cons_zero, List.set_cons_succ, i64_w, i32_w]
                  rfl
                 refine pure_ (i := 10) (N := some 103) (v := undef) (a' := ?_) #[true, true, true, true, true, true, true, true, true, true, true, false, false, false, false, false] rfl rfl (any_of HT_.out (by kernel_rfl)) (fun _ _ _ h => h) (Or.inr ⟨by rfl, rfl⟩) ?_ ?_
                 rotate_left
                 ·
                  simp only [Act.put, List.setIfInBounds_toArray, List.set_cons_zero, List.set_cons_succ, i64_w, i32_w]
                  rfl
                 refine pure_ (i := 11) (N := some 104) (v := undef) (a' := ?_) #[true, true, true, true, true, true, true, true, true, true, true, true, false, false, false, false] rfl rfl (any_of HT_.out (by kernel_rfl)) (fun _ _ _ h => h) (Or.inr ⟨by rfl, rfl⟩) ?_ ?_
                 rotate_left
                 ·
                  simp only [Act.put, List.setIfInBounds_toArray, List.set_cons_zero, List.set_cons_succ, i64_w, i32_w]
                  rfl
                 refine pure_ (i := 12) (N := some 105) (v := undef) (a' := ?_) #[true, true, true, true, true, true, true, true, true, true, true, true, true, false, false, false] rfl rfl (any_of HT_.out (by kernel_rfl)) (fun _ _ _ h => h) (Or.inr ⟨by rfl, rfl⟩) ?_ ?_
                 rotate_left
                 ·
                  simp only [Act.put, List.setIfInBounds_toArray, List.set_cons_zero, List.set_cons_succ, i64_w, i32_w]
                  rfl
                 refine pure_ (i := 13) (N := some 106) (v := ?_) (a' := ?_) #[true, true, true, true, true, true, true, true, true, true, true, true, true, true, false, false] rfl rfl (any_of HT_.out (by kernel_rfl)) (fun _ _ _ h => h) (Or.inl ⟨by rfl, ?_⟩) ?_ ?_
                 rotate_left; · (intro w'; go_simp; with_reducible rfl)
                 rotate_left; · (simp only [Act.put, List.setIfInBounds_toArray, List.set_cons_zero, List.set_cons_succ, i64_w, i32_w]; rfl)
                 refine pure_ (i := 14) (N := some 12) (v := ?_) (a' := ?_) #[true, true, true, true, true, true, true, true, true, true, true, true, true, true, true, false] rfl rfl (any_of HT_.out (by kernel_rfl)) (fun _ _ _ h => h) (Or.inl ⟨by rfl, ?_⟩) ?_ ?_
                 rotate_left; · (intro w'; go_simp; with_reducible rfl)
                 rotate_left; · (simp only [Act.put, List.setIfInBounds_toArray, List.set_cons_zero, List.set_cons_succ, i64_w, i32_w]; rfl)
                 refine pure_ (i := 15) (N := some 13) (v := ?_) (a' := ?_) #[true, true, true, true, true, true, true, true, true, true, true, true, true, true, true, true] rfl rfl (any_of HT_.out (by kernel_rfl)) (fun _ _ _ h => h) (Or.inl ⟨by rfl, ?_⟩) ?_ ?_
                 rotate_left; · (intro w'; go_simp; with_reducible rfl)
                 rotate_left; · (simp only [Act.put, List.setIfInBounds_toArray, List.set_cons_zero, List.set_cons_succ, i64_w, i32_w]; rfl)
                 refine done_ (done_of HT_.out (by kernel_rfl)) ?_
                 try go_wp2
                 go_roundg k3
                 case measure => have := HJ8.out; have := HK2.out; have := HK3.out; omega
                 case rel => exact ⟨(true), (true), (wrap64 (x15_3 + 1)), (by first | rfl | (simp; done) | (simp [*]; done)), (by first | rfl | (simp; done) | (simp [*]; done)), (by first | rfl | (simp; done) | (simp [*]; done)), H', ⟨by have := HJ8.out; have := HK2.out; have := HK3.out; omega⟩, ⟨by (with_reducible repeat (first | apply Kd.R_alloc | apply Kd.R_drewN | apply Kd.R_drew)); exact HO_10.out⟩, ⟨by (with_reducible repeat (first | apply Kd.R_alloc | apply Kd.R_drewN | apply Kd.R_drew)); exact HO_11.out⟩, ⟨by (with_reducible repeat (first | refine blk_drewN ?_ _ | refine blk_drew ?_ | refine blk_alloc ?_ _)); exact BK336.out⟩, ⟨by (with_reducible repeat (first | refine blk_drewN ?_ _ | refine blk_drew ?_ | refine blk_alloc ?_ _)); exact BK337.out⟩, ⟨by (with_reducible repeat (first | refine blk_drewN ?_ _ | refine blk_drew ?_ | refine blk_alloc ?_ _)); exact BK349.out⟩, ⟨by repeat (first | (with_reducible first | exact HB.out | apply below_alloc | apply pw_below_drewN | apply below_drew1 | refine below_set ?_ GE336.out | refine below_set ?_ GE337.out | refine below_set ?_ GE349.out) | exact HB.out)⟩⟩
                ·
                 replace c64 := Bool.eq_false_iff.mpr c64
                 subst c64
                 rw [if_neg (show ¬ (false = true) by decide)] at H
                 have H' := Aside0.mk H
                 clear H
                 obtain ⟨Ao70, co70, eo70⟩ := Kd.R_slice HO_11.out
                 subst eo70
                 try go_wp2
                 replace HO_10 := Aside0.mk (Kd.R_drew HO_10.out); replace HO_11 := Aside0.mk (Kd.R_drew HO_11.out); replace BK336 := Aside0.mk (blk_drew BK336.out); replace BK337 := Aside0.mk (blk_drew BK337.out); replace BK349 := Aside0.mk (blk_drew BK349.out); replace HB := Aside0.mk (below_drew1 HB.out)
                 have p362 : 0 ≤ (x14_2 : Int) := of_decide_eq_true (by first | (with_reducible assumption) | assumption)
                 have q362 : x14_2 < (y356.length : Int) := of_decide_eq_true (by first | (with_reducible assumption) | assumption)
                 obtain ⟨ad362, e362, hx362_0⟩ := Kd.at_int (Kd.R_reads' HO_10.out).2.2 x14_2 p362 q362
                 cases e362
                 replace p362 := eq_true p362
                 replace q362 := eq_true q362
                 have p363 : 0 ≤ (x15_3 : Int) := of_decide_eq_true (by first | (with_reducible assumption) | assumption)
                 have q363 : x15_3 < (y359.length : Int) := of_decide_eq_true (by first | (with_reducible assumption) | assumption)
                 obtain ⟨ad363, e363, hx363_0⟩ := Kd.at_int (Kd.R_reads' HO_11.out).2.2 x15_3 p363 q363
                 cases e363
                 replace p363 := eq_true p363
                 replace q363 := eq_true q363
                 refine start_ (n := 15) (S := fun w' => w'.cell? (ad362.add (x14_2).toNat) = some (.int .i64 (rd y356 x14_2)) ∧ w'.cell? (ad363.add (x15_3).toNat) = some (.int .i64 (rd y359 x15_3))) (ds := []) #[false, false, false, false, false, false, false, false, false, false, false, false, false, false, false] (by kernel_rfl) rfl rfl ⟨hx362_0, hx363_0⟩ (fun hHeld => ?_); refine with_tabW avermentlaw10_SpanEnds.tab15 avermentlaw10_SpanEnds.bits15 (fun HT_ HW_ => ?_)
                 generalize wr.drew = w71 at HO_10 HO_11 BK336 BK337 BK349 HB hx362_0 hx363_0 hHeld ⊢
                 refine pure_ (i := 0) (N := some 72) (v := ?_) (a' := ?_) #[true, false, false, false, false, false, false, false, false, false, false, false, false, false, false] rfl rfl (any_of HT_.out (by kernel_rfl)) (fun _ _ _ h => h) (Or.inl ⟨by rfl, ?_⟩) ?_ ?_
                 rotate_left; · (intro w'; go_simp; with_reducible rfl)
                 rotate_left; · (simp only [Act.put, List.setIfInBounds_toArray, List.set_cons_zero, List.set_cons_succ, i64_w, i32_w]; rfl)
                 refine pure_ (i := 1) (N := some 73) (v := ?_) (a' := ?_) #[true, true, false, false, false, false, false, false, false, false, false, false, false, false, false] rfl rfl (any_of HT_.out (by kernel_rfl)) (fun _ _ _ h => h) (Or.inl ⟨by rfl, ?_⟩) ?_ ?_
                 rotate_left; · (intro w'; go_simp; with_reducible rfl)
                 rotate_left; · (simp only [Act.put, List.setIfInBounds_toArray, List.set_cons_zero, List.set_cons_succ, i64_w, i32_w]; rfl)
                 refine pure_ (i := 2) (N := some 74) (v := ?_) (a' := ?_) #[true, true, true, false, false, false, false, false, false, false, false, false, false, false, false] rfl rfl (any_of HT_.out (by kernel_rfl)) (fun _ _ _ h => h) (Or.inl ⟨by rfl, ?_⟩) ?_ ?_
                 rotate_left; · (intro w'; go_simp; with_reducible rfl)
                 rotate_left; · (simp only [Act.put, List.setIfInBounds_toArray, List.set_cons_zero, List.set_cons_succ, i64_w, i32_w]; rfl)
                 refine pure_ (i := 3) (N := some 75) (v := ?_) (a' := ?_) #[true, true, true, true, false, false, false, false, false, false, false, false, false, false, false] rfl rfl (any_of HT_.out (by kernel_rfl)) (fun _ _ _ h => h) (Or.inl ⟨by rfl, ?_⟩) ?_ ?_
                 rotate_left; · (intro w'; go_simp; with_reducible rfl)
                 rotate_left; · (simp only [Act.put, List.setIfInBounds_toArray, List.set_cons_zero, List.set_cons_succ, i64_w, i32_w]; rfl)
                 refine pure_ (i := 5) (N := some 77) (v := ?_) (a' := ?_) #[true, true, true, true, false, true, false, false, false, false, false, false, false, false, false] rfl rfl (any_of HT_.out (by kernel_rfl)) (fun _ _ _ h => h) (Or.inl ⟨by rfl, ?_⟩) ?_ ?_
                 rotate_left; · (intro w'; go_simp; with_reducible rfl)
                 rotate_left; · (simp only [Act.put, List.setIfInBounds_toArray, List.set_cons_zero, List.set_cons_succ, i64_w, i32_w]; rfl)
                 refine pure_ (i := 6) (N := some 78) (v := ?_) (a' := ?_) #[true, true, true, true, false, true, true, false, false, false, false, false, false, false, false] rfl rfl (any_of HT_.out (by kernel_rfl)) (fun _ _ _ h => h) (Or.inl ⟨by rfl, ?_⟩) ?_ ?_
                 rotate_left; · (intro w'; go_simp; with_reducible rfl)
                 rotate_left; · (simp only [Act.put, List.setIfInBounds_toArray, List.set_cons_zero, List.set_cons_succ, i64_w, i32_w]; rfl)
                 refine pure_ (i := 7) (N := some 79) (v := ?_) (a' := ?_) #[true, true, true, true, false, true, true, true, false, false, false, false, false, false, false] rfl rfl (any_of HT_.out (by kernel_rfl)) (fun _ _ _ h => h) (Or.inl ⟨by rfl, ?_⟩) ?_ ?_
                 rotate_left; · (intro w'; go_simp; with_reducible rfl)
                 rotate_left; · (simp only [Act.put, List.setIfInBounds_toArray, List.set_cons_zero, List.set_cons_succ, i64_w, i32_w]; rfl)
                 refine take_ (i := 4) (N := some 76) (v := ?_) (a' := ?_) #[true, true, true, true, true, true, true, true, false, false, false, false, false, false, false] rfl rfl (take_ofW HT_.out HW_.out (by kernel_rfl)) (fun _ _ _ h => h) (Or.inl ⟨by rfl, ?_⟩) hHeld ?_ ?_
                 rotate_left
                 ·
                  rintro w' ⟨s0, s1⟩
                  go_simp
                  with_reducible rfl
                 rotate_left
                 ·
                  simp only [Act.put, List.setIfInBounds_toArray, List.set_cons_zero, List.set_cons_succ, i64_w, i32_w]
                  rfl
                 refine take_ (i := 8) (N := some 80) (v := ?_) (a' := ?_) #[true, true, true, true, true, true, true, true, true, false, false, false, false, false, false] rfl rfl (take_ofW HT_.out HW_.out (by kernel_rfl)) (fun _ _ _ h => h) (Or.inl ⟨by rfl, ?_⟩) hHeld ?_ ?_
                 rotate_left
                 ·
                  rintro w' ⟨s0, s1⟩
                  go_simp
                  with_reducible rfl
                 rotate_left
                 ·
                  simp only [Act.put, List.setIfInBounds_toArray, List.set_cons_zero, List.set_cons_succ, i64_w, i32_w]
                  rfl
                 refine one_ (i := 9) (N := some 81) #[true, true, true, true, true, true, true, true, true, true, false, false, false, false, false] rfl rfl (one_of HT_.out (by kernel_rfl)) (by decide) (fun K hK => ?_)
                 refine goes_ Try.func34 (by kernel_rfl) rfl #[.int .i64 (wrap64 (4 + (wrap64 (Int.tmod (IntKind.u64.wrap (a0)) 4)))), .int .i64 (rd y356 x14_2), .int .i64 (rd y359 x15_3)] (by rfl) rfl rfl (mapq rfl) ?_
                 with_reducible refine (avermentref07_Arith.calls (wrap64 (4 + (wrap64 (Int.tmod (IntKind.u64.wrap (a0)) 4)))) (rd y356 x14_2) (rd y359 x15_3) t364 true _ A59.out).mono ?_
                 rintro e w' ⟨rfl, ⟨nd, rfl⟩⟩
                 refine ⟨_, rfl, ?_⟩
                 refine hK.out _ _ ⟨hHeld.1, hHeld.2⟩ (fun hHeld => ?_)
                 clear hK K
                 refine norm_ (a' := ?_) ?_ ?_
                 rotate_left; · (show Act.put _ (some 81) _ = _; simp only [Act.put, List.setIfInBounds_toArray, List.set_cons_zero, List.set_cons_succ, i64_w, i32_w]; rfl)
                 refine pure_ (i := 10) (N := some 71) (v := ?_) (a' := ?_) #[true, true, true, true, true, true, true, true, true, true, true, false, false, false, false] rfl rfl (any_of HT_.out (by kernel_rfl)) (fun _ _ _ h => h) (Or.inl ⟨by rfl, ?_⟩) ?_ ?_
                 rotate_left; · (intro w'; go_simp; with_reducible rfl)
                 rotate_left; · (simp only [Act.put, List.setIfInBounds_toArray, List.set_cons_zero, List.set_cons_succ, i64_w, i32_w]; rfl)
                 refine pure_ (i := 11) (N := some 82) (v := ?_) (a' := ?_) #[true, true, true, true, true, true, true, true, true, true, true, true, false, false, false] rfl rfl (any_of HT_.out (by kernel_rfl)) (fun _ _ _ h => h) (Or.inl ⟨by rfl, ?_⟩) ?_ ?_
                 rotate_left; · (intro w'; go_simp; with_reducible rfl)
                 rotate_left; · (simp only [Act.put, List.setIfInBounds_toArray, List.set_cons_zero, List.set_cons_succ, i64_w, i32_w]; rfl)
                 refine pure_ (i := 12) (N := some 83) (v := ?_) (a' := ?_) #[true, true, true, true, true, true, true, true, true, true, true, true, true, false, false] rfl rfl (any_of HT_.out (by kernel_rfl)) (fun _ _ _ h => h) (Or.inl ⟨by rfl, ?_⟩) ?_ ?_
                 rotate_left; · (intro w'; go_simp; with_reducible rfl)
                 rotate_left; · (simp only [Act.put, List.setIfInBounds_toArray, List.set_cons_zero, List.set_cons_succ, i64_w, i32_w]; rfl)
                 refine pure_ (i := 13) (N := some 16) (v := ?_) (a' := ?_) #[true, true, true, true, true, true, true, true, true, true, true, true, true, true, false] rfl rfl (any_of HT_.out (by kernel_rfl)) (fun _ _ _ h => h) (Or.inl ⟨by rfl, ?_⟩) ?_ ?_
                 rotate_left; · (intro w'; go_simp; with_reducible rfl)
                 rotate_left; · (simp only [Act.put, List.setIfInBounds_toArray, List.set_cons_zero, List.set_cons_succ, i64_w, i32_w]; rfl)
                 refine pure_ (i := 14) (N := some 17) (v := ?_) (a' := ?_) #[true, true, true, true, true, true, true, true, true, true, true, true, true, true, true] rfl rfl (any_of HT_.out (by kernel_rfl)) (fun _ _ _ h => h) (Or.inl ⟨by rfl, ?_⟩) ?_ ?_
                 rotate_left; · (intro w'; go_simp; with_reducible rfl)
                 rotate_left; · (simp only [Act.put, List.setIfInBounds_toArray, List.set_cons_zero, List.set_cons_succ, i64_w, i32_w]; rfl)
                 refine done_ (done_of HT_.out (by kernel_rfl)) ?_
                 try go_wp2
                 (try (rw [drewN_self w71]; generalize hq_ : World.drewN w71 _ = w71; have n0_ : Aside0 (Kd.R (Kd.int .i64) 2 w71 w.heap.size (fun k_ => some k_ ≠ (.slice (some ad363) y359.length co70 : Value).ownBlock) (.slice (some ad362) y356.length co54) y356) := ⟨by rw [← hq_]; exact (by (with_reducible repeat (first | apply Kd.R_alloc | apply Kd.R_drewN | apply Kd.R_drew)); exact HO_10.out)⟩; have n1_ : Aside0 (Kd.R (Kd.int .i64) 2 w71 w.heap.size (fun k_ => some k_ ≠ (.slice (some ad362) y356.length co54 : Value).ownBlock) (.slice (some ad363) y359.length co70) y359) := ⟨by rw [← hq_]; exact (by (with_reducible repeat (first | apply Kd.R_alloc | apply Kd.R_drewN | apply Kd.R_drew)); exact HO_11.out)⟩; have n2_ : Aside0 (w71.heap[gb336]? = some (.cells #[.int .i64 t338, .int .i64 t339] 56 (0, 0))) := ⟨by rw [← hq_]; exact BK336.out⟩; have n3_ : Aside0 (w71.heap[gb337]? = some (.cells #[.int .i64 t340, .int .i64 t341] 56 (0, 0))) := ⟨by rw [← hq_]; exact BK337.out⟩; have n4_ : Aside0 (w71.heap[gb349]? = some (.cells #[.int .i64 t346, .int .i64 t347] 59 (0, 0))) := ⟨by rw [← hq_]; exact BK349.out⟩; have n5_ : Aside0 (Below w.heap.size w w71) := ⟨by rw [← hq_]; exact (by repeat (first | (with_reducible first | exact HB.out | apply below_alloc | apply pw_below_drewN | apply below_drew1 | refine below_set ?_ GE336.out | refine below_set ?_ GE337.out | refine below_set ?_ GE349.out) | exact HB.out))⟩; clear HO_10 HO_11 BK336 BK337 BK349 HB hq_; have HO_10 := n0_; have HO_11 := n1_; have BK336 := n2_; have BK337 := n3_; have BK349 := n4_; have HB := n5_; clear n0_ n1_ n2_ n3_ n4_ n5_))
                 replace HO_10 := Aside0.mk (Kd.R_drew HO_10.out); replace HO_11 := Aside0.mk (Kd.R_drew HO_11.out); replace BK336 := Aside0.mk (blk_drew BK336.out); replace BK337 := Aside0.mk (blk_drew BK337.out); replace BK349 := Aside0.mk (blk_drew BK349.out); replace HB := Aside0.mk (below_drew1 HB.out)
                 have p366 : 0 ≤ (x15_3 : Int) := of_decide_eq_true (by first | (with_reducible assumption) | assumption)
                 have q366 : x15_3 < (y359.length : Int) := of_decide_eq_true (by first | (with_reducible assumption) | assumption)
                 obtain ⟨ad366, e366, hx366_0⟩ := Kd.at_int (Kd.R_reads' HO_11.out).2.2 x15_3 p366 q366
                 obtain rfl : ad363 = ad366 := (by injection e366)
                 replace p366 := eq_true p366
                 replace q366 := eq_true q366
                 refine start_ (n := 9) (S := fun w' => w'.cell? ⟨gb337, 0, none⟩ = some (.int .i64 t340) ∧ w'.cell? ⟨gb337, 1, none⟩ = some (.int .i64 t341) ∧ w'.cell? (ad363.add (x15_3).toNat) = some (.int .i64 (rd y359 x15_3))) (ds := []) #[false, false, false, false, false, false, false, false, false] (by kernel_rfl) rfl rfl ⟨bc BK337 0 rfl, bc BK337 1 rfl, hx366_0⟩ (fun hHeld => ?_); refine with_tabW avermentlaw10_SpanEnds.tab16 avermentlaw10_SpanEnds.bits16 (fun HT_ HW_ => ?_)
                 generalize w71.drew = w72 at HO_10 HO_11 BK336 BK337 BK349 HB hx366_0 hHeld ⊢
                 refine pure_ (i := 0) (N := some 84) (v := ?_) (a' := ?_) #[true, false, false, false, false, false, false, false, false] rfl rfl (any_of HT_.out (by kernel_rfl)) (fun _ _ _ h => h) (Or.inl ⟨by rfl, ?_⟩) ?_ ?_
                 rotate_left; · (intro w'; go_simp; with_reducible rfl)
                 rotate_left; · (simp only [Act.put, List.setIfInBounds_toArray, List.set_cons_zero, List.set_cons_succ, i64_w, i32_w]; rfl)
                 refine pure_ (i := 1) (N := some 85) (v := ?_) (a' := ?_) #[true, true, false, false, false, false, false, false, false] rfl rfl (any_of HT_.out (by kernel_rfl)) (fun _ _ _ h => h) (Or.inl ⟨by rfl, ?_⟩) ?_ ?_
                 rotate_left; · (intro w'; go_simp; with_reducible rfl)
                 rotate_left; · (simp only [Act.put, List.setIfInBounds_toArray, List.set_cons_zero, List.set_cons_succ, i64_w, i32_w]; rfl)
                 refine pure_ (i := 3) (N := some 87) (v := ?_) (a' := ?_) #[true, true, false, true, false, false, false, false, false] rfl rfl (any_of HT_.out (by kernel_rfl)) (fun _ _ _ h => h) (Or.inl ⟨by rfl, ?_⟩) ?_ ?_
                 rotate_left; · (intro w'; go_simp; with_reducible rfl)
                 rotate_left; · (simp only [Act.put, List.setIfInBounds_toArray, List.set_cons_zero, List.set_cons_succ, i64_w, i32_w]; rfl)
                 refine pure_ (i := 4) (N := some 88) (v := ?_) (a' := ?_) #[true, true, false, true, true, false, false, false, false] rfl rfl (any_of HT_.out (by kernel_rfl)) (fun _ _ _ h => h) (Or.inl ⟨by rfl, ?_⟩) ?_ ?_
                 rotate_left; · (intro w'; go_simp; with_reducible rfl)
                 rotate_left; · (simp only [Act.put, List.setIfInBounds_toArray, List.set_cons_zero, List.set_cons_succ, i64_w, i32_w]; rfl)
                 refine pure_ (i := 5) (N := some 89) (v := ?_) (a' := ?_) #[true, true, false, true, true, true, false, false, false] rfl rfl (any_of HT_.out (by kernel_rfl)) (fun _ _ _ h => h) (Or.inl ⟨by rfl, ?_⟩) ?_ ?_
                 rotate_left; · (intro w'; go_simp; with_reducible rfl)
                 rotate_left; · (simp only [Act.put, List.setIfInBounds_toArray, List.set_cons_zero, List.set_cons_succ, i64_w, i32_w]; rfl)
                 refine take_ (i := 2) (N := some 86) (v := ?_) (a' := ?_) #[true, true, true, true, true, true, false, false, false] rfl rfl (take_ofW HT_.out HW_.out (by kernel_rfl)) (fun _ _ _ h => h) (Or.inl ⟨by rfl, ?_⟩) hHeld ?_ ?_
                 rotate_left
                 ·
                  rintro w' ⟨s0, s1, s2⟩
                  go_simp
                  with_reducible rfl
                 rotate_left
                 ·
                  simp only [Act.put, List.setIfInBounds_toArray, List.set_cons_zero, List.set_cons_succ, i64_w, i32_w]
                  rfl
                 refine take_ (i := 6) (N := some 90) (v := ?_) (a' := ?_) #[true, true, true, true, true, true, true, false, false] rfl rfl (take_ofW HT_.out HW_.out (by kernel_rfl)) (fun _ _ _ h => h) (Or.inl ⟨by rfl, ?_⟩) hHeld ?_ ?_
                 rotate_left
                 ·
                  rintro w' ⟨s0, s1, s2⟩
                  go_simp
                  with_reducible rfl
                 rotate_left
                 ·
                  simp only [Act.put, List.setIfInBounds_toArray, List.set_cons_zero, List.set_cons_succ, i64_w, i32_w]
                  rfl
                 refine one_ (i := 7) (N := some 91) #[true, true, true, true, true, true, true, true, false] rfl rfl (one_of HT_.out (by kernel_rfl)) (by decide) (fun K hK => ?_)
                 refine goes_ Try.func41 (by kernel_rfl) rfl #[.agg #[.int .i64 t340, .int .i64 t341], .int .i64 (rd y359 x15_3)] (by rfl) rfl rfl (mapq rfl) ?_
                 with_reducible refine (avermentref10_Has.calls t340 t341 (rd y359 x15_3) true _ A61.out).mono ?_
                 rintro e w73 ⟨rfl, hb⟩
                 have HS2_ := (hb.cell (World.block_lt_of_cell? _ _ (hHeld.2.2))).trans (hHeld.2.2)
                 refine ⟨_, rfl, ?_⟩
                 replace HO_10 := Aside0.mk (Kd.R_below (by (with_reducible repeat (first | apply Kd.R_alloc | apply Kd.R_drewN | apply Kd.R_drew)); exact HO_10.out) hb); replace HO_11 := Aside0.mk (Kd.R_below (by (with_reducible repeat (first | apply Kd.R_alloc | apply Kd.R_drewN | apply Kd.R_drew)); exact HO_11.out) hb); replace BK336 := bb BK336 hb rfl; replace BK337 := bb BK337 hb rfl; replace BK349 := bb BK349 hb rfl; replace HB := hst HB hb rfl
                 (try clear hb)
                 refine hK.out _ _ ⟨bc BK337 0 rfl, bc BK337 1 rfl, HS2_⟩ (fun hHeld => ?_)
                 clear hK K
                 refine norm_ (a' := ?_) ?_ ?_
                 rotate_left; · (show Act.put _ (some 91) _ = _; simp only [Act.put, List.setIfInBounds_toArray, List.set_cons_zero, List.set_cons_succ, i64_w, i32_w]; rfl)
                 refine pure_ (i := 8) (N := some 92) (v := ?_) (a' := ?_) #[true, true, true, true, true, true, true, true, true] rfl rfl (any_of HT_.out (by kernel_rfl)) (fun _ _ _ h => h) (Or.inl ⟨by rfl, ?_⟩) ?_ ?_
                 rotate_left; · (intro w'; go_simp; with_reducible rfl)
                 rotate_left; · (simp only [Act.put, List.setIfInBounds_toArray, List.set_cons_zero, List.set_cons_succ, i64_w, i32_w]; rfl)
                 refine done_ (done_of HT_.out (by kernel_rfl)) ?_
                 try go_wp2
                 replace HO_10 := Aside0.mk (Kd.R_drew HO_10.out); replace HO_11 := Aside0.mk (Kd.R_drew HO_11.out); replace BK336 := Aside0.mk (blk_drew BK336.out); replace BK337 := Aside0.mk (blk_drew BK337.out); replace BK349 := Aside0.mk (blk_drew BK349.out); replace HB := Aside0.mk (below_drew1 HB.out)
                 refine start_ (n := 16) (S := fun w' => w'.cell? ⟨gb349, 0, none⟩ = some (.int .i64 t346) ∧ w'.cell? ⟨gb349, 1, none⟩ = some (.int .i64 t347)) (ds := []) #[false, false, false, false, false, false, false, false, false, false, false, false, false, false, false, false] (by kernel_rfl) rfl rfl ⟨bc BK349 0 rfl, bc BK349 1 rfl⟩ (fun hHeld => ?_); refine with_tabW avermentlaw10_SpanEnds.tab17 avermentlaw10_SpanEnds.bits17 (fun HT_ HW_ => ?_)
                 generalize w73.drew = w74 at HO_10 HO_11 BK336 BK337 BK349 HB hHeld ⊢
                 refine pure_ (i := 0) (N := some 93) (v := ?_) (a' := ?_) #[true, false, false, false, false, false, false, false, false, false, false, false, false, false, false, false] rfl rfl (any_of HT_.out (by kernel_rfl)) (fun _ _ _ h => h) (Or.inl ⟨by rfl, ?_⟩) ?_ ?_
                 rotate_left; · (intro w'; go_simp; with_reducible rfl)
                 rotate_left; · (simp only [Act.put, List.setIfInBounds_toArray, List.set_cons_zero, List.set_cons_succ, i64_w, i32_w]; rfl)
                 refine pure_ (i := 1) (N := some 94) (v := ?_) (a' := ?_) #[true, true, false, false, false, false, false, false, false, false, false, false, false, false, false, false] rfl rfl (any_of HT_.out (by kernel_rfl)) (fun _ _ _ h => h) (Or.inl ⟨by rfl, ?_⟩) ?_ ?_
                 rotate_left; · (intro w'; go_simp; with_reducible rfl)
                 rotate_left; · (simp only [Act.put, List.setIfInBounds_toArray, List.set_cons_zero, List.set_cons_succ, i64_w, i32_w]; rfl)
                 refine pure_ (i := 2) (N := some 95) (v := undef) (a' := ?_) #[true, true, true, false, false, false, false, false, false, false, false, false, false, false, false, false] rfl rfl (any_of HT_.out (by kernel_rfl)) (fun _ _ _ h => h) (Or.inr ⟨by rfl, rfl⟩) ?_ ?_
                 rotate_left
                 ·
                  simp only [Act.put, List.setIfInBounds_toArray, List.set_cons_zero, List.set_cons_succ, i64_w, i32_w]
                  rfl
                 refine pure_ (i := 3) (N := some 96) (v := undef) (a' := ?_) #[true, true, true, true, false, false, false, false, false, false, false, false, false, false, false, false] rfl rfl (any_of HT_.out (by kernel_rfl)) (fun _ _ _ h => h) (Or.inr ⟨by rfl, rfl⟩) ?_ ?_
                 rotate_left
                 ·
                  simp only [Act.put, List.setIfInBounds_toArray, List.set_cons_zero, List.set_cons_succ, i64_w, i32_w]
                  rfl
                 refine pure_ (i := 4) (N := some 97) (v := undef) (a' := ?_) #[true, true, true, true, true, false, false, false, false, false, false, false, false, false, false, false] rfl rfl (any_of HT_.out (by kernel_rfl)) (fun _ _ _ h => h) (Or.inr ⟨by rfl, rfl⟩) ?_ ?_
                 rotate_left
                 ·
                  simp only [Act.put, List.setIfInBounds_toArray, List.set_cons_zero, List.set_cons_succ, i64_w, i32_w]
                  rfl
                 refine pure_ (i := 5) (N := some 98) (v := undef) (a' := ?_) #[true, true, true, true, true, true, false, false, false, false, false, false, false, false, false, false] rfl rfl (any_of HT_.out (by kernel_rfl)) (fun _ _ _ h => h) (Or.inr ⟨by rfl, rfl⟩) ?_ ?_
                 rotate_left
                 ·
                  simp only [Act.put, List.setIfInBounds_toArray, List.set_cons_zero, List.set_cons_succ, i64_w, i32_w]
                  rfl
                 refine pure_ (i := 6) (N := some 99) (v := ?_) (a' := ?_) #[true, true, true, true, true, true, true, false, false, false, false, false, false, false, false, false] rfl rfl (any_of HT_.out (by kernel_rfl)) (fun _ _ _ h => h) (Or.inl ⟨by rfl, ?_⟩) ?_ ?_
                 rotate_left; · (intro w'; go_simp; with_reducible rfl)
                 rotate_left; · (simp only [Act.put, List.setIfInBounds_toArray, List.set_cons_zero, List.set_cons_succ, i64_w, i32_w]; rfl)
                 refine pure_ (i := 7) (N := some 100) (v := ?_) (a' := ?_) #[true, true, true, true, true, true, true, true, false, false, false, false, false, false, false, false] rfl rfl (any_of HT_.out (by kernel_rfl)) (fun _ _ _ h => h) (Or.inl ⟨by rfl, ?_⟩) ?_ ?_
                 rotate_left; · (intro w'; go_simp; with_reducible rfl)
                 rotate_left; · (simp only [Act.put, List.setIfInBounds_toArray, List.set_cons_zero, List.set_cons_succ, i64_w, i32_w]; rfl)
                 refine pure_ (i := 8) (N := some 101) (v := ?_) (a' := ?_) #[true, true, true, true, true, true, true, true, true, false, false, false, false, false, false, false] rfl rfl (any_of HT_.out (by kernel_rfl)) (fun _ _ _ h => h) (Or.inl ⟨by rfl, ?_⟩) ?_ ?_
                 rotate_left; · (intro w'; go_simp; with_reducible rfl)
                 rotate_left; · (simp only [Act.put, List.setIfInBounds_toArray, List.set_cons_zero, List.set_cons_succ, i64_w, i32_w]; rfl)
                 refine pure_ (i := 9) (N := some 102) (v := ?_) (a' := ?_) #[true, true, true, true, true, true, true, true, true, true, false, false, false, false, false, false] rfl rfl (any_of HT_.out (by kernel_rfl)) (fun _ _ _ h => h) (Or.inl ⟨by rfl, ?_⟩) ?_ ?_
                 rotate_left; · (intro w'; go_simp; with_reducible rfl)
                 rotate_left; · (simp only [Act.put, List.setIfInBounds_toArray, List.set_cons_zero, List.set_cons_succ, i64_w, i32_w]; rfl)
                 refine pure_ (i := 10) (N := some 103) (v := ?_) (a' := ?_) #[true, true, true, true, true, true, true, true, true, true, true, false, false, false, false, false] rfl rfl (any_of HT_.out (by kernel_rfl)) (fun _ _ _ h => h) (Or.inl ⟨by rfl, ?_⟩) ?_ ?_
                 rotate_left; · (intro w'; go_simp; with_reducible rfl)
                 rotate_left; · (simp only [Act.put, List.setIfInBounds_toArray, List.set_cons_zero, List.set_cons_succ, i64_w, i32_w]; rfl)
                 refine pure_ (i := 14) (N := some 12) (v := ?_) (a' := ?_) #[true, true, true, true, true, true, true, true, true, true, true, false, false, false, true, false] rfl rfl (any_of HT_.out (by kernel_rfl)) (fun _ _ _ h => h) (Or.inl ⟨by rfl, ?_⟩) ?_ ?_
                 rotate_left; · (intro w'; go_simp; with_reducible rfl)
                 rotate_left; · (simp only [Act.put, List.setIfInBounds_toArray, List.set_cons_zero, List.set_cons_succ, i64_w, i32_w]; rfl)
                 refine take_ (i := 11) (N := some 104) (v := ?_) (a' := ?_) #[true, true, true, true, true, true, true, true, true, true, true, true, false, false, true, false] rfl rfl (take_ofW HT_.out HW_.out (by kernel_rfl)) (fun _ _ _ h => h) (Or.inl ⟨by rfl, ?_⟩) hHeld ?_ ?_
                 rotate_left
                 ·
                  rintro w' ⟨s0, s1⟩
                  go_simp
                  with_reducible rfl
                 rotate_left
                 ·
                  simp only [Act.put, List.setIfInBounds_toArray, List.set_cons_zero, List.set_cons_succ, i64_w, i32_w]
                  rfl
                 refine pure_ (i := 12) (N := some 105) (v := ?_) (a' := ?_) #[true, true, true, true, true, true, true, true, true, true, true, true, true, false, true, false] rfl rfl (any_of HT_.out (by kernel_rfl)) (fun _ _ _ h => h) (Or.inl ⟨by rfl, ?_⟩) ?_ ?_
                 rotate_left; · (intro w'; go_simp; with_reducible rfl)
                 rotate_left; · (simp only [Act.put, List.setIfInBounds_toArray, List.set_cons_zero, List.set_cons_succ, i64_w, i32_w]; rfl)
                 refine pure_ (i := 13) (N := some 106) (v := ?_) (a' := ?_) #[true, true, true, true, true, true, true, true, true, true, true, true, true, true, true, false] rfl rfl (any_of HT_.out (by kernel_rfl)) (fun _ _ _ h => h) (Or.inl ⟨by rfl, ?_⟩) ?_ ?_
                 rotate_left; · (intro w'; go_simp; with_reducible rfl)
                 rotate_left; · (simp only [Act.put, List.setIfInBounds_toArray, List.set_cons_zero, List.set_cons_succ, i64_w, i32_w]; rfl)
                 refine pure_ (i := 15) (N := some 13) (v := ?_) (a' := ?_) #[true, true, true, true, true, true, true, true, true, true, true, true, true, true, true, true] rfl rfl (any_of HT_.out (by kernel_rfl)) (fun _ _ _ h => h) (Or.inl ⟨by rfl, ?_⟩) ?_ ?_
                 rotate_left; · (intro w'; go_simp; with_reducible rfl)
                 rotate_left; · (simp only [Act.put, List.setIfInBounds_toArray, List.set_cons_zero, List.set_cons_succ, i64_w, i32_w]; rfl)
                 refine done_ (done_of HT_.out (by kernel_rfl)) ?_
                 try go_wp2
                 go_roundg k3
                 case measure => have := HJ8.out; have := HK2.out; have := HK3.out; omega
                 case rel => exact ⟨(true), ((t364 == t347)), (wrap64 (x15_3 + 1)), (by first | rfl | (simp; done) | (simp [*]; done)), (by first | rfl | (simp; done) | (simp [*]; done)), (by first | rfl | (simp; done) | (simp [*]; done)), H', ⟨by have := HJ8.out; have := HK2.out; have := HK3.out; omega⟩, ⟨by (with_reducible repeat (first | apply Kd.R_alloc | apply Kd.R_drewN | apply Kd.R_drew)); exact HO_10.out⟩, ⟨by (with_reducible repeat (first | apply Kd.R_alloc | apply Kd.R_drewN | apply Kd.R_drew)); exact HO_11.out⟩, ⟨by (with_reducible repeat (first | refine blk_drewN ?_ _ | refine blk_drew ?_ | refine blk_alloc ?_ _)); exact BK336.out⟩, ⟨by (with_reducible repeat (first | refine blk_drewN ?_ _ | refine blk_drew ?_ | refine blk_alloc ?_ _)); exact BK337.out⟩, ⟨by (with_reducible repeat (first | refine blk_drewN ?_ _ | refine blk_drew ?_ | refine blk_alloc ?_ _)); exact BK349.out⟩, ⟨by repeat (first | (with_reducible first | exact HB.out | apply below_alloc | apply pw_below_drewN | apply below_drew1 | refine below_set ?_ GE336.out | refine below_set ?_ GE337.out | refine below_set ?_ GE349.out) | exact HB.out)⟩⟩
               ·
                replace c63 := Bool.eq_false_iff.mpr c63
                subst c63
                rw [if_neg (show ¬ (false = true) by decide)] at H
                by_cases c75 : x13_3 = true
                ·
                 subst c75
                 rw [if_pos rfl] at H
                 have H' := Aside0.mk H
                 clear H
                 obtain ⟨Ao76, co76, eo76⟩ := Kd.R_slice HO_11.out
                 subst eo76
                 try go_wp2
                 replace HO_10 := Aside0.mk (Kd.R_drew HO_10.out); replace HO_11 := Aside0.mk (Kd.R_drew HO_11.out); replace BK336 := Aside0.mk (blk_drew BK336.out); replace BK337 := Aside0.mk (blk_drew BK337.out); replace BK349 := Aside0.mk (blk_drew BK349.out); replace HB := Aside0.mk (below_drew1 HB.out)
                 have p362 : 0 ≤ (x14_2 : Int) := of_decide_eq_true (by first | (with_reducible assumption) | assumption)
                 have q362 : x14_2 < (y356.length : Int) := of_decide_eq_true (by first | (with_reducible assumption) | assumption)
                 obtain ⟨ad362, e362, hx362_0⟩ := Kd.at_int (Kd.R_reads' HO_10.out).2.2 x14_2 p362 q362
                 cases e362
                 replace p362 := eq_true p362
                 replace q362 := eq_true q362
                 have p363 : 0 ≤ (x15_3 : Int) := of_decide_eq_true (by first | (with_reducible assumption) | assumption)
                 have q363 : x15_3 < (y359.length : Int) := of_decide_eq_true (by first | (with_reducible assumption) | assumption)
                 obtain ⟨ad363, e363, hx363_0⟩ := Kd.at_int (Kd.R_reads' HO_11.out).2.2 x15_3 p363 q363
                 cases e363
                 replace p363 := eq_true p363
                 replace q363 := eq_true q363
                 refine start_ (n := 15) (S := fun w' => w'.cell? (ad362.add (x14_2).toNat) = some (.int .i64 (rd y356 x14_2)) ∧ w'.cell? (ad363.add (x15_3).toNat) = some (.int .i64 (rd y359 x15_3))) (ds := []) #[false, false, false, false, false, false, false, false, false, false, false, false, false, false, false] (by kernel_rfl) rfl rfl ⟨hx362_0, hx363_0⟩ (fun hHeld => ?_); refine with_tabW avermentlaw10_SpanEnds.tab15 avermentlaw10_SpanEnds.bits15 (fun HT_ HW_ => ?_)
                 generalize wr.drew = w77 at HO_10 HO_11 BK336 BK337 BK349 HB hx362_0 hx363_0 hHeld ⊢
                 refine pure_ (i := 0) (N := some 72) (v := ?_) (a' := ?_) #[true, false, false, false, false, false, false, false, false, false, false, false, false, false, false] rfl rfl (any_of HT_.out (by kernel_rfl)) (fun _ _ _ h => h) (Or.inl ⟨by rfl, ?_⟩) ?_ ?_
                 rotate_left; · (intro w'; go_simp; with_reducible rfl)
                 rotate_left; · (simp only [Act.put, List.setIfInBounds_toArray, List.set_cons_zero, List.set_cons_succ, i64_w, i32_w]; rfl)
                 refine pure_ (i := 1) (N := some 73) (v := ?_) (a' := ?_) #[true, true, false, false, false, false, false, false, false, false, false, false, false, false, false] rfl rfl (any_of HT_.out (by kernel_rfl)) (fun _ _ _ h => h) (Or.inl ⟨by rfl, ?_⟩) ?_ ?_
                 rotate_left; · (intro w'; go_simp; with_reducible rfl)
                 rotate_left; · (simp only [Act.put, List.setIfInBounds_toArray, List.set_cons_zero, List.set_cons_succ, i64_w, i32_w]; rfl)
                 refine pure_ (i := 2) (N := some 74) (v := ?_) (a' := ?_) #[true, true, true, false, false, false, false, false, false, false, false, false, false, false, false] rfl rfl (any_of HT_.out (by kernel_rfl)) (fun _ _ _ h => h) (Or.inl ⟨by rfl, ?_⟩) ?_ ?_
                 rotate_left; · (intro w'; go_simp; with_reducible rfl)
                 rotate_left; · (simp only [Act.put, List.setIfInBounds_toArray, List.set_cons_zero, List.set_cons_succ, i64_w, i32_w]; rfl)
                 refine pure_ (i := 3) (N := some 75) (v := ?_) (a' := ?_) #[true, true, true, true, false, false, false, false, false, false, false, false, false, false, false] rfl rfl (any_of HT_.out (by kernel_rfl)) (fun _ _ _ h => h) (Or.inl ⟨by rfl, ?_⟩) ?_ ?_
                 rotate_left; · (intro w'; go_simp; with_reducible rfl)
                 rotate_left; · (simp only [Act.put, List.setIfInBounds_toArray, List.set_cons_zero, List.set_cons_succ, i64_w, i32_w]; rfl)
                 refine pure_ (i := 5) (N := some 77) (v := ?_) (a' := ?_) #[true, true, true, true, false, true, false, false, false, false, false, false, false, false, false] rfl rfl (any_of HT_.out (by kernel_rfl)) (fun _ _ _ h => h) (Or.inl ⟨by rfl, ?_⟩) ?_ ?_
                 rotate_left; · (intro w'; go_simp; with_reducible rfl)
                 rotate_left; · (simp only [Act.put, List.setIfInBounds_toArray, List.set_cons_zero, List.set_cons_succ, i64_w, i32_w]; rfl)
                 refine pure_ (i := 6) (N := some 78) (v := ?_) (a' := ?_) #[true, true, true, true, false, true, true, false, false, false, false, false, false, false, false] rfl rfl (any_of HT_.out (by kernel_rfl)) (fun _ _ _ h => h) (Or.inl ⟨by rfl, ?_⟩) ?_ ?_
                 rotate_left; · (intro w'; go_simp; with_reducible rfl)
                 rotate_left; · (simp only [Act.put, List.setIfInBounds_toArray, List.set_cons_zero, List.set_cons_succ, i64_w, i32_w]; rfl)
                 refine pure_ (i := 7) (N := some 79) (v := ?_) (a' := ?_) #[true, true, true, true, false, true, true, true, false, false, false, false, false, false, false] rfl rfl (any_of HT_.out (by kernel_rfl)) (fun _ _ _ h => h) (Or.inl ⟨by rfl, ?_⟩) ?_ ?_
                 rotate_left; · (intro w'; go_simp; with_reducible rfl)
                 rotate_left; · (simp only [Act.put, List.setIfInBounds_toArray, List.set_cons_zero, List.set_cons_succ, i64_w, i32_w]; rfl)
                 refine take_ (i := 4) (N := some 76) (v := ?_) (a' := ?_) #[true, true, true, true, true, true, true, true, false, false, false, false, false, false, false] rfl rfl (take_ofW HT_.out HW_.out (by kernel_rfl)) (fun _ _ _ h => h) (Or.inl ⟨by rfl, ?_⟩) hHeld ?_ ?_
                 rotate_left
                 ·
                  rintro w' ⟨s0, s1⟩
                  go_simp
                  with_reducible rfl
                 rotate_left
                 ·
                  simp only [Act.put, List.setIfInBounds_toArray, List.set_cons_zero, List.set_cons_succ, i64_w, i32_w]
                  rfl
                 refine take_ (i := 8) (N := some 80) (v := ?_) (a' := ?_) #[true, true, true, true, true, true, true, true, true, false, false, false, false, false, false] rfl rfl (take_ofW HT_.out HW_.out (by kernel_rfl)) (fun _ _ _ h => h) (Or.inl ⟨by rfl, ?_⟩) hHeld ?_ ?_
                 rotate_left
                 ·
                  rintro w' ⟨s0, s1⟩
                  go_simp
                  with_reducible rfl
                 rotate_left
                 ·
                  simp only [Act.put, List.setIfInBounds_toArray, List.set_cons_zero, List.set_cons_succ, i64_w, i32_w]
                  rfl
                 refine one_ (i := 9) (N := some 81) #[true, true, true, true, true, true, true, true, true, true, false, false, false, false, false] rfl rfl (one_of HT_.out (by kernel_rfl)) (by decide) (fun K hK => ?_)
                 refine goes_ Try.func34 (by kernel_rfl) rfl #[.int .i64 (wrap64 (4 + (wrap64 (Int.tmod (IntKind.u64.wrap (a0)) 4)))), .int .i64 (rd y356 x14_2), .int .i64 (rd y359 x15_3)] (by rfl) rfl rfl (mapq rfl) ?_
                 with_reducible refine (avermentref07_Arith.calls (wrap64 (4 + (wrap64 (Int.tmod (IntKind.u64.wrap (a0)) 4)))) (rd y356 x14_2) (rd y359 x15_3) t364 true _ A59.out).mono ?_
                 rintro e w' ⟨rfl, ⟨nd, rfl⟩⟩
                 refine ⟨_, rfl, ?_⟩
                 refine hK.out _ _ ⟨hHeld.1, hHeld.2⟩ (fun hHeld => ?_)
                 clear hK K
                 refine norm_ (a' := ?_) ?_ ?_
                 rotate_left; · (show Act.put _ (some 81) _ = _; simp only [Act.put, List.setIfInBounds_toArray, List.set_cons_zero, List.set_cons_succ, i64_w, i32_w]; rfl)
                 refine pure_ (i := 10) (N := some 71) (v := ?_) (a' := ?_) #[true, true, true, true, true, true, true, true, true, true, true, false, false, false, false] rfl rfl (any_of HT_.out (by kernel_rfl)) (fun _ _ _ h => h) (Or.inl ⟨by rfl, ?_⟩) ?_ ?_
                 rotate_left; · (intro w'; go_simp; with_reducible rfl)
                 rotate_left; · (simp only [Act.put, List.setIfInBounds_toArray, List.set_cons_zero, List.set_cons_succ, i64_w, i32_w]; rfl)
                 refine pure_ (i := 11) (N := some 82) (v := ?_) (a' := ?_) #[true, true, true, true, true, true, true, true, true, true, true, true, false, false, false] rfl rfl (any_of HT_.out (by kernel_rfl)) (fun _ _ _ h => h) (Or.inl ⟨by rfl, ?_⟩) ?_ ?_
                 rotate_left; · (intro w'; go_simp; with_reducible rfl)
                 rotate_left; · (simp only [Act.put, List.setIfInBounds_toArray, List.set_cons_zero, List.set_cons_succ, i64_w, i32_w]; rfl)
                 refine pure_ (i := 12) (N := some 83) (v := ?_) (a' := ?_) #[true, true, true, true, true, true, true, true, true, true, true, true, true, false, false] rfl rfl (any_of HT_.out (by kernel_rfl)) (fun _ _ _ h => h) (Or.inl ⟨by rfl, ?_⟩) ?_ ?_
                 rotate_left; · (intro w'; go_simp; with_reducible rfl)
                 rotate_left; · (simp only [Act.put, List.setIfInBounds_toArray, List.set_cons_zero, List.set_cons_succ, i64_w, i32_w]; rfl)
                 refine pure_ (i := 13) (N := some 16) (v := ?_) (a' := ?_) #[true, true, true, true, true, true, true, true, true, true, true, true, true, true, false] rfl rfl (any_of HT_.out (by kernel_rfl)) (fun _ _ _ h => h) (Or.inl ⟨by rfl, ?_⟩) ?_ ?_
                 rotate_left; · (intro w'; go_simp; with_reducible rfl)
                 rotate_left; · (simp only [Act.put, List.setIfInBounds_toArray, List.set_cons_zero, List.set_cons_succ, i64_w, i32_w]; rfl)
                 refine pure_ (i := 14) (N := some 17) (v := ?_) (a' := ?_) #[true, true, true, true, true, true, true, true, true, true, true, true, true, true, true] rfl rfl (any_of HT_.out (by kernel_rfl)) (fun _ _ _ h => h) (Or.inl ⟨by rfl, ?_⟩) ?_ ?_
                 rotate_left; · (intro w'; go_simp; with_reducible rfl)
                 rotate_left; · (simp only [Act.put, List.setIfInBounds_toArray, List.set_cons_zero, List.set_cons_succ, i64_w, i32_w]; rfl)
                 refine done_ (done_of HT_.out (by kernel_rfl)) ?_
                 try go_wp2
                 (try (rw [drewN_self w77]; generalize hq_ : World.drewN w77 _ = w77; have n0_ : Aside0 (Kd.R (Kd.int .i64) 2 w77 w.heap.size (fun k_ => some k_ ≠ (.slice (some ad363) y359.length co76 : Value).ownBlock) (.slice (some ad362) y356.length co54) y356) := ⟨by rw [← hq_]; exact (by (with_reducible repeat (first | apply Kd.R_alloc | apply Kd.R_drewN | apply Kd.R_drew)); exact HO_10.out)⟩; have n1_ : Aside0 (Kd.R (Kd.int .i64) 2 w77 w.heap.size (fun k_ => some k_ ≠ (.slice (some ad362) y356.length co54 : Value).ownBlock) (.slice (some ad363) y359.length co76) y359) := ⟨by rw [← hq_]; exact (by (with_reducible repeat (first | apply Kd.R_alloc | apply Kd.R_drewN | apply Kd.R_drew)); exact HO_11.out)⟩; have n2_ : Aside0 (w77.heap[gb336]? = some (.cells #[.int .i64 t338, .int .i64 t339] 56 (0, 0))) := ⟨by rw [← hq_]; exact BK336.out⟩; have n3_ : Aside0 (w77.heap[gb337]? = some (.cells #[.int .i64 t340, .int .i64 t341] 56 (0, 0))) := ⟨by rw [← hq_]; exact BK337.out⟩; have n4_ : Aside0 (w77.heap[gb349]? = some (.cells #[.int .i64 t346, .int .i64 t347] 59 (0, 0))) := ⟨by rw [← hq_]; exact BK349.out⟩; have n5_ : Aside0 (Below w.heap.size w w77) := ⟨by rw [← hq_]; exact (by repeat (first | (with_reducible first | exact HB.out | apply below_alloc | apply pw_below_drewN | apply below_drew1 | refine below_set ?_ GE336.out | refine below_set ?_ GE337.out | refine below_set ?_ GE349.out) | exact HB.out))⟩; clear HO_10 HO_11 BK336 BK337 BK349 HB hq_; have HO_10 := n0_; have HO_11 := n1_; have BK336 := n2_; have BK337 := n3_; have BK349 := n4_; have HB := n5_; clear n0_ n1_ n2_ n3_ n4_ n5_))
                 replace HO_10 := Aside0.mk (Kd.R_drew HO_10.out); replace HO_11 := Aside0.mk (Kd.R_drew HO_11.out); replace BK336 := Aside0.mk (blk_drew BK336.out); replace BK337 := Aside0.mk (blk_drew BK337.out); replace BK349 := Aside0.mk (blk_drew BK349.out); replace HB := Aside0.mk (below_drew1 HB.out)
                 have p366 : 0 ≤ (x15_3 : Int) := of_decide_eq_true (by first | (with_reducible assumption) | assumption)
                 have q366 : x15_3 < (y359.length : Int) := of_decide_eq_true (by first | (with_reducible assumption) | assumption)
                 obtain ⟨ad366, e366, hx366_0⟩ := Kd.at_int (Kd.R_reads' HO_11.out).2.2 x15_3 p366 q366
                 obtain rfl : ad363 = ad366 := (by injection e366)
                 replace p366 := eq_true p366
                 replace q366 := eq_true q366
                 refine start_ (n := 9) (S := fun w' => w'.cell? ⟨gb337, 0, none⟩ = some (.int .i64 t340) ∧ w'.cell? ⟨gb337, 1, none⟩ = some (.int .i64 t341) ∧ w'.cell? (ad363.add (x15_3).toNat) = some (.int .i64 (rd y359 x15_3))) (ds := []) #[false, false, false, false, false, false, false, false, false] (by kernel_rfl) rfl rfl ⟨bc BK337 0 rfl, bc BK337 1 rfl, hx366_0⟩ (fun hHeld => ?_); refine with_tabW avermentlaw10_SpanEnds.tab16 avermentlaw10_SpanEnds.bits16 (fun HT_ HW_ => ?_)
                 generalize w77.drew = w78 at HO_10 HO_11 BK336 BK337 BK349 HB hx366_0 hHeld ⊢
                 refine pure_ (i := 0) (N := some 84) (v := ?_) (a' := ?_) #[true, false, false, false, false, false, false, false, false] rfl rfl (any_of HT_.out (by kernel_rfl)) (fun _ _ _ h => h) (Or.inl ⟨by rfl, ?_⟩) ?_ ?_
                 rotate_left; · (intro w'; go_simp; with_reducible rfl)
                 rotate_left; · (simp only [Act.put, List.setIfInBounds_toArray, List.set_cons_zero, List.set_cons_succ, i64_w, i32_w]; rfl)
                 refine pure_ (i := 1) (N := some 85) (v := ?_) (a' := ?_) #[true, true, false, false, false, false, false, false, false] rfl rfl (any_of HT_.out (by kernel_rfl)) (fun _ _ _ h => h) (Or.inl ⟨by rfl, ?_⟩) ?_ ?_
                 rotate_left; · (intro w'; go_simp; with_reducible rfl)
                 rotate_left; · (simp only [Act.put, List.setIfInBounds_toArray, List.set_cons_zero, List.set_cons_succ, i64_w, i32_w]; rfl)
                 refine pure_ (i := 3) (N := some 87) (v := ?_) (a' := ?_) #[true, true, false, true, false, false, false, false, false] rfl rfl (any_of HT_.out (by kernel_rfl)) (fun _ _ _ h => h) (Or.inl ⟨by rfl, ?_⟩) ?_ ?_
                 rotate_left; · (intro w'; go_simp; with_reducible rfl)
                 rotate_left; · (simp only [Act.put, List.setIfInBounds_toArray, List.set_cons_zero, List.set_cons_succ, i64_w, i32_w]; rfl)
                 refine pure_ (i := 4) (N := some 88) (v := ?_) (a' := ?_) #[true, true, false, true, true, false, false, false, false] rfl rfl (any_of HT_.out (by kernel_rfl)) (fun _ _ _ h => h) (Or.inl ⟨by rfl, ?_⟩) ?_ ?_
                 rotate_left; · (intro w'; go_simp; with_reducible rfl)
                 rotate_left; · (simp only [Act.put, List.setIfInBounds_toArray, List.set_cons_zero, List.set_cons_succ, i64_w, i32_w]; rfl)
                 refine pure_ (i := 5) (N := some 89) (v := ?_) (a' := ?_) #[true, true, false, true, true, true, false, false, false] rfl rfl (any_of HT_.out (by kernel_rfl)) (fun _ _ _ h => h) (Or.inl ⟨by rfl, ?_⟩) ?_ ?_
                 rotate_left; · (intro w'; go_simp; with_reducible rfl)
                 rotate_left; · (simp only [Act.put, List.setIfInBounds_toArray, List.set_cons_zero, List.set_cons_succ, i64_w, i32_w]; rfl)
                 refine take_ (i := 2) (N := some 86) (v := ?_) (a' := ?_) #[true, true, true, true, true, true, false, false, false] rfl rfl (take_ofW HT_.out HW_.out (by kernel_rfl)) (fun _ _ _ h => h) (Or.inl ⟨by rfl, ?_⟩) hHeld ?_ ?_
                 rotate_left
                 ·
                  rintro w' ⟨s0, s1, s2⟩
                  go_simp
                  with_reducible rfl
                 rotate_left
                 ·
                  simp only [Act.put, List.setIfInBounds_toArray, List.set_cons_zero, List.set_cons_succ, i64_w, i32_w]
                  rfl
                 refine take_ (i := 6) (N := some 90) (v := ?_) (a' := ?_) #[true, true, true, true, true, true, true, false, false] rfl rfl (take_ofW HT_.out HW_.out (by kernel_rfl)) (fun _ _ _ h => h) (Or.inl ⟨by rfl, ?_⟩) hHeld ?_ ?_
                 rotate_left
                 ·
                  rintro w' ⟨s0, s1, s2⟩
                  go_simp
                  with_reducible rfl
                 rotate_left
                 ·
                  simp only [Act.put, List.setIfInBounds_toArray, List.set_cons_zero, List.set_cons_succ, i64_w, i32_w]
                  rfl
                 refine one_ (i := 7) (N := some 91) #[true, true, true, true, true, true, true, true, false] rfl rfl (one_of HT_.out (by kernel_rfl)) (by decide) (fun K hK => ?_)
                 refine goes_ Try.func41 (by kernel_rfl) rfl #[.agg #[.int .i64 t340, .int .i64 t341], .int .i64 (rd y359 x15_3)] (by rfl) rfl rfl (mapq rfl) ?_
                 with_reducible refine (avermentref10_Has.calls t340 t341 (rd y359 x15_3) true _ A61.out).mono ?_
                 rintro e w79 ⟨rfl, hb⟩
                 have HS2_ := (hb.cell (World.block_lt_of_cell? _ _ (hHeld.2.2))).trans (hHeld.2.2)
                 refine ⟨_, rfl, ?_⟩
                 replace HO_10 := Aside0.mk (Kd.R_below (by (with_reducible repeat (first | apply Kd.R_alloc | apply Kd.R_drewN | apply Kd.R_drew)); exact HO_10.out) hb); replace HO_11 := Aside0.mk (Kd.R_below (by (with_reducible repeat (first | apply Kd.R_alloc | apply Kd.R_drewN | apply Kd.R_drew)); exact HO_11.out) hb); replace BK336 := bb BK336 hb rfl; replace BK337 := bb BK337 hb rfl; replace BK349 := bb BK349 hb rfl; replace HB := hst HB hb rfl
                 (try clear hb)
                 refine hK.out _ _ ⟨bc BK337 0 rfl, bc BK337 1 rfl, HS2_⟩ (fun hHeld => ?_)
                 clear hK K
                 refine norm_ (a' := ?_) ?_ ?_
                 rotate_left; · (show Act.put _ (some 91) _ = _; simp only [Act.put, List.setIfInBounds_toArray, List.set_cons_zero, List.set_cons_succ, i64_w, i32_w]; rfl)
                 refine pure_ (i := 8) (N := some 92) (v := ?_) (a' := ?_) #[true, true, true, true, true, true, true, true, true] rfl rfl (any_of HT_.out (by kernel_rfl)) (fun _ _ _ h => h) (Or.inl ⟨by rfl, ?_⟩) ?_ ?_
                 rotate_left; · (intro w'; go_simp; with_reducible rfl)
                 rotate_left; · (simp only [Act.put, List.setIfInBounds_toArray, List.set_cons_zero, List.set_cons_succ, i64_w, i32_w]; rfl)
                 refine done_ (done_of HT_.out (by kernel_rfl)) ?_
                 try go_wp2
                 replace HO_10 := Aside0.mk (Kd.R_drew HO_10.out); replace HO_11 := Aside0.mk (Kd.R_drew HO_11.out); replace BK336 := Aside0.mk (blk_drew BK336.out); replace BK337 := Aside0.mk (blk_drew BK337.out); replace BK349 := Aside0.mk (blk_drew BK349.out); replace HB := Aside0.mk (below_drew1 HB.out)
                 refine start_ (n := 16) (S := fun w' => w'.cell? ⟨gb349, 0, none⟩ = some (.int .i64 t346) ∧ w'.cell? ⟨gb349, 1, none⟩ = some (.int .i64 t347)) (ds := []) #[false, false, false, false, false, false, false, false, false, false, false, false, false, false, false, false] (by kernel_rfl) rfl rfl ⟨bc BK349 0 rfl, bc BK349 1 rfl⟩ (fun hHeld => ?_); refine with_tabW avermentlaw10_SpanEnds.tab17 avermentlaw10_SpanEnds.bits17 (fun HT_ HW_ => ?_)
                 generalize w79.drew = w80 at HO_10 HO_11 BK336 BK337 BK349 HB hHeld ⊢
                 refine pure_ (i := 0) (N := some 93) (v := ?_) (a' := ?_) #[true, false, false, false, false, false, false, false, false, false, false, false, false, false, false, false] rfl rfl (any_of HT_.out (by kernel_rfl)) (fun _ _ _ h => h) (Or.inl ⟨by rfl, ?_⟩) ?_ ?_
                 rotate_left; · (intro w'; go_simp; with_reducible rfl)
                 rotate_left; · (simp only [Act.put, List.setIfInBounds_toArray, List.set_cons_zero, List.set_cons_succ, i64_w, i32_w]; rfl)
                 refine pure_ (i := 1) (N := some 94) (v := ?_) (a' := ?_) #[true, true, false, false, false, false, false, false, false, false, false, false, false, false, false, false] rfl rfl (any_of HT_.out (by kernel_rfl)) (fun _ _ _ h => h) (Or.inl ⟨by rfl, ?_⟩) ?_ ?_
                 rotate_left; · (intro w'; go_simp; with_reducible rfl)
                 rotate_left; · (simp only [Act.put, List.setIfInBounds_toArray, List.set_cons_zero, List.set_cons_succ, i64_w, i32_w]; rfl)
                 refine pure_ (i := 2) (N := some 95) (v := ?_) (a' := ?_) #[true, true, true, false, false, false, false, false, false, false, false, false, false, false, false, false] rfl rfl (any_of HT_.out (by kernel_rfl)) (fun _ _ _ h => h) (Or.inl ⟨by rfl, ?_⟩) ?_ ?_
                 rotate_left; · (intro w'; go_simp; with_reducible rfl)
                 rotate_left; · (simp only [Act.put, List.setIfInBounds_toArray, List.set_cons_zero, List.set_cons_succ, i64_w, i32_w]; rfl)
                 refine pure_ (i := 3) (N := some 96) (v := ?_) (a' := ?_) #[true, true, true, true, false, false, false, false, false, false, false, false, false, false, false, false] rfl rfl (any_of HT_.out (by kernel_rfl)) (fun _ _ _ h => h) (Or.inl ⟨by rfl, ?_⟩) ?_ ?_
                 rotate_left; · (intro w'; go_simp; with_reducible rfl)
                 rotate_left; · (simp only [Act.put, List.setIfInBounds_toArray, List.set_cons_zero, List.set_cons_succ, i64_w, i32_w]; rfl)
                 refine pure_ (i := 7) (N := some 100) (v := ?_) (a' := ?_) #[true, true, true, true, false, false, false, true, false, false, false, false, false, false, false, false] rfl rfl (any_of HT_.out (by kernel_rfl)) (fun _ _ _ h => h) (Or.inl ⟨by rfl, ?_⟩) ?_ ?_
                 rotate_left; · (intro w'; go_simp; with_reducible rfl)
                 rotate_left; · (simp only [Act.put, List.setIfInBounds_toArray, List.set_cons_zero, List.set_cons_succ, i64_w, i32_w]; rfl)
                 refine pure_ (i := 8) (N := some 101) (v := ?_) (a' := ?_) #[true, true, true, true, false, false, false, true, true, false, false, false, false, false, false, false] rfl rfl (any_of HT_.out (by kernel_rfl)) (fun _ _ _ h => h) (Or.inl ⟨by rfl, ?_⟩) ?_ ?_
                 rotate_left; · (intro w'; go_simp; with_reducible rfl)
                 rotate_left; · (simp only [Act.put, List.setIfInBounds_toArray, List.set_cons_zero, List.set_cons_succ, i64_w, i32_w]; rfl)
                 refine pure_ (i := 9) (N := some 102) (v := undef) (a' := ?_) #[true, true, true, true, false, false, false, true, true, true, false, false, false, false, false, false] rfl rfl (any_of HT_.out (by kernel_rfl)) (fun _ _ _ h => h) (Or.inr ⟨by rfl, rfl⟩) ?_ ?_
                 rotate_left
                 ·
                  simp only [Act.put, List.setIfInBounds_toArray, List.set_cons_zero, List.set_cons_succ, i64_w, i32_w]
                  rfl
                 refine pure_ (i := 10) (N := some 103) (v := undef) (a' := ?_) #[true, true, true, true, false, false, false, true, true, true, true, false, false, false, false, false] rfl rfl (any_of HT_.out (by kernel_rfl)) (fun _ _ _ h => h) (Or.inr ⟨by rfl, rfl⟩) ?_ ?_
                 rotate_left
                 ·
                  simp only [Act.put, List.setIfInBounds_toArray, List.set_cons_zero, List.set_cons_succ, i64_w, i32_w]
                  rfl
                 refine pure_ (i := 11) (N := some 104) (v := undef) (a' := ?_) #[true, true, true, true, false, false, false, true, true, true, true, true, false, false, false, false] rfl rfl (any_of HT_.out (by kernel_rfl)) (fun _ _ _ h => h) (Or.inr ⟨by rfl, rfl⟩) ?_ ?_
                 rotate_left
                 ·
                  simp only [Act.put, List.setIfInBounds_toArray, List.set_cons_zero, List.set_cons_succ, i64_w, i32_w]
                  rfl
                 refine pure_ (i := 12) (N := some 105) (v := undef) (a' := ?_) #[true, true, true, true, false, false, false, true, true, true, true, true, true, false, false, false] rfl rfl (any_of HT_.out (by kernel_rfl)) (fun _ _ _ h => h) (Or.inr ⟨by rfl, rfl⟩) ?_ ?_
                 rotate_left
                 ·
                  simp only [Act.put, List.setIfInBounds_toArray, List.set_cons_zero, List.set_cons_succ, i64_w, i32_w]
                  rfl
                 refine pure_ (i := 13) (N := some 106) (v := ?_) (a' := ?_) #[true, true, true, true, false, false, false, true, true, true, true, true, true, true, false, false] rfl rfl (any_of HT_.out (by kernel_rfl)) (fun _ _ _ h => h) (Or.inl ⟨by rfl, ?_⟩) ?_ ?_
                 rotate_left; · (intro w'; go_simp; with_reducible rfl)
                 rotate_left; · (simp only [Act.put, List.setIfInBounds_toArray, List.set_cons_zero, List.set_cons_succ, i64_w, i32_w]; rfl)
                 refine take_ (i := 4) (N := some 97) (v := ?_) (a' := ?_) #[true, true, true, true, true, false, false, true, true, true, true, true, true, true, false, false] rfl rfl (take_ofW HT_.out HW_.out (by kernel_rfl)) (fun _ _ _ h => h) (Or.inl ⟨by rfl, ?_⟩) hHeld ?_ ?_
                 rotate_left
                 ·
                  rintro w' ⟨s0, s1⟩
                  go_simp
                  with_reducible rfl
                 rotate_left
                 ·
                  simp only [Act.put, List.setIfInBounds_toArray, List.set_cons_zero, List.set_cons_succ, i64_w, i32_w]
                  rfl
                 refine pure_ (i := 5) (N := some 98) (v := ?_) (a' := ?_) #[true, true, true, true, true, true, false, true, true, true, true, true, true, true, false, false] rfl rfl (any_of HT_.out (by kernel_rfl)) (fun _ _ _ h => h) (Or.inl ⟨by rfl, ?_⟩) ?_ ?_
                 rotate_left; · (intro w'; go_simp; with_reducible rfl)
                 rotate_left; · (simp only [Act.put, List.setIfInBounds_toArray, List.set_cons_zero, List.set_cons_succ, i64_w, i32_w]; rfl)
                 refine pure_ (i := 6) (N := some 99) (v := ?_) (a' := ?_) #[true, true, true, true, true, true, true, true, true, true, true, true, true, true, false, false] rfl rfl (any_of HT_.out (by kernel_rfl)) (fun _ _ _ h => h) (Or.inl ⟨by rfl, ?_⟩) ?_ ?_
                 rotate_left; · (intro w'; go_simp; with_reducible rfl)
                 rotate_left; · (simp only [Act.put, List.setIfInBounds_toArray, List.set_cons_zero, List.set_cons_succ, i64_w, i32_w]; rfl)
                 refine pure_ (i := 14) (N := some 12) (v := ?_) (a' := ?_) #[true, true, true, true, true, true, true, true, true, true, true, true, true, true, true, false] rfl rfl (any_of HT_.out (by kernel_rfl)) (fun _ _ _ h => h) (Or.inl ⟨by rfl, ?_⟩) ?_ ?_
                 rotate_left; · (intro w'; go_simp; with_reducible rfl)
                 rotate_left; · (simp only [Act.put, List.setIfInBounds_toArray, List.set_cons_zero, List.set_cons_succ, i64_w, i32_w]; rfl)
                 refine pure_ (i := 15) (N := some 13) (v := ?_) (a' := ?_) #[true, true, true, true, true, true, true, true, true, true, true, true, true, true, true, true] rfl rfl (any_of HT_.out (by kernel_rfl)) (fun _ _ _ h => h) (Or.inl ⟨by rfl, ?_⟩) ?_ ?_
                 rotate_left; · (intro w'; go_simp; with_reducible rfl)
                 rotate_left; · (simp only [Act.put, List.setIfInBounds_toArray, List.set_cons_zero, List.set_cons_succ, i64_w, i32_w]; rfl)
                 refine done_ (done_of HT_.out (by kernel_rfl)) ?_
                 try go_wp2
                 go_roundg k3
                 case measure => have := HJ8.out; have := HK2.out; have := HK3.out; omega
                 case rel => exact ⟨((t364 == t346)), (true), (wrap64 (x15_3 + 1)), (by first | rfl | (simp; done) | (simp [*]; done)), (by first | rfl | (simp; done) | (simp [*]; done)), (by first | rfl | (simp; done) | (simp [*]; done)), H', ⟨by have := HJ8.out; have := HK2.out; have := HK3.out; omega⟩, ⟨by (with_reducible repeat (first | apply Kd.R_alloc | apply Kd.R_drewN | apply Kd.R_drew)); exact HO_10.out⟩, ⟨by (with_reducible repeat (first | apply Kd.R_alloc | apply Kd.R_drewN | apply Kd.R_drew)); exact HO_11.out⟩, ⟨by (with_reducible repeat (first | refine blk_drewN ?_ _ | refine blk_drew ?_ | refine blk_alloc ?_ _)); exact BK336.out⟩, ⟨by (with_reducible repeat (first | refine blk_drewN ?_ _ | refine blk_drew ?_ | refine blk_alloc ?_ _)); exact BK337.out⟩, ⟨by (with_reducible repeat (first | refine blk_drewN ?_ _ | refine blk_drew ?_ | refine blk_alloc ?_ _)); exact BK349.out⟩, ⟨by repeat (first | (with_reducible first | exact HB.out | apply below_alloc | apply pw_below_drewN | apply below_drew1 | refine below_set ?_ GE336.out | refine below_set ?_ GE337.out | refine below_set ?_ GE349.out) | exact HB.out)⟩⟩
                ·
                 replace c75 := Bool.eq_false_iff.mpr c75
                 subst c75
                 rw [if_neg (show ¬ (false = true) by decide)] at H
                 have H' := Aside0.mk H
                 clear H
                 obtain ⟨Ao81, co81, eo81⟩ := Kd.R_slice HO_11.out
                 subst eo81
                 try go_wp2
                 replace HO_10 := Aside0.mk (Kd.R_drew HO_10.out); replace HO_11 := Aside0.mk (Kd.R_drew HO_11.out); replace BK336 := Aside0.mk (blk_drew BK336.out); replace BK337 := Aside0.mk (blk_drew BK337.out); replace BK349 := Aside0.mk (blk_drew BK349.out); replace HB := Aside0.mk (below_drew1 HB.out)
                 have p362 : 0 ≤ (x14_2 : Int) := of_decide_eq_true (by first | (with_reducible assumption) | assumption)
                 have q362 : x14_2 < (y356.length : Int) := of_decide_eq_true (by first | (with_reducible assumption) | assumption)
                 obtain ⟨ad362, e362, hx362_0⟩ := Kd.at_int (Kd.R_reads' HO_10.out).2.2 x14_2 p362 q362
                 cases e362
                 replace p362 := eq_true p362
                 replace q362 := eq_true q362
                 have p363 : 0 ≤ (x15_3 : Int) := of_decide_eq_true (by first | (with_reducible assumption) | assumption)
                 have q363 : x15_3 < (y359.length : Int) := of_decide_eq_true (by first | (with_reducible assumption) | assumption)
                 obtain ⟨ad363, e363, hx363_0⟩ := Kd.at_int (Kd.R_reads' HO_11.out).2.2 x15_3 p363 q363
                 cases e363
                 replace p363 := eq_true p363
                 replace q363 := eq_true q363
                 refine start_ (n := 15) (S := fun w' => w'.cell? (ad362.add (x14_2).toNat) = some (.int .i64 (rd y356 x14_2)) ∧ w'.cell? (ad363.add (x15_3).toNat) = some (.int .i64 (rd y359 x15_3))) (ds := []) #[false, false, false, false, false, false, false, false, false, false, false, false, false, false, false] (by kernel_rfl) rfl rfl ⟨hx362_0, hx363_0⟩ (fun hHeld => ?_); refine with_tabW avermentlaw10_SpanEnds.tab15 avermentlaw10_SpanEnds.bits15 (fun HT_ HW_ => ?_)
                 generalize wr.drew = w82 at HO_10 HO_11 BK336 BK337 BK349 HB hx362_0 hx363_0 hHeld ⊢
                 refine pure_ (i := 0) (N := some 72) (v := ?_) (a' := ?_) #[true, false, false, false, false, false, false, false, false, false, false, false, false, false, false] rfl rfl (any_of HT_.out (by kernel_rfl)) (fun _ _ _ h => h) (Or.inl ⟨by rfl, ?_⟩) ?_ ?_
                 rotate_left; · (intro w'; go_simp; with_reducible rfl)
                 rotate_left; · (simp only [Act.put, List.setIfInBounds_toArray, List.set_cons_zero, List.set_cons_succ, i64_w, i32_w]; rfl)
                 refine pure_ (i := 1) (N := some 73) (v := ?_) (a' := ?_) #[true, true, false, false, false, false, false, false, false, false, false, false, false, false, false] rfl rfl (any_of HT_.out (by kernel_rfl)) (fun _ _ _ h => h) (Or.inl ⟨by rfl, ?_⟩) ?_ ?_
                 rotate_left; · (intro w'; go_simp; with_reducible rfl)
                 rotate_left; · (simp only [Act.put, List.setIfInBounds_toArray, List.set_cons_zero, List.set_cons_succ, i64_w, i32_w]; rfl)
                 refine pure_ (i := 2) (N := some 74) (v := ?_) (a' := ?_) #[true, true, true, false, false, false, false, false, false, false, false, false, false, false, false] rfl rfl (any_of HT_.out (by kernel_rfl)) (fun _ _ _ h => h) (Or.inl ⟨by rfl, ?_⟩) ?_ ?_
                 rotate_left; · (intro w'; go_simp; with_reducible rfl)
                 rotate_left; · (simp only [Act.put, List.setIfInBounds_toArray, List.set_cons_zero, List.set_cons_succ, i64_w, i32_w]; rfl)
                 refine pure_ (i := 3) (N := some 75) (v := ?_) (a' := ?_) #[true, true, true, true, false, false, false, false, false, false, false, false, false, false, false] rfl rfl (any_of HT_.out (by kernel_rfl)) (fun _ _ _ h => h) (Or.inl ⟨by rfl, ?_⟩) ?_ ?_
                 rotate_left; · (intro w'; go_simp; with_reducible rfl)
                 rotate_left; · (simp only [Act.put, List.setIfInBounds_toArray, List.set_cons_zero, List.set_cons_succ, i64_w, i32_w]; rfl)
                 refine pure_ (i := 5) (N := some 77) (v := ?_) (a' := ?_) #[true, true, true, true, false, true, false, false, false, false, false, false, false, false, false] rfl rfl (any_of HT_.out (by kernel_rfl)) (fun _ _ _ h => h) (Or.inl ⟨by rfl, ?_⟩) ?_ ?_
                 rotate_left; · (intro w'; go_simp; with_reducible rfl)
                 rotate_left; · (simp only [Act.put, List.setIfInBounds_toArray, List.set_cons_zero, List.set_cons_succ, i64_w, i32_w]; rfl)
                 refine pure_ (i := 6) (N := some 78) (v := ?_) (a' := ?_) #[true, true, true, true, false, true, true, false, false, false, false, false, false, false, false] rfl rfl (any_of HT_.out (by kernel_rfl)) (fun _ _ _ h => h) (Or.inl ⟨by rfl, ?_⟩) ?_ ?_
                 rotate_left; · (intro w'; go_simp; with_reducible rfl)
                 rotate_left; · (simp only [Act.put, List.setIfInBounds_toArray, List.set_cons_zero, List.set_cons_succ, i64_w, i32_w]; rfl)
                 refine pure_ (i := 7) (N := some 79) (v := ?_) (a' := ?_) #[true, true, true, true, false, true, true, true, false, false, false, false, false, false, false] rfl rfl (any_of HT_.out (by kernel_rfl)) (fun _ _ _ h => h) (Or.inl ⟨by rfl, ?_⟩) ?_ ?_
                 rotate_left; · (intro w'; go_simp; with_reducible rfl)
                 rotate_left; · (simp only [Act.put, List.setIfInBounds_toArray, List.set_cons_zero, List.set_cons_succ, i64_w, i32_w]; rfl)
                 refine take_ (i := 4) (N := some 76) (v := ?_) (a' := ?_) #[true, true, true, true, true, true, true, true, false, false, false, false, false, false, false] rfl rfl (take_ofW HT_.out HW_.out (by kernel_rfl)) (fun _ _ _ h => h) (Or.inl ⟨by rfl, ?_⟩) hHeld ?_ ?_
                 rotate_left
                 ·
                  rintro w' ⟨s0, s1⟩
                  go_simp
                  with_reducible rfl
                 rotate_left
                 ·
                  simp only [Act.put, List.setIfInBounds_toArray, List.set_cons_zero, List.set_cons_succ, i64_w, i32_w]
                  rfl
                 refine take_ (i := 8) (N := some 80) (v := ?_) (a' := ?_) #[true, true, true, true, true, true, true, true, true, false, false, false, false, false, false] rfl rfl (take_ofW HT_.out HW_.out (by kernel_rfl)) (fun _ _ _ h => h) (Or.inl ⟨by rfl, ?_⟩) hHeld ?_ ?_
                 rotate_left
                 ·
                  rintro w' ⟨s0, s1⟩
                  go_simp
                  with_reducible rfl
                 rotate_left
                 ·
                  simp only [Act.put, List.setIfInBounds_toArray, List.set_cons_zero, List.set_cons_succ, i64_w, i32_w]
                  rfl
                 refine one_ (i := 9) (N := some 81) #[true, true, true, true, true, true, true, true, true, true, false, false, false, false, false] rfl rfl (one_of HT_.out (by kernel_rfl)) (by decide) (fun K hK => ?_)
                 refine goes_ Try.func34 (by kernel_rfl) rfl #[.int .i64 (wrap64 (4 + (wrap64 (Int.tmod (IntKind.u64.wrap (a0)) 4)))), .int .i64 (rd y356 x14_2), .int .i64 (rd y359 x15_3)] (by rfl) rfl rfl (mapq rfl) ?_
                 with_reducible refine (avermentref07_Arith.calls (wrap64 (4 + (wrap64 (Int.tmod (IntKind.u64.wrap (a0)) 4)))) (rd y356 x14_2) (rd y359 x15_3) t364 true _ A59.out).mono ?_
                 rintro e w' ⟨rfl, ⟨nd, rfl⟩⟩
                 refine ⟨_, rfl, ?_⟩
                 refine hK.out _ _ ⟨hHeld.1, hHeld.2⟩ (fun hHeld => ?_)
                 clear hK K
                 refine norm_ (a' := ?_) ?_ ?_
                 rotate_left; · (show Act.put _ (some 81) _ = _; simp only [Act.put, List.setIfInBounds_toArray, List.set_cons_zero, List.set_cons_succ, i64_w, i32_w]; rfl)
                 refine pure_ (i := 10) (N := some 71) (v := ?_) (a' := ?_) #[true, true, true, true, true, true, true, true, true, true, true, false, false, false, false] rfl rfl (any_of HT_.out (by kernel_rfl)) (fun _ _ _ h => h) (Or.inl ⟨by rfl, ?_⟩) ?_ ?_
                 rotate_left; · (intro w'; go_simp; with_reducible rfl)
                 rotate_left; · (simp only [Act.put, List.setIfInBounds_toArray, List.set_cons_zero, List.set_cons_succ, i64_w, i32_w]; rfl)
                 refine pure_ (i := 11) (N := some 82) (v := ?_) (a' := ?_) #[true, true, true, true, true, true, true, true, true, true, true, true, false, false, false] rfl rfl (any_of HT_.out (by kernel_rfl)) (fun _ _ _ h => h) (Or.inl ⟨by rfl, ?_⟩) ?_ ?_
                 rotate_left; · (intro w'; go_simp; with_reducible rfl)
                 rotate_left; · (simp only [Act.put, List.setIfInBounds_toArray, List.set_cons_zero, List.set_cons_succ, i64_w, i32_w]; rfl)
                 refine pure_ (i := 12) (N := some 83) (v := ?_) (a' := ?_) #[true, true, true, true, true, true, true, true, true, true, true, true, true, false, false] rfl rfl (any_of HT_.out (by kernel_rfl)) (fun _ _ _ h => h) (Or.inl ⟨by rfl, ?_⟩) ?_ ?_
                 rotate_left; · (intro w'; go_simp; with_reducible rfl)
                 rotate_left; · (simp only [Act.put, List.setIfInBounds_toArray, List.set_cons_zero, List.set_cons_succ, i64_w, i32_w]; rfl)
                 refine pure_ (i := 13) (N := some 16) (v := ?_) (a' := ?_) #[true, true, true, true, true, true, true, true, true, true, true, true, true, true, false] rfl rfl (any_of HT_.out (by kernel_rfl)) (fun _ _ _ h => h) (Or.inl ⟨by rfl, ?_⟩) ?_ ?_
                 rotate_left; · (intro w'; go_simp; with_reducible rfl)
                 rotate_left; · (simp only [Act.put, List.setIfInBounds_toArray, List.set_cons_zero, List.set_cons_succ, i64_w, i32_w]; rfl)
                 refine pure_ (i := 14) (N := some 17) (v := ?_) (a' := ?_) #[true, true, true, true, true, true, true, true, true, true, true, true, true, true, true] rfl rfl (any_of HT_.out (by kernel_rfl)) (fun _ _ _ h => h) (Or.inl ⟨by rfl, ?_⟩) ?_ ?_
                 rotate_left; · (intro w'; go_simp; with_reducible rfl)
                 rotate_left; · (simp only [Act.put, List.setIfInBounds_toArray, List.set_cons_zero, List.set_cons_succ, i64_w, i32_w]; rfl)
                 refine done_ (done_of HT_.out (by kernel_rfl)) ?_
                 try go_wp2
                 (try (rw [drewN_self w82]; generalize hq_ : World.drewN w82 _ = w82; have n0_ : Aside0 (Kd.R (Kd.int .i64) 2 w82 w.heap.size (fun k_ => some k_ ≠ (.slice (some ad363) y359.length co81 : Value).ownBlock) (.slice (some ad362) y356.length co54) y356) := ⟨by rw [← hq_]; exact (by (with_reducible repeat (first | apply Kd.R_alloc | apply Kd.R_drewN | apply Kd.R_drew)); exact HO_10.out)⟩; have n1_ : Aside0 (Kd.R (Kd.int .i64) 2 w82 w.heap.size (fun k_ => some k_ ≠ (.slice (some ad362) y356.length co54 : Value).ownBlock) (.slice (some ad363) y359.length co81) y359) := ⟨by rw [← hq_]; exact (by (with_reducible repeat (first | apply Kd.R_alloc | apply Kd.R_drewN | apply Kd.R_drew)); exact HO_11.out)⟩; have n2_ : Aside0 (w82.heap[gb336]? = some (.cells #[.int .i64 t338, .int .i64 t339] 56 (0, 0))) := ⟨by rw [← hq_]; exact BK336.out⟩; have n3_ : Aside0 (w82.heap[gb337]? = some (.cells #[.int .i64 t340, .int .i64 t341] 56 (0, 0))) := ⟨by rw [← hq_]; exact BK337.out⟩; have n4_ : Aside0 (w82.heap[gb349]? = some (.cells #[.int .i64 t346, .int .i64 t347] 59 (0, 0))) := ⟨by rw [← hq_]; exact BK349.out⟩; have n5_ : Aside0 (Below w.heap.size w w82) := ⟨by rw [← hq_]; exact (by repeat (first | (with_reducible first | exact HB.out | apply below_alloc | apply pw_below_drewN | apply below_drew1 | refine below_set ?_ GE336.out | refine below_set ?_ GE337.out | refine below_set ?_ GE349.out) | exact HB.out))⟩; clear HO_10 HO_11 BK336 BK337 BK349 HB hq_; have HO_10 := n0_; have HO_11 := n1_; have BK336 := n2_; have BK337 := n3_; have BK349 := n4_; have HB := n5_; clear n0_ n1_ n2_ n3_ n4_ n5_))
                 replace HO_10 := Aside0.mk (Kd.R_drew HO_10.out); replace HO_11 := Aside0.mk (Kd.R_drew HO_11.out); replace BK336 := Aside0.mk (blk_drew BK336.out); replace BK337 := Aside0.mk (blk_drew BK337.out); replace BK349 := Aside0.mk (blk_drew BK349.out); replace HB := Aside0.mk (below_drew1 HB.out)
                 have p366 : 0 ≤ (x15_3 : Int) := of_decide_eq_true (by first | (with_reducible assumption) | assumption)
                 have q366 : x15_3 < (y359.length : Int) := of_decide_eq_true (by first | (with_reducible assumption) | assumption)
                 obtain ⟨ad366, e366, hx366_0⟩ := Kd.at_int (Kd.R_reads' HO_11.out).2.2 x15_3 p366 q366
                 obtain rfl : ad363 = ad366 := (by injection e366)
                 replace p366 := eq_true p366
                 replace q366 := eq_true q366
                 refine start_ (n := 9) (S := fun w' => w'.cell? ⟨gb337, 0, none⟩ = some (.int .i64 t340) ∧ w'.cell? ⟨gb337, 1, none⟩ = some (.int .i64 t341) ∧ w'.cell? (ad363.add (x15_3).toNat) = some (.int .i64 (rd y359 x15_3))) (ds := []) #[false, false, false, false, false, false, false, false, false] (by kernel_rfl) rfl rfl ⟨bc BK337 0 rfl, bc BK337 1 rfl, hx366_0⟩ (fun hHeld => ?_); refine with_tabW avermentlaw10_SpanEnds.tab16 avermentlaw10_SpanEnds.bits16 (fun HT_ HW_ => ?_)
                 generalize w82.drew = w83 at HO_10 HO_11 BK336 BK337 BK349 HB hx366_0 hHeld ⊢
                 refine pure_ (i := 0) (N := some 84) (v := ?_) (a' := ?_) #[true, false, false, false, false, false, false, false, false] rfl rfl (any_of HT_.out (by kernel_rfl)) (fun _ _ _ h => h) (Or.inl ⟨by rfl, ?_⟩) ?_ ?_
                 rotate_left; · (intro w'; go_simp; with_reducible rfl)
                 rotate_left; · (simp only [Act.put, List.setIfInBounds_toArray, List.set_cons_zero, List.set_cons_succ, i64_w, i32_w]; rfl)
                 refine pure_ (i := 1) (N := some 85) (v := ?_) (a' := ?_) #[true, true, false, false, false, false, false, false, false] rfl rfl (any_of HT_.out (by kernel_rfl)) (fun _ _ _ h => h) (Or.inl ⟨by rfl, ?_⟩) ?_ ?_
                 rotate_left; · (intro w'; go_simp; with_reducible rfl)
                 rotate_left; · (simp only [Act.put, List.setIfInBounds_toArray, List.set_cons_zero, List.set_cons_succ, i64_w, i32_w]; rfl)
                 refine pure_ (i := 3) (N := some 87) (v := ?_) (a' := ?_) #[true, true, false, true, false, false, false, false, false] rfl rfl (any_of HT_.out (by kernel_rfl)) (fun _ _ _ h => h) (Or.inl ⟨by rfl, ?_⟩) ?_ ?_
                 rotate_left; · (intro w'; go_simp; with_reducible rfl)
                 rotate_left; · (simp only [Act.put, List.setIfInBounds_toArray, List.set_cons_zero, List.set_cons_succ, i64_w, i32_w]; rfl)
                 refine pure_ (i := 4) (N := some 88) (v := ?_) (a' := ?_) #[true, true, false, true, true, false, false, false, false] rfl rfl (any_of HT_.out (by kernel_rfl)) (fun _ _ _ h => h) (Or.inl ⟨by rfl, ?_⟩) ?_ ?_
                 rotate_left; · (intro w'; go_simp; with_reducible rfl)
                 rotate_left; · (simp only [Act.put, List.setIfInBounds_toArray, List.set_cons_zero, List.set_cons_succ, i64_w, i32_w]; rfl)
                 refine pure_ (i := 5) (N := some 89) (v := ?_) (a' := ?_) #[true, true, false, true, true, true, false, false, false] rfl rfl (any_of HT_.out (by kernel_rfl)) (fun _ _ _ h => h) (Or.inl ⟨by rfl, ?_⟩) ?_ ?_
                 rotate_left; · (intro w'; go_simp; with_reducible rfl)
                 rotate_left; · (simp only [Act.put, List.setIfInBounds_toArray, List.set_cons_zero, List.set_cons_succ, i64_w, i32_w]; rfl)
                 refine take_ (i := 2) (N := some 86) (v := ?_) (a' := ?_) #[true, true, true, true, true, true, false, false, false] rfl rfl (take_ofW HT_.out HW_.out (by kernel_rfl)) (fun _ _ _ h => h) (Or.inl ⟨by rfl, ?_⟩) hHeld ?_ ?_
                 rotate_left
                 ·
                  rintro w' ⟨s0, s1, s2⟩
                  go_simp
                  with_reducible rfl
                 rotate_left
                 ·
                  simp only [Act.put, List.setIfInBounds_toArray, List.set_cons_zero, List.set_cons_succ, i64_w, i32_w]
                  rfl
                 refine take_ (i := 6) (N := some 90) (v := ?_) (a' := ?_) #[true, true, true, true, true, true, true, false, false] rfl rfl (take_ofW HT_.out HW_.out (by kernel_rfl)) (fun _ _ _ h => h) (Or.inl ⟨by rfl, ?_⟩) hHeld ?_ ?_
                 rotate_left
                 ·
                  rintro w' ⟨s0, s1, s2⟩
                  go_simp
                  with_reducible rfl
                 rotate_left
                 ·
                  simp only [Act.put, List.setIfInBounds_toArray, List.set_cons_zero, List.set_cons_succ, i64_w, i32_w]
                  rfl
                 refine one_ (i := 7) (N := some 91) #[true, true, true, true, true, true, true, true, false] rfl rfl (one_of HT_.out (by kernel_rfl)) (by decide) (fun K hK => ?_)
                 refine goes_ Try.func41 (by kernel_rfl) rfl #[.agg #[.int .i64 t340, .int .i64 t341], .int .i64 (rd y359 x15_3)] (by rfl) rfl rfl (mapq rfl) ?_
                 with_reducible refine (avermentref10_Has.calls t340 t341 (rd y359 x15_3) true _ A61.out).mono ?_
                 rintro e w84 ⟨rfl, hb⟩
                 have HS2_ := (hb.cell (World.block_lt_of_cell? _ _ (hHeld.2.2))).trans (hHeld.2.2)
                 refine ⟨_, rfl, ?_⟩
                 replace HO_10 := Aside0.mk (Kd.R_below (by (with_reducible repeat (first | apply Kd.R_alloc | apply Kd.R_drewN | apply Kd.R_drew)); exact HO_10.out) hb); replace HO_11 := Aside0.mk (Kd.R_below (by (with_reducible repeat (first | apply Kd.R_alloc | apply Kd.R_drewN | apply Kd.R_drew)); exact HO_11.out) hb); replace BK336 := bb BK336 hb rfl; replace BK337 := bb BK337 hb rfl; replace BK349 := bb BK349 hb rfl; replace HB := hst HB hb rfl
                 (try clear hb)
                 refine hK.out _ _ ⟨bc BK337 0 rfl, bc BK337 1 rfl, HS2_⟩ (fun hHeld => ?_)
                 clear hK K
                 refine norm_ (a' := ?_) ?_ ?_
                 rotate_left; · (show Act.put _ (some 91) _ = _; simp only [Act.put, List.setIfInBounds_toArray, List.set_cons_zero, List.set_cons_succ, i64_w, i32_w]; rfl)
                 refine pure_ (i := 8) (N := some 92) (v := ?_) (a' := ?_) #[true, true, true, true, true, true, true, true, true] rfl rfl (any_of HT_.out (by kernel_rfl)) (fun _ _ _ h => h) (Or.inl ⟨by rfl, ?_⟩) ?_ ?_
                 rotate_left; · (intro w'; go_simp; with_reducible rfl)
                 rotate_left; · (simp only [Act.put, List.setIfInBounds_toArray, List.set_cons_zero, List.set_cons_succ, i64_w, i32_w]; rfl)
                 refine done_ (done_of HT_.out (by kernel_rfl)) ?_
                 try go_wp2
                 replace HO_10 := Aside0.mk (Kd.R_drew HO_10.out); replace HO_11 := Aside0.mk (Kd.R_drew HO_11.out); replace BK336 := Aside0.mk (blk_drew BK336.out); replace BK337 := Aside0.mk (blk_drew BK337.out); replace BK349 := Aside0.mk (blk_drew BK349.out); replace HB := Aside0.mk (below_drew1 HB.out)
                 refine start_ (n := 16) (S := fun w' => w'.cell? ⟨gb349, 0, none⟩ = some (.int .i64 t346) ∧ w'.cell? ⟨gb349, 1, none⟩ = some (.int .i64 t347)) (ds := []) #[false, false, false, false, false, false, false, false, false, false, false, false, false, false, false, false] (by kernel_rfl) rfl rfl ⟨bc BK349 0 rfl, bc BK349 1 rfl⟩ (fun hHeld => ?_); refine with_tabW avermentlaw10_SpanEnds.tab17 avermentlaw10_SpanEnds.bits17 (fun HT_ HW_ => ?_)
                 generalize w84.drew = w85 at HO_10 HO_11 BK336 BK337 BK349 HB hHeld ⊢
                 refine pure_ (i := 0) (N := some 93) (v := ?_) (a' := ?_) #[true, false, false, false, false, false, false, false, false, false, false, false, false, false, false, false] rfl rfl (any_of HT_.out (by kernel_rfl)) (fun _ _ _ h => h) (Or.inl ⟨by rfl, ?_⟩) ?_ ?_
                 rotate_left; · (intro w'; go_simp; with_reducible rfl)
                 rotate_left; · (simp only [Act.put, List.setIfInBounds_toArray, List.set_cons_zero, List.set_cons_succ, i64_w, i32_w]; rfl)
                 refine pure_ (i := 1) (N := some 94) (v := ?_) (a' := ?_) #[true, true, false, false, false, false, false, false, false, false, false, false, false, false, false, false] rfl rfl (any_of HT_.out (by kernel_rfl)) (fun _ _ _ h => h) (Or.inl ⟨by rfl, ?_⟩) ?_ ?_
                 rotate_left; · (intro w'; go_simp; with_reducible rfl)
                 rotate_left; · (simp only [Act.put, List.setIfInBounds_toArray, List.set_cons_zero, List.set_cons_succ, i64_w, i32_w]; rfl)
                 refine pure_ (i := 2) (N := some 95) (v := ?_) (a' := ?_) #[true, true, true, false, false, false, false, false, false, false, false, false, false, false, false, false] rfl rfl (any_of HT_.out (by kernel_rfl)) (fun _ _ _ h => h) (Or.inl ⟨by rfl, ?_⟩) ?_ ?_
                 rotate_left; · (intro w'; go_simp; with_reducible rfl)
                 rotate_left; · (simp only [Act.put, List.setIfInBounds_toArray, List.set_cons_zero, List.set_cons_succ, i64_w, i32_w]; rfl)
                 refine pure_ (i := 3) (N := some 96) (v := ?_) (a' := ?_) #[true, true, true, true, false, false, false, false, false, false, false, false, false, false, false, false] rfl rfl (any_of HT_.out (by kernel_rfl)) (fun _ _ _ h => h) (Or.inl ⟨by rfl, ?_⟩) ?_ ?_
                 rotate_left; · (intro w'; go_simp; with_reducible rfl)
                 rotate_left; · (simp only [Act.put, List.setIfInBounds_toArray, List.set_cons_zero, List.set_cons_succ, i64_w, i32_w]; rfl)
                 refine pure_ (i := 7) (N := some 100) (v := ?_) (a' := ?_) #[true, true, true, true, false, false, false, true, false, false, false, false, false, false, false, false] rfl rfl (any_of HT_.out (by kernel_rfl)) (fun _ _ _ h => h) (Or.inl ⟨by rfl, ?_⟩) ?_ ?_
                 rotate_left; · (intro w'; go_simp; with_reducible rfl)
                 rotate_left; · (simp only [Act.put, List.setIfInBounds_toArray, List.set_cons_zero, List.set_cons_succ, i64_w, i32_w]; rfl)
                 refine pure_ (i := 8) (N := some 101) (v := ?_) (a' := ?_) #[true, true, true, true, false, false, false, true, true, false, false, false, false, false, false, false] rfl rfl (any_of HT_.out (by kernel_rfl)) (fun _ _ _ h => h) (Or.inl ⟨by rfl, ?_⟩) ?_ ?_
                 rotate_left; · (intro w'; go_simp; with_reducible rfl)
                 rotate_left; · (simp only [Act.put, List.setIfInBounds_toArray, List.set_cons_zero, List.set_cons_succ, i64_w, i32_w]; rfl)
                 refine pure_ (i := 9) (N := some 102) (v := ?_) (a' := ?_) #[true, true, true, true, false, false, false, true, true, true, false, false, false, false, false, false] rfl rfl (any_of HT_.out (by kernel_rfl)) (fun _ _ _ h => h) (Or.inl ⟨by rfl, ?_⟩) ?_ ?_
                 rotate_left; · (intro w'; go_simp; with_reducible rfl)
                 rotate_left; · (simp only [Act.put, List.setIfInBounds_toArray, List.set_cons_zero, List.set_cons_succ, i64_w, i32_w]; rfl)
                 refine pure_ (i := 10) (N := some 103) (v := ?_) (a' := ?_) #[true, true, true, true, false, false, false, true, true, true, true, false, false, false, false, false] rfl rfl (any_of HT_.out (by kernel_rfl)) (fun _ _ _ h => h) (Or.inl ⟨by rfl, ?_⟩) ?_ ?_
                 rotate_left; · (intro w'; go_simp; with_reducible rfl)
                 rotate_left; · (simp only [Act.put, List.setIfInBounds_toArray, List.set_cons_zero, List.set_cons_succ, i64_w, i32_w]; rfl)
                 refine take_ (i := 4) (N := some 97) (v := ?_) (a' := ?_) #[true, true, true, true, true, false, false, true, true, true, true, false, false, false, false, false] rfl rfl (take_ofW HT_.out HW_.out (by kernel_rfl)) (fun _ _ _ h => h) (Or.inl ⟨by rfl, ?_⟩) hHeld ?_ ?_
                 rotate_left
                 ·
                  rintro w' ⟨s0, s1⟩
                  go_simp
                  with_reducible rfl
                 rotate_left
                 ·
                  simp only [Act.put, List.setIfInBounds_toArray, List.set_cons_zero, List.set_cons_succ, i64_w, i32_w]
                  rfl
                 refine pure_ (i := 5) (N := some 98) (v := ?_) (a' := ?_) #[true, true, true, true, true, true, false, true, true, true, true, false, false, false, false, false] rfl rfl (any_of HT_.out (by kernel_rfl)) (fun _ _ _ h => h) (Or.inl ⟨by rfl, ?_⟩) ?_ ?_
                 rotate_left; · (intro w'; go_simp; with_reducible rfl)
                 rotate_left; · (simp only [Act.put, List.setIfInBounds_toArray, List.set_cons_zero, List.set_cons_succ, i64_w, i32_w]; rfl)
                 refine pure_ (i := 6) (N := some 99) (v := ?_) (a' := ?_) #[true, true, true, true, true, true, true, true, true, true, true, false, false, false, false, false] rfl rfl (any_of HT_.out (by kernel_rfl)) (fun _ _ _ h => h) (Or.inl ⟨by rfl, ?_⟩) ?_ ?_
                 rotate_left; · (intro w'; go_simp; with_reducible rfl)
                 rotate_left; · (simp only [Act.put, List.setIfInBounds_toArray, List.set_cons_zero, List.set_cons_succ, i64_w, i32_w]; rfl)
                 refine pure_ (i := 14) (N := some 12) (v := ?_) (a' := ?_) #[true, true, true, true, true, true, true, true, true, true, true, false, false, false, true, false] rfl rfl (any_of HT_.out (by kernel_rfl)) (fun _ _ _ h => h) (Or.inl ⟨by rfl, ?_⟩) ?_ ?_
                 rotate_left; · (intro w'; go_simp; with_reducible rfl)
                 rotate_left; · (simp only [Act.put, List.setIfInBounds_toArray, List.set_cons_zero, List.set_cons_succ, i64_w, i32_w]; rfl)
                 refine take_ (i := 11) (N := some 104) (v := ?_) (a' := ?_) #[true, true, true, true, true, true, true, true, true, true, true, true, false, false, true, false] rfl rfl (take_ofW HT_.out HW_.out (by kernel_rfl)) (fun _ _ _ h => h) (Or.inl ⟨by rfl, ?_⟩) hHeld ?_ ?_
                 rotate_left
                 ·
                  rintro w' ⟨s0, s1⟩
                  go_simp
                  with_reducible rfl
                 rotate_left
                 ·
                  simp only [Act.put, List.setIfInBounds_toArray, List.set_cons_zero, List.set_cons_succ, i64_w, i32_w]
                  rfl
                 refine pure_ (i := 12) (N := some 105) (v := ?_) (a' := ?_) #[true, true, true, true, true, true, true, true, true, true, true, true, true, false, true, false] rfl rfl (any_of HT_.out (by kernel_rfl)) (fun _ _ _ h => h) (Or.inl ⟨by rfl, ?_⟩) ?_ ?_
                 rotate_left; · (intro w'; go_simp; with_reducible rfl)
                 rotate_left; · (simp only [Act.put, List.setIfInBounds_toArray, List.set_cons_zero, List.set_cons_succ, i64_w, i32_w]; rfl)
                 refine pure_ (i := 13) (N := some 106) (v := ?_) (a' := ?_) #[true, true, true, true, true, true, true, true, true, true, true, true, true, true, true, false] rfl rfl (any_of HT_.out (by kernel_rfl)) (fun _ _ _ h => h) (Or.inl ⟨by rfl, ?_⟩) ?_ ?_
                 rotate_left; · (intro w'; go_simp; with_reducible rfl)
                 rotate_left; · (simp only [Act.put, List.setIfInBounds_toArray, List.set_cons_zero, List.set_cons_succ, i64_w, i32_w]; rfl)
                 refine pure_ (i := 15) (N := some 13) (v := ?_) (a' := ?_) #[true, true, true, true, true, true, true, true, true, true, true, true, true, true, true, true] rfl rfl (any_of HT_.out (by kernel_rfl)) (fun _ _ _ h => h) (Or.inl ⟨by rfl, ?_⟩) ?_ ?_
                 rotate_left; · (intro w'; go_simp; with_reducible rfl)
                 rotate_left; · (simp only [Act.put, List.setIfInBounds_toArray, List.set_cons_zero, List.set_cons_succ, i64_w, i32_w]; rfl)
                 refine done_ (done_of HT_.out (by kernel_rfl)) ?_
                 try go_wp2
                 go_roundg k3
                 case measure => have := HJ8.out; have := HK2.out; have := HK3.out; omega
                 case rel => exact ⟨((t364 == t346)), ((t364 == t347)), (wrap64 (x15_3 + 1)), (by first | rfl | (simp; done) | (simp [*]; done)), (by first | rfl | (simp; done) | (simp [*]; done)), (by first | rfl | (simp; done) | (simp [*]; done)), H', ⟨by have := HJ8.out; have := HK2.out; have := HK3.out; omega⟩, ⟨by (with_reducible repeat (first | apply Kd.R_alloc | apply Kd.R_drewN | apply Kd.R_drew)); exact HO_10.out⟩, ⟨by (with_reducible repeat (first | apply Kd.R_alloc | apply Kd.R_drewN | apply Kd.R_drew)); exact HO_11.out⟩, ⟨by (with_reducible repeat (first | refine blk_drewN ?_ _ | refine blk_drew ?_ | refine blk_alloc ?_ _)); exact BK336.out⟩, ⟨by (with_reducible repeat (first | refine blk_drewN ?_ _ | refine blk_drew ?_ | refine blk_alloc ?_ _)); exact BK337.out⟩, ⟨by (with_reducible repeat (first | refine blk_drewN ?_ _ | refine blk_drew ?_ | refine blk_alloc ?_ _)); exact BK349.out⟩, ⟨by repeat (first | (with_reducible first | exact HB.out | apply below_alloc | apply pw_below_drewN | apply below_drew1 | refine below_set ?_ GE336.out | refine below_set ?_ GE337.out | refine below_set ?_ GE349.out) | exact HB.out)⟩⟩
              ·
               replace c62 := Bool.eq_false_iff.mpr c62
               subst c62
               rw [if_neg (show ¬ (false = true) by decide)] at H
               have H' := Aside0.mk H
               clear H
               obtain ⟨Ao86, co86, eo86⟩ := Kd.R_slice HO_11.out
               subst eo86
               try go_wp2
               replace HO_10 := Aside0.mk (Kd.R_drew HO_10.out); replace HO_11 := Aside0.mk (Kd.R_drew HO_11.out); replace BK336 := Aside0.mk (blk_drew BK336.out); replace BK337 := Aside0.mk (blk_drew BK337.out); replace BK349 := Aside0.mk (blk_drew BK349.out); replace HB := Aside0.mk (below_drew1 HB.out)
               have p362 : 0 ≤ (x14_2 : Int) := of_decide_eq_true (by first | (with_reducible assumption) | assumption)
               have q362 : x14_2 < (y356.length : Int) := of_decide_eq_true (by first | (with_reducible assumption) | assumption)
               obtain ⟨ad362, e362, hx362_0⟩ := Kd.at_int (Kd.R_reads' HO_10.out).2.2 x14_2 p362 q362
               cases e362
               replace p362 := eq_true p362
               replace q362 := eq_true q362
               have p363 : 0 ≤ (x15_3 : Int) := of_decide_eq_true (by first | (with_reducible assumption) | assumption)
               have q363 : x15_3 < (y359.length : Int) := of_decide_eq_true (by first | (with_reducible assumption) | assumption)
               obtain ⟨ad363, e363, hx363_0⟩ := Kd.at_int (Kd.R_reads' HO_11.out).2.2 x15_3 p363 q363
               cases e363
               replace p363 := eq_true p363
               replace q363 := eq_true q363
               refine start_ (n := 15) (S := fun w' => w'.cell? (ad362.add (x14_2).toNat) = some (.int .i64 (rd y356 x14_2)) ∧ w'.cell? (ad363.add (x15_3).toNat) = some (.int .i64 (rd y359 x15_3))) (ds := []) #[false, false, false, false, false, false, false, false, false, false, false, false, false, false, false] (by kernel_rfl) rfl rfl ⟨hx362_0, hx363_0⟩ (fun hHeld => ?_); refine with_tabW avermentlaw10_SpanEnds.tab15 avermentlaw10_SpanEnds.bits15 (fun HT_ HW_ => ?_)
               generalize wr.drew = w87 at HO_10 HO_11 BK336 BK337 BK349 HB hx362_0 hx363_0 hHeld ⊢
               refine pure_ (i := 0) (N := some 72) (v := ?_) (a' := ?_) #[true, false, false, false, false, false, false, false, false, false, false, false, false, false, false] rfl rfl (any_of HT_.out (by kernel_rfl)) (fun _ _ _ h => h) (Or.inl ⟨by rfl, ?_⟩) ?_ ?_
               rotate_left; · (intro w'; go_simp; with_reducible rfl)
               rotate_left; · (simp only [Act.put, List.setIfInBounds_toArray, List.set_cons_zero, List.set_cons_succ, i64_w, i32_w]; rfl)
               refine pure_ (i := 1) (N := some 73) (v := ?_) (a' := ?_) #[true, true, false, false, false, false, false, false, false, false, false, false, false, false, false] rfl rfl (any_of HT_.out (by kernel_rfl)) (fun _ _ _ h => h) (Or.inl ⟨by rfl, ?_⟩) ?_ ?_
               rotate_left; · (intro w'; go_simp; with_reducible rfl)
               rotate_left; · (simp only [Act.put, List.setIfInBounds_toArray, List.set_cons_zero, List.set_cons_succ, i64_w, i32_w]; rfl)
               refine pure_ (i := 2) (N := some 74) (v := ?_) (a' := ?_) #[true, true, true, false, false, false, false, false, false, false, false, false, false, false, false] rfl rfl (any_of HT_.out (by kernel_rfl)) (fun _ _ _ h => h) (Or.inl ⟨by rfl, ?_⟩) ?_ ?_
               rotate_left; · (intro w'; go_simp; with_reducible rfl)
               rotate_left; · (simp only [Act.put, List.setIfInBounds_toArray, List.set_cons_zero, List.set_cons_succ, i64_w, i32_w]; rfl)
               refine pure_ (i := 3) (N := some 75) (v := ?_) (a' := ?_) #[true, true, true, true, false, false, false, false, false, false, false, false, false, false, false] rfl rfl (any_of HT_.out (by kernel_rfl)) (fun _ _ _ h => h) (Or.inl ⟨by rfl, ?_⟩) ?_ ?_
               rotate_left; · (intro w'; go_simp; with_reducible rfl)
               rotate_left; · (simp only [Act.put, List.setIfInBounds_toArray, List.set_cons_zero, List.set_cons_succ, i64_w, i32_w]; rfl)
               refine pure_ (i := 5) (N := some 77) (v := ?_) (a' := ?_) #[true, true, true, true, false, true, false, false, false, false, false, false, false, false, false] rfl rfl (any_of HT_.out (by kernel_rfl)) (fun _ _ _ h => h) (Or.inl ⟨by rfl, ?_⟩) ?_ ?_
               rotate_left; · (intro w'; go_simp; with_reducible rfl)
               rotate_left; · (simp only [Act.put, List.setIfInBounds_toArray, List.set_cons_zero, List.set_cons_succ, i64_w, i32_w]; rfl)
               refine pure_ (i := 6) (N := some 78) (v := ?_) (a' := ?_) #[true, true, true, true, false, true, true, false, false, false, false, false, false, false, false] rfl rfl (any_of HT_.out (by kernel_rfl)) (fun _ _ _ h => h) (Or.inl ⟨by rfl, ?_⟩) ?_ ?_
               rotate_left; · (intro w'; go_simp; with_reducible rfl)
               rotate_left; · (simp only [Act.put, List.setIfInBounds_toArray, List.set_cons_zero, List.set_cons_succ, i64_w, i32_w]; rfl)
               refine pure_ (i := 7) (N := some 79) (v := ?_) (a' := ?_) #[true, true, true, true, false, true, true, true, false, false, false, false, false, false, false] rfl rfl (any_of HT_.out (by kernel_rfl)) (fun _ _ _ h => h) (Or.inl ⟨by rfl, ?_⟩) ?_ ?_
               rotate_left; · (intro w'; go_simp; with_reducible rfl)
               rotate_left; · (simp only [Act.put, List.setIfInBounds_toArray, List.set_cons_zero, List.set_cons_succ, i64_w, i32_w]; rfl)
               refine take_ (i := 4) (N := some 76) (v := ?_) (a' := ?_) #[true, true, true, true, true, true, true, true, false, false, false, false, false, false, false] rfl rfl (take_ofW HT_.out HW_.out (by kernel_rfl)) (fun _ _ _ h => h) (Or.inl ⟨by rfl, ?_⟩) hHeld ?_ ?_
               rotate_left
               ·
                rintro w' ⟨s0, s1⟩
                go_simp
                with_reducible rfl
               rotate_left
               ·
                simp only [Act.put, List.setIfInBounds_toArray, List.set_cons_zero, List.set_cons_succ, i64_w, i32_w]
                rfl
               refine take_ (i := 8) (N := some 80) (v := ?_) (a' := ?_) #[true, true, true, true, true, true, true, true, true, false, false, false, false, false, false] rfl rfl (take_ofW HT_.out HW_.out (by kernel_rfl)) (fun _ _ _ h => h) (Or.inl ⟨by rfl, ?_⟩) hHeld ?_ ?_
               rotate_left
               ·
                rintro w' ⟨s0, s1⟩
                go_simp
                with_reducible rfl
               rotate_left
               ·
                simp only [Act.put, List.setIfInBounds_toArray, List.set_cons_zero, List.set_cons_succ, i64_w, i32_w]
                rfl
               refine one_ (i := 9) (N := some 81) #[true, true, true, true, true, true, true, true, true, true, false, false, false, false, false] rfl rfl (one_of HT_.out (by kernel_rfl)) (by decide) (fun K hK => ?_)
               refine goes_ Try.func34 (by kernel_rfl) rfl #[.int .i64 (wrap64 (4 + (wrap64 (Int.tmod (IntKind.u64.wrap (a0)) 4)))), .int .i64 (rd y356 x14_2), .int .i64 (rd y359 x15_3)] (by rfl) rfl rfl (mapq rfl) ?_
               with_reducible refine (avermentref07_Arith.calls (wrap64 (4 + (wrap64 (Int.tmod (IntKind.u64.wrap (a0)) 4)))) (rd y356 x14_2) (rd y359 x15_3) t364 true _ A59.out).mono ?_
               rintro e w' ⟨rfl, ⟨nd, rfl⟩⟩
               refine ⟨_, rfl, ?_⟩
               refine hK.out _ _ ⟨hHeld.1, hHeld.2⟩ (fun hHeld => ?_)
               clear hK K
               refine norm_ (a' := ?_) ?_ ?_
               rotate_left; · (show Act.put _ (some 81) _ = _; simp only [Act.put, List.setIfInBounds_toArray, List.set_cons_zero, List.set_cons_succ, i64_w, i32_w]; rfl)
               refine pure_ (i := 10) (N := some 71) (v := ?_) (a' := ?_) #[true, true, true, true, true, true, true, true, true, true, true, false, false, false, false] rfl rfl (any_of HT_.out (by kernel_rfl)) (fun _ _ _ h => h) (Or.inl ⟨by rfl, ?_⟩) ?_ ?_
               rotate_left; · (intro w'; go_simp; with_reducible rfl)
               rotate_left; · (simp only [Act.put, List.setIfInBounds_toArray, List.set_cons_zero, List.set_cons_succ, i64_w, i32_w]; rfl)
               refine pure_ (i := 11) (N := some 82) (v := ?_) (a' := ?_) #[true, true, true, true, true, true, true, true, true, true, true, true, false, false, false] rfl rfl (any_of HT_.out (by kernel_rfl)) (fun _ _ _ h => h) (Or.inl ⟨by rfl, ?_⟩) ?_ ?_
               rotate_left; · (intro w'; go_simp; with_reducible rfl)
               rotate_left; · (simp only [Act.put, List.setIfInBounds_toArray, List.set_cons_zero, List.set_cons_succ, i64_w, i32_w]; rfl)
               refine pure_ (i := 12) (N := some 83) (v := ?_) (a' := ?_) #[true, true, true, true, true, true, true, true, true, true, true, true, true, false, false] rfl rfl (any_of HT_.out (by kernel_rfl)) (fun _ _ _ h => h) (Or.inl ⟨by rfl, ?_⟩) ?_ ?_
               rotate_left; · (intro w'; go_simp; with_reducible rfl)
               rotate_left; · (simp only [Act.put, List.setIfInBounds_toArray, List.set_cons_zero, List.set_cons_succ, i64_w, i32_w]; rfl)
               refine pure_ (i := 13) (N := some 16) (v := ?_) (a' := ?_) #[true, true, true, true, true, true, true, true, true, true, true, true, true, true, false] rfl rfl (any_of HT_.out (by kernel_rfl)) (fun _ _ _ h => h) (Or.inl ⟨by rfl, ?_⟩) ?_ ?_
               rotate_left; · (intro w'; go_simp; with_reducible rfl)
               rotate_left; · (simp only [Act.put, List.setIfInBounds_toArray, List.set_cons_zero, List.set_cons_succ, i64_w, i32_w]; rfl)
               refine pure_ (i := 14) (N := some 17) (v := ?_) (a' := ?_) #[true, true, true, true, true, true, true, true, true, true, true, true, true, true, true] rfl rfl (any_of HT_.out (by kernel_rfl)) (fun _ _ _ h => h) (Or.inl ⟨by rfl, ?_⟩) ?_ ?_
               rotate_left; · (intro w'; go_simp; with_reducible rfl)
               rotate_left; · (simp only [Act.put, List.setIfInBounds_toArray, List.set_cons_zero, List.set_cons_succ, i64_w, i32_w]; rfl)
               refine done_ (done_of HT_.out (by kernel_rfl)) ?_
               try go_wp2
               (try (rw [drewN_self w87]; generalize hq_ : World.drewN w87 _ = w87; have n0_ : Aside0 (Kd.R (Kd.int .i64) 2 w87 w.heap.size (fun k_ => some k_ ≠ (.slice (some ad363) y359.length co86 : Value).ownBlock) (.slice (some ad362) y356.length co54) y356) := ⟨by rw [← hq_]; exact (by (with_reducible repeat (first | apply Kd.R_alloc | apply Kd.R_drewN | apply Kd.R_drew)); exact HO_10.out)⟩; have n1_ : Aside0 (Kd.R (Kd.int .i64) 2 w87 w.heap.size (fun k_ => some k_ ≠ (.slice (some ad362) y356.length co54 : Value).ownBlock) (.slice (some ad363) y359.length co86) y359) := ⟨by rw [← hq_]; exact (by (with_reducible repeat (first | apply Kd.R_alloc | apply Kd.R_drewN | apply Kd.R_drew)); exact HO_11.out)⟩; have n2_ : Aside0 (w87.heap[gb336]? = some (.cells #[.int .i64 t338, .int .i64 t339] 56 (0, 0))) := ⟨by rw [← hq_]; exact BK336.out⟩; have n3_ : Aside0 (w87.heap[gb337]? = some (.cells #[.int .i64 t340, .int .i64 t341] 56 (0, 0))) := ⟨by rw [← hq_]; exact BK337.out⟩; have n4_ : Aside0 (w87.heap[gb349]? = some (.cells #[.int .i64 t346, .int .i64 t347] 59 (0, 0))) := ⟨by rw [← hq_]; exact BK349.out⟩; have n5_ : Aside0 (Below w.heap.size w w87) := ⟨by rw [← hq_]; exact (by repeat (first | (with_reducible first | exact HB.out | apply below_alloc | apply pw_below_drewN | apply below_drew1 | refine below_set ?_ GE336.out | refine below_set ?_ GE337.out | refine below_set ?_ GE349.out) | exact HB.out))⟩; clear HO_10 HO_11 BK336 BK337 BK349 HB hq_; have HO_10 := n0_; have HO_11 := n1_; have BK336 := n2_; have BK337 := n3_; have BK349 := n4_; have HB := n5_; clear n0_ n1_ n2_ n3_ n4_ n5_))
               replace HO_10 := Aside0.mk (Kd.R_drew HO_10.out); replace HO_11 := Aside0.mk (Kd.R_drew HO_11.out); replace BK336 := Aside0.mk (blk_drew BK336.out); replace BK337 := Aside0.mk (blk_drew BK337.out); replace BK349 := Aside0.mk (blk_drew BK349.out); replace HB := Aside0.mk (below_drew1 HB.out)
               have p366 : 0 ≤ (x15_3 : Int) := of_decide_eq_true (by first | (with_reducible assumption) | assumption)
               have q366 : x15_3 < (y359.length : Int) := of_decide_eq_true (by first | (with_reducible assumption) | assumption)
               obtain ⟨ad366, e366, hx366_0⟩ := Kd.at_int (Kd.R_reads' HO_11.out).2.2 x15_3 p366 q366
               obtain rfl : ad363 = ad366 := (by injection e366)
               replace p366 := eq_true p366
               replace q366 := eq_true q366
               refine start_ (n := 9) (S := fun w' => w'.cell? ⟨gb337, 0, none⟩ = some (.int .i64 t340) ∧ w'.cell? ⟨gb337, 1, none⟩ = some (.int .i64 t341) ∧ w'.cell? (ad363.add (x15_3).toNat) = some (.int .i64 (rd y359 x15_3))) (ds := []) #[false, false, false, false, false, false, false, false, false] (by kernel_rfl) rfl rfl ⟨bc BK337 0 rfl, bc BK337 1 rfl, hx366_0⟩ (fun hHeld => ?_); refine with_tabW avermentlaw10_SpanEnds.tab16 avermentlaw10_SpanEnds.bits16 (fun HT_ HW_ => ?_)
               generalize w87.drew = w88 at HO_10 HO_11 BK336 BK337 BK349 HB hx366_0 hHeld ⊢
               refine pure_ (i := 0) (N := some 84) (v := ?_) (a' := ?_) #[true, false, false, false, false, false, false, false, false] rfl rfl (any_of HT_.out (by kernel_rfl)) (fun _ _ _ h => h) (Or.inl ⟨by rfl, ?_⟩) ?_ ?_
               rotate_left; · (intro w'; go_simp; with_reducible rfl)
               rotate_left; · (simp only [Act.put, List.setIfInBounds_toArray, List.set_cons_zero, List.set_cons_succ, i64_w, i32_w]; rfl)
               refine pure_ (i := 1) (N := some 85) (v := ?_) (a' := ?_) #[true, true, false, false, false, false, false, false, false] rfl rfl (any_of HT_.out (by kernel_rfl)) (fun _ _ _ h => h) (Or.inl ⟨by rfl, ?_⟩) ?_ ?_
               rotate_left; · (intro w'; go_simp; with_reducible rfl)
               rotate_left; · (simp only [Act.put, List.setIfInBounds_toArray, List.set_cons_zero, List.set_cons_succ, i64_w, i32_w]; rfl)
               refine pure_ (i := 3) (N := some 87) (v := ?_) (a' := ?_) #[true, true, false, true, false, false, false, false, false] rfl rfl (any_of HT_.out (by kernel_rfl)) (fun _ _ _ h => h) (Or.inl ⟨by rfl, ?_⟩) ?_ ?_
               rotate_left; · (intro w'; go_simp; with_reducible rfl)
               rotate_left; · (simp only [Act.put, List.setIfInBounds_toArray, List.set_cons_zero, List.set_cons_succ, i64_w, i32_w]; rfl)
               refine pure_ (i := 4) (N := some 88) (v := ?_) (a' := ?_) #[true, true, false, true, true, false, false, false, false] rfl rfl (any_of HT_.out (by kernel_rfl)) (fun _ _ _ h => h) (Or.inl ⟨by rfl, ?_⟩) ?_ ?_
               rotate_left; · (intro w'; go_simp; with_reducible rfl)
               rotate_left; · (simp only [Act.put, List.setIfInBounds_toArray, List.set_cons_zero, List.set_cons_succ, i64_w, i32_w]; rfl)
               refine pure_ (i := 5) (N := some 89) (v := ?_) (a' := ?_) #[true, true, false, true, true, true, false, false, false] rfl rfl (any_of HT_.out (by kernel_rfl)) (fun _ _ _ h => h) (Or.inl ⟨by rfl, ?_⟩) ?_ ?_
               rotate_left; · (intro w'; go_simp; with_reducible rfl)
               rotate_left; · (simp only [Act.put, List.setIfInBounds_toArray, List.set_cons_zero, List.set_cons_succ, i64_w, i32_w]; rfl)
               refine take_ (i := 2) (N := some 86) (v := ?_) (a' := ?_) #[true, true, true, true, true, true, false, false, false] rfl rfl (take_ofW HT_.out HW_.out (by kernel_rfl)) (fun _ _ _ h => h) (Or.inl ⟨by rfl, ?_⟩) hHeld ?_ ?_
               rotate_left
               ·
                rintro w' ⟨s0, s1, s2⟩
                go_simp
                with_reducible rfl
               rotate_left
               ·
                simp only [Act.put, List.setIfInBounds_toArray, List.set_cons_zero, List.set_cons_succ, i64_w, i32_w]
                rfl
               refine take_ (i := 6) (N := some 90) (v := ?_) (a' := ?_) #[true, true, true, true, true, true, true, false, false] rfl rfl (take_ofW HT_.out HW_.out (by kernel_rfl)) (fun _ _ _ h => h) (Or.inl ⟨by rfl, ?_⟩) hHeld ?_ ?_
               rotate_left
               ·
                rintro w' ⟨s0, s1, s2⟩
                go_simp
                with_reducible rfl
               rotate_left
               ·
                simp only [Act.put, List.setIfInBounds_toArray, List.set_cons_zero, List.set_cons_succ, i64_w, i32_w]
                rfl
               refine one_ (i := 7) (N := some 91) #[true, true, true, true, true, true, true, true, false] rfl rfl (one_of HT_.out (by kernel_rfl)) (by decide) (fun K hK => ?_)
               refine goes_ Try.func41 (by kernel_rfl) rfl #[.agg #[.int .i64 t340, .int .i64 t341], .int .i64 (rd y359 x15_3)] (by rfl) rfl rfl (mapq rfl) ?_
               with_reducible refine (avermentref10_Has.calls t340 t341 (rd y359 x15_3) false _ A61.out).mono ?_
               rintro e w89 ⟨rfl, hb⟩
               have HS2_ := (hb.cell (World.block_lt_of_cell? _ _ (hHeld.2.2))).trans (hHeld.2.2)
               refine ⟨_, rfl, ?_⟩
               replace HO_10 := Aside0.mk (Kd.R_below (by (with_reducible repeat (first | apply Kd.R_alloc | apply Kd.R_drewN | apply Kd.R_drew)); exact HO_10.out) hb); replace HO_11 := Aside0.mk (Kd.R_below (by (with_reducible repeat (first | apply Kd.R_alloc | apply Kd.R_drewN | apply Kd.R_drew)); exact HO_11.out) hb); replace BK336 := bb BK336 hb rfl; replace BK337 := bb BK337 hb rfl; replace BK349 := bb BK349 hb rfl; replace HB := hst HB hb rfl
               (try clear hb)
               refine hK.out _ _ ⟨bc BK337 0 rfl, bc BK337 1 rfl, HS2_⟩ (fun hHeld => ?_)
               clear hK K
               refine norm_ (a' := ?_) ?_ ?_
               rotate_left; · (show Act.put _ (some 91) _ = _; simp only [Act.put, List.setIfInBounds_toArray, List.set_cons_zero, List.set_cons_succ, i64_w, i32_w]; rfl)
               refine pure_ (i := 8) (N := some 92) (v := ?_) (a' := ?_) #[true, true, true, true, true, true, true, true, true] rfl rfl (any_of HT_.out (by kernel_rfl)) (fun _ _ _ h => h) (Or.inl ⟨by rfl, ?_⟩) ?_ ?_
               rotate_left; · (intro w'; go_simp; with_reducible rfl)
               rotate_left; · (simp only [Act.put, List.setIfInBounds_toArray, List.set_cons_zero, List.set_cons_succ, i64_w, i32_w]; rfl)
               refine done_ (done_of HT_.out (by kernel_rfl)) ?_
               try go_wp2
               go_roundg k3
               case measure => have := HJ8.out; have := HK2.out; have := HK3.out; omega
               case rel => exact ⟨(x12_3), (x13_3), (wrap64 (x15_3 + 1)), (by first | rfl | (simp; done) | (simp [*]; done)), (by first | rfl | (simp; done) | (simp [*]; done)), (by first | rfl | (simp; done) | (simp [*]; done)), H', ⟨by have := HJ8.out; have := HK2.out; have := HK3.out; omega⟩, ⟨by (with_reducible repeat (first | apply Kd.R_alloc | apply Kd.R_drewN | apply Kd.R_drew)); exact HO_10.out⟩, ⟨by (with_reducible repeat (first | apply Kd.R_alloc | apply Kd.R_drewN | apply Kd.R_drew)); exact HO_11.out⟩, ⟨by (with_reducible repeat (first | refine blk_drewN ?_ _ | refine blk_drew ?_ | refine blk_alloc ?_ _)); exact BK336.out⟩, ⟨by (with_reducible repeat (first | refine blk_drewN ?_ _ | refine blk_drew ?_ | refine blk_alloc ?_ _)); exact BK337.out⟩, ⟨by (with_reducible repeat (first | refine blk_drewN ?_ _ | refine blk_drew ?_ | refine blk_alloc ?_ _)); exact BK349.out⟩, ⟨by repeat (first | (with_reducible first | exact HB.out | apply below_alloc | apply pw_below_drewN | apply below_drew1 | refine below_set ?_ GE336.out | refine below_set ?_ GE337.out | refine below_set ?_ GE349.out) | exact HB.out)⟩⟩
             ·
              replace c60 := Bool.eq_false_iff.mpr c60
              subst c60
              rw [if_neg (show ¬ (false = true) by decide)] at H
              have H' := Aside0.mk H
              clear H
              obtain ⟨Ao90, co90, eo90⟩ := Kd.R_slice HO_11.out
              subst eo90
              try go_wp2
              replace HO_10 := Aside0.mk (Kd.R_drew HO_10.out); replace HO_11 := Aside0.mk (Kd.R_drew HO_11.out); replace BK336 := Aside0.mk (blk_drew BK336.out); replace BK337 := Aside0.mk (blk_drew BK337.out); replace BK349 := Aside0.mk (blk_drew BK349.out); replace HB := Aside0.mk (below_drew1 HB.out)
              have p362 : 0 ≤ (x14_2 : Int) := of_decide_eq_true (by first | (with_reducible assumption) | assumption)
              have q362 : x14_2 < (y356.length : Int) := of_decide_eq_true (by first | (with_reducible assumption) | assumption)
              obtain ⟨ad362, e362, hx362_0⟩ := Kd.at_int (Kd.R_reads' HO_10.out).2.2 x14_2 p362 q362
              cases e362
              replace p362 := eq_true p362
              replace q362 := eq_true q362
              have p363 : 0 ≤ (x15_3 : Int) := of_decide_eq_true (by first | (with_reducible assumption) | assumption)
              have q363 : x15_3 < (y359.length : Int) := of_decide_eq_true (by first | (with_reducible assumption) | assumption)
              obtain ⟨ad363, e363, hx363_0⟩ := Kd.at_int (Kd.R_reads' HO_11.out).2.2 x15_3 p363 q363
              cases e363
              replace p363 := eq_true p363
              replace q363 := eq_true q363
              refine start_ (n := 15) (S := fun w' => w'.cell? (ad362.add (x14_2).toNat) = some (.int .i64 (rd y356 x14_2)) ∧ w'.cell? (ad363.add (x15_3).toNat) = some (.int .i64 (rd y359 x15_3))) (ds := []) #[false, false, false, false, false, false, false, false, false, false, false, false, false, false, false] (by kernel_rfl) rfl rfl ⟨hx362_0, hx363_0⟩ (fun hHeld => ?_); refine with_tabW avermentlaw10_SpanEnds.tab15 avermentlaw10_SpanEnds.bits15 (fun HT_ HW_ => ?_)
              generalize wr.drew = w91 at HO_10 HO_11 BK336 BK337 BK349 HB hx362_0 hx363_0 hHeld ⊢
              refine pure_ (i := 0) (N := some 72) (v := ?_) (a' := ?_) #[true, false, false, false, false, false, false, false, false, false, false, false, false, false, false] rfl rfl (any_of HT_.out (by kernel_rfl)) (fun _ _ _ h => h) (Or.inl ⟨by rfl, ?_⟩) ?_ ?_
              rotate_left; · (intro w'; go_simp; with_reducible rfl)
              rotate_left; · (simp only [Act.put, List.setIfInBounds_toArray, List.set_cons_zero, List.set_cons_succ, i64_w, i32_w]; rfl)
              refine pure_ (i := 1) (N := some 73) (v := ?_) (a' := ?_) #[true, true, false, false, false, false, false, false, false, false, false, false, false, false, false] rfl rfl (any_of HT_.out (by kernel_rfl)) (fun _ _ _ h => h) (Or.inl ⟨by rfl, ?_⟩) ?_ ?_
              rotate_left; · (intro w'; go_simp; with_reducible rfl)
              rotate_left; · (simp only [Act.put, List.setIfInBounds_toArray, List.set_cons_zero, List.set_cons_succ, i64_w, i32_w]; rfl)
              refine pure_ (i := 2) (N := some 74) (v := ?_) (a' := ?_) #[true, true, true, false, false, false, false, false, false, false, false, false, false, false, false] rfl rfl (any_of HT_.out (by kernel_rfl)) (fun _ _ _ h => h) (Or.inl ⟨by rfl, ?_⟩) ?_ ?_
              rotate_left; · (intro w'; go_simp; with_reducible rfl)
              rotate_left; · (simp only [Act.put, List.setIfInBounds_toArray, List.set_cons_zero, List.set_cons_succ, i64_w, i32_w]; rfl)
              refine pure_ (i := 3) (N := some 75) (v := ?_) (a' := ?_) #[true, true, true, true, false, false, false, false, false, false, false, false, false, false, false] rfl rfl (any_of HT_.out (by kernel_rfl)) (fun _ _ _ h => h) (Or.inl ⟨by rfl, ?_⟩) ?_ ?_
              rotate_left; · (intro w'; go_simp; with_reducible rfl)
              rotate_left; · (simp only [Act.put, List.setIfInBounds_toArray, List.set_cons_zero, List.set_cons_succ, i64_w, i32_w]; rfl)
              refine pure_ (i := 5) (N := some 77) (v := ?_) (a' := ?_) #[true, true, true, true, false, true, false, false, false, false, false, false, false, false, false] rfl rfl (any_of HT_.out (by kernel_rfl)) (fun _ _ _ h => h) (Or.inl ⟨by rfl, ?_⟩) ?_ ?_
              rotate_left; · (intro w'; go_simp; with_reducible rfl)
              rotate_left; · (simp only [Act.put, List.setIfInBounds_toArray, List.set_cons_zero, List.set_cons_succ, i64_w, i32_w]; rfl)
              refine pure_ (i := 6) (N := some 78) (v := ?_) (a' := ?_) #[true, true, true, true, false, true, true, false, false, false, false, false, false, false, false] rfl rfl (any_of HT_.out (by kernel_rfl)) (fun _ _ _ h => h) (Or.inl ⟨by rfl, ?_⟩) ?_ ?_
              rotate_left; · (intro w'; go_simp; with_reducible rfl)
              rotate_left; · (simp only [Act.put, List.setIfInBounds_toArray, List.set_cons_zero, List.set_cons_succ, i64_w, i32_w]; rfl)
              refine pure_ (i := 7) (N := some 79) (v := ?_) (a' := ?_) #[true, true, true, true, false, true, true, true, false, false, false, false, false, false, false] rfl rfl (any_of HT_.out (by kernel_rfl)) (fun _ _ _ h => h) (Or.inl ⟨by rfl, ?_⟩) ?_ ?_
              rotate_left; · (intro w'; go_simp; with_reducible rfl)
              rotate_left; · (simp only [Act.put, List.setIfInBounds_toArray, List.set_cons_zero, List.set_cons_succ, i64_w, i32_w]; rfl)
              refine take_ (i := 4) (N := some 76) (v := ?_) (a' := ?_) #[true, true, true, true, true, true, true, true, false, false, false, false, false, false, false] rfl rfl (take_ofW HT_.out HW_.out (by kernel_rfl)) (fun _ _ _ h => h) (Or.inl ⟨by rfl, ?_⟩) hHeld ?_ ?_
              rotate_left
              ·
               rintro w' ⟨s0, s1⟩
               go_simp
               with_reducible rfl
              rotate_left
              ·
               simp only [Act.put, List.setIfInBounds_toArray, List.set_cons_zero, List.set_cons_succ, i64_w, i32_w]
               rfl
              refine take_ (i := 8) (N := some 80) (v := ?_) (a' := ?_) #[true, true, true, true, true, true, true, true, true, false, false, false, false, false, false] rfl rfl (take_ofW HT_.out HW_.out (by kernel_rfl)) (fun _ _ _ h => h) (Or.inl ⟨by rfl, ?_⟩) hHeld ?_ ?_
              rotate_left
              ·
               rintro w' ⟨s0, s1⟩
               go_simp
               with_reducible rfl
              rotate_left
              ·
               simp only [Act.put, List.setIfInBounds_toArray, List.set_cons_zero, List.set_cons_succ, i64_w, i32_w]
               rfl
              refine one_ (i := 9) (N := some 81) #[true, true, true, true, true, true, true, true, true, true, false, false, false, false, false] rfl rfl (one_of HT_.out (by kernel_rfl)) (by decide) (fun K hK => ?_)
              refine goes_ Try.func34 (by kernel_rfl) rfl #[.int .i64 (wrap64 (4 + (wrap64 (Int.tmod (IntKind.u64.wrap (a0)) 4)))), .int .i64 (rd y356 x14_2), .int .i64 (rd y359 x15_3)] (by rfl) rfl rfl (mapq rfl) ?_
              with_reducible refine (avermentref07_Arith.calls (wrap64 (4 + (wrap64 (Int.tmod (IntKind.u64.wrap (a0)) 4)))) (rd y356 x14_2) (rd y359 x15_3) t364 false _ A59.out).mono ?_
              rintro e w' ⟨rfl, ⟨nd, rfl⟩⟩
              refine ⟨_, rfl, ?_⟩
              refine hK.out _ _ ⟨hHeld.1, hHeld.2⟩ (fun hHeld => ?_)
              clear hK K
              refine norm_ (a' := ?_) ?_ ?_
              rotate_left; · (show Act.put _ (some 81) _ = _; simp only [Act.put, List.setIfInBounds_toArray, List.set_cons_zero, List.set_cons_succ, i64_w, i32_w]; rfl)
              refine pure_ (i := 10) (N := some 71) (v := ?_) (a' := ?_) #[true, true, true, true, true, true, true, true, true, true, true, false, false, false, false] rfl rfl (any_of HT_.out (by kernel_rfl)) (fun _ _ _ h => h) (Or.inl ⟨by rfl, ?_⟩) ?_ ?_
              rotate_left; · (intro w'; go_simp; with_reducible rfl)
              rotate_left; · (simp only [Act.put, List.setIfInBounds_toArray, List.set_cons_zero, List.set_cons_succ, i64_w, i32_w]; rfl)
              refine pure_ (i := 11) (N := some 82) (v := ?_) (a' := ?_) #[true, true, true, true, true, true, true, true, true, true, true, true, false, false, false] rfl rfl (any_of HT_.out (by kernel_rfl)) (fun _ _ _ h => h) (Or.inl ⟨by rfl, ?_⟩) ?_ ?_
              rotate_left; · (intro w'; go_simp; with_reducible rfl)
              rotate_left; · (simp only [Act.put, List.setIfInBounds_toArray, List.set_cons_zero, List.set_cons_succ, i64_w, i32_w]; rfl)
              refine pure_ (i := 12) (N := some 83) (v := ?_) (a' := ?_) #[true, true, true, true, true, true, true, true, true, true, true, true, true, false, false] rfl rfl (any_of HT_.out (by kernel_rfl)) (fun _ _ _ h => h) (Or.inl ⟨by rfl, ?_⟩) ?_ ?_
              rotate_left; · (intro w'; go_simp; with_reducible rfl)
              rotate_left; · (simp only [Act.put, List.setIfInBounds_toArray, List.set_cons_zero, List.set_cons_succ, i64_w, i32_w]; rfl)
              refine pure_ (i := 13) (N := some 16) (v := ?_) (a' := ?_) #[true, true, true, true, true, true, true, true, true, true, true, true, true, true, false] rfl rfl (any_of HT_.out (by kernel_rfl)) (fun _ _ _ h => h) (Or.inl ⟨by rfl, ?_⟩) ?_ ?_
              rotate_left; · (intro w'; go_simp; with_reducible rfl)
              rotate_left; · (simp only [Act.put, List.setIfInBounds_toArray, List.set_cons_zero, List.set_cons_succ, i64_w, i32_w]; rfl)
              refine pure_ (i := 14) (N := some 17) (v := ?_) (a' := ?_) #[true, true, true, true, true, true, true, true, true, true, true, true, true, true, true] rfl rfl (any_of HT_.out (by kernel_rfl)) (fun _ _ _ h => h) (Or.inl ⟨by rfl, ?_⟩) ?_ ?_
              rotate_left; · (intro w'; go_simp; with_reducible rfl)
              rotate_left; · (simp only [Act.put, List.setIfInBounds_toArray, List.set_cons_zero, List.set_cons_succ, i64_w, i32_w]; rfl)
              refine done_ (done_of HT_.out (by kernel_rfl)) ?_
              try go_wp2
              (try (rw [drewN_self w91]; generalize hq_ : World.drewN w91 _ = w91; have n0_ : Aside0 (Kd.R (Kd.int .i64) 2 w91 w.heap.size (fun k_ => some k_ ≠ (.slice (some ad363) y359.length co90 : Value).ownBlock) (.slice (some ad362) y356.length co54) y356) := ⟨by rw [← hq_]; exact (by (with_reducible repeat (first | apply Kd.R_alloc | apply Kd.R_drewN | apply Kd.R_drew)); exact HO_10.out)⟩; have n1_ : Aside0 (Kd.R (Kd.int .i64) 2 w91 w.heap.size (fun k_ => some k_ ≠ (.slice (some ad362) y356.length co54 : Value).ownBlock) (.slice (some ad363) y359.length co90) y359) := ⟨by rw [← hq_]; exact (by (with_reducible repeat (first | apply Kd.R_alloc | apply Kd.R_drewN | apply Kd.R_drew)); exact HO_11.out)⟩; have n2_ : Aside0 (w91.heap[gb336]? = some (.cells #[.int .i64 t338, .int .i64 t339] 56 (0, 0))) := ⟨by rw [← hq_]; exact BK336.out⟩; have n3_ : Aside0 (w91.heap[gb337]? = some (.cells #[.int .i64 t340, .int .i64 t341] 56 (0, 0))) := ⟨by rw [← hq_]; exact BK337.out⟩; have n4_ : Aside0 (w91.heap[gb349]? = some (.cells #[.int .i64 t346, .int .i64 t347] 59 (0, 0))) := ⟨by rw [← hq_]; exact BK349.out⟩; have n5_ : Aside0 (Below w.heap.size w w91) := ⟨by rw [← hq_]; exact (by repeat (first | (with_reducible first | exact HB.out | apply below_alloc | apply pw_below_drewN | apply below_drew1 | refine below_set ?_ GE336.out | refine below_set ?_ GE337.out | refine below_set ?_ GE349.out) | exact HB.out))⟩; clear HO_10 HO_11 BK336 BK337 BK349 HB hq_; have HO_10 := n0_; have HO_11 := n1_; have BK336 := n2_; have BK337 := n3_; have BK349 := n4_; have HB := n5_; clear n0_ n1_ n2_ n3_ n4_ n5_))
              replace HO_10 := Aside0.mk (Kd.R_drew HO_10.out); replace HO_11 := Aside0.mk (Kd.R_drew HO_11.out); replace BK336 := Aside0.mk (blk_drew BK336.out); replace BK337 := Aside0.mk (blk_drew BK337.out); replace BK349 := Aside0.mk (blk_drew BK349.out); replace HB := Aside0.mk (below_drew1 HB.out)
              refine start_ (n := 9) (S := fun w' => True) (ds := []) #[false, false, false, false, false, false, false, false, false] (by kernel_rfl) rfl rfl trivial (fun hHeld => ?_); refine with_tabW avermentlaw10_SpanEnds.tab16 avermentlaw10_SpanEnds.bits16 (fun HT_ HW_ => ?_)
              generalize w91.drew = w92 at HO_10 HO_11 BK336 BK337 BK349 HB hHeld ⊢
              refine pure_ (i := 0) (N := some 84) (v := ?_) (a' := ?_) #[true, false, false, false, false, false, false, false, false] rfl rfl (any_of HT_.out (by kernel_rfl)) (fun _ _ _ h => h) (Or.inl ⟨by rfl, ?_⟩) ?_ ?_
              rotate_left; · (intro w'; go_simp; with_reducible rfl)
              rotate_left; · (simp only [Act.put, List.setIfInBounds_toArray, List.set_cons_zero, List.set_cons_succ, i64_w, i32_w]; rfl)
              refine pure_ (i := 1) (N := some 85) (v := ?_) (a' := ?_) #[true, true, false, false, false, false, false, false, false] rfl rfl (any_of HT_.out (by kernel_rfl)) (fun _ _ _ h => h) (Or.inl ⟨by rfl, ?_⟩) ?_ ?_
              rotate_left; · (intro w'; go_simp; with_reducible rfl)
              rotate_left; · (simp only [Act.put, List.setIfInBounds_toArray, List.set_cons_zero, List.set_cons_succ, i64_w, i32_w]; rfl)
              refine pure_ (i := 2) (N := some 86) (v := undef) (a' := ?_) #[true, true, true, false, false, false, false, false, false] rfl rfl (any_of HT_.out (by kernel_rfl)) (fun _ _ _ h => h) (Or.inr ⟨by rfl, rfl⟩) ?_ ?_
              rotate_left
              ·
               simp only [Act.put, List.setIfInBounds_toArray, List.set_cons_zero, List.set_cons_succ, i64_w, i32_w]
               rfl
              refine pure_ (i := 3) (N := some 87) (v := undef) (a' := ?_) #[true, true, true, true, false, false, false, false, false] rfl rfl (any_of HT_.out (by kernel_rfl)) (fun _ _ _ h => h) (Or.inr ⟨by rfl, rfl⟩) ?_ ?_
              rotate_left
              ·
               simp only [Act.put, List.setIfInBounds_toArray, List.set_cons_zero, List.set_cons_succ, i64_w, i32_w]
               rfl
              refine pure_ (i := 4) (N := some 88) (v := undef) (a' := ?_) #[true, true, true, true, true, false, false, false, false] rfl rfl (any_of HT_.out (by kernel_rfl)) (fun _ _ _ h => h) (Or.inr ⟨by rfl, rfl⟩) ?_ ?_
              rotate_left
              ·
               simp only [Act.put, List.setIfInBounds_toArray, List.set_cons_zero, List.set_cons_succ, i64_w, i32_w]
               rfl
              refine pure_ (i := 5) (N := some 89) (v := undef) (a' := ?_) #[true, true, true, true, true, true, false, false, false] rfl rfl (any_of HT_.out (by kernel_rfl)) (fun _ _ _ h => h) (Or.inr ⟨by rfl, rfl⟩) ?_ ?_
              rotate_left
              ·
               simp only [Act.put, List.setIfInBounds_toArray, List.set_cons_zero, List.set_cons_succ, i64_w, i32_w]
               rfl
              refine pure_ (i := 6) (N := some 90) (v := undef) (a' := ?_) #[true, true, true, true, true, true, true, false, false] rfl rfl (any_of HT_.out (by kernel_rfl)) (fun _ _ _ h => h) (Or.inr ⟨by rfl, rfl⟩) ?_ ?_
              rotate_left
              ·
               simp only [Act.put, List.setIfInBounds_toArray, List.set_cons_zero, List.set_cons_succ, i64_w, i32_w]
               rfl
              refine pure_ (i := 7) (N := some 91) (v := undef) (a' := ?_) #[true, true, true, true, true, true, true, true, false] rfl rfl (any_of HT_.out (by kernel_rfl)) (fun _ _ _ h => h) (Or.inr ⟨by rfl, rfl⟩) ?_ ?_
              rotate_left
              ·
               simp only [Act.put, List.setIfInBounds_toArray, List.set_cons_zero, List.set_cons_succ, i64_w, i32_w]
               rfl
              refine pure_ (i := 8) (N := some 92) (v := ?_) (a' := ?_) #[true, true, true, true, true, true, true, true, true] rfl rfl (any_of HT_.out (by kernel_rfl)) (fun _ _ _ h => h) (Or.inl ⟨by rfl, ?_⟩) ?_ ?_
              rotate_left; · (intro w'; go_simp; with_reducible rfl)
              rotate_left; · (simp only [Act.put, List.setIfInBounds_toArray, List.set_cons_zero, List.set_cons_succ, i64_w, i32_w]; rfl)
              refine done_ (done_of HT_.out (by kernel_rfl)) ?_
              try go_wp2
              go_roundg k3
              case measure => have := HJ8.out; have := HK2.out; have := HK3.out; omega
              case rel => exact ⟨(x12_3), (x13_3), (wrap64 (x15_3 + 1)), (by first | rfl | (simp; done) | (simp [*]; done)), (by first | rfl | (simp; done) | (simp [*]; done)), (by first | rfl | (simp; done) | (simp [*]; done)), H', ⟨by have := HJ8.out; have := HK2.out; have := HK3.out; omega⟩, ⟨by (with_reducible repeat (first | apply Kd.R_alloc | apply Kd.R_drewN | apply Kd.R_drew)); exact HO_10.out⟩, ⟨by (with_reducible repeat (first | apply Kd.R_alloc | apply Kd.R_drewN | apply Kd.R_drew)); exact HO_11.out⟩, ⟨by (with_reducible repeat (first | refine blk_drewN ?_ _ | refine blk_drew ?_ | refine blk_alloc ?_ _)); exact BK336.out⟩, ⟨by (with_reducible repeat (first | refine blk_drewN ?_ _ | refine blk_drew ?_ | refine blk_alloc ?_ _)); exact BK337.out⟩, ⟨by (with_reducible repeat (first | refine blk_drewN ?_ _ | refine blk_drew ?_ | refine blk_alloc ?_ _)); exact BK349.out⟩, ⟨by repeat (first | (with_reducible first | exact HB.out | apply below_alloc | apply pw_below_drewN | apply below_drew1 | refine below_set ?_ GE336.out | refine below_set ?_ GE337.out | refine below_set ?_ GE349.out) | exact HB.out)⟩⟩
            ·
             rw [if_neg c58] at H
             exact absurd H (by simp)
           ·
            rw [if_neg c57] at H
            exact absurd H (by simp)
          ·
           rw [if_neg c56] at H
           exact absurd H (by simp)
         ·
          rw [if_neg c55] at H
          have c55b0 : decide (x15_3 < (y359.length : Int)) = false := decide_eq_false c55
          clear c55
          have H' := Aside0.mk H
          clear H
          obtain ⟨Ao93, co93, eo93⟩ := Kd.R_slice HO_11.out
          subst eo93
          go_wp2
          go_roundg k3
          case measure => have := HJ8.out; have := HK2.out; have := HK3.out; omega
          case rel => exact ⟨(x12_3), (x13_3), (wrap64 (x14_2 + 1)), (by first | rfl | (simp; done) | (simp [*]; done)), (by first | rfl | (simp; done) | (simp [*]; done)), (by first | rfl | (simp; done) | (simp [*]; done)), H', ⟨by have := HJ8.out; have := HK2.out; have := HK3.out; omega⟩, ⟨by (with_reducible repeat (first | apply Kd.R_alloc | apply Kd.R_drewN | apply Kd.R_drew)); exact HO_10.out⟩, ⟨by (with_reducible repeat (first | apply Kd.R_alloc | apply Kd.R_drewN | apply Kd.R_drew)); exact HO_11.out⟩, ⟨by (with_reducible repeat (first | refine blk_drewN ?_ _ | refine blk_drew ?_ | refine blk_alloc ?_ _)); exact BK336.out⟩, ⟨by (with_reducible repeat (first | refine blk_drewN ?_ _ | refine blk_drew ?_ | refine blk_alloc ?_ _)); exact BK337.out⟩, ⟨by (with_reducible repeat (first | refine blk_drewN ?_ _ | refine blk_drew ?_ | refine blk_alloc ?_ _)); exact BK349.out⟩, ⟨by repeat (first | (with_reducible first | exact HB.out | apply below_alloc | apply pw_below_drewN | apply below_drew1 | refine below_set ?_ GE336.out | refine below_set ?_ GE337.out | refine below_set ?_ GE349.out) | exact HB.out)⟩⟩
      ·
       rw [if_neg c53] at H
       have c53b0 : decide (x14_2 < (y356.length : Int)) = false := decide_eq_false c53
       clear c53
       by_cases c94 : x12_2 = true
       ·
        subst c94
        rw [if_pos rfl] at H
        obtain rfl := Option.some.inj H
        obtain ⟨Ao95, co95, eo95⟩ := Kd.R_slice HO_10.out
        subst eo95
        go_wp2
        go_ret
        exact ⟨by first | rfl | (simp [errW_none, errW_some] <;> rfl) | (simp [*, errW_none, errW_some] <;> rfl), by repeat (first | (with_reducible first | exact HB.out | apply below_alloc | apply pw_below_drewN | apply below_drew1 | refine below_set ?_ GE336.out | refine below_set ?_ GE337.out | refine below_set ?_ GE349.out) | exact HB.out)⟩
       ·
        replace c94 := Bool.eq_false_iff.mpr c94
        subst c94
        rw [if_neg (show ¬ (false = true) by decide)] at H
        exact absurd ((Option.some.inj H).trans hr_.out) (by decide)

end Go.Proofs.Ytpacmhhaabhdjaa.SP
